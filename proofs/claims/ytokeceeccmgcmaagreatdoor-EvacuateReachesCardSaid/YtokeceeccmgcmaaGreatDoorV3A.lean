import Derived.WalkKit
import Derived.Deep.Quiet
import Derived.Deep.LoopGhost
import Derived.Scope
set_option linter.unusedVariables false
set_option linter.unusedSimpArgs false
namespace Go.V3
abbrev AW := @Option.bind_some
abbrev A_ := @Option.some.injEq
abbrev AA := @if_pos
abbrev AE := @if_neg
theorem ab.{u} {c:Prop} {h:Decidable c} (q:c:=by omega) {α:Sort u} {t e:α}:ite c t e=t:=if_pos q
theorem af.{u} {c:Prop} {h:Decidable c} (q:¬c:=by omega) {α:Sort u} {t e:α}:ite c t e=e:=if_neg q
abbrev DG := @Prod.mk.injEq
abbrev FG := @List.mem_append
abbrev HM := @Int.toNat_natCast
abbrev O6 := @List.getElem?_eq_getElem
abbrev Q5 := @List.length_singleton
abbrev PQ := @List.length_append
abbrev GG := @List.mem_singleton
abbrev IF := @List.getElem?_eq_none
abbrev EG := @List.length_set
abbrev DQ := @not_not_intro
abbrev DH := @List.mem_map
abbrev FP := @List.append_nil
abbrev MU := @List.getElem?_cons_zero
abbrev I0 := @List.append_assoc
abbrev HO := @Option.some.inj
abbrev IZ := @Bool.and_eq_true
abbrev SI := @List.getElem?_append_right
abbrev GH := @List.mem_cons
abbrev EH := @Nat.le_refl
abbrev LD := @decide_eq_true_eq
abbrev KI := @List.all_eq_true
abbrev V4 := @List.getElem?_append_left
abbrev JR := @decide_eq_true
abbrev P5 := @decide_eq_true_iff
abbrev NU := @List.length_cons
abbrev PB := @List.nodup_append
abbrev IG := @Nat.lt_or_ge
abbrev JS := @List.map_cons
abbrev V5 := @List.length_replicate
abbrev SJ := @of_decide_eq_true
abbrev YB := @List.mem_cons_of_mem
abbrev W9 := @List.map_congr_left
abbrev rE := @Int.mul_le_mul_of_nonneg_right
abbrev P_ := @decide_eq_false
abbrev W_ := @Bool.false_eq_true
abbrev n9 := @List.getD_eq_getElem?_getD
abbrev SK := @List.length_nil
abbrev VD := @List.take_length
abbrev PC := @Nat.add_assoc
abbrev XA := @List.ext_getElem?
abbrev NV := @Nat.zero_add
abbrev bZ := @List.mem_of_getElem?
abbrev VE := @List.nodup_cons
abbrev V6 := @List.length_map
abbrev P6 := @Nat.add_zero
abbrev mH := @Array.getElem?_toList
abbrev dM := @List.getElem?_drop
abbrev dN := @List.pairwise_cons
abbrev b6 := @Bool.not_eq_true'
abbrev YC := @List.map_append
abbrev jK := @BitVec.toNat_ofInt
abbrev rF := @List.length_filter_le
abbrev Z1 := @List.mem_filter
abbrev AA4 := @List.getElem?_eq_some_iff
abbrev wM := @decide_eq_false_iff_not
abbrev AA5 := @Classical.byContradiction
abbrev n_ := @List.getElem?_take
abbrev jL := @decide_eq_decide
abbrev jM := @List.length_take
abbrev dO := @Option.map_some
abbrev HP := @if_true
abbrev AA6 := @List.getElem?_replicate
abbrev wN := @List.getElem?_toArray
abbrev XB := @List.map_map
abbrev AD7 := @List.getElem_append_right
abbrev jN := @Bool.eq_iff_iff
abbrev AJA := @List.eq_nil_iff_forall_not_mem
abbrev dP := @List.nodup_nil
abbrev dQ := @List.mem_range
abbrev AFP := @Array.getElem?_append_left
abbrev uZ := @BitVec.toNat_ofNat
abbrev AD8 := @List.getElem?_cons_succ
abbrev mI := @List.cons.injEq
abbrev u4 := @Int.emod_lt_of_pos
abbrev wP := @List.getElem_of_mem
abbrev AFQ := @List.pairwise_iff_getElem
abbrev wQ := @Int.toNat_of_nonneg
abbrev AD9 := @Int.le_ediv_iff_mul_le
abbrev AA7 := @List.mem_of_mem_take
abbrev AA8 := @List.mem_append_left
abbrev AA9 := @List.mem_iff_getElem
abbrev rG := @Nat.mod_eq_of_lt
abbrev rH := @List.getElem_map
abbrev oA := @Int.emod_nonneg
abbrev b7 := @Int.add_zero
abbrev AFR := @Option.bind_eq_some_iff
abbrev YT := @Int.le_refl
abbrev AAA := @List.length_pos_iff
abbrev AOM := @Int.mul_le_mul_of_nonneg_left
abbrev u5 := @List.filter_cons
abbrev wR := @List.getElem?_set
abbrev AJB := @List.drop_eq_getElem_cons
abbrev AFS := @Int.ediv_lt_iff_lt_mul
abbrev AAB := @List.filter_append
abbrev AFT := @List.take_append_drop
abbrev wU := @List.not_mem_nil
abbrev SL := @Nat.add_mul
abbrev tI := @List.contains_eq_mem
abbrev tJ := @List.mem_of_mem_drop
abbrev oB := @Nat.lt_of_lt_of_le
abbrev oC := @List.mem_cons_self
abbrev wV := @Array.getElem?_eq_none
abbrev wW := @BitVec.toNat_sub_of_le
abbrev dR := @List.nil_append
abbrev AB7 := @Decidable.byContradiction
abbrev KK := @if_false
abbrev lO := @Array.toList_map
abbrev KL := @congrArg
abbrev tK := @Array.getElem?_push
abbrev AFU := @Array.getElem?_setIfInBounds
abbrev AFV := @Int.mul_lt_mul_of_pos_right
abbrev bK := @List.sum_cons
abbrev wX := @Nat.mul_le_mul_right
abbrev wY := @List.pairwise_append
abbrev oD := @List.length_drop
abbrev oE := @Int.natCast_zero
abbrev tL := @Int.compare_eq_lt
abbrev tM := @Int.compare_eq_gt
abbrev AB8 := @BitVec.eq_of_toNat_eq
abbrev oF := @Bool.or_eq_true
abbrev bL := @Nat.sub_self
abbrev AB9 := @Int.mul_ediv_add_emod
abbrev AFW := @List.length_eq_zero_iff
abbrev AFX := @BitVec.eq_of_getLsbD_eq
abbrev wZ := @BitVec.toNat_udiv
abbrev XM := @beq_iff_eq
abbrev tN := @List.foldl_cons
abbrev ABA := @List.filter_sublist
abbrev AFY := @List.take_of_length_le
abbrev w8 := @List.cons_append
abbrev w9 := @List.mem_flatten
abbrev AFZ := @List.mem_iff_getElem?
abbrev ALJ := @List.mem_or_eq_of_mem_set
abbrev dS := @Int.add_mul
abbrev AG0 := @BitVec.ofInt_natCast
abbrev w_ := @Int.natCast_add
abbrev ABB := @BitVec.toNat_umod
abbrev ALK := @Option.isSome_iff_exists
abbrev ABC := @Function.comp_def
abbrev ALL := @List.set_eq_of_length_le
abbrev ABD := @List.getElem?_map
abbrev oG := @Nat.le_trans
abbrev AR1 := @Nat.and_two_pow_sub_one_eq_mod
abbrev oH := @Int.zero_mul
abbrev ALM := @Nat.exists_eq_add_of_le
abbrev ALN := @Int.eq_ofNat_of_zero_le
abbrev lP := @Int.one_mul
abbrev ALO := @List.pairwise_singleton
abbrev ABE := @BitVec.toNat_inj
abbrev ABF := @BitVec.toNat_add
abbrev ABG := @List.mem_flatMap
abbrev ABH := @List.flatMap_def
abbrev ABI := @List.getElem_mem
abbrev ABJ := @BitVec.toNat_and
abbrev dT := @Array.ext'
abbrev xA := @List.drop_zero
abbrev ALP := @List.getElem?_set_self
abbrev ALQ := @List.filter_eq_nil_iff
abbrev ALR := @List.contains_iff_mem
abbrev tO := @Int.mul_comm
abbrev tP := @Nat.mul_comm
abbrev AR2 := @Array.getElem?_append_right
abbrev oI := @Nat.zero_le
abbrev ABK := @Nat.two_pow_pos
abbrev oJ := @iff_of_true
abbrev ALS := @List.singleton_append
abbrev xB := @List.all_cons
abbrev AG1 := @List.flatMap_cons
abbrev AG2 := @List.length_range
abbrev AG3 := @List.filter_congr
abbrev AG4 := @Int.compare_eq_eq
abbrev AG5 := @List.pairwise_map
abbrev xC := @BitVec.le_def
abbrev AR3 := @List.nodup_iff_pairwise_ne
abbrev ALT := @Nat.pow_le_pow_right
abbrev ALU := @List.getElem?_set_ne
abbrev AR4 := @Nat.shiftRight_eq_div_pow
abbrev ABL := @List.drop_drop
abbrev ABM := @Int.mul_nonneg
abbrev AG6 := @Option.getD_some
abbrev tQ := @Nat.mul_one
abbrev ALV := @List.getElem?_range
abbrev ALW := @List.filter_eq_self
abbrev tR := @Prod.mk.inj
abbrev AR5 := @BitVec.toNat_ushiftRight
abbrev xD := @Int.zero_add
abbrev AR6 := @List.length_erase_of_mem
abbrev ALX := @List.mem_filterMap
abbrev ALY := @Nat.eq_zero_or_pos
abbrev ALZ := @Array.ext_getElem?
abbrev AM0 := @BitVec.getLsbD_and
abbrev AM1 := @List.set_cons_zero
abbrev AR7 := @Int.ediv_eq_zero_of_lt
abbrev AR8 := @List.length_pos_of_mem
abbrev AR9 := @List.getElem_singleton
abbrev AM2 := @Int.emod_eq_of_lt
abbrev AM3 := @List.take_add_one
abbrev ABN := @Nat.zero_mul
abbrev ABO := @List.map_nil
abbrev ARA := @List.set_append_right
abbrev ARB := @List.mem_append_right
abbrev ARC := @Array.mem_of_getElem?
abbrev AM4 := @Nat.div_eq_of_lt
abbrev ARD := @Array.toArray_toList
abbrev ARE := @List.range_eq_range'
abbrev AG7 := @Nat.mul_assoc
abbrev lQ := @true_and
abbrev AM5 := @Int.natCast_mul
abbrev AM6 := @Option.map_none
abbrev ARF := @List.take_set_of_le
abbrev ARG := @List.drop_set_of_lt
abbrev ARH := @List.flatten_append
abbrev ARI := @Function.comp_apply
abbrev AG8 := @Nat.sub_zero
abbrev AG9 := @Nat.add_comm
abbrev ARJ := @Array.getElem?_map
abbrev ARK := @Nat.eq_or_lt_of_le
abbrev AGA := @iff_of_false
abbrev ARL := @Bool.false_ne_true
abbrev AM7 := @List.take_zero
abbrev AM8 := @Nat.mul_le_mul
abbrev ABP := @Nat.mod_lt
abbrev AM9 := @Bool.false_or
abbrev tS := @or_false
open Go
structure A08 where
 l:List Nat
attribute [class] A08
instance A5W:A08:=⟨[]⟩
structure A09 where
 l:Nat->List Nat
attribute [class] A09
instance A5S:A09:=⟨fun _=>[]⟩
structure A0A where
 pre:List Value
 post:List Value
attribute [class] A0A
instance A5T:A0A:=⟨[],[]⟩
structure A0B where
 b:Bool
attribute [class] A0B
instance A5U:A0B:=⟨false⟩
structure Hd0 where
 CN:Nat
 off:Nat
 nil:Bool
 len:Nat
 cap:Nat
 XC:Option Addr
 fz:Bool
structure A0C where
 l:Nat->Hd0
attribute [class] A0C
instance A5V:A0C:=⟨fun _=>⟨0,0,true,0,0,none,false⟩⟩
structure Nm where
 CN:Nat
 off:Nat
 nil:Bool
 len:Nat
 cap:Nat
 XC:Option Addr
 [ins:A08]
 [pp:A0A]
 [fz:A0B]
 [hd:A0C]
def Nm.fr (m:Nm) (n:Nat):Nat×Nat:=bif m.fz.b then (n,n+1) else (0,0)
variable {n:Nat}
theorem Nm.ADA (m:Nm) {k:Nat} (h:k<n):¬((m.fr n).1<=k/\k<(m.fr n).2):=by
 unfold Nm.fr
 cases m.fz.b
 ·simp
 ·simp;omega
def Nm.arr (m:Nm) (l:List Value):Array Value:=(m.pp.pre++l++m.pp.post).toArray
def Nm.ad (m:Nm):Option Addr:=if m.nil=true then m.XC else some ⟨m.CN,m.off,none⟩
def Hd0.nm (h:Hd0):Nm:={ CN:=h.CN,off:=h.off,nil:=h.nil,len:=h.len,cap:=h.cap,XC:=h.XC,fz:=⟨h.fz⟩ }
def Nm.h0 (m:Nm):Hd0:=⟨m.CN,m.off,m.nil,m.len,m.cap,m.XC,m.fz.b⟩
def Nm.hn (m:Nm) (k:Nat):Nm:=(m.hd.l k).nm
structure Env where
 nm:Nat->Nm
 ds:Nat->Value
 [ins:A09]
inductive SV where
 |int (k:IntKind) (n:Int)
 |u64 (x:BitVec 64)
 |bool (b:Bool)
 |mJ (b:Bool)
 |prop (p:Prop) (d:Decidable p)
 |str (s:ByteArray)
 |UA (n:Nat)
 |nf (o:Option Nat) (i:Nat)
 |LW
 |ptr (a:Option Addr)
 |loc (i off:Nat)
 |el (i k sz off:Nat)
 |NT (i:Nat)
 |sub (i lo n sz:Nat)
 |unk (t:Nat)
 |raw (v:Value)
 |agg (cs:List SV)
 |tup (vs:List SV)
 |mpv (i:Nat)
 |clo (f:FuncId) (cs:List SV)
 |tsl (i k q:Nat)
 |tel (i k q j:Nat)
def XN (k:Nat):Nat:=(k%2)*2 ^ 63+0x7ff0000000000000+1+(k / 2)%(2 ^ 52-1)
def rI (a:Option Addr) (n:Nat):Option Addr:=a.map (·.add n)
mutual
def SV.den (E:Env):SV->Value
 | .int k n=> .int k n
 | .u64 x=> .int .u64 (x.toNat:Int)
 | .bool b=> .bool b
 | .mJ b=> .bool b
 | .prop p d=> .bool (@decide p d)
 | .str s=> .string s
 | .UA n=> .float .f64 n
 | .nf o i=> .float .f64 (o.getD (XN (E.nm i).CN))
 | .LW=> .slice none 0 0
 | .ptr a=> .pointer a
 | .loc i off=> .pointer (some ⟨(E.nm i).CN,(E.nm i).off+off,none⟩)
 | .el i k sz off=> .pointer (some ⟨(E.nm i).CN,(E.nm i).off+(k*sz+off),none⟩)
 | .NT i=> .slice (E.nm i).ad (E.nm i).len (E.nm i).cap
 | .sub i lo n sz=> .slice (if (E.nm i).cap=lo then (E.nm i).ad else rI (E.nm i).ad (lo*sz)) n ((E.nm i).cap-lo)
 | .unk t=>E.ds t
 | .raw v=>v
 | .agg cs=> .agg (AN E cs).toArray
 | .tup vs=> .tuple (AN E vs).toArray
 | .mpv i=> .map (some (E.nm i).CN)
 | .clo f cs=> .func (.func f) #[] (AN E cs).toArray
 | .tsl i k q=> .slice ((E.nm i).hn (k*2+q)).ad ((E.nm i).hn (k*2+q)).len ((E.nm i).hn (k*2+q)).cap
 | .tel i k q j=> .pointer (some ⟨((E.nm i).hn (k*2+q)).CN,((E.nm i).hn (k*2+q)).off+j,none⟩)
def AN (E:Env):List SV->List Value
 | []=>[]
 |v::r=>v.den E::AN E r
end
section
variable {E:Env}
theorem GM (l:List SV):AN E l=l.map (SV.den E):=by
 induction l with
 |nil=>rfl
 |cons v r ih=>simp [AN,ih]
def BK:SV:= .raw undef
def ev (fr:List SV):Operand->SV
 | .tmp t=>fr.getD t BK
 | .const v=>match v with
  | .int .u64 n=>if 0<=n/\n<18446744073709551616 then .u64 (BitVec.ofNat 64 n.toNat) else .raw (.int .u64 n)
  | .int k n=> .int k n
  | .bool b=> .mJ b
  | .string s=> .str s
  | .float .f64 n=> .UA n
  | .slice none 0 0=> .LW
  | .pointer a=> .ptr a
  |v=> .raw v
 | .global g=> .ptr (some ⟨g,0,none⟩)
 | .func f=> .raw (.func (.func f) #[] #[])
def Sim (E:Env) (fr:List SV) (a:Act):Prop:=a.tmps=(AN E fr).toArray/\a.defers=[]
theorem ABQ (fr:List SV) (t:Nat):(AN E fr).getD t undef=((fr.getD t BK).den E):=by
 induction fr generalizing t with
 |nil=>simp [AN,BK,SV.den]
 |cons v r ih=>cases t with
  |zero=>simp [AN]
  |succ t=>simpa [AN] using ih t
theorem ARM {fr:List SV} {a:Act} (h:Sim E fr a) (x:Operand):a.eval x=((ev fr x).den E):=by
 cases x with
 |tmp t=>
  show a.tmps.getD t undef=_
  rw[h.1]
  have:=ABQ (E:=E) fr t
  simpa [ev] using this
 |const v=>
  show v=_
  cases v with
  |int k n=>
   cases k <;> try rfl
   simp only[ev]
   split
   ·rename_i hn
    simp only[SV.den,uZ]
    congr 1
    omega
   ·rfl
  |float k n=>cases k <;> rfl
  |slice a l c=>
   simp only[ev]
   split <;> first|rfl|(simp_all [SV.den])
  |_=>rfl
 |global g=>rfl
 |func f=>rfl
def SM (fr:List SV) (dst:Option Tmp) (v:SV):List SV:=
 match dst with
 |some d=>fr.set d v
 |none=>fr
theorem dU (fr:List SV) (d:Nat) (v:SV):AN E (fr.set d v)=(AN E fr).set d (v.den E):=by
 induction fr generalizing d with
 |nil=>rfl
 |cons x r ih=>cases d with
  |zero=>rfl
  |succ d=>simp [AN,ih]
theorem Sim.put {fr:List SV} {a:Act} (h:Sim E fr a) (dst:Option Tmp) (v:SV):Sim E (SM fr dst v) (a.put dst (v.den E)):=by
 cases dst with
 |none=>exact h
 |some d=>
  refine⟨?_,h.2⟩
  show a.tmps.setIfInBounds d (v.den E)=_
  rw[h.1]
  simp [SM,dU]
structure Rest (w w' :World):Prop where
 os:w'.os=w.os
 tape:w'.tape=w.tape
 output:w'.output=w.output
theorem Rest.refl (w:World):Rest w w:=⟨rfl,rfl,rfl⟩
theorem Rest.trans {a b c:World} (h:Rest a b) (k:Rest b c):Rest a c:=⟨k.os.trans h.os,k.tape.trans h.tape,k.output.trans h.output⟩
def I64 (e:Int):Prop:= -9223372036854775808<=e/\e<=9223372036854775807
def U64 (e:Int):Prop:=0<=e/\e<=18446744073709551615
def InK:IntKind->Int->Prop
 | .i64,e=>I64 e
 | .u64,e=>U64 e
 | .i8,e=> -128<=e/\e<=127
 | .i16,e=> -32768<=e/\e<=32767
 | .i32,e=> -2147483648<=e/\e<=2147483647
 | .u8,e=>0<=e/\e<=255
 | .u16,e=>0<=e/\e<=65535
 | .u32,e=>0<=e/\e<=4294967295
theorem InK.wrap {k:IntKind} {e:Int} (h:InK k e):k.wrap e=e:=by
 cases k
 ·exact IntWalk.i8_in e h
 ·exact IntWalk.i16_in e h
 ·exact IntWalk.i32_in e h
 ·exact IntWalk.i64_in e h
 ·exact IntWalk.u8_in e h
 ·exact IntWalk.u16_in e h
 ·exact IntWalk.u32_in e h
 ·exact IntWalk.u64_in e h
def YU (s:ByteArray) (i:Nat):Int:=((s.data[i]?.getD 0).toNat:Int)
structure DP where
 p:Prop
 d:Decidable p
def cnd:Option DP->Prop
 |none=>True
 |some q=>q.p
abbrev Pu:=Option (Option DP×SV)
def val (v:SV):Pu:=some (none,v)
def YV (p:Prop) [d:Decidable p] (v:SV):Pu:=some (some ⟨p,d⟩,v)
def cnt:SV->Option (DP×Nat)
 | .int _ n=>some (⟨0<=n,inferInstance⟩,n.toNat)
 | .u64 x=>some (⟨True,inferInstance⟩,x.toNat)
 |_=>none
def shE (op:BinOp) (x c:SV):Pu:=
 match cnt c with
 |none=>none
 |some (q,n)=>match op,x with
  | .shl,.int .i64 a=> @YV q.p q.d (.int .i64 (IntKind.i64.wrap (a*2 ^ min n 64)))
  | .shr,.int .i64 a=> @YV q.p q.d (.int .i64 (a / 2 ^ min n 64))
  | .shl,.u64 b=> @YV q.p q.d (.u64 (b <<< n))
  | .shr,.u64 b=> @YV q.p q.d (.u64 (b >>> n))
  |_,_=>none
def xE (op:BinOp) (a b:Int):Int:=
 let x:=BitVec.ofInt 64 a
 let y:=BitVec.ofInt 64 b
 IntKind.i64.wrap (match op with| .and=>x &&& y| .or=>x|||y| .xor=>x ^^^ y|_=>x &&& ~~~y).toNat
def AVX (op:BinOp) (k:IntKind) (a b:Int):Pu:=
 match op with
 | .add=>val (.int k (k.wrap (a+b)))
 | .sub=>val (.int k (k.wrap (a-b)))
 | .mul=>val (.int k (k.wrap (a*b)))
 | .quo=>YV (¬b=0) (.int k (k.wrap (a.tdiv b)))
 | .rem=>YV (¬b=0) (.int k (a.tmod b))
 | .and| .or| .xor| .andNot=>match k with| .i64=>val (.int .i64 (xE op a b))|_=>none
 | .eql=>val (.prop (a=b) inferInstance)
 | .neq=>val (.prop (¬a=b) inferInstance)
 | .lss=>val (.prop (a<b) inferInstance)
 | .leq=>val (.prop (a<=b) inferInstance)
 | .gtr=>val (.prop (a>b) inferInstance)
 | .geq=>val (.prop (a≥b) inferInstance)
 |_=>none
def AVY (op:BinOp) (a b:BitVec 64):Pu:=
 match op with
 | .add=>val (.u64 (a+b))
 | .sub=>val (.u64 (a-b))
 | .mul=>val (.u64 (a*b))
 | .quo=>YV (¬b=0#64) (.u64 (a / b))
 | .rem=>YV (¬b=0#64) (.u64 (a%b))
 | .and=>val (.u64 (a &&& b))
 | .or=>val (.u64 (a|||b))
 | .xor=>val (.u64 (a ^^^ b))
 | .andNot=>val (.u64 (a &&& ~~~b))
 | .eql=>val (.prop (a=b) inferInstance)
 | .neq=>val (.prop (¬a=b) inferInstance)
 | .lss=>val (.prop (a.toNat<b.toNat) inferInstance)
 | .leq=>val (.prop (a.toNat<=b.toNat) inferInstance)
 | .gtr=>val (.prop (a.toNat>b.toNat) inferInstance)
 | .geq=>val (.prop (a.toNat≥b.toNat) inferInstance)
 |_=>none
def FD (a b:Nat):Option Ordering:=FloatKind.f64.format.order a b
def A5X (a:Nat):Nat:=Op.negFloat .f64 a
def KR (op:BinOp) (a b:Nat):Option Nat:=match op with
 | .add=>FloatKind.f64.format.add a b
 | .sub=>FloatKind.f64.format.sub a b
 | .mul=>FloatKind.f64.format.mul a b
 | .quo=>FloatKind.f64.format.div a b
 |_=>none
def dV (n:Int):Nat:=FloatKind.f64.nearest n
def xF (a:Nat):Option Int:=(FloatKind.f64.decode a).toInt .zero
def fIn (k:IntKind) (a:Nat):Bool:=match xF a with
 |some n=>decide (k.min<=n/\n<=k.max)
 |none=>false
def iF (a:Nat):Bool:=(FloatKind.f64.decode a).neg
def A2Y (a b:Nat):Nat:=match FD a b with
 |some .lt=>b
 |some .gt=>a
 |_=>if iF a=true then b else a
def A2Z (a b:Nat):Nat:=match FD a b with
 |some .lt=>a
 |some .gt=>b
 |_=>if iF a=true then a else b
def AVZ (op:BinOp) (a b:Nat):Pu:=
 match op with
 | .add| .sub| .mul| .quo=>YV ((KR op a b).isSome=true) (.UA ((KR op a b).getD 0))
 | .eql=>val (.prop (FD a b=some .eq) inferInstance)
 | .neq=>val (.prop (¬FD a b=some .eq) inferInstance)
 | .lss=>val (.prop (FD a b=some .lt) inferInstance)
 | .leq=>val (.prop (FD a b=some .lt\/FD a b=some .eq) inferInstance)
 | .gtr=>val (.prop (FD a b=some .gt) inferInstance)
 | .geq=>val (.prop (FD a b=some .gt\/FD a b=some .eq) inferInstance)
 |_=>none
def oK (a b:Option Nat):Option Ordering:=match a,b with
 |some a,some b=>FD a b
 |_,_=>none
def nfE (op:BinOp) (a b:Option Nat):Pu:=
 match op with
 | .eql=>val (.prop (oK a b=some .eq) inferInstance)
 | .neq=>val (.prop (¬oK a b=some .eq) inferInstance)
 | .lss=>val (.prop (oK a b=some .lt) inferInstance)
 | .leq=>val (.prop (oK a b=some .lt\/oK a b=some .eq) inferInstance)
 | .gtr=>val (.prop (oK a b=some .gt) inferInstance)
 | .geq=>val (.prop (oK a b=some .gt\/oK a b=some .eq) inferInstance)
 |_=>none
def toB:SV->Option Bool
 | .bool b=>some b
 | .mJ b=>some b
 | .prop p d=>some (@decide p d)
 |_=>none
def ADB (P:Program) (op:BinOp) (t:TypeId) (x y:SV):Pu:=
 match op with
 | .shl| .shr=>shE op x y
 |op=>match x,y with
  | .int k a,.int k' b=>if k=k' then AVX op k a b else none
  | .u64 a,.u64 b=>AVY op a b
  | .str a,.str b=>match op with
   | .eql=>val (.prop (a=b) inferInstance)
   | .neq=>val (.prop (¬a=b) inferInstance)
   | .add=>YV (a.size+b.size<=9223372036854775807) (.str (a++b))
   |_=>none
  | .UA a,.UA b=>AVZ op a b
  | .nf a _,.nf b _=>nfE op a b
  | .nf a _,.UA b=>nfE op a (some b)
  | .UA a,.nf b _=>nfE op (some a) b
  |x,y=>match toB x,toB y,P.underlying t,op with
   |some a,some b,some .bool,.eql=>val (.prop (a=b) inferInstance)
   |some a,some b,some .bool,.neq=>val (.prop (¬a=b) inferInstance)
   |_,_,_,_=>none
def unE (op:UnOp) (x:SV):Pu:=
 match op,x with
 | .not,.bool b=>val (.bool (!b))
 | .not,.mJ b=>val (.mJ (!b))
 | .not,.prop p _=>val (.prop (¬p) inferInstance)
 | .neg,.int .i64 n=>val (.int .i64 (IntKind.i64.wrap (0-n)))
 | .neg,.u64 x=>val (.u64 (0#64-x))
 | .neg,.UA b=>val (.UA (A5X b))
 | .xor,.u64 x=>val (.u64 (~~~x))
 |_,_=>none
def AMA (P:Program) (src dst:TypeId) (x:SV):Pu:=
 match P.underlying src,P.underlying dst,x with
 |some (.int _),some (.int kd),.int _ n=>match kd with
  | .u64=>val (.u64 (BitVec.ofInt 64 n))
  |kd=>val (.int kd (kd.wrap n))
 |some (.int _),some (.int kd),.u64 b=>match kd with
  | .u64=>val (.u64 b)
  |kd=>val (.int kd (kd.wrap b.toNat))
 |some .string,some .string,.str s=>val (.str s)
 |some (.int _),some (.float .f64),.int _ n=>val (.UA (dV n))
 |some (.int _),some (.float .f64),.u64 x=>val (.UA (dV (x.toNat:Int)))
 |some (.float _),some (.int kd),.UA b=>(match kd with
  | .u64=>YV (fIn .u64 b=true) (.u64 (BitVec.ofInt 64 ((xF b).getD 0)))
  |kd=>YV (fIn kd b=true) (.int kd ((xF b).getD 0)))
 |some (.float _),some (.float .f64),.UA b=>val (.UA b)
 |_,_,_=>none
def HG (P:Program) (t:TypeId):Bool:=
 match P.underlying t with
 |some (.struct _)=>true
 |some (.array _ _)=>true
 |_=>false
def AGB (P:Program) (t:TypeId) (cs:List SV) (off:Nat):Pu:=
 match P.info? t,P.underlying t with
 |some i,some _=>if HG P t then val (.agg ((cs.drop off).take i.size)) else match cs[off]? with
  |some v=>val v
  |none=>none
 |_,_=>none
def Z2:List Bool->Bool
 | []=>true
 | [b]=>b
 |b::r=>b && Z2 r
def ARN (P:Program) (f:Field) (xs ys:List SV):Option Bool:=
 match f.name != "_", P.underlying f.type, xs[f.offset]?, ys[f.offset]?, P.info? f.type with
 |true,some (.int _),some (.int k a),some (.int k' b),some _=>if k=k' then some (decide (a=b)) else none
 |true,some .bool,some u,some v,some _=>(match toB u,toB v with
  |some a,some b=>some (a==b)
  |_,_=>none)
 |_,_,_,_,_=>none
def rJ (P:Program) (xs ys:List SV):List Field->Option (List Bool)
 | []=>some []
 |f::r=>match ARN P f xs ys,rJ P xs ys r with
  |some b,some l=>some (b::l)
  |_,_=>none
def AW0 (P:Program) (op:BinOp) (t:TypeId) (xs ys:List SV):Pu:=
 match P.underlying t with
 |some (.struct fs)=>match P.stoodInHeld t||P.eqGuardType P.depth t with
  |true=>none
  |false=>match rJ P xs ys fs.toList,op with
   |some bs,.eql=>val (.bool (Z2 bs))
   |some bs,.neq=>val (.bool (!Z2 bs))
   |_,_=>none
 |_=>none
def ARO (P:Program) (op:BinOp) (t:TypeId) (x y:SV):Pu:=
 match x,y with
 | .agg xs,.agg ys=>AW0 P op t xs ys
 |x,y=>ADB P op t x y
def ADC (P:Program) (t:TypeId) (x:SV) (f:Nat):Pu:=
 match P.underlying t,x with
 |some (.struct fs),.agg cs=>match fs[f]? with
  |some fd=>AGB P fd.type cs fd.offset
  |none=>none
 |_,_=>none
def oL (x:SV) (i:Nat):Pu:=
 match x with
 | .tup vs=>match vs[i]? with
  |some v=>val v
  |none=>none
 |_=>none
def BN:SV->List SV
 | .agg cs=>cs
 |v=>[v]
def EB (cs:List SV) (off:Nat):List SV->List SV
 | []=>cs
 |v::r=>EB (cs.set off v) (off+1) r
def dW (place:Nat->Option (Nat×Nat)) (cs:List SV):List (Nat×SV)->Option (List SV)
 | []=>some cs
 |(i,v)::rest=>match place i with
  |none=>none
  |some (off,size)=>if (BN v).length=size/\off+(BN v).length<=cs.length then dW place (EB cs off (BN v)) rest else none
def OU:SV->Bool
 | .raw (.agg _)=>true
 | .unk _=>true
 |_=>false
def V7 (l:List (Nat×SV)):Bool:=l.all fun q=> !OU q.2
def UC:Value->SV
 | .int .u64 n=>if 0<=n/\n<18446744073709551616 then .u64 (BitVec.ofNat 64 n.toNat) else .raw (.int .u64 n)
 | .int k n=> .int k n
 | .bool b=> .mJ b
 | .string s=> .str s
 | .float .f64 n=> .UA n
 | .slice none 0 0=> .LW
 | .pointer a=> .ptr a
 |v=> .raw v
def OV (P:Program) (t:TypeId):Option (List SV):=
 match P.info? t with
 |some i=>match i.zero with
  |some z=>some (z.cells.toList.map UC)
  |none=>none
 |none=>none
def QA (P:Program):List Field->Option (List (Nat×Nat))
 | []=>some []
 |f::r=>match P.info? f.type,QA P r with
  |some i,some l=>some ((f.offset,i.size)::l)
  |_,_=>none
def ADD (P:Program) (t:TypeId) (parts:List (Nat×SV)):Pu:=
 if V7 parts=false then none else
 match OV P t,P.underlying t with
 |some z,some (.struct fs)=>match QA P fs.toList with
  |some pl=>match dW (fun i=>pl[i]?) z parts with
   |some cs=>val (.agg cs)
   |none=>none
  |none=>none
 |some z,some (.array _ e)=>match P.info? e with
  |some i=>match dW (fun j=>some (j*i.size,i.size)) z parts with
   |some cs=>val (.agg cs)
   |none=>none
  |none=>none
 |_,_=>none
def idxOf:SV->Option Int
 | .int _ n=>some n
 | .u64 x=>some x.toNat
 |_=>none
def Z3 (P:Program) (t:TypeId) (x i:SV):Pu:=
 match P.underlying t,x,idxOf i with
 |some (.array len e),.loc i off,some n=>match P.info? e with
  |some q=>YV (0<=n/\n<len) (.loc i (off+n.toNat*q.size))
  |none=>none
 |some (.array len e),.ptr (some ⟨g,off,none⟩),some n=>match P.info? e with
  |some q=>if q.size=1 then YV (0<=n/\n<len) (.ptr (some ⟨g,off+n.toNat,none⟩)) else none
  |none=>none
 |_,_,_=>none
def Z4 (P:Program) (t:TypeId) (x:SV) (f:Nat):Pu:=
 match P.underlying t,x with
 |some (.struct fs),.loc i off=>match fs[f]? with
  |some fd=>match P.info? fd.type with
   |some q=>if q.size=0 then none else val (.loc i (off+fd.offset))
   |none=>none
  |none=>none
 |some (.struct fs),.el i k sz off=>match fs[f]? with
  |some fd=>match P.info? fd.type with
   |some q=>if q.size=0 then none else val (.el i k sz (off+fd.offset))
   |none=>none
  |none=>none
 |_,_=>none
def bnd (x:Option SV) (d:Nat):Option (Option Int×Nat):=
 match x with
 |none=>some (none,d)
 |some x=>match idxOf x with
  |some n=>some (some n,n.toNat)
  |none=>none
@[reducible] def Bd (l:Option Int) (h:Option Int) (hn cap:Nat):Prop:=
 (match h with|some n=>0<=n/\n<=cap|none=>True)/\(match l with|some n=>0<=n/\n<=hn|none=>True)
instance (l h:Option Int) (hn cap:Nat):Decidable (Bd l h hn cap):=
 match h,l with
 |some n,some m=>inferInstanceAs (Decidable ((0<=n/\n<=cap)/\(0<=m/\m<=hn)))
 |some n,none=>inferInstanceAs (Decidable ((0<=n/\n<=cap)/\True))
 |none,some m=>inferInstanceAs (Decidable (True/\(0<=m/\m<=hn)))
 |none,none=>inferInstanceAs (Decidable (True/\True))
def ADE (P:Program) (t:TypeId) (x:SV) (low high max:Option SV):Pu:=
 match P.underlying t,x,max with
 |some .string,.str s,none=>match bnd high s.size,bnd low 0 with
  |some (h,hn),some (l,ln)=>YV (Bd l h hn s.size) (.str (s.extract ln hn))
  |_,_=>none
 |_,_,_=>none
def ADF (P:Program) (t:TypeId) (x i:SV):Pu:=
 match P.underlying t,x,idxOf i with
 |some .string,.str s,some n=>YV (0<=n/\n<s.size) (.int .u8 (YU s n.toNat))
 |_,_,_=>none
def AW1 (P:Program) (t:TypeId) (x:SV):Pu:=
 match P.underlying t,x with
 |some .string,.str s=>val (.int .i64 s.size)
 |some (.array n _),_=>val (.int .i64 n)
 |_,_=>none
def oM (P:Program) (b:Builtin) (argTypes:List TypeId) (args:List SV):Pu:=
 match b,argTypes,args with
 | .len,t::_,x::_=>AW1 P t x
 | .max,_,[.int k a,.int k' b]=>if k=k' then val (.int k (if b>a then b else a)) else none
 | .min,_,[.int k a,.int k' b]=>if k=k' then val (.int k (if b<a then b else a)) else none
 | .max,_,[.UA a,.UA b]=>YV ((FD a b).isSome=true) (.UA (A2Y a b))
 | .min,_,[.UA a,.UA b]=>YV ((FD a b).isSome=true) (.UA (A2Z a b))
 |_,_,_=>none
def dX (P:Program) (ρ:Operand->SV):Op->Pu
 | .move x=>val (ρ x)
 | .assign x=>val (ρ x)
 | .pick c a b=>match ρ c with
  | .mJ t=>val (if t then ρ a else ρ b)
  |_=>none
 | .binOp op t x y _=>ARO P op t (ρ x) (ρ y)
 | .unOp op _ x=>unE op (ρ x)
 | .convert src dst x=>AMA P src dst (ρ x)
 | .extract x i=>oL (ρ x) i
 | .field t x f=>ADC P t (ρ x) f
 | .build t parts=>ADD P t (parts.toList.map fun q=>(q.1,ρ q.2))
 | .indexAddr t x i=>Z3 P t (ρ x) (ρ i)
 | .fieldAddr t x f=>Z4 P t (ρ x) f
 | .slice t x l h m=>ADE P t (ρ x) (l.map ρ) (h.map ρ) (m.map ρ)
 | .index t x i=>ADF P t (ρ x) (ρ i)
 | .nilCheck x=>match ρ x with
  | .el i k sz off=>val (.el i k sz off)
  | .loc i off=>val (.loc i off)
  | .clo f cs=>val (.clo f cs)
  |_=>none
 | .makeFunc fn first captured=>match fn,first with
  | .func f,⟨[]⟩=>val (.clo f (captured.toList.map ρ))
  |_,_=>none
 | .call { callee:= .builtin b,args,argTypes }=>oM P b argTypes.toList (args.toList.map ρ)
 |_=>none
section
variable {P:Program} (w:World)
variable {x:SV}
theorem XO {b:Bool} (h:toB x=some b):(x.den E)= .bool b:=by
 cases x <;> simp_all [toB,SV.den]
theorem vQ {c:SV} {q:DP} (h:cnt c=some (q,n)) (hp:q.p):∃ k y,(c.den E)= .int k y/\0<=y/\y.toNat=n:=by
 cases c <;> simp only[cnt,A_,DG,reduceCtorEq] at h
 case int k y=>obtain⟨rfl,rfl⟩:=h;exact⟨k,y,rfl,hp,rfl⟩
 case u64 x=>obtain⟨rfl,rfl⟩:=h;exact⟨.u64,x.toNat,rfl,by omega,by simp⟩
theorem Z5 (n:Nat) (h:n<2 ^ 64):IntKind.u64.wrap (n:Int)=n:=IntWalk.u64_in _ ⟨by omega,by omega⟩
theorem LR (n:Int):IntKind.u64.wrap n=n%18446744073709551616:=IntKind.wrap_u64 n
def Pu.ok (r:Pu) (R:SV->Prop):Prop:=∀ p v,r=some (p,v)->cnd p->R v
variable {R:SV->Prop} {v:SV}
theorem BL (h:R v):(val v).ok R:=by
 intro p v' he _;simp only[val,A_,DG] at he;obtain⟨-,rfl⟩:=he;exact h
theorem J8 {q:Prop} [Decidable q] {v:SV} {R:SV->Prop} (h:q->R v):(YV q v).ok R:=by
 intro p v' he hp;simp only[YV,A_,DG] at he;obtain⟨rfl,rfl⟩:=he;exact h hp
theorem ok_none:Pu.ok none R:=by intro p v h;cases h
def ES (E:Env) (P:Program) (s:Sem Value) (w:World) (v:SV):Prop:=s.run P w= .ok (v.den E) w
variable {k yk:IntKind} {y:Int}
theorem AMB {a:Int} (hy:0<=y):(Op.shift .shl k a yk y).run P w= .ok (.int k (k.wrap (a*2 ^ (min y.toNat k.bits)))) w:=by
 unfold Op.shift;rw[af];rfl
theorem AMC {a:Int} (hy:0<=y):(Op.shift .shr k a yk y).run P w= .ok (.int k (a.fdiv (2 ^ (min y.toNat k.bits)))) w:=by
 unfold Op.shift;rw[af];rfl
theorem AGC (n:Nat):(2:Int) ^ n=((2 ^ n:Nat):Int):=by simp
theorem AW2 (b:BitVec 64) (n:Nat):IntKind.u64.wrap ((b.toNat:Int)*2 ^ min n 64)=((b <<< n).toNat:Int):=by
 have h1:((b.toNat:Int)*2 ^ min n 64)=((b.toNat*2 ^ min n 64:Nat):Int):=by rw[AGC];rfl
 rw[LR,h1,BitVec.toNat_shiftLeft,Nat.shiftLeft_eq]
 have h2:(18446744073709551616:Int)=((2 ^ 64:Nat):Int):=rfl
 rw[h2,←Int.natCast_emod]
 congr 1
 rcases Nat.le_total n 64 with hn|hn
 ·rw[Nat.min_eq_left hn]
 ·rw[Nat.min_eq_right hn]
  obtain⟨d,rfl⟩:=ALM hn
  rw[Nat.pow_add,←AG7,Nat.mul_right_comm,Nat.mul_mod_left,Nat.mul_mod_left]
theorem fdiv_pow (a:Int) (n:Nat):a.fdiv (2 ^ n)=a / 2 ^ n:=Int.fdiv_eq_ediv_of_nonneg _ (Int.le_of_lt (Int.pow_pos (by decide)))
theorem AW3 (b:BitVec 64) (n:Nat):(b.toNat:Int).fdiv (2 ^ min n 64)=((b >>> n).toNat:Int):=by
 rw[fdiv_pow,AGC]
 have h1:((b.toNat:Int) / ((2 ^ min n 64:Nat):Int))=((b.toNat / 2 ^ min n 64:Nat):Int):=rfl
 rw[h1,AR5,AR4]
 congr 1
 rcases Nat.le_total n 64 with hn|hn
 ·rw[Nat.min_eq_left hn]
 ·rw[Nat.min_eq_right hn]
  have hb:=b.isLt
  rw[AM4 hb,AM4 (oB hb (ALT (by decide) hn))]
theorem binOp_shl (t:TypeId) {a:Int}:binOp .shl t (.int k a) (.int yk y)=Op.shift .shl k a yk y:=rfl
theorem binOp_shr (t:TypeId) {a:Int}:binOp .shr t (.int k a) (.int yk y)=Op.shift .shr k a yk y:=rfl
theorem ARP (op:BinOp) (x c:SV) (t:TypeId):(shE op x c).ok (ES E P (binOp op t (x.den E) (c.den E)) w):=by
 unfold shE
 split
 ·exact ok_none
 ·rename_i q n hc
  split
  ·refine @J8 _ q.d _ _ fun h1=> ?_
   obtain⟨yk,y,hcd,hy,rfl⟩:=vQ hc h1
   rw[ES,hcd]
   simp only[SV.den,binOp_shl,AMB w hy,IntKind.bits]
  ·refine @J8 _ q.d _ _ fun h1=> ?_
   obtain⟨yk,y,hcd,hy,rfl⟩:=vQ hc h1
   rw[ES,hcd]
   simp only[SV.den,binOp_shr,AMC w hy,IntKind.bits,fdiv_pow]
  ·refine @J8 _ q.d _ _ fun h1=> ?_
   obtain⟨yk,y,hcd,hy,rfl⟩:=vQ hc h1
   rw[ES,hcd]
   simp only[SV.den,binOp_shl,AMB w hy,IntKind.bits,AW2]
  ·refine @J8 _ q.d _ _ fun h1=> ?_
   obtain⟨yk,y,hcd,hy,rfl⟩:=vQ hc h1
   rw[ES,hcd]
   simp only[SV.den,binOp_shr,AMC w hy,IntKind.bits,AW3]
  ·exact ok_none
theorem AW4 (op:BinOp) (k:IntKind) (a b:Int) (t:TypeId) (h1:op≠ .shl) (h2:op≠ .shr):
  (AVX op k a b).ok (ES E P (binOp op t (.int k a) (.int k b)) w):=by
 have hk:¬(k≠k):=by simp
 cases op <;> simp only[AVX,ne_eq,not_true,reduceCtorEq,not_false_eq_true] at*
 case add=>exact BL (by simp [ES,binOp,Op.intArith,SV.den])
 case sub=>exact BL (by simp [ES,binOp,Op.intArith,SV.den])
 case mul=>exact BL (by simp [ES,binOp,Op.intArith,SV.den])
 case quo=>exact J8 fun h=>by simp [ES,binOp,Op.intDiv,SV.den,h]
 case rem=>exact J8 fun h=>by simp [ES,binOp,Op.intDiv,SV.den,h]
 case and=>split <;> first|exact ok_none|exact BL rfl
 case or=>split <;> first|exact ok_none|exact BL rfl
 case xor=>split <;> first|exact ok_none|exact BL rfl
 case andNot=>split <;> first|exact ok_none|exact BL rfl
 case eql=>exact BL (by simp [ES,binOp,Op.intCmp,SV.den];rfl)
 case neq=>exact BL (by simp [ES,binOp,Op.intCmp,SV.den];rfl)
 case lss=>exact BL (by simp [ES,binOp,Op.intCmp,SV.den])
 case leq=>exact BL (by simp [ES,binOp,Op.intCmp,SV.den])
 case gtr=>exact BL (by simp [ES,binOp,Op.intCmp,SV.den])
 case geq=>exact BL (by simp [ES,binOp,Op.intCmp,SV.den])
theorem tT (a b:BitVec 64):((a.toNat:Int)=(b.toNat:Int))↔a=b:=by
 rw[Int.ofNat_inj];exact ABE
theorem KS (a:BitVec 64):BitVec.ofInt 64 (a.toNat:Int)=a:=by simp
theorem AW5 (op:BinOp) (a b:BitVec 64) (t:TypeId) (h1:op≠ .shl) (h2:op≠ .shr):
  (AVY op a b).ok (ES E P (binOp op t (.int .u64 a.toNat) (.int .u64 b.toNat)) w):=by
 have DY:=fun x:BitVec 64=>x.isLt
 have hw:∀ x:BitVec 64,IntKind.u64.wrap (x.toNat:Int)=x.toNat:=fun x=>Z5 _ x.isLt
 have h64:(18446744073709551616:Int)=((2 ^ 64:Nat):Int):=rfl
 have hm:∀ n:Nat,(n:Int)%18446744073709551616=((n%2 ^ 64:Nat):Int):=fun n=>rfl
 have key:∀ (v:Value) (o:SV),(∀ x,o= .u64 x->v= .int .u64 (x.toNat:Int))->(∃ x,o= .u64 x)->(Result.ok v w=Result.ok (o.den E) w):=by
  rintro v o h ⟨x,rfl⟩;rw[h x rfl];rfl
 cases op <;> simp only[AVY,ne_eq,not_true,reduceCtorEq,not_false_eq_true] at*
 case add=>
  refine BL ?_
  have e:IntKind.u64.wrap ((a.toNat:Int)+b.toNat)=((a+b).toNat:Int):=by
   rw[LR,ABF,←w_,hm]
  show Result.ok (Value.int .u64 (IntKind.u64.wrap ((a.toNat:Int)+b.toNat))) w=_
  rw[e];rfl
 case sub=>
  refine BL ?_
  have e:IntKind.u64.wrap ((a.toNat:Int)-b.toNat)=((a-b).toNat:Int):=by
   rw[LR,BitVec.toNat_sub]
   have:=DY a;have:=DY b
   omega
  show Result.ok (Value.int .u64 (IntKind.u64.wrap ((a.toNat:Int)-b.toNat))) w=_
  rw[e];rfl
 case mul=>
  refine BL ?_
  have e:IntKind.u64.wrap ((a.toNat:Int)*b.toNat)=((a*b).toNat:Int):=by
   rw[LR,BitVec.toNat_mul,←AM5,hm]
  show Result.ok (Value.int .u64 (IntKind.u64.wrap ((a.toNat:Int)*b.toNat))) w=_
  rw[e];rfl
 case quo=>
  refine J8 fun h=> ?_
  have h0:¬(b.toNat:Int)=0:=by
   intro h';apply h;apply AB8;have:b.toNat=0:=by omega
   rw[this];rfl
  have e:IntKind.u64.wrap ((a.toNat:Int).tdiv b.toNat)=((a / b).toNat:Int):=by
   rw[Int.tdiv_eq_ediv_of_nonneg (by omega),←hw (a / b),wZ];rfl
  have e2:(binOp .quo t (.int .u64 a.toNat) (.int .u64 b.toNat)).run P w= .ok (.int .u64 (IntKind.u64.wrap ((a.toNat:Int).tdiv b.toNat))) w:=by
   show (Op.intDiv .quo .u64 a.toNat b.toNat).run P w=_
   unfold Op.intDiv;rw[AE h0];rfl
  rw[ES,e2,e];rfl
 case rem=>
  refine J8 fun h=> ?_
  have h0:¬(b.toNat:Int)=0:=by
   intro h';apply h;apply AB8;have:b.toNat=0:=by omega
   rw[this];rfl
  have e:((a.toNat:Int).tmod b.toNat)=((a%b).toNat:Int):=by
   rw[Int.tmod_eq_emod_of_nonneg (by omega),ABB];rfl
  have e2:(binOp .rem t (.int .u64 a.toNat) (.int .u64 b.toNat)).run P w= .ok (.int .u64 ((a.toNat:Int).tmod b.toNat)) w:=by
   show (Op.intDiv .rem .u64 a.toNat b.toNat).run P w=_
   unfold Op.intDiv;rw[AE h0];rfl
  rw[ES,e2,e];rfl
 case and=>
  refine BL ?_
  show Result.ok (Value.int .u64 (IntKind.u64.wrap ((BitVec.ofInt 64 a.toNat &&& BitVec.ofInt 64 b.toNat).toNat:Int))) w=_
  rw[KS,KS,hw];rfl
 case or=>
  refine BL ?_
  show Result.ok (Value.int .u64 (IntKind.u64.wrap ((BitVec.ofInt 64 a.toNat|||BitVec.ofInt 64 b.toNat).toNat:Int))) w=_
  rw[KS,KS,hw];rfl
 case xor=>
  refine BL ?_
  show Result.ok (Value.int .u64 (IntKind.u64.wrap ((BitVec.ofInt 64 a.toNat ^^^ BitVec.ofInt 64 b.toNat).toNat:Int))) w=_
  rw[KS,KS,hw];rfl
 case andNot=>
  refine BL ?_
  show Result.ok (Value.int .u64 (IntKind.u64.wrap ((BitVec.ofInt 64 a.toNat &&& ~~~ BitVec.ofInt 64 b.toNat).toNat:Int))) w=_
  rw[KS,KS,hw];rfl
 case eql=>
  refine BL ?_
  show Result.ok (Value.bool ((a.toNat:Int)==(b.toNat:Int))) w=Result.ok (Value.bool (decide (a=b))) w
  congr 2;rw[jN,XM,P5];exact tT a b
 case neq=>
  refine BL ?_
  show Result.ok (Value.bool ((a.toNat:Int) !=(b.toNat:Int))) w=Result.ok (Value.bool (decide (¬a=b))) w
  congr 2;rw[jN,bne_iff_ne,P5,ne_eq,tT]
 case lss=>exact BL (by simp [ES,binOp,Op.intCmp,SV.den])
 case leq=>exact BL (by simp [ES,binOp,Op.intCmp,SV.den])
 case gtr=>exact BL (by simp [ES,binOp,Op.intCmp,SV.den])
 case geq=>exact BL (by simp [ES,binOp,Op.intCmp,SV.den])
variable {t:TypeId}
theorem oN (d:Nat) (h:P.underlying t=some .bool) (a b:Bool):(Op.equalIn (d+1) t (.bool a) (.bool b)).run P w= .ok (a==b) w:=by
 simp [Op.equalIn,run_underlying h]
theorem run_equal_bool (h:P.underlying t=some .bool) (a b:Bool):(Op.equal t (.bool a) (.bool b)).run P w= .ok (a==b) w:=
 oN w 9999 h a b
theorem ARQ (a b:ByteArray):(a.toList==b.toList)=decide (a=b):=by
 rw[jN,XM,P5,ByteArray.toList_eq,ByteArray.toList_eq]
 constructor
 ·intro h;cases a;cases b;simp at h;simp [h]
 ·rintro rfl;rfl
theorem AW6 (op:BinOp) (a b:Nat) (t:TypeId):(AVZ op a b).ok (ES E P (binOp op t (.float .f64 a) (.float .f64 b)) w):=by
 have arith:∀ op:BinOp,(∀ r,KR op a b=some r->(Op.floatArith op .f64 a b).run P w= .ok (.float .f64 r) w)->(YV ((KR op a b).isSome=true) (.UA ((KR op a b).getD 0)):Pu).ok (ES E P (Op.floatArith op .f64 a b) w):=by
  intro op hr
  refine J8 fun h=> ?_
  obtain⟨r,h1⟩:=ALK.1 h
  rw[ES,hr r h1,h1];rfl
 have cmp:∀ (c:Bool) (p:Prop) [Decidable p],(c=true↔p)->Result.ok (Value.bool c) w=Result.ok ((SV.prop p inferInstance).den E) w:=by
  intro c p _ h
  have:c=decide p:=by rw[jN,h,P5]
  rw[this];rfl
 cases op <;> simp only[AVZ]
 case add=>exact arith .add fun r h=>by simp only[KR] at h;simp [Op.floatArith,h]
 case sub=>exact arith .sub fun r h=>by simp only[KR] at h;simp [Op.floatArith,h]
 case mul=>exact arith .mul fun r h=>by simp only[KR] at h;simp [Op.floatArith,h]
 case quo=>exact arith .quo fun r h=>by simp only[KR] at h;simp [Op.floatArith,h]
 case eql=>exact BL (cmp (FD a b==some .eq) _ (by simp))
 case neq=>exact BL (cmp (FD a b !=some .eq) _ (by simp))
 case lss=>exact BL (cmp (FD a b==some .lt) _ (by simp))
 case leq=>exact BL (cmp (FD a b==some .lt||FD a b==some .eq) _ (by simp))
 case gtr=>exact BL (cmp (FD a b==some .gt) _ (by simp))
 case geq=>exact BL (cmp (FD a b==some .gt||FD a b==some .eq) _ (by simp))
 all_goals exact ok_none
theorem AJC (k:Nat):∃ s f,FloatKind.f64.format.read (XN k)= .nan s f:=by
 unfold Ieee.Format.read
 have hb:FloatKind.f64.format.binade=4503599627370496:=by decide
 have hs:FloatKind.f64.format.signWeight=9223372036854775808:=by decide
 have hi:FloatKind.f64.format.infRung=9218868437227405312:=by decide
 simp only[hb,hs,hi]
 have h' :9218868437227405312<XN k%9223372036854775808:=by
  show 9218868437227405312<((k%2)*9223372036854775808+9218868437227405312+1+(k / 2)%4503599627370495)%9223372036854775808
  have hq:(k / 2)%4503599627370495<4503599627370495:=ABP _ (by decide)
  have hp:k%2<2:=ABP _ (by decide)
  generalize k%2=p at*
  generalize (k / 2)%4503599627370495=q at*
  omega
 rw[af,af,af]
 exact⟨_,_,rfl⟩
theorem AGD (k b:Nat):FD (XN k) b=none/\FD b (XN k)=none:=by
 obtain⟨s,f,h⟩:=AJC k
 unfold FD Ieee.Format.order
 rw[h]
 refine⟨rfl, ?_⟩
 unfold Ieee.Datum.order
 cases FloatKind.f64.format.read b <;> rfl
theorem AON (a b:Option Nat) (k j:Nat):FD (a.getD (XN k)) (b.getD (XN j))=oK a b:=by
 cases a with
 |none=>exact (AGD k _).1
 |some a=>cases b with
  |none=>exact (AGD j _).2
  |some b=>rfl
theorem AJD (op:BinOp) (a b:Option Nat) (k j:Nat) (t:TypeId):(nfE op a b).ok (ES E P (binOp op t (.float .f64 (a.getD (XN k))) (.float .f64 (b.getD (XN j)))) w):=by
 have cmp:∀ (c:Bool) (p:Prop) [Decidable p],(c=true↔p)->Result.ok (Value.bool c) w=Result.ok ((SV.prop p inferInstance).den E) w:=by
  intro c p _ h
  have:c=decide p:=by rw[jN,h,P5]
  rw[this];rfl
 have e:=AON a b k j
 generalize a.getD (XN k)=A at e ⊢
 generalize b.getD (XN j)=B at e ⊢
 cases op <;> simp only[nfE]
 case eql=>exact BL (cmp (FD A B==some .eq) _ (by rw[e];simp))
 case neq=>exact BL (cmp (FD A B !=some .eq) _ (by rw[e];simp))
 case lss=>exact BL (cmp (FD A B==some .lt) _ (by rw[e];simp))
 case leq=>exact BL (cmp (FD A B==some .lt||FD A B==some .eq) _ (by rw[e];simp))
 case gtr=>exact BL (cmp (FD A B==some .gt) _ (by rw[e];simp))
 case geq=>exact BL (cmp (FD A B==some .gt||FD A B==some .eq) _ (by rw[e];simp))
 all_goals exact ok_none
theorem AW7 (op:BinOp) (t:TypeId) (x y:SV):(ADB P op t x y).ok (ES E P (binOp op t (x.den E) (y.den E)) w):=by
 unfold ADB
 split
 ·exact ARP w _ x y t
 ·exact ARP w _ x y t
 ·rename_i h1 h2
  split
  ·split
   ·rename_i hk;subst hk
    exact AW4 w op _ _ _ t h1 h2
   ·exact ok_none
  ·exact AW5 w op _ _ t h1 h2
  ·split
   ·refine BL ?_
    rename_i a b _
    show Result.ok (Value.bool (a.toList==b.toList)) w=Result.ok (Value.bool (decide (a=b))) w
    rw[ARQ]
   ·refine BL ?_
    rename_i a b _
    show Result.ok (Value.bool (!(a.toList==b.toList))) w=Result.ok (Value.bool (decide (¬a=b))) w
    rw[ARQ,decide_not]
   ·refine J8 fun b8=> ?_
    rename_i a b _
    show (if ((a.size+b.size:Nat):Int)>IntKind.i64.max then (unsupported _:Sem Value) else pure (.string (a++b))).run P w=_
    rw[AE (by have:IntKind.i64.max=9223372036854775807:=(by decide);omega)]
    rfl
   ·exact ok_none
  ·exact AW6 w _ _ _ t
  ·exact AJD w _ _ _ _ _ t
  ·exact AJD w _ _ (some _) _ 0 t
  ·exact AJD w _ (some _) _ 0 _ t
  ·split
   ·rename_i ha hb hu
    refine BL ?_
    rw[ES,XO ha,XO hb]
    simp [binOp,SV.den,run_equal_bool w hu];rfl
   ·rename_i ha hb hu
    refine BL ?_
    rw[ES,XO ha,XO hb]
    simp [binOp,SV.den,run_equal_bool w hu];rfl
   ·exact ok_none
theorem A0D (op:UnOp) (x:SV):(unE op x).ok (ES E P (Op.unary op (x.den E)) w):=by
 unfold unE
 split
 ·exact BL (show Sem.run _ _ _=_ from rfl)
 ·exact BL (show Sem.run _ _ _=_ from rfl)
 ·exact BL (by simp [ES,Op.unary,SV.den])
 ·exact BL (by simp only[ES,Op.unary,SV.den,Op.intArith];rfl)
 ·rename_i x
  refine BL ?_
  have e:IntKind.u64.wrap ((0:Int)-(x.toNat:Int))=((0#64-x).toNat:Int):=by
   rw[LR,BitVec.toNat_sub]
   have:=x.isLt
   simp only[uZ]
   omega
  show Result.ok (Value.int .u64 (IntKind.u64.wrap ((0:Int)-(x.toNat:Int)))) w=_
  rw[e];rfl
 ·exact BL rfl
 ·rename_i x
  refine BL ?_
  have hw:∀ x:BitVec 64,IntKind.u64.wrap (x.toNat:Int)=x.toNat:=fun x=>Z5 _ x.isLt
  have:BitVec.ofInt 64 (IntKind.u64.max) ^^^ x= ~~~x:=by
   have:BitVec.ofInt 64 (IntKind.u64.max)=BitVec.allOnes 64:=by decide
   rw[this,BitVec.allOnes_xor]
  show Result.ok (Value.int .u64 (IntKind.u64.wrap ((BitVec.ofInt 64 (IntKind.u64.max) ^^^ BitVec.ofInt 64 (x.toNat:Int)).toNat:Int))) w=_
  rw[KS,this,hw];rfl
 ·exact ok_none
theorem AJE (n:Int):IntKind.u64.wrap n=((BitVec.ofInt 64 n).toNat:Int):=by
 rw[LR,jK]
 have:(0:Int)<=n%18446744073709551616:=by omega
 simp;omega
theorem QB {src dst:TypeId} {ks kd:IntKind} (hs:P.underlying src=some (.int ks)) (hd:P.underlying dst=some (.int kd)) (n:Int):
  (convert src dst (.int k n)).run P w= .ok (.int kd (kd.wrap n)) w:=by
 simp [convert,run_underlying hs,run_underlying hd,Conv.intToInt]
theorem ARR (src dst:TypeId) (x:SV):(AMA P src dst x).ok (ES E P (convert src dst (x.den E)) w):=by
 unfold AMA
 split
 ·rename_i hs hd
  split
  ·exact BL (by simp only[ES,SV.den,QB w hs hd,AJE])
  ·exact BL (by simp only[ES,SV.den,QB w hs hd])
 ·rename_i hs hd
  split
  ·exact BL (by simp only[ES,SV.den,QB w hs hd];rw[Z5 _ (BitVec.isLt _)])
  ·exact BL (by simp only[ES,SV.den,QB w hs hd])
 ·rename_i hs hd
  exact BL (by simp [ES,convert,run_underlying hs,run_underlying hd,SV.den])
 ·rename_i hs hd
  exact BL (by simp [ES,convert,run_underlying hs,run_underlying hd,SV.den,Conv.intToFloat,dV])
 ·rename_i hs hd
  exact BL (by simp [ES,convert,run_underlying hs,run_underlying hd,SV.den,Conv.intToFloat,dV])
 ·rename_i hs hd
  rename_i fk kd0 b
  have key:∀ kd:IntKind,P.underlying dst=some (.int kd)->fIn kd b=true->(convert src dst (.float .f64 b)).run P w= .ok (.int kd ((xF b).getD 0)) w:=by
   intro kd hd h
   unfold fIn at h
   split at h
   ·rename_i n hn
    simp only[LD] at h
    have hn' :=hn
    unfold xF at hn'
    simp [convert,run_underlying hs,run_underlying hd,Conv.floatToInt,hn',hn,h.1,h.2]
   ·cases h
  split
  ·refine J8 fun h=> ?_
   refine (key .u64 hd h).trans ?_
   unfold fIn at h
   split at h
   ·rename_i n hn
    simp only[LD] at h
    have h1:(0:Int)<=n:=h.1
    have h2:n<=18446744073709551615:=h.2
    rw[hn]
    show Result.ok (Value.int .u64 n) w=Result.ok (Value.int .u64 ((BitVec.ofInt 64 n).toNat:Int)) w
    rw[jK]
    congr 2
    have:((n%((2 ^ 64:Nat):Int)).toNat:Int)=n:=by
     rw[AM2 h1 (by omega)];omega
    exact this.symm
   ·cases h
  ·exact J8 fun h=>key _ hd h
 ·rename_i hs hd
  exact BL (by simp [ES,convert,run_underlying hs,run_underlying hd,SV.den,Conv.floatToFloat])
 ·exact ok_none
theorem AGE (op:BinOp) (t:TypeId) (x y:Operand) {a:Value} (b:Value) (h1:∀ c,a≠ .agg c) (h2:a≠ .nilIface):(eqGuard op t x y a b).run P w= .ok () w:=by
 cases a <;> first|exact absurd rfl h2|exact absurd rfl (h1 _)|(cases op <;> rfl)
theorem AJF {op:BinOp} {y:SV} {r:Option DP×SV} (h:ADB P op t x y=some r):(∀ c,(x.den E)≠ .agg c)/\(x.den E)≠ .nilIface:=by
 have hb:(∃ v,x= .raw v)\/(∃ v,x= .agg v)\/(∃ v,x= .unk v)\/((∀ c,(x.den E)≠ .agg c)/\(x.den E)≠ .nilIface):=by
  cases x with
  |raw v=>exact .inl ⟨v,rfl⟩
  |agg v=>exact .inr (.inl ⟨v,rfl⟩)
  |unk v=>exact .inr (.inr (.inl ⟨v,rfl⟩))
  |_=>exact .inr (.inr (.inr ⟨fun c hc=>by simp [SV.den] at hc,fun hc=>by simp [SV.den] at hc⟩))
 rcases hb with ⟨v,rfl⟩|⟨v,rfl⟩|⟨v,rfl⟩|hb
 ·exfalso
  unfold ADB at h
  split at h
  ·unfold shE at h;split at h <;> simp at h
  ·unfold shE at h;split at h <;> simp at h
  ·split at h <;> simp_all [toB]
 ·exfalso
  unfold ADB at h
  split at h
  ·unfold shE at h;split at h <;> simp at h
  ·unfold shE at h;split at h <;> simp at h
  ·split at h <;> simp_all [toB]
 ·exfalso
  unfold ADB at h
  split at h
  ·unfold shE at h;split at h <;> simp at h
  ·unfold shE at h;split at h <;> simp at h
  ·split at h <;> simp_all [toB]
 ·exact hb
theorem G7 (a b:List SV):AN E (a++b)=AN E a++AN E b:=by simp [GM]
theorem AU (a:List SV):(AN E a).length=a.length:=by simp [GM]
theorem F_ (a:List SV) (i:Nat):(AN E a)[i]? =(a[i]?).map (SV.den E):=by simp [GM]
theorem MV {d:TypeDesc} (h:P.underlying t=some d):(isAgg t).run P w= .ok (HG P t) w:=by
 unfold isAgg HG
 rw[h]
 cases d <;> simp [run_underlying h]
theorem ARS (t:TypeId) (cs:List SV) (off:Nat):(AGB P t cs off).ok fun v=>(part t (AN E cs).toArray off).run P w= .ok (v.den E) w:=by
 unfold AGB
 split
 ·rename_i i d hi hd
  split
  ·rename_i ha
   refine BL ?_
   simp [part,MV w hd,ha,sizeOf,typeInfo,hi,SV.den,GM,List.map_take,List.map_drop]
  ·rename_i ha
   split
   ·rename_i v hv
    refine BL ?_
    simp [part,MV w hd,ha,F_,hv]
   ·exact ok_none
 ·exact ok_none
theorem AOO (b:Bool):∀ l,Z2 (b::l)=(b && Z2 l)
 | []=>by simp [Z2]
 |_::_=>rfl
theorem AGF {kk:IntKind} (hu:P.underlying t=some (.int kk)) (d:Nat) (k:IntKind) (a b:Int):
  (Op.equalIn (d+1) t (.int k a) (.int k b)).run P w= .ok (decide (a=b)) w:=by
 rw[Op.equalIn,Sem.run_bind,run_underlying hu]
 show (if k = k then pure (a == b) else stuck "==: kinds differ" : Sem Bool).run P w = _
 rw[AA rfl]
 rfl
def xG (d:Nat) (X Y:Array Value) (f:Field):Sem (ForInStep (Option Bool×Unit)):=
 if f.name ≠ "_" then do
  if !(<-Op.equalIn d f.type (<-part f.type X f.offset) (<-part f.type Y f.offset)) then pure (ForInStep.done (some false,()))
  else pure (ForInStep.yield (none,()))
 else pure (ForInStep.yield (none,()))
theorem AJG {f:Field} {d:Nat} {xs ys:List SV} {b:Bool} (h:ARN P f xs ys=some b):
  (xG (d+1) (AN E xs).toArray (AN E ys).toArray f).run P w= .ok (if b=true then .yield (none,()) else .done (some false,())) w:=by
 unfold ARN at h
 split at h
 ·rename_i k0 k a k' c i hn hu hx hy hi
  split at h
  ·rename_i hk
   subst hk
   simp only[A_] at h
   subst h
   have hn' : f.name ≠ "_" := by simpa using hn
   have h0:HG P f.type=false:=by unfold HG;rw[hu]
   have hp:∀ zs:List SV,∀ n,zs[f.offset]? =some (.int k n)->(part f.type (AN E zs).toArray f.offset).run P w= .ok (.int k n) w:=by
    intro zs n hz
    simp [part,MV w hu,h0,F_,hz,SV.den]
   unfold xG
   rw[AA hn']
   simp only[Sem.run_bind,hp xs a hx,hp ys c hy,Result.andThen,AGF w hu]
   by_cases hac:a=c
   ·simp [hac]
   ·simp [hac]
  ·cases h
 ·rename_i k0 u v i hn hu hx hy hi
  split at h
  ·rename_i a c ha hc
   simp only[A_] at h
   subst h
   have hn' : f.name ≠ "_" := by simpa using hn
   have h0:HG P f.type=false:=by unfold HG;rw[hu]
   have hp:∀ zs:List SV,∀ (z:SV) (n:Bool),zs[f.offset]? =some z->toB z=some n->(part f.type (AN E zs).toArray f.offset).run P w= .ok (.bool n) w:=by
    intro zs z n hz hn
    rw[<-XO hn (E:=E)]
    simp [part,MV w hu,h0,F_,hz]
   unfold xG
   rw[AA hn']
   simp only[Sem.run_bind,hp xs _ a hx ha,hp ys _ c hy hc,Result.andThen,oN w _ hu]
   by_cases hac:a=c
   ·simp [hac]
   ·simp [hac]
  ·cases h
 ·cases h
theorem xH (d:Nat) (xs ys:List SV):∀ (fs:List Field) (bs:List Bool),rJ P xs ys fs=some bs→
  (forIn fs ((none,()):Option Bool×Unit) (fun f _=>xG (d+1) (AN E xs).toArray (AN E ys).toArray f):Sem (Option Bool×Unit)).run P w= .ok (if Z2 bs=true then none else some false,()) w
 | [],bs,h=>by
  simp only[rJ,A_] at h
  subst h
  simp [Z2]
 |f::r,bs,h=>by
  rw[rJ] at h
  split at h
  ·rename_i b l hb hl
   simp only[A_] at h
   subst h
   rw[List.forIn_cons,Sem.run_bind,AJG w hb,AOO]
   cases b with
   |true=>exact xH d xs ys r l hl
   |false=>rfl
  ·cases h
theorem ABR {fs:Array Field} {xs ys:List SV} {bs:List Bool} (hu:P.underlying t=some (.struct fs)) (hs:P.stoodInHeld t=false) (h:rJ P xs ys fs.toList=some bs):
  (Op.equal t (.agg (AN E xs).toArray) (.agg (AN E ys).toArray)).run P w= .ok (Z2 bs) w:=by
 have h1:=xH (E:=E) (P:=P) w 9998 xs ys fs.toList bs h
 rw[Op.equal,Op.maxDepth,Op.equalIn,Sem.run_bind,run_underlying hu]
 unfold xG at h1
 have hp:(program:Sem Program).run P w= .ok P w:=rfl
 simp only[Result.andThen,Sem.run_bind,hp,hs,W_,KK]
 rw[<-Array.forIn_toList]
 erw [h1]
 by_cases hb:Z2 bs=true
 ·simp [hb]
 ·simp only[Bool.not_eq_true] at hb
  rw[hb];rfl
theorem AW8 (op:BinOp) (t:TypeId) (xs ys:List SV) (x y:Operand):(AW0 P op t xs ys).ok (ES E P (do eqGuard op t x y (.agg (AN E xs).toArray) (.agg (AN E ys).toArray);binOp op t (.agg (AN E xs).toArray) (.agg (AN E ys).toArray)) w):=by
 unfold AW0
 split
 ·rename_i fs hu
  split
  ·exact ok_none
  ·rename_i hg
   simp only[Bool.or_eq_false_iff] at hg
   split
   ·rename_i bs hb
    refine BL ?_
    have h:=ABR (E:=E) (P:=P) w hu hg.1 hb
    rw[ES,Sem.run_bind]
    have h2:(eqGuard .eql t x y (.agg (AN E xs).toArray) (.agg (AN E ys).toArray)).run P w= .ok () w:=by
     simp [eqGuard,hg.2]
    rw[h2]
    show (do pure (.bool (<-Op.equal t (.agg (AN E xs).toArray) (.agg (AN E ys).toArray))):Sem Value).run P w=_
    rw[Sem.run_bind,h]
    rfl
   ·rename_i bs hb
    refine BL ?_
    have h:=ABR (E:=E) (P:=P) w hu hg.1 hb
    rw[ES,Sem.run_bind]
    have h2:(eqGuard .neq t x y (.agg (AN E xs).toArray) (.agg (AN E ys).toArray)).run P w= .ok () w:=by
     simp [eqGuard,hg.2]
    rw[h2]
    show (do pure (.bool (!(<-Op.equal t (.agg (AN E xs).toArray) (.agg (AN E ys).toArray)))):Sem Value).run P w=_
    rw[Sem.run_bind,h]
    rfl
   ·exact ok_none
 ·exact ok_none
theorem AOP (t:TypeId) (x:SV) (f:Nat):(ADC P t x f).ok (ES E P (Instr.field t (x.den E) f) w):=by
 unfold ADC
 split
 ·rename_i fs cs hu
  split
  ·rename_i fd hf
   have h:=ARS (E:=E) (P:=P) w fd.type cs fd.offset
   intro p v he hp
   have:=h p v he hp
   rw[ES]
   simp only[Instr.field,SV.den,Sem.run_bind,run_underlying hu,Result.andThen,hf]
   simpa [asAgg] using this
  ·exact ok_none
 ·exact ok_none
theorem AGG (x:SV) (i:Nat):(oL x i).ok (ES E P (Instr.extract (x.den E) i) w):=by
 unfold oL
 split
 ·split
  ·rename_i v hv
   refine BL ?_
   simp [ES,Instr.extract,SV.den,F_,hv]
  ·exact ok_none
 ·exact ok_none
theorem mK (v:SV) (h:OU v=false):(v.den E).cells=(AN E (BN v)).toArray:=by
 cases v with
 |raw u=>cases u <;> first|rfl|simp [OU] at h
 |unk t=>simp [OU] at h
 |_=>rfl
theorem AGH (cs:List SV) (off:Nat) (vs:List SV):AN E (EB cs off vs)=(vs.zipIdx off).foldl (fun c (x,j)=>c.set j (x.den E)) (AN E cs):=by
 induction vs generalizing cs off with
 |nil=>rfl
 |cons v r ih=>simp [EB,ih,dU]
theorem lR (cs:List SV) (off:Nat) (vs:List SV):(EB cs off vs).length=cs.length:=by
 induction vs generalizing cs off with
 |nil=>rfl
 |cons v r ih=>simp [EB,ih]
theorem AJH (off:Nat) (vs:List Value) (cs:Array Value) (k:Nat):
  (vs.zipIdx k).foldl (fun cs (c,j)=>cs.setIfInBounds (off+j) c) cs=((vs.zipIdx (off+k)).foldl (fun c (x,j)=>c.set j x) cs.toList).toArray:=by
 induction vs generalizing cs k with
 |nil=>simp
 |cons v r ih=>
  simp only[List.zipIdx_cons,tN]
  rw[ih]
  simp [PC]
theorem Z6 (place:Nat->Option (Nat×Nat)) (cs mL :List SV) (l:List (Nat×SV)) (hn:V7 l=true) (h:dW place cs l=some mL):
  Instr.fill place (AN E cs).toArray (l.map fun q=>(q.1,q.2.den E))=some (AN E mL).toArray:=by
 induction l generalizing cs with
 |nil=>simp only[dW,A_] at h;subst h;rfl
 |cons q r ih=>
  obtain⟨i,v⟩:=q
  simp only[V7,xB,IZ,b6] at hn
  simp only[dW] at h
  cases hp:place i with
  |none=>simp [hp] at h
  |some os=>
   obtain⟨off,size⟩:=os
   simp only[hp] at h
   split at h
   ·rename_i hc
    have YW:=mK (E:=E) v hn.1
    have hlen:(v.den E).cells.size=(BN v).length:=by rw[YW];simp [AU]
    simp only[JS,Instr.fill,hp,hlen]
    have e1:((BN v).length !=size||decide (off+(BN v).length>(AN E cs).toArray.size))=false:=by
     simp [AU];omega
    rw[AE (by simp [AU];omega)]
    have e2:((v.den E).cells.zipIdx.foldl (fun cs (c,j)=>cs.setIfInBounds (off+j) c) (AN E cs).toArray)=(AN E (EB cs off (BN v))).toArray:=by
     rw[YW]
     have:=AJH off (AN E (BN v)) (AN E cs).toArray 0
     simp only[P6] at this
     rw[AGH]
     simp only[GM,List.zipIdx_map,List.foldl_map] at this ⊢
     simp at this ⊢
     rw[List.zipIdx_map,List.foldl_map]
     exact this
    rw[e2]
    exact ih _ hn.2 h
   ·cases h
theorem AJI (v:Value):((UC v).den E)=v:=by
 cases v with
 |int k n=>
  cases k <;> try rfl
  simp only[UC]
  split
  ·rename_i hn
   simp only[SV.den,uZ]
   congr 1
   omega
  ·rfl
 |float k n=>cases k <;> rfl
 |slice a l c=>
  simp only[UC]
  split <;> first|rfl|(simp_all [SV.den])
 |_=>rfl
theorem XP (l:List Value):AN E (l.map UC)=l:=by
 induction l with
 |nil=>rfl
 |cons v r ih=>simp [AN,ih,AJI]
theorem VU {z:List SV} (h:OV P t=some z):∃ zv,(zeroValue t).run P w= .ok zv w/\zv.cells=(AN E z).toArray:=by
 unfold OV at h
 split at h
 ·rename_i i hi
  split at h
  ·rename_i zv hz
   simp only[A_] at h
   subst h
   refine⟨zv,by simp [zeroValue,typeInfo,hi,hz], ?_⟩
   rw[XP]
  ·cases h
 ·cases h
theorem rK {fs:List Field} {pl:List (Nat×Nat)} (h:QA P fs=some pl):
  (fs.mapM fun f=>do pure (f.offset,←sizeOf f.type):Sem (List (Nat×Nat))).run P w= .ok pl w:=by
 induction fs generalizing pl with
 |nil=>simp only[QA,A_] at h;subst h;rfl
 |cons f r ih=>
  simp only[QA] at h
  split at h
  ·rename_i i l hi hl
   simp only[A_] at h
   subst h
   have b8:(sizeOf f.type).run P w= .ok i.size w:=by simp [sizeOf,typeInfo,hi]
   simp only[List.mapM_cons,Sem.run_bind,b8,Result.andThen,Sem.run_pure,ih hl]
  ·cases h
theorem AOQ (t:TypeId) (parts:List (Nat×SV)):(ADD P t parts).ok (ES E P (Instr.build t (parts.map fun q=>(q.1,q.2.den E)).toArray) w):=by
 unfold ADD
 split
 ·exact ok_none
 rename_i hn
 have hn:V7 parts=true:=by simpa using hn
 split
 ·rename_i z fs hz hu
  obtain⟨zv,hzr,hzc⟩:=VU (E:=E) w hz
  split
  ·rename_i pl hpl
   split
   ·rename_i cs hf
    refine BL ?_
    have h1:=rK w hpl
    have h2:=Z6 (E:=E) (fun i=>pl[i]?) z cs parts hn hf
    have h3:(fs.mapM fun f=>do pure (f.offset,←sizeOf f.type):Sem (Array (Nat×Nat))).run P w= .ok pl.toArray w:=by
     rw[Array.mapM_eq_mapM_toList,map_eq_pure_bind,Sem.run_bind,h1]
     rfl
    rw[ES]
    simp only[Instr.build,Sem.run_bind,hzr,Result.andThen,run_underlying hu,h3,hzc]
    simp only[wN,h2]
    rfl
   ·exact ok_none
  ·exact ok_none
 ·rename_i z n e hz hu
  obtain⟨zv,hzr,hzc⟩:=VU (E:=E) w hz
  split
  ·rename_i i hi
   split
   ·rename_i cs hf
    refine BL ?_
    have h2:=Z6 (E:=E) _ z cs parts hn hf
    rw[ES]
    simp only[Instr.build,Sem.run_bind,hzr,Result.andThen,run_underlying hu,sizeOf,typeInfo,hzc]
    simp [hi,h2,SV.den]
   ·exact ok_none
  ·exact ok_none
 ·exact ok_none
theorem VW {n:Int} (h:idxOf x=some n):∃ k,(x.den E)= .int k n:=by
 cases x <;> simp only[idxOf,A_,reduceCtorEq] at h
 case int k y=>subst h;exact⟨k,rfl⟩
 case u64 y=>subst h;exact⟨.u64,rfl⟩
theorem IT (b off n:Nat):(⟨b,off,none⟩:Addr).add n=⟨b,off+n,none⟩:=by
 unfold Addr.add
 split
 ·rename_i h;subst h;rfl
 ·rfl
theorem AAC (t:TypeId) (x i:SV):(Z3 P t x i).ok (ES E P (Instr.indexAt t (x.den E) (i.den E)) w):=by
 unfold Z3
 split
 ·rename_i hu hx
  split
  ·rename_i q hq
   refine J8 ?_
   rintro⟨h2,h3⟩
   obtain⟨k,hk⟩:=VW (E:=E) hx
   rw[ES,hk]
   simp [Instr.indexAt,asIntOf,SV.den,run_underlying hu,sizeOf,typeInfo,hq,h2,h3,Instr.sureAddr,IT,PC]
  ·exact ok_none
 ·rename_i hu hx
  split
  ·rename_i q hq
   split
   ·rename_i h1
    refine J8 ?_
    rintro⟨h2,h3⟩
    obtain⟨k,hk⟩:=VW (E:=E) hx
    rw[ES,hk]
    simp [Instr.indexAt,asIntOf,SV.den,run_underlying hu,sizeOf,typeInfo,hq,h1,h2,h3,Instr.sureAddr,Addr.add]
   ·exact ok_none
  ·exact ok_none
 ·exact ok_none
theorem AAD (t:TypeId) (x:SV) (f:Nat):(Z4 P t x f).ok (ES E P (Instr.fieldAt t (x.den E) f) w):=by
 unfold Z4
 split
 ·rename_i fs i off hu
  split
  ·rename_i fd hf
   split
   ·rename_i q hq
    split
    ·exact ok_none
    ·rename_i h0
     refine BL ?_
     simp [ES,Instr.fieldAt,SV.den,run_underlying hu,hf,Instr.sureAddr,fieldPlace,sizeOf,typeInfo,hq,h0,IT,PC]
   ·exact ok_none
  ·exact ok_none
 ·rename_i fs i k sz off hu
  split
  ·rename_i fd hf
   split
   ·rename_i q hq
    split
    ·exact ok_none
    ·rename_i h0
     refine BL ?_
     simp [ES,Instr.fieldAt,SV.den,run_underlying hu,hf,Instr.sureAddr,fieldPlace,sizeOf,typeInfo,hq,h0,IT,PC]
   ·exact ok_none
  ·exact ok_none
 ·exact ok_none
theorem iG {n:Int} (h:idxOf x=some n) (y:Nat) (c:BoundsCode) (h0:0<=n) (h1:n<=y):(Instr.sliceBound (x.den E) y c).run P w= .ok n.toNat w:=by
 obtain⟨k,hk⟩:=VW h
 rw[hk]
 simp [Instr.sliceBound,asIntOf,h0,h1]
variable {cap:Nat}
theorem xI {low high:Option SV} {h l:Option Int} {hn ln len d:Nat} (b:Bool) (hh:bnd high d=some (h,hn)) (hl:bnd low 0=some (l,ln)) (hd:d=len) (hb:Bd l h hn cap):
  (Instr.sliceBounds b len cap (low.map (SV.den E)) (high.map (SV.den E)) none).run P w= .ok (ln,hn,cap) w:=by
 subst hd
 unfold bnd at hh hl
 obtain⟨b1,b2⟩:=hb
 cases high with
 |none=>
  simp only[A_,DG] at hh
  obtain⟨rfl,rfl⟩:=hh
  cases low with
  |none=>
   simp only[A_,DG] at hl
   obtain⟨rfl,rfl⟩:=hl
   simp [Instr.sliceBounds]
  |some x=>
   simp only at hl
   split at hl
   ·rename_i n hx
    simp only[A_,DG] at hl
    obtain⟨rfl,rfl⟩:=hl
    simp [Instr.sliceBounds,iG w hx _ _ b2.1 b2.2]
   ·cases hl
 |some y=>
  simp only at hh
  split at hh
  ·rename_i m hy
   simp only[A_,DG] at hh
   obtain⟨rfl,rfl⟩:=hh
   cases low with
   |none=>
    simp only[A_,DG] at hl
    obtain⟨rfl,rfl⟩:=hl
    simp [Instr.sliceBounds,iG w hy _ _ b1.1 b1.2]
   |some x=>
    simp only at hl
    split at hl
    ·rename_i n hx
     simp only[A_,DG] at hl
     obtain⟨rfl,rfl⟩:=hl
     simp [Instr.sliceBounds,iG w hy _ _ b1.1 b1.2,iG w hx _ _ b2.1 b2.2]
    ·cases hl
  ·cases hh
theorem AOR (t:TypeId) (x:SV) (low high max:Option SV):(ADE P t x low high max).ok (ES E P (Instr.sliceAt t (x.den E) (low.map (SV.den E)) (high.map (SV.den E)) (max.map (SV.den E))) w):=by
 unfold ADE
 split
 ·rename_i s hu
  split
  ·rename_i h hn l ln hh hl
   refine J8 fun hb=> ?_
   simp only[ES,Instr.sliceAt,AM6,SV.den,Sem.run_bind,run_underlying hu,Result.andThen]
   simp only[Instr.slice,Sem.run_bind,run_underlying hu,Result.andThen]
   simp [xI w false hh hl rfl hb]
  ·exact ok_none
 ·exact ok_none
theorem AOS (t:TypeId) (x i:SV):(ADF P t x i).ok (ES E P (Instr.index t (x.den E) (i.den E)) w):=by
 unfold ADF
 split
 ·rename_i s n hu hx
  refine J8 ?_
  rintro⟨h0,h1⟩
  obtain⟨k,hk⟩:=VW hx
  have DY:n.toNat<s.size:=by omega
  have hb:s[n.toNat]? =some s[n.toNat]:=getElem?_pos s n.toNat DY
  have UB :s.data[n.toNat]? =some s[n.toNat]:=by
   have:n.toNat<s.data.size:=DY
   rw[Array.getElem?_eq_getElem this];rfl
  rw[ES,hk]
  simp only[Instr.index,asIntOf,SV.den,Sem.run_bind,Sem.run_pure,Result.andThen,run_underlying hu,h0,HP,hb,YU,UB]
  rfl
 ·exact ok_none
theorem AW9 (t:TypeId) (ts:List TypeId) (x:SV) (xs:List Value) (r:TypeId):(AW1 P t x).ok (ES E P (Builtin.len_ (t::ts).toArray r ((x.den E)::xs).toArray) w):=by
 unfold AW1
 split
 ·rename_i hu
  exact BL (by simp [ES,Builtin.len_,run_underlying hu,SV.den,goInt])
 ·rename_i hu
  exact BL (by simp [ES,Builtin.len_,run_underlying hu,SV.den,goInt])
 ·exact ok_none
theorem AGI (b:Builtin) (ts:List TypeId) (xs:List SV) (r:TypeId) (cs:Array Bool):
  (oM P b ts xs).ok fun v=>(builtin b ts.toArray r cs (xs.map (SV.den E)).toArray).run P w= .ok (.value (v.den E)) w:=by
 unfold oM
 split
 ·rename_i t ts x xs
  have h:=AW9 (E:=E) (P:=P) w t ts x (xs.map (SV.den E)) r
  intro p v he hp
  have:=h p v he hp
  rw[ES] at this
  simp only[JS,builtin,Sem.run_bind,this,Result.andThen]
  rfl
 ·split
  ·rename_i hk;subst hk
   refine BL ?_
   simp [builtin,Builtin.max_,Builtin.max2,SV.den]
  ·exact ok_none
 ·split
  ·rename_i hk;subst hk
   refine BL ?_
   simp [builtin,Builtin.min_,Builtin.min2,SV.den]
  ·exact ok_none
 ·rename_i a b
  refine J8 fun h=> ?_
  obtain⟨o,ho⟩:=ALK.1 h
  have ho' :=ho
  unfold FD at ho'
  cases o <;> simp [builtin,Builtin.max_,Builtin.max2,SV.den,ho',ho,A2Y,iF] <;> rfl
 ·rename_i a b
  refine J8 fun h=> ?_
  obtain⟨o,ho⟩:=ALK.1 h
  have ho' :=ho
  unfold FD at ho'
  cases o <;> simp [builtin,Builtin.min_,Builtin.min2,SV.den,ho',ho,A2Z,iF] <;> rfl
 ·exact ok_none
theorem Pu.ok.mono {r:Pu} {R':SV->Prop} (h:r.ok R) (hr:∀ v,R v->R' v):r.ok R' :=fun p v he hp=>hr v (h p v he hp)
theorem J9 {s:Sem Value} (h:ES E P s w v):(do pure (Next.value (<-s)):Sem Next).run P w= .ok (.value (v.den E)) w:=by
 rw[Sem.run_bind,h];rfl
theorem AOT (ρ:Operand->SV) (op:Op):
  (dX P ρ op).ok fun v=>∀ o:Oper,o.op=op->(execOp (fun x=>((ρ x).den E)) o).run P w= .ok (.value (v.den E)) w:=by
 unfold dX
 split
 ·exact BL fun o ho=>by simp [execOp,ho]
 ·exact BL fun o ho=>by simp [execOp,ho]
 ·split
  ·rename_i t hc
   refine BL fun o ho=> ?_
   simp [execOp,ho,hc,SV.den,asBool]
   cases t <;> simp
  ·exact ok_none
 ·rename_i op' t x y _
  intro p v he hp o ho
  by_cases hag:∃ xs ys,ρ x= .agg xs/\ρ y= .agg ys
  ·obtain⟨xs,ys,hx,hy⟩:=hag
   rw[hx,hy] at he
   have h:=AW8 (E:=E) (P:=P) w op' t xs ys x y p v he hp
   simp only[execOp,ho,hx,hy]
   exact J9 w h
  have he:ADB P op' t (ρ x) (ρ y)=some (p,v):=by
   rw[<-he,ARO]
   intro xs ys h1 h2
   exact absurd ⟨xs,ys,h1,h2⟩ hag
  have h:=AW7 (E:=E) (P:=P) w op' t (ρ x) (ρ y) p v he hp
  obtain⟨h1,h2⟩:=AJF he
  have hg:=AGE (P:=P) w op' t x y ((ρ y).den E) h1 h2
  rw[ES] at h
  simp only[execOp,ho]
  refine J9 w ?_
  rw[ES,Sem.run_bind,hg]
  exact h
 ·exact (A0D w _ _).mono fun v h o ho=>by simp only[execOp,ho];exact J9 w h
 ·exact (ARR w _ _ _).mono fun v h o ho=>by simp only[execOp,ho];exact J9 w h
 ·exact (AGG w _ _).mono fun v h o ho=>by simp only[execOp,ho];exact J9 w h
 ·exact (AOP w _ _ _).mono fun v h o ho=>by simp only[execOp,ho];exact J9 w h
 ·rename_i t parts
  refine (AOQ (E:=E) w _ _).mono fun v h o ho=> ?_
  simp only[execOp,ho]
  refine J9 w ?_
  have:(parts.map fun (i,x)=>(i,((ρ x).den E)))=(List.map (fun q=>(q.1,q.2.den E)) (List.map (fun q=>(q.1,ρ q.2)) parts.toList)).toArray:=by
   rw[XB];simp [ABC]
   rw[<-lO]
  rw[this]
  exact h
 ·exact (AAC w _ _ _).mono fun v h o ho=>by simp only[execOp,ho];exact J9 w h
 ·exact (AAD w _ _ _).mono fun v h o ho=>by simp only[execOp,ho];exact J9 w h
 ·refine (AOR (E:=E) w _ _ _ _ _).mono fun v h o ho=> ?_
  simp only[execOp,ho]
  refine J9 w ?_
  simpa [Option.map_map,ABC] using h
 ·exact (AOS w _ _ _).mono fun v h o ho=>by simp only[execOp,ho];exact J9 w h
 ·split
  ·rename_i i k sz off hx
   exact BL fun o ho=>by simp [execOp,ho,hx,SV.den]
  ·rename_i i off hx
   exact BL fun o ho=>by simp [execOp,ho,hx,SV.den]
  ·rename_i f cs hx
   exact BL fun o ho=>by simp [execOp,ho,hx,SV.den]
  ·exact ok_none
 ·rename_i fn first captured
  split
  ·rename_i f
   refine BL fun o ho=> ?_
   have e:(captured.map fun x=>((ρ x).den E))=((captured.toList.map ρ).map (SV.den E)).toArray:=by
    rw[XB,←lO];rfl
   simp only[execOp,ho,Instr.makeFunc,SV.den,GM]
   rw[e]
   simp
  ·exact ok_none
 ·rename_i b args ts
  intro p v he hp o ho
  have h:=fun cs=>AGI (E:=E) (P:=P) w b ts.toList (args.toList.map ρ) o.type cs p v he hp
  simp only[ARD] at h
  simp only[execOp,ho,resolve,invoke,Sem.run_bind,Sem.run_pure,Result.andThen]
  have e:(Array.map (fun x=>((ρ x).den E)) args)=((args.toList.map ρ).map (SV.den E)).toArray:=by
   rw[XB,←lO];rfl
  rw[e]
  exact h _
 ·exact ok_none
end
end
end Go.V3
namespace Go.V3
open Go
abbrev Tb:Type:=List (Nat×Array Value)
variable {TB:Tb}
inductive Ty where
 |int (k:IntKind)
 |u64|bool|str|UA
 |pair (a b:Ty)
 |slice (a:Ty)
 |kv
 |nf
 |AAE
 |sl (a:Ty)
 deriving DecidableEq
@[reducible] def Ty.T:Ty->Type
 | .int _=>Int
 | .u64=>BitVec 64
 | .bool=>Bool
 | .str=>ByteArray
 | .UA=>Nat
 | .pair a b=>a.T×b.T
 | .slice a=>List a.T
 | .kv=>Int×Bool
 | .nf=>Option Nat
 | .AAE=>Unit
 | .sl a=>List a.T
def Ty.sz:Ty->Nat
 | .pair a b=>a.sz+b.sz
 |_=>1
def Ty.HH:Ty->Nat
 | .pair a b=>a.HH+b.HH
 | .slice _=>1
 | .nf=>1
 | .sl _=>1
 |_=>0
def Ty.A0E:(t:Ty)->t.T
 | .int _=>(0:Int)
 | .u64=>0#64
 | .bool=>false
 | .str=>⟨#[]⟩
 | .UA=>(0:Nat)
 | .pair a b=>(a.A0E,b.A0E)
 | .slice _=>[]
 | .kv=>((0:Int),false)
 | .nf=>(none:Option Nat)
 | .AAE=>()
 | .sl _=>[]
def gd (t:Ty) (xs:List t.T) (k:Nat):t.T:=xs.getD k t.A0E
def BF {α:Type} (xs:List α) (lo n:Nat):List α:=(xs.drop lo).take n
def I1:(t:Ty)->t.T->Nat->List SV
 | .int k,x,_=>[.int k x]
 | .u64,x,_=>[.u64 x]
 | .bool,x,_=>[.bool x]
 | .str,x,_=>[.str x]
 | .UA,x,_=>[.UA x]
 | .pair a b,x,n=>I1 a x.1 n++I1 b x.2 (n+a.HH)
 | .slice _,_,n=>[.NT n]
 | .kv,x,_=>[.int .i64 x.1]
 | .nf,x,n=>[.nf x n]
 | .AAE,_,_=>[.raw .nilIface]
 | .sl _,_,n=>[.NT n]
inductive A9 where
 |MB
 |dead
 |box (cs:List SV)
 |row (t:Ty) (xs:List t.T)
 |shr (t:Ty) (xs:List t.T)
 |deep (t:Ty) (xss:List (List t.T)) (h:Option (Nat×Nat))
 |map (xs:List (Int×Bool))
 |ptr (j:Nat)
 |tree (t1 t2:Ty) (xs:List (List t1.T×List t2.T))
def A9.IL:A9->Bool
 | .MB=>true
 |_=>false
def Ty.u6:Ty->Bool
 | .slice _=>true
 | .kv=>true
 | .pair (.slice _) (.slice _)=>true
 |_=>false
def Ty.A0F:Ty->Bool
 | .kv=>true
 |_=>false
def J_:(a:Ty)->List a.T->A9
 | .slice b,x=> .deep b x none
 | .int k,x=> .row (.int k) x
 | .u64,x=> .row .u64 x
 | .bool,x=> .row .bool x
 | .str,x=> .row .str x
 | .UA,x=> .row .UA x
 | .pair (.slice a) (.slice b),x=> .tree a b x
 | .pair a b,x=> .row (.pair a b) x
 | .kv,x=> .map x
 | .nf,x=> .row .nf x
 | .AAE,x=> .row .AAE x
 | .sl b,x=> .row (.sl b) x
def CA (own:Bool):(t:Ty)->t.T->List A9
 | .int _,_=>[]
 | .u64,_=>[]
 | .bool,_=>[]
 | .str,_=>[]
 | .UA,_=>[]
 | .pair a b,x=>CA own a x.1++CA own b x.2
 | .slice a,x=>[match own with|true=>J_ a x|false=> .shr a x]
 | .kv,_=>[]
 | .nf,_=>[.dead]
 | .AAE,_=>[]
 | .sl a,x=>[.shr a x]
theorem MX {a:Ty} (h:a.u6=false) (x:List a.T):J_ a x= .row a x:=by
 cases a with
 |pair a b=>cases a <;> cases b <;> first|rfl|cases h
 |_=>first|rfl|cases h
theorem mM (a:Ty) (x:List a.T):(J_ a x).IL=false:=by
 cases a with
 |pair a b=>cases a <;> cases b <;> rfl
 |_=>rfl
def enc:(t:Ty)->t.T->(Nat->Nm)->List Value
 | .int k,x,_=>[.int k x]
 | .u64,x,_=>[.int .u64 ((x:BitVec 64).toNat:Int)]
 | .bool,x,_=>[.bool x]
 | .str,x,_=>[.string x]
 | .UA,x,_=>[.float .f64 x]
 | .pair a b,x,m=>enc a x.1 m++enc b x.2 (fun k=>m (a.HH+k))
 | .slice _,_,m=>[.slice (m 0).ad (m 0).len (m 0).cap]
 | .kv,x,_=>[.int .i64 x.1]
 | .nf,x,m=>[.float .f64 ((x:Option Nat).getD (XN (m 0).CN))]
 | .AAE,_,_=>[.nilIface]
 | .sl _,_,m=>[.slice (m 0).ad (m 0).len (m 0).cap]
theorem XQ (E:Env) (t:Ty) (x:t.T) (n:Nat):AN E (I1 t x n)=enc t x (fun k=>E.nm (n+k)):=by
 induction t generalizing n with
 |pair a b W5 W6=>simp [I1,enc,G7,W5,W6,PC]
 |_=>rfl
theorem IH (t:Ty) (x:t.T) {f g:Nat->Nm} (h:∀ k,k<t.HH->f k=g k):enc t x f=enc t x g:=by
 induction t generalizing f g with
 |pair a b W5 W6=>
  simp only[enc]
  rw[W5 x.1 (fun k hk=>h k (by simp [Ty.HH];omega)),W6 x.2 (fun k hk=>h _ (by simp [Ty.HH];omega))]
 |slice a=>simp only[enc];rw[h 0 (by simp [Ty.HH])]
 |sl a=>simp only[enc];rw[h 0 (by simp [Ty.HH])]
 |nf=>simp only[enc];rw[h 0 (by simp [Ty.HH])]
 |_=>rfl
theorem AJJ (t:Ty) (x:t.T) (f:Nat->Nm):(enc t x f).length=t.sz:=by
 induction t generalizing f with
 |pair a b W5 W6=>simp [enc,Ty.sz,W5,W6]
 |_=>rfl
theorem FI (t:Ty) (x:t.T) (n:Nat):(I1 t x n).length=t.sz:=by
 induction t generalizing n with
 |pair a b W5 W6=>simp [I1,Ty.sz,W5,W6]
 |_=>rfl
theorem BJ (o:Bool) (t:Ty) (x:t.T):(CA o t x).length=t.HH:=by
 induction t with
 |pair a b W5 W6=>simp [CA,Ty.HH,W5,W6]
 |_=>rfl
theorem AJK (t:Ty):0<t.sz:=by
 induction t with
 |pair a b W5 W6=>simp [Ty.sz];omega
 |_=>simp [Ty.sz]
def BT (arr:Array Value) (off n:Nat):List Value:=(arr.toList.drop off).take n
def RowsIn {α:Type} (R:α->List Value->Prop) (sz:Nat) (arr:Array Value) (off:Nat) (xs:List α):Prop:=
 ∀ i x,xs[i]? =some x->R x (BT arr (off+i*sz) sz)
def rA {α:Type} (R:α->List Value->Prop) (sz:Nat) (G:Nat->Prop) (w:World) (m:Nm) (xs:List α):Prop:=
 m.len=xs.length/\m.len<=m.cap/\(xs=[]\/(m.nil=false/\G m.CN/\∃ arr ty fz,w.heap[m.CN]? =some (.cells arr ty fz)/\RowsIn R sz arr m.off xs))
def Rp (G:Nat->Prop) (w:World):(t:Ty)->t.T->List Value->Prop
 | .int k,x,vs=>vs=[.int k x]
 | .u64,x,vs=>vs=[.int .u64 ((x:BitVec 64).toNat:Int)]
 | .bool,x,vs=>vs=[.bool x]
 | .str,x,vs=>vs=[.string x]
 | .UA,x,vs=>vs=[.float .f64 x]
 | .pair a b,x,vs=>∃ v1 v2,vs=v1++v2/\Rp G w a x.1 v1/\Rp G w b x.2 v2
 | .slice a,x,vs=>∃ m:Nm,vs=[.slice m.ad m.len m.cap]/\rA (Rp G w a) a.sz G w m x
 | .kv,x,vs=>vs=[.int .i64 x.1]
 | .nf,x,vs=>∃ k,vs=[.float .f64 ((x:Option Nat).getD (XN k))]
 | .AAE,_,vs=>vs=[.nilIface]
 | .sl a,x,vs=>∃ m:Nm,vs=[.slice m.ad m.len m.cap]/\rA (Rp G w a) a.sz G w m x
variable {off:Nat} {α:Type}
theorem RowsIn.imp {R R' :α->List Value->Prop} {sz:Nat} {arr:Array Value} {xs:List α} (h:RowsIn R sz arr off xs) (hr:∀ x vs,R x vs->R' x vs):RowsIn R' sz arr off xs:=
 fun i x hx=>hr _ _ (h i x hx)
variable {m:Nm} {w w':World} {G G':Nat->Prop}
theorem rA.mono {R R' :α->List Value->Prop} {sz:Nat} {xs:List α} (h:rA R sz G w m xs) (hr:∀ x vs,R x vs->R' x vs)
  (hw:∀ b,G b->w'.heap[b]? =w.heap[b]?) (hg:∀ b,G b->G' b):rA R' sz G' w' m xs:=by
 obtain⟨h1,h0,h2⟩:=h
 refine⟨h1,h0,h2.imp id ?_⟩
 rintro⟨a,b,arr,ty,fz,c,d⟩
 exact⟨a,hg _ b,arr,ty,fz,by rw[hw _ b];exact c,d.imp hr⟩
theorem Rp.mono {G G' :Nat->Prop} {w w' :World} (hw:∀ b,G b->w'.heap[b]? =w.heap[b]?) (hg:∀ b,G b->G' b) (t:Ty) (x:t.T) (vs:List Value) (h:Rp G w t x vs):Rp G' w' t x vs:=by
 induction t generalizing vs with
 |pair a b W5 W6=>
  obtain⟨v1,v2,h0,h1,h2⟩:=h
  exact⟨v1,v2,h0,W5 _ _ h1,W6 _ _ h2⟩
 |slice a ih=>
  obtain⟨m,h0,h1⟩:=h
  exact⟨m,h0,h1.mono (fun x vs hx=>ih x vs hx) hw hg⟩
 |sl a ih=>
  obtain⟨m,h0,h1⟩:=h
  exact⟨m,h0,h1.mono (fun x vs hx=>ih x vs hx) hw hg⟩
 |_=>exact h
theorem Rp.length {G:Nat->Prop} {w:World} (t:Ty) (x:t.T) (vs:List Value) (h:Rp G w t x vs):vs.length=t.sz:=by
 induction t generalizing vs with
 |pair a b W5 W6=>
  obtain⟨v1,v2,rfl,h1,h2⟩:=h
  simp [Ty.sz,W5 _ _ h1,W6 _ _ h2]
 |slice a=>obtain⟨m,rfl,_⟩:=h;rfl
 |sl a=>obtain⟨m,rfl,_⟩:=h;rfl
 |nf=>obtain⟨m,rfl⟩:=h;rfl
 |_=>(simp only[Rp] at h;rw[h];rfl)
def A0G (G:Nat->Prop) (w:World) (m:Nm):A9->Prop
 | .shr a xs=>rA (Rp G w a) a.sz G w m xs
 | .dead=>True
 |_=>False
theorem Rp.out (t:Ty) (x:t.T) (vs:List Value) (h:Rp G w t x vs):∃ m:Nat->Nm,vs=enc t x m/\∀ k e,(CA false t x)[k]? =some e->A0G G w (m k) e:=by
 induction t generalizing vs with
 |pair a b W5 W6=>
  obtain⟨v1,v2,rfl,h1,h2⟩:=h
  obtain⟨m1,e1,s1⟩:=W5 _ _ h1
  obtain⟨m2,e2,s2⟩:=W6 _ _ h2
  refine⟨fun k=>if k<a.HH then m1 k else m2 (k-a.HH), ?_, ?_⟩
  ·simp only[enc]
   rw[e1,e2]
   congr 1
   ·exact IH _ _ fun k hk=>by simp [hk]
   ·exact IH _ _ fun k hk=>by
     have:¬(a.HH+k<a.HH):=by omega
     simp [this]
  ·intro k e he
   simp only[CA] at he
   by_cases hk:k<a.HH
   ·rw[V4 (by rw[BJ];exact hk)] at he
    simp only[hk,HP];exact s1 k e he
   ·rw[SI (by rw[BJ];omega),BJ] at he
    simp only[hk,KK];exact s2 _ e he
 |slice a=>
  obtain⟨m,rfl,h1⟩:=h
  refine⟨fun _=>m,rfl, ?_⟩
  intro k e he
  cases k with
  |zero=>simp only[CA,MU,A_] at he;subst he;exact h1
  |succ k=>simp [CA] at he
 |sl a=>
  obtain⟨m,rfl,h1⟩:=h
  refine⟨fun _=>m,rfl, ?_⟩
  intro k e he
  cases k with
  |zero=>simp only[CA,MU,A_] at he;subst he;exact h1
  |succ k=>simp [CA] at he
 |nf=>
  obtain⟨k0,rfl⟩:=h
  refine⟨fun _=>⟨k0,0,true,0,0,none⟩,rfl, ?_⟩
  intro k e he
  cases k with
  |zero=>simp only[CA,MU,A_] at he;subst he;trivial
  |succ k=>simp [CA] at he
 |_=>exact⟨fun _=>⟨0,0,true,0,0,none⟩,h,fun k e he=>by simp [CA] at he⟩
theorem Rp.mk (t:Ty) (x:t.T) (m:Nat->Nm) (h:∀ k e,(CA false t x)[k]? =some e->A0G G w (m k) e):Rp G w t x (enc t x m):=by
 induction t generalizing m with
 |pair a b W5 W6=>
  refine⟨_,_,rfl,W5 x.1 m ?_,W6 x.2 _ ?_⟩
  ·intro k e he
   have hk:k<a.HH:=by
    rcases IG k (CA false a x.1).length with h1|h1
    ·rwa [BJ] at h1
    ·rw[IF h1] at he;cases he
   exact h k e (by simp only[CA];rw[V4 (by rw[BJ];exact hk)];exact he)
  ·intro k e he
   exact h (a.HH+k) e (by simp only[CA];rw[SI (by rw[BJ];omega),BJ];simpa using he)
 |slice a=>exact⟨m 0,rfl,h 0 _ rfl⟩
 |sl a=>exact⟨m 0,rfl,h 0 _ rfl⟩
 |nf=>exact⟨_,rfl⟩
 |_=>rfl
structure EX (TB:Tb) where
 w0:World
 io:Nat->Prop
 g0:Nat->Prop
def EX.Old (c:EX TB) (b:Nat):Prop:=b<c.w0.heap.size/\¬c.io b
def EX.Tab (c:EX TB):Prop:=∀ q∈TB,c.Old q.1/\∃ ty fz,c.w0.heap[q.1]? =some (.cells q.2 ty fz)
def Own {α:Type} (R:α->List Value->Prop) (sz:Nat) (c:EX TB) (G:Nat->Prop) (w:World) (m:Nm) (xs:List α):Prop:=
 m.len=xs.length/\True/\((m.nil=true/\xs=[]/\m.cap=0)∨
  (m.nil=false/\¬G m.CN/\¬c.Old m.CN/\xs.length<=m.cap/\∃ arr ty,w.heap[m.CN]? =some (.cells arr ty (m.fr arr.size))/\m.off+m.cap*sz<=arr.size/\RowsIn R sz arr m.off xs))
variable {c:EX TB}
theorem iH {R:α->List Value->Prop} {sz:Nat} {xs:List α} (h:Own R sz c G w m xs):m.len<=m.cap:=by
 obtain⟨h1,h2,h3⟩:=h
 rcases h3 with ⟨_,rfl,h4⟩|⟨_,_,_,h7,_⟩
 ·simp at h1;omega
 ·omega
def GN {α:Type} (R:α->List Value->Prop) (sz:Nat) (w:World) (m:Nm) (xs:List α):Prop:=
 m.len=xs.length/\True/\((m.nil=true/\xs=[]/\m.cap=0)∨
  (m.nil=false/\xs.length<=m.cap/\∃ arr ty,w.heap[m.CN]? =some (.cells arr ty (m.fr arr.size))/\m.off+m.cap*sz<=arr.size/\RowsIn R sz arr m.off xs))
abbrev AM:=List (Nat×A9)
def look (L:AM) (n:Nat):Option A9:=match L[n]? with
 |some q=>some q.2
 |none=>none
def Al (L:AM) (n:Nat):Prop:=∃ e,look L n=some e/\e.IL=false
mutual
def SV.wf (E:Env) (L:AM):SV->Prop
 | .loc i _=>Al L i
 | .NT i=>Al L i
 | .sub i lo n _=>Al L i/\lo+n<=(E.nm i).len
 | .el i k _ _=>Al L i/\k<(E.nm i).len/\(E.nm i).nil=false
 | .unk _=>False
 | .nf _ i=>Al L i
 | .agg cs=>MT E L cs
 | .tup vs=>MT E L vs
 | .mpv i=>Al L i
 | .clo _ cs=>MT E L cs
 | .tsl i k q=>Al L i/\k<(E.nm i).len/\q<2
 | .tel i k q j=>Al L i/\k<(E.nm i).len/\q<2/\j<((E.nm i).hn (k*2+q)).len
 |_=>True
def MT (E:Env) (L:AM):List SV->Prop
 | []=>True
 |v::r=>v.wf E L/\MT E L r
end
variable {L:AM} {E:Env}
theorem B1 {l:List SV}:MT E L l↔∀ v∈l,v.wf E L:=by
 induction l with
 |nil=>simp [MT]
 |cons v r ih=>simp [MT,ih]
mutual
theorem Z7 {E E' :Env} {L L' :AM} (hL:∀ n,Al L n->Al L' n) (hE:∀ n,Al L n->E'.nm n=E.nm n):∀ (v:SV),v.wf E L->v.wf E' L' /\v.den E' =v.den E
 | .loc i _,h=>⟨hL _ h,by simp only[SV.den];rw[hE _ h]⟩
 | .NT i,h=>⟨hL _ h,by simp only[SV.den];rw[hE _ h]⟩
 | .sub i lo n sz,h=>⟨⟨hL _ h.1,by rw[hE _ h.1];exact h.2⟩,by simp only[SV.den];rw[hE _ h.1]⟩
 | .el i k sz off,h=>⟨⟨hL _ h.1,by rw[hE _ h.1];exact h.2.1,by rw[hE _ h.1];exact h.2.2⟩,by simp only[SV.den];rw[hE _ h.1]⟩
 | .unk _,h=>h.elim
 | .agg cs,h=>by
  obtain⟨h1,h2⟩:=MC hL hE cs h
  exact⟨h1,by simp only[SV.den];rw[h2]⟩
 | .tup cs,h=>by
  obtain⟨h1,h2⟩:=MC hL hE cs h
  exact⟨h1,by simp only[SV.den];rw[h2]⟩
 | .mpv i,h=>⟨hL _ h,by simp only[SV.den];rw[hE _ h]⟩
 | .tsl i k q,h=>⟨⟨hL _ h.1,by rw[hE _ h.1];exact h.2⟩,by simp only[SV.den];rw[hE _ h.1]⟩
 | .tel i k q j,h=>⟨⟨hL _ h.1,by rw[hE _ h.1];exact h.2⟩,by simp only[SV.den];rw[hE _ h.1]⟩
 | .clo _ cs,h=>by
  obtain⟨h1,h2⟩:=MC hL hE cs h
  exact⟨h1,by simp only[SV.den];rw[h2]⟩
 | .int _ _,_=>⟨trivial,rfl⟩
 | .u64 _,_=>⟨trivial,rfl⟩
 | .bool _,_=>⟨trivial,rfl⟩
 | .mJ _,_=>⟨trivial,rfl⟩
 | .prop _ _,_=>⟨trivial,rfl⟩
 | .str _,_=>⟨trivial,rfl⟩
 | .UA _,_=>⟨trivial,rfl⟩
 | .nf _ i,h=>⟨hL _ h,by simp only[SV.den];rw[hE _ h]⟩
 | .LW,_=>⟨trivial,rfl⟩
 | .ptr _,_=>⟨trivial,rfl⟩
 | .raw _,_=>⟨trivial,rfl⟩
theorem MC {E E' :Env} {L L' :AM} (hL:∀ n,Al L n->Al L' n) (hE:∀ n,Al L n->E'.nm n=E.nm n):∀ (l:List SV),MT E L l->MT E' L' l/\AN E' l=AN E l
 | [],_=>⟨trivial,rfl⟩
 |v::r,h=>by
  obtain⟨h1,h2⟩:=Z7 hL hE v h.1
  obtain⟨h3,h4⟩:=MC hL hE r h.2
  exact⟨⟨h1,h3⟩,by simp only[AN];rw[h2,h4]⟩
end
def A9.own:A9->Nm->Option Nat
 | .box _,m=>some m.CN
 | .row _ _,m=>if m.nil=true then none else some m.CN
 | .map _,m=>some m.CN
 |_,_=>none
def A9.UD:A9->Bool
 | .deep _ _ _=>true
 |_=>false
def A9.QC:A9->Bool
 | .tree _ _ _=>true
 |_=>false
def A9.ow (e:A9) (E:Env) (n b:Nat):Prop:=e.own (E.nm n)=some b\/(e.UD=true/\b∈E.ins.l n)\/(e.QC=true/\b∈(E.nm n).ins.l)
structure F3 (c:EX TB) (G:Nat->Prop) (w:World) (m:Nm) (t1 t2:Ty) (xs:List (List t1.T×List t2.T)):Prop where
 len:m.len=xs.length
 off:m.off=0
 nd:m.ins.l.Nodup
 all:∀ b∈m.ins.l,¬G b/\¬c.Old b/\∃ arr ty fz,w.heap[b]? =some (.cells arr ty fz)
 cs:(m.nil=true/\xs=[]/\m.cap=0)\/(m.nil=false/\m.CN∈m.ins.l/\xs.length<=m.cap/\∃ (arr:Array Value) (ty:TypeId),w.heap[m.CN]? =some (.cells arr ty (0,0))/\arr.size=m.cap*2∧
  (∀ k,k<xs.length*2->arr[k]? =some (.slice (m.hn k).ad (m.hn k).len (m.hn k).cap))∧
  (∀ k x,xs[k]? =some x->GN (Rp G w t1) t1.sz w (m.hn (k*2)) x.1/\GN (Rp G w t2) t2.sz w (m.hn (k*2+1)) x.2)∧
  (∀ k,k<xs.length*2->(m.hn k).nil=false->(m.hn k).CN∈m.ins.l/\(m.hn k).CN≠m.CN)∧
  (∀ k k',k<xs.length*2->k' <xs.length*2->k≠k' ->(m.hn k).nil=false->(m.hn k').nil=false->(m.hn k).CN≠(m.hn k').CN))
structure GI (c:EX TB) (G:Nat->Prop) (w:World) (E:Env) (L:AM) (m:Nm) (l:List Nat) (t:Ty) (xss:List (List t.T)) (h:Option (Nat×Nat)):Prop where
 len:m.len=xss.length
 off:m.off=0
 nd:l.Nodup
 all:∀ b∈l,¬G b/\¬c.Old b/\∃ arr ty fz,w.heap[b]? =some (.cells arr ty fz)
 cs:(m.nil=true/\xss=[]/\m.cap=0)\/(m.nil=false/\m.CN∈l/\xss.length<=m.cap/\∃ (arr:Array Value) (ty:TypeId) (hs:Nat->Nm),w.heap[m.CN]? =some (.cells arr ty (0,0))/\arr.size=m.cap∧
  (∀ k,k<xss.length->arr[k]? =some (.slice (hs k).ad (hs k).len (hs k).cap))∧
  (∀ k xs,xss[k]? =some xs->(∀ j,h≠some (k,j))->GN (Rp G w t) t.sz w (hs k) xs/\((hs k).nil=false->(hs k).CN∈l/\(hs k).CN≠m.CN))∧
  (∀ k k',k<xss.length->k' <xss.length->k≠k' ->(∀ j,h≠some (k,j))->(∀ j,h≠some (k',j))->(hs k).nil=false->(hs k').nil=false->(hs k).CN≠(hs k').CN)∧
  (∀ k j,h=some (k,j)->k<xss.length->hs k=E.nm j/\Al L j))
variable {t2:Ty}
theorem F3.cfg {c':EX TB} {t1:Ty} {xs:List (List t1.T×List t2.T)} (k:F3 c G w m t1 t2 xs) (hc:∀ b∈m.ins.l,¬c'.Old b):F3 c' G w m t1 t2 xs:=
 ⟨k.len,k.off,k.nd,fun b hb=>⟨(k.all b hb).1,hc b hb,(k.all b hb).2.2⟩,k.cs⟩
theorem F3.nil {t1:Ty} (k:F3 c G w m t1 t2 []) (hg:∀ b,G' b->G b):F3 c G' w m t1 t2 []:=by
 refine⟨k.len,k.off,k.nd,fun b hb=>⟨fun hx=>(k.all b hb).1 (hg _ hx),(k.all b hb).2⟩, ?_⟩
 rcases k.cs with hc|⟨q1,q2,q3,arr,ty,q4,q5,q6,q7,q8,q9⟩
 ·exact .inl hc
 ·exact .inr ⟨q1,q2,q3,arr,ty,q4,q5,q6,fun k x hk=>by simp at hk,q8,q9⟩
def AMD (es:Array MapEntry) (xs:List (Int×Bool)):Prop:=es.toList.map (fun e=>(e.key,e.val))=xs.map (fun q=>((.int .i64 q.1:Value),(.bool q.2:Value)))
def bM (c:EX TB) (G:Nat->Prop) (w:World) (E:Env) (L:AM) (m:Nm):A9->Prop
 | .MB=>True
 | .dead=>True
 | .box cs=>m.nil=false/\m.off=m.pp.pre.length/\¬G m.CN/\¬c.Old m.CN/\(∃ ty,w.heap[m.CN]? =some (.cells (m.arr (AN E cs)) ty (0,0)))/\MT E L cs
 | .row t xs=>Own (Rp G w t) t.sz c G w m xs
 | .shr t xs=>rA (Rp G w t) t.sz G w m xs
 | .deep _ _ _=>True
 | .map xs=>m.nil=false/\m.off=0/\¬G m.CN/\¬c.Old m.CN/\∃ es ck,w.heap[m.CN]? =some (.map es ck)/\AMD es xs
 | .tree t1 t2 xs=>F3 c G w m t1 t2 xs
 | .ptr j=>c.Old m.CN/\(∃ arr ty fz,c.w0.heap[m.CN]? =some (.cells arr ty fz)/\arr[m.off]? =some (.pointer (some ⟨(E.nm j).CN,(E.nm j).off,none⟩)))/\Al L j
structure AT (c:EX TB) (G:Nat->Prop) (w:World) (E:Env) (L:AM):Prop where
 rest:Rest c.w0 w
 size:c.w0.heap.size<=w.heap.size
 old:∀ b,c.Old b->w.heap[b]? =c.w0.heap[b]?
 gin:∀ b,G b->b<w.heap.size
 glo:∀ b,c.g0 b->G b
 ghi:∀ b,G b->c.g0 b\/¬c.Old b
 MQ:∀ n e,look L n=some e->bM c G w E L (E.nm n) e
 dp:∀ n t xss h,look L n=some (.deep t xss h)->GI c G w E L (E.nm n) (E.ins.l n) t xss h
 inj:∀ n k e f b,n≠k->look L n=some e->look L k=some f->e.ow E n b->¬f.ow E k b
 tab:c.Tab
variable {b:Nat}
theorem UE {o:Obj} (h:w.heap[b]? =some o):b<w.heap.size:=by
 rcases IG b w.heap.size with h1|h1
 ·exact h1
 ·rw[wV h1] at h;cases h
theorem GN.mono {R R' :α->List Value->Prop} {sz:Nat} {xs:List α} (h:GN R sz w m xs) (hr:∀ x vs,R x vs->R' x vs) (hw:m.nil=false->w'.heap[m.CN]? =w.heap[m.CN]?):GN R' sz w' m xs:=by
 obtain⟨h1,h2,h3⟩:=h
 refine⟨h1,h2,h3.imp id ?_⟩
 rintro⟨h4,h5,arr,ty,h6,h7,h8⟩
 exact⟨h4,h5,arr,ty,by rw[hw h4];exact h6,h7,h8.imp hr⟩
theorem GI.mono {c:EX TB} {G G' :Nat->Prop} {w w' :World} {E E' :Env} {L L' :AM} {m:Nm} {l:List Nat} {t:Ty} {xss:List (List t.T)} {h:Option (Nat×Nat)} (k:GI c G w E L m l t xss h)
  (hL:∀ n,Al L n->Al L' n) (hE:∀ n,Al L n->E'.nm n=E.nm n) (hw:∀ b,G b->w'.heap[b]? =w.heap[b]?) (hg:∀ b,G b->G' b)
  (ho:∀ b∈l,w'.heap[b]? =w.heap[b]?∧¬G' b):GI c G' w' E' L' m l t xss h:=by
 refine⟨k.len,k.off,k.nd,fun b hb=>⟨(ho b hb).2,(k.all b hb).2.1, ?_⟩,k.cs.imp id ?_⟩
 ·rw[(ho b hb).1];exact (k.all b hb).2.2
 ·rintro⟨h1,h2,h3,arr,ty,hs,h4,h5,h6,h7,h8,h9⟩
  refine⟨h1,h2,h3,arr,ty,hs,by rw[(ho _ h2).1];exact h4,h5,h6,fun k xs hk hj=> ?_,h8,fun k j hk hl=> ?_⟩
  ·obtain⟨q1,q2⟩:=h7 k xs hk hj
   exact⟨q1.mono (fun x vs hx=>Rp.mono hw hg t x vs hx) (fun hn=>(ho _ (q2 hn).1).1),q2⟩
  ·obtain⟨q1,q2⟩:=h9 k j hk hl
   exact⟨by rw[hE _ q2];exact q1,hL _ q2⟩
variable {l:List Nat}
theorem GI.cfg {c':EX TB} {t:Ty} {xss:List (List t.T)} {h:Option (Nat×Nat)} (k:GI c G w E L m l t xss h)
  (hc:∀ b∈l,¬c'.Old b):GI c' G w E L m l t xss h:=
 ⟨k.len,k.off,k.nd,fun b hb=>⟨(k.all b hb).1,hc b hb,(k.all b hb).2.2⟩,k.cs⟩
variable {E':Env}
theorem GI.env {L':AM} {m':Nm} {t:Ty} {xss:List (List t.T)} (k:GI c G w E L m l t xss none)
  (hm:m'.CN=m.CN/\m'.off=m.off/\m'.nil=m.nil/\m'.len=m.len/\m'.cap=m.cap):GI c G w E' L' m' l t xss none:=by
 obtain⟨e1,e2,e3,e4,e5⟩:=hm
 obtain⟨k1,k2,k3,k4,k5⟩:=k
 refine⟨by rw[e4];exact k1,by rw[e2];exact k2,k3,k4, ?_⟩
 rw[e1,e3,e5]
 refine k5.imp id ?_
 rintro⟨h1,h2,h3,arr,ty,hs,h4,h5,h6,h7,h8,h9⟩
 exact⟨h1,h2,h3,arr,ty,hs,h4,h5,h6,h7,h8,fun k j hk=>by cases hk⟩
variable {e:A9}
theorem bM.xJ (h:bM c G w E L m e) (hb:e.own m=some b):b=m.CN/\m.nil=false/\True/\¬G b/\¬c.Old b/\∃ o,w.heap[b]? =some o:=by
 cases e with
 |map xs=>
  simp only[A9.own,A_] at hb;subst hb
  obtain⟨h1,h2,h3,h4,es,ck,h5,_⟩:=h
  exact⟨rfl,h1,trivial,h3,h4,_,h5⟩
 |box cs=>
  simp only[A9.own,A_] at hb;subst hb
  obtain⟨h1,h2,h3,h4,⟨ty,h5⟩,_⟩:=h
  exact⟨rfl,h1,trivial,h3,h4,_,h5⟩
 |row t xs=>
  simp only[A9.own] at hb
  split at hb
  ·cases hb
  ·rename_i hn
   simp only[A_] at hb;subst hb
   obtain⟨h1,h2,h3⟩:=h
   rcases h3 with ⟨h4,_⟩|⟨h4,h5,h6,h7,arr,ty,h8,_⟩
   ·exact absurd h4 hn
   ·exact⟨rfl,h4,h2,h5,h6,_,h8⟩
 |_=>cases hb
theorem bM.mono {c:EX TB} {G G' :Nat->Prop} {w w' :World} {E E' :Env} {L L' :AM} {m:Nm} {e:A9} (h:bM c G w E L m e)
  (hL:∀ n,Al L n->Al L' n) (hE:∀ n,Al L n->E'.nm n=E.nm n) (hw:∀ b,G b->w'.heap[b]? =w.heap[b]?) (hg:∀ b,G b->G' b)
  (ho:∀ b,e.own m=some b->w'.heap[b]? =w.heap[b]?∧¬G' b) (hot:e.QC=true->∀ b∈m.ins.l,w'.heap[b]? =w.heap[b]?∧¬G' b):bM c G' w' E' L' m e:=by
 cases e with
 |tree t1 t2 xs=>
  have hot:=hot rfl
  refine⟨h.len,h.off,h.nd,fun b hb=> ?_, ?_⟩
  ·obtain⟨q1,q2,arr,ty,fz,q3⟩:=h.all b hb
   exact⟨(hot b hb).2,q2,arr,ty,fz,by rw[(hot b hb).1];exact q3⟩
  ·rcases h.cs with hc|⟨q1,q2,q3,arr,ty,q4,q5,q6,q7,q8,q9⟩
   ·exact .inl hc
   ·refine .inr ⟨q1,q2,q3,arr,ty,by rw[(hot _ q2).1];exact q4,q5,q6,fun k x hk=> ?_,q8,q9⟩
    have xK:k<xs.length:=(AA4.1 hk).1
    obtain⟨r1,r2⟩:=q7 k x hk
    exact⟨r1.mono (fun x vs hx=>Rp.mono hw hg t1 x vs hx) (fun hn=>(hot _ (q8 (k*2) (by omega) hn).1).1),r2.mono (fun x vs hx=>Rp.mono hw hg t2 x vs hx) (fun hn=>(hot _ (q8 (k*2+1) (by omega) hn).1).1)⟩
 |MB=>trivial
 |dead=>trivial
 |deep _ _ _=>trivial
 |map xs=>
  obtain⟨h1,h2,h3,h4,es,ck,h5,h6⟩:=h
  obtain⟨k1,k2⟩:=ho _ rfl
  exact⟨h1,h2,k2,h4,es,ck,by rw[k1];exact h5,h6⟩
 |box cs=>
  obtain⟨h1,h2,h3,h4,⟨ty,h5⟩,h6⟩:=h
  obtain⟨k1,k2⟩:=ho _ rfl
  obtain⟨q1,q2⟩:=MC hL hE cs h6
  exact⟨h1,h2,k2,h4,⟨ty,by rw[k1,q2];exact h5⟩,q1⟩
 |row t xs=>
  obtain⟨h1,h2,h3⟩:=h
  refine⟨h1,h2,h3.imp id ?_⟩
  rintro⟨h4,h5,h6,h7,arr,ty,h8,h9,h10⟩
  obtain⟨k1,k2⟩:=ho m.CN (by simp [A9.own,h4])
  exact⟨h4,k2,h6,h7,arr,ty,by rw[k1];exact h8,h9,h10.imp fun x vs hx=>Rp.mono hw hg t x vs hx⟩
 |shr t xs=>exact rA.mono h (fun x vs hx=>Rp.mono hw hg t x vs hx) hw hg
 |ptr j=>
  obtain⟨h1,⟨arr,ty,fz,h2,h3⟩,h4⟩:=h
  exact⟨h1,⟨arr,ty,fz,h2,by rw[hE j h4];exact h3⟩,hL j h4⟩
def DW (L:AM) (q:Nat×A9):AM:=match L[q.1]? with
 |some (v,_)=>L.set q.1 (v+1,q.2)
 |none=>L
def AJ (L:AM) (l:List (Nat×A9)):AM:=l.foldl DW L
theorem GQ (L:AM) (q:Nat×A9):(DW L q).length=L.length:=by
 unfold DW;split <;> simp
theorem PR (L:AM) (l:List (Nat×A9)):(AJ L l).length=L.length:=by
 induction l generalizing L with
 |nil=>rfl
 |cons q r ih=>simp only[AJ,tN];exact (ih _).trans (GQ _ _)
variable {n:Nat}
theorem AR (h:look L n=some e):n<L.length:=by
 rcases IG n L.length with h1|h1
 ·exact h1
 ·unfold look at h;rw[IF h1] at h;cases h
theorem BB {q:Nat×A9} (hq:q.1<L.length) (n:Nat):look (DW L q) n=if n=q.1 then some q.2 else look L n:=by
 unfold DW
 rw[O6 hq]
 unfold look
 simp only[wR]
 by_cases h:n=q.1
 ·subst h;simp [hq]
 ·rw[AE h,AE (fun h' =>h h'.symm)]
theorem BZ {q:Nat×A9} (hr:q.2.IL=false) (n:Nat) (h:Al L n):Al (DW L q) n:=by
 by_cases hq:q.1<L.length
 ·obtain⟨e,h1,h2⟩:=h
  unfold Al
  rw[BB hq]
  by_cases hn:n=q.1
  ·exact⟨q.2,by simp [hn],hr⟩
  ·exact⟨e,by simp [hn,h1],h2⟩
 ·unfold DW
  rw[IF (by omega)]
  exact h
theorem A9.iI (hd:e.UD=false) (ht:e.QC=false:=by rfl):e.ow E n b↔e.own (E.nm n)=some b:=by
 unfold A9.ow;rw[hd,ht];simp
theorem A9.iJ {t1:Ty} {xs:List (List t1.T×List t2.T)} :(A9.tree t1 t2 xs).ow E n b↔b∈(E.nm n).ins.l:=by
 simp [A9.ow,A9.own,A9.UD,A9.QC]
theorem A9.PT (ht:e.QC=true) (hb:b∈(E.nm n).ins.l):e.ow E n b:= .inr (.inr ⟨ht,hb⟩)
theorem A9.GL {t:Ty} {xss:List (List t.T)} {h:Option (Nat×Nat)} :(A9.deep t xss h).ow E n b↔b∈E.ins.l n:=by
 simp [A9.ow,A9.own,A9.UD,A9.QC]
theorem AT.Q7 (h:AT c G w E L) (he:look L n=some e) (hb:e.ow E n b):¬G b/\¬c.Old b/\∃ o,w.heap[b]? =some o:=by
 rcases hb with hb|⟨hd,hb⟩|⟨hd,hb⟩
 ·obtain⟨_,_,_,h4,h5,h6⟩:=(h.MQ n e he).xJ hb
  exact⟨h4,h5,h6⟩
 ·cases e with
  |deep t xss q=>
   obtain⟨h1,h2,arr,ty,_,h3⟩:=(h.dp n t xss q he).all b hb
   exact⟨h1,h2,_,h3⟩
  |_=>cases hd
 ·cases e with
  |tree t1 t2 xs=>
   obtain⟨h1,h2,arr,ty,_,h3⟩:=(h.MQ n _ he).all b hb
   exact⟨h1,h2,_,h3⟩
  |_=>cases hd
theorem AT.lS (h:AT c G w E L) (he:look L n=some e) (hb:e.ow E n b):b<w.heap.size:=by
 obtain⟨_,_,o,h6⟩:=h.Q7 he hb
 exact UE h6
theorem AT.world (h:AT c G w E L) (hh:w'.heap=w.heap) (hr:Rest w w'):AT c G w' E L:=
 ⟨h.rest.trans hr,by rw[hh];exact h.size,fun b hb=>by rw[hh];exact h.old b hb,fun b hb=>by rw[hh];exact h.gin b hb,h.glo,h.ghi,
  fun n e he=>(h.MQ n e he).mono (fun _ h=>h) (fun _ _=>rfl) (fun b _=>by rw[hh]) (fun _ h=>h) (fun b hb=>⟨by rw[hh],((h.MQ n e he).xJ hb).2.2.2.1⟩) (fun ht b hb=>⟨by rw[hh],(h.Q7 he (A9.PT ht hb)).1⟩),
  fun n t xss q he=>(h.dp n t xss q he).mono (fun _ h=>h) (fun _ _=>rfl) (fun b _=>by rw[hh]) (fun _ h=>h) (fun b hb=>⟨by rw[hh],((h.dp n t xss q he).all b hb).1⟩),h.inj,h.tab⟩
variable {i:Nat}
theorem AT.jO (h:AT c G w E L) {a:Ty} {ys:List a.T} (hi:look L i=some e)
  (hs:rA (Rp (fun b=>G b\/e.ow E i b) w a) a.sz (fun b=>G b\/e.ow E i b) w (E.nm i) ys):AT c (fun b=>G b\/e.ow E i b) w E (DW L (i,.shr a ys)):=by
 have DY:=AR hi
 have hl:=fun n=>BB (q:=(i,A9.shr a ys)) DY n
 refine⟨h.rest,h.size,h.old, ?_,fun b hb=> .inl (h.glo b hb), ?_, ?_, ?_, ?_,h.tab⟩
 ·rintro b (hb|hb)
  ·exact h.gin b hb
  ·exact h.lS hi hb
 ·rintro b (hb|hb)
  ·exact h.ghi b hb
  ·exact .inr (h.Q7 hi hb).2.1
 ·intro n f he
  rw[hl] at he
  by_cases hn:n=i
  ·subst hn
   simp only[HP,A_] at he
   subst he
   exact hs
  ·rw[AE hn] at he
   refine (h.MQ n f he).mono (fun k hk=>BZ rfl k hk) (fun _ _=>rfl) (fun _ _=>rfl) (fun b hb=> .inl hb) (fun b hb=>⟨rfl, ?_⟩) (fun ht b hb=>⟨rfl, ?_⟩)
   ·rintro (hx|hx)
    ·exact ((h.MQ n f he).xJ hb).2.2.2.1 hx
    ·exact h.inj n i f e b hn he hi (.inl hb) hx
   ·rintro (hx|hx)
    ·exact (h.Q7 he (A9.PT ht hb)).1 hx
    ·exact h.inj n i f e b hn he hi (A9.PT ht hb) hx
 ·intro n t xss q he
  rw[hl] at he
  by_cases hn:n=i
  ·simp only[hn,HP,A_] at he;cases he
  ·rw[AE hn] at he
   refine (h.dp n t xss q he).mono (fun k hk=>BZ rfl k hk) (fun _ _=>rfl) (fun _ _=>rfl) (fun b hb=> .inl hb) (fun b hb=>⟨rfl, ?_⟩)
   rintro (hx|hx)
   ·exact ((h.dp n t xss q he).all b hb).1 hx
   ·exact h.inj n i _ e b hn he hi (A9.GL.2 hb) hx
 ·intro n k f g b hnk hn hk hf hg
  rw[hl] at hn hk
  have hn' :n≠i:=by
   rintro rfl
   simp only[HP,A_] at hn;subst hn
   rcases hf with hf|⟨hf,_⟩|⟨hf,_⟩ <;> cases hf
  have KA :k≠i:=by
   rintro rfl
   simp only[HP,A_] at hk;subst hk
   rcases hg with hg|⟨hg,_⟩|⟨hg,_⟩ <;> cases hg
  rw[AE hn'] at hn
  rw[AE KA] at hk
  exact h.inj n k f g b hnk hn hk hf hg
theorem AT.freeze (h:AT c G w E L) {t:Ty} {xs:List t.T} (hi:look L i=some (.row t xs)):
  AT c (fun b=>G b\/(A9.row t xs).own (E.nm i)=some b) w E (DW L (i,.shr t xs)):=by
 have e1:(fun b=>G b\/(A9.row t xs).ow E i b)=(fun b=>G b\/(A9.row t xs).own (E.nm i)=some b):=by
  funext b;rw[A9.iI rfl]
 rw[<-e1]
 refine h.jO hi ?_
 rw[e1]
 obtain⟨h1,h2,h3⟩:=h.MQ i _ hi
 refine⟨h1,iH (h.MQ i _ hi), ?_⟩
 rcases h3 with ⟨_,h4,_⟩|⟨h4,h5,h6,h7,arr,ty,h8,h9,h10⟩
 ·exact .inl h4
 ·refine .inr ⟨h4,.inr (by simp [A9.own,h4]),arr,ty,_,h8, ?_⟩
  exact h10.imp fun x vs hx=>Rp.mono (fun _ _=>rfl) (fun b hb=> .inl hb) t x vs hx
theorem GI.shr {t:Ty} {xss:List (List t.T)} (k:GI c G w E L m l t xss none) (hr:∀ x vs,Rp G w t x vs->Rp G' w t x vs) (hg:∀ b∈l,G' b):
  rA (Rp G' w (.slice t)) 1 G' w m xss:=by
 obtain⟨k1,k2,k3,k4,k5⟩:=k
 rcases k5 with ⟨h1,h2,h3⟩|⟨h1,h2,h3,arr,ty,hs,h4,h5,h6,h7,h8,h9⟩
 ·exact⟨k1,by rw[k1,h2];simp,.inl h2⟩
 ·refine⟨k1,by omega,.inr ⟨h1,hg _ h2,arr,ty,_,h4, ?_⟩⟩
  intro k xs hk
  have DY:k<xss.length:=by
   rcases IG k xss.length with h' |h'
   ·exact h'
   ·rw[IF h'] at hk;cases hk
  obtain⟨q1,q2⟩:=h7 k xs hk (fun j hj=>by cases hj)
  refine⟨hs k, ?_, ?_⟩
  ·have ha:=h6 k DY
   show BT arr (m.off+k*1) 1=_
   rw[k2]
   unfold BT
   apply XA
   intro j
   rw[n_]
   cases j with
   |zero=>simp [dM,ha]
   |succ j=>simp
  ·obtain⟨p1,p2,p3⟩:=q1
   rcases p3 with ⟨p4,p5,p6⟩|⟨p4,p5,Z8,ty',p6,p7,p8⟩
   ·exact⟨p1,by rw[p1,p5];simp,.inl p5⟩
   ·exact⟨p1,by omega,.inr ⟨p4,hg _ (q2 p4).1,Z8,ty',_,p6,p8.imp hr⟩⟩
theorem AT.ADG (h:AT c G w E L) {t:Ty} {xss:List (List t.T)} (hi:look L i=some (.deep t xss none)):
  AT c (fun b=>G b\/b∈E.ins.l i) w E (DW L (i,.shr (.slice t) xss)):=by
 have e1:(fun b=>G b\/(A9.deep t xss none).ow E i b)=(fun b=>G b\/b∈E.ins.l i):=by
  funext b;rw[A9.GL]
 rw[<-e1]
 refine h.jO hi ?_
 rw[e1]
 exact (h.dp i t xss none hi).shr (fun x vs hx=>Rp.mono (fun _ _=>rfl) (fun b hb=> .inl hb) t x vs hx) (fun b hb=> .inr hb)
theorem F3.shr {t1:Ty} {xs:List (List t1.T×List t2.T)} (k:F3 c G w m t1 t2 xs) (hr:∀ t (x:Ty.T t) vs,Rp G w t x vs->Rp G' w t x vs) (hg:∀ b∈m.ins.l,G' b):
  rA (Rp G' w (.pair (.slice t1) (.slice t2))) 2 G' w m xs:=by
 obtain⟨k1,k2,k3,k4,k5⟩:=k
 rcases k5 with ⟨h1,h2,h3⟩|⟨h1,h2,h3,arr,ty,h4,h5,h6,h7,h8,h9⟩
 ·exact⟨k1,by rw[k1,h2];simp,.inl h2⟩
 ·refine⟨k1,by omega,.inr ⟨h1,hg _ h2,arr,ty,_,h4, ?_⟩⟩
  intro k x hk
  have DY:k<xs.length:=(AA4.1 hk).1
  obtain⟨q1,q2⟩:=h7 k x hk
  have u7:∀ (t:Ty) (y:List t.T) (j:Nat),j<xs.length*2->GN (Rp G w t) t.sz w (m.hn j) y->rA (Rp G' w t) t.sz G' w (m.hn j) y:=by
   intro t y j hj hi
   obtain⟨p1,p2,p3⟩:=hi
   rcases p3 with ⟨p4,p5,p6⟩|⟨p4,p5,Z8,ty',p6,p7,p8⟩
   ·exact⟨p1,by rw[p1,p5];simp,.inl p5⟩
   ·exact⟨p1,by omega,.inr ⟨p4,hg _ (h8 j hj p4).1,Z8,ty',_,p6,p8.imp (hr t)⟩⟩
  refine⟨[.slice (m.hn (k*2)).ad (m.hn (k*2)).len (m.hn (k*2)).cap],[.slice (m.hn (k*2+1)).ad (m.hn (k*2+1)).len (m.hn (k*2+1)).cap], ?_,⟨_,rfl,u7 t1 x.1 _ (by omega) q1⟩,⟨_,rfl,u7 t2 x.2 _ (by omega) q2⟩⟩
  have a1:=h6 (k*2) (by omega)
  have a2:=h6 (k*2+1) (by omega)
  rw[k2]
  unfold BT
  apply XA
  intro j
  rw[n_,NV]
  match j with
  |0=>simp [dM,a1]
  |1=>simp [dM,a2]
  |j+2=>simp;omega
theorem AT.AWA (h:AT c G w E L) {t1:Ty} {xs:List (List t1.T×List t2.T)} (hi:look L i=some (.tree t1 t2 xs)):
  AT c (fun b=>G b\/b∈(E.nm i).ins.l) w E (DW L (i,.shr (.pair (.slice t1) (.slice t2)) xs)):=by
 have e1:(fun b=>G b\/(A9.tree t1 t2 xs).ow E i b)=(fun b=>G b\/b∈(E.nm i).ins.l):=by
  funext b;rw[A9.iJ]
 rw[<-e1]
 refine h.jO hi ?_
 rw[e1]
 exact (h.MQ i _ hi).shr (fun t x vs hx=>Rp.mono (fun _ _=>rfl) (fun b hb=> .inl hb) t x vs hx) (fun b hb=> .inr hb)
theorem AT.kill (h:AT c G w E L) (hi:i<L.length):AT c G w E (DW L (i,.dead)):=by
 have hl:=fun n=>BB (q:=(i,A9.dead)) hi n
 refine⟨h.rest,h.size,h.old,h.gin,h.glo,h.ghi, ?_, ?_, ?_,h.tab⟩
 ·intro n e he
  rw[hl] at he
  by_cases hn:n=i
  ·simp only[hn,HP,A_] at he;subst he;trivial
  ·rw[AE hn] at he
   exact (h.MQ n e he).mono (fun k hk=>BZ rfl k hk) (fun _ _=>rfl) (fun _ _=>rfl) (fun b hb=>hb) (fun b hb=>⟨rfl,((h.MQ n e he).xJ hb).2.2.2.1⟩) (fun ht b hb=>⟨rfl,(h.Q7 he (A9.PT ht hb)).1⟩)
 ·intro n t xss q he
  rw[hl] at he
  by_cases hn:n=i
  ·simp only[hn,HP,A_] at he;cases he
  ·rw[AE hn] at he
   exact (h.dp n t xss q he).mono (fun k hk=>BZ rfl k hk) (fun _ _=>rfl) (fun _ _=>rfl) (fun b hb=>hb) (fun b hb=>⟨rfl,((h.dp n t xss q he).all b hb).1⟩)
 ·intro n k e f b hnk hn hk he hf
  rw[hl] at hn hk
  have hn' :n≠i:=by
   rintro rfl
   simp only[HP,A_] at hn;subst hn
   rcases he with he|⟨he,_⟩|⟨he,_⟩ <;> cases he
  have KA :k≠i:=by
   rintro rfl
   simp only[HP,A_] at hk;subst hk
   rcases hf with hf|⟨hf,_⟩|⟨hf,_⟩ <;> cases hf
  rw[AE hn'] at hn
  rw[AE KA] at hk
  exact h.inj n k e f b hnk hn hk he hf
def Env.set (E:Env) (n:Nat) (m:Nm):Env:={ E with nm:=fun k=>if k=n then m else E.nm k }
theorem Env.H5 (E:Env) {k:Nat} (m:Nm) (h:k≠n):(E.set n m).nm k=E.nm k:=by simp [Env.set,h]
theorem Env.E_ (E:Env) (n:Nat) (m:Nm):(E.set n m).nm n=m:=by simp [Env.set]
def Env.UF (E:Env) (n:Nat) (m:Nm) (l:List Nat):Env:={ E with nm:=fun k=>if k=n then m else E.nm k,ins:=⟨fun k=>if k=n then l else E.ins.l k⟩ }
theorem Env.NW (E:Env) {k:Nat} (m:Nm) (l:List Nat) (h:k≠n):(E.UF n m l).nm k=E.nm k/\(E.UF n m l).ins.l k=E.ins.l k:=by simp [Env.UF,h]
theorem Env.FE (E:Env) (n:Nat) (m:Nm) (l:List Nat):(E.UF n m l).nm n=m/\(E.UF n m l).ins.l n=l:=by simp [Env.UF]
theorem FA (h:look L n=some .MB):¬Al L n:=by
 rintro⟨e,h1,h2⟩
 rw[h] at h1;simp only[A_] at h1;subst h1;cases h2
theorem AT.VF (h:AT c G w E L) {e' :A9} (hi:i<L.length)
  (hr:Rest w w') (hs:w.heap.size<=w'.heap.size)
  (hE:Al L i->E'.nm i=E.nm i) (hEo:∀ k,k≠i->E'.nm k=E.nm k/\E'.ins.l k=E.ins.l k) (CW:e'.IL=false)
  (hw:∀ b,b<w.heap.size->¬e'.ow E' i b->w'.heap[b]? =w.heap[b]?)
  (hold:∀ b,e'.ow E' i b->¬c.Old b/\¬G b)
  (C6:∀ k f,k≠i->look L k=some f->∀ b,f.ow E k b->¬e'.ow E' i b)
  (ZZ:bM c G w' E' (DW L (i,e')) (E'.nm i) e') (hdp:∀ t xss q,e' = .deep t xss q->GI c G w' E' (DW L (i,e')) (E'.nm i) (E'.ins.l i) t xss q):AT c G w' E' (DW L (i,e')):=by
 have hl:=fun n=>BB (q:=(i,e')) hi n
 have hEn:∀ n,Al L n->E'.nm n=E.nm n:=by
  intro n hn
  by_cases UG:n=i
  ·subst UG;exact hE hn
  ·exact (hEo n UG).1
 have jP:∀ k (f:A9) b,k≠i->f.ow E' k b->f.ow E k b:=by
  intro k f b hk hb
  unfold A9.ow at hb ⊢
  rw[(hEo k hk).1,(hEo k hk).2] at hb
  exact hb
 have hG:∀ b,G b->w'.heap[b]? =w.heap[b]? :=fun b hb=>hw b (h.gin b hb) (fun ho=>(hold b ho).2 hb)
 refine⟨h.rest.trans hr,oG h.size hs, ?_,fun b hb=>oB (h.gin b hb) hs,h.glo,h.ghi, ?_, ?_, ?_,h.tab⟩
 ·intro b hb
  rw[hw b (oB hb.1 h.size) (fun ho=>(hold b ho).1 hb)]
  exact h.old b hb
 ·intro n e he
  rw[hl] at he
  by_cases hn:n=i
  ·subst hn
   simp only[HP,A_] at he;subst he
   exact ZZ
  ·rw[AE hn] at he
   rw[(hEo n hn).1]
   refine (h.MQ n e he).mono (fun k hk=>BZ CW k hk) hEn hG (fun _ hb=>hb) (fun b hb=> ?_) (fun ht b hb=> ?_)
   ·exact⟨hw b (h.lS he (.inl hb)) (C6 n e hn he b (.inl hb)),(h.Q7 he (.inl hb)).1⟩
   ·exact⟨hw b (h.lS he (A9.PT ht hb)) (C6 n e hn he b (A9.PT ht hb)),(h.Q7 he (A9.PT ht hb)).1⟩
 ·intro n t xss q he
  rw[hl] at he
  by_cases hn:n=i
  ·subst hn
   simp only[HP,A_] at he;subst he
   exact hdp _ _ _ rfl
  ·rw[AE hn] at he
   rw[(hEo n hn).1,(hEo n hn).2]
   refine (h.dp n t xss q he).mono (fun k hk=>BZ CW k hk) hEn hG (fun _ hb=>hb) (fun b hb=> ?_)
   exact⟨hw b (h.lS he (A9.GL.2 hb)) (C6 n _ hn he b (A9.GL.2 hb)),(h.Q7 he (A9.GL.2 hb)).1⟩
 ·intro n k e f b hnk hn hk he hf
  rw[hl] at hn hk
  by_cases UG:n=i
  ·subst UG
   simp only[HP,A_] at hn;subst hn
   rw[AE (fun h=>hnk h.symm)] at hk
   exact C6 k f (fun h=>hnk h.symm) hk b (jP k f b (fun h=>hnk h.symm) hf) he
  ·rw[AE UG] at hn
   by_cases lT:k=i
   ·subst lT
    simp only[HP,A_] at hk;subst hk
    exact C6 n e UG hn b (jP n e b UG he) hf
   ·rw[AE lT] at hk
    exact h.inj n k e f b hnk hn hk (jP n e b UG he) (jP k f b lT hf)
theorem AT.change (h:AT c G w E L) {e' :A9} (hi:i<L.length)
  (hr:Rest w w') (hs:w.heap.size<=w'.heap.size)
  (hE:Al L i->m=E.nm i) (CW:e'.IL=false)
  (hw:∀ b,b<w.heap.size->e'.own m≠some b->w'.heap[b]? =w.heap[b]?)
  (hold:∀ b,e'.own m=some b->¬c.Old b/\¬G b)
  (C6:∀ k f,k≠i->look L k=some f->∀ b,f.ow E k b->e'.own m≠some b)
  (ZZ:AT c G w E L->bM c G w' (E.set i m) (DW L (i,e')) m e') (hd:e'.UD=false:=by rfl) (ht:e'.QC=false:=by rfl):AT c G w' (E.set i m) (DW L (i,e')):=by
 have e1:∀ b,e'.ow (E.set i m) i b↔e'.own m=some b:=fun b=>by rw[A9.iI hd ht,Env.E_]
 refine h.VF hi hr hs (fun ha=>by rw[Env.E_];exact hE ha) (fun k hk=>⟨E.H5 m hk,rfl⟩) CW (fun b hb ho=>hw b hb (fun hx=>ho ((e1 b).2 hx))) (fun b hb=>hold b ((e1 b).1 hb))
  (fun k f hk hf b hb ho=>C6 k f hk hf b hb ((e1 b).1 ho)) (by rw[Env.E_];exact ZZ h) (fun t xss q he=>by subst he;cases hd)
theorem AT.AWB (h:AT c G w E L) {e' :A9} (l:List Nat) (hi:i<L.length)
  (hr:Rest w w') (hs:w.heap.size<=w'.heap.size)
  (hE:Al L i->m=E.nm i) (CW:e'.IL=false)
  (hw:∀ b,b<w.heap.size->e'.own m≠some b->w'.heap[b]? =w.heap[b]?)
  (hold:∀ b,e'.own m=some b->¬c.Old b/\¬G b)
  (C6:∀ k f,k≠i->look L k=some f->∀ b,f.ow E k b->e'.own m≠some b)
  (ZZ:AT c G w E L->bM c G w' (E.UF i m l) (DW L (i,e')) m e') (hd:e'.UD=false:=by rfl) (ht:e'.QC=false:=by rfl):AT c G w' (E.UF i m l) (DW L (i,e')):=by
 have e1:∀ b,e'.ow (E.UF i m l) i b↔e'.own m=some b:=fun b=>by rw[A9.iI hd ht,(E.FE i m l).1]
 refine h.VF hi hr hs (fun ha=>by rw[(E.FE i m l).1];exact hE ha) (fun k hk=>E.NW m l hk) CW (fun b hb ho=>hw b hb (fun hx=>ho ((e1 b).2 hx))) (fun b hb=>hold b ((e1 b).1 hb))
  (fun k f hk hf b hb ho=>C6 k f hk hf b hb ((e1 b).1 ho)) (by rw[(E.FE i m l).1];exact ZZ h) (fun t xss q he=>by subst he;cases hd)
end Go.V3
namespace Go.V3
open Go
variable {TB:Tb}
inductive PM where
 |dY|jO|own
def Env.nx (E:Env) (i:Nat):Nm:={ E.nm i with ins:=⟨E.ins.l i⟩ }
inductive NE where
 |nil
 |whole (i:Nat)
 |deep (i:Nat)
 |sub (i lo n sz:Nat)
def NE.nm (E:Env):NE->Nm
 | .nil=>⟨0,0,true,0,0,none⟩
 | .whole i=>E.nm i
 | .deep i=>E.nx i
 | .sub i lo n sz=>if (E.nm i).cap=lo then { CN:=(E.nm i).CN,off:=(E.nm i).off,nil:=(E.nm i).nil,len:=n,cap:=(E.nm i).cap-lo,XC:=(E.nm i).XC,fz:=(E.nm i).fz } else { CN:=(E.nm i).CN,off:=(E.nm i).off+lo*sz,nil:=(E.nm i).nil,len:=n,cap:=(E.nm i).cap-lo,XC:=rI (E.nm i).XC (lo*sz),fz:=(E.nm i).fz }
def NE.name:NE->Option Nat
 | .nil=>none
 | .whole i=>some i
 | .deep i=>some i
 | .sub i _ _ _=>some i
def D4 (E:Env) (nes:List NE) (k:Nat):Nm:=match nes[k]? with
 |some ne=>ne.nm E
 |none=>⟨0,0,true,0,0,none⟩
abbrev DN:=List (Nat×A9)
inductive b9:A9->(t:Ty)->List t.T->Prop
 |row (t:Ty) (xs:List t.T):b9 (.row t xs) t xs
 |deep (t:Ty) (xss:List (List t.T)):b9 (.deep t xss none) (.slice t) xss
 |tree (t1 t2:Ty) (xs:List (List t1.T×List t2.T)):b9 (.tree t1 t2 xs) (.pair (.slice t1) (.slice t2)) xs
variable {e:A9}
theorem b9.MB {t:Ty} {xs:List t.T} (h:b9 e t xs):e.IL=false:=by cases h <;> rfl
def HQ {t a:Ty} (h:t=a) (xs:List t.T):List a.T:=h ▸ xs
def N4 (md:PM) (AQ:Nat->Option A9) (a:Ty):SV->Option (List a.T×NE×DN)
 | .LW=>if a.A0F=true then none else some ([],.nil,[])
 | .NT i=>match AQ i with
  |some (.shr t xs)=>if h:t=a then (match md with
    | .own=>none
    |_=>some (HQ h xs,.whole i,[])) else none
  |some (.row t xs)=>if h:t=a then (match md with
    | .dY=>some (HQ h xs,.whole i,[])
    | .jO=>some (HQ h xs,.whole i,[(i,.shr t xs)])
    | .own=>if a.u6=true then none else some (HQ h xs,.whole i,[(i,.dead)])) else none
  |some (.deep t xss none)=>if h:Ty.slice t=a then (match md with
    | .dY=>some (HQ h xss,.whole i,[])
    | .jO=>some (HQ h xss,.whole i,[(i,.shr (.slice t) xss)])
    | .own=>some (HQ h xss,.deep i,[(i,.dead)])) else none
  |some (.tree t1 t2 xs)=>if h:Ty.pair (.slice t1) (.slice t2)=a then (match md with
    | .dY=>some (HQ h xs,.whole i,[])
    | .jO=>some (HQ h xs,.whole i,[(i,.shr (.pair (.slice t1) (.slice t2)) xs)])
    | .own=>some (HQ h xs,.whole i,[(i,.dead)])) else none
  |_=>none
 | .sub i lo n sz=>if sz=a.sz then match AQ i with
  |some (.shr t xs)=>if h:t=a then (match md with
    | .own=>none
    |_=>some (BF (HQ h xs) lo n,.sub i lo n sz,[])) else none
  |some (.row t xs)=>if h:t=a then (match md with
    | .dY=>some (BF (HQ h xs) lo n,.sub i lo n sz,[])
    | .jO=>some (BF (HQ h xs) lo n,.sub i lo n sz,[(i,.shr t xs)])
    | .own=>none) else none
  |_=>none
  else none
 |_=>none
def FY (md:PM) (AQ:Nat->Option A9):(t:Ty)->List SV->Option (t.T×List SV×List NE×DN)
 | .int k,cs=>match cs with
  | .int k' n::r=>if k' =k then some (n,r,[],[]) else none
  |_=>none
 | .u64,cs=>match cs with
  | .u64 x::r=>some (x,r,[],[])
  |_=>none
 | .bool,cs=>match cs with
  |v::r=>match toB v with
   |some b=>some (b,r,[],[])
   |none=>none
  |_=>none
 | .str,cs=>match cs with
  | .str s::r=>some (s,r,[],[])
  |_=>none
 | .UA,cs=>match cs with
  | .UA n::r=>some (n,r,[],[])
  |_=>none
 | .pair a b,cs=>match FY md AQ a cs with
  |none=>none
  |some (x,r,n1,u1)=>match FY md AQ b r with
   |none=>none
   |some (y,r',n2,u2)=>some ((x,y),r',n1++n2,u1++u2)
 | .slice a,cs=>match cs with
  |v::r=>match N4 md AQ a v with
   |some (xs,ne,u)=>some (xs,r,[ne],u)
   |none=>none
  |_=>none
 | .kv,_=>none
 | .nf,cs=>match cs with
  | .UA n::r=>some ((some n:Option Nat),r,[.nil],[])
  | .nf o i::r=>some (o,r,[.whole i],[])
  |_=>none
 | .AAE,cs=>match cs with
  | .raw .nilIface::r=>some ((),r,[],[])
  |_=>none
 | .sl a,cs=>match cs with
  | .LW::r=>some ([],r,[.nil],[])
  | .NT i::r=>match AQ i with
   |some (.shr t xs)=>if h:t=a then some (HQ h xs,r,[.whole i],[]) else none
   |_=>none
  |_=>none
variable {u:DN} {ne:NE} {v:SV} {AQ:Nat->Option A9}
theorem rL {md:PM} {a:Ty} {xs:List a.T} (h:N4 md AQ a v=some (xs,ne,u)) (E:Env):
  v.den E= .slice (ne.nm E).ad (ne.nm E).len (ne.nm E).cap:=by
 cases v with
 |LW=>
  simp only[N4] at h
  split at h
  ·cases h
  simp only[A_,DG] at h
  obtain⟨-,rfl, -⟩:=h
  rfl
 |NT i=>
  simp only[N4] at h
  repeat' split at h
  all_goals first|(cases h;done)|(simp only[A_,DG] at h;obtain⟨-,rfl, -⟩:=h;rfl)
 |sub i lo n sz=>
  have hk:SV.den E (.sub i lo n sz)= .slice ((NE.sub i lo n sz).nm E).ad ((NE.sub i lo n sz).nm E).len ((NE.sub i lo n sz).nm E).cap:=by
   simp only[SV.den,NE.nm]
   split
   ·simp [Nm.ad]
   ·simp only[Nm.ad,rI]
    split
    ·rfl
    ·simp [IT]
  simp only[N4] at h
  repeat' split at h
  all_goals first|(cases h;done)|(simp only[A_,DG] at h;obtain⟨-,rfl, -⟩:=h;exact hk)
 |_=>simp [N4] at h
theorem MY (E:Env) (a b:List NE):(∀ k,k<a.length->D4 E (a++b) k=D4 E a k)/\(∀ k,D4 E (a++b) (a.length+k)=D4 E b k):=by
 refine⟨fun k hk=> ?_,fun k=> ?_⟩
 ·simp [D4,V4 hk]
 ·simp only[D4]
  rw[SI (by omega)]
  simp
theorem KB {md:PM} (E:Env):∀ (t:Ty) (cs:List SV) (x:t.T) (r:List SV) (nes:List NE) (u:DN),FY md AQ t cs=some (x,r,nes,u)→
  ∃ c1,cs=c1++r/\c1.length=t.sz/\nes.length=t.HH/\AN E c1=enc t x (D4 E nes):=by
 intro t
 induction t with
 |int k=>
  intro cs x r nes u h
  simp only[FY] at h
  repeat' split at h
  all_goals first|(cases h;done)|skip
  rename_i hk
  simp only[A_,DG] at h
  obtain⟨rfl,rfl,rfl,rfl⟩:=h
  subst hk
  exact⟨[_],rfl,rfl,rfl,rfl⟩
 |u64=>
  intro cs x r nes u h
  simp only[FY] at h
  repeat' split at h
  all_goals first|(cases h;done)|(simp only[A_,DG] at h;obtain⟨rfl,rfl,rfl,rfl⟩:=h;exact⟨[_],rfl,rfl,rfl,rfl⟩)
 |bool=>
  intro cs x r nes u h
  simp only[FY] at h
  repeat' split at h
  all_goals first|(cases h;done)|skip
  rename_i hb
  simp only[A_,DG] at h
  obtain⟨rfl,rfl,rfl,rfl⟩:=h
  exact⟨[_],rfl,rfl,rfl,by simp [AN,XO hb,enc]⟩
 |str=>
  intro cs x r nes u h
  simp only[FY] at h
  repeat' split at h
  all_goals first|(cases h;done)|(simp only[A_,DG] at h;obtain⟨rfl,rfl,rfl,rfl⟩:=h;exact⟨[_],rfl,rfl,rfl,rfl⟩)
 |UA=>
  intro cs x r nes u h
  simp only[FY] at h
  repeat' split at h
  all_goals first|(cases h;done)|(simp only[A_,DG] at h;obtain⟨rfl,rfl,rfl,rfl⟩:=h;exact⟨[_],rfl,rfl,rfl,rfl⟩)
 |pair a b W5 W6=>
  intro cs x r nes u h
  simp only[FY] at h
  repeat' split at h
  all_goals first|(cases h;done)|skip
  rename_i _ x1 r1 n1 u1 h1 _ x2 r2 n2 u2 h2
  simp only[A_,DG] at h
  obtain⟨rfl,rfl,rfl,rfl⟩:=h
  obtain⟨c1,e1,l1,m1,d1⟩:=W5 _ _ _ _ _ h1
  obtain⟨c2,e2,l2,m2,d2⟩:=W6 _ _ _ _ _ h2
  refine⟨c1++c2,by rw[e1,e2,I0],by simp [Ty.sz,l1,l2],by simp [Ty.HH,m1,m2], ?_⟩
  rw[G7,d1,d2]
  simp only[enc]
  obtain⟨k1,k2⟩:=MY E n1 n2
  congr 1
  ·exact IH _ _ fun k hk=>(k1 k (by omega)).symm
  ·exact IH _ _ fun k hk=>by rw[<-m1];exact (k2 k).symm
 |slice a ih=>
  intro cs x r nes u h
  simp only[FY] at h
  repeat' split at h
  all_goals first|(cases h;done)|skip
  rename_i hs
  simp only[A_,DG] at h
  obtain⟨rfl,rfl,rfl,rfl⟩:=h
  exact⟨[_],rfl,rfl,rfl,by simp [AN,enc,rL hs E,D4]⟩
 |kv=>intro cs x r nes u h;simp [FY] at h
 |nf=>
  intro cs x r nes u h
  simp only[FY] at h
  repeat' split at h
  all_goals first|(cases h;done)|(simp only[A_,DG] at h;obtain⟨rfl,rfl,rfl,rfl⟩:=h;exact⟨[_],rfl,rfl,rfl,rfl⟩)
 |sl a ih=>
  intro cs x r nes u h
  simp only[FY] at h
  repeat' split at h
  all_goals first|(cases h;done)|(simp only[A_,DG] at h;obtain⟨rfl,rfl,rfl,rfl⟩:=h;exact⟨[_],rfl,rfl,rfl,rfl⟩)
 |AAE=>
  intro cs x r nes u h
  simp only[FY] at h
  repeat' split at h
  all_goals first|(cases h;done)|(simp only[A_,DG] at h;obtain⟨_,rfl,rfl,rfl⟩:=h;exact⟨[_],rfl,rfl,rfl,rfl⟩)
variable {n:Nat} {m:Nm} {w:World} {G:Nat->Prop} {α:Type}
theorem oO {R:α->List Value->Prop} {sz:Nat} {xs:List α} (h:rA R sz G w m xs) {lo:Nat} (hl:lo+n<=m.len):
  rA R sz G w (if m.cap=lo then { CN:=m.CN,off:=m.off,nil:=m.nil,len:=n,cap:=m.cap-lo,XC:=m.XC,fz:=m.fz } else { CN:=m.CN,off:=m.off+lo*sz,nil:=m.nil,len:=n,cap:=m.cap-lo,XC:=rI m.XC (lo*sz),fz:=m.fz }) (BF xs lo n):=by
 obtain⟨h1,h0,h2⟩:=h
 by_cases hc:m.cap=lo
 ·have hn:n=0:=by omega
  subst hn
  rw[AA hc]
  exact⟨by simp [BF],by simp,.inl (by simp [BF])⟩
 ·rw[AE hc]
  refine⟨by simp [BF];omega,by simp;omega, ?_⟩
  rcases h2 with rfl|⟨a,b,arr,ty,fz,h3,h4⟩
  ·left;simp [BF]
  ·right
   refine⟨a,b,arr,ty,fz,h3, ?_⟩
   intro i x hx
   simp only[BF] at hx
   rw[n_] at hx
   split at hx
   ·rw[dM] at hx
    have:=h4 _ _ hx
    rw[SL] at this
    rw[PC]
    exact this
   ·cases hx
variable {G':Nat->Prop} {c:EX TB}
theorem AWC {R R' :α->List Value->Prop} {sz:Nat} {xs:List α} (h:Own R sz c G w m xs) (hr:∀ x vs,R x vs->R' x vs) (hg:m.nil=false->G' m.CN):
  rA R' sz G' w m xs:=by
 have hc:=iH h
 obtain⟨h1,h2,h3⟩:=h
 refine⟨h1,hc, ?_⟩
 rcases h3 with ⟨_,h4,_⟩|⟨h4,h5,h6,h7,arr,ty,h8,h9,h10⟩
 ·exact .inl h4
 ·exact .inr ⟨h4,hg h4,arr,ty,_,h8,h10.imp hr⟩
theorem rM {md:PM} {a:Ty} {xs:List a.T} (h:N4 md AQ a v=some (xs,ne,u)):
  u=[]\/(∃ i t ys e,AQ i=some e/\b9 e t ys/\md= .jO/\ne.name=some i/\u=[(i,.shr t ys)])\/md= .own:=by
 unfold N4 at h
 repeat' split at h
 all_goals first|(cases h;done)|skip
 all_goals (simp only[A_,DG] at h;obtain⟨-,rfl,rfl⟩:=h)
 all_goals first|(exact .inl rfl)|exact .inr (.inr rfl)|(right;left;exact⟨_,_,_,_,(by assumption),.row _ _,rfl,rfl,rfl⟩)|(right;left;exact⟨_,_,_,_,(by assumption),.deep _ _,rfl,rfl,rfl⟩)|(right;left;exact⟨_,_,_,_,(by assumption),.tree _ _ _,rfl,rfl,rfl⟩)
variable {L:AM} {E:Env}
theorem rN {md:PM} {a:Ty} {xs:List a.T} (h:N4 md AQ a v=some (xs,ne,u)) (xL:md≠ .own) (hv:v.wf E L) 
  (h1:∀ i t ys,AQ i=some (.shr t ys)->rA (Rp G w t) t.sz G w (E.nm i) ys)
  (h2:∀ i t ys e,ne.name=some i->AQ i=some e->b9 e t ys->md= .dY\/(i,.shr t ys)∈u->rA (Rp G w t) t.sz G w (E.nm i) ys):A0G G w (ne.nm E) (.shr a xs):=by
 unfold N4 at h
 repeat' split at h
 all_goals first|(cases h;done)|skip
 all_goals (simp only[A_,DG] at h;obtain⟨rfl,rfl,rfl⟩:=h)
 all_goals first|exact absurd rfl xL|skip
 ·exact⟨rfl,EH _,.inl rfl⟩
 ·rename_i hl he _ _;subst he;exact h1 _ _ _ hl
 ·rename_i hl he _;subst he;exact h2 _ _ _ _ rfl hl (.row _ _) (.inl rfl)
 ·rename_i hl he _;subst he;exact h2 _ _ _ _ rfl hl (.row _ _) (.inr (GG.2 rfl))
 ·rename_i hl he _;subst he;exact h2 _ _ _ _ rfl hl (.deep _ _) (.inl rfl)
 ·rename_i hl he _;subst he;exact h2 _ _ _ _ rfl hl (.deep _ _) (.inr (GG.2 rfl))
 ·rename_i hl he _;subst he;exact h2 _ _ _ _ rfl hl (.tree _ _ _) (.inl rfl)
 ·rename_i hl he _;subst he;exact h2 _ _ _ _ rfl hl (.tree _ _ _) (.inr (GG.2 rfl))
 ·rename_i hz _ _ _ hl he _ _;subst he;subst hz;exact oO (h1 _ _ _ hl) hv.2
 ·rename_i hz _ _ _ hl he _;subst he;subst hz;exact oO (h2 _ _ _ _ rfl hl (.row _ _) (.inl rfl)) hv.2
 ·rename_i hz _ _ _ hl he _;subst he;subst hz;exact oO (h2 _ _ _ _ rfl hl (.row _ _) (.inr (GG.2 rfl))) hv.2
theorem rO {a:Ty} {xs:List a.T} (h:N4 .own AQ a v=some (xs,ne,u)):
  (ne= .nil/\xs=[]/\u=[]/\a.A0F=false)\/∃ i,((ne= .whole i/\a.u6=false)\/(ne= .deep i/\∃ b,a= .slice b)\/(ne= .whole i/\∃ b1 b2,a= .pair (.slice b1) (.slice b2)))/\AQ i=some (J_ a xs)/\u=[(i,.dead)]:=by
 cases v with
 |LW=>
  simp only[N4] at h
  split at h
  ·cases h
  rename_i hk
  simp only[A_,DG] at h
  obtain⟨rfl,rfl,rfl⟩:=h
  exact .inl ⟨rfl,rfl,rfl,by simpa using hk⟩
 |NT i=>
  simp only[N4] at h
  split at h
  ·split at h <;> cases h
  ·rename_i t ys hl
   split at h
   ·rename_i he
    subst he
    split at h
    ·cases h
    rename_i Q8
    have Q8:t.u6=false:=by simpa using Q8
    simp only[A_,DG] at h
    obtain⟨rfl,rfl,rfl⟩:=h
    exact .inr ⟨i,.inl ⟨rfl,Q8⟩,by rw[hl];exact KL some (MX Q8 ys).symm,rfl⟩
   ·cases h
  ·rename_i t yss hl
   split at h
   ·rename_i he
    subst he
    simp only[A_,DG] at h
    obtain⟨rfl,rfl,rfl⟩:=h
    exact .inr ⟨i,.inr (.inl ⟨rfl,_,rfl⟩),hl,rfl⟩
   ·cases h
  ·rename_i t1 t2 ys hl
   split at h
   ·rename_i he
    subst he
    simp only[A_,DG] at h
    obtain⟨rfl,rfl,rfl⟩:=h
    exact .inr ⟨i,.inr (.inr ⟨rfl,_,_,rfl⟩),hl,rfl⟩
   ·cases h
  ·cases h
 |sub i lo n sz=>
  simp only[N4] at h
  repeat' split at h
  all_goals cases h
 |_=>simp [N4] at h
def Z9 (AQ:Nat->Option A9) (a:Ty):SV->Option (List a.T×NE×DN)
 | .LW=>some ([],.nil,[])
 | .NT i=>match AQ i with
  |some (.row t xs)=>if h:t=a then some (HQ h xs,.whole i,[(i,.dead)]) else none
  |_=>none
 | .sub i 0 n _=>match AQ i with
  |some (.row t xs)=>if h:t=a then some (BF (HQ h xs) 0 n,.whole i,[(i,.dead)]) else none
  |_=>none
 |_=>none
def Nm.cut (m:Nm) (n:Nat):Nm:={ CN:=m.CN,off:=m.off,nil:=m.nil,len:=n,cap:=m.cap,XC:=m.XC,fz:=m.fz }
theorem AGJ {a:Ty} {xs:List a.T} (h:Z9 AQ a v=some (xs,ne,u)):
  (v= .LW/\ne= .nil/\xs=[]/\u=[])\/∃ (i:Nat) (zs:List a.T) (n:Nat),AQ i=some (.row a zs)/\u=[(i,.dead)]/\xs=BF zs 0 n/\∀ (E:Env) (L:AM),v.wf E L->(E.nm i).len=zs.length->n<=zs.length/\v.den E= .slice (E.nm i).ad n (E.nm i).cap:=by
 cases v with
 |LW=>
  simp only[Z9,A_,DG] at h
  obtain⟨rfl,rfl,rfl⟩:=h
  exact .inl ⟨rfl,rfl,rfl,rfl⟩
 |NT i=>
  simp only[Z9] at h
  split at h
  ·rename_i t ys hl
   split at h
   ·rename_i he
    subst he
    simp only[A_,DG] at h
    obtain⟨rfl,rfl,rfl⟩:=h
    refine .inr ⟨i,ys,ys.length,hl,rfl,by simp [HQ,BF],fun E L _ hlen=>⟨EH _,by simp only[SV.den];rw[hlen]⟩⟩
   ·cases h
  ·cases h
 |sub i lo n sz=>
  cases lo with
  |succ _=>simp [Z9] at h
  |zero=>
  simp only[Z9] at h
  split at h
  ·rename_i t ys hl
   split at h
   ·rename_i he
    subst he
    simp only[A_,DG] at h
    obtain⟨rfl,rfl,rfl⟩:=h
    refine .inr ⟨i,ys,n,hl,rfl,rfl,fun E L hw hlen=>⟨by have:=hw.2;omega, ?_⟩⟩
    simp only[SV.den,rI,ABN,AG8]
    congr 1
    split
    ·rfl
    ·cases (E.nm i).ad with
     |none=>rfl
     |some p=>rfl
   ·cases h
  ·cases h
 |_=>simp [Z9] at h
def ART (AQ:Nat->Option A9) (a:Ty) (xs:List a.T) (ne:NE):Prop:=(ne= .nil/\xs=[])\/∃ i,ne= .whole i/\AQ i=some (.shr a xs)
theorem ART.ok {a:Ty} {xs:List a.T} (h:ART AQ a xs ne) (hk:∀ i t ys,AQ i=some (.shr t ys)->rA (Rp G w t) t.sz G w (E.nm i) ys):rA (Rp G w a) a.sz G w (ne.nm E) xs:=by
 rcases h with ⟨rfl,rfl⟩|⟨i,rfl,hl⟩
 ·exact⟨rfl,EH _,.inl rfl⟩
 ·exact hk _ _ _ hl
theorem YX {md:PM} :∀ (t:Ty) (cs:List SV) (x:t.T) (r:List SV) (nes:List NE) (u:DN),FY md AQ t cs=some (x,r,nes,u)→
  (∀ (k:Nat) (o:Bool) (e:A9),(CA o t x)[k]? =some e->e= .dead\/(∃ (a:Ty) (xs:List a.T) (ne:NE),ART AQ a xs ne/\nes[k]? =some ne/\e= .shr a xs)\/∃ (a:Ty) (v:SV) (xs:List a.T) (ne:NE) (uk:DN),N4 md AQ a v=some (xs,ne,uk)/\nes[k]? =some ne/\v∈cs/\(∀ q∈uk,q∈u)/\e=(match o with|true=>J_ a xs|false=>A9.shr a xs))∧
  (∀ q∈u,∃ (k:Nat) (a:Ty) (v:SV) (xs:List a.T) (ne:NE) (uk:DN),N4 md AQ a v=some (xs,ne,uk)/\nes[k]? =some ne/\q∈uk):=by
 intro t
 induction t with
 |pair a b W5 W6=>
  intro cs x r nes u h
  simp only[FY] at h
  repeat' split at h
  all_goals first|(cases h;done)|skip
  rename_i _ x1 r1 n1 u1 h1 _ x2 r2 n2 u2 h2
  simp only[A_,DG] at h
  obtain⟨rfl,rfl,rfl,rfl⟩:=h
  obtain⟨c1,e1,l1,m1,_⟩:=KB ⟨fun _=>⟨0,0,true,0,0,none⟩,fun _=>undef⟩ _ _ _ _ _ _ h1
  obtain⟨p1,q1⟩:=W5 _ _ _ _ _ h1
  obtain⟨p2,q2⟩:=W6 _ _ _ _ _ h2
  refine⟨?_, ?_⟩
  ·intro k o e he
   simp only[CA] at he
   by_cases hk:k<a.HH
   ·rw[V4 (by rw[BJ];exact hk)] at he
    rcases p1 k o e he with hd|⟨a',xs,ne,g1,g2,g3⟩|⟨a',v,xs,ne,uk,g1,g2,g3,g4,g5⟩
    ·exact .inl hd
    ·exact .inr (.inl ⟨a',xs,ne,g1,by rw[V4 (by omega)];exact g2,g3⟩)
    exact .inr <| .inr ⟨a',v,xs,ne,uk,g1,by rw[V4 (by omega)];exact g2,g3,fun q hq=>FG.2 (.inl (g4 q hq)),g5⟩
   ·rw[SI (by rw[BJ];omega),BJ] at he
    rcases p2 _ o e he with hd|⟨a',xs,ne,g1,g2,g3⟩|⟨a',v,xs,ne,uk,g1,g2,g3,g4,g5⟩
    ·exact .inl hd
    ·exact .inr (.inl ⟨a',xs,ne,g1,by rw[SI (by omega),m1];exact g2,g3⟩)
    exact .inr <| .inr ⟨a',v,xs,ne,uk,g1,by rw[SI (by omega),m1];exact g2,by rw[e1];exact FG.2 (.inr g3),fun q hq=>FG.2 (.inr (g4 q hq)),g5⟩
  ·intro q hq
   rcases FG.1 hq with hq|hq
   ·obtain⟨k,a',v,xs,ne,uk,g1,g2,g3⟩:=q1 q hq
    have hk:k<n1.length:=by
     rcases IG k n1.length with h1|h1
     ·exact h1
     ·rw[IF h1] at g2;cases g2
    exact⟨k,a',v,xs,ne,uk,g1,by rw[V4 hk];exact g2,g3⟩
   ·obtain⟨k,a',v,xs,ne,uk,g1,g2,g3⟩:=q2 q hq
    exact⟨n1.length+k,a',v,xs,ne,uk,g1,by rw[SI (by omega)];simpa using g2,g3⟩
 |slice a ih=>
  intro cs x r nes u h
  simp only[FY] at h
  repeat' split at h
  all_goals first|(cases h;done)|skip
  rename_i v r' _ xs ne u' hs
  simp only[A_,DG] at h
  obtain⟨rfl,rfl,rfl,rfl⟩:=h
  refine⟨?_,fun q hq=>⟨0,_,_,_,_,_,hs,rfl,hq⟩⟩
  intro k o e he
  cases k with
  |zero=>
   simp only[CA,MU,A_] at he
   exact .inr (.inr ⟨_,_,_,_,_,hs,rfl,by simp,fun _ h=>h,he.symm⟩)
  |succ k=>simp [CA] at he
 |sl a ih=>
  intro cs x r nes u h
  simp only[FY] at h
  repeat' split at h
  all_goals first|(cases h;done)|skip
  ·simp only[A_,DG] at h
   obtain⟨rfl,rfl,rfl,rfl⟩:=h
   refine⟨fun k o e he=> ?_,fun q hq=>by cases hq⟩
   cases k with
   |zero=>
    simp only[CA,MU,A_] at he
    exact .inr (.inl ⟨_,_,_,.inl ⟨rfl,rfl⟩,rfl,he.symm⟩)
   |succ k=>simp [CA] at he
  ·rename_i hl hta
   subst hta
   simp only[A_,DG] at h
   obtain⟨rfl,rfl,rfl,rfl⟩:=h
   refine⟨fun k o e he=> ?_,fun q hq=>by cases hq⟩
   cases k with
   |zero=>
    simp only[CA,MU,A_] at he
    exact .inr (.inl ⟨_,_,_,.inr ⟨_,rfl,hl⟩,rfl,he.symm⟩)
   |succ k=>simp [CA] at he
 |nf=>
  intro cs x r nes u h
  simp only[FY] at h
  repeat' split at h
  all_goals first|(cases h;done)|skip
  all_goals (simp only[A_,DG] at h;obtain⟨rfl,rfl,rfl,rfl⟩:=h;refine⟨fun k o e he=> .inl ?_,fun q hq=>by cases hq⟩;cases k with
   |zero=>simp only[CA,MU,A_] at he;exact he.symm
   |succ k=>simp [CA] at he)
 |_=>
  intro cs x r nes u h
  simp only[FY] at h
  repeat' split at h
  all_goals first|(cases h;done)|skip
  all_goals (simp only[A_,DG] at h;obtain⟨_,rfl,rfl,rfl⟩:=h;exact⟨fun k o e he=>by simp [CA] at he,fun q hq=>by cases hq⟩)
theorem AT.ADH {c:EX TB} {w:World} {E:Env}:∀ (u:DN) {G:Nat->Prop} {L:AM},AT c G w E L->(∀ q∈u,∃ t ys,((∃ e,look L q.1=some e/\b9 e t ys)\/look L q.1=some (.shr t ys))/\q.2= .shr t ys)→
  ∃ G',AT c G' w E (AJ L u)/\(∀ b,G b->G' b)/\(∀ n,Al L n->Al (AJ L u) n)∧
   (∀ n e,look L n=some e->look (AJ L u) n=some e\/(∃ t ys,b9 e t ys/\look (AJ L u) n=some (.shr t ys)/\(n,.shr t ys)∈u))/\(∀ q∈u,look (AJ L u) q.1=some q.2)
 | [],G,L,h,_=>⟨G,h,fun _ hb=>hb,fun _ hn=>hn,fun n e he=> .inl he,fun q hq=>by cases hq⟩
 |q::r,G,L,h,hu=>by
  obtain⟨t,ys,hq,vR⟩:=hu q (by simp)
  obtain⟨i,e⟩:=q
  simp only at vR hq
  subst vR
  have DY:i<L.length:=by rcases hq with ⟨_,h1,_⟩|h1 <;> exact AR h1
  have hl:=fun n=>BB (L:=L) (q:=(i,A9.shr t ys)) DY n
  obtain⟨G1,h1,hg1⟩:∃ G1,AT c G1 w E (DW L (i,.shr t ys))/\∀ b,G b->G1 b:=by
   rcases hq with ⟨e,hq,ho⟩|hq
   ·cases ho with
    |row=>exact⟨_,h.freeze hq,fun b hb=> .inl hb⟩
    |deep=>exact⟨_,h.ADG hq,fun b hb=> .inl hb⟩
    |tree=>exact⟨_,h.AWA hq,fun b hb=> .inl hb⟩
   ·refine⟨G, ?_,fun _ hb=>hb⟩
    have:=h.change (i:=i) (e' := .shr t ys) (m:=E.nm i) (w' :=w) DY (.refl _) (EH _) (fun _=>rfl) rfl (fun _ _ _=>rfl) (fun b hb=>by cases hb) (fun _ _ _ _ _ _ hb=>by cases hb) (fun h=>h.MQ i _ hq)
    have he:E.set i (E.nm i)=E:=by
     have:(fun k=>if k=i then E.nm i else E.nm k)=E.nm:=by funext k;split <;> simp_all
     simp only[Env.set,this]
    rw[he] at this
    exact this
  have AWD:∀ {e1:A9} {t1 t2:Ty} {y1:List t1.T} {y2:List t2.T},b9 e1 t1 y1->b9 e1 t2 y2->(A9.shr t1 y1)= .shr t2 y2:=by
   intro e1 t1 t2 y1 y2 a b
   cases a <;> cases b <;> rfl
  obtain⟨G2,h2,vS,ha2,MZ,vR⟩:=AT.ADH r h1 (by
   intro p hp
   obtain⟨t',ys',rP,hp2⟩:=hu p (by simp [hp])
   by_cases hpi:p.1=i
   ·refine⟨t,ys,.inr (by rw[hl,AA hpi]), ?_⟩
    rw[hpi] at rP
    rw[hp2]
    rcases hq with ⟨e,hq,ho⟩|hq <;> rcases rP with ⟨e',rP,ho'⟩|rP <;> rw[hq] at rP <;> simp only[A_] at rP
    ·subst rP;exact AWD ho' ho
    ·subst rP;cases ho
    ·subst rP;cases ho'
    ·exact rP.symm
   ·refine⟨t',ys', ?_,hp2⟩
    rw[hl,AE hpi];exact rP)
  refine⟨G2,h2,fun b hb=>vS b (hg1 b hb),fun n hn=>ha2 n (BZ rfl n hn), ?_, ?_⟩
  ·intro n e he
   by_cases hn:n=i
   ·subst hn
    have hx:=MZ n (.shr t ys) (by rw[hl,AA rfl])
    have hx' :look (AJ L ((n,.shr t ys)::r)) n=some (.shr t ys):=by
     rcases hx with hx|⟨_,_,hx,_⟩
     ·exact hx
     ·cases hx
    rcases hq with ⟨e',hq,ho⟩|hq
    ·rw[hq] at he;simp only[A_] at he;subst he
     exact .inr ⟨t,ys,ho,hx',by simp⟩
    ·rw[hq] at he;simp only[A_] at he;subst he
     exact .inl hx'
   ·rcases MZ n e (by rw[hl,AE hn];exact he) with hx|⟨t',ys',hx1,hx2,hx3⟩
    ·exact .inl hx
    ·exact .inr ⟨t',ys',hx1,hx2,by simp [hx3]⟩
  ·intro p hp
   rcases GH.1 hp with rfl|hp
   ·rcases MZ i (.shr t ys) (by rw[hl,AA rfl]) with hx|⟨_,_,hx,_⟩
    ·exact hx
    ·cases hx
   ·exact vR p hp
end Go.V3
namespace Go.V3
open Go
variable {TB:Tb}
structure CT where
 t:Ty
 agg:Bool
 own:Bool
 ptr:Bool
@[reducible] def HT:List CT->Type
 | []=>Unit
 |c::r=>match r with
  | []=>c.t.T
  |_::_=>c.t.T×HT r
def HT.hd:(c:CT)->(r:List CT)->HT (c::r)->c.t.T
 |_,[],x=>x
 |_,_::_,x=>x.1
def HT.tl:(c:CT)->(r:List CT)->HT (c::r)->HT r
 |_,[],_=>()
 |_,_::_,x=>x.2
def HT.mk:(c:CT)->(r:List CT)->c.t.T->HT r->HT (c::r)
 |_,[],x,_=>x
 |_,_::_,x,y=>(x,y)
theorem HT.tU (c:CT) (r:List CT) (x:c.t.T) (y:HT r):HT.hd c r (HT.mk c r x y)=x:=by cases r <;> rfl
theorem HT.tV (c:CT) (r:List CT) (x:c.t.T) (y:HT r):HT.tl c r (HT.mk c r x y)=y:=by cases r <;> rfl
def CT.pn (c:CT):Nat:=match c.ptr with|true=>1|false=>0
def CT.cnt (c:CT):Nat:=c.pn+c.t.HH
def cnts:List CT->Nat
 | []=>0
 |c::r=>c.cnt+cnts r
def C9:Nat->List A9->DN
 |_,[]=>[]
 |n,e::r=>(n,e)::C9 (n+1) r
def V8 (c:CT) (x:c.t.T) (n:Nat):SV:=match c.ptr with
 |true=> .loc n 0
 |false=>match c.agg with
  |true=> .agg (I1 c.t x n)
  |false=>(I1 c.t x n).headD BK
def outSVs:(cs:List CT)->HT cs->Nat->List SV
 | [],_,_=>[]
 |c::r,x,n=>V8 c (HT.hd c r x) n::outSVs r (HT.tl c r x) (n+c.cnt)
def QD (c:CT) (x:c.t.T) (n:Nat):DN:=match c.ptr with
 |true=>C9 (n+1) (CA c.own c.t x)++ [(n,.box (I1 c.t x (n+1)))]
 |false=>C9 n (CA c.own c.t x)
def E5:(cs:List CT)->HT cs->Nat->DN
 | [],_,_=>[]
 |c::r,x,n=>QD c (HT.hd c r x) n++E5 r (HT.tl c r x) (n+c.cnt)
def mN (c:EX TB) (G:Nat->Prop) (w:World) (m:Nm):A9->Prop
 | .row t xs=>Own (Rp G w t) t.sz c G w m xs
 | .shr t xs=>rA (Rp G w t) t.sz G w m xs
 | .deep t xss h=>h=none/\GI c G w ⟨fun _=>m,fun _=>undef⟩ [] m m.ins.l t xss none
 | .tree t1 t2 xs=>F3 c G w m t1 t2 xs
 | .dead=>True
 |_=>False
def A9.YD (e:A9) (m:Nm):List Nat:=match e with
 | .deep _ _ _=>m.ins.l
 | .tree _ _ _=>m.ins.l
 |e=>(e.own m).toList
variable {m:Nm} {b n:Nat} {E:Env} {e:A9}
theorem A9.ADI (h1:E.nm n=m) (h2:E.ins.l n=m.ins.l):e.ow E n b↔b∈e.YD m:=by
 cases e <;> simp [A9.ow,A9.own,A9.YD,A9.UD,A9.QC,h1,h2]
 all_goals exact⟨fun h=>h.symm,fun h=>h.symm⟩
def A9.AOU (e:A9) (E:Env) (n:Nat):List Nat:=match e with
 | .deep _ _ _=>E.ins.l n
 | .tree _ _ _=>(E.nm n).ins.l
 |e=>(e.own (E.nm n)).toList
theorem A9.A30:e.ow E n b↔b∈e.AOU E n:=by
 cases e
 case row t x=>show (A9.row t x).own (E.nm n)=some b\/_↔b∈((A9.row t x).own (E.nm n)).toList;simp [A9.UD,A9.QC]
 case box t=>show (A9.box t).own (E.nm n)=some b\/_↔b∈((A9.box t).own (E.nm n)).toList;simp [A9.UD,A9.QC]
 case map t=>show (A9.map t).own (E.nm n)=some b\/_↔b∈((A9.map t).own (E.nm n)).toList;simp [A9.UD,A9.QC]
 all_goals simp [A9.ow,A9.own,A9.AOU,A9.UD,A9.QC]
theorem mN.nil (c:EX TB) (G:Nat->Prop) (w:World) (a:Ty) (ha:a.A0F=false):mN c G w ⟨0,0,true,0,0,none⟩ (J_ a []):=by
 cases a
 case kv=>cases ha
 case slice a=>exact⟨rfl,{ len:=rfl,off:=rfl,nd:=dP,all:=fun b hb=>(by cases hb),cs:= .inl ⟨rfl,rfl,rfl⟩ }⟩
 case pair a b=>cases a <;> cases b <;> first|exact⟨rfl,trivial,.inl ⟨rfl,rfl,rfl⟩⟩|exact⟨rfl,rfl,dP,fun b hb=>(by cases hb),.inl ⟨rfl,rfl,rfl⟩⟩
 all_goals exact⟨rfl,trivial,.inl ⟨rfl,rfl,rfl⟩⟩
theorem A9.AGK (h:e.own m=some b):b∈e.YD m:=by
 cases e <;> first|cases h;done|simp [A9.YD,h]
variable {w:World} {G:Nat->Prop} {c:EX TB}
theorem mN.xM (h:mN c G w m e) (hb:b∈e.YD m):¬c.Old b/\¬G b/\b<w.heap.size:=by
 cases e with
 |row t xs=>
  have h' :bM c G w ⟨fun _=>m,fun _=>undef⟩ [] m (.row t xs):=h
  have UB :(A9.row t xs).own m=some b:=by simpa [A9.YD] using hb
  obtain⟨_,_,_,h4,h5,o,h6⟩:=h'.xJ UB
  exact⟨h5,h4,UE h6⟩
 |deep t xss q=>
  obtain⟨h1,h2,arr,ty,_,h3⟩:=h.2.all b hb
  exact⟨h2,h1,UE h3⟩
 |tree t1 t2 xs=>
  obtain⟨h1,h2,arr,ty,_,h3⟩:=h.all b hb
  exact⟨h2,h1,UE h3⟩
 |shr t xs=>simp [A9.YD,A9.own] at hb
 |dead=>simp [A9.YD,A9.own] at hb
 |_=>exact h.elim
def HJ (c:EX TB) (G:Nat->Prop) (w:World) (d:CT) (x:d.t.T) (ms:Nat->Nm):Prop:=
 (∀ j e,(CA d.own d.t x)[j]? =some e->mN c G w (ms (d.pn+j)) e)∧
 (d.ptr=true->(ms 0).nil=false/\(ms 0).off=(ms 0).pp.pre.length/\¬G (ms 0).CN/\¬c.Old (ms 0).CN/\∃ ty,w.heap[(ms 0).CN]? =some (.cells ((ms 0).arr (enc d.t x (fun j=>ms (d.pn+j)))) ty (0,0)))
def PS (c:EX TB) (G:Nat->Prop) (w:World):(cs:List CT)->HT cs->(Nat->Nm)->Prop
 | [],_,_=>True
 |d::r,x,ms=>HJ c G w d (HT.hd d r x) ms/\PS c G w r (HT.tl d r x) (fun k=>ms (d.cnt+k))
def HE:List A9->(Nat->Nm)->List Nat
 | [],_=>[]
 |e::r,ms=>e.YD (ms 0)++HE r (fun k=>ms (k+1))
def N5 (d:CT) (x:d.t.T) (ms:Nat->Nm):List Nat:=(match d.ptr with|true=>[(ms 0).CN]|false=>[])++HE (CA d.own d.t x) (fun j=>ms (d.pn+j))
def C2:(cs:List CT)->HT cs->(Nat->Nm)->List Nat
 | [],_,_=>[]
 |d::r,x,ms=>N5 d (HT.hd d r x) ms++C2 r (HT.tl d r x) (fun k=>ms (d.cnt+k))
def JP (E:Env) (L:AM) (b:Nat):Prop:=∀ n e,look L n=some e->¬e.ow E n b
def Env.put (E:Env) (n cnt:Nat) (ms:Nat->Nm):Env:={ E with nm:=fun k=>if n<=k/\k<n+cnt then ms (k-n) else E.nm k,ins:=⟨fun k=>if n<=k/\k<n+cnt then (ms (k-n)).ins.l else E.ins.l k⟩ }
variable {j:Nat}
theorem Env.mO (E:Env) (n cnt:Nat) (ms:Nat->Nm) (h:j<cnt):(E.put n cnt ms).nm (n+j)=ms j:=by
 simp only[Env.put]
 rw[AA ⟨by omega,by omega⟩]
 congr 1;omega
theorem Env.XR (E:Env) (n cnt:Nat) (ms:Nat->Nm) {k:Nat} (h:k<n\/n+cnt<=k):(E.put n cnt ms).nm k=E.nm k:=by
 simp only[Env.put]
 rw[af]
theorem Env.AME (E:Env) (n cnt:Nat) (ms:Nat->Nm) (h:j<cnt):(E.put n cnt ms).ins.l (n+j)=(ms j).ins.l:=by
 simp only[Env.put]
 rw[AA ⟨by omega,by omega⟩]
 congr 3;omega
theorem Env.ARU (E:Env) (n cnt:Nat) (ms:Nat->Nm) {k:Nat} (h:k<n\/n+cnt<=k):(E.put n cnt ms).ins.l k=E.ins.l k:=by
 simp only[Env.put]
 rw[af]
theorem A9.dZ {cnt:Nat} {ms:Nat->Nm} (h:j<cnt):e.ow (E.put n cnt ms) (n+j) b↔b∈e.YD (ms j):=A9.ADI (E.mO n cnt ms h) (E.AME n cnt ms h)
variable {E':Env}
theorem A9.iK (h:E'.nm n=E.nm n/\E'.ins.l n=E.ins.l n):e.ow E' n b↔e.ow E n b:=by unfold A9.ow;rw[h.1,h.2]
theorem A9.rQ {cnt:Nat} {ms:Nat->Nm} {k:Nat} (h:k<n\/n+cnt<=k):e.ow (E.put n cnt ms) k b↔e.ow E k b:=A9.iK ⟨E.XR n cnt ms h,E.ARU n cnt ms h⟩
theorem MD (h:∀ k,E.nm k=E'.nm k) (h2:E.ds=E'.ds) (h3:∀ k,E.ins.l k=E'.ins.l k):E=E' :=by
 obtain @⟨a,b,⟨d⟩⟩:=E
 obtain @⟨a',b',⟨d'⟩⟩:=E'
 have e1:a=a' :=funext h
 have e2:b=b' :=h2
 have e3:d=d' :=funext h3
 subst e1 e2 e3
 rfl
theorem I3 {f:A9} {b:Nat}:∀ (es:List A9) (j:Nat) (ms:Nat->Nm),es[j]? =some f->b∈f.YD (ms j)->b∈HE es ms
 | [],j,ms,h,_=>by simp at h
 |e::r,0,ms,h,hb=>by
  simp only[MU,A_] at h;subst h
  simp only[HE];exact FG.2 (.inl hb)
 |e::r,j+1,ms,h,hb=>by
  simp only[AD8] at h
  simp only[HE]
  exact FG.2 (.inr (I3 r j (fun k=>ms (k+1)) h hb))
theorem AT.oP {c:EX TB} {G:Nat->Prop} {w:World}:∀ (es:List A9) {E:Env} {L:AM} {n:Nat} {ms:Nat->Nm},AT c G w E L->(∀ j,j<es.length->look L (n+j)=some .MB)→
  (∀ j e,es[j]? =some e->mN c G w (ms j) e)->(HE es ms).Nodup->(∀ b∈HE es ms,JP E L b)→
  AT c G w (E.put n es.length ms) (AJ L (C9 n es))/\(∀ k,look (AJ L (C9 n es)) k=if n<=k/\k<n+es.length then es[k-n]? else look L k)
 | [],E,L,n,ms,h,_,_,_,_=>by
  have e1:E.put n 0 ms=E:=MD (fun k=>by simp only[Env.put];rw[af]) rfl (fun k=>by simp only[Env.put];rw[af])
  refine⟨by rw[SK,e1];exact h,fun k=> ?_⟩
  rw[AE (by simp)];rfl
 |e::r,E,L,n,ms,h,hl,hm,HN,XS=>by
  have h0:look L n=some .MB:=hl 0 (by simp)
  have DY:=AR h0
  have CL:=fun k=>BB (L:=L) (q:=(n,e)) DY k
  have hm0:=hm 0 e rfl
  have CW:e.IL=false:=by cases e <;> first|rfl|exact hm0.elim
  have C6:∀ b,b∈e.YD (ms 0)->¬c.Old b/\¬G b:=fun b hb=>⟨(hm0.xM hb).1,(hm0.xM hb).2.1⟩
  have SN:∀ b,b∈e.YD (ms 0)->b∈HE (e::r) ms:=by
   intro b hb
   simp only[HE]
   exact FG.2 (.inl hb)
  have jP:∀ b,e.ow (E.UF n (ms 0) (ms 0).ins.l) n b↔b∈e.YD (ms 0):=fun b=>A9.ADI (E.FE _ _ _).1 (E.FE _ _ _).2
  have h1:AT c G w (E.UF n (ms 0) (ms 0).ins.l) (DW L (n,e)):=by
   refine h.VF DY (.refl _) (EH _) (fun NX=>absurd NX (FA h0)) (fun k hk=>E.NW _ _ hk) CW (fun _ _ _=>rfl) (fun b hb=>C6 b ((jP b).1 hb)) ?_ ?_ ?_
   ·intro k f hk hf b hb he
    exact XS b (SN b ((jP b).1 he)) k f hf hb
   ·rw[(E.FE _ _ _).1]
    cases e with
    |row t xs=>exact hm0
    |shr t xs=>exact hm0
    |deep t xss q=>trivial
    |dead=>trivial
    |tree t1 t2 xs=>exact hm0
    |_=>exact hm0.elim
   ·intro t xss q he
    subst he
    obtain⟨rfl,hm0⟩:=hm0
    rw[(E.FE _ _ _).1,(E.FE _ _ _).2]
    exact hm0.env ⟨rfl,rfl,rfl,rfl,rfl⟩
  have AWE :(HE r (fun k=>ms (k+1))).Nodup:=(PB.1 HN).2.1
  obtain⟨h2,h3⟩:=AT.oP r (n:=n+1) (ms:=fun k=>ms (k+1)) h1 (by
    intro j hj
    rw[CL,AE (by simp;omega)]
    have:=hl (j+1) (by simp;omega)
    rw[<-this];congr 1;omega)
   (fun j e' xN =>hm (j+1) e' (by simpa using xN)) AWE (by
    intro b hb k f hf RS
    rw[CL] at hf
    by_cases hk:k=n
    ·subst hk
     simp only[HP,A_] at hf
     subst hf
     exact (PB.1 HN).2.2 b ((jP b).1 RS) b hb rfl
    ·rw[AE hk] at hf
     rw[A9.iK (E.NW _ _ hk)] at RS
     exact XS b (by simp only[HE];exact FG.2 (.inr hb)) k f hf RS)
  have e1:(E.UF n (ms 0) (ms 0).ins.l).put (n+1) r.length (fun k=>ms (k+1))=E.put n (e::r).length ms:=by
   refine MD (fun k=> ?_) rfl (fun k=> ?_)
   all_goals simp only[Env.put,Env.UF,NU]
   all_goals by_cases hk:k=n
   all_goals first|subst hk|skip
   ·rw[af,AA rfl,AA ⟨by omega,by omega⟩]
    congr 1;omega
   ·by_cases MZ:n+1<=k/\k<n+1+r.length
    ·rw[AA MZ,AA ⟨by omega,by omega⟩]
     congr 1;omega
    ·rw[AE MZ,AE hk,af]
   ·rw[af,AA rfl,AA ⟨by omega,by omega⟩]
    congr 3;omega
   ·by_cases MZ:n+1<=k/\k<n+1+r.length
    ·rw[AA MZ,AA ⟨by omega,by omega⟩]
     congr 3;omega
    ·rw[AE MZ,AE hk,af]
  refine⟨by rw[<-e1];exact h2,fun k=> ?_⟩
  have:=h3 k
  show look (AJ (DW L (n,e)) (C9 (n+1) r)) k=_
  rw[this,CL,NU]
  by_cases hk:k=n
  ·subst hk
   rw[af,AA rfl,AA ⟨by omega,by omega⟩]
   simp
  ·by_cases MZ:n+1<=k/\k<n+1+r.length
   ·rw[AA MZ,AA ⟨by omega,by omega⟩]
    have:k-n=(k-(n+1))+1:=by omega
    rw[this];simp
   ·rw[AE MZ,AE hk,af]
theorem BS (L:AM) (a b:DN):AJ L (a++b)=AJ (AJ L a) b:=by simp [AJ]
theorem YY {o:Bool} {t:Ty} {x:t.T} (h:(CA o t x)[j]? =some e):e.IL=false:=by
 induction t generalizing j with
 |pair a b W5 W6=>
  simp only[CA] at h
  by_cases hk:j<(CA o a x.1).length
  ·rw[V4 hk] at h;exact W5 h
  ·rw[SI (by omega)] at h;exact W6 h
 |slice a=>
  cases j with
  |zero=>simp only[CA,MU,A_] at h;subst h;cases o <;> first|rfl|exact mM _ _
  |succ j=>simp [CA] at h
 |nf=>
  cases j with
  |zero=>simp only[CA,MU,A_] at h;subst h;rfl
  |succ j=>simp [CA] at h
 |sl a=>
  cases j with
  |zero=>simp only[CA,MU,A_] at h;subst h;rfl
  |succ j=>simp [CA] at h
 |_=>simp [CA] at h
variable {L:AM}
theorem xO (t:Ty) (x:t.T) (n:Nat) (h:∀ j,j<t.HH->Al L (n+j)):MT E L (I1 t x n):=by
 induction t generalizing n with
 |pair a b W5 W6=>
  simp only[I1]
  rw[B1]
  intro v hv
  rcases FG.1 hv with hv|hv
  ·exact B1.1 (W5 x.1 n (fun j hj=>h j (by simp [Ty.HH];omega))) v hv
  ·exact B1.1 (W6 x.2 _ (fun j hj=>by rw[PC];exact h _ (by simp [Ty.HH];omega))) v hv
 |slice a=>exact⟨h 0 (by simp [Ty.HH]),trivial⟩
 |nf=>exact⟨h 0 (by simp [Ty.HH]),trivial⟩
 |sl a=>exact⟨h 0 (by simp [Ty.HH]),trivial⟩
 |_=>exact⟨trivial,trivial⟩
theorem AT.AMF (h:AT c G w E L) (d:CT) (x:d.t.T) {ms:Nat->Nm} (hl:∀ j,j<d.cnt->look L (n+j)=some .MB)
  (hc:HJ c G w d x ms) (HN:(N5 d x ms).Nodup) (XS:∀ b∈N5 d x ms,JP E L b):
  AT c G w (E.put n d.cnt ms) (AJ L (QD d x n))/\(∀ k,(n<=k/\k<n+d.cnt->Al (AJ L (QD d x n)) k)/\(¬(n<=k/\k<n+d.cnt)->look (AJ L (QD d x n)) k=look L k))∧
   (V8 d x n).wf (E.put n d.cnt ms) (AJ L (QD d x n))∧
   (∀ k f b,n<=k/\k<n+d.cnt->look (AJ L (QD d x n)) k=some f->f.ow (E.put n d.cnt ms) k b->b∈N5 d x ms):=by
 unfold QD V8
 unfold HJ CT.cnt N5 CT.pn at*
 cases hp:d.ptr with
 |false=>
  simp only[hp,NV,dR] at*
  obtain⟨h1,h2⟩:=AT.oP (CA d.own d.t x) (n:=n) (ms:=ms) h (fun j hj=>hl j (by rw[BJ] at hj;exact hj)) hc.1 HN XS
  rw[BJ] at h1 h2
  have NX:∀ k,n<=k/\k<n+d.t.HH->Al (AJ L (C9 n (CA d.own d.t x))) k:=by
   intro k hk
   have DY:k-n<(CA d.own d.t x).length:=by rw[BJ];omega
   refine⟨(CA d.own d.t x)[k-n], ?_,YY (O6 DY)⟩
   rw[h2,AA hk,O6 DY]
  refine⟨h1,fun k=>⟨NX k,fun hk=>by rw[h2,AE hk]⟩, ?_, ?_⟩
  rotate_left
  ·intro k f b hk hf hb
   rw[h2,AA hk] at hf
   have e0:k=n+(k-n):=by omega
   rw[e0,A9.dZ (by omega)] at hb
   exact I3 _ _ _ hf hb
  have hw:MT (E.put n d.t.HH ms) (AJ L (C9 n (CA d.own d.t x))) (I1 d.t x n):=xO _ _ _ fun j hj=>NX _ ⟨by omega,by omega⟩
  cases hd:d.agg with
  |true=>exact hw
  |false=>
   show SV.wf _ _ ((I1 d.t x n).headD BK)
   cases hu:I1 d.t x n with
   |nil=>trivial
   |cons v r=>rw[hu] at hw;exact hw.1
 |true=>
  simp only[hp] at*
  obtain⟨hc1,hc2⟩:=hc
  obtain⟨b1,b2,b3,b4,ty,b5⟩:=hc2 trivial
  have YZ:=PB.1 HN
  obtain⟨h1,h2⟩:=AT.oP (CA d.own d.t x) (n:=n+1) (ms:=fun j=>ms (1+j)) h (fun j hj=>by have:=hl (1+j) (by rw[BJ] at hj;omega);rw[<-this];congr 1;omega) hc1 YZ.2.1
   (fun b hb=>XS b (FG.2 (.inr hb)))
  rw[BJ] at h1 h2
  have h0:look (AJ L (C9 (n+1) (CA d.own d.t x))) n=some .MB:=by
   rw[h2,af];exact hl 0 (by omega)
  have DY:=AR h0
  have CL:=fun k=>BB (q:=(n,A9.box (I1 d.t x (n+1)))) DY k
  have NX:∀ k,n<=k/\k<n+(1+d.t.HH)->Al (DW (AJ L (C9 (n+1) (CA d.own d.t x))) (n,A9.box (I1 d.t x (n+1)))) k:=by
   intro k hk
   by_cases hkn:k=n
   ·exact⟨.box (I1 d.t x (n+1)),by rw[CL,AA hkn],rfl⟩
   ·have DY:k-(n+1)<(CA d.own d.t x).length:=by rw[BJ];omega
    refine⟨(CA d.own d.t x)[k-(n+1)], ?_,YY (O6 DY)⟩
    rw[CL,AE hkn,h2,ab,O6 DY]
  have e1:(E.put (n+1) d.t.HH (fun j=>ms (1+j))).UF n (ms 0) (ms 0).ins.l=E.put n (1+d.t.HH) ms:=by
   refine MD (fun k=> ?_) rfl (fun k=> ?_)
   all_goals simp only[Env.put,Env.UF]
   all_goals by_cases hk:k=n
   all_goals first|subst hk|skip
   ·rw[AA rfl,ab]
    congr 1;omega
   ·rw[AE hk]
    by_cases MZ:n+1<=k/\k<n+1+d.t.HH
    ·rw[AA MZ,ab]
     congr 1;omega
    ·rw[AE MZ,af]
   ·rw[AA rfl,ab]
    congr 3;omega
   ·rw[AE hk]
    by_cases MZ:n+1<=k/\k<n+1+d.t.HH
    ·rw[AA MZ,ab]
     congr 3;omega
    ·rw[AE MZ,af]
  have vT:MT (E.put n (1+d.t.HH) ms) (DW (AJ L (C9 (n+1) (CA d.own d.t x))) (n,A9.box (I1 d.t x (n+1)))) (I1 d.t x (n+1)):=
   xO _ _ _ fun j hj=>NX _ (by omega)
  have h3:=h1.AWB (i:=n) (e' := .box (I1 d.t x (n+1))) (m:=ms 0) (w' :=w) (ms 0).ins.l DY (.refl _) (EH _) (fun hx=>absurd hx (FA h0)) rfl (fun _ _ _=>rfl)
   (fun b hb=>by simp only[A9.own,A_] at hb;subst hb;exact⟨b4,b3⟩)
   (by
    intro k f hk hf b hb he
    simp only[A9.own,A_] at he
    subst he
    rw[h2] at hf
    by_cases MZ:n+1<=k/\k<n+1+d.t.HH
    ·rw[AA MZ] at hf
     have MR:(ms 0).CN∈HE (CA d.own d.t x) (fun j=>ms (1+j)):=by
      have:k=n+1+(k-(n+1)):=by omega
      rw[this,A9.dZ (by omega)] at hb
      exact I3 _ _ _ hf hb
     exact YZ.2.2 _ (by simp) _ MR rfl
    ·rw[AE MZ] at hf
     rw[A9.rQ (by omega)] at hb
     exact XS _ (FG.2 (.inl (by simp))) k f hf hb)
   (by
    intro _
    rw[e1]
    refine⟨b1,b2,b3,b4,⟨ty, ?_⟩,vT⟩
    rw[b5,XQ]
    congr 3
    apply IH
    intro j hj
    show ms (1+j)=(E.put n (1+d.t.HH) ms).nm (n+1+j)
    rw[PC,Env.mO _ _ _ _ (by omega)])
  rw[e1] at h3
  rw[BS]
  refine⟨h3,fun k=>⟨NX k,fun hk=> ?_⟩,NX n (by omega), ?_⟩
  ·show look (DW _ _) k=_
   rw[CL,af,h2,af]
  ·intro k f b hk hf hb
   have hf' :look (DW (AJ L (C9 (n+1) (CA d.own d.t x))) (n,A9.box (I1 d.t x (n+1)))) k=some f:=hf
   rw[CL] at hf'
   by_cases hkn:k=n
   ·subst hkn
    simp only[HP,A_] at hf'
    subst hf'
    have UB :=(A9.dZ (e:= .box (I1 d.t x (k+1))) (E:=E) (n:=k) (cnt:=1+d.t.HH) (ms:=ms) (j:=0) (b:=b) (by omega)).1 (by simpa using hb)
    simp only[A9.YD,A9.own,Option.toList_some,GG] at UB
    exact FG.2 (.inl (by simp [UB]))
   ·rw[AE hkn,h2,ab] at hf'
    have e0:k=n+(1+(k-(n+1))):=by omega
    rw[e0,A9.dZ (by omega)] at hb
    exact FG.2 (.inr (I3 _ _ (fun j=>ms (1+j)) hf' hb))
theorem AT.oQ {c:EX TB} {G:Nat->Prop} {w:World}:∀ (cs:List CT) {E:Env} {L:AM} (x:HT cs) {n:Nat} {ms:Nat->Nm},AT c G w E L->(∀ j,j<cnts cs->look L (n+j)=some .MB)→
  PS c G w cs x ms->(C2 cs x ms).Nodup->(∀ b∈C2 cs x ms,JP E L b)→
  AT c G w (E.put n (cnts cs) ms) (AJ L (E5 cs x n))/\(∀ k,(n<=k/\k<n+cnts cs->Al (AJ L (E5 cs x n)) k)/\(¬(n<=k/\k<n+cnts cs)->look (AJ L (E5 cs x n)) k=look L k))∧
   MT (E.put n (cnts cs) ms) (AJ L (E5 cs x n)) (outSVs cs x n)
 | [],E,L,x,n,ms,h,_,_,_,_=>by
  have e1:E.put n 0 ms=E:=MD (fun k=>by simp only[Env.put];rw[af]) rfl (fun k=>by simp only[Env.put];rw[af])
  refine⟨by simp only[cnts,e1];exact h,fun k=>⟨fun hk=>by simp [cnts] at hk;omega,fun _=>rfl⟩,trivial⟩
 |d::r,E,L,x,n,ms,h,hl,hp,HN,XS=>by
  have YZ:=PB.1 HN
  obtain⟨h1,h2,h3,h4⟩:=h.AMF d (HT.hd d r x) (n:=n) (ms:=ms) (fun j hj=>hl j (by simp [cnts];omega)) hp.1 YZ.1 (fun b hb=>XS b (FG.2 (.inl hb)))
  obtain⟨k1,k2,k3⟩:=AT.oQ r (HT.tl d r x) (n:=n+d.cnt) (ms:=fun k=>ms (d.cnt+k)) h1
   (by
    intro j hj
    rw[(h2 _).2 (by omega),PC]
    exact hl _ (by simp [cnts];omega)) hp.2 YZ.2.1
   (by
    intro b hb k f hf RS
    by_cases hk:n<=k/\k<n+d.cnt
    ·exact YZ.2.2 b (h4 k f b hk hf RS) b hb rfl
    ·rw[(h2 k).2 hk] at hf
     rw[A9.rQ (by omega)] at RS
     exact XS b (FG.2 (.inr hb)) k f hf RS)
  have e1:(E.put n d.cnt ms).put (n+d.cnt) (cnts r) (fun k=>ms (d.cnt+k))=E.put n (cnts (d::r)) ms:=by
   show _=E.put n (d.cnt+cnts r) ms
   refine MD (fun k=> ?_) rfl (fun k=> ?_)
   all_goals simp only[Env.put]
   all_goals by_cases hk:n+d.cnt<=k/\k<n+d.cnt+cnts r
   ·rw[AA hk,ab]
    congr 1;omega
   ·rw[AE hk]
    by_cases MZ:n<=k/\k<n+d.cnt
    ·rw[AA MZ,ab]
    ·rw[AE MZ,af]
   ·rw[AA hk,ab]
    congr 3;omega
   ·rw[AE hk]
    by_cases MZ:n<=k/\k<n+d.cnt
    ·rw[AA MZ,ab]
    ·rw[AE MZ,af]
  have e2:AJ L (E5 (d::r) x n)=AJ (AJ L (QD d (HT.hd d r x) n)) (E5 r (HT.tl d r x) (n+d.cnt)):=by
   simp only[E5,BS]
  rw[e1] at k1 k3
  rw[e2]
  have NX:∀ k,Al (AJ L (QD d (HT.hd d r x) n)) k->Al (AJ (AJ L (QD d (HT.hd d r x) n)) (E5 r (HT.tl d r x) (n+d.cnt))) k:=by
   intro k hk
   by_cases MZ:n+d.cnt<=k/\k<n+d.cnt+cnts r
   ·exact (k2 k).1 MZ
   ·obtain⟨e,tW,he2⟩:=hk
    exact⟨e,by rw[(k2 k).2 MZ];exact tW,he2⟩
  refine⟨k1,fun k=>⟨fun hk=> ?_,fun hk=> ?_⟩, ?_,k3⟩
  ·simp only[cnts] at hk
   by_cases MZ:n+d.cnt<=k/\k<n+d.cnt+cnts r
   ·exact (k2 k).1 MZ
   ·exact NX k ((h2 k).1 (by omega))
  ·simp only[cnts] at hk
   rw[(k2 k).2 (by omega),(h2 k).2 (by omega)]
  ·refine (Z7 NX (fun k hk=> ?_) _ h3).1
   rw[<-e1]
   refine Env.XR _ _ _ _ ?_
   rcases IG k (n+d.cnt) with DY|hge
   ·exact .inl DY
   ·right
    rcases IG k (n+d.cnt+cnts r) with AJL|ARV
    ·exfalso
     have:look (AJ L (QD d (HT.hd d r x) n)) k=some .MB:=by
      rw[(h2 k).2 (by omega)]
      have:=hl (k-n) (by simp [cnts];omega)
      have e:n+(k-n)=k:=by omega
      rw[e] at this;exact this
     exact FA this hk
    ·exact ARV
structure M0 (T:Type) where
 x:T
 nes:List NE
 fz:DN
 on:List Nat
 ln:List Nat
def QE (md:PM) (AQ:Nat->Option A9) (c:CT) (v:SV):Option (M0 c.t.T):=
 match c.ptr with
 |true=>match v with
  | .loc i off=>if off=0 then (match AQ i with
   |some (.box cs)=>match c.own with
    |true=>match FY .own AQ c.t cs with
     |some (x,[],nes,u)=>some ⟨x,.whole i::nes,[],i::u.map (·.1),[]⟩
     |_=>none
    |false=>match FY md AQ c.t cs with
     |some (x,[],nes,u)=>some ⟨x,.whole i::nes,u,[i],nes.filterMap NE.name⟩
     |_=>none
   |_=>none) else none
  |_=>none
 |false=>match (match c.agg,v with
   |true,.agg cs=>some cs
   |true,_=>none
   |false,v=>some [v]) with
  |none=>none
  |some cs=>match c.own with
   |true=>match FY .own AQ c.t cs with
    |some (x,[],nes,u)=>some ⟨x,nes,[],u.map (·.1),[]⟩
    |_=>none
   |false=>match FY md AQ c.t cs with
    |some (x,[],nes,u)=>some ⟨x,nes,u,[],nes.filterMap NE.name⟩
    |_=>none
def KC (md:PM) (AQ:Nat->Option A9):(cs:List CT)->List SV->Option (M0 (HT cs))
 | [],[]=>some ⟨(),[],[],[],[]⟩
 |c::r,v::vs=>match QE md AQ c v with
  |none=>none
  |some a=>match KC md AQ r vs with
   |none=>none
   |some b=>some ⟨HT.mk c r a.x b.x,a.nes++b.nes,a.fz++b.fz,a.on++b.on,a.ln++b.ln⟩
 |_,_=>none
def okA {T:Type} (a:M0 T):Bool:=decide a.on.Nodup && a.on.all fun i=> !a.ln.contains i
def M0.DU {T:Type} (a:M0 T):DN:=a.fz++a.on.map fun i=>(i,.dead)
end Go.V3
namespace Go.V3
open Go
variable {TB:Tb}
variable {v:SV} {AQ:Nat->Option A9}
theorem LU {md:PM} {c:CT} {a:M0 c.t.T} (h:QE md AQ c v=some a):
  ∃ (cs:List SV) (u:DN) (nes:List NE) (x:c.t.T),FY (if c.own=true then .own else md) AQ c.t cs=some (x,[],nes,u)/\a.x=x∧
   ((c.ptr=true/\∃ i,v= .loc i 0/\AQ i=some (.box cs)/\a.nes= .whole i::nes/\a.on=i::(if c.own=true then u.map (·.1) else []))∨
    (c.ptr=false/\((c.agg=true/\v= .agg cs)\/(c.agg=false/\cs=[v]))/\a.nes=nes/\a.on=(if c.own=true then u.map (·.1) else [])))∧
   a.fz=(if c.own=true then [] else u)/\a.ln=(if c.own=true then [] else nes.filterMap NE.name):=by
 unfold QE at h
 split at h
 ·rename_i hp
  split at h
  ·rename_i i off
   split at h
   ·rename_i ho
    subst ho
    split at h
    ·rename_i cs hl
     split at h
     ·rename_i C6
      split at h
      ·rename_i x nes u hk
       simp only[A_] at h;subst h
       exact⟨cs,u,nes,x,by simp [C6,hk],rfl,.inl ⟨hp,i,rfl,hl,rfl,by simp [C6]⟩,by simp [C6],by simp [C6]⟩
      ·cases h
     ·rename_i C6
      split at h
      ·rename_i x nes u hk
       simp only[A_] at h;subst h
       exact⟨cs,u,nes,x,by simp [C6,hk],rfl,.inl ⟨hp,i,rfl,hl,rfl,by simp [C6]⟩,by simp [C6],by simp [C6]⟩
      ·cases h
    ·cases h
   ·cases h
  ·cases h
 ·rename_i hp
  split at h
  ·cases h
  ·rename_i cs hcs
   have hag:(c.agg=true/\v= .agg cs)\/(c.agg=false/\cs=[v]):=by
    split at hcs
    ·rename_i ha;simp only[A_] at hcs;exact .inl ⟨ha,by rw[hcs]⟩
    ·cases hcs
    ·rename_i ha;simp only[A_] at hcs;exact .inr ⟨ha,hcs.symm⟩
   split at h
   ·rename_i C6
    split at h
    ·rename_i x nes u hk
     simp only[A_] at h;subst h
     exact⟨cs,u,nes,x,by simp [C6,hk],rfl,.inr ⟨hp,hag,rfl,by simp [C6]⟩,by simp [C6],by simp [C6]⟩
    ·cases h
   ·rename_i C6
    split at h
    ·rename_i x nes u hk
     simp only[A_] at h;subst h
     exact⟨cs,u,nes,x,by simp [C6,hk],rfl,.inr ⟨hp,hag,rfl,by simp [C6]⟩,by simp [C6],by simp [C6]⟩
    ·cases h
theorem RT {md:PM} {c:CT} {r:List CT} {vs:List SV} {a:M0 (HT (c::r))} (h:KC md AQ (c::r) vs=some a):
  ∃ v vs' a1 a2,vs=v::vs' /\QE md AQ c v=some a1/\KC md AQ r vs' =some a2/\a=⟨HT.mk c r a1.x a2.x,a1.nes++a2.nes,a1.fz++a2.fz,a1.on++a2.on,a1.ln++a2.ln⟩:=by
 cases vs with
 |nil=>simp [KC] at h
 |cons v vs' =>
  simp only[KC] at h
  split at h
  ·cases h
  ·split at h
   ·cases h
   ·simp only[A_] at h
    exact⟨v,vs',_,_,rfl,by assumption,by assumption,h.symm⟩
theorem SO {md:PM} {c:CT} {a:M0 c.t.T} (h:QE md AQ c v=some a):a.nes.length=c.cnt:=by
 obtain⟨cs,u,nes,x,h1,rfl,h2,_⟩:=LU h
 obtain⟨_,_,_,hn,_⟩:=KB ⟨fun _=>⟨0,0,true,0,0,none⟩,fun _=>undef⟩ _ _ _ _ _ _ h1
 unfold CT.cnt CT.pn
 rcases h2 with ⟨hp,i,_,_,e,_⟩|⟨hp,_,e,_⟩
 ·rw[e,hp];simp [hn];omega
 ·rw[e,hp];simp [hn]
theorem AGL {md:PM} {c:CT} {a:M0 c.t.T} (h:QE md AQ c v=some a) (E Em:Env) (n:Nat) (hm:∀ k,k<c.cnt->Em.nm (n+k)=D4 E a.nes k):
  v.den E=(V8 c a.x n).den Em:=by
 obtain⟨cs,u,nes,x,h1,rfl,h2,_⟩:=LU h
 obtain⟨c1,e1,l1,hn,hd⟩:=KB E _ _ _ _ _ _ h1
 rw[FP] at e1;subst e1
 unfold CT.cnt CT.pn at hm
 unfold V8
 rcases h2 with ⟨hp,i,rfl,_,e,_⟩|⟨hp,hag,e,_⟩
 ·rw[hp] at hm ⊢
  rw[e] at hm
  have h0:=hm 0 (by simp;omega)
  simp only[P6,D4,MU,NE.nm] at h0
  simp only[SV.den,h0]
 ·rw[hp] at hm ⊢
  rw[e] at hm
  have hen:enc c.t a.x (D4 E nes)=AN Em (I1 c.t a.x n):=by
   rw[XQ]
   exact IH _ _ fun k hk=>(hm k (by simpa using hk)).symm
  rcases hag with ⟨ha,rfl⟩|⟨ha,rfl⟩
  ·rw[ha];simp only[SV.den];rw[hd,hen]
  ·rw[ha]
   simp only
   rw[hen] at hd
   cases hu:I1 c.t a.x n with
   |nil=>rw[hu] at hd;simp [AN] at hd
   |cons y r=>rw[hu] at hd;simp only[AN,mI] at hd;exact hd.1
theorem Y0 {md:PM} (E:Env):∀ (cs:List CT) (vs:List SV) (a:M0 (HT cs)),KC md AQ cs vs=some a->a.nes.length=cnts cs∧
  ∀ (Em:Env) (n:Nat),(∀ k,k<cnts cs->Em.nm (n+k)=D4 E a.nes k)->AN E vs=AN Em (outSVs cs a.x n):=by
 intro cs
 induction cs with
 |nil=>
  intro vs a h
  cases vs with
  |nil=>simp only[KC,A_] at h;subst h;exact⟨rfl,fun _ _ _=>rfl⟩
  |cons v r=>simp [KC] at h
 |cons c r ih=>
  intro vs a h
  obtain⟨v,vs',a1,a2,rfl,h1,h2,rfl⟩:=RT h
  obtain⟨l2,d2⟩:=ih _ _ h2
  have l1:=SO h1
  obtain⟨k1,k2⟩:=MY E a1.nes a2.nes
  refine⟨by simp [cnts,l1,l2],fun Em n hm=> ?_⟩
  simp only[AN,outSVs,HT.tU,HT.tV]
  rw[AGL h1 E Em n (fun k hk=>by rw[hm k (by simp [cnts];omega)];exact k1 k (by omega))]
  rw[d2 Em (n+c.cnt) (fun k hk=>by rw[PC,hm _ (by simp [cnts];omega)];rw[<-l1];exact k2 k)]
structure oR (md:PM) (AQ:Nat->Option A9) (E:Env) (c:EX TB) (G:Nat->Prop) (w:World) (on:List Nat) (fz:DN) (ln:List Nat):Prop where
 shr:∀ i t ys,AQ i=some (.shr t ys)->rA (Rp G w t) t.sz G w (E.nm i) ys
 jO:∀ i t ys e,AQ i=some e->b9 e t ys->(md= .dY/\i∈ln)\/(i,.shr t ys)∈fz->rA (Rp G w t) t.sz G w (E.nm i) ys
 row:∀ i t ys,AQ i=some (.row t ys)->i∈on->Own (Rp G w t) t.sz c G w (E.nm i) ys
 deep:∀ i t ys,AQ i=some (.deep t ys none)->i∈on->mN c G w (E.nx i) (.deep t ys none)
 tree:∀ i t1 t2 ys,AQ i=some (.tree t1 t2 ys)->i∈on->F3 c G w (E.nm i) t1 t2 ys
 box:∀ i cs,AQ i=some (.box cs)->i∈on->(E.nm i).nil=false/\(E.nm i).off=(E.nm i).pp.pre.length/\¬G (E.nm i).CN/\¬c.Old (E.nm i).CN/\(∃ ty,w.heap[(E.nm i).CN]? =some (.cells ((E.nm i).arr (AN E cs)) ty (0,0)))
variable {w:World} {G:Nat->Prop} {c:EX TB} {E:Env}
theorem oR.sub {md:PM} {on on' :List Nat} {fz fz' :DN} {ln ln' :List Nat} (h:oR md AQ E c G w on fz ln)
  (h1:∀ i∈on',i∈on) (h2:∀ q∈fz',q∈fz) (h3:∀ i∈ln',i∈ln):oR md AQ E c G w on' fz' ln' :=
 ⟨h.shr,fun i t ys e hl ho hx=>h.jO i t ys e hl ho (hx.imp (fun ⟨a,b⟩=>⟨a,h3 _ b⟩) (h2 _)),fun i t ys hl hx=>h.row i t ys hl (h1 _ hx),fun i t ys hl hx=>h.deep i t ys hl (h1 _ hx),fun i t1 t2 ys hl hx=>h.tree i t1 t2 ys hl (h1 _ hx),fun i cs hl hx=>h.box i cs hl (h1 _ hx)⟩
def Y1 (AQ:Nat->Option A9) (E:Env) (i:Nat):List Nat:=match AQ i with
 |some e=>e.AOU E i
 |none=>[]
theorem Z_ (a b:List A9) (ms:Nat->Nm):HE (a++b) ms=HE a ms++HE b (fun k=>ms (a.length+k)):=by
 induction a generalizing ms with
 |nil=>simp [HE]
 |cons e r ih=>
  simp only[w8,HE,ih,I0,NU]
  congr 3
  funext k
  congr 1;omega
theorem SP (es:List A9) {f g:Nat->Nm} (h:∀ k,k<es.length->f k=g k):HE es f=HE es g:=by
 induction es generalizing f g with
 |nil=>rfl
 |cons e r ih=>
  simp only[HE]
  rw[h 0 (by simp),ih (fun k hk=>h (k+1) (by simp;omega))]
theorem iL (t:Ty) (x:t.T) (ms:Nat->Nm):HE (CA false t x) ms=[]:=by
 induction t generalizing ms with
 |pair a b W5 W6=>simp [CA,Z_,W5,W6]
 |slice a=>simp [CA,HE,A9.YD,A9.own]
 |sl a=>simp [CA,HE,A9.YD,A9.own]
 |_=>rfl
theorem AJM:∀ (t:Ty) (cs:List SV) (x:t.T) (r:List SV) (nes:List NE) (u:DN),FY .own AQ t cs=some (x,r,nes,u)→
  HE (CA true t x) (D4 E nes)=(u.map (·.1)).flatMap (Y1 AQ E):=by
 intro t
 induction t with
 |pair a b W5 W6=>
  intro cs x r nes u h
  simp only[FY] at h
  repeat' split at h
  all_goals first|(cases h;done)|skip
  rename_i _ x1 r1 n1 u1 h1 _ x2 r2 n2 u2 h2
  simp only[A_,DG] at h
  obtain⟨rfl,rfl,rfl,rfl⟩:=h
  obtain⟨_,_,_,m1,_⟩:=KB E _ _ _ _ _ _ h1
  obtain⟨_,_,_,m2,_⟩:=KB E _ _ _ _ _ _ h2
  obtain⟨k1,k2⟩:=MY E n1 n2
  simp only[CA,Z_,YC,List.flatMap_append]
  rw[<-W5 _ _ _ _ _ h1,←W6 _ _ _ _ _ h2]
  congr 1
  ·exact SP _ fun k hk=>k1 k (by rw[BJ] at hk;omega)
  ·rw[BJ,←m1];exact SP _ fun k hk=>k2 k
 |slice a ih=>
  intro cs x r nes u h
  simp only[FY] at h
  repeat' split at h
  all_goals first|(cases h;done)|skip
  rename_i v r' _ xs ne u' hs
  simp only[A_,DG] at h
  obtain⟨rfl,rfl,rfl,rfl⟩:=h
  rcases rO hs with ⟨rfl,rfl,rfl,hk⟩|⟨i,hx,hl,rfl⟩
  ·cases a with
   |pair a b=>cases a <;> cases b <;> rfl
   |_=>first|rfl|cases hk
  ·simp only[CA,HE,D4,MU,FP,JS,ABO,AG1,List.flatMap_nil]
   have:Y1 AQ E i=(J_ a xs).AOU E i:=by simp [Y1,hl]
   rw[this]
   rcases hx with ⟨rfl,Q8⟩|⟨rfl,b,rfl⟩|⟨rfl,b1,b2,rfl⟩
   ·rw[MX Q8];rfl
   ·rfl
   ·rfl
 |_=>
  intro cs x r nes u h
  simp only[FY] at h
  repeat' split at h
  all_goals first|(cases h;done)|skip
  all_goals (simp only[A_,DG] at h;obtain⟨_,rfl,rfl,rfl⟩:=h;rfl)
theorem ADJ {md:PM} {c:CT} {a:M0 c.t.T} (h:QE md AQ c v=some a):N5 c a.x (D4 E a.nes)=a.on.flatMap (Y1 AQ E):=by
 obtain⟨cs,u,nes,x,h1,rfl,h2,_⟩:=LU h
 have MR:HE (CA c.own c.t a.x) (D4 E nes)=(if c.own=true then u.map (·.1) else []).flatMap (Y1 AQ E):=by
  cases ho:c.own with
  |true=>rw[ho] at h1;simp only[HP] at h1 ⊢;exact AJM _ _ _ _ _ _ h1
  |false=>rw[iL];rfl
 unfold N5 CT.pn
 rcases h2 with ⟨hp,i,rfl,hl,e1,e2⟩|⟨hp,hag,e1,e2⟩
 ·rw[hp,e1,e2]
  have hb:Y1 AQ E i=[(E.nm i).CN]:=by simp [Y1,hl,A9.AOU,A9.own]
  rw[AG1,hb]
  congr 1
  rw[<-MR]
  apply SP
  intro k _
  simp only[D4]
  rw[AG9,AD8]
 ·rw[hp,e1,e2,←MR]
  simp
theorem AJN {md:PM} :∀ (cs:List CT) (vs:List SV) (a:M0 (HT cs)),KC md AQ cs vs=some a->C2 cs a.x (D4 E a.nes)=a.on.flatMap (Y1 AQ E):=by
 intro cs
 induction cs with
 |nil=>
  intro vs a h
  cases vs with
  |nil=>simp only[KC,A_] at h;subst h;rfl
  |cons v r=>simp [KC] at h
 |cons c r ih=>
  intro vs a h
  obtain⟨v,vs',a1,a2,rfl,h1,h2,rfl⟩:=RT h
  have l1:=SO h1
  obtain⟨k1,k2⟩:=MY E a1.nes a2.nes
  simp only[C2,HT.tU,HT.tV,List.flatMap_append]
  rw[<-ADJ h1,←ih _ _ h2]
  have A31:∀ (d:CT) (x:d.t.T) (f g:Nat->Nm),(∀ k,k<d.cnt->f k=g k)->N5 d x f=N5 d x g:=by
   intro d x f g hfg
   unfold N5
   unfold CT.cnt at hfg
   congr 1
   ·cases hp:d.ptr with
    |true=>simp only;rw[hfg 0 (by simp [CT.pn,hp];omega)]
    |false=>rfl
   ·exact SP _ fun k hk=>hfg _ (by rw[BJ] at hk;omega)
  have A32:∀ (ds:List CT) (x:HT ds) (f g:Nat->Nm),(∀ k,k<cnts ds->f k=g k)->C2 ds x f=C2 ds x g:=by
   intro ds
   induction ds with
   |nil=>intros;rfl
   |cons d s ihs=>
    intro x f g hfg
    simp only[C2]
    rw[A31 d _ f g (fun k hk=>hfg k (by simp [cnts];omega)),ihs _ _ (fun k=>g (d.cnt+k)) (fun k hk=>hfg _ (by simp [cnts];omega))]
  obtain⟨l2,_⟩:=Y0 E _ _ _ h2
  congr 1
  ·exact A31 _ _ _ _ fun k hk=>k1 k (by omega)
  ·rw[<-l1];exact A32 _ _ _ _ fun k hk=>k2 k
theorem HJ.congr {c:EX TB} {G:Nat->Prop} {w:World} {d:CT} {x:d.t.T} {f g:Nat->Nm} (h:HJ c G w d x f) (hfg:∀ k,k<d.cnt->f k=g k):HJ c G w d x g:=by
 obtain⟨h1,h2⟩:=h
 unfold CT.cnt at hfg
 refine⟨fun j e he=> ?_,fun hp=> ?_⟩
 ·have hj:j<d.t.HH:=by
   rcases IG j (CA d.own d.t x).length with h|h
   ·rwa [BJ] at h
   ·rw[IF h] at he;cases he
  rw[<-hfg _ (by omega)]
  exact h1 j e he
 ·have h0:=hfg 0 (by simp [CT.pn,hp];omega)
  rw[<-h0]
  obtain⟨a,b,c,d',ty,e⟩:=h2 hp
  refine⟨a,b,c,d',ty, ?_⟩
  rw[e]
  congr 3
  exact IH _ _ fun k hk=>hfg _ (by omega)
theorem PS.congr {c:EX TB} {G:Nat->Prop} {w:World}:∀ (cs:List CT) {x:HT cs} {f g:Nat->Nm},PS c G w cs x f->(∀ k,k<cnts cs->f k=g k)->PS c G w cs x g
 | [],_,_,_,_,_=>trivial
 |d::r,x,f,g,h,hfg=>⟨h.1.congr fun k hk=>hfg k (by simp [cnts];omega),PS.congr r h.2 fun k hk=>hfg _ (by simp [cnts];omega)⟩
variable {L:AM}
theorem AJO {md:PM} (xL:md≠ .own) {c:CT} {a:M0 c.t.T} (h:QE md AQ c v=some a) (hw:v.wf E L) (hwb:∀ i cs,AQ i=some (.box cs)->MT E L cs)
  {cf:EX TB} (hk:oR md AQ E cf G w a.on a.fz a.ln):HJ cf G w c a.x (D4 E a.nes):=by
 obtain⟨cs,u,nes,x,h1,rfl,h2,h3,h4⟩:=LU h
 have hwc:MT E L cs:=by
  rcases h2 with ⟨_,i,_,hl,_⟩|⟨_,hag,_⟩
  ·exact hwb i cs hl
  ·rcases hag with ⟨_,rfl⟩|⟨_,rfl⟩
   ·exact hw
   ·exact⟨hw,trivial⟩
 obtain⟨c1,e1,_,hn,hd⟩:=KB E _ _ _ _ _ _ h1
 rw[FP] at e1;subst e1
 obtain⟨g1,g2⟩:=YX _ _ _ _ _ _ h1
 have hon:∀ q∈u,c.own=true->q.1∈a.on:=by
  intro q hq ho
  rcases h2 with ⟨_,i,_,_,_,e⟩|⟨_,_,_,e⟩
  ·rw[e,AA ho];exact YB _ (DH.2 ⟨q,hq,rfl⟩)
  ·rw[e,AA ho];exact DH.2 ⟨q,hq,rfl⟩
 have AYV:∀ j e,(CA c.own c.t a.x)[j]? =some e->mN cf G w (D4 E nes j) e:=by
  intro j e he
  rcases g1 j c.own e he with rfl|⟨t,xs,ne,hs,CW,rfl⟩|⟨t,s,xs,ne,uk,hs,CW,hsc,GR,rfl⟩
  ·trivial
  ·have hnf:D4 E nes j=ne.nm E:=by simp [D4,CW]
   rw[hnf]
   exact hs.ok hk.shr
  have hnf:D4 E nes j=ne.nm E:=by simp [D4,CW]
  rw[hnf]
  cases ho:c.own with
  |true=>
   rw[ho] at hs
   simp only[HP] at hs
   rcases rO hs with ⟨rfl,rfl,rfl,hkv⟩|⟨i,hx,hl,rfl⟩
   ·exact mN.nil cf G w t hkv
   ·rcases hx with ⟨rfl,Q8⟩|⟨rfl,Q8⟩|⟨rfl,Q8⟩
    ·simp only
     rw[MX Q8] at hl ⊢
     exact hk.row i t xs hl (hon (i,.dead) (GR _ (by simp)) ho)
    ·obtain⟨b,rfl⟩:=Q8
     exact hk.deep i b xs hl (hon (i,.dead) (GR _ (by simp)) ho)
    ·obtain⟨b1,b2,rfl⟩:=Q8
     exact hk.tree i b1 b2 xs hl (hon (i,.dead) (GR _ (by simp)) ho)
  |false=>
   rw[ho] at hs
   simp only[W_,KK] at hs h3 h4
   rw[ho] at h3 h4
   simp only[W_,KK] at h3 h4
   refine rN hs xL (B1.1 hwc s hsc) hk.shr ?_
   intro i t' ys e' hnn hl hoe hx
   refine hk.jO i t' ys e' hl hoe ?_
   rcases hx with hx|hx
   ·left
    refine⟨hx, ?_⟩
    rw[h4]
    exact ALX.2 ⟨ne,bZ CW,hnn⟩
   ·right
    rw[h3]
    exact GR _ hx
 unfold HJ CT.pn
 rcases h2 with ⟨hp,i,rfl,hl,e1,e2⟩|⟨hp,hag,e1,e2⟩
 ·rw[hp,e1]
  have h0:D4 E (.whole i::nes) 0=E.nm i:=rfl
  have hs:∀ j,D4 E (.whole i::nes) (1+j)=D4 E nes j:=fun j=>by simp only[D4];rw[AG9,AD8]
  refine⟨fun j e he=> ?_,fun _=> ?_⟩
  ·simp only[hs];exact AYV j e he
  ·obtain⟨b1,b2,b3,b4,ty,b5⟩:=hk.box i _ hl (by rw[e2];simp)
   rw[h0]
   refine⟨b1,b2,b3,b4,ty, ?_⟩
   rw[b5,hd]
   congr 3
   exact IH _ _ fun j _=>(hs j).symm
 ·rw[hp,e1]
  refine⟨fun j e he=> ?_,fun hx=>by cases hx⟩
  simp only[NV];exact AYV j e he
theorem ARW {md:PM} (xL:md≠ .own) (hwb:∀ i cs,AQ i=some (.box cs)->MT E L cs) {cf:EX TB} :
  ∀ (cs:List CT) (vs:List SV) (a:M0 (HT cs)),KC md AQ cs vs=some a->MT E L vs->oR md AQ E cf G w a.on a.fz a.ln->PS cf G w cs a.x (D4 E a.nes):=by
 intro cs
 induction cs with
 |nil=>intros;trivial
 |cons c r ih=>
  intro vs a h hw hk
  obtain⟨v,vs',a1,a2,rfl,h1,h2,rfl⟩:=RT h
  have l1:=SO h1
  obtain⟨l2,_⟩:=Y0 E _ _ _ h2
  obtain⟨k1,k2⟩:=MY E a1.nes a2.nes
  refine⟨?_, ?_⟩
  ·simp only[HT.tU]
   refine (AJO xL h1 hw.1 hwb (hk.sub (by simp;intros;simp [*]) (by simp;intros;simp [*]) (by simp;intros;simp [*]))).congr fun k hk=>(k1 k (by omega)).symm
  ·simp only[HT.tV]
   refine (ih _ _ h2 hw.2 (hk.sub (by simp;intros;simp [*]) (by simp;intros;simp [*]) (by simp;intros;simp [*]))).congr _ fun k hk=> ?_
   rw[<-l1];exact (k2 k).symm
end Go.V3
namespace Go.V3
open Go
variable {TB:Tb}
variable {v:SV} {AQ:Nat->Option A9}
theorem AAF {md:PM} (xL:md≠ .own) {c:CT} {a:M0 c.t.T} (h:QE md AQ c v=some a):
  (∀ q∈a.fz,∃ t ys e,AQ q.1=some e/\b9 e t ys/\q.2= .shr t ys/\q.1∈a.ln)/\(∀ i∈a.on,∃ e,AQ i=some e/\e.IL=false):=by
 obtain⟨cs,u,nes,x,h1,rfl,h2,h3,h4⟩:=LU h
 obtain⟨_,g2⟩:=YX _ _ _ _ _ _ h1
 refine⟨fun q hq=> ?_,fun i hi=> ?_⟩
 ·rw[h3] at hq
  cases ho:c.own with
  |true=>rw[ho] at hq;cases hq
  |false=>
   rw[ho] at hq h4 g2
   simp only[W_,KK] at hq h4 g2
   obtain⟨k,t,s,xs,ne,uk,hs,CW,hqk⟩:=g2 q hq
   rcases rM hs with rfl|⟨i,t',ys,e',hl,hoe,_,hn,rfl⟩|hx
   ·cases hqk
   ·rw[GG] at hqk;subst hqk
    refine⟨t',ys,e',hl,hoe,rfl, ?_⟩
    rw[h4]
    exact ALX.2 ⟨ne,bZ CW,hn⟩
   ·exact absurd hx xL
 ·have hu:∀ q∈u,c.own=true->∃ e,AQ q.1=some e/\e.IL=false:=by
   intro q hq ho
   rw[ho] at g2
   simp only[HP] at g2
   obtain⟨k,t,s,xs,ne,uk,hs,CW,hqk⟩:=g2 q hq
   rcases rO hs with ⟨_,_,rfl,_⟩|⟨i,_,hl,rfl⟩
   ·cases hqk
   ·rw[GG] at hqk;subst hqk;exact⟨_,hl,mM _ _⟩
  have MR:∀ i∈(if c.own=true then u.map (·.1) else []),∃ e,AQ i=some e/\e.IL=false:=by
   intro i hi
   split at hi
   ·rename_i ho
    obtain⟨q,hq,rfl⟩:=DH.1 hi
    exact hu q hq ho
   ·cases hi
  rcases h2 with ⟨_,i',rfl,hl,_,e2⟩|⟨_,_,_,e2⟩
  ·rw[e2] at hi
   rcases GH.1 hi with rfl|hi
   ·exact⟨_,hl,rfl⟩
   ·exact MR i hi
  ·rw[e2] at hi
   exact MR i hi
theorem d_ {md:PM} (xL:md≠ .own) :∀ (cs:List CT) (vs:List SV) (a:M0 (HT cs)),KC md AQ cs vs=some a→
  (∀ q∈a.fz,∃ t ys e,AQ q.1=some e/\b9 e t ys/\q.2= .shr t ys/\q.1∈a.ln)/\(∀ i∈a.on,∃ e,AQ i=some e/\e.IL=false):=by
 intro cs
 induction cs with
 |nil=>
  intro vs a h
  cases vs with
  |nil=>simp only[KC,A_] at h;subst h;exact⟨fun q hq=>(by simp at hq),fun i hi=>(by simp at hi)⟩
  |cons v r=>simp [KC] at h
 |cons c r ih=>
  intro vs a h
  obtain⟨v,vs',a1,a2,rfl,h1,h2,rfl⟩:=RT h
  obtain⟨p1,p2⟩:=AAF xL h1
  obtain⟨q1,q2⟩:=ih _ _ h2
  refine⟨fun q hq=> ?_,fun i hi=> ?_⟩
  ·rcases FG.1 hq with hq|hq
   ·obtain⟨t,ys,e,a,a',b,c⟩:=p1 q hq;exact⟨t,ys,e,a,a',b,FG.2 (.inl c)⟩
   ·obtain⟨t,ys,e,a,a',b,c⟩:=q1 q hq;exact⟨t,ys,e,a,a',b,FG.2 (.inr c)⟩
  ·rcases FG.1 hi with hi|hi
   ·exact p2 i hi
   ·exact q2 i hi
theorem AT.AYW {c:EX TB} {G:Nat->Prop} {w:World} {E:Env}:∀ (on:List Nat) {L:AM},AT c G w E L->(∀ i∈on,i<L.length)→
  AT c G w E (AJ L (on.map fun i=>(i,.dead)))/\(∀ n,Al L n->Al (AJ L (on.map fun i=>(i,.dead))) n)∧
   ∀ n,look (AJ L (on.map fun i=>(i,.dead))) n=if n∈on then some .dead else look L n
 | [],L,h,_=>⟨h,fun _ h=>h,fun n=>by simp [AJ]⟩
 |i::r,L,h,hl=>by
  obtain⟨h1,h2,h3⟩:=AT.AYW r (h.kill (hl i (by simp))) (fun k hk=>by rw[GQ];exact hl k (by simp [hk]))
  refine⟨h1,fun n hn=>h2 n (BZ rfl n hn),fun n=> ?_⟩
  show look (AJ (DW L (i,.dead)) (r.map fun i=>(i,.dead))) n=_
  rw[h3,BB (hl i (by simp))]
  by_cases hn:n=i
  ·subst hn;simp
  ·by_cases hr:n∈r <;> simp [hn,hr]
variable {L:AM} {E:Env} {w:World} {G:Nat->Prop} {c:EX TB}
theorem AT.take (h:AT c G w E L) {md:PM} (xL:md≠ .own) (CL:∀ n e,AQ n=some e->look L n=some e)
  {cs:List CT} {vs:List SV} {a:M0 (HT cs)} (hp:KC md AQ cs vs=some a) (ho:okA a=true) (hw:MT E L vs):
  ∃ G1 G2,AT c G1 w E (AJ L a.DU)/\(∀ b,G b->G1 b)/\(∀ b,G1 b->G2 b)/\(md= .jO->G2=G1)∧
   (∀ b,G2 b->G1 b\/∃ n e,look (AJ L a.DU) n=some e/\e.ow E n b)/\(∀ n,Al L n->Al (AJ L a.DU) n)∧
   (∀ n,n∉a.on->n∉a.fz.map (·.1)->look (AJ L a.DU) n=look L n)/\(∀ n∈a.on,look (AJ L a.DU) n=some .dead)∧
   PS c G2 w cs a.x (D4 E a.nes)/\(C2 cs a.x (D4 E a.nes)).Nodup/\∀ b∈C2 cs a.x (D4 E a.nes),JP E (AJ L a.DU) b:=by
 obtain⟨n1,n2⟩:=d_ xL cs vs a hp
 simp only[okA,IZ,LD,KI,b6,tI,wM] at ho
 obtain⟨HN,Y2⟩:=ho
 obtain⟨G1,h1,hg1,ha1,hk1,hq1⟩:=h.ADH a.fz (fun q hq=>by
  obtain⟨t,ys,e0,hl,ho0,e,_⟩:=n1 q hq
  exact⟨t,ys,.inl ⟨e0,CL _ _ hl,ho0⟩,e⟩)
 have AGM:∀ i∈a.on,i∉a.fz.map (·.1):=by
  intro i hi hx
  obtain⟨q,hq,rfl⟩:=DH.1 hx
  obtain⟨_,_,_,_,_,_,hln⟩:=n1 q hq
  exact Y2 _ hi hln
 have CZ:∀ n,n∉a.fz.map (·.1)->look (AJ L a.fz) n=look L n:=by
  intro n hn
  cases hl:look L n with
  |some e=>
   rcases hk1 n e hl with hx|⟨t,ys,_,_,hx⟩
   ·exact hx
   ·exact absurd (DH.2 ⟨_,hx,rfl⟩) hn
  |none=>
   have hge:L.length<=n:=by
    rcases IG n L.length with h' |h'
    ·unfold look at hl;rw[O6 h'] at hl;cases hl
    ·exact h'
   unfold look
   rw[IF (by rw[PR];exact hge)]
 have A33:∀ i∈a.on,i<(AJ L a.fz).length:=by
  intro i hi
  rw[PR]
  obtain⟨e,hl,_⟩:=n2 i hi
  exact AR (CL _ _ hl)
 obtain⟨h2,ha2,b_⟩:=h1.AYW a.on A33
 have A5Y:AJ L a.DU=AJ (AJ L a.fz) (a.on.map fun i=>(i,.dead)):=by rw[M0.DU,BS]
 rw[<-A5Y] at h2 ha2 b_
 have eA:∀ n,n∉a.on->n∉a.fz.map (·.1)->look (AJ L a.DU) n=look L n:=by
  intro n hn hf
  rw[b_,AE hn,CZ n hf]
 let G2:Nat->Prop:=fun b=>G1 b\/(md= .dY/\∃ n e,look (AJ L a.DU) n=some e/\e.ow E n b)
 have AGN:∀ b,G1 b->G2 b:=fun b hb=> .inl hb
 have AGO:∀ i∈a.on,∀ e,look L i=some e->∀ b,e.ow E i b->¬G2 b/\JP E (AJ L a.DU) b:=by
  intro i hi e he b hb
  have tW:look (AJ L a.fz) i=some e:=by rw[CZ i (AGM i hi)];exact he
  have XS:JP E (AJ L a.DU) b:=by
   intro n f hf RS
   rw[b_] at hf
   by_cases hn:n∈a.on
   ·rw[AA hn] at hf;simp only[A_] at hf;subst hf;rcases RS with RS|⟨RS,_⟩|⟨RS,_⟩ <;> cases RS
   ·rw[AE hn] at hf
    refine h1.inj n i f e b (fun hx=>hn (hx ▸ hi)) hf tW RS hb
  refine⟨?_,XS⟩
  rintro (hx|⟨_,n,f,hx,hxb⟩)
  ·exact (h1.Q7 tW hb).1 hx
  ·exact XS n _ hx hxb
 have eB:=fun t x vs=>Rp.mono (w:=w) (w' :=w) (fun b (_:G1 b)=>rfl) AGN t x vs
 have ARX:oR md AQ E c G2 w a.on a.fz a.ln:=by
  refine⟨?_, ?_, ?_, ?_, ?_, ?_⟩
  ·intro i t ys hl
   rcases hk1 i _ (CL _ _ hl) with hx|⟨_,_,hx,_⟩
   ·exact rA.mono (h1.MQ i _ hx) (eB t) (fun _ _=>rfl) AGN
   ·cases hx
  ·rintro i t ys e0 hl hoe (⟨hx,hln⟩|hx)
   ·have A5Z:i∉a.on:=fun hi=>Y2 i hi hln
    rcases hk1 i _ (CL _ _ hl) with hx1|⟨t',ys',hx1,hx2,_⟩
    ·have hx3:look (AJ L a.DU) i=some e0:=by rw[b_,AE A5Z];exact hx1
     cases hoe with
     |row=>exact AWC (h1.MQ i _ hx1) (eB t) (fun hn=> .inr ⟨hx,i,_,hx3,.inl (by simp [A9.own,hn])⟩)
     |deep b=>exact (h1.dp i _ _ _ hx1).shr (eB b) (fun b hb=> .inr ⟨hx,i,_,hx3,A9.GL.2 hb⟩)
     |tree b1 b2=>exact (h1.MQ i _ hx1).shr eB (fun b hb=> .inr ⟨hx,i,_,hx3,A9.iJ.2 hb⟩)
    ·have:(A9.shr t' ys')= .shr t ys:=by cases hx1 <;> cases hoe <;> rfl
     rw[this] at hx2
     exact rA.mono (h1.MQ i _ hx2) (eB t) (fun _ _=>rfl) AGN
   ·exact rA.mono (h1.MQ i _ (hq1 _ hx)) (eB t) (fun _ _=>rfl) AGN
  ·intro i t ys hl hi
   have tW:look (AJ L a.fz) i=some (.row t ys):=by rw[CZ i (AGM i hi)];exact CL _ _ hl
   obtain⟨p1,p2,p3⟩:=h1.MQ i _ tW
   refine⟨p1,p2,p3.imp id ?_⟩
   rintro⟨p4,p5,p6,p7,arr,ty,p8,p9,p10⟩
   exact⟨p4,(AGO i hi _ (CL _ _ hl) _ (.inl (by simp [A9.own,p4]))).1,p6,p7,arr,ty,p8,p9,p10.imp (eB t)⟩
  ·intro i t ys hl hi
   have tW:look (AJ L a.fz) i=some (.deep t ys none):=by rw[CZ i (AGM i hi)];exact CL _ _ hl
   refine⟨rfl, ?_⟩
   refine ((h1.dp i t ys none tW).mono (fun _ h=>h) (fun _ _=>rfl) (fun _ _=>rfl) AGN (fun b hb=>⟨rfl, ?_⟩)).env ⟨rfl,rfl,rfl,rfl,rfl⟩
   exact (AGO i hi _ (CL _ _ hl) _ (A9.GL.2 hb)).1
  ·intro i t1 t2 ys hl hi
   have tW:look (AJ L a.fz) i=some (.tree t1 t2 ys):=by rw[CZ i (AGM i hi)];exact CL _ _ hl
   have hx:bM c G2 w E L (E.nm i) (.tree t1 t2 ys):=(h1.MQ i _ tW).mono (fun _ h=>by
     obtain⟨e,q1,q2⟩:=h
     rcases Classical.em (∃ e,look L _=some e/\e.IL=false) with hx|hx
     ·exact hx
     ·exact absurd (by
       cases lU :look L _ with
       |none=>
        exfalso
        have hge:L.length<=_:=Nat.le_of_not_lt fun DY=>by
         unfold look at lU;rw[O6 DY] at lU;cases lU
        unfold look at q1
        rw[IF (by rw[PR];exact hge)] at q1
        cases q1
       |some e' =>
        rcases hk1 _ _ lU with hz|⟨t,ys,hz,hz2,_⟩
        ·rw[hz] at q1;simp only[A_] at q1;subst q1;exact⟨_,rfl,q2⟩
        ·exact⟨_,rfl,hz.MB⟩) hx) (fun _ _=>rfl) (fun _ _=>rfl) AGN (fun b hb=>by cases hb) (fun _ b hb=>⟨rfl,(AGO i hi _ (CL _ _ hl) _ (A9.iJ.2 hb)).1⟩)
   exact hx
  ·intro i cs hl hi
   have tW:look (AJ L a.fz) i=some (.box cs):=by rw[CZ i (AGM i hi)];exact CL _ _ hl
   obtain⟨p1,p2,p3,p4,p5,p6⟩:=h1.MQ i _ tW
   exact⟨p1,p2,(AGO i hi _ (CL _ _ hl) _ (.inl rfl)).1,p4,p5⟩
 have hwb:∀ i cs,AQ i=some (.box cs)->MT E L cs:=fun i cs hl=>(h.MQ i _ (CL _ _ hl)).2.2.2.2.2
 have ARY:=AJN (E:=E) cs vs a hp
 have AOV:∀ i∈a.on,∀ b∈Y1 AQ E i,∃ e,look L i=some e/\e.ow E i b:=by
  intro i _ b hb
  unfold Y1 at hb
  split at hb
  ·rename_i e hl;exact⟨e,CL _ _ hl,A9.A30.2 hb⟩
  ·cases hb
 have A34:∀ i∈a.on,(Y1 AQ E i).Nodup:=by
  intro i _
  unfold Y1
  split
  ·rename_i e hl
   cases e with
   |deep t x q=>exact (h.dp i t x q (CL _ _ hl)).nd
   |tree t1 t2 xs=>exact (h.MQ i _ (CL _ _ hl)).nd
   |row t x=>show (((A9.row t x).own (E.nm i)).toList).Nodup;cases (A9.row t x).own (E.nm i) <;> simp
   |box t=>show (((A9.box t).own (E.nm i)).toList).Nodup;cases (A9.box t).own (E.nm i) <;> simp
   |_=>simp [A9.AOU,A9.own]
  ·exact dP
 refine⟨G1,G2,h2,hg1,AGN, ?_, ?_,fun n hn=>ha2 n (ha1 n hn),eA,fun n hn=>by rw[b_,AA hn],ARW xL hwb cs vs a hp hw ARX, ?_, ?_⟩
 ·intro hf
  funext b
  simp only[eq_iff_iff]
  refine⟨?_,AGN b⟩
  rintro (hx|⟨hx,_⟩)
  ·exact hx
  ·rw[hf] at hx;cases hx
 ·rintro b (hx|⟨_,hx⟩)
  ·exact .inl hx
  ·exact .inr hx
 ·rw[ARY]
  clear ARY ARX h2 ha2 b_ eA AGO Y2
  have:∀ (on:List Nat),on.Nodup->(∀ i∈on,i∈a.on)->(on.flatMap (Y1 AQ E)).Nodup:=by
   intro on
   induction on with
   |nil=>intros;simp
   |cons i r ih=>
    intro HN MR
    rw[VE] at HN
    have ih' :=ih HN.2 (fun k hk=>MR k (by simp [hk]))
    rw[AG1]
    refine PB.2 ⟨A34 i (MR i (by simp)),ih', ?_⟩
    rintro b hb b' hm rfl
    obtain⟨k,hk,hkb⟩:=ABG.1 hm
    obtain⟨e,he,heb⟩:=AOV i (MR i (by simp)) b hb
    obtain⟨f,hf,RS⟩:=AOV k (MR k (by simp [hk])) b hkb
    exact h.inj i k e f b (fun hx=>HN.1 (hx ▸ hk)) he hf heb RS
  exact this a.on HN (fun _ h=>h)
 ·intro b hb
  rw[ARY] at hb
  obtain⟨i,hi,hib⟩:=ABG.1 hb
  obtain⟨e,he,heb⟩:=AOV i hi b hib
  exact (AGO i hi e he b heb).2
end Go.V3
namespace Go.V3
open Go
variable {TB:Tb}
def CalleeRuns (P:Program) (f:FuncId):Prop:=∀ args w,(callFunc f args).run P w= .ok (.enter f args) w
def HT.left:(zas bs:List CT)->HT (zas++bs)->HT zas
 | [],_,_=>()
 | [_],bs,x=>HT.hd _ bs x
 |c::d::r,bs,x=>(x.1,HT.left (d::r) bs x.2)
def HT.right:(zas bs:List CT)->HT (zas++bs)->HT bs
 | [],_,x=>x
 |c::r,bs,x=>HT.right r bs (HT.tl c (r++bs) x)
inductive Sh where
 |one
 |clo (f:FuncId) (k:Nat)
 |pp (n:Nat)
def foldA:List Sh->List SV->List SV
 | [],vs=>vs
 | .one::r,v::vs=>v::foldA r vs
 | .one::_,[]=>[]
 | .clo f k::r,vs=> .clo f (vs.take k)::foldA r (vs.drop k)
 | .pp n::r,_::vs=> .loc n 0::foldA r vs
 | .pp _::_,[]=>[]
def iM (ne:Option NE) (o:Nat):Bool:=match ne with
 |some (.whole i)=>i==o
 |_=>false
def AGP (AQ:Nat->Option A9) (i:Nat):Option Nat:=match AQ i with
 |some (.box [.loc j 0])=>some j
 |_=>none
def AOW:SV->Option (FuncId×List SV)
 | .clo f cs=>some (f,cs)
 | .raw (.func (.func f) ⟨[]⟩ ⟨[]⟩)=>some (f,[])
 |_=>none
def XD (AQ:Nat->Option A9):List Sh->List SV->Option (List SV)
 | [],vs=>some vs
 | .one::r,v::vs=>(match XD AQ r vs with
  |some us=>some (v::us)
  |none=>none)
 | .one::_,[]=>none
 | .clo _ _::_,[]=>none
 | .clo f k::r,v::vs=>(match AOW v with
  |some (f',cs)=>if f' =f/\cs.length=k then (match XD AQ r vs with
   |some us=>some (cs++us)
   |none=>none) else none
  |none=>none)
 | .pp _::_,[]=>none
 | .pp _::r,v::vs=>(match v with
  | .loc i off=>if off=0 then (match AGP AQ i,XD AQ r vs with
   |some j,some us=>some (.loc j 0::us)
   |_,_=>none) else none
  |_=>none)
def mP:List Sh->List SV->List (Nat×Nat)
 | .one::r,_::vs=>mP r vs
 | .clo _ _::r,_::vs=>mP r vs
 | .pp n::r,.loc i _::vs=>(n,i)::mP r vs
 | .pp _::r,_::vs=>mP r vs
 |_,_=>[]
variable {cs:List SV} {f:FuncId} {v:SV}
theorem AGQ (h:AOW v=some (f,cs)) (E:Env):v.den E= .func (.func f) #[] (AN E cs).toArray:=by
 unfold AOW at h
 split at h
 ·simp only[A_,DG] at h
  obtain⟨rfl,rfl⟩:=h
  simp [SV.den]
 ·simp only[A_,DG] at h
  obtain⟨rfl,rfl⟩:=h
  rfl
 ·cases h
variable {L:AM} {E:Env}
theorem AMG (h:AOW v=some (f,cs)) (hv:v.wf E L):MT E L cs:=by
 unfold AOW at h
 split at h
 ·simp only[A_,DG] at h
  obtain⟨rfl,rfl⟩:=h
  simpa [SV.wf] using hv
 ·simp only[A_,DG] at h
  obtain⟨rfl,rfl⟩:=h
  trivial
 ·cases h
theorem iN {AQ:Nat->Option A9} {E Em:Env}:∀ (sh:List Sh) (vs us us' :List SV),XD AQ sh vs=some us->AN E us=AN Em us' ->(∀ q∈mP sh vs,Em.nm q.1=E.nm q.2)->AN Em (foldA sh us')=AN E vs
 | [],vs,us,us',h,hd,_=>by simp only[XD,A_] at h;subst h;exact hd.symm
 | .one::r,[],us,us',h,_,_=>by simp [XD] at h
 | .one::r,v::vs,us,us',h,hd,hp=>by
  simp only[XD] at h
  split at h
  ·rename_i us1 hu
   simp only[A_] at h;subst h
   cases us' with
   |nil=>simp [AN] at hd
   |cons u ur=>
    simp only[AN,mI] at hd
    simp only[foldA,AN]
    rw[iN r vs us1 ur hu hd.2 hp,hd.1]
  ·cases h
 | .clo f k::r,[],us,us',h,_,_=>by simp [XD] at h
 | .clo f k::r,v::vs,us,us',h,hd,hp=>by
  simp only[XD] at h
  split at h
  ·rename_i f' cs hf
   split at h
   ·rename_i hc
    obtain⟨rfl,rfl⟩:=hc
    split at h
    ·rename_i us1 hu
     simp only[A_] at h;subst h
     have e1:AN Em (us'.take cs.length)=AN E cs:=by
      rw[GM,List.map_take,←GM,←hd,G7]
      have:(AN E cs).length=cs.length:=AU _
      rw[<-this,List.take_left]
     have e2:AN E us1=AN Em (us'.drop cs.length):=by
      rw[GM (E:=Em),List.map_drop,←GM,←hd,G7]
      have:(AN E cs).length=cs.length:=AU _
      rw[<-this,List.drop_left]
     simp only[foldA,AN,SV.den]
     rw[e1,iN r vs us1 _ hu e2 hp,AGQ hf E]
    ·cases h
   ·cases h
  ·cases h
 | .pp n::r,[],us,us',h,_,_=>by simp [XD] at h
 | .pp n::r,v::vs,us,us',h,hd,hp=>by
  simp only[XD] at h
  split at h
  ·rename_i i off
   split at h
   ·rename_i h0
    subst h0
    split at h
    ·rename_i j us1 hj hu
     simp only[A_] at h;subst h
     cases us' with
     |nil=>simp [AN] at hd
     |cons u ur=>
      simp only[AN,mI] at hd
      simp only[foldA,AN]
      rw[iN r vs us1 ur hu hd.2 (fun q hq=>hp q (by simp [mP,hq]))]
      have:=hp (n,i) (by simp [mP])
      simp only at this
      simp only[SV.den,this]
    ·cases h
   ·cases h
  ·cases h
theorem vU {AQ:Nat->Option A9} {E:Env} {L:AM} (hb:∀ i j,AGP AQ i=some j->Al L j):∀ (sh:List Sh) (vs us:List SV),XD AQ sh vs=some us->MT E L vs->MT E L us
 | [],vs,us,h,hw=>by simp only[XD,A_] at h;subst h;exact hw
 | .one::r,[],us,h,_=>by simp [XD] at h
 | .one::r,v::vs,us,h,hw=>by
  simp only[XD] at h
  split at h
  ·rename_i us' hu
   simp only[A_] at h;subst h
   exact⟨hw.1,vU hb r vs us' hu hw.2⟩
  ·cases h
 | .clo f k::r,[],us,h,_=>by simp [XD] at h
 | .clo f k::r,v::vs,us,h,hw=>by
  simp only[XD] at h
  split at h
  ·rename_i f' cs hf
   split at h
   ·rename_i hc
    split at h
    ·rename_i us' hu
     simp only[A_] at h;subst h
     have h1:=B1.1 (AMG hf hw.1)
     have h2:=B1.1 (vU hb r vs us' hu hw.2)
     exact B1.2 fun v hv=>(FG.1 hv).elim (h1 v) (h2 v)
    ·cases h
   ·cases h
  ·cases h
 | .pp n::r,[],us,h,_=>by simp [XD] at h
 | .pp n::r,v::vs,us,h,hw=>by
  simp only[XD] at h
  split at h
  ·split at h
   ·split at h
    ·rename_i j us1 hj hu
     simp only[A_] at h;subst h
     exact⟨hb _ _ hj,vU hb r vs us1 hu hw.2⟩
    ·cases h
   ·cases h
  ·cases h
theorem oS {E:Env} {L:AM}:∀ (sh:List Sh) (vs:List SV),(∀ n,Sh.pp n∈sh->Al L n)->MT E L vs->MT E L (foldA sh vs)
 | [],_,_,h=>h
 | .one::_,[],_,_=>trivial
 | .one::r,v::vs,hp,h=>⟨h.1,oS r vs (fun n hn=>hp n (by simp [hn])) h.2⟩
 | .pp _::_,[],_,_=>trivial
 | .pp n::r,v::vs,hp,h=>⟨hp n (by simp),oS r vs (fun n hn=>hp n (by simp [hn])) h.2⟩
 | .clo f k::r,vs,hp,h=>by
  have hm:=B1.1 h
  exact⟨B1.2 fun v hv=>hm v (AA7 hv),oS r _ (fun n hn=>hp n (by simp [hn])) (B1.2 fun v hv=>hm v (tJ hv))⟩
structure FnI where
 ps:List CT
 rs:List CT
 os:List CT
 bk:List Nat
 sh:List Sh:=[]
 pin:List (Nat×Nat×Nat×Nat):=[]
 cl:List (Nat×Ty):=[]
 rR:List (Nat×Nat):=[]
 F:HT ps->Option (HT (rs++os))
def XT:List SV->SV
 | [v]=>v
 |vs=> .tup vs
def OX:List CT->Nat->List Nat
 | [],_=>[]
 |d::r,n=>n::OX r (n+d.cnt)
def eC:List CT->Nat->Nat->List (Nat×Nat)
 | [],_,_=>[]
 |d::r,a,b=>match d.ptr with
  |true=>(List.range d.t.HH).map (fun j=>(a+1+j,b+j))++eC r (a+d.cnt) (b+d.t.HH)
  |false=>eC r (a+d.cnt) b
theorem SQ:∀ (cs:List CT) (a b a' b' :Nat),eC cs (a+a') (b+b')=(eC cs a' b').map (fun q=>(a+q.1,b+q.2))
 | [],_,_,_,_=>rfl
 |d::r,a,b,a',b' =>by
  simp only[eC]
  cases d.ptr with
  |true=>
   simp only[YC,XB]
   rw[show a+a' +d.cnt=a+(a' +d.cnt) by omega,show b+b' +d.t.HH=b+(b' +d.t.HH) by omega,SQ r a b]
   congr 1
   apply W9
   intro j _
   simp only[Function.comp]
   congr 1 <;> omega
  |false=>
   simp only
   rw[show a+a' +d.cnt=a+(a' +d.cnt) by omega,SQ r a b]
def Ty.ABS:Ty->Bool
 | .slice a=> !a.u6
 |_=>false
def okO (d:CT):Bool:=d.ptr||(d.own && !d.agg && d.t.ABS)
def VG (nes:List NE):List Nat->Option (List Nat)
 | []=>some []
 |q::r=>match nes[q]? with
  |some (.whole i)=>(match VG nes r with
   |some l=>some (i::l)
   |none=>none)
  |_=>none
theorem oT {nes:List NE} (E:Env):∀ (bk is:List Nat),VG nes bk=some is->bk.map (D4 E nes)=is.map E.nm
 | [],is,h=>by simp only[VG,A_] at h;subst h;rfl
 |q::r,is,h=>by
  simp only[VG] at h
  split at h
  ·rename_i i hi
   split at h
   ·rename_i l hl
    simp only[A_] at h
    subst h
    simp only[JS,oT E r l hl]
    congr 1
    simp [D4,hi,NE.nm]
   ·cases h
  ·cases h
def LF (ms:Nat->Nm):Env:={ nm:=ms,ds:=fun _=>undef,ins:=⟨fun k=>(ms k).ins.l⟩ }
def A35 (rR:List (Nat×Nat)) (l:List Nat) (w:World) (ms:Nat->Nm):Prop:=∀ q∈rR,(ms q.1).CN<w.heap.size/\(ms q.1).CN∉l∧
 ∃ arr ty fz,w.heap[(ms q.1).CN]? =some (.cells arr ty fz)/\arr[(ms q.1).off]? =some (.pointer (some ⟨(ms q.2).CN,(ms q.2).off,none⟩))
def CallsV (P:Program) (TB:Tb) (f:FuncId) (fi:FnI):Prop:=
 CalleeRuns P f/\∀ (x:HT fi.ps) (r:HT (fi.rs++fi.os)),fi.F x=some r->∀ (w:World) (G:Nat->Prop) (ms:Nat->Nm),(∀ b,G b->b<w.heap.size)→
  PS (⟨w,fun b=>b∈C2 fi.ps x ms,G⟩:EX TB) G w fi.ps x ms->(C2 fi.ps x ms).Nodup->(⟨w,fun b=>b∈C2 fi.ps x ms,G⟩:EX TB).Tab->A35 fi.rR (C2 fi.ps x ms) w ms→
  Calls P f (AN (LF ms) (foldA fi.sh (outSVs fi.ps x 0))).toArray w (fun e w' =>∃ G' ms',e= .returned ((XT (outSVs fi.rs (HT.left fi.rs fi.os r) 0)).den (LF ms'))∧
   Rest w w' /\w.heap.size<=w'.heap.size/\(∀ b,b<w.heap.size->b∉C2 fi.ps x ms->w'.heap[b]? =w.heap[b]?)∧
   (∀ b,G b->G' b)/\(∀ b,G' b->G b\/w.heap.size<=b\/b∈C2 fi.ps x ms)/\(∀ b,G' b->b<w'.heap.size)∧
   PS (⟨w,fun b=>b∈C2 fi.ps x ms,G⟩:EX TB) G' w' (fi.rs++fi.os) r ms' /\(C2 (fi.rs++fi.os) r ms').Nodup∧
   (OX fi.os (cnts fi.rs)).map ms' =fi.bk.map ms/\∀ q∈fi.pin,ms' q.1=ms q.2.2.1)
def XE:List CT->Nat
 | []=>0
 |d::r=>(match d.ptr with
  |true=>d.t.HH
  |false=>0)+XE r
def nameAt (i:Nat):List A9->DN
 |e::_=>[(i,e)]
 | []=>[]
def H6:(cs:List CT)->HT cs->Nat->List Nat->DN
 | [],_,_,_=>[]
 |_::_,_,_,[]=>[]
 |d::r,x,n,i::is=>match d.ptr with
  |true=>C9 n (CA d.own d.t (HT.hd d r x))++ [(i,.box (I1 d.t (HT.hd d r x) n))]++H6 r (HT.tl d r x) (n+d.t.HH) is
  |false=>nameAt i (CA d.own d.t (HT.hd d r x))++H6 r (HT.tl d r x) n is
def Ty.flat:Ty->Bool
 | .pair a b=>a.flat && b.flat
 | .slice a=>a.HH==0 && !a.u6
 | .sl _=>false
 |_=>true
def CT.good (d:CT):Bool:=d.t.HH==0||(d.own && d.t.flat)
def FnI.md (fi:FnI):PM:=match (fi.rs++fi.os).all CT.good with
 |true=> .dY
 |false=> .jO
def xP (own:Bool):(t:Ty)->t.T->Bool
 | .pair a b,x=>xP own a x.1 && xP own b x.2
 | .slice a,x=>(x:List a.T).isEmpty||(own && a.HH==0 && !a.u6)
 | .sl _,_=>false
 |_,_=>true
def bN:(cs:List CT)->HT cs->Bool
 | [],_=>true
 |d::r,x=>xP d.own d.t (HT.hd d r x) && bN r (HT.tl d r x)
def JQ (AQ:Nat->Option A9) (base n:Nat):Bool:=(List.range n).all fun k=>match AQ (base+k) with
 |some .MB=>true
 |_=>false
def AGR (k:Nat):DN->Option A9->Option A9
 | [],o=>o
 |(n,e)::r,o=>AGR k r (if n=k then some e else o)
def AAG (k o:Nat):SV->SV
 | .NT j=>if j=k then .NT o else .NT j
 |v=>v
def vV (k o i:Nat) (u:DN):DN:=match AGR k u none,AGR o u none,AGR i u none with
 |some (.row t xs),some .dead,some (.box cs)=>u++ [(k,.dead),(o,.row t xs),(i,.box (cs.map (AAG k o)))]
 |_,_,_=>u
def V9 (base:Nat) (nes:List NE) (on:List Nat):List (Nat×Nat×Nat×Nat)->DN->DN
 | [],u=>u
 |(_,b,j,jb)::r,u=>match nes[j]?,nes[jb]? with
  |some (.whole o),some (.whole i)=>(match on.contains o && on.contains i with
   |true=>V9 base nes on r (vV (base+b) o i u)
   |false=>V9 base nes on r u)
  |_,_=>V9 base nes on r u
def AMH (fi:FnI) (AQ:Nat->Option A9) (vs:List SV) (nes:List NE) (on:List Nat):Bool:=
 (mP fi.sh vs).all (fun q=>decide (cnts fi.ps<=q.1) && !on.contains q.2) && decide ((mP fi.sh vs).map (·.1)).Nodup &&
 fi.rR.all fun p=>(mP fi.sh vs).any (fun q=>q.1==p.1 && match AGP AQ q.2 with
  |some j=>iM nes[p.2]? j
  |none=>false)
def ARZ (fi:FnI):Bool:=fi.pin.all fun q=>(eC fi.os (cnts fi.rs) (cnts fi.rs)).contains (q.1,q.2.1)
def tX (fi:FnI) (base:Nat) (AQ:Nat->Option A9) (args:List SV) {α:Type} (K:SV->DN->Option α):Option α:=
 match XD AQ fi.sh args with
 |none=>none
 |some us=>match KC fi.md AQ fi.ps us with
 |none=>none
 |some a=>match VG a.nes fi.bk with
  |none=>none
  |some is=>match okA a && JQ AQ base (cnts fi.rs+XE fi.os) && (is.length==fi.os.length) && fi.os.all okO && (decide is.Nodup && is.all (fun i=>a.on.contains i)) && ARZ fi && AMH fi AQ args a.nes a.on with
   |true=>(fi.F a.x).bind fun r=>K (XT (outSVs fi.rs (HT.left fi.rs fi.os r) base))
     (V9 base a.nes a.on fi.pin (a.DU++(E5 fi.rs (HT.left fi.rs fi.os r) base++H6 fi.os (HT.right fi.rs fi.os r) (base+cnts fi.rs) is)))
   |false=>none
def ABT (fi:FnI) (base:Nat) (AQ:Nat->Option A9) (args:List SV) {α:Type} (K:SV->DN->Option α):Option α:=
 match XD AQ fi.sh args with
 |none=>none
 |some us=>match KC .dY AQ fi.ps us with
 |none=>none
 |some a=>match VG a.nes fi.bk with
  |none=>none
  |some is=>match okA a && JQ AQ base (cnts fi.rs+XE fi.os) && (is.length==fi.os.length) && fi.os.all okO && (decide is.Nodup && is.all (fun i=>a.on.contains i)) && ARZ fi && AMH fi AQ args a.nes a.on with
   |true=>(fi.F a.x).bind fun r=>bif bN (fi.rs++fi.os) r then K (XT (outSVs fi.rs (HT.left fi.rs fi.os r) base))
     (V9 base a.nes a.on fi.pin (a.DU++(E5 fi.rs (HT.left fi.rs fi.os r) base++H6 fi.os (HT.right fi.rs fi.os r) (base+cnts fi.rs) is)))
     else tX fi base AQ args K
   |false=>none
theorem PS.split {c:EX TB} {G:Nat->Prop} {w:World}:∀ (zas bs:List CT) (x:HT (zas++bs)) (ms:Nat->Nm),(PS c G w (zas++bs) x ms↔PS c G w zas (HT.left zas bs x) ms/\PS c G w bs (HT.right zas bs x) (fun k=>ms (cnts zas+k)))∧
  C2 (zas++bs) x ms=C2 zas (HT.left zas bs x) ms++C2 bs (HT.right zas bs x) (fun k=>ms (cnts zas+k))
 | [],bs,x,ms=>by simp [PS,C2,cnts,HT.right]
 |d::r,bs,x,ms=>by
  have hh:HT.hd d r (HT.left (d::r) bs x)=HT.hd d (r++bs) x:=by cases r <;> rfl
  have ht:HT.tl d r (HT.left (d::r) bs x)=HT.left r bs (HT.tl d (r++bs) x):=by cases r <;> rfl
  obtain⟨i1,i2⟩:=PS.split (c:=c) (G:=G) (w:=w) r bs (HT.tl d (r++bs) x) (fun k=>ms (d.cnt+k))
  have e:(fun k=>ms (cnts (d::r)+k))=(fun k=>ms (d.cnt+(cnts r+k))):=by
   funext k;simp [cnts,PC]
  have k1:PS c G w (d::r++bs) x ms↔HJ c G w d (HT.hd d (r++bs) x) ms/\PS c G w (r++bs) (HT.tl d (r++bs) x) (fun k=>ms (d.cnt+k)):=Iff.rfl
  have k2:PS c G w (d::r) (HT.left (d::r) bs x) ms↔HJ c G w d (HT.hd d r (HT.left (d::r) bs x)) ms/\PS c G w r (HT.tl d r (HT.left (d::r) bs x)) (fun k=>ms (d.cnt+k)):=Iff.rfl
  have k3:C2 (d::r++bs) x ms=N5 d (HT.hd d (r++bs) x) ms++C2 (r++bs) (HT.tl d (r++bs) x) (fun k=>ms (d.cnt+k)):=rfl
  have k4:C2 (d::r) (HT.left (d::r) bs x) ms=N5 d (HT.hd d r (HT.left (d::r) bs x)) ms++C2 r (HT.tl d r (HT.left (d::r) bs x)) (fun k=>ms (d.cnt+k)):=rfl
  have k5:HT.right (d::r) bs x=HT.right r bs (HT.tl d (r++bs) x):=rfl
  rw[hh,ht] at k2 k4
  refine⟨?_, ?_⟩
  ·rw[k1,k2,k5,e,i1,and_assoc]
  ·rw[k3,k4,k5,e,i2,I0]
theorem HJ.cfg {c c' :EX TB} {G:Nat->Prop} {w:World} {d:CT} {x:d.t.T} {ms:Nat->Nm} (h:HJ c G w d x ms) (hc:∀ b,¬c.Old b->¬c'.Old b):HJ c' G w d x ms:=by
 refine⟨fun j e he=> ?_,fun hp=> ?_⟩
 ·have:=h.1 j e he
  cases e with
  |row t xs=>
   obtain⟨h1,h2,h3⟩:=this
   exact⟨h1,h2,h3.imp id fun ⟨a,b,c,d⟩=>⟨a,b,hc _ c,d⟩⟩
  |deep t xs q=>exact⟨this.1,this.2.cfg fun b hb=>hc _ (this.2.all b hb).2.1⟩
  |tree t1 t2 xs=>exact F3.cfg this fun b hb=>hc _ (this.all b hb).2.1
  |_=>exact this
 ·obtain⟨a,b,c,d,e⟩:=h.2 hp
  exact⟨a,b,c,hc _ d,e⟩
theorem PS.cfg {c c' :EX TB} {G:Nat->Prop} {w:World} (hc:∀ b,¬c.Old b->¬c'.Old b):∀ (cs:List CT) {x:HT cs} {ms:Nat->Nm},PS c G w cs x ms->PS c' G w cs x ms
 | [],_,_,_=>trivial
 |_::r,_,_,h=>⟨h.1.cfg hc,PS.cfg hc r h.2⟩
variable {w:World} {G G':Nat->Prop}
theorem Rp.flat (t:Ty) (ht:t.HH=0) (x:t.T) (vs:List Value) (h:Rp G w t x vs):Rp G' w t x vs:=by
 induction t generalizing vs with
 |pair a b W5 W6=>
  simp only[Ty.HH] at ht
  obtain⟨v1,v2,h0,h1,h2⟩:=h
  exact⟨v1,v2,h0,W5 (by omega) _ _ h1,W6 (by omega) _ _ h2⟩
 |slice a=>simp [Ty.HH] at ht
 |sl a=>simp [Ty.HH] at ht
 |_=>exact h
variable {e:A9} {j:Nat}
theorem AOX {t:Ty} (hf:t.flat=true) {x:t.T} {o:Bool} (he:(CA o t x)[j]? =some e):e= .dead\/∃ (a:Ty) (xs:List a.T),a.HH=0/\e=(if o=true then A9.row a xs else A9.shr a xs):=by
 induction t generalizing j with
 |pair a b W5 W6=>
  simp only[Ty.flat,IZ] at hf
  simp only[CA] at he
  by_cases hk:j<(CA o a x.1).length
  ·rw[V4 hk] at he;exact W5 hf.1 he
  ·rw[SI (by omega)] at he;exact W6 hf.2 he
 |slice a=>
  cases j with
  |zero=>
   simp only[CA,MU,A_] at he
   simp only[Ty.flat,IZ,XM,b6] at hf
   obtain⟨ha,Q8⟩:=hf
   refine .inr ⟨a,x,ha, ?_⟩
   rw[<-he];cases o
   ·rfl
   ·exact MX Q8 x
  |succ j=>simp [CA] at he
 |nf=>
  cases j with
  |zero=>simp only[CA,MU,A_] at he;exact .inl he.symm
  |succ j=>simp [CA] at he
 |sl a=>cases hf
 |_=>simp [CA] at he
theorem HJ.good {c:EX TB} {G G' :Nat->Prop} {w:World} {d:CT} {x:d.t.T} {ms:Nat->Nm} (h:HJ c G w d x ms) (hd:d.good=true) (hg:∀ b,G' b->G b):HJ c G' w d x ms:=by
 refine⟨fun j e he=> ?_,fun hp=> ?_⟩
 ·have hm:=h.1 j e he
  simp only[CT.good,oF,IZ,XM] at hd
  rcases hd with hd|⟨ho,hf⟩
  ·exfalso
   have:(CA d.own d.t x).length=0:=by rw[BJ];exact hd
   rw[IF (by omega)] at he;cases he
  ·rcases AOX hf he with rfl|⟨a,xs,ha,rfl⟩
   ·trivial
   rw[ho] at hm ⊢
   obtain⟨h1,h2,h3⟩:=hm
   refine⟨h1,h2,h3.imp id ?_⟩
   rintro⟨p1,p2,p3,p4,arr,ty,p5,p6,p7⟩
   exact⟨p1,fun hx=>p2 (hg _ hx),p3,p4,arr,ty,p5,p6,p7.imp fun x vs hx=>Rp.flat a ha x vs hx⟩
 ·obtain⟨a,b,c,d,e⟩:=h.2 hp
  exact⟨a,b,fun hx=>c (hg _ hx),d,e⟩
theorem PS.good {c:EX TB} {G G' :Nat->Prop} {w:World} (hg:∀ b,G' b->G b):∀ (cs:List CT) {x:HT cs} {ms:Nat->Nm},cs.all CT.good=true->PS c G w cs x ms->PS c G' w cs x ms
 | [],_,_,_,_=>trivial
 |d::r,_,_,hd,h=>by
  simp only[xB,IZ] at hd
  exact⟨h.1.good hd.1 hg,PS.good hg r hd.2 h.2⟩
theorem AJP {own:Bool}:∀ (t:Ty) (x:t.T) {j:Nat} {e:A9},xP own t x=true->(CA own t x)[j]? =some e->e= .dead\/∃ (a:Ty) (xs:List a.T),(e=(match own with|true=>J_ a xs|false=> .shr a xs))/\(xs=[]\/(own=true/\a.HH=0/\a.u6=false)):=by
 intro t
 induction t with
 |pair a b W5 W6=>
  intro x j e h he
  simp only[xP,IZ] at h
  simp only[CA] at he
  by_cases hk:j<(CA own a x.1).length
  ·rw[V4 hk] at he;exact W5 _ h.1 he
  ·rw[SI (by omega)] at he;exact W6 _ h.2 he
 |slice a=>
  intro x j e h he
  cases j with
  |zero=>
   simp only[CA,MU,A_] at he
   refine .inr ⟨a,x,he.symm, ?_⟩
   simp only[xP,oF,IZ,XM,b6] at h
   rcases h with h|⟨⟨h1,h2⟩,h3⟩
   ·exact .inl (List.isEmpty_iff.1 h)
   ·exact .inr ⟨h1,h2,h3⟩
  |succ j=>simp [CA] at he
 |nf=>
  intro x j e h he
  cases j with
  |zero=>simp only[CA,MU,A_] at he;exact .inl he.symm
  |succ j=>simp [CA] at he
 |sl a=>intro x j e h he;cases h
 |_=>intro x j e h he;simp [CA] at he
variable {c:EX TB}
theorem HJ.AMI {d:CT} {x:d.t.T} {ms:Nat->Nm} (h:HJ c G w d x ms) (hd:xP d.own d.t x=true) (hg:∀ b,G' b->G b):HJ c G' w d x ms:=by
 refine⟨fun j e he=> ?_,fun hp=> ?_⟩
 ·have hm:=h.1 j e he
  rcases AJP d.t x hd he with rfl|⟨a,xs,rfl,hx⟩
  ·trivial
  cases ho:d.own with
  |false=>
   rw[ho] at hm
   rcases hx with rfl|⟨hx,_⟩
   ·obtain⟨h1,h2,_⟩:=hm
    exact⟨h1,h2,.inl rfl⟩
   ·rw[ho] at hx;cases hx
  |true=>
   rw[ho] at hm
   simp only at hm ⊢
   rcases hx with rfl|⟨_,ha,Q8⟩
   ·cases a with
    |slice b=>
     obtain⟨e0,hm⟩:=hm
     refine⟨e0,⟨hm.len,hm.off,hm.nd,fun b hb=>⟨fun hx=>(hm.all b hb).1 (hg _ hx),(hm.all b hb).2⟩, ?_⟩⟩
     rcases hm.cs with hc|⟨q1,q2,q3,arr,ty,hs,q4,q5,q6,q7,q8,q9⟩
     ·exact .inl hc
     ·exact .inr ⟨q1,q2,q3,arr,ty,hs,q4,q5,q6,fun k xs hk=>by simp at hk,q8,q9⟩
    |kv=>exact hm.elim
    |pair a1 a2=>
     have key:∀ (q:A9),q=J_ (.pair a1 a2) []->mN c G w (ms (d.pn+j)) q->mN c G' w (ms (d.pn+j)) q:=by
      intro q hq hm
      have vR:(∃ t1 t2,q= .tree t1 t2 [])\/q= .row (.pair a1 a2) []:=by
       rw[hq]
       cases a1 <;> cases a2 <;> first|exact .inr rfl|exact .inl ⟨_,_,rfl⟩
      rcases vR with ⟨t1,t2,rfl⟩|rfl
      ·exact F3.nil hm hg
      ·obtain⟨h1,h2,h3⟩:=hm
       refine⟨h1,h2,h3.imp id ?_⟩
       rintro⟨p1,p2,p3,p4,arr,ty,p5,p6,p7⟩
       exact⟨p1,fun hx=>p2 (hg _ hx),p3,p4,arr,ty,p5,p6,fun i x hx=>by simp at hx⟩
     exact key _ rfl hm
    |_=>
     obtain⟨h1,h2,h3⟩:=hm
     refine⟨h1,h2,h3.imp id ?_⟩
     rintro⟨p1,p2,p3,p4,arr,ty,p5,p6,p7⟩
     exact⟨p1,fun hx=>p2 (hg _ hx),p3,p4,arr,ty,p5,p6,fun i x hx=>by simp at hx⟩
   ·rw[MX Q8] at hm ⊢
    obtain⟨h1,h2,h3⟩:=hm
    refine⟨h1,h2,h3.imp id ?_⟩
    rintro⟨p1,p2,p3,p4,arr,ty,p5,p6,p7⟩
    exact⟨p1,fun hx=>p2 (hg _ hx),p3,p4,arr,ty,p5,p6,p7.imp fun x vs hx=>Rp.flat a ha x vs hx⟩
 ·obtain⟨a,b,c,d,e⟩:=h.2 hp
  exact⟨a,b,fun hx=>c (hg _ hx),d,e⟩
theorem PS.AMI {c:EX TB} {G G' :Nat->Prop} {w:World} (hg:∀ b,G' b->G b):∀ (cs:List CT) {x:HT cs} {ms:Nat->Nm},bN cs x=true->PS c G w cs x ms->PS c G' w cs x ms
 | [],_,_,_,_=>trivial
 |d::r,_,_,hd,h=>by
  simp only[bN,IZ] at hd
  exact⟨h.1.AMI hd.1 hg,PS.AMI hg r hd.2 h.2⟩
theorem tY:∀ (cs:List CT) {x:HT cs} {ms ms' :Nat->Nm},(∀ k,k<cnts cs->ms' k=ms k)->C2 cs x ms' =C2 cs x ms
 | [],_,_,_,_=>rfl
 |d::r,x,ms,ms',he=>by
  simp only[C2]
  rw[tY r (ms:=fun k=>ms (d.cnt+k)) (ms' :=fun k=>ms' (d.cnt+k)) (fun k hk=>he _ (by simp [cnts];omega))]
  congr 1
  unfold N5
  congr 1
  ·cases hp:d.ptr with
   |true=>simp only;rw[he 0 (by simp [cnts,CT.cnt,CT.pn,hp];omega)]
   |false=>rfl
  ·exact SP _ fun k hk=>he _ (by rw[BJ] at hk;simp [cnts,CT.cnt];omega)
variable {w':World}
theorem AT.after (h:AT c G w E L) (hr:Rest w w') (hs:w.heap.size<=w'.heap.size) (hold:∀ b,c.Old b->w'.heap[b]? =w.heap[b]?)
  (hG:∀ b,G b->w'.heap[b]? =w.heap[b]?) (hg:∀ b,G b->G' b) (hgi:∀ b,G' b->b<w'.heap.size) (hgh:∀ b,G' b->G b\/¬c.Old b)
  (C6:∀ n e b,look L n=some e->e.ow E n b->w'.heap[b]? =w.heap[b]?∧¬G' b):AT c G' w' E L:=
 ⟨h.rest.trans hr,oG h.size hs,fun b hb=>(hold b hb).trans (h.old b hb),hgi,fun b hb=>hg b (h.glo b hb),fun b hb=>(hgh b hb).elim (h.ghi b) .inr,
  fun n e he=>(h.MQ n e he).mono (fun _ h=>h) (fun _ _=>rfl) hG hg (fun b hb=>C6 n e b he (.inl hb)) (fun ht b hb=>C6 n e b he (A9.PT ht hb)),
  fun n t xss q he=>(h.dp n t xss q he).mono (fun _ h=>h) (fun _ _=>rfl) hG hg (fun b hb=>C6 n _ b he (A9.GL.2 hb)),h.inj,h.tab⟩
theorem AT.xQ {c:EX TB} {G:Nat->Prop} {w:World}:∀ (cs:List CT) {E:Env} {L:AM} (x:HT cs) {n:Nat} {ms:Nat->Nm} (is:List Nat),AT c G w E L->cs.all okO=true->is.length=cs.length→
  is.Nodup->(∀ j,j<XE cs->look L (n+j)=some .MB)->(∀ i∈is,look L i=some .dead)->(OX cs 0).map ms=is.map E.nm→
  PS c G w cs x ms->(C2 cs x ms).Nodup->(∀ b∈C2 cs x ms,JP E L b)→
  ∃ E',AT c G w E' (AJ L (H6 cs x n is))/\(∀ k,Al L k->E'.nm k=E.nm k/\Al (AJ L (H6 cs x n is)) k)/\E'.ds=E.ds/\(∀ k,¬(n<=k/\k<n+XE cs)->k∉is->look (AJ L (H6 cs x n is)) k=look L k)/\∀ q∈eC cs 0 0,E'.nm (n+q.2)=ms q.1
 | [],E,L,x,n,ms,is,h,_,hl,_,_,_,_,_,_,_=>by
  exact⟨E,h,fun k hk=>⟨rfl,hk⟩,rfl,fun _ _ _=>rfl,fun q hq=>by cases hq⟩
 |d::r,E,L,x,n,ms,[],h,_,hl,_,_,_,_,_,_,_=>by simp at hl
 |d::r,E,L,x,n,ms,i::is,h,hp,hl,A0H,hrs,Y3,aA,hps,HN,XS=>by
  simp only[xB,IZ] at hp
  have shift:∀ (cs:List CT) (a b:Nat),(OX cs (a+b))=(OX cs b).map (fun k=>a+k):=by
   intro cs
   induction cs with
   |nil=>intros;rfl
   |cons e s ihs=>
    intro a b
    simp only[OX]
    rw[PC,ihs]
    simp
  have AMJ:=VE.1 A0H
  have hi0:=Y3 i (by simp)
  cases hpt:d.ptr with
  |false=>
   obtain⟨t,ag,ow,pt⟩:=d
   simp only at hpt
   subst hpt
   have ZZ:=hp.1
   simp only[okO,AM9,IZ,b6] at ZZ
   obtain⟨⟨rfl,rfl⟩,Q8⟩:=ZZ
   cases t with
   |slice a=>
    obtain⟨⟨hc1, -⟩,A0I⟩:=hps
    have rS:(CT.mk (.slice a) false true false).cnt=1:=rfl
    have Q8:a.u6=false:=by simpa [Ty.ABS] using Q8
    have hen:CA true (.slice a) (HT.hd (CT.mk (.slice a) false true false) r x)=[.row a (HT.hd (CT.mk (.slice a) false true false) r x)]:=by
     show [J_ a _]=_
     rw[MX Q8]
    have YE:mN c G w (ms 0) (.row a (HT.hd (CT.mk (.slice a) false true false) r x)):=hc1 0 _ (by show (CA true (.slice a) _)[0]? =_;rw[hen];rfl)
    have hoc:C2 (CT.mk (.slice a) false true false::r) x ms=((A9.row a (HT.hd (CT.mk (.slice a) false true false) r x)).own (ms 0)).toList++C2 r (HT.tl (CT.mk (.slice a) false true false) r x) (fun k=>ms (1+k)):=by
     show (([]++HE (CA true (.slice a) (HT.hd (CT.mk (.slice a) false true false) r x)) (fun j=>ms (0+j)))++_)=_
     rw[hen]
     show (([]++(((A9.row a (HT.hd (CT.mk (.slice a) false true false) r x)).own (ms 0)).toList++ []))++_)=_
     simp
     rfl
    rw[hoc] at HN XS
    have YZ:=PB.1 HN
    simp only[OX,JS,mI] at aA
    obtain⟨AGS,AS0⟩:=aA
    have DY:=AR hi0
    have CL:=fun k=>BB (q:=(i,A9.row a (HT.hd (CT.mk (.slice a) false true false) r x))) DY k
    have hEi:E.set i (ms 0)=E:=by
     refine MD (fun k=> ?_) rfl (fun _=>rfl)
     by_cases hk:k=i
     ·subst hk;rw[Env.E_,AGS]
     ·exact Env.H5 _ _ hk
    have h3:=h.change (i:=i) (e' := .row a (HT.hd (CT.mk (.slice a) false true false) r x)) (m:=ms 0) (w' :=w) DY (.refl _) (EH _) (fun _=>AGS) rfl (fun _ _ _=>rfl)
     (fun b hb=>by have:=mN.xM (e:= .row a _) YE (A9.AGK hb);exact⟨this.1,this.2.1⟩)
     (by
      intro k f hk hf b hb he
      exact XS b (FG.2 (.inl (by rw[he];simp))) k f hf hb)
     (by intro _;exact YE)
    rw[hEi] at h3
    have A0J:∀ b∈C2 r (HT.tl (CT.mk (.slice a) false true false) r x) (fun k=>ms (1+k)),JP E (DW L (i,A9.row a (HT.hd (CT.mk (.slice a) false true false) r x))) b:=by
     intro b hb k f hf RS
     rw[CL] at hf
     by_cases lT:k=i
     ·subst lT
      simp only[HP,A_] at hf;subst hf
      rw[A9.iI rfl,←AGS] at RS
      exact YZ.2.2 b (by rw[RS];simp) b hb rfl
     ·rw[AE lT] at hf
      exact XS b (FG.2 (.inr hb)) k f hf RS
    have AJQ :(OX r 0).map (fun k=>ms (1+k))=is.map E.nm:=by
     rw[<-AS0]
     have e:=shift r 1 0
     rw[P6] at e
     rw[rS,NV,e,XB]
     rfl
    obtain⟨E',k1,k2,k3,k4,k5⟩:=AT.xQ r (HT.tl (CT.mk (.slice a) false true false) r x) (n:=n) (ms:=fun k=>ms (1+k)) is h3 hp.2 (by simpa using hl) AMJ.2
     (by
      intro j hj
      rw[CL]
      have hr:=hrs j (by simp [XE];omega)
      have CW:¬(n+j=i):=by
       intro hx;rw[hx,hi0] at hr;cases hr
      rw[AE CW];exact hr)
     (by
      intro k hk
      have lT:¬k=i:=fun hx=>AMJ.1 (hx ▸ hk)
      rw[CL,AE lT];exact Y3 k (by simp [hk]))
     AJQ A0I YZ.2.1 A0J
    have eu:AJ L (H6 (CT.mk (.slice a) false true false::r) x n (i::is))=AJ (DW L (i,A9.row a (HT.hd (CT.mk (.slice a) false true false) r x))) (H6 r (HT.tl (CT.mk (.slice a) false true false) r x) n is):=by
     simp only[H6,BS]
     rw[show nameAt i (CA (CT.mk (.slice a) false true false).own (CT.mk (.slice a) false true false).t (HT.hd (CT.mk (.slice a) false true false) r x))=[(i,A9.row a (HT.hd (CT.mk (.slice a) false true false) r x))] from by rw[hen];rfl]
     rfl
    rw[eu]
    refine⟨E',k1,fun k hk=>k2 k (BZ rfl k hk),k3,fun k hk AJR=> ?_,fun q hq=> ?_⟩
    ·simp only[XE] at hk
     simp only[GH,not_or] at AJR
     rw[k4 k (by omega) AJR.2,CL,AE AJR.1]
    ·have e:=SQ r 1 0 0 0
     simp only[eC,rS] at hq
     rw[P6,P6] at e
     rw[NV,e] at hq
     obtain⟨q',SR,rfl⟩:=DH.1 hq
     have:=k5 q' SR
     simp only[NV]
     exact this
   |_=>simp [Ty.ABS] at Q8
  |true=>
  have hpn:d.pn=1:=by simp [CT.pn,hpt]
  have rS:d.cnt=1+d.t.HH:=by simp [CT.cnt,hpn]
  obtain⟨⟨hc1,hc2⟩,A0I⟩:=hps
  obtain⟨b1,b2,b3,b4,ty,b5⟩:=hc2 hpt
  rw[hpn] at hc1 b5
  have YZ:=PB.1 HN
  have hoc:N5 d (HT.hd d r x) ms=(ms 0).CN::HE (CA d.own d.t (HT.hd d r x)) (fun j=>ms (1+j)):=by
   unfold N5;rw[hpn,hpt];rfl
  rw[hoc] at YZ
  simp only[OX,JS,mI] at aA
  obtain⟨AGS,AS0⟩:=aA
  have AS1:=VE.1 YZ.1
  have Q8:∀ j,j<d.t.HH->look L (n+j)=some .MB:=fun j hj=>hrs j (by simp [XE,hpt];omega)
  obtain⟨h1,h2⟩:=h.oP (CA d.own d.t (HT.hd d r x)) (n:=n) (ms:=fun j=>ms (1+j)) (fun j hj=>Q8 j (by rw[BJ] at hj;exact hj)) hc1 AS1.2
   (fun b hb=>XS b (FG.2 (.inl (by rw[hoc];exact YB _ hb))))
  rw[BJ] at h1 h2
  have A60:¬(n<=i/\i<n+d.t.HH):=by
   intro hx
   have:=Q8 (i-n) (by omega)
   have e:n+(i-n)=i:=by omega
   rw[e,hi0] at this;cases this
  have hi1:look (AJ L (C9 n (CA d.own d.t (HT.hd d r x)))) i=some .dead:=by rw[h2,AE A60];exact hi0
  have DY:=AR hi1
  have CL:=fun k=>BB (q:=(i,A9.box (I1 d.t (HT.hd d r x) n))) DY k
  have hEi:(E.put n d.t.HH (fun j=>ms (1+j))).nm i=ms 0:=by
   rw[Env.XR _ _ _ _ (by omega),←AGS]
  have AOY:∀ k,Al L k->Al (AJ L (C9 n (CA d.own d.t (HT.hd d r x)))) k:=by
   intro k hk
   by_cases hkn:n<=k/\k<n+d.t.HH
   ·exfalso
    have:=Q8 (k-n) (by omega)
    have e:n+(k-n)=k:=by omega
    rw[e] at this
    exact FA this hk
   ·obtain⟨e,tW,he2⟩:=hk
    exact⟨e,by rw[h2,AE hkn];exact tW,he2⟩
  have vT:MT (E.put n d.t.HH (fun j=>ms (1+j))) (DW (AJ L (C9 n (CA d.own d.t (HT.hd d r x)))) (i,A9.box (I1 d.t (HT.hd d r x) n))) (I1 d.t (HT.hd d r x) n):=by
   refine xO _ _ _ fun j hj=>BZ rfl _ ?_
   have DY:j<(CA d.own d.t (HT.hd d r x)).length:=by rw[BJ];exact hj
   refine⟨(CA d.own d.t (HT.hd d r x))[j], ?_,YY (O6 DY)⟩
   rw[h2,AA ⟨by omega,by omega⟩]
   have e:n+j-n=j:=by omega
   rw[e,O6 DY]
  have A36:(E.put n d.t.HH (fun j=>ms (1+j))).set i (ms 0)=E.put n d.t.HH (fun j=>ms (1+j)):=by
   refine MD (fun k=> ?_) rfl (fun _=>rfl)
   by_cases hk:k=i
   ·subst hk;rw[Env.E_,hEi]
   ·exact Env.H5 _ _ hk
  have h3:=h1.change (i:=i) (e' := .box (I1 d.t (HT.hd d r x) n)) (m:=ms 0) (w' :=w) DY (.refl _) (EH _) (fun _=>hEi.symm) rfl (fun _ _ _=>rfl)
   (fun b hb=>by simp only[A9.own,A_] at hb;subst hb;exact⟨b4,b3⟩)
   (by
    intro k f hk hf b hb he
    simp only[A9.own,A_] at he
    subst he
    rw[h2] at hf
    by_cases MZ:n<=k/\k<n+d.t.HH
    ·rw[AA MZ] at hf
     have e:k=n+(k-n):=by omega
     rw[e,A9.dZ (by omega)] at hb
     exact AS1.1 (I3 _ _ (fun j=>ms (1+j)) hf hb)
    ·rw[AE MZ] at hf
     rw[A9.rQ (by omega)] at hb
     exact XS _ (FG.2 (.inl (by rw[hoc];simp))) k f hf hb)
   (by
    intro _
    rw[A36]
    refine⟨b1,b2,b3,b4,⟨ty, ?_⟩,vT⟩
    rw[b5,XQ]
    congr 3
    apply IH
    intro j hj
    exact (Env.mO E n d.t.HH (fun j=>ms (1+j)) hj).symm)
  rw[A36] at h3
  have A0J:∀ b∈C2 r (HT.tl d r x) (fun k=>ms (d.cnt+k)),JP (E.put n d.t.HH (fun j=>ms (1+j))) (DW (AJ L (C9 n (CA d.own d.t (HT.hd d r x)))) (i,A9.box (I1 d.t (HT.hd d r x) n))) b:=by
   intro b hb k f hf RS
   rw[CL] at hf
   by_cases lT:k=i
   ·subst lT
    simp only[HP,A_] at hf;subst hf
    rw[A9.iI rfl,hEi] at RS
    simp only[A9.own,A_] at RS
    exact YZ.2.2 _ (by simp) b hb RS
   ·rw[AE lT,h2] at hf
    by_cases MZ:n<=k/\k<n+d.t.HH
    ·rw[AA MZ] at hf
     have e:k=n+(k-n):=by omega
     rw[e,A9.dZ (by omega)] at RS
     exact YZ.2.2 b (YB _ (I3 _ _ (fun j=>ms (1+j)) hf RS)) b hb rfl
    ·rw[AE MZ] at hf
     rw[A9.rQ (by omega)] at RS
     exact XS b (FG.2 (.inr hb)) k f hf RS
  have AJQ :(OX r 0).map (fun k=>ms (d.cnt+k))=is.map E.nm:=by
   rw[<-AS0]
   have e:=shift r d.cnt 0
   rw[P6] at e
   rw[NV,e,XB]
   rfl
  obtain⟨E',k1,k2,k3,k4,k5⟩:=AT.xQ r (HT.tl d r x) (n:=n+d.t.HH) (ms:=fun k=>ms (d.cnt+k)) is h3 hp.2 (by simpa using hl) AMJ.2
   (by
    intro j hj
    rw[CL]
    have hr:=hrs (d.t.HH+j) (by simp [XE,hpt];omega)
    rw[<-PC] at hr
    have CW:¬(n+d.t.HH+j=i):=by
     intro hx;rw[hx,hi0] at hr;cases hr
    rw[AE CW,h2,af]
    exact hr)
   (by
    intro k hk
    have lT:¬k=i:=fun hx=>AMJ.1 (hx ▸ hk)
    have hd:=Y3 k (by simp [hk])
    rw[CL,AE lT,h2,AE]
    ·exact hd
    ·intro hx
     have:=Q8 (k-n) (by omega)
     have e:n+(k-n)=k:=by omega
     rw[e,hd] at this;cases this)
   (by
    rw[AJQ]
    apply W9
    intro k hk
    have hd:=Y3 k (by simp [hk])
    refine (Env.XR _ _ _ _ ?_).symm
    rcases IG k n with DY|hge
    ·exact .inl DY
    ·right
     rcases IG k (n+d.t.HH) with AJL|ARV
     ·exfalso
      have:=Q8 (k-n) (by omega)
      have e:n+(k-n)=k:=by omega
      rw[e,hd] at this;cases this
     ·exact ARV) A0I YZ.2.1 A0J
  have eu:AJ L (H6 (d::r) x n (i::is))=AJ (DW (AJ L (C9 n (CA d.own d.t (HT.hd d r x)))) (i,A9.box (I1 d.t (HT.hd d r x) n))) (H6 r (HT.tl d r x) (n+d.t.HH) is):=by
   simp only[H6,hpt,BS]
   rfl
  rw[eu]
  refine⟨E',k1,fun k hk=> ?_,by rw[k3];rfl,fun k hk AJR=> ?_,fun q hq=> ?_⟩
  ·obtain⟨q1,q2⟩:=k2 k (BZ rfl k (AOY k hk))
   refine⟨q1.trans (Env.XR _ _ _ _ ?_),q2⟩
   rcases IG k n with DY|hge
   ·exact .inl DY
   ·right
    rcases IG k (n+d.t.HH) with AJL|ARV
    ·exfalso
     have:=Q8 (k-n) (by omega)
     have e:n+(k-n)=k:=by omega
     rw[e] at this
     exact FA this hk
    ·exact ARV
  ·simp only[XE,hpt] at hk
   simp only[GH,not_or] at AJR
   rw[k4 k (by omega) AJR.2,CL,AE AJR.1,h2,af]
  ·simp only[eC,hpt] at hq
   rcases FG.1 hq with hq|hq
   ·obtain⟨j,hj,rfl⟩:=DH.1 hq
    have hj:=dQ.1 hj
    simp only[NV]
    have A37:j<(CA d.own d.t (HT.hd d r x)).length:=by rw[BJ];exact hj
    have NX:Al (AJ L (C9 n (CA d.own d.t (HT.hd d r x)))) (n+j):=by
     refine⟨(CA d.own d.t (HT.hd d r x))[j], ?_,YY (O6 A37)⟩
     rw[h2,AA ⟨by omega,by omega⟩]
     have e:n+j-n=j:=by omega
     rw[e,O6 A37]
    rw[(k2 (n+j) (BZ rfl _ NX)).1,Env.mO _ _ _ _ hj]
   ·have e:=SQ r d.cnt d.t.HH 0 0
    rw[P6,P6] at e
    rw[NV,NV,e] at hq
    obtain⟨q',SR,rfl⟩:=DH.1 hq
    have:=k5 q' SR
    rw[PC] at this
    exact this
end Go.V3
namespace Go.V3
open Go
variable {TB:Tb}
def Hd (c:EX TB) (w:World) (E:Env) (L:AM):Prop:=∃ G,AT c G w E L
theorem ABU {b:Nat}:∀ (es:List A9) (ms:Nat->Nm),b∈HE es ms->∃ (j:Nat) (e:A9),es[j]? =some e/\b∈e.YD (ms j)
 | [],ms,h=>by simp [HE] at h
 |e::r,ms,h=>by
  simp only[HE] at h
  rcases FG.1 h with h|h
  ·exact⟨0,e,rfl,h⟩
  ·obtain⟨j,f,h1,h2⟩:=ABU r _ h
   exact⟨j+1,f,by simpa using h1,h2⟩
theorem HJ.xM {c:EX TB} {G:Nat->Prop} {w:World} {d:CT} {x:d.t.T} {ms:Nat->Nm} (h:HJ c G w d x ms) {b:Nat} (hb:b∈N5 d x ms):¬c.Old b/\¬G b/\b<w.heap.size:=by
 unfold N5 at hb
 rcases FG.1 hb with hb|hb
 ·cases hp:d.ptr with
  |true=>
   rw[hp] at hb
   simp only[GG] at hb
   subst hb
   obtain⟨h1,h2,h3,h4,ty,h5⟩:=h.2 hp
   refine⟨h4,h3, ?_⟩
   rcases IG (ms 0).CN w.heap.size with h6|h6
   ·exact h6
   ·rw[wV h6] at h5;cases h5
  |false=>rw[hp] at hb;cases hb
 ·obtain⟨j,e,h1,h2⟩:=ABU _ _ hb
  exact (h.1 j e h1).xM h2
theorem PS.xM {c:EX TB} {G:Nat->Prop} {w:World} {b:Nat}:∀ (cs:List CT) {x:HT cs} {ms:Nat->Nm},PS c G w cs x ms->b∈C2 cs x ms->¬c.Old b/\¬G b/\b<w.heap.size
 | [],_,_,_,hb=>by cases hb
 |d::r,_,_,h,hb=>by
  rcases FG.1 hb with hb|hb
  ·exact h.1.xM hb
  ·exact PS.xM r h.2 hb
variable {w:World} {G:Nat->Prop} {c:EX TB}
theorem HJ.io {d:CT} {x:d.t.T} {ms:Nat->Nm} (h:HJ c G w d x ms) (c' :EX TB) (hc:∀ b∈N5 d x ms,¬c'.Old b):HJ c' G w d x ms:=by
 refine⟨fun j e he=> ?_,fun hp=> ?_⟩
 ·have hm:=h.1 j e he
  cases e with
  |row t xs=>
   obtain⟨h1,h2,h3⟩:=hm
   refine⟨h1,h2,h3.imp id fun ⟨a,b,_,d'⟩=>⟨a,b,hc _ ?_,d'⟩⟩
   refine FG.2 (.inr (I3 _ j _ he (A9.AGK ?_)))
   simp [A9.own,a]
  |deep t xs q=>exact⟨hm.1,hm.2.cfg fun b hb=>hc b (FG.2 (.inr (I3 _ j _ he hb)))⟩
  |tree t1 t2 xs=>exact F3.cfg hm fun b hb=>hc b (FG.2 (.inr (I3 _ j _ he hb)))
  |_=>exact hm
 ·obtain⟨a,b,c1,d1,e⟩:=h.2 hp
  refine⟨a,b,c1,hc _ ?_,e⟩
  unfold N5
  rw[hp]
  simp
theorem PS.io {c:EX TB} {G:Nat->Prop} {w:World} (c' :EX TB):∀ (cs:List CT) {x:HT cs} {ms:Nat->Nm},PS c G w cs x ms->(∀ b∈C2 cs x ms,¬c'.Old b)->PS c' G w cs x ms
 | [],_,_,_,_=>trivial
 |d::r,_,_,h,hc=>⟨h.1.io c' fun b hb=>hc b (FG.2 (.inl hb)),PS.io c' r h.2 fun b hb=>hc b (FG.2 (.inr hb))⟩
variable {n:Nat} {E:Env}
theorem AOZ (d:CT) (x:d.t.T) {E2:Env} {m:Nat} (h:∀ k,k<d.cnt->E.nm (n+k)=E2.nm (m+k)):(V8 d x n).den E=(V8 d x m).den E2:=by
 unfold CT.cnt CT.pn at h
 unfold V8
 cases hp:d.ptr with
 |true=>
  rw[hp] at h
  have h0:=h 0 (by simp;omega)
  simp only[P6] at h0
  simp only[SV.den,h0]
 |false=>
  rw[hp] at h
  simp only[NV] at h
  have hu:AN E (I1 d.t x n)=AN E2 (I1 d.t x m):=by
   rw[XQ,XQ]
   exact IH _ _ fun k hk=>h k hk
  cases d.agg with
  |true=>simp only[SV.den,hu]
  |false=>
   simp only
   cases h1:I1 d.t x n with
   |nil=>
    have:(I1 d.t x n).length=(I1 d.t x m).length:=by rw[FI,FI]
    rw[h1] at this
    cases h2:I1 d.t x m with
    |nil=>rfl
    |cons _ _=>rw[h2] at this;simp at this
   |cons v r=>
    cases h2:I1 d.t x m with
    |nil=>
     have:(I1 d.t x n).length=(I1 d.t x m).length:=by rw[FI,FI]
     rw[h1,h2] at this;simp at this
    |cons v' r' =>
     rw[h1,h2] at hu
     simp only[AN,mI] at hu
     exact hu.1
theorem mQ:∀ (cs:List CT) (x:HT cs) {E E2:Env} {n m:Nat},(∀ k,k<cnts cs->E.nm (n+k)=E2.nm (m+k))->AN E (outSVs cs x n)=AN E2 (outSVs cs x m)
 | [],_,_,_,_,_,_=>rfl
 |d::r,x,E,E2,n,m,h=>by
  simp only[outSVs,AN]
  rw[AOZ d _ (fun k hk=>h k (by simp [cnts];omega)),mQ r _ (n:=n+d.cnt) (m:=m+d.cnt) (fun k hk=>by rw[PC,PC];exact h _ (by simp [cnts];omega))]
theorem ABV {l l2:List SV} {E2:Env} (h:AN E l=AN E2 l2):(XT l).den E=(XT l2).den E2:=by
 match l,l2 with
 | [],[]=>rfl
 | [],_::_=>simp [AN] at h
 |_::_,[]=>simp [AN] at h
 | [v],[v2]=>simp only[AN,mI] at h;exact h.1
 | [v],_::_::_=>simp [AN] at h
 |_::_::_,[v]=>simp [AN] at h
 |_::_::_,_::_::_=>simp only[XT,SV.den,h]
variable {L:AM}
theorem AS2 {l:List SV} (h:MT E L l):(XT l).wf E L:=by
 match l with
 | []=>exact h
 | [v]=>exact h.1
 |_::_::_=>exact h
variable {AQ:Nat->Option A9}
theorem DA {base:Nat} (h:JQ AQ base n=true):∀ j,j<n->AQ (base+j)=some .MB:=by
 intro j hj
 simp only[JQ,KI,dQ] at h
 have:=h j hj
 split at this
 ·assumption
 ·cases this
theorem oU (j:Nat):∀ (u:DN) (L:AM) (o:Option A9) {e:A9},(∀ e,o=some e->look L j=some e)->j<L.length->AGR j u o=some e->look (AJ L u) j=some e
 | [],L,o,e,ho,_,h=>ho e h
 |(n,f)::r,L,o,e,ho,hj,h=>by
  refine oU j r (DW L (n,f)) _ (fun e' h' => ?_) (by rw[GQ];exact hj) h
  split at h'
  ·rename_i hn
   subst hn
   simp only[A_] at h'
   subst h'
   rw[BB hj,AA rfl]
  ·rename_i hn
   have:=ho e' h'
   by_cases hq:n<L.length
   ·rw[BB hq,AE (fun he=>hn he.symm)];exact this
   ·unfold DW
    rw[IF (by simpa using hq)]
    exact this
variable {o:Nat}
theorem AS3 {k:Nat} (h:E.nm k=E.nm o) (v:SV):(AAG k o v).den E=v.den E:=by
 cases v with
 |NT j=>
  simp only[AAG]
  split
  ·rename_i hj;subst hj;simp only[SV.den,h]
  ·rfl
 |_=>rfl
variable {v:SV}
theorem AWF {k:Nat} (h:Al L o) (hv:v.wf E L):(AAG k o v).wf E L:=by
 cases v with
 |NT j=>
  simp only[AAG]
  split
  ·exact h
  ·exact hv
 |_=>exact hv
theorem eD (E:Env) (i:Nat):E.set i (E.nm i)=E:=by
 refine MD (fun k=> ?_) rfl (fun _=>rfl)
 by_cases hk:k=i
 ·subst hk;rw[Env.E_]
 ·exact E.H5 _ hk
theorem AT.Y4 (h:AT c G w E L) {k:Nat} {t:Ty} {xs:List t.T} (hk:look L k=some (.row t xs)) (ho:look L o=some .dead) (he:E.nm k=E.nm o):
  AT c G w E (DW (DW L (k,.dead)) (o,.row t xs)):=by
 have xK:=AR hk
 have hol:=AR ho
 have CW:o≠k:=by intro hx;subst hx;rw[hk] at ho;cases ho
 have h1:=h.kill xK
 have C6:∀ b,(A9.row t xs).own (E.nm o)=some b->(A9.row t xs).ow E k b:=fun b hb=> .inl (by rw[he];exact hb)
 have h2:=h1.change (i:=o) (e' := .row t xs) (m:=E.nm o) (w' :=w) (by rw[GQ];exact hol) (.refl _) (EH _) (fun _=>rfl) rfl (fun _ _ _=>rfl)
  (fun b hb=>⟨(h.Q7 hk (C6 b hb)).2.1,(h.Q7 hk (C6 b hb)).1⟩)
  (fun n f hn hf b hb hx=>by
   rw[BB xK] at hf
   by_cases hnk:n=k
   ·rw[AA hnk] at hf
    simp only[A_] at hf
    subst hf
    rcases hb with hb|⟨hb,_⟩|⟨hb,_⟩ <;> cases hb
   ·rw[AE hnk] at hf
    exact h.inj n k f _ b hnk hf hk hb (C6 b hx))
  (fun _=>by
   have:=h.MQ k _ hk
   rw[he] at this
   exact this)
 rw[eD] at h2
 exact h2
variable {cs:List SV} {i:Nat}
theorem AT.A38 (h:AT c G w E L) {mL:List SV} (hi:look L i=some (.box cs)) (hd:AN E mL =AN E cs) (hw:MT E (DW L (i,.box mL)) mL):
  AT c G w E (DW L (i,.box mL)):=by
 obtain⟨h1,h2,h3,h4,⟨ty,h5⟩,h6⟩:=h.MQ i _ hi
 have:=h.change (i:=i) (e' := .box mL) (m:=E.nm i) (w' :=w) (AR hi) (.refl _) (EH _) (fun _=>rfl) rfl (fun _ _ _=>rfl)
  (fun b hb=>by simp only[A9.own,A_] at hb;subst hb;exact⟨h4,h3⟩)
  (fun k f hk hf b hb he=>h.inj k i f (.box cs) b hk hf hi hb (.inl (by simpa [A9.own] using he)))
  (fun _=>by rw[eD];exact⟨h1,h2,h3,h4,⟨ty,by rw[hd];exact h5⟩,hw⟩)
 rw[eD] at this
 exact this
theorem ABW (h:AT c G w E L) {k:Nat} {t:Ty} {xs:List t.T} (hk:look L k=some (.row t xs)) (ho:look L o=some .dead) (hi:look L i=some (.box cs)) (he:E.nm k=E.nm o):
  AT c G w E (AJ L [(k,.dead),(o,.row t xs),(i,.box (cs.map (AAG k o)))])/\∀ n,Al L n->Al (AJ L [(k,.dead),(o,.row t xs),(i,.box (cs.map (AAG k o)))]) n:=by
 have h1:=h.Y4 hk ho he
 have iO:i≠k:=by intro hx;subst hx;rw[hk] at hi;cases hi
 have hio:i≠o:=by intro hx;subst hx;rw[ho] at hi;cases hi
 have hi1:look (DW (DW L (k,.dead)) (o,.row t xs)) i=some (.box cs):=by
  rw[BB (by rw[GQ];exact AR ho),AE hio,BB (AR hk),AE iO];exact hi
 have rB:∀ n,Al (DW (DW L (k,.dead)) (o,.row t xs)) n->Al (DW (DW (DW L (k,.dead)) (o,.row t xs)) (i,.box (cs.map (AAG k o)))) n:=fun n hn=>BZ rfl n hn
 have A0K:∀ n,Al L n->Al (DW (DW L (k,.dead)) (o,.row t xs)) n:=fun n hn=>BZ rfl n (BZ rfl n hn)
 have mR:AN E (cs.map (AAG k o))=AN E cs:=by
  rw[GM,GM,XB]
  apply W9
  intro v _
  exact AS3 he v
 have vT:=(h.MQ i _ hi).2.2.2.2.2
 refine⟨h1.A38 hi1 mR (B1.2 fun v hv=> ?_),fun n hn=>rB n (A0K n hn)⟩
 obtain⟨u,hu,rfl⟩:=DH.1 hv
 refine AWF (rB o (A0K o ⟨_,ho,rfl⟩)) ?_
 exact (Z7 (fun n hn=>rB n (A0K n hn)) (fun _ _=>rfl) u (B1.1 vT u hu)).1
variable {u:DN}
theorem AJS (h:Hd c w E (AJ L u)) {k:Nat} (he:E.nm k=E.nm o) (hk:k<L.length) (ho:o<L.length) (hi:i<L.length):
  Hd c w E (AJ L (vV k o i u))/\∀ n,Al (AJ L u) n->Al (AJ L (vV k o i u)) n:=by
 unfold vV
 split
 ·rename_i t xs cs h1 h2 h3
  obtain⟨G,hG⟩:=h
  obtain⟨r1,r2⟩:=ABW hG (oU k u L none (fun _ hx=>by cases hx) hk h1) (oU o u L none (fun _ hx=>by cases hx) ho h2) (oU i u L none (fun _ hx=>by cases hx) hi h3) he
  rw[BS]
  exact⟨⟨G,r1⟩,r2⟩
 ·exact⟨h,fun _ hn=>hn⟩
theorem iP {c:EX TB} {w:World} {E:Env} {L:AM} {base:Nat} {nes:List NE} {on:List Nat} (hon:∀ i∈on,i<L.length):∀ (pins:List (Nat×Nat×Nat×Nat)) (u:DN),Hd c w E (AJ L u)→
  (∀ q∈pins,base+q.2.1<L.length/\∀ o∈on,nes[q.2.2.1]? =some (.whole o)->E.nm (base+q.2.1)=E.nm o)→
  Hd c w E (AJ L (V9 base nes on pins u))/\∀ n,Al (AJ L u) n->Al (AJ L (V9 base nes on pins u)) n
 | [],u,h,_=>⟨h,fun _ hn=>hn⟩
 |(a,b,j,jb)::r,u,h,hp=>by
  unfold V9
  obtain⟨p1,p2⟩:=hp _ (by simp:(a,b,j,jb)∈(a,b,j,jb)::r)
  split
  ·rename_i o i h1 h2
   split
   ·rename_i hc
    simp only[IZ,ALR] at hc
    obtain⟨q1,q2⟩:=AJS h (p2 o hc.1 h1) p1 (hon o hc.1) (hon i hc.2)
    obtain⟨r1,r2⟩:=iP hon r _ q1 (fun q hq=>hp q (by simp [hq]))
    exact⟨r1,fun n hn=>r2 n (q2 n hn)⟩
   ·exact iP hon r _ h (fun q hq=>hp q (by simp [hq]))
  ·exact iP hon r _ h (fun q hq=>hp q (by simp [hq]))
variable {f:FuncId} {args:List SV} {P:Program}
set_option maxHeartbeats 1000000 in
theorem ABX {fi:FnI} {base:Nat} {us:List SV} {md:PM} (xL:md≠ .own) (hus:XD AQ fi.sh args=some us) {a:M0 (HT fi.ps)} (hp:KC md AQ fi.ps us=some a)
  {is:List Nat} (hbk:VG a.nes fi.bk=some is)
  (hck:(okA a && JQ AQ base (cnts fi.rs+XE fi.os) && (is.length==fi.os.length) && fi.os.all okO && (decide is.Nodup && is.all (fun i=>a.on.contains i)) && ARZ fi && AMH fi AQ args a.nes a.on)=true)
  {r:HT (fi.rs++fi.os)} (hr:fi.F a.x=some r) (A39:md= .jO\/bN (fi.rs++fi.os) r=true\/(fi.rs++fi.os).all CT.good=true) (hc:CallsV P TB f fi)
  (CL:∀ n e,AQ n=some e->look L n=some e) (hh:Hd c w E L) (hw:MT E L args):
  Calls P f (AN E args).toArray w (fun e w' =>∃ E',e= .returned ((XT (outSVs fi.rs (HT.left fi.rs fi.os r) base)).den E')∧
   Hd c w' E' (AJ L (V9 base a.nes a.on fi.pin (a.DU++(E5 fi.rs (HT.left fi.rs fi.os r) base++H6 fi.os (HT.right fi.rs fi.os r) (base+cnts fi.rs) is))))∧
   (∀ n,Al L n->E'.nm n=E.nm n/\Al (AJ L (V9 base a.nes a.on fi.pin (a.DU++(E5 fi.rs (HT.left fi.rs fi.os r) base++H6 fi.os (HT.right fi.rs fi.os r) (base+cnts fi.rs) is)))) n)/\E'.ds=E.ds∧
   (XT (outSVs fi.rs (HT.left fi.rs fi.os r) base)).wf E' (AJ L (V9 base a.nes a.on fi.pin (a.DU++(E5 fi.rs (HT.left fi.rs fi.os r) base++H6 fi.os (HT.right fi.rs fi.os r) (base+cnts fi.rs) is))))):=by
 obtain⟨G,hG⟩:=hh
 have AGT:∀ i j,AGP AQ i=some j->look L i=some (.box [.loc j 0])/\Al L j:=by
  intro i j h
  unfold AGP at h
  split at h
  ·rename_i j' hl
   simp only[A_] at h;subst h
   exact⟨CL _ _ hl,(hG.MQ i _ (CL _ _ hl)).2.2.2.2.2.1⟩
  ·cases h
 have hw:=vU (fun i j h=>(AGT i j h).2) _ _ _ hus hw
 simp only[IZ,XM,LD,KI (p:=fun i=>a.on.contains i),ALR] at hck
 obtain⟨⟨⟨⟨⟨⟨ZZ,D8⟩,hlen⟩,AWG⟩,A0H,A3A⟩,A0L⟩,A3B⟩:=hck
 obtain⟨G1,G2,t1,t2,t3,t4,t5,t6,t7,t8,t9,t10,t11⟩:=hG.take xL CL hp ZZ hw
 have ABY:=fun j hj=>CL _ _ (DA D8 j hj)
 obtain⟨n1,n2⟩:=d_ xL _ _ _ hp
 have A0M:∀ k,look L k=some .MB->k∉a.on/\k∉a.fz.map (·.1):=by
  intro k hk
  refine⟨fun hx=> ?_,fun hx=> ?_⟩
  ·obtain⟨e,hl,he⟩:=n2 k hx
   have:=CL _ _ hl;rw[hk] at this;cases this;cases he
  ·obtain⟨q,hq,rfl⟩:=DH.1 hx
   obtain⟨t,ys,e,hl,ho,_⟩:=n1 q hq
   have:=CL _ _ hl;rw[hk] at this;cases this;cases ho
 have AGU:∀ j,j<cnts fi.rs+XE fi.os->look (AJ L a.DU) (base+j)=some .MB:=by
  intro j hj
  obtain⟨q1,q2⟩:=A0M _ (ABY j hj)
  rw[t7 _ q1 q2];exact ABY j hj
 have A3C:∀ b,G2 b->b<w.heap.size:=by
  intro b hb
  rcases t5 b hb with hx|⟨n,e,hx,hxb⟩
  ·exact t1.gin b hx
  ·exact t1.lS hx hxb
 have A0N:=PS.io (⟨w,fun b=>b∈C2 fi.ps a.x (D4 E a.nes),G2⟩:EX TB) _ t9 (fun b hb=>fun hx=>hx.2 hb)
 have A0O:(⟨w,fun b=>b∈C2 fi.ps a.x (D4 E a.nes),G2⟩:EX TB).Tab:=fun q hq=>by
  obtain⟨o1,ty,fz,o2⟩:=t1.tab q hq
  refine⟨⟨oB o1.1 t1.size,fun hy=>(PS.xM _ t9 hy).1 o1⟩,ty,fz, ?_⟩
  show w.heap[q.1]? =_
  rw[t1.old q.1 o1];exact o2
 obtain⟨AMK,mR⟩:=Y0 E _ _ _ hp
 simp only[AMH,IZ,LD] at A3B
 obtain⟨⟨pp1,pp2⟩,pp3⟩:=A3B
 let msX:Nat->Nm:=fun k=>match (mP fi.sh args).find? (fun q=>q.1==k) with
  |some q=>E.nm q.2
  |none=>D4 E a.nes k
 have AP0:∀ k,k<cnts fi.ps->msX k=D4 E a.nes k:=by
  intro k hk
  have:(mP fi.sh args).find? (fun q=>q.1==k)=none:=by
   rw[List.find?_eq_none]
   intro q hq he
   have:=KI.1 pp1 q hq
   simp only[IZ,LD] at this
   have xN :q.1=k:=by simpa using he
   omega
  show (match (mP fi.sh args).find? (fun q=>q.1==k) with|some q=>E.nm q.2|none=>D4 E a.nes k)=_
  rw[this]
 have A3D:∀ q∈mP fi.sh args,msX q.1=E.nm q.2:=by
  intro q hq
  have key:∀ (l:List (Nat×Nat)),(l.map (·.1)).Nodup->q∈l->l.find? (fun z=>z.1==q.1)=some q:=by
   intro l
   induction l with
   |nil=>intro _ h;cases h
   |cons z r ih=>
    intro hn hz
    simp only[JS,VE] at hn
    rcases GH.1 hz with rfl|hz
    ·simp
    ·have CW:(z.1==q.1)=false:=by
      rw[beq_eq_false_iff_ne]
      intro he
      exact hn.1 (he ▸ DH.2 ⟨q,hz,rfl⟩)
     rw[List.find?_cons,CW]
     exact ih hn.2 hz
  show (match (mP fi.sh args).find? (fun z=>z.1==q.1) with|some q=>E.nm q.2|none=>D4 E a.nes q.1)=_
  rw[key _ pp2 hq]
 have hX:C2 fi.ps a.x msX=C2 fi.ps a.x (D4 E a.nes):=tY _ AP0
 have hpp:A35 fi.rR (C2 fi.ps a.x (D4 E a.nes)) w msX:=by
  intro p hp'
  obtain⟨q,hq,vR⟩:=List.any_eq_true.1 (KI.1 pp3 p hp')
  simp only[IZ,XM] at vR
  obtain⟨hq1,vR⟩:=vR
  split at vR
  rotate_left
  ·cases vR
  rename_i j hj
  obtain⟨b1,b2⟩:=AGT _ _ hj
  obtain⟨e1,e2,e3,e4,⟨ty,e5⟩,_⟩:=hG.MQ _ _ b1
  have hmp:=A3D q hq
  rw[hq1] at hmp
  have XS:q.2∉a.on:=by
   have:=KI.1 pp1 q hq
   simp only[IZ,LD,b6,tI,wM] at this
   exact this.2
  have hnf:q.2∉a.fz.map (·.1):=by
   intro hx
   obtain⟨z,hz,he⟩:=DH.1 hx
   obtain⟨n1',_⟩:=d_ xL _ _ _ hp
   obtain⟨t,ys,e,hl,ho,_⟩:=n1' z hz
   have:=CL _ _ hl
   rw[he,b1] at this
   cases this;cases ho
  have A0P:look (AJ L a.DU) q.2=some (.box [.loc j 0]):=by rw[t7 _ XS hnf];exact b1
  have SN:(E.nm q.2).CN∉C2 fi.ps a.x (D4 E a.nes):=fun hx=>t11 _ hx q.2 _ A0P (.inl rfl)
  unfold iM at vR
  split at vR
  rotate_left
  ·cases vR
  rename_i i' KM
  have rT:i' =j:=by simpa using vR
  subst rT
  have DY:p.2<cnts fi.ps:=by
   rw[<-AMK]
   rcases IG p.2 a.nes.length with h|h
   ·exact h
   ·rw[IF h] at KM;cases KM
  have hm2:msX p.2=E.nm i' :=by
   rw[AP0 _ DY]
   simp only[D4,KM,NE.nm]
  refine⟨by rw[hmp];exact UE e5,by rw[hmp];exact SN, ?_⟩
  refine⟨(E.nm q.2).arr (AN E [.loc i' 0]),ty,(0,0),by rw[hmp];exact e5, ?_⟩
  rw[hmp,hm2,e2]
  unfold Nm.arr
  rw[wN,I0,SI (EH _)]
  simp [AN,SV.den]
 have AML:=hc.2 a.x r hr w G2 msX A3C (by rw[hX];exact PS.congr _ A0N fun k hk=>(AP0 k hk).symm) (by rw[hX];exact t10) (by rw[hX];exact A0O) (by rw[hX];exact hpp)
 have A3E:AN (LF msX) (foldA fi.sh (outSVs fi.ps a.x 0))=AN E args:=by
  refine iN _ _ _ _ hus (mR (LF msX) 0 fun k hk=> ?_) fun q hq=> ?_
  ·rw[NV];exact AP0 k hk
  ·exact A3D q hq
 rw[A3E,hX] at AML
 refine AML.mono ?_
 rintro e w' ⟨G',ms',rfl,eF,AYX,CZ,hgg,hgn,hgi,AWH,AWE,aA,A3F⟩
 have A61:∀ (bk is:List Nat),VG a.nes bk=some is->bk.map msX=bk.map (D4 E a.nes):=by
  intro bk
  induction bk with
  |nil=>intro is _;rfl
  |cons q rr ihq=>
   intro is h
   simp only[VG] at h
   split at h
   ·rename_i i hi
    split at h
    ·rename_i l hl
     have hq:q<cnts fi.ps:=by
      rw[<-AMK]
      rcases IG q a.nes.length with h|h
      ·exact h
      ·rw[IF h] at hi;cases hi
     simp only[JS]
     rw[AP0 q hq,ihq _ hl]
    ·cases h
   ·cases h
 rw[A61 _ _ hbk] at aA
 let G'' :Nat->Prop:=fun b=>G1 b\/(G' b/\(w.heap.size<=b\/b∈C2 fi.ps a.x (D4 E a.nes)))
 have hio:∀ b∈C2 fi.ps a.x (D4 E a.nes),¬c.Old b/\¬G2 b/\b<w.heap.size:=fun b hb=>PS.xM _ t9 hb
 have A0Q:∀ b,G1 b->w'.heap[b]? =w.heap[b]? :=fun b hb=>CZ b (t1.gin b hb) (fun hx=>(hio b hx).2.1 (t3 b hb))
 have hold:∀ b,c.Old b->w'.heap[b]? =w.heap[b]? :=fun b hb=>CZ b (oB hb.1 t1.size) (fun hx=>(hio b hx).1 hb)
 have ADK:AT c G'' w' E (AJ L a.DU):=by
  refine t1.after eF AYX hold A0Q (fun b hb=> .inl hb) ?_ ?_ ?_
  ·rintro b (hb|⟨hb,_⟩)
   ·exact oB (t1.gin b hb) AYX
   ·exact hgi b hb
  ·rintro b (hb|⟨hb,hx⟩)
   ·exact .inl hb
   ·right
    rintro⟨cA,hb2⟩
    rcases hx with hx|hx
    ·have:=t1.size;omega
    ·exact (hio b hx).1 ⟨cA,hb2⟩
  ·intro n e b he hb
   have DY:=t1.lS he hb
   have AS1:b∉C2 fi.ps a.x (D4 E a.nes):=fun hx=>t11 b hx n e he hb
   refine⟨CZ b DY AS1, ?_⟩
   rintro (hx|⟨hx,hy⟩)
   ·exact (t1.Q7 he hb).1 hx
   ·rcases hy with hy|hy
    ·omega
    ·exact AS1 hy
 have A62:∀ b,¬(EX.mk (TB:=TB) w (fun b=>b∈C2 fi.ps a.x (D4 E a.nes)) G2).Old b->¬c.Old b:=by
  rintro b hb hx
  refine hb ⟨oB hx.1 t1.size,fun hy=>(hio b hy).1 hx⟩
 have A63:PS c G'' w' (fi.rs++fi.os) r ms' :=by
  refine PS.cfg A62 _ ?_
  by_cases QF:(fi.rs++fi.os).all CT.good=true
  ·refine PS.good ?_ _ QF AWH
   rintro b (hb|⟨hb,_⟩)
   ·exact hgg b (t3 b hb)
   ·exact hb
  rcases A39 with A64|hgv|hx
  ·have e12:=t4 A64
   have:G'' =G' :=by
    funext b
    simp only[eq_iff_iff]
    refine⟨?_,fun hb=> ?_⟩
    ·rintro (hb|⟨hb,_⟩)
     ·exact hgg b (t3 b hb)
     ·exact hb
    ·rcases hgn b hb with hx|hx
     ·rw[e12] at hx;exact .inl hx
     ·exact .inr ⟨hb,hx⟩
   rw[this];exact AWH
  ·refine PS.AMI ?_ _ hgv AWH
   rintro b (hb|⟨hb,_⟩)
   ·exact hgg b (t3 b hb)
   ·exact hb
  ·exact absurd hx QF
 have AP1:∀ b∈C2 (fi.rs++fi.os) r ms',JP E (AJ L a.DU) b:=by
  intro b hb n e he heb
  have h1:=(PS.xM _ AWH hb).1
  have DY:=t1.lS he heb
  exact h1 ⟨DY,fun hx=>t11 b hx n e he heb⟩
 obtain⟨A65,A66⟩:=PS.split (c:=c) (G:=G'') (w:=w') fi.rs fi.os r ms'
 obtain⟨A3G,A67⟩:=A65.1 A63
 rw[A66] at AWE AP1
 have YZ:=PB.1 AWE
 obtain⟨a1,a2,a3⟩:=AT.oQ fi.rs (HT.left fi.rs fi.os r) (n:=base) (ms:=ms') ADK (fun j hj=>AGU j (by omega)) A3G YZ.1 (fun b hb=>AP1 b (FG.2 (.inl hb)))
 have AOY:∀ k,Al (AJ L a.DU) k->Al (AJ (AJ L a.DU) (E5 fi.rs (HT.left fi.rs fi.os r) base)) k/\(E.put base (cnts fi.rs) ms').nm k=E.nm k:=by
  intro k hk
  by_cases hkb:base<=k/\k<base+cnts fi.rs
  ·exfalso
   have:=AGU (k-base) (by omega)
   have e:base+(k-base)=k:=by omega
   rw[e] at this
   exact FA this hk
  ·obtain⟨f,hf1,n6⟩:=hk
   exact⟨⟨f,by rw[(a2 k).2 hkb];exact hf1,n6⟩,Env.XR _ _ _ _ (by omega)⟩
 have s2:=oT E _ _ hbk
 simp only[okA,IZ,LD] at ZZ
 have Y3:∀ i∈is,look (AJ (AJ L a.DU) (E5 fi.rs (HT.left fi.rs fi.os r) base)) i=some .dead/\¬(base<=i/\i<base+cnts fi.rs):=by
  intro i hi
  have hd:=t8 i (A3A i hi)
  have hb:¬(base<=i/\i<base+cnts fi.rs):=by
   intro hx
   have:=AGU (i-base) (by omega)
   have e:base+(i-base)=i:=by omega
   rw[e,hd] at this;cases this
  exact⟨by rw[(a2 i).2 hb];exact hd,hb⟩
 have shift:∀ (cs:List CT) (a b:Nat),(OX cs (a+b))=(OX cs b).map (fun k=>a+k):=by
  intro cs
  induction cs with
  |nil=>intros;rfl
  |cons e s ihs=>
   intro a b
   simp only[OX]
   rw[PC,ihs]
   simp
 obtain⟨E',b1,b2,b3,b4,b5⟩:=AT.xQ fi.os (HT.right fi.rs fi.os r) (n:=base+cnts fi.rs) (ms:=fun k=>ms' (cnts fi.rs+k)) is a1 AWG hlen
  A0H
  (by
   intro j hj
   rw[(a2 _).2 (by omega),PC]
   exact AGU _ (by omega))
  (fun i hi=>(Y3 i hi).1)
  (by
   have e1:(OX fi.os 0).map (fun k=>ms' (cnts fi.rs+k))=is.map E.nm:=by
    rw[<-s2,←aA]
    have:=shift fi.os (cnts fi.rs) 0
    rw[P6] at this
    rw[this,XB];rfl
   rw[e1]
   apply W9
   intro i hi
   exact (Env.XR _ _ _ _ (by have:=(Y3 i hi).2;omega)).symm)
  A67 YZ.2.1
  (by
   intro b hb k f hf RS
   by_cases hkb:base<=k/\k<base+cnts fi.rs
   ·
    have:b∈C2 fi.rs (HT.left fi.rs fi.os r) ms' :=by
     have key:∀ (cs:List CT) (x:HT cs) {E:Env} {L:AM} {n:Nat} {ms:Nat->Nm},AT c G'' w' E L->(∀ j,j<cnts cs->look L (n+j)=some .MB)->PS c G'' w' cs x ms->(C2 cs x ms).Nodup->(∀ b∈C2 cs x ms,JP E L b)→
       ∀ k f b,n<=k/\k<n+cnts cs->look (AJ L (E5 cs x n)) k=some f->f.ow (E.put n (cnts cs) ms) k b->b∈C2 cs x ms:=by
      intro cs
      induction cs with
      |nil=>intro x E L n ms _ _ _ _ _ k f b hk;simp [cnts] at hk;omega
      |cons d rr ihh=>
       intro x E L n ms hH hl hPS hND hNO k f b hk hf RS
       have AWI:=PB.1 hND
       obtain⟨c1,c2,c3,c4⟩:=hH.AMF d (HT.hd d rr x) (n:=n) (ms:=ms) (fun j hj=>hl j (by simp [cnts];omega)) hPS.1 AWI.1 (fun b hb=>hNO b (FG.2 (.inl hb)))
       have eu:AJ L (E5 (d::rr) x n)=AJ (AJ L (QD d (HT.hd d rr x) n)) (E5 rr (HT.tl d rr x) (n+d.cnt)):=by
        simp only[E5,BS]
       rw[eu] at hf
       have b_:∀ j,j<cnts rr->look (AJ L (QD d (HT.hd d rr x) n)) (n+d.cnt+j)=some .MB:=by
        intro j hj
        rw[(c2 _).2 (by omega),PC]
        exact hl _ (by simp [cnts];omega)
       have AWJ:∀ b∈C2 rr (HT.tl d rr x) (fun k=>ms (d.cnt+k)),JP (E.put n d.cnt ms) (AJ L (QD d (HT.hd d rr x) n)) b:=by
        intro b hb k f hf RS
        by_cases hk:n<=k/\k<n+d.cnt
        ·exact AWI.2.2 b (c4 k f b hk hf RS) b hb rfl
        ·rw[(c2 k).2 hk] at hf
         rw[A9.rQ (by omega)] at RS
         exact hNO b (FG.2 (.inr hb)) k f hf RS
       obtain⟨d1,d2,d3⟩:=AT.oQ rr (HT.tl d rr x) (n:=n+d.cnt) (ms:=fun k=>ms (d.cnt+k)) c1 b_ hPS.2 AWI.2.1 AWJ
       simp only[cnts] at hk RS
       rw[A9.ADI (m:=ms (k-n)) (by
        have e:k=n+(k-n):=by omega
        conv=>lhs;rw[e]
        rw[Env.mO _ _ _ _ (by omega)]) (by
        have e:k=n+(k-n):=by omega
        conv=>lhs;rw[e]
        rw[Env.AME _ _ _ _ (by omega)])] at RS
       by_cases MZ:n+d.cnt<=k
       ·refine FG.2 (.inr (ihh (HT.tl d rr x) c1 b_ hPS.2 AWI.2.1 AWJ k f b ⟨MZ,by omega⟩ hf ?_))
        have e:k=n+d.cnt+(k-(n+d.cnt)):=by omega
        rw[e,A9.dZ (by omega)]
        have e2:d.cnt+(k-(n+d.cnt))=k-n:=by omega
        rw[e2];exact RS
       ·rw[(d2 k).2 (by omega)] at hf
        refine FG.2 (.inl (c4 k f b ⟨hk.1,by omega⟩ hf ?_))
        have e:k=n+(k-n):=by omega
        rw[e,A9.dZ (by omega)];exact RS
     exact key fi.rs _ ADK (fun j hj=>AGU j (by omega)) A3G YZ.1 (fun b hb=>AP1 b (FG.2 (.inl hb))) k f b hkb hf RS
    exact YZ.2.2 b this b hb rfl
   ·rw[(a2 k).2 hkb] at hf
    rw[A9.rQ (by omega)] at RS
    exact AP1 b (FG.2 (.inr hb)) k f hf RS)
 have eu:AJ L (a.DU++(E5 fi.rs (HT.left fi.rs fi.os r) base++H6 fi.os (HT.right fi.rs fi.os r) (base+cnts fi.rs) is))=
   AJ (AJ (AJ L a.DU) (E5 fi.rs (HT.left fi.rs fi.os r) base)) (H6 fi.os (HT.right fi.rs fi.os r) (base+cnts fi.rs) is):=by
  rw[BS,BS]
 have A0R:∀ k,k<cnts fi.rs->E'.nm (base+k)=ms' k:=by
  intro k hk
  have NX:Al (AJ (AJ L a.DU) (E5 fi.rs (HT.left fi.rs fi.os r) base)) (base+k):=(a2 _).1 ⟨by omega,by omega⟩
  rw[(b2 _ NX).1,Env.mO _ _ _ _ hk]
 have A68:∀ k,Al L k->E'.nm k=E.nm k:=fun k hk=>by
  obtain⟨q1,q2⟩:=AOY k (t6 k hk)
  exact ((b2 k q1).1).trans q2
 obtain⟨z1,z2⟩:=iP (c:=c) (w:=w') (E:=E') (L:=L) (base:=base) (nes:=a.nes) (on:=a.on) (fun i hi=>by obtain⟨e,he,_⟩:=n2 i hi;exact AR (CL _ _ he)) fi.pin (a.DU++(E5 fi.rs (HT.left fi.rs fi.os r) base++H6 fi.os (HT.right fi.rs fi.os r) (base+cnts fi.rs) is))
  ⟨G'',by rw[eu];exact b1⟩ (by
   intro q hq
   have hpm:=KI.1 A0L q hq
   simp only[ALR] at hpm
   have XU:=SQ fi.os (cnts fi.rs) (cnts fi.rs) 0 0
   rw[P6] at XU
   rw[XU] at hpm
   obtain⟨q',SR,he⟩:=DH.1 hpm
   have hb5:=b5 q' SR
   simp only[DG] at he
   rw[PC,he.2] at hb5
   have SN:∀ (cs:List CT) (x y:Nat) (q:Nat×Nat),q∈eC cs x y->y<=q.2/\q.2<y+XE cs:=by
    intro cs
    induction cs with
    |nil=>intro x y q h;cases h
    |cons d r ih=>
     intro x y q h
     simp only[eC] at h
     cases hp:d.ptr with
     |true=>
      simp only[hp] at h
      simp only[XE,hp]
      rcases FG.1 h with h|h
      ·obtain⟨j,hj,rfl⟩:=DH.1 h
       have:=dQ.1 hj
       simp only;omega
      ·have:=ih _ _ _ h;omega
     |false=>
      simp only[hp] at h
      simp only[XE,hp]
      have:=ih _ _ _ h;omega
   have hm:=SN _ _ _ _ SR
   refine⟨AR (ABY q.2.1 (by omega)),fun o hon ho=> ?_⟩
   obtain⟨e,tW,he2⟩:=n2 o hon
   have hql:q.2.2.1<cnts fi.ps:=by
    rw[<-AMK]
    rcases IG q.2.2.1 a.nes.length with h|h
    ·exact h
    ·rw[IF h] at ho;cases ho
   rw[hb5,A68 o ⟨e,CL _ _ tW,he2⟩,he.1,A3F q hq,AP0 _ hql]
   simp [D4,ho,NE.nm])
 refine⟨E', ?_,z1,fun k hk=> ?_,b3, ?_⟩
 ·congr 1
  refine ABV (mQ _ _ fun k hk=> ?_)
  rw[A0R k hk]
  simp [LF]
 ·obtain⟨q1,q2⟩:=AOY k (t6 k hk)
  obtain⟨q3,q4⟩:=b2 k q1
  exact⟨q3.trans q2,z2 k (by rw[eu];exact q4)⟩
 ·refine AS2 (MC (fun k hk=>z2 k (by rw[eu];exact (b2 k hk).2)) (fun k hk=>(b2 k hk).1) _ a3).1
theorem xR {fi:FnI} {base:Nat} {DU:DN} (h:tX fi base AQ args (fun v u=>some (v,u))=some (v,DU)) (hc:CallsV P TB f fi)
  (CL:∀ n e,AQ n=some e->look L n=some e) (hh:Hd c w E L) (hw:MT E L args):
  Calls P f (AN E args).toArray w (fun e w' =>∃ E',e= .returned (v.den E')/\Hd c w' E' (AJ L DU)/\(∀ n,Al L n->E'.nm n=E.nm n/\Al (AJ L DU) n)/\E'.ds=E.ds/\v.wf E' (AJ L DU)):=by
 unfold tX at h
 split at h
 ·cases h
 rename_i us hus
 split at h
 ·cases h
 rename_i a hp
 split at h
 ·cases h
 rename_i is hbk
 split at h
 rotate_left
 ·cases h
 rename_i hck
 rw[AFR] at h
 obtain⟨r,hr,h⟩:=h
 simp only[A_,DG] at h
 obtain⟨rfl,rfl⟩:=h
 have xL:fi.md≠ .own:=by unfold FnI.md;split <;> simp
 refine ABX xL hus hp hbk hck hr ?_ hc CL hh hw
 cases QF:(fi.rs++fi.os).all CT.good with
 |true=>exact .inr (.inr rfl)
 |false=>left;unfold FnI.md;rw[QF]
theorem AS4 {fi:FnI} {base:Nat} {DU:DN} (h:ABT fi base AQ args (fun v u=>some (v,u))=some (v,DU)) (hc:CallsV P TB f fi)
  (CL:∀ n e,AQ n=some e->look L n=some e) (hh:Hd c w E L) (hw:MT E L args):
  Calls P f (AN E args).toArray w (fun e w' =>∃ E',e= .returned (v.den E')/\Hd c w' E' (AJ L DU)/\(∀ n,Al L n->E'.nm n=E.nm n/\Al (AJ L DU) n)/\E'.ds=E.ds/\v.wf E' (AJ L DU)):=by
 unfold ABT at h
 split at h
 ·cases h
 rename_i us hus
 split at h
 ·cases h
 rename_i a hp
 split at h
 ·cases h
 rename_i is hbk
 split at h
 rotate_left
 ·cases h
 rename_i hck
 rw[AFR] at h
 obtain⟨r,hr,h⟩:=h
 cases hg:bN (fi.rs++fi.os) r with
 |true=>
  rw[hg] at h
  simp only[cond_true,A_,DG] at h
  obtain⟨rfl,rfl⟩:=h
  exact ABX (by simp) hus hp hbk hck hr (.inr (.inl hg)) hc CL hh hw
 |false=>
  rw[hg] at h
  exact xR h hc CL hh hw
def OY (AQ:Nat->Option A9):List CT->List SV->Nat->Option (Nat×Nat×Nat×Nat×List SV)
 |c::r,v::vs,p=>(match c.ptr,v with
  |true,.loc i off=>(match AQ i with
   |some (.box cs)=>if c.t.sz<cs.length then some (p,i,off,c.t.sz,cs) else OY AQ r vs (p+1)
   |_=>OY AQ r vs (p+1))
  |_,_=>OY AQ r vs (p+1))
 |_,_,_=>none
theorem tZ {AQ:Nat->Option A9}:∀ (ps:List CT) (vs:List SV) (k:Nat) {p i off n:Nat} {cs:List SV},OY AQ ps vs k=some (p,i,off,n,cs)→
  k<=p/\vs[p-k]? =some (.loc i off)/\AQ i=some (.box cs)
 | [],_,_,_,_,_,_,_,h=>by simp [OY] at h
 |_::_,[],_,_,_,_,_,_,h=>by simp [OY] at h
 |c::r,v::vs,k,p,i,off,n,cs,h=>by
  have step:OY AQ r vs (k+1)=some (p,i,off,n,cs)->k<=p/\(v::vs)[p-k]? =some (.loc i off)/\AQ i=some (.box cs):=by
   intro h'
   obtain⟨h1,h2,h3⟩:=tZ r vs (k+1) h'
   refine⟨by omega, ?_,h3⟩
   rw[show p-k=(p-(k+1))+1 from by omega,AD8]
   exact h2
  unfold OY at h
  split at h
  ·split at h
   ·rename_i mL hl
    split at h
    ·simp only[A_,DG] at h
     obtain⟨rfl,rfl,rfl, -,rfl⟩:=h
     exact⟨EH _,by simp,hl⟩
    ·exact step h
   ·exact step h
  ·exact step h
def ADL (j:Nat):DN->Option (List SV)->Option (List SV)
 | [],o=>o
 |(n,e)::r,o=>ADL j r (if n=j then (match e with
  | .box cs=>some cs
  |_=>none) else o)
theorem xS (j:Nat):∀ (u:DN) (L:AM) (o:Option (List SV)) {cs:List SV},(∀ cs,o=some cs->look L j=some (.box cs))->j<L.length->ADL j u o=some cs->look (AJ L u) j=some (.box cs)
 | [],L,o,cs,ho,_,h=>ho cs h
 |(n,e)::r,L,o,cs,ho,hj,h=>by
  refine xS j r (DW L (n,e)) _ (fun mL h' => ?_) (by rw[GQ];exact hj) h
  split at h'
  ·rename_i hn
   subst hn
   split at h'
   ·simp only[A_] at h'
    subst h'
    rw[BB hj,AA rfl]
   ·cases h'
  ·rename_i hn
   have:=ho mL h'
   by_cases hq:n<L.length
   ·rw[BB hq,AE (fun he=>hn he.symm)];exact this
   ·unfold DW
    rw[IF (by simpa using hq)]
    exact this
def ABZ (fi:FnI) (base:Nat) (AQ:Nat->Option A9) (args:List SV) {α:Type} (K:SV->DN->Option α):Option α:=
 match (match fi.sh with
  | []=>OY AQ fi.ps args 0
  |_=>none) with
 |none=>tX fi base AQ args K
 |some (p,i,off,n,cs)=>
  if off+n<=cs.length/\JQ AQ (base+(cnts fi.rs+XE fi.os)) 1=true then
   tX fi base (fun k=>if k=i then none else if k=base+(cnts fi.rs+XE fi.os) then some (.box ((cs.drop off).take n)) else AQ k) (args.set p (.loc (base+(cnts fi.rs+XE fi.os)) 0)) fun v u=>
    match ADL (base+(cnts fi.rs+XE fi.os)) u none with
    |some mL =>if mL.length=n then K v ([(i,.dead),(base+(cnts fi.rs+XE fi.os),.box ((cs.drop off).take n))]++(u++ [(base+(cnts fi.rs+XE fi.os),.dead),(i,.box (EB cs off mL))])) else none
    |none=>none
  else none
def AMM (d:Bool) (fi:FnI) (base:Nat) (AQ:Nat->Option A9) (args:List SV) {α:Type} (K:SV->DN->Option α):Option α:=match d with
 |true=>ABT fi base AQ args K
 |false=>ABZ fi base AQ args K
end Go.V3
namespace Go.V3
open Go
variable {TB:Tb}
def vW (arr:Array Value) (off:Nat):List Value->Array Value
 | []=>arr
 |v::r=>vW (arr.setIfInBounds off v) (off+1) r
theorem SU (vs:List Value):∀ (arr:Array Value) (off:Nat),(vW arr off vs).size=arr.size:=by
 induction vs with
 |nil=>intros;rfl
 |cons v r ih=>intro arr off;simp [vW,ih]
theorem KT (vs:List Value):∀ (arr:Array Value) (off i:Nat),(vW arr off vs)[i]? =if off<=i/\i<off+vs.length/\i<arr.size then vs[i-off]? else arr[i]? :=by
 induction vs with
 |nil=>intro arr off i;rw[AE (by simp;omega)];rfl
 |cons v r ih=>
  intro arr off i
  simp only[vW,ih,Array.size_setIfInBounds,AFU,NU]
  by_cases h1:i=off
  ·subst h1
   by_cases h2:i<arr.size
   ·rw[af,AA rfl,AA h2,ab];simp
   ·rw[af,AA rfl,AE h2,af,wV (by omega)]
  ·by_cases h3:off+1<=i/\i<off+1+r.length/\i<arr.size
   ·rw[AA h3,ab]
    have:i-off=(i-(off+1))+1:=by omega
    rw[this];simp
   ·rw[AE h3,AE (fun h=>h1 h.symm),af]
theorem CP (arr:Array Value) (off n j:Nat):(BT arr off n)[j]? =if j<n then arr[off+j]? else none:=by
 unfold BT
 rw[n_]
 split
 ·rw[dM];simp
 ·rfl
variable {n o:Nat}
theorem bO {arr:Array Value} {p:Nat} {vs:List Value} (h:p+n<=o\/o+vs.length<=p):BT (vW arr o vs) p n=BT arr p n:=by
 apply XA
 intro j
 rw[CP,CP]
 split
 ·rw[KT,af]
 ·rfl
theorem eG {arr:Array Value} {vs:List Value} (h:o+vs.length<=arr.size):BT (vW arr o vs) o vs.length=vs:=by
 apply XA
 intro j
 rw[CP]
 split
 ·rw[KT,ab]
  congr 1;omega
 ·rw[IF (by omega)]
variable {i j:Nat}
theorem VH {k:Nat} (h:i<j):(i+1)*k<=j*k:=wX _ h
theorem RowsIn.set {α:Type} {R:α->List Value->Prop} {sz:Nat} {arr:Array Value} {off:Nat} {xs:List α} (h:RowsIn R sz arr off xs) {k:Nat} {v:α} {vs:List Value} (hv:R v vs) (hl:vs.length=sz) (hk:k<xs.length) (ha:off+xs.length*sz<=arr.size):
  RowsIn R sz (vW arr (off+k*sz) vs) off (xs.set k v):=by
 intro i x hx
 rw[wR] at hx
 have MZ:=VH (k:=sz) hk
 rw[SL] at MZ
 split at hx
 ·rename_i lT
  subst lT
  simp only[A_] at hx;subst hx
  have:=eG (arr:=arr) (o:=off+k*sz) (vs:=vs) (by rw[hl];omega)
  rw[hl] at this
  rw[this]
  exact hv
 ·rename_i lT
  rw[bO]
  ·exact h i x hx
  ·rcases Nat.lt_or_gt_of_ne lT with h1|h1
   ·right;have:=VH (k:=sz) h1;rw[SL] at this;omega
   ·left;have:=VH (k:=sz) h1;rw[SL] at this;omega
variable {off:Nat} {α:Type}
theorem RowsIn.append {R:α->List Value->Prop} {sz:Nat} {arr:Array Value} {xs ys:List α} (h:RowsIn R sz arr off xs) (h2:RowsIn R sz arr (off+xs.length*sz) ys):RowsIn R sz arr off (xs++ys):=by
 intro i x hx
 by_cases hi:i<xs.length
 ·rw[V4 hi] at hx;exact h i x hx
 ·rw[SI (by omega)] at hx
  have:=h2 _ x hx
  have e:off+xs.length*sz+(i-xs.length)*sz=off+i*sz:=by
   have:xs.length+(i-xs.length)=i:=by omega
   rw[PC,←SL,this]
  rw[e] at this;exact this
theorem RowsIn.AGV {R:α->List Value->Prop} {sz:Nat} {arr Z8 :Array Value} {o':Nat} {xs:List α} (h:RowsIn R sz arr o xs) (he:BT Z8 o' (xs.length*sz)=BT arr o (xs.length*sz)):RowsIn R sz Z8 o' xs:=by
 intro i x hx
 have hi:i<xs.length:=by
  rcases IG i xs.length with h1|h1
  ·exact h1
  ·rw[IF h1] at hx;cases hx
 have hm:=VH (k:=sz) hi
 rw[SL] at hm
 have e:∀ (a:Array Value) (p:Nat),BT a (p+i*sz) sz=((BT a p (xs.length*sz)).drop (i*sz)).take sz:=by
  intro a p
  apply XA
  intro j
  rw[CP,n_]
  split
  ·rw[dM,CP,ab,PC]
  ·rfl
 rw[e,he,←e]
 exact h i x hx
section
variable {P:Program}
theorem t_ (w:World) (a:Addr) (v:Value) (k:Nat):(w.setCell a v).heap[k]? =if a.block=k then (match w.heap[k]? with
  |some (.cells c e f)=>some (.cells (if a.spot.isSome then c else c.setIfInBounds a.off v) e f)
  |o=>o) else w.heap[k]? :=by
 show (w.heap.modify a.block _)[k]? =_
 rw[Array.getElem?_modify]
 split
 ·cases w.heap[k]? with
  |none=>rfl
  |some o=>cases o <;> rfl
 ·rfl
def Flat (vs:List Value):Prop:=∀ v∈vs,(∀ c,v≠ .agg c)/\(∀ c,v≠ .tuple c)
variable {w:World} {G:Nat->Prop}
theorem Rp.AMN (t:Ty) (x:t.T) (vs:List Value) (h:Rp G w t x vs):Flat vs:=by
 induction t generalizing vs with
 |pair a b W5 W6=>
  obtain⟨v1,v2,rfl,h1,h2⟩:=h
  intro v hv
  rcases FG.1 hv with hv|hv
  ·exact W5 _ _ h1 v hv
  ·exact W6 _ _ h2 v hv
 |slice a=>
  obtain⟨m,rfl,_⟩:=h
  intro v hv;simp only[GG] at hv;subst hv
  exact⟨fun c h=>(by cases h),fun c h=>(by cases h)⟩
 |sl a=>
  obtain⟨m,rfl,_⟩:=h
  intro v hv;simp only[GG] at hv;subst hv
  exact⟨fun c h=>(by cases h),fun c h=>(by cases h)⟩
 |nf=>
  obtain⟨m,rfl⟩:=h
  intro v hv;simp only[GG] at hv;subst hv
  exact⟨fun c h=>(by cases h),fun c h=>(by cases h)⟩
 |_=>
  simp only[Rp] at h;subst h
  intro v hv;simp only[GG] at hv;subst hv
  exact⟨fun c h=>(by cases h),fun c h=>(by cases h)⟩
variable {fz:Nat×Nat} {ty:TypeId} {b:Nat}
theorem LG (vs:List Value):∀ (w:World) (arr:Array Value) (k:Nat),(∀ j,j<arr.size->¬(fz.1<=j/\j<fz.2))->w.heap[b]? =some (.cells arr ty fz)->Flat vs->off+k+vs.length<=arr.size→
  ∃ w',(storeCells ⟨b,off,none⟩ vs k).run P w= .ok () w' /\Rest w w' /\w'.heap.size=w.heap.size/\w'.heap[b]? =some (.cells (vW arr (off+k) vs) ty fz)/\∀ j,j≠b->w'.heap[j]? =w.heap[j]? :=by
 induction vs with
 |nil=>intro w arr k _ h _ _;exact⟨w,rfl,.refl _,rfl,h,fun _ _=>rfl⟩
 |cons v r ih=>
  intro w arr k hz h hf hn
  simp only[NU] at hn
  have DY:off+k<arr.size:=by omega
  have YW:w.cell? ⟨b,off+k,none⟩=some arr[off+k]:=by simp [World.cell?,h,DY]
  have hfz:w.frozen? ⟨b,off+k,none⟩=false:=by
   have:=hz (off+k) DY
   simp only[World.frozen?,h]
   simpa using this
  have hst:(store ((⟨b,off,none⟩:Addr).add k) v).run P w= .ok () (w.setCell ⟨b,off+k,none⟩ v):=by
   rw[IT]
   obtain⟨hv1,hv2⟩:=hf v (by simp)
   unfold store
   cases v <;> first|exact absurd rfl (hv1 _)|exact absurd rfl (hv2 _)|(simp only[Sem.run,YW,hfz];rfl)
  have h' :(w.setCell ⟨b,off+k,none⟩ v).heap[b]? =some (.cells (arr.setIfInBounds (off+k) v) ty fz):=by
   rw[t_,AA rfl,h];rfl
  obtain⟨w',h1,h2,h3,h4,h5⟩:=ih _ _ (k+1) (fun j hj=>hz j (by simpa using hj)) h' (fun u hu=>hf u (by simp [hu])) (by simp;omega)
  refine⟨w', ?_, ?_, ?_,h4, ?_⟩
  ·simp only[storeCells,Sem.run_bind,hst,Result.andThen];exact h1
  ·have hr:Rest w (w.setCell ⟨b,off+k,none⟩ v):=⟨rfl,rfl,rfl⟩
   exact hr.trans h2
  ·rw[h3];simp [World.setCell]
  ·intro j hj
   rw[h5 j hj,t_,AE (fun he=>hj he.symm)]
theorem QG (vs:List Value) (w:World) (arr:Array Value) (k:Nat) (h:w.heap[b]? =some (.cells arr ty (0,0))) (hf:Flat vs) (hn:off+k+vs.length<=arr.size):
  ∃ w',(storeCells ⟨b,off,none⟩ vs k).run P w= .ok () w' /\Rest w w' /\w'.heap.size=w.heap.size/\w'.heap[b]? =some (.cells (vW arr (off+k) vs) ty (0,0))/\∀ j,j≠b->w'.heap[j]? =w.heap[j]? :=
 LG vs w arr k (fun j _=>by simp) h hf hn
theorem run_loadCells (w:World) {arr:Array Value} (h:w.heap[b]? =some (.cells arr ty fz)) (hn:off+n<=arr.size):(loadCells ⟨b,off,none⟩ n).run P w= .ok (BT arr off n).toArray w:=by
 have hl:(BT arr off n).length=n:=by unfold BT;simp;omega
 have:=run_loadCells_list (P:=P) w ⟨b,off,none⟩ (BT arr off n) (fun j v hj=>by
  rw[CP] at hj
  split at hj
  ·rw[IT];simp [World.cell?,h,hj]
  ·cases hj)
 rw[hl] at this
 exact this
variable {m:Nm}
theorem V_ {arr:Array Value} {size:Nat} (hn:m.nil=false) (h:w.heap[m.CN]? =some (.cells arr ty fz)) (hs:m.off+m.len*size<=arr.size):
  (Builtin.firstCells size m.len (.slice m.ad m.len m.cap)).run P w= .ok (BT arr m.off (m.len*size)).toArray w:=by
 simp only[Nm.ad,hn,W_,KK]
 exact run_loadCells w h hs
theorem xT (w:World) (t:TypeId) (v:Value):(newVar t v).run P w= .ok ⟨w.heap.size,0,none⟩ (w.alloc (.cells v.cells t)):=by
 simp [newVar,newRow]
variable {w':World}
theorem C_ {s:Sem Value} {v:Value} (h:s.run P w= .ok v w'):(do pure (Next.value (<-s)):Sem Next).run P w= .ok (.value v) w' :=by
 rw[Sem.run_bind,h];rfl
variable {cap:Nat} {q:TypeInfo}
theorem JJ {t0 t1:TypeId} {ts:Array TypeId} {e e1:TypeId} {a b:Option Addr} {len c:Nat} {news:List Value} 
  (h0:ts[0]? =some t0) (h1:ts[1]? =some t1) (hu:P.underlying t0=some (.slice e)) (hu1:P.underlying t1=some (.slice e1)) (hq:P.info? e=some q)
  (D8:(Builtin.firstCells q.size n (.slice b n c)).run P w= .ok news.toArray w) (u9:len+n<=cap)
  (hst:match a with|some p=>(storeCells (p.add (len*q.size)) news).run P w= .ok () w' |none=>w' =w):
  (Builtin.append_ ts ty #[.slice a len cap,.slice b n c]).run P w= .ok (.slice a (len+n) cap) w' :=by
 cases a with
 |none=>
  simp only at hst;subst hst
  simp [Builtin.append_,h0,h1,run_underlying hu,run_underlying hu1,sizeOf,typeInfo,hq,Builtin.lenOf,u9,D8]
 |some p=>
  simp only at hst
  simp [Builtin.append_,h0,h1,run_underlying hu,run_underlying hu1,sizeOf,typeInfo,hq,Builtin.lenOf,u9,D8,hst]
theorem run_append_grow {t0 t1:TypeId} {ts:Array TypeId} {e e1:TypeId} {zv:Value} {a b:Option Addr} {len c:Nat} {news olds:List Value}
  (h0:ts[0]? =some t0) (h1:ts[1]? =some t1) (hu:P.underlying t0=some (.slice e)) (hu1:P.underlying t1=some (.slice e1)) (hq:P.info? e=some q) (hz:q.zero=some zv) (hb:q.bytes≠0)
  (D8:(Builtin.firstCells q.size n (.slice b n c)).run P w.drew= .ok news.toArray w.drew) (hold:(Builtin.firstCells q.size len (.slice a len cap)).run P w.drew= .ok olds.toArray w.drew)
  (u9:cap<len+n) (hby:(len+n)*q.bytes<=140737488355328):
  ∃ c',len+n<=c' /\(Builtin.append_ ts ty #[.slice a len cap,.slice b n c]).run P w= .ok (.slice (some ⟨w.heap.size,0,none⟩) (len+n) c')
   (w.drew.alloc (.cells (olds.toArray++news.toArray++Builtin.zeroCells zv.cells (c' -(len+n))) e)):=by
 have h48:¬(281474976710656<Builtin.nextslicecap (len+n) cap*q.bytes):=by
  have:=growslice_fits (need:=len+n) (old:=cap) (bytes:=q.bytes) u9 hby
  omega
 have hnc:¬(len+n<=cap):=by omega
 refine⟨grownCap w (len+n) cap e,Nat.le_add_right _ _, ?_⟩
 simp [Builtin.append_,h0,h1,run_underlying hu,run_underlying hu1,sizeOf,typeInfo,zeroValue,hq,hz,Builtin.lenOf,hnc,hb,h48,Question.forced,D8,hold,newRow,grownCap]
 congr 2
 apply dT
 simp [I0]
variable {k:IntKind} {t:TypeId} {E:Env}
theorem run_makeSlice (w:World) {e:TypeId} {z:List SV} {k':IntKind} {n m:Int} (hu:P.underlying t=some (.slice e)) (hq:P.info? e=some q) (hz:OV P e=some z) (hs:z.length=q.size)
  (h0:0<=n) (h1:n<=m) (h2:m*q.bytes<=140737488355328) (h3:I64 m):
  (Instr.makeSlice t (.int k n) (.int k' m)).run P w= .ok (.slice (some ⟨w.heap.size,0,none⟩) n.toNat m.toNat)
   (w.alloc (.cells ((Array.range (m.toNat*z.length)).map fun i=>(AN E z).toArray[i%(AN E z).toArray.size]!) e)):=by
 obtain⟨zv,hzr,hzc⟩:=VU (E:=E) (P:=P) w hz
 have hn:I64 n:=⟨by have:=h3.1;omega,by have:=h3.2;omega⟩
 have e1:=InK.wrap (k:= .i64) hn
 have e2:=InK.wrap (k:= .i64) h3
 have c1:¬m<0:=by omega
 have hm2:(q.bytes:Int)*m<=140737488355328:=by rw[tO];exact h2
 have c2:¬(281474976710656<(q.bytes:Int)*m):=by omega
 have c3:¬n<0:=by omega
 have c4:¬m<n:=by omega
 by_cases hz0:m.toNat*q.size=0
 ·simp [Instr.makeSlice,run_underlying hu,asInt,asIntOf,typeInfo,hq,e1,e2,c1,c2,c3,c4,askRoom,sizeOf,hz0,newRow,hs]
  rw[show Array.range 0= #[] from by decide]
  simp
 ·simp [Instr.makeSlice,run_underlying hu,asInt,asIntOf,typeInfo,hq,e1,e2,c1,c2,c3,c4,askRoom,sizeOf,hz0,newRow,hs,hzr,hzc]
end
def fresh (z:List SV) (n size:Nat):List SV:=(List.range n).map fun i=>z.getD (i%size) BK
variable {E:Env}
theorem uA {z:List SV} {len size:Nat} (h:z.length=size):
  AN E (fresh z (len*size) size)=((Array.range (len*size)).map fun i=>(AN E z).toArray[i%(AN E z).toArray.size]!).toList:=by
 unfold fresh
 rw[GM,XB,lO,Array.toList_range]
 apply W9
 intro i hi
 subst h
 rcases ALY z.length with h0|h0
 ·rw[h0] at hi;simp at hi
 ·have hl:i%z.length<z.length:=ABP _ h0
  have e:(AN E z).toArray.size=z.length:=by simp [AU]
  rw[e]
  simp [F_,O6 hl]
end Go.V3
