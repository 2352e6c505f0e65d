import Derived.Test.YtokeceeccmgcmaaGreatDoorV3A
import Derived.Laws.BytesString
import Derived.Lib.ConvBytes
import Derived.Orders
set_option linter.unusedVariables false
set_option linter.unusedSimpArgs false
namespace Go.V3
open Go
variable {TB:Tb}
structure dL where
 live:List (Nat×CT)
 boxes:List (Nat×CT)
 rows:List (Nat×Ty)
 dead:List Nat
 lost:List Nat
 base:Nat
 pins:List (Nat×Nat×Nat):=[]
inductive Xt where
 |iQ
 |AMO
def Xt.sem:Xt->Array Value->Sem Value
 | .iQ=>Extern.MathFloatBits.float64bits
 | .AMO=>Extern.MathFloatBits.float64frombits
def xtE (e:Xt) (args:List SV):Pu:=
 match e,args with
 | .iQ,[.nf o _]=>YV (o.isSome=true/\o.getD 0<18446744073709551616) (.u64 (BitVec.ofNat 64 (o.getD 0)))
 | .iQ,[.UA b]=>YV (b<18446744073709551616) (.u64 (BitVec.ofNat 64 b))
 | .AMO,[.u64 x]=>val (.UA x.toNat)
 |_,_=>none
structure Cx where
 nm:List (Nat×Nat×Nat)
 CQ:List Nat
 fns:FuncId->Option FnI
 loops:List (Nat×dL)
 oV:List (Nat×dL)
 tb:Tb
 exts:List (Nat×Xt)
 lets:List Nat
 A3H:List Nat:=[]
 A3I:List Nat:=[]
 opens:List (Nat×(Nat×Nat×Nat)):=[]
 dyns:List Nat:=[]
def AJT {β α:Type} (x:β) (K:β->Option α):Option α:=K x
def AWK {α:Type} (b:Bool) (v:SV) (K:SV->Option α):Option α:=match b,v with
 |true,.u64 x=>AJT x fun x=>K (.u64 x)
 |true,.int k n=>AJT n fun n=>K (.int k n)
 |_,v=>K v
variable {α:Type}
theorem AMP (b:Bool) (v:SV) (K:SV->Option α):AWK b v K=K v:=by
 unfold AWK AJT;split <;> rfl
def Cx.A3J (cx:Cx):Option Tmp->Bool
 |some d=>cx.lets.contains d
 |none=>false
def Cx.AMQ (cx:Cx):Option Tmp->Bool
 |some d=> !cx.A3I.contains d
 |none=>true
def Cx.A69 (cx:Cx):Option Tmp->Bool
 |some d=>cx.dyns.contains d
 |none=>false
def Cx.AWL (cx:Cx):Option Tmp->Bool
 |some d=>cx.A3H.contains d
 |none=>false
def AWM (arr:Array Value) (k:Nat):Int:=match arr[k]? with
 |some (.int _ n)=>n
 |_=>0
def AGW (k:IntKind):List Value->Bool
 | []=>true
 | .int k' _::r=>decide (k=k') && AGW k r
 |_::_=>false
def lk {α:Type} (l:List (Nat×α)) (k:Nat):Option α:=
 match l with
 | []=>none
 |(a,b)::r=>if a=k then some b else lk r k
def Cx.IA (cx:Cx):Option Tmp->Nat×Nat
 |some d=>(match lk cx.nm d with
  |some q=>q
  |none=>(0,0))
 |none=>(0,0)
def Cx.base (cx:Cx) (d:Option Tmp):Nat:=(cx.IA d).1
def Cx.keeps (cx:Cx):Option Tmp->Bool
 |some d=>cx.CQ.contains d
 |none=>false
def tyL:List (Option Ty)->Option Ty
 | []=>none
 | [x]=>x
 |x::r=>match x,tyL r with
  |some a,some b=>some (.pair a b)
  |_,_=>none
def u_ (P:Program):Nat->TypeId->Option Ty
 |0,_=>none
 |n+1,t=>match P.underlying t with
  |some (.int k)=>some (match k with| .u64=> .u64|k=> .int k)
  |some .bool=>some .bool
  |some .string=>some .str
  |some (.float .f64)=>some .UA
  |some (.slice e)=>(match u_ P n e with|some a=>some (.slice a)|none=>none)
  |some (.struct fs)=>tyL (fs.toList.map fun f=>u_ P n f.type)
  |_=>none
def I7:Nat->Option A9:=fun _=>none
def QH:List (Int×Bool)->Int->Option Bool
 | [],_=>none
 |(a,b)::r,k=>if k=a then some b else QH r k
def mS:List (Int×Bool)->Int->Bool->List (Int×Bool)
 | [],k,v=>[(k,v)]
 |(a,b)::r,k,v=>if k=a then (k,v)::r else (a,b)::mS r k v
def ADM (P:Program) (t:TypeId):Bool:=match P.underlying t with
 |some (.map k e)=>(match P.underlying k,P.info? e with
  |some (.int _),some q=>(match q.zero with
   |some (.bool false)=>true
   |_=>false)
  |_,_=>false)
 |_=>false
def fin (CQ:Bool) (bs:Nat) (a:Ty) (xs:List a.T):DN:=(bs,.row a xs)::(match CQ with
 |true=>[]
 |false=>[(bs,.shr a xs)])
section
variable (P:Program) (cx:Cx) (AQ:Nat->Option A9) {α:Type}
def mT (agg:Bool) (n:Nat) (a:Ty) (xs:List a.T) (k sz off bs:Nat) (K:SV->DN->Option α):Option α:=
 if sz=a.sz/\off+n<=a.sz/\JQ AQ bs a.HH=true then (match agg with
  |true=>K (.agg (((I1 a (gd a xs k) bs).drop off).take n)) (C9 bs (CA false a (gd a xs k)))
  |false=>(match (I1 a (gd a xs k) bs)[off]? with
   |some v=>K v (C9 bs (CA false a (gd a xs k)))
   |none=>none)) else none
def rU (i:Nat) (t:Ty) (xss:List (List t.T)) (h:Option (Nat×Nat)):Option (List (List t.T)×DN):=
 match h with
 |none=>some (xss,[])
 |some (k,j)=>(match AQ j with
  |some (.row t' ys)=>if he:t' =t then some (xss.set k (HQ he ys),[(j,.dead),(i,.deep t (xss.set k (HQ he ys)) none)]) else none
  |_=>none)
def AC0 (deep:Bool) (t:Ty) (xss:List (List t.T)) (h:Option (Nat×Nat)) (i k sz off bs:Nat) (K:SV->DN->Option α):Option α:=
 if sz=1/\off=0 then (match JQ AQ bs 1 && (deep||h.isNone) with
  |true=>(match rU AQ i t xss h with
   |some (ys,u)=>K (.NT bs) (u++ [(bs,.dead),(i,.deep t ys (some (k,bs))),(bs,.row t (ys.getD k []))])
   |none=>none)
  |false=>(match h with
   |some (k0,j)=>if k=k0 then K (.NT j) [] else none
   |none=>none)) else none
def AC1 (deep:Bool) (t:TypeId) (x:SV) (bs:Nat) (K:SV->DN->Option α):Option α:=
 match P.info? t,P.underlying t with
 |some q,some _=>(match x with
  | .loc i off=>(match AQ i with
   |some (.box cs)=>(match HG P t with
    |true=>if off+q.size<=cs.length then K (.agg ((cs.drop off).take q.size)) [] else none
    |false=>(match cs[off]? with
     |some v=>K v []
     |none=>none))
   |some (.ptr j)=>(match HG P t with
    |true=>none
    |false=>if off=0 then K (.loc j 0) [] else none)
   |_=>none)
  | .el i k sz off=>(match AQ i with
   |some (.row a xs)=>mT AQ (HG P t) q.size a xs k sz off bs K
   |some (.shr a xs)=>mT AQ (HG P t) q.size a xs k sz off bs K
   |some (.deep a xss h)=>(match HG P t with
    |true=>none
    |false=>AC0 AQ deep a xss h i k sz off bs K)
   |some (.tree _ _ _)=>(match HG P t with
    |true=>none
    |false=>if sz=2/\off<2 then K (.tsl i k off) [] else none)
   |_=>none)
  |_=>none)
 |_,_=>none
def loadT (t:TypeId) (g off:Nat) (K:SV->DN->Option α):Option α:=
 match lk cx.tb g,P.underlying t,P.info? t with
 |some arr,some (.int k),some _=>(match k with
  | .u64=>none
  |k=>if AGW k arr.toList=true then (if off<arr.size then K (.int k (AWM arr off)) [] else none) else none)
 |_,_,_=>none
def AC2:SV->Bool
 | .agg _=>false
 | .tup _=>false
 | .raw (.agg _)=>false
 | .raw (.tuple _)=>false
 | .unk _=>false
 |_=>true
def AS5:SV->Bool
 | .NT _=>false
 | .nf _ _=>false
 |_=>true
def AYY (cs:List SV) (off n:Nat):Bool:=(cs.take off).all AS5 && (cs.drop (off+n)).all AS5
def vX (n:Nat) (a:Ty) (xs:List a.T) (i k sz off:Nat) (v:SV) (K:SV->DN->Option α):Option α:=
 if sz=a.sz/\off+n<=a.sz/\(BN v).length=n/\OU v=false then
  (if off=0/\n=a.sz then (match FY .jO AQ a (BN v) with
   |some (y,[],_,u)=>(match u.all (fun q=> !(q.1==i)) with
    |true=>K BK (u++ [(i,.row a (xs.set k y))])
    |false=>none)
   |_=>none)
  else if a.HH=0 then (match FY .dY I7 a (EB (I1 a (gd a xs k) 0) off (BN v)) with
   |some (y,[],_,_)=>K BK [(i,.row a (xs.set k y))]
   |_=>none)
  else (match AYY (I1 a (gd a xs k) 0) off n with
   |true=>(match FY .jO AQ a (EB (I1 a (gd a xs k) 0) off (BN v)) with
    |some (y,[],_,u)=>(match u.all (fun q=> !(q.1==i)) with
     |true=>K BK (u++ [(i,.row a (xs.set k y))])
     |false=>none)
    |_=>none)
   |false=>none))
 else none
def bP (a:Ty):Nat->List SV->Option (List a.T×DN)
 |0,[]=>some ([],[])
 |0,_::_=>none
 |n+1,cs=>match FY .jO AQ a cs with
  |some (x,r,_,u)=>(match bP a n r with
   |some (xs,u')=>some (x::xs,u++u')
   |none=>none)
  |none=>none
def oW (n len:Nat) (a:Ty) (xs:List a.T) (i k off:Nat) (v:SV) (K:SV->DN->Option α):Option α:=
 if k=0/\off=0/\a.HH=0/\(BN v).length=n/\(BN v).all AC2=true/\OU v=false then
  (match bP I7 a len (BN v) with
  |some (ys,_)=>if xs.length=len then K BK [(i,.row a ys)] else none
  |none=>none)
 else none
def ADN (n:Nat) (t:Ty) (xss:List (List t.T)) (h:Option (Nat×Nat)) (i k sz off:Nat) (v:SV) (K:SV->DN->Option α):Option α:=
 if n=1/\sz=1/\off=0 then (match v with
  | .NT j=>(match AQ j with
   |some (.row t' ys)=>if he:t' =t then (match h with
    |none=>K BK [(j,.dead),(i,.deep t (xss.set k (HQ he ys)) none)]
    |some (k0,_)=>if k=k0 then K BK [(j,.dead),(i,.deep t (xss.set k (HQ he ys)) none)] else none) else none
   |_=>none)
  |_=>none) else none
def A0S (q1:TypeInfo) (i k q:Nat) (n:Int) (K:SV->DN->Option α):Option α:=match AQ i with
 |some (.tree t1 t2 xs)=>(match q with
  |0=>if q1.size=1/\t1.sz=1 then (if 0<=n/\n<((gd (.pair (.slice t1) (.slice t2)) xs k).1.length:Int) then K (.tel i k 0 n.toNat) [] else none) else none
  |1=>if q1.size=1/\t2.sz=1 then (if 0<=n/\n<((gd (.pair (.slice t1) (.slice t2)) xs k).2.length:Int) then K (.tel i k 1 n.toNat) [] else none) else none
  |_=>none)
 |_=>none
def storeT (n:Nat) (i k q j:Nat) (v:SV) (K:SV->DN->Option α):Option α:=match AQ i with
 |some (.tree t1 t2 xs)=>if n=1/\OU v=false/\AC2 v=true then (match q with
  |0=>(match FY .dY I7 t1 [v] with
   |some (y,[],_,_)=>if t1.HH=0/\t1.sz=1 then K BK [(i,.tree t1 t2 (xs.set k ((gd (.pair (.slice t1) (.slice t2)) xs k).1.set j y,(gd (.pair (.slice t1) (.slice t2)) xs k).2)))] else none
   |_=>none)
  |1=>(match FY .dY I7 t2 [v] with
   |some (y,[],_,_)=>if t2.HH=0/\t2.sz=1 then K BK [(i,.tree t1 t2 (xs.set k ((gd (.pair (.slice t1) (.slice t2)) xs k).1,(gd (.pair (.slice t1) (.slice t2)) xs k).2.set j y)))] else none
   |_=>none)
  |_=>none) else none
 |_=>none
def rV (t:TypeId) (x v:SV) (K:SV->DN->Option α):Option α:=
 match P.info? t with
 |some q=>(match x with
  | .loc i off=>(match AQ i with
   |some (.box cs)=>if (BN v).length=q.size/\(BN v).all AC2=true/\OU v=false/\off+(BN v).length<=cs.length then K BK [(i,.box (EB cs off (BN v)))] else none
   |_=>none)
  | .el i k sz off=>(match AQ i with
   |some (.row a xs)=>(match P.underlying t with
    |some (.array len _)=>oW q.size len a xs i k off v K
    |_=>vX AQ q.size a xs i k sz off v K)
   |some (.deep a xss h)=>ADN AQ q.size a xss h i k sz off v K
   |_=>none)
  | .tel i k h j=>storeT AQ q.size i k h j v K
  |_=>none)
 |none=>none
def rW (t:TypeId) (CQ:Bool) (bs:Nat) (K:SV->DN->Option α):Option α:=
 match OV P t with
 |some z=>if JQ AQ bs 1=true then (match P.underlying t with
  |some (.array len e)=>(match u_ P 8 e,P.info? e with
   |some a,some q=>if q.size=a.sz/\a.HH=0/\0<len then (match bP I7 a len z with
    |some (xs,_)=>K (.el bs 0 a.sz 0) (fin CQ bs a xs)
    |none=>none) else none
   |_,_=>none)
  |_=>if V7 (z.map fun v=>(0,v))=true then K (.loc bs 0) [(bs,.box z)] else none) else none
 |none=>none
def AP2 (x:SV) (bs:Nat) (K:SV->DN->Option α):Option α:=
 if OU x=false/\JQ AQ bs 1=true then K (.loc bs 0) [(bs,.box (BN x))] else none
def PU (t:TypeId) (len:Nat) (parts:List (Nat×SV)) (CQ:Bool) (bs:Nat) (K:SV->DN->Option α):Option α:=
 match P.underlying t with
 |some (.slice e)=>(match P.info? e,OV P e,u_ P 8 e with
  |some q,some z,some a=>
   if z.length=q.size/\q.size=a.sz/\len*q.size<=16777216/\V7 parts=true/\JQ AQ bs 1=true then
    (match dW (fun i=>some (i*q.size,q.size)) (fresh z (len*q.size) q.size) parts with
    |some cs=>(match bP AQ a len cs with
     |some (xs,u)=>K (.NT bs) (u++fin CQ bs a xs)
     |none=>none)
    |none=>none)
   else none
  |_,_,_=>none)
 |_=>none
def RU (t:TypeId) (l c:SV) (CQ:Bool) (bs:Nat) (K:SV->DN->Option α):Option α:=
 match P.underlying t with
 |some (.slice e)=>(match P.info? e,OV P e,u_ P 8 e,l,c with
  |some q,some z,some a,.int _ n,.int _ m=>(match FY .dY I7 a z with
   |some (zv,[],_,_)=>
    if z.length=q.size/\q.size=a.sz/\q.bytes≠0/\JQ AQ bs 1=true then
     (if 0<=n/\n<=m/\m*q.bytes<=140737488355328 then K (.NT bs) (fin CQ bs a (List.replicate n.toNat zv)) else none)
    else none
   |_=>none)
  |_,_,_,_,_=>none)
 |_=>none
def AS6 (t:TypeId):Bool:=match P.underlying t with
 |some (.slice e)=>(match P.underlying e with
  |some (.slice _)=>true
  |_=>false)
 |_=>false
def AC3 (t:TypeId) (l c:SV) (bs:Nat) (K:SV->DN->Option α):Option α:=
 match P.underlying t with
 |some (.slice e)=>(match P.info? e,OV P e,u_ P 8 e,l,c with
  |some q,some [.LW],some (.slice a),.int _ n,.int _ m=>
   if q.size=1/\q.bytes≠0/\JQ AQ bs 1=true then
    (if 0<=n/\n<=m/\m*q.bytes<=140737488355328 then K (.NT bs) [(bs,.deep a (List.replicate n.toNat []) none)] else none)
   else none
  |_,_,_,_,_=>none)
 |_=>none
def rX (t:TypeId) (len:Nat) (parts:List (Nat×SV)) (bs:Nat) (K:SV->DN->Option α):Option α:=
 match P.underlying t with
 |some (.slice e)=>(match P.info? e,OV P e,u_ P 8 e,parts with
  |some q,some [.LW],some (.slice a),[(0,.NT j)]=>(match AQ j with
   |some (.row t' ys)=>if he:t' =a then
    (if q.size=1/\len=1/\JQ AQ bs 1=true then K (.NT bs) [(j,.dead),(bs,.deep a [HQ he ys] none)] else none) else none
   |_=>none)
  |some q,some [.LW],some (.slice a),[(0,.LW)]=>if q.size=1/\len=1/\JQ AQ bs 1=true then K (.NT bs) [(bs,.deep a [[]] none)] else none
  |_,_,_,_=>none)
 |_=>none
def A0T (t:TypeId):Bool:=match P.underlying t with
 |some (.slice e)=>(match u_ P 8 e with
  |some (.pair (.slice _) (.slice _))=>true
  |_=>false)
 |_=>false
def oX (t:Ty):SV->Option (List t.T×DN)
 | .LW=>some ([],[])
 | .NT i=>(match AQ i with
  |some (.row t' ys)=>if he:t' =t then some (HQ he ys,[(i,.dead)]) else none
  |_=>none)
 |_=>none
def rY (t:TypeId) (len:Nat) (parts:List (Nat×SV)) (bs:Nat) (K:SV->DN->Option α):Option α:=
 match P.underlying t with
 |some (.slice e)=>(match P.info? e,OV P e,u_ P 8 e,parts with
  |some q,some [.LW,.LW],some (.pair (.slice a) (.slice b)),[(0,.agg [v1,v2])]=>(match oX AQ a v1,oX AQ b v2 with
   |some (y1,u1),some (y2,u2)=>if q.size=2/\len=1/\JQ AQ bs 1=true/\u1.all (fun q=>u2.all (fun r=> !(r.1==q.1)))=true then K (.NT bs) (u1++u2++ [(bs,.tree a b [(y1,y2)])]) else none
   |_,_=>none)
  |_,_,_,_=>none)
 |_=>none
def AGX (a b:Ty):SV->Option (List (List a.T×List b.T)×DN)
 | .LW=>some ([],[])
 | .NT i=>(match AQ i with
  |some (.tree t1 t2 xs)=>if he:t1=a/\t2=b then some (he.1 ▸ he.2 ▸ xs,[(i,.dead)]) else none
  |_=>none)
 |_=>none
def AWN:SV->Bool
 | .NT i=>(match AQ i with
  |some (.tree _ _ _)=>true
  |_=>false)
 |_=>false
def iR (ts:List TypeId) (x y:SV) (bs:Nat) (K:SV->DN->Option α):Option α:=
 match ts with
 | [t0,t1]=>(match P.underlying t0,P.underlying t1 with
  |some (.slice e),some (.slice _)=>(match P.info? e,OV P e,u_ P 8 e with
   |some q,some [.LW,.LW],some (.pair (.slice a) (.slice b))=>
    if q.size=2/\q.bytes≠0/\JQ AQ bs 1=true then
     (match AGX AQ a b x,AGX AQ a b y with
     |some (xs,u1),some (ys,u2)=>(match u1.all (fun q=>u2.all (fun r=> !(r.1==q.1))) with
      |true=>if (xs.length+ys.length)*q.bytes<=140737488355328 then K (.NT bs) (u1++u2++ [(bs,.tree a b (xs++ys))]) else none
      |false=>none)
     |_,_=>none)
    else none
   |_,_,_=>none)
  |_,_=>none)
 |_=>none
def XV:SV->Bool
 | .NT i=>(match AQ i with
  |some (.deep _ _ _)=>true
  |some (.tree _ _ _)=>true
  |_=>false)
 |_=>false
def AGY (a:Ty):SV->Option (List (List a.T)×DN)
 | .LW=>some ([],[])
 | .NT i=>(match AQ i with
  |some (.deep t xss none)=>if he:t=a then some (HQ (KL Ty.slice he) xss,[(i,.dead)]) else none
  |_=>none)
 |_=>none
def AWO (CQ:Bool) (bs:Nat) (a:Ty) (xss:List (List a.T)):DN:=match CQ with
 |true=>[]
 |false=>[(bs,.shr (.slice a) xss)]
def VI (ts:List TypeId) (x y:SV) (CQ:Bool) (bs:Nat) (K:SV->DN->Option α):Option α:=
 match ts with
 | [t0,t1]=>(match P.underlying t0,P.underlying t1 with
  |some (.slice e),some (.slice _)=>(match P.info? e,OV P e,u_ P 8 e with
   |some q,some [.LW],some (.slice a)=>
    if q.size=1/\q.bytes≠0/\JQ AQ bs 1=true then
     (match AGY AQ a x,AGY AQ a y with
     |some (xs,u1),some (ys,u2)=>(match u1.all (fun q=>u2.all (fun r=> !(r.1==q.1))) with
      |true=>if (xs.length+ys.length)*q.bytes<=140737488355328 then K (.NT bs) (u1++u2++ [(bs,.deep a (xs++ys) none)]++AWO CQ bs a (xs++ys)) else none
      |false=>none)
     |_,_=>none)
    else none
   |_,_,_=>none)
  |_,_=>none)
 |_=>none
def AS7 :SV->Option Nat
 | .LW=>some 0
 | .NT i=>(match AQ i with
  |some (.row _ xs)=>some xs.length
  |some (.shr _ xs)=>some xs.length
  |some (.deep _ xss _)=>some xss.length
  |some (.tree _ _ xs)=>some xs.length
  |_=>none)
 | .sub _ _ n _=>some n
 |_=>none
def iS (ts:List TypeId) (x y:SV) (CQ:Bool) (bs:Nat) (K:SV->DN->Option α):Option α:=
 match ts with
 | [t0,t1]=>(match P.underlying t0,P.underlying t1 with
  |some (.slice e),some (.slice _)=>(match P.info? e,OV P e,u_ P 8 e with
   |some q,some z,some a=>
    if z.length=q.size/\q.size=a.sz/\q.bytes≠0/\JQ AQ bs 1=true then
     (match Z9 AQ a x,N4 .dY AQ a y with
     |some (xs,_,u1),some (ys,ne,u2)=>
      (match u1.all (fun q=>u2.all (fun r=> !(r.1==q.1))) with
      |true=>if (xs.length+ys.length)*q.bytes<=140737488355328 then K (.NT bs) (u2++u1++fin CQ bs a (xs++ys)) else none
      |false=>none)
     |_,_=>none)
    else none
   |_,_,_=>none)
  |_,_=>none)
 |_=>none
def rZ (t:TypeId) (x:SV) (low high:Option SV) (CQ:Bool) (bs:Nat) (K:SV->DN->Option α):Option α:=
 match P.underlying t with
 |some (.slice e)=>(match P.info? e,x with
  |some q,.NT i=>(match AQ i with
   |some (.row a xs)=>(match CQ with
    |false=>if q.size=a.sz then (match bnd high xs.length,bnd low 0 with
     |some (h,hn),some (l,ln)=>if Bd l h hn xs.length then K (.sub i ln (hn-ln) a.sz) [] else none
     |_,_=>none) else none
    |true=>if q.size=a.sz/\JQ AQ bs 1=true then (match bnd high xs.length,bnd low 0 with
     |some (h,hn),some (l,ln)=>if Bd l h hn xs.length then K (.NT bs) [(i,.dead),(bs,.row a (BF xs ln (hn-ln)))] else none
     |_,_=>none) else none)
   |some (.shr a xs)=>if q.size=a.sz/\JQ AQ bs 1=true then (match bnd high xs.length,bnd low 0 with
    |some (h,hn),some (l,ln)=>if Bd l h hn xs.length then K (.NT bs) [(bs,.shr a (BF xs ln (hn-ln)))] else none
    |_,_=>none) else none
   |_=>none)
  |_,_=>none)
 |_=>none
def r_ (t:TypeId) (x i:SV) (K:SV->DN->Option α):Option α:=
 match P.underlying t,idxOf i with
 |some (.slice e),some n=>(match P.info? e,x with
  |some q,.NT j=>(match AQ j with
   |some (.row a xs)=>if q.size=a.sz then (if 0<=n/\n<(xs.length:Int) then K (.el j n.toNat a.sz 0) [] else none) else none
   |some (.shr a xs)=>if q.size=a.sz then (if 0<=n/\n<(xs.length:Int) then K (.el j n.toNat a.sz 0) [] else none) else none
   |some (.deep _ xss _)=>if q.size=1 then (if 0<=n/\n<(xss.length:Int) then K (.el j n.toNat 1 0) [] else none) else none
   |some (.tree _ _ xs)=>if q.size=2 then (if 0<=n/\n<(xs.length:Int) then K (.el j n.toNat 2 0) [] else none) else none
   |_=>none)
  |some q,.tsl i k h=>A0S AQ q i k h n K
  |some q,.sub j lo len sz=>(match AQ j with
   |some (.row a _)=>if q.size=sz/\sz=a.sz then (if 0<=n/\n<(len:Int) then K (.el j (lo+n.toNat) sz 0) [] else none) else none
   |_=>none)
  |_,_=>none)
 |some (.array len e),some n=>(match P.info? e,x with
  |some q,.el j k sz off=>(match AQ j with
   |some (.row a xs)=>if q.size=a.sz/\sz=a.sz/\k=0/\off=0 then (if (0<=n/\n<(len:Int))/\n<(xs.length:Int) then K (.el j n.toNat a.sz 0) [] else none) else none
   |_=>none)
  |_,_=>none)
 |_,_=>none
def oY (bs:Nat) (K:SV->DN->Option α):Option α:=
 if JQ AQ bs 1=true then K (.mpv bs) [(bs,.map [])] else none
def vY (t:TypeId) (x i:SV) (ok:Bool) (K:SV->DN->Option α):Option α:=
 match x,i with
 | .mpv j,.int .i64 n=>(match AQ j with
  |some (.map xs)=>(match ADM P t with
   |true=>(match ok with
    |true=>K (.tup [.bool ((QH xs n).getD false),.bool (QH xs n).isSome]) []
    |false=>K (.bool ((QH xs n).getD false)) [])
   |false=>none)
  |_=>none)
 |_,_=>none
def vZ (t:TypeId) (x i v:SV) (K:SV->DN->Option α):Option α:=
 match x,i,toB v with
 | .mpv j,.int .i64 n,some b=>(match AQ j with
  |some (.map xs)=>(match ADM P t with
   |true=>K BK [(j,.map (mS xs n b))]
   |false=>none)
  |_=>none)
 |_,_,_=>none
def A3K (xs:List Int):ByteArray:=xs.foldl (fun r n=>r.push (UInt8.ofNat n.toNat)) ByteArray.empty
def mU (s:ByteArray):List Int:=s.data.toList.map fun b=>(b.toNat:Int)
def AWP (P:Program) (e:TypeId):Bool:=match P.underlying e with
 |some (.int .u8)=>true
 |_=>false
def AMR (s d:TypeId) (x:SV) (kp:Bool) (bs:Nat) (K:SV->DN->Option α):Option α:=
 match P.underlying s,P.underlying d with
 |some (.slice e),some .string=>(match AWP P e with
  |true=>(match XV AQ x with
   |true=>none
   |false=>(match N4 .dY AQ (.int .u8) x with
    |some (xs,_,_)=>K (.str (A3K xs)) []
    |none=>none))
  |false=>none)
 |some .string,some (.slice e)=>(match AWP P e && JQ AQ bs 1 with
  |true=>(match x with
   | .str t=>K (.NT bs) (fin kp bs (.int .u8) (mU t))
   |_=>none)
  |false=>none)
 |_,_=>none
def AGZ (dst:Option Tmp) (ρ:Operand->SV) (K:SV->DN->Option α):Op->Option α
 | .load t x=>(match ρ x with
  | .ptr (some ⟨g,off,none⟩)=>loadT P cx t g off K
  |v=>AC1 P AQ (cx.AMQ dst) t v (cx.base dst) K)
 | .store t x y=>rV P AQ t (ρ x) (ρ y) K
 | .alloc t=>rW P AQ t (cx.keeps dst) (cx.base dst) K
 | .box _ x=>AP2 AQ (ρ x) (cx.base dst) K
 | .buildSlice t len parts=>(match cx.keeps dst && (cx.AMQ dst && AS6 P t) with
  |true=>rX P AQ t len (parts.toList.map fun q=>(q.1,ρ q.2)) (cx.base dst) K
  |false=>(match cx.keeps dst && (cx.AMQ dst && A0T P t) with
   |true=>rY P AQ t len (parts.toList.map fun q=>(q.1,ρ q.2)) (cx.base dst) K
   |false=>PU P AQ t len (parts.toList.map fun q=>(q.1,ρ q.2)) (cx.keeps dst) (cx.base dst) K))
 | .makeSlice t l c=>(match cx.keeps dst && (cx.AMQ dst && AS6 P t) with
  |true=>AC3 P AQ t (ρ l) (ρ c) (cx.base dst) K
  |false=>RU P AQ t (ρ l) (ρ c) (cx.keeps dst) (cx.base dst) K)
 | .slice t x l h none=>rZ P AQ t (ρ x) (l.map ρ) (h.map ρ) (cx.keeps dst) (cx.base dst) K
 | .indexAddr t x i=>r_ P AQ t (ρ x) (ρ i) K
 | .call { callee:= .builtin .len,args,argTypes }=>(match args.toList.map ρ,argTypes.toList with
  | [x],[t]=>(match P.underlying t,AS7 AQ x with
   |some (.slice _),some n=>K (.int .i64 n) []
   |_,_=>none)
  |_,_=>none)
 | .call { callee:= .builtin .append,args,argTypes }=>(match args.toList.map ρ with
  | [x,y]=>(match XV AQ y with
   |true=>(match AWN AQ y with
    |true=>iR P AQ argTypes.toList x y (cx.base dst) K
    |false=>VI P AQ argTypes.toList x y (cx.keeps dst) (cx.base dst) K)
   |false=>iS P AQ argTypes.toList x y (cx.keeps dst) (cx.base dst) K)
  |_=>none)
 | .makeMap _ none=>oY AQ (cx.base dst) K
 | .convert s d x=>AMR P AQ s d (ρ x) (cx.keeps dst) (cx.base dst) K
 | .binOp .quo _ x y _=>(match ρ x,ρ y with
  | .UA a,.UA b=>(match JQ AQ (cx.base dst) 1 with
   |true=>K (.nf (KR .quo a b) (cx.base dst)) [((cx.base dst),.dead)]
   |false=>none)
  |_,_=>none)
 | .lookup t x i ok=>vY P AQ t (ρ x) (ρ i) ok K
 | .mapUpdate t x i v=>vZ P AQ t (ρ x) (ρ i) (ρ v) K
 | .call { callee:= .value f,args,.. }=>(match AOW (ρ f) with
  |some (n,cs)=>(match cx.fns n with
   |some fi=>AMM (cx.A69 dst) fi (cx.base dst) AQ (args.toList.map ρ++cs) K
   |none=>(match lk cx.exts n with
    |some e=>(match xtE e (args.toList.map ρ++cs) with
     |some (none,v)=>K v []
     |some (some q,v)=> @ite _ q.p q.d (K v []) none
     |none=>none)
    |none=>none))
  |_=>none)
 |_=>none
def oZ (v:SV) (K:SV->DN->Option α):Option α:=
 match v with
 | .NT i=>(match AQ i with
  |some (.deep t xss h)=>(match rU AQ i t xss h with
   |some (ys,u)=>K (.NT i) (u++ [(i,.shr (.slice t) ys)])
   |none=>none)
  |_=>K (.NT i) [])
 |v=>K v []
def SE (ρ:Operand->SV) (K:SV->DN->Option α):Op->Option α
 | .move x=>oZ AQ (ρ x) K
 | .assign x=>oZ AQ (ρ x) K
 |_=>none
def Op.AMS:Op->Bool
 | .binOp .quo _ _ _ _=>true
 |_=>false
def core0 (dst:Option Tmp) (ρ:Operand->SV) (K:SV->DN->Option α) (op:Op):Option α:=
 match (match cx.keeps dst && Op.AMS op with
  |true=>none
  |false=>dX P ρ op) with
 |some (none,v)=>AWK (cx.A3J dst) v fun v=>K v []
 |some (some q,v)=> @ite _ q.p q.d (AWK (cx.A3J dst) v fun v=>K v []) none
 |none=>AGZ P cx AQ dst ρ K op
def core (dst:Option Tmp) (ρ:Operand->SV) (K:SV->DN->Option α) (op:Op):Option α:=
 match cx.AWL dst with
 |true=>SE AQ ρ K op
 |false=>core0 P cx AQ dst ρ K op
end
section
variable {P:Program} {cx:Cx} {AQ:Nat->Option A9} {α:Type}
def pr (v:SV) (u:DN):Option (SV×DN):=some (v,u)
theorem AJU (agg:Bool) (n:Nat) (a:Ty) (xs:List a.T) (k sz off bs:Nat) (K:SV->DN->Option α):
  mT AQ agg n a xs k sz off bs K=(mT AQ agg n a xs k sz off bs pr).bind (fun q=>K q.1 q.2):=by
 unfold mT
 split
 ·cases agg
  ·simp only;split <;> rfl
  ·rfl
 ·rfl
theorem AP3 (deep:Bool) (t:Ty) (xss:List (List t.T)) (h:Option (Nat×Nat)) (i k sz off bs:Nat) (K:SV->DN->Option α):
  AC0 AQ deep t xss h i k sz off bs K=(AC0 AQ deep t xss h i k sz off bs pr).bind (fun q=>K q.1 q.2):=by
 unfold AC0
 repeat' split
 all_goals rfl
theorem AP4 (deep:Bool) (t:TypeId) (x:SV) (bs:Nat) (K:SV->DN->Option α):AC1 P AQ deep t x bs K=(AC1 P AQ deep t x bs pr).bind (fun q=>K q.1 q.2):=by
 unfold AC1
 repeat' split
 all_goals first|rfl|exact AJU _ _ _ _ _ _ _ _ _|exact AP3 _ _ _ _ _ _ _ _ _ _
theorem AJV (t:TypeId) (x v:SV) (K:SV->DN->Option α):rV P AQ t x v K=(rV P AQ t x v pr).bind (fun q=>K q.1 q.2):=by
 unfold rV vX oW ADN storeT
 repeat' split
 all_goals rfl
theorem AJW (t:TypeId) (CQ:Bool) (bs:Nat) (K:SV->DN->Option α):rW P AQ t CQ bs K=(rW P AQ t CQ bs pr).bind (fun q=>K q.1 q.2):=by
 unfold rW
 repeat' split
 all_goals rfl
theorem AS8 (x:SV) (bs:Nat) (K:SV->DN->Option α):AP2 AQ x bs K=(AP2 AQ x bs pr).bind (fun q=>K q.1 q.2):=by
 unfold AP2;split <;> rfl
theorem vA (t:TypeId) (len:Nat) (parts:List (Nat×SV)) (CQ:Bool) (bs:Nat) (K:SV->DN->Option α):PU P AQ t len parts CQ bs K=(PU P AQ t len parts CQ bs pr).bind (fun q=>K q.1 q.2):=by
 unfold PU
 repeat' split
 all_goals rfl
theorem xU (t:TypeId) (l c:SV) (CQ:Bool) (bs:Nat) (K:SV->DN->Option α):RU P AQ t l c CQ bs K=(RU P AQ t l c CQ bs pr).bind (fun q=>K q.1 q.2):=by
 unfold RU
 repeat' split
 all_goals rfl
theorem AH0 (ts:List TypeId) (x y:SV) (CQ:Bool) (bs:Nat) (K:SV->DN->Option α):iS P AQ ts x y CQ bs K=(iS P AQ ts x y CQ bs pr).bind (fun q=>K q.1 q.2):=by
 unfold iS
 repeat' split
 all_goals rfl
theorem AP5 (t:TypeId) (l c:SV) (bs:Nat) (K:SV->DN->Option α):AC3 P AQ t l c bs K=(AC3 P AQ t l c bs pr).bind (fun q=>K q.1 q.2):=by
 unfold AC3
 repeat' split
 all_goals rfl
theorem AJX (t:TypeId) (len:Nat) (parts:List (Nat×SV)) (bs:Nat) (K:SV->DN->Option α):rY P AQ t len parts bs K=(rY P AQ t len parts bs pr).bind (fun q=>K q.1 q.2):=by
 unfold rY
 repeat' split
 all_goals rfl
theorem AH1 (ts:List TypeId) (x y:SV) (bs:Nat) (K:SV->DN->Option α):iR P AQ ts x y bs K=(iR P AQ ts x y bs pr).bind (fun q=>K q.1 q.2):=by
 unfold iR
 repeat' split
 all_goals rfl
theorem AJY (t:TypeId) (len:Nat) (parts:List (Nat×SV)) (bs:Nat) (K:SV->DN->Option α):rX P AQ t len parts bs K=(rX P AQ t len parts bs pr).bind (fun q=>K q.1 q.2):=by
 unfold rX
 repeat' split
 all_goals rfl
theorem AH2 (ts:List TypeId) (x y:SV) (CQ:Bool) (bs:Nat) (K:SV->DN->Option α):VI P AQ ts x y CQ bs K=(VI P AQ ts x y CQ bs pr).bind (fun q=>K q.1 q.2):=by
 unfold VI
 repeat' split
 all_goals rfl
theorem AH3 (ρ:Operand->SV) (K:SV->DN->Option α) (op:Op):SE AQ ρ K op=(SE AQ ρ pr op).bind (fun q=>K q.1 q.2):=by
 unfold SE oZ
 repeat' split
 all_goals rfl
theorem AJZ (t:TypeId) (x:SV) (low high:Option SV) (CQ:Bool) (bs:Nat) (K:SV->DN->Option α):rZ P AQ t x low high CQ bs K=(rZ P AQ t x low high CQ bs pr).bind (fun q=>K q.1 q.2):=by
 unfold rZ
 repeat' split
 all_goals rfl
theorem AK0 (t:TypeId) (x i:SV) (K:SV->DN->Option α):r_ P AQ t x i K=(r_ P AQ t x i pr).bind (fun q=>K q.1 q.2):=by
 unfold r_ A0S
 repeat' split
 all_goals rfl
theorem Y5 (fi:FnI) (base:Nat) (args:List SV) (K:SV->DN->Option α):tX fi base AQ args K=(tX fi base AQ args pr).bind (fun q=>K q.1 q.2):=by
 unfold tX
 split
 ·rfl
 ·split
  ·rfl
  ·split
   ·rfl
   ·split
    ·rw[Option.bind_assoc];rfl
    ·rfl
theorem AP6 (fi:FnI) (base:Nat) (args:List SV) (K:SV->DN->Option α):ABZ fi base AQ args K=(ABZ fi base AQ args pr).bind (fun q=>K q.1 q.2):=by
 unfold ABZ
 split
 ·exact Y5 _ _ _ _
 ·split
  ·rw[Y5]
   conv=>rhs;arg 1;rw[Y5]
   rw[Option.bind_assoc]
   congr 1
   funext q
   split
   ·split <;> rfl
   ·rfl
  ·rfl
theorem AP7 (fi:FnI) (base:Nat) (args:List SV) (K:SV->DN->Option α):ABT fi base AQ args K=(ABT fi base AQ args pr).bind (fun q=>K q.1 q.2):=by
 unfold ABT
 split
 ·rfl
 ·split
  ·rfl
  ·split
   ·rfl
   ·split
    ·rw[Option.bind_assoc]
     congr 1
     funext r
     cases bN (fi.rs++fi.os) r with
     |true=>rfl
     |false=>exact Y5 _ _ _ _
    ·rfl
theorem AP8 (d:Bool) (fi:FnI) (base:Nat) (args:List SV) (K:SV->DN->Option α):AMM d fi base AQ args K=(AMM d fi base AQ args pr).bind (fun q=>K q.1 q.2):=by
 cases d
 ·exact AP6 _ _ _ _
 ·exact AP7 _ _ _ _
theorem AS9 (dst:Option Tmp) (ρ:Operand->SV) (K:SV->DN->Option α) (op:Op):AGZ P cx AQ dst ρ K op=(AGZ P cx AQ dst ρ pr op).bind (fun q=>K q.1 q.2):=by
 unfold AGZ
 split
 ·split
  ·unfold loadT
   repeat' split
   all_goals rfl
  ·exact AP4 _ _ _ _ _
 ·exact AJV _ _ _ _
 ·exact AJW _ _ _ _
 ·exact AS8 _ _ _
 ·split
  ·exact AJY _ _ _ _ _
  ·split
   ·exact AJX _ _ _ _ _
   ·exact vA _ _ _ _ _ _
 ·split
  ·exact AP5 _ _ _ _ _
  ·exact xU _ _ _ _ _ _
 ·exact AJZ _ _ _ _ _ _ _
 ·exact AK0 _ _ _ _
 ·repeat' split
  all_goals rfl
 ·split
  ·split
   ·split
    ·exact AH1 _ _ _ _ _
    ·exact AH2 _ _ _ _ _ _
   ·exact AH0 _ _ _ _ _ _
  ·rfl
 ·unfold oY
  split <;> rfl
 ·unfold AMR
  repeat' split
  all_goals rfl
 ·repeat' split
  all_goals rfl
 ·unfold vY
  repeat' split
  all_goals rfl
 ·unfold vZ
  repeat' split
  all_goals rfl
 ·split
  ·split
   ·exact AP8 _ _ _ _ _
   ·split
    ·split
     ·rfl
     ·rename_i q v _
      have:=q.d
      by_cases hp:q.p <;> simp [hp,pr]
     ·rfl
    ·rfl
  ·rfl
 ·rfl
theorem o7 (dst:Option Tmp) (ρ:Operand->SV) (K:SV->DN->Option α) (op:Op):core P cx AQ dst ρ K op=(core P cx AQ dst ρ pr op).bind (fun q=>K q.1 q.2):=by
 unfold core
 split
 ·exact AH3 _ _ _
 unfold core0
 simp only[AMP]
 split
 ·rfl
 ·rename_i q v _
  have:=q.d
  by_cases hp:q.p <;> simp [hp,pr]
 ·exact AS9 _ _ _ _
end
end Go.V3
namespace Go.V3
open Go
variable {TB:Tb}
variable {m:Nm} {w:World} {G:Nat->Prop} {c:EX TB} {α:Type}
theorem Own.inner {R:α->List Value->Prop} {sz:Nat} {xs:List α} (h:Own R sz c G w m xs):GN R sz w m xs:=by
 obtain⟨h1,h2,h3⟩:=h
 exact⟨h1,h2,h3.imp id fun ⟨a,_,_,d,e⟩=>⟨a,d,e⟩⟩
def sA (m:Nm) (l:List Nat):List Nat:=if m.nil=true then l else m.CN::l
variable {b:Nat} {l:List Nat}
theorem M6:b∈sA m l↔b∈l\/(m.nil=false/\b=m.CN):=by
 unfold sA
 cases hm:m.nil with
 |true=>simp
 |false=>simp [or_comm]
section
variable {P:Program} {L:AM}
variable {k:Nat} {h:Option (Nat×Nat)} {E:Env} {w':World}
theorem GI.put {E':Env} {L' :AM} {t:Ty} {xss:List (List t.T)} (d:GI c G w E L m l t xss h)
  (hh:∀ k' j',h=some (k',j')->k' =k) (hk:k<xss.length) {nb:Nm} {ys:List t.T} (MR:GN (Rp G w t) t.sz w nb ys)
  (hnb:nb.nil=false->nb.CN∉l/\¬G nb.CN/\¬c.Old nb.CN) (hw:∀ b,b≠m.CN->w'.heap[b]? =w.heap[b]?)
  (A0U:∀ arr ty,m.nil=false->w.heap[m.CN]? =some (.cells arr ty (0,0))->k<arr.size->∃ ty',w'.heap[m.CN]? =some (.cells (arr.setIfInBounds k (.slice nb.ad nb.len nb.cap)) ty' (0,0))):
  GI c G w' E' L' m (sA nb l) t (xss.set k ys) none:=by
 obtain⟨d1,d2,d3,d4,d5⟩:=d
 rcases d5 with ⟨h1,h2,h3⟩|⟨h1,h2,h3,arr,ty,hs,h4,h5,h6,h7,h8,h9⟩
 ·rw[h2] at hk;simp at hk
 obtain⟨ty',k4⟩:=A0U arr ty h1 h4 (by omega)
 have hG:∀ b,G b->w'.heap[b]? =w.heap[b]? :=fun b hb=>hw b (fun he=>(d4 _ h2).1 (he ▸ hb))
 have hrp:∀ (x:t.T) (vs:List Value),Rp G w t x vs->Rp G w' t x vs:=fun x vs hx=>Rp.mono hG (fun _ h=>h) t x vs hx
 have CW:nb.nil=false->nb.CN≠m.CN:=fun hn he=>(hnb hn).1 (he ▸ h2)
 have HN:(sA nb l).Nodup:=by
  unfold sA
  split
  ·exact d3
  ·rename_i hn
   exact VE.2 ⟨(hnb (by simpa using hn)).1,d3⟩
 have M7:∀ k',k' ≠k->∀ j,h≠some (k',j):=fun k' HR j he=>HR (hh k' j he)
 refine⟨by rw[EG];exact d1,d2,HN, ?_,.inr ⟨h1,M6.2 (.inl h2),by rw[EG];exact h3,_,ty',fun k' =>if k' =k then nb else hs k',k4,by rw[Array.size_setIfInBounds];exact h5, ?_, ?_, ?_, ?_⟩⟩
 ·intro b hb
  rcases M6.1 hb with hb|⟨hn,rfl⟩
  ·obtain⟨q1,q2,q3⟩:=d4 b hb
   refine⟨q1,q2, ?_⟩
   by_cases hbm:b=m.CN
   ·subst hbm;exact⟨_,_,_,k4⟩
   ·rw[hw b hbm];exact q3
  ·obtain⟨q1,q2,q3⟩:=hnb hn
   refine⟨q2,q3, ?_⟩
   obtain⟨p1,p2,p3⟩:=MR
   rcases p3 with ⟨p4,_⟩|⟨_,_,Z8,A85,p6,_⟩
   ·rw[hn] at p4;cases p4
   ·rw[hw _ (CW hn)];exact⟨_,_,_,p6⟩
 ·intro k' KA
  rw[EG] at KA
  dsimp only
  rw[AFU]
  by_cases HR:k' =k
  ·subst HR
   rw[AA rfl,ab,AA rfl]
  ·rw[AE (fun he=>HR he.symm),AE HR]
   exact h6 k' KA
 ·intro k' xs KA _
  rw[wR] at KA
  dsimp only
  by_cases HR:k' =k
  ·subst HR
   rw[AA rfl,AA hk] at KA
   simp only[A_] at KA;subst KA
   rw[AA rfl]
   exact⟨MR.mono hrp (fun hn=>hw _ (CW hn)),fun hn=>⟨M6.2 (.inr ⟨hn,rfl⟩),CW hn⟩⟩
  ·rw[AE (fun he=>HR he.symm)] at KA
   rw[AE HR]
   obtain⟨q1,q2⟩:=h7 k' xs KA (M7 k' HR)
   exact⟨q1.mono hrp (fun hn=>hw _ (q2 hn).2),fun hn=>⟨M6.2 (.inl (q2 hn).1),(q2 hn).2⟩⟩
 ·intro a b ha hb xV _ _ hna AK1
  rw[EG] at ha hb
  dsimp only at hna AK1 ⊢
  have key:∀ k',k' <xss.length->k' ≠k->(hs k').nil=false->(hs k').CN∈l:=fun k' KA HR hn=>((h7 k' _ (O6 KA) (M7 k' HR)).2 hn).1
  by_cases hak:a=k
  ·have hbk:b≠k:=fun he=>xV (hak.trans he.symm)
   rw[AA hak] at hna
   rw[AE hbk] at AK1
   rw[AA hak,AE hbk]
   intro he
   exact (hnb hna).1 (he ▸ key b hb hbk AK1)
  ·rw[AE hak] at hna
   rw[AE hak]
   by_cases hbk:b=k
   ·rw[AA hbk] at AK1
    rw[AA hbk]
    intro he
    exact (hnb AK1).1 (he ▸ key a ha hak hna)
   ·rw[AE hbk] at AK1
    rw[AE hbk]
    exact h8 a b ha hb xV (M7 a hak) (M7 b hbk) hna AK1
 ·intro k' j he;cases he
variable {i j:Nat}
theorem AT.A3L (hH:AT c G w E L) {t:Ty} {xss:List (List t.T)} {ys:List t.T} (hi:look L i=some (.deep t xss h)) (hj:look L j=some (.row t ys))
  (hh:∀ k' j',h=some (k',j')->k' =k) (hk:k<xss.length) (hr:Rest w w') (hs:w'.heap.size=w.heap.size) (hw:∀ b,b≠(E.nm i).CN->w'.heap[b]? =w.heap[b]?)
  (A0U:∀ arr ty,(E.nm i).nil=false->w.heap[(E.nm i).CN]? =some (.cells arr ty (0,0))->k<arr.size->∃ ty',w'.heap[(E.nm i).CN]? =some (.cells (arr.setIfInBounds k (.slice (E.nm j).ad (E.nm j).len (E.nm j).cap)) ty' (0,0))):
  AT c G w' (E.UF i (E.nm i) (sA (E.nm j) (E.ins.l i))) (AJ L [(j,.dead),(i,.deep t (xss.set k ys) none)]):=by
 have rT:i≠j:=by
  rintro rfl;rw[hi] at hj;cases hj
 have Y6:=hH.kill (AR hj)
 have CL:=fun n=>BB (q:=(j,A9.dead)) (AR hj) n
 have hi1:look (DW L (j,.dead)) i=some (.deep t xss h):=by rw[CL,AE rT];exact hi
 have hd:=hH.dp i t xss h hi
 have C6:=hH.MQ j _ hj
 have hjb:∀ b,((E.nm j).nil=false/\b=(E.nm j).CN)->(A9.row t ys).ow E j b:=by
  rintro b ⟨hn,rfl⟩
  exact .inl (by simp [A9.own,hn])
 have hnb:(E.nm j).nil=false->(E.nm j).CN∉E.ins.l i/\¬G (E.nm j).CN/\¬c.Old (E.nm j).CN:=by
  intro hn
  have h1:=hjb _ ⟨hn,rfl⟩
  have h2:=hH.Q7 hj h1
  exact⟨fun hx=>hH.inj i j _ _ _ rT hi hj (A9.GL.2 hx) h1,h2.1,h2.2.1⟩
 have ASA:GI c G w' (E.UF i (E.nm i) (sA (E.nm j) (E.ins.l i))) (DW (DW L (j,.dead)) (i,.deep t (xss.set k ys) none)) (E.nm i) (sA (E.nm j) (E.ins.l i)) t (xss.set k ys) none:=
  hd.put hh hk C6.inner hnb hw A0U
 have jP:∀ b,(A9.deep t (xss.set k ys) none).ow (E.UF i (E.nm i) (sA (E.nm j) (E.ins.l i))) i b↔b∈sA (E.nm j) (E.ins.l i):=by
  intro b
  rw[A9.GL,(E.FE _ _ _).2]
 have hmi:∀ b,b<w.heap.size->b∉sA (E.nm j) (E.ins.l i)->w'.heap[b]? =w.heap[b]? :=by
  intro b hb hn
  refine hw b (fun he=> ?_)
  rcases hd.cs with ⟨h1,h2,_⟩|⟨_,h2,_⟩
  ·rw[h2] at hk;simp at hk
  ·exact hn (M6.2 (.inl (he ▸ h2)))
 exact Y6.VF (AR hi1) hr (by omega) (fun _=>(E.FE _ _ _).1) (fun k hk=>E.NW _ _ hk) rfl (fun b hb hn=>hmi b hb (fun hx=>hn ((jP b).2 hx)))
  (fun b hb=>by
   rcases M6.1 ((jP b).1 hb) with hx|hx
   ·have:=hH.Q7 hi (A9.GL.2 hx);exact⟨this.2.1,this.1⟩
   ·have:=hH.Q7 hj (hjb b hx);exact⟨this.2.1,this.1⟩)
  (fun k f hk hf b hb he=>by
   rw[CL] at hf
   by_cases hkj:k=j
   ·subst hkj
    simp only[HP,A_] at hf;subst hf
    rcases hb with hb|⟨hb,_⟩|⟨hb,_⟩ <;> cases hb
   ·rw[AE hkj] at hf
    rcases M6.1 ((jP b).1 he) with hx|hx
    ·exact hH.inj k i f _ b hk hf hi hb (A9.GL.2 hx)
    ·exact hH.inj k j f _ b hkj hf hj hb (hjb b hx))
  trivial
  (fun t' xs' q he=>by
   cases he
   rw[(E.FE _ _ _).1,(E.FE _ _ _).2]
   exact ASA)
variable {u:DN} {AQ:Nat->Option A9}
theorem iT (CL:∀ n e,AQ n=some e->look L n=some e) (hH:AT c G w E L) {t:Ty} {xss ys:List (List t.T)} (hi:AQ i=some (.deep t xss h))
  (hc:rU AQ i t xss h=some (ys,u)):∃ E',AT c G w E' (AJ L u)/\(∀ n,E'.nm n=E.nm n)/\E'.ds=E.ds/\look (AJ L u) i=some (.deep t ys none)/\(∀ n,Al L n->Al (AJ L u) n)/\(∀ n,look L n=some .MB->look (AJ L u) n=some .MB)/\ys.length=xss.length:=by
 have KM :=CL _ _ hi
 unfold rU at hc
 split at hc
 ·simp only[A_,DG] at hc
  obtain⟨rfl,rfl⟩:=hc
  exact⟨E,hH,fun _=>rfl,rfl,KM,fun _ h=>h,fun _ h=>h,rfl⟩
 ·rename_i k j
  split at hc
  rotate_left
  ·cases hc
  rename_i t' zs hl
  split at hc
  rotate_left
  ·cases hc
  rename_i he
  subst he
  simp only[A_,DG] at hc
  obtain⟨rfl,rfl⟩:=hc
  have hj:=CL _ _ hl
  have hd:=hH.dp i _ xss _ KM
  have rT:i≠j:=by
   rintro rfl;rw[KM] at hj;cases hj
  have fin:∀ l' :List Nat,AT c G w (E.UF i (E.nm i) l') (AJ L [(j,.dead),(i,.deep t' (xss.set k zs) none)])->∃ E',AT c G w E' (AJ L [(j,.dead),(i,.deep t' (xss.set k (HQ rfl zs)) none)])/\(∀ n,E'.nm n=E.nm n)/\E'.ds=E.ds/\look (AJ L [(j,.dead),(i,.deep t' (xss.set k (HQ rfl zs)) none)]) i=some (.deep t' (xss.set k (HQ rfl zs)) none)/\(∀ n,Al L n->Al (AJ L [(j,.dead),(i,.deep t' (xss.set k (HQ rfl zs)) none)]) n)/\(∀ n,look L n=some .MB->look (AJ L [(j,.dead),(i,.deep t' (xss.set k (HQ rfl zs)) none)]) n=some .MB)/\(xss.set k (HQ rfl zs)).length=xss.length:=by
   intro l' h1
   have AWQ:=fun n=>BB (q:=(j,A9.dead)) (AR hj) n
   have hi1:look (DW L (j,.dead)) i=some (.deep t' xss (some (k,j))):=by rw[AWQ,AE rT];exact KM
   have A3M:=fun n=>BB (q:=(i,A9.deep t' (xss.set k zs) none)) (AR hi1) n
   refine⟨_,h1,fun n=> ?_,rfl, ?_,fun n hn=> ?_,fun n hn=> ?_,by simp⟩
   ·by_cases hn:n=i
    ·subst hn;exact (E.FE _ _ _).1
    ·exact (E.NW _ _ hn).1
   ·exact (A3M i).trans (AA rfl)
   ·exact BZ rfl n (BZ rfl n hn)
   ·show look (DW (DW L (j,.dead)) _) n=_
    have h1:n≠i:=by rintro rfl;rw[KM] at hn;cases hn
    have h2:n≠j:=by rintro rfl;rw[hj] at hn;cases hn
    exact ((A3M n).trans (AE h1)).trans (((AWQ n).trans (AE h2)).trans hn)
  by_cases hk:k<xss.length
  ·refine fin _ (hH.A3L KM hj (fun k' j' he=>by cases he;rfl) hk (.refl _) rfl (fun _ _=>rfl) (fun arr ty hn ha hka=>⟨ty, ?_⟩))
   rcases hd.cs with ⟨h1,_⟩|⟨h1,h2,h3,Z8,ty',hs,h4,h5,h6,h7,h8,h9⟩
   ·rw[hn] at h1;cases h1
   rw[h4] at ha
   simp only[A_,Obj.cells.injEq] at ha
   obtain⟨rfl,rfl,_⟩:=ha
   have hx:=h6 k hk
   rw[(h9 k j rfl hk).1] at hx
   rw[h4]
   congr 2
   apply ALZ
   intro q
   rw[AFU]
   split
   ·rename_i hq;subst hq;first|exact hx|(rw[AA hka];exact hx)
   ·rfl
  ·
   have Y6:=hH.kill (AR hj)
   have AWQ:=fun n=>BB (q:=(j,A9.dead)) (AR hj) n
   have hi1:look (DW L (j,.dead)) i=some (.deep t' xss (some (k,j))):=by rw[AWQ,AE rT];exact KM
   have XF:xss.set k zs=xss:=ALL (by omega)
   refine fin (E.ins.l i) ?_
   rw[XF]
   have jP:∀ b,(A9.deep t' xss none).ow (E.UF i (E.nm i) (E.ins.l i)) i b↔b∈E.ins.l i:=fun b=>by rw[A9.GL,(E.FE _ _ _).2]
   refine Y6.VF (AR hi1) (.refl _) (EH _) (fun _=>(E.FE _ _ _).1) (fun k hk=>E.NW _ _ hk) rfl (fun _ _ _=>rfl)
    (fun b hb=>by have:=hH.Q7 KM (A9.GL.2 ((jP b).1 hb));exact⟨this.2.1,this.1⟩)
    (fun n f hn hf b hb he=>Y6.inj n i f _ b hn hf hi1 hb (A9.GL.2 ((jP b).1 he))) trivial ?_
   intro t'' xs' q he
   cases he
   rw[(E.FE _ _ _).1,(E.FE _ _ _).2]
   obtain⟨d1,d2,d3,d4,d5⟩:=hd
   refine⟨d1,d2,d3,d4,d5.imp id ?_⟩
   rintro⟨h1,h2,h3,Z8,ty',hs,h4,h5,h6,h7,h8,h9⟩
   have M7:∀ k',k' <xss.length->∀ j',some (k,j)≠some (k',j'):=fun k' KA j' he=>by
    simp only[A_,DG] at he;omega
   refine⟨h1,h2,h3,Z8,ty',hs,h4,h5,h6,fun k' xs KA _=> ?_,fun a b ha hb xV _ _=>h8 a b ha hb xV (M7 a ha) (M7 b hb),fun k' j' he=>by cases he⟩
   have DY:k' <xss.length:=by
    rcases IG k' xss.length with h' |h'
    ·exact h'
    ·rw[IF h'] at KA;cases KA
   exact h7 k' xs KA (M7 k' DY)
variable {bs:Nat}
theorem AT.AYZ (hH:AT c G w E L) {t:Ty} {xss:List (List t.T)} (hi:look L i=some (.deep t xss none)) (hb:look L bs=some .MB) (hn:(E.nm i).nil=false) (hk:k<xss.length):
  ∃ E',AT c G w E' (AJ L [(bs,.dead),(i,.deep t xss (some (k,bs))),(bs,.row t (xss.getD k []))])/\(∀ n,n≠bs->E'.nm n=E.nm n)/\E'.ds=E.ds∧
   ∃ arr ty,w.heap[(E.nm i).CN]? =some (.cells arr ty (0,0))/\arr[k]? =some (.slice (E'.nm bs).ad (E'.nm bs).len (E'.nm bs).cap):=by
 have hib:i≠bs:=by rintro rfl;rw[hi] at hb;cases hb
 have hd:=hH.dp i _ xss _ hi
 obtain⟨d1,d2,d3,d4,d5⟩:=hd
 rcases d5 with ⟨h1,_⟩|⟨h1,h2,h3,arr,ty,hs,h4,h5,h6,h7,h8,h9⟩
 ·rw[hn] at h1;cases h1
 have M7:∀ k' j,(none:Option (Nat×Nat))≠some (k',j):=fun _ _ he=>by cases he
 have s1:=hH.change (i:=bs) (e' := .dead) (m:=hs k) (w' :=w) (AR hb) (.refl _) (EH _) (fun hx=>absurd hx (FA hb)) rfl (fun _ _ _=>rfl) (fun b hb=>by cases hb) (fun _ _ _ _ _ _ hb=>by cases hb) (fun _=>trivial)
 have hl1:=fun n=>BB (q:=(bs,A9.dead)) (AR hb) n
 have hi1:look (DW L (bs,.dead)) i=some (.deep t xss none):=by rw[hl1,AE hib];exact hi
 have AOY:Al (DW L (bs,.dead)) bs:=⟨.dead,by rw[hl1,AA rfl],rfl⟩
 let l' :List Nat:=if (hs k).nil=true then E.ins.l i else (E.ins.l i).erase (hs k).CN
 have GR:∀ b∈l',b∈E.ins.l i:=by
  intro b hb
  show b∈E.ins.l i
  simp only[l'] at hb
  split at hb
  ·exact hb
  ·exact List.mem_of_mem_erase hb
 have eA:∀ b∈E.ins.l i,((hs k).nil=false->b≠(hs k).CN)->b∈l' :=by
  intro b hb CW
  simp only[l']
  split
  ·exact hb
  ·rename_i hx
   exact (List.mem_erase_of_ne (CW (by simpa using hx))).2 hb
 have ASB:(hs k).nil=false->(hs k).CN∉l' :=by
  intro hx hm
  simp only[l',hx,W_,KK] at hm
  exact (d3.mem_erase_iff.1 hm).1 rfl
 obtain⟨MR,AWR⟩:=h7 k _ (O6 hk) (M7 k)
 have hEi:(E.set bs (hs k)).nm i=E.nm i:=E.H5 _ hib
 let E2:Env:=(E.set bs (hs k)).UF i (E.nm i) l'
 have hE2:∀ n,n≠bs->E2.nm n=E.nm n:=by
  intro n hnb
  by_cases UG:n=i
  ·subst UG;exact (Env.FE _ _ _ _).1
  ·exact ((Env.NW _ _ _ UG).1).trans (E.H5 _ hnb)
 have AWS:E2.nm bs=hs k:=((Env.NW _ _ _ (fun he=>hib he.symm)).1).trans (E.E_ _ _)
 have A3N:E2.ins.l i=l' :=(Env.FE _ _ _ _).2
 have A3O:E2.nm i=E.nm i:=(Env.FE _ _ _ _).1
 have jP:∀ b,(A9.deep t xss (some (k,bs))).ow E2 i b↔b∈l' :=fun b=>by rw[A9.GL,A3N]
 have ASA:GI c G w E2 (DW (DW L (bs,.dead)) (i,.deep t xss (some (k,bs)))) (E2.nm i) (E2.ins.l i) t xss (some (k,bs)):=by
  rw[A3O,A3N]
  refine⟨d1,d2, ?_,fun b hb=>d4 b (GR b hb),.inr ⟨h1,eA _ h2 (fun hx he=>(AWR hx).2 he.symm),h3,arr,ty,hs,h4,h5,h6, ?_, ?_, ?_⟩⟩
  ·simp only[l']
   split
   ·exact d3
   ·exact d3.erase _
  ·intro k' xs KA hj
   have HR:k' ≠k:=by rintro rfl;exact hj bs rfl
   have DY:k' <xss.length:=by
    rcases IG k' xss.length with h' |h'
    ·exact h'
    ·rw[IF h'] at KA;cases KA
   obtain⟨q1,q2⟩:=h7 k' xs KA (M7 k')
   exact⟨q1,fun hx=>⟨eA _ (q2 hx).1 (fun hy=>h8 k' k DY hk HR (M7 _) (M7 _) hx hy),(q2 hx).2⟩⟩
  ·intro a b ha hb xV _ _
   exact h8 a b ha hb xV (M7 _) (M7 _)
  ·intro k' j he _
   simp only[A_,DG] at he
   obtain⟨rfl,rfl⟩:=he
   exact⟨AWS.symm,BZ rfl _ AOY⟩
 have s2:AT c G w E2 (DW (DW L (bs,.dead)) (i,.deep t xss (some (k,bs)))):=by
  refine s1.VF (AR hi1) (.refl _) (EH _) (fun _=>by rw[A3O,hEi]) (fun n UG=>Env.NW _ _ _ UG) rfl (fun _ _ _=>rfl)
   (fun b hb=>by have:=d4 b (GR b ((jP b).1 hb));exact⟨this.2.1,this.1⟩)
   (fun n f UG hf b hb he=>s1.inj n i f _ b UG hf hi1 hb (A9.GL.2 (GR b ((jP b).1 he)))) trivial ?_
  intro t'' xs' q he
  cases he
  exact ASA
 have b_:=fun n=>BB (q:=(i,A9.deep t xss (some (k,bs)))) (AR hi1) n
 have hb2:look (DW (DW L (bs,.dead)) (i,.deep t xss (some (k,bs)))) bs=some .dead:=by rw[b_,AE (fun he=>hib he.symm),hl1,AA rfl]
 have hi2:look (DW (DW L (bs,.dead)) (i,.deep t xss (some (k,bs)))) i=some (.deep t xss (some (k,bs))):=by rw[b_,AA rfl]
 have XF:E2.set bs (hs k)=E2:=by
  refine MD (fun n=> ?_) rfl (fun _=>rfl)
  by_cases hnb:n=bs
  ·subst hnb;rw[Env.E_,AWS]
  ·exact Env.H5 _ _ hnb
 have hgk:xss.getD k []=xss[k]:=by simp [List.getD,O6 hk]
 have s3:=s2.change (i:=bs) (e' := .row t (xss.getD k [])) (m:=hs k) (w' :=w) (AR hb2) (.refl _) (EH _) (fun _=>AWS.symm) rfl (fun _ _ _=>rfl)
  (fun b hb=>by
   simp only[A9.own] at hb
   split at hb
   ·cases hb
   ·rename_i hx
    simp only[A_] at hb;subst hb
    have:=d4 _ (AWR (by simpa using hx)).1
    exact⟨this.2.1,this.1⟩)
  (fun n f hnb hf b hb he=>by
   simp only[A9.own] at he
   split at he
   ·cases he
   rename_i hx
   have hx:(hs k).nil=false:=by simpa using hx
   simp only[A_] at he;subst he
   by_cases UG:n=i
   ·subst UG
    rw[hi2] at hf
    simp only[A_] at hf;subst hf
    exact ASB hx ((jP _).1 hb)
   ·rw[b_,AE UG,hl1,AE hnb] at hf
    have UB :f.ow E n (hs k).CN:=by
     refine (A9.iK ?_).1 hb
     exact⟨hE2 n hnb,(Env.NW _ _ _ UG).2⟩
    exact hH.inj n i f _ _ UG hf hi UB (A9.GL.2 (AWR hx).1))
  (fun _=>by
   rw[hgk]
   obtain⟨p1,p2,p3⟩:=MR
   refine⟨p1,p2,p3.imp id ?_⟩
   rintro⟨p4,p5,p6⟩
   have:=d4 _ (AWR p4).1
   exact⟨p4,this.1,this.2.1,p5,p6⟩)
 rw[XF] at s3
 exact⟨E2,s3,hE2,rfl,arr,ty,h4,by rw[AWS];exact h6 k hk⟩
end
end Go.V3
namespace Go.V3
open Go
variable {TB:Tb}
def FH (TB:Tb) (P:Program) (o:Oper) (ρ:Operand->SV) (L:AM) (v:SV) (DU:DN):Prop:=
 ∀ (c:EX TB) (w:World) (E:Env),Hd c w E L->(∀ x,(ρ x).wf E L)->∀ (a:Act) (next:Act->World->Prop) (Q:Exit->Act->World->Prop),execOp a.eval o=execOp (fun x=>(ρ x).den E) o→
  (∀ E' w',Hd c w' E' (AJ L DU)->(∀ n,Al L n->E'.nm n=E.nm n/\Al (AJ L DU) n)->E'.ds=E.ds->v.wf E' (AJ L DU)->next (a.put o.dst (v.den E')) w')->o.wp P a w next Q
variable {v:SV} {L:AM} {ρ:Operand->SV} {o:Oper} {P:Program}
theorem BW {DU:DN}
  (h:∀ (c:EX TB) (w:World) (E:Env),Hd c w E L->(∀ x,(ρ x).wf E L)->∃ (w' :World) (E' :Env) (nx:Next),(execOp (fun x=>(ρ x).den E) o).run P w= .ok nx w' /\(nx= .value (v.den E')\/(nx= .skip/\v=BK))∧
   Hd c w' E' (AJ L DU)/\(∀ n,Al L n->E'.nm n=E.nm n/\Al (AJ L DU) n)/\E'.ds=E.ds/\v.wf E' (AJ L DU)):FH TB P o ρ L v DU:=by
 intro c w E hh hw a next Q ha hn
 obtain⟨w',E',nx,h1,h2,h3,h4,h5,h6⟩:=h c w E hh hw
 show o.upon P a next Q ((execOp a.eval o).run P w)
 rw[ha,h1]
 rcases h2 with rfl|⟨rfl,rfl⟩
 ·exact hn E' w' h3 h4 h5 h6
 ·exact hn E' w' h3 h4 h5 h6
section
variable {P:Program} {AQ:Nat->Option A9} {L:AM}
theorem eH (E:Env) (cs:List SV) (off n:Nat):AN E ((cs.drop off).take n)=BT (AN E cs).toArray off n:=by
 unfold BT
 simp [GM,List.map_take,List.map_drop]
variable {cs:List SV} {E:Env}
theorem YF (h:MT E L cs) (off n:Nat):MT E L ((cs.drop off).take n):=
 B1.2 fun v hv=>B1.1 h v (tJ (AA7 hv))
variable {t ty:TypeId} {d:TypeDesc} {q:TypeInfo} {b off:Nat} {w:World}
theorem o8 {arr:Array Value} {fz:Nat×Nat} (hq:P.info? t=some q) (hd:P.underlying t=some d) (ha:HG P t=true)
  (h:w.heap[b]? =some (.cells arr ty fz)) (hn:off+q.size<=arr.size):(Instr.loadAt t (.pointer (some ⟨b,off,none⟩))).run P w= .ok (.agg (BT arr off q.size).toArray) w:=by
 have:=run_loadCells (P:=P) w h hn
 simp [Instr.loadAt,Instr.sureAddr,loadVar,MV w hd,ha,sizeOf,typeInfo,hq,this]
theorem KU {arr:Array Value} {fz:Nat×Nat} {x:Value} (hd:P.underlying t=some d) (ha:HG P t=false)
  (h:w.heap[b]? =some (.cells arr ty fz)) (hx:arr[off]? =some x):(Instr.loadAt t (.pointer (some ⟨b,off,none⟩))).run P w= .ok x w:=by
 have:w.cell? ⟨b,off,none⟩=some x:=by simp [World.cell?,h,hx]
 simp [Instr.loadAt,Instr.sureAddr,loadVar,MV w hd,ha,this]
theorem Nm.xW (m:Nm) (l:List Value):(m.arr l).size=m.pp.pre.length+l.length+m.pp.post.length:=by simp [Nm.arr];omega
variable {m:Nm}
theorem Nm.AMT (l:List Value) (h1:m.pp.pre=[]) (h2:m.pp.post=[]):m.arr l=l.toArray:=by simp [Nm.arr,h1,h2]
variable {k:Nat}
theorem Nm.ADO (m:Nm) {l:List Value} (hk:k<l.length):(m.arr l)[m.pp.pre.length+k]? =l[k]? :=by
 simp only[Nm.arr,wN]
 rw[I0,SI (by omega),V4 (by omega)]
 congr 1;omega
variable {n:Nat}
theorem Nm.AC4 (m:Nm) {l:List Value} (h:off+n<=l.length):BT (m.arr l) (m.pp.pre.length+off) n=BT l.toArray off n:=by
 apply XA
 intro i
 unfold BT
 rw[n_,n_]
 split
 ·rename_i hi
  have h1:=m.ADO (l:=l) (k:=off+i) (by omega)
  rw[dM,dM]
  rw[<-PC] at h1
  simpa using h1
 ·rfl
theorem Nm.AWT (m:Nm) {l:List Value} (hk:k<l.length) (v:Value):(m.arr l).setIfInBounds (m.pp.pre.length+k) v=m.arr (l.set k v):=by
 simp only[Nm.arr,List.setIfInBounds_toArray]
 rw[I0,ARA _ _ (by omega),List.set_append_left _ _ (by omega),I0]
 congr 4;omega
variable {a:Ty}
theorem A0V {xs:List a.T} (h:k<xs.length):xs[k]? =some (gd a xs k):=by
 rw[gd,O6 h]
 simp [List.getD,O6 h]
theorem AH4 (arr:Array Value) (p sz off n:Nat) (h:off+n<=sz):((BT arr p sz).drop off).take n=BT arr (p+off) n:=by
 apply XA
 intro j
 rw[n_,CP]
 split
 ·rw[dM,CP,ab,PC]
 ·rfl
theorem uB {arr:Array Value} {p:Nat} (h:(BT arr p n).length=n) (hn:0<n):p+n<=arr.size:=by
 unfold BT at h
 simp at h
 omega
variable {i:Nat} {G:Nat->Prop} {c:EX TB}
theorem AMU (hG:AT c G w E L) {xs:List a.T} (hl:look L i=some (.row a xs)\/look L i=some (.shr a xs)) (hk:k<(E.nm i).len) (hn:(E.nm i).nil=false):
  k<xs.length/\∃ arr ty fz,w.heap[(E.nm i).CN]? =some (.cells arr ty fz)/\Rp G w a (gd a xs k) (BT arr ((E.nm i).off+k*a.sz) a.sz)/\(E.nm i).off+k*a.sz+a.sz<=arr.size:=by
 have fin:∀ (arr:Array Value) (ty:TypeId) (fz:Nat×Nat),k<xs.length->w.heap[(E.nm i).CN]? =some (.cells arr ty fz)->RowsIn (Rp G w a) a.sz arr (E.nm i).off xs→
   k<xs.length/\∃ arr ty fz,w.heap[(E.nm i).CN]? =some (.cells arr ty fz)/\Rp G w a (gd a xs k) (BT arr ((E.nm i).off+k*a.sz) a.sz)/\(E.nm i).off+k*a.sz+a.sz<=arr.size:=by
  intro arr ty fz n7 h1 h2
  have h3:=h2 k _ (A0V n7)
  exact⟨n7,arr,ty,fz,h1,h3,uB h3.length (AJK a)⟩
 rcases hl with hl|hl
 ·obtain⟨h1,h2,h3⟩:=hG.MQ i _ hl
  rcases h3 with ⟨h4,_⟩|⟨_,_,_,_,arr,ty,h5,_,h6⟩
  ·rw[hn] at h4;cases h4
  ·exact fin arr ty _ (by omega) h5 h6
 ·obtain⟨h1,_,h3⟩:=hG.MQ i _ hl
  rcases h3 with rfl|⟨_,_,arr,ty,fz,h5,h6⟩
  ·simp at h1;omega
  ·exact fin arr ty fz (by omega) h5 h6
variable {bs:Nat} {x:Operand}
theorem AC5 (GJ:o.op= .load t x) (hq:P.info? t=some q) (hd:P.underlying t=some d) {sz:Nat} (hx:ρ x= .el i k sz off)
  {xs:List a.T} (hl:look L i=some (.row a xs)\/look L i=some (.shr a xs)) (CL:∀ n e,AQ n=some e->look L n=some e) {DU:DN}
  (h:mT AQ (HG P t) q.size a xs k sz off bs pr=some (v,DU)):FH TB P o ρ L v DU:=by
 unfold mT at h
 split at h
 rotate_left
 ·cases h
 rename_i hc
 obtain⟨rfl,b8,D8⟩:=hc
 refine BW fun c w E hh hw=> ?_
 obtain⟨G,hG⟩:=hh
 have XW:=hw x
 rw[hx] at XW
 obtain⟨NX,hk,hn⟩:=XW
 obtain⟨n7,arr,ty,fz,h1,h2,h3⟩:=AMU hG hl hk hn
 obtain⟨ms,h4,h5⟩:=h2.out
 have ABY:=fun j hj=>CL _ _ (DA D8 j hj)
 obtain⟨k1,k2⟩:=hG.oP (CA false a (gd a xs k)) (n:=bs) (ms:=ms) (fun j hj=>ABY j (by rw[BJ] at hj;exact hj)) (by
   intro j e he
   have:=h5 j e he
   cases e <;> first|exact this|exact this.elim)
  (by rw[iL];simp) (by rw[iL];simp)
 rw[BJ] at k1 k2
 have hnm:∀ n,Al L n->(E.put bs a.HH ms).nm n=E.nm n/\Al (AJ L (C9 bs (CA false a (gd a xs k)))) n:=by
  intro n hn
  have hb:¬(bs<=n/\n<bs+a.HH):=by
   intro hx
   have:=ABY (n-bs) (by omega)
   have e:bs+(n-bs)=n:=by omega
   rw[e] at this
   exact FA this hn
  refine⟨Env.XR _ _ _ _ (by omega), ?_⟩
  obtain⟨e,tW,he2⟩:=hn
  exact⟨e,by rw[k2,AE hb];exact tW,he2⟩
 have vT:MT (E.put bs a.HH ms) (AJ L (C9 bs (CA false a (gd a xs k)))) (I1 a (gd a xs k) bs):=by
  refine xO _ _ _ fun j hj=> ?_
  have DY:j<(CA false a (gd a xs k)).length:=by rw[BJ];exact hj
  refine⟨(CA false a (gd a xs k))[j], ?_,YY (O6 DY)⟩
  rw[k2,AA ⟨by omega,by omega⟩]
  have e:bs+j-bs=j:=by omega
  rw[e,O6 DY]
 have mR:AN (E.put bs a.HH ms) (I1 a (gd a xs k) bs)=BT arr ((E.nm i).off+k*a.sz) a.sz:=by
  rw[h4,XQ]
  exact IH _ _ fun j hj=>Env.mO _ _ _ _ hj
 have AZ0:(E.nm i).off+(k*a.sz+off)=(E.nm i).off+k*a.sz+off:=by omega
 split at h
 ·rename_i Y7
  simp only[pr,A_,DG] at h
  obtain⟨rfl,rfl⟩:=h
  refine⟨w,E.put bs a.HH ms,_, ?_,.inl rfl,⟨G,k1⟩,hnm,rfl,YF vT _ _⟩
  simp only[execOp,GJ,hx,SV.den]
  refine C_ ?_
  rw[AZ0,o8 hq hd Y7 h1 (by omega),eH,mR]
  rw[<-AH4 arr _ a.sz off q.size b8]
  unfold BT
  simp
 ·rename_i Y7
  split at h
  ·rename_i u hu
   simp only[pr,A_,DG] at h
   obtain⟨rfl,rfl⟩:=h
   refine⟨w,E.put bs a.HH ms,_, ?_,.inl rfl,⟨G,k1⟩,hnm,rfl,B1.1 vT u (bZ hu)⟩
   simp only[execOp,GJ,hx,SV.den]
   refine C_ ?_
   have DY:off<a.sz:=by
    rcases IG off (I1 a (gd a xs k) bs).length with h' |h'
    ·rwa [FI] at h'
    ·rw[IF h'] at hu;cases hu
   have YW:arr[(E.nm i).off+k*a.sz+off]? =some (u.den (E.put bs a.HH ms)):=by
    have:=KL (fun l=>l[off]?) mR
    simp only[F_,hu,dO,CP,AA DY] at this
    exact this.symm
   rw[AZ0]
   exact KU hd Y7 h1 YW
  ·cases h
theorem ASC (GJ:o.op= .load t x) (hd:P.underlying t=some d) (Y7:HG P t=false) {sz:Nat} (hx:ρ x= .el i k sz off)
  {xss:List (List a.T)} {h' :Option (Nat×Nat)} (hl:AQ i=some (.deep a xss h')) (CL:∀ n e,AQ n=some e->look L n=some e) {DU:DN}
  {deep:Bool} (h:AC0 AQ deep a xss h' i k sz off bs pr=some (v,DU)):FH TB P o ρ L v DU:=by
 unfold AC0 at h
 split at h
 rotate_left
 ·cases h
 rename_i hc
 obtain⟨rfl,rfl⟩:=hc
 split at h
 ·rename_i D8
  have D8:=(IZ _ _ ▸ D8:JQ AQ bs 1=true/\_).1
  split at h
  rotate_left
  ·cases h
  rename_i ys u hcl
  simp only[pr,A_,DG] at h
  obtain⟨rfl,rfl⟩:=h
  have MS:look L bs=some .MB:=CL _ _ (by have:=DA D8 0 (by omega);simpa using this)
  refine BW fun c w E hh hw=> ?_
  obtain⟨G,hG⟩:=hh
  have XW:=hw x
  rw[hx] at XW
  obtain⟨NX,hk,hn⟩:=XW
  have hlen:=(hG.dp i _ _ _ (CL _ _ hl)).len
  obtain⟨E1,c1,c2,c3,c4,c5,c6,c7⟩:=iT CL hG hl hcl
  obtain⟨E2,t1,t2,t3,arr,ty,t4,t5⟩:=c1.AYZ c4 (c6 bs MS) (by rw[c2];exact hn) (by omega:k<ys.length)
  rw[<-BS] at t1
  have AK2:=(hG.dp i _ _ _ (CL _ _ hl)).off
  have DY:=AR MS
  have ADP:∀ n,Al L n->Al (AJ L (u++ [(bs,.dead),(i,.deep a ys (some (k,bs))),(bs,.row a (ys.getD k []))])) n:=by
   intro n hn
   rw[BS]
   exact BZ rfl n (BZ rfl n (BZ rfl n (c5 n hn)))
  refine⟨w,E2,_, ?_,.inl rfl,⟨G,t1⟩,fun n hn=>⟨?_,ADP n hn⟩,t3.trans c3, ?_⟩
  ·simp only[execOp,GJ,hx,SV.den]
   refine C_ ?_
   have e:(E.nm i).off+(k*1+0)=k:=by omega
   rw[e]
   rw[c2] at t4
   exact KU hd Y7 t4 t5
  ·rw[t2 n (fun he=>FA (he ▸ MS) hn),c2]
  ·refine⟨.row a (ys.getD k []), ?_,rfl⟩
   rw[BS]
   show look (DW (DW (DW (AJ L u) (bs,.dead)) (i,.deep a ys (some (k,bs)))) (bs,.row a (ys.getD k []))) bs=_
   rw[BB (by rw[GQ,GQ,PR];exact DY),AA rfl]
 ·split at h
  rotate_left
  ·cases h
  rename_i k0 j _
  split at h
  rotate_left
  ·cases h
  rename_i HR
  subst HR
  simp only[pr,A_,DG] at h
  obtain⟨rfl,rfl⟩:=h
  refine BW fun c w E hh hw=> ?_
  obtain⟨G,hG⟩:=hh
  have XW:=hw x
  rw[hx] at XW
  obtain⟨NX,hk,hn⟩:=XW
  obtain⟨d1,d2,d3,d4,d5⟩:=hG.dp i _ _ _ (CL _ _ hl)
  rcases d5 with ⟨h1,_⟩|⟨h1,h2,h3,arr,ty,hs,h4,h5,h6,h7,h8,h9⟩
  ·rw[hn] at h1;cases h1
  have xK:k<xss.length:=by omega
  obtain⟨q1,q2⟩:=h9 k j rfl xK
  refine⟨w,E,_, ?_,.inl rfl,⟨G,hG⟩,fun n hn=>⟨rfl,hn⟩,rfl,q2⟩
  simp only[execOp,GJ,hx,SV.den]
  refine C_ ?_
  have e:(E.nm i).off+(k*1+0)=k:=by omega
  rw[e,←q1]
  exact KU hd Y7 h4 (h6 k xK)
theorem AP9 (GJ:o.op= .load t x) (hd:P.underlying t=some d) (Y7:HG P t=false) (hx:ρ x= .el i k 2 off) {t1 t2:Ty} {xs:List (List t1.T×List t2.T)}
  (hl:AQ i=some (.tree t1 t2 xs)) (CL:∀ n e,AQ n=some e->look L n=some e) (AK2:off<2):FH TB P o ρ L (.tsl i k off) []:=by
 refine BW fun c w E hh hw=> ?_
 have v8 :=hh
 obtain⟨G,hG⟩:=hh
 have htr:F3 c G w (E.nm i) t1 t2 xs:=hG.MQ i _ (CL _ _ hl)
 have XW:=hw x
 rw[hx] at XW
 obtain⟨NX,hk,hn⟩:=XW
 rcases htr.cs with ⟨h1,_⟩|⟨h1,h2,h3,arr,ty,h4,h5,h6,h7,h8,h9⟩
 ·rw[hn] at h1;cases h1
 have KA :=hk
 rw[htr.len] at hk
 have hg:=h6 (k*2+off) (by omega)
 refine⟨w,E,_, ?_,.inl rfl,v8,fun n hn=>⟨rfl,hn⟩,rfl,⟨NX,KA,AK2⟩⟩
 simp only[execOp,GJ,hx,SV.den]
 refine C_ ?_
 rw[htr.off,NV]
 exact KU hd Y7 h4 hg
theorem ASD (GJ:o.op= .load t x) (CL:∀ n e,AQ n=some e->look L n=some e) {DU:DN}
  {deep:Bool} (h:AC1 P AQ deep t (ρ x) bs pr=some (v,DU)):FH TB P o ρ L v DU:=by
 unfold AC1 at h
 split at h
 rotate_left
 ·cases h
 rename_i q d hq hd
 split at h
 ·rename_i i off hx
  split at h
  ·rename_i cs hl
   have AGT:∀ (c:EX TB) (w:World) (E:Env),Hd c w E L->(E.nm i).off=(E.nm i).pp.pre.length/\(∃ ty,w.heap[(E.nm i).CN]? =some (.cells ((E.nm i).arr (AN E cs)) ty (0,0)))/\MT E L cs:=by
    rintro c w E ⟨G,hG⟩
    obtain⟨h1,h2,h3,h4,h5,h6⟩:=hG.MQ i _ (CL _ _ hl)
    exact⟨h2,h5,h6⟩
   split at h
   ·rename_i Y7
    split at h
    ·rename_i b8
     simp only[pr,A_,DG] at h
     obtain⟨rfl,rfl⟩:=h
     refine BW fun c w E hh hw=> ?_
     obtain⟨h2,⟨ty,h5⟩,h6⟩:=AGT c w E hh
     refine⟨w,E,_, ?_,.inl rfl,hh,fun n hn=>⟨rfl,hn⟩,rfl,YF h6 _ _⟩
     simp only[execOp,GJ,hx,SV.den]
     refine C_ ?_
     rw[h2,o8 hq hd Y7 h5 (by rw[Nm.xW,AU];omega),Nm.AC4 _ (by rw[AU];omega),eH]
    ·cases h
   ·rename_i Y7
    split at h
    ·rename_i u hu
     simp only[pr,A_,DG] at h
     obtain⟨rfl,rfl⟩:=h
     refine BW fun c w E hh hw=> ?_
     obtain⟨h2,⟨ty,h5⟩,h6⟩:=AGT c w E hh
     refine⟨w,E,_, ?_,.inl rfl,hh,fun n hn=>⟨rfl,hn⟩,rfl,B1.1 h6 u (bZ hu)⟩
     simp only[execOp,GJ,hx,SV.den]
     refine C_ ?_
     rw[h2]
     exact KU hd Y7 h5 (by rw[Nm.ADO _ (by rw[AU];exact (AA4.1 hu).1)];simp [F_,hu])
    ·cases h
  ·rename_i j hl
   split at h
   ·cases h
   ·rename_i Y7
    split at h
    rotate_left
    ·cases h
    rename_i h0
    subst h0
    simp only[pr,A_,DG] at h
    obtain⟨rfl,rfl⟩:=h
    refine BW fun c w E hh hw=> ?_
    have v8 :=hh
    obtain⟨G,hG⟩:=hh
    obtain⟨q1,⟨arr,ty,fz,q2,q3⟩,q4⟩:=hG.MQ i _ (CL _ _ hl)
    refine⟨w,E,_, ?_,.inl rfl,v8,fun n hn=>⟨rfl,hn⟩,rfl,q4⟩
    simp only[execOp,GJ,hx,SV.den]
    refine C_ ?_
    rw[P6,P6]
    exact KU hd Y7 (by rw[hG.old _ q1];exact q2) q3
  ·cases h
 ·rename_i i k sz off hx
  split at h
  ·rename_i a xs hl
   exact AC5 GJ hq hd hx (.inl (CL _ _ hl)) CL h
  ·rename_i a xs hl
   exact AC5 GJ hq hd hx (.inr (CL _ _ hl)) CL h
  ·rename_i a xss hh hl
   split at h
   ·cases h
   ·rename_i Y7
    exact ASC GJ hd Y7 hx hl CL h
  ·rename_i t1 t2 xs hl
   split at h
   ·cases h
   ·rename_i Y7
    split at h
    rotate_left
    ·cases h
    rename_i hc
    obtain⟨rfl,AK2⟩:=hc
    simp only[pr,A_,DG] at h
    obtain⟨rfl,rfl⟩:=h
    exact AP9 GJ hd Y7 hx hl CL AK2
  ·cases h
 ·cases h
theorem AC6 {k:IntKind}:∀ {l:List Value} {i:Nat},AGW k l=true->i<l.length->∃ n,l[i]? =some (.int k n)
 | [],i,_,h=>by simp at h
 | .int k' n::r,0,h,_=>by
  simp only[AGW,IZ,LD] at h
  exact⟨n,by rw[h.1];rfl⟩
 | .int k' n::r,i+1,h,hi=>by
  simp only[AGW,IZ] at h
  simpa using AC6 h.2 (by simpa using hi)
theorem ASE {α:Type}:∀ {l:List (Nat×α)} {k:Nat} {x:α},lk l k=some x->(k,x)∈l
 | [],_,_,h=>by cases h
 |(a,b)::r,k,x,h=>by
  simp only[lk] at h
  split at h
  ·rename_i he
   simp only[A_] at h
   subst he h;simp
  ·exact YB _ (ASE h)
variable {cx:Cx}
theorem ASF (GJ:o.op= .load t x) {g:Nat} (hx:ρ x= .ptr (some ⟨g,off,none⟩)) {DU:DN}
  (h:loadT P cx t g off pr=some (v,DU)):FH cx.tb P o ρ L v DU:=by
 unfold loadT at h
 split at h
 rotate_left
 ·cases h
 rename_i arr k q hl hu hq
 split at h
 ·cases h
 rename_i hk
 split at h
 rotate_left
 ·cases h
 rename_i hi
 split at h
 rotate_left
 ·cases h
 rename_i AK2
 simp only[pr,A_,DG] at h
 obtain⟨rfl,rfl⟩:=h
 obtain⟨n,hn⟩:=AC6 (i:=off) hi (by simpa using AK2)
 refine BW fun c w E hh hw=> ?_
 obtain⟨G,hG⟩:=hh
 obtain⟨o1,ty,fz,o2⟩:=hG.tab _ (ASE hl)
 have hb:w.heap[g]? =some (.cells arr ty fz):=by rw[hG.old g o1];exact o2
 have YW:arr[off]? =some (.int k n):=by rw[<-mH];exact hn
 have Y7:HG P t=false:=by unfold HG;rw[hu]
 refine⟨w,E,_, ?_,.inl rfl,⟨G,hG⟩,fun n hn=>⟨rfl,hn⟩,rfl,trivial⟩
 simp only[execOp,GJ,hx,SV.den]
 refine C_ ?_
 rw[KU hu Y7 hb YW]
 simp [AWM,YW]
theorem ADQ {vs:List SV} (h:vs.all AC2=true):Flat (AN E vs):=by
 induction vs with
 |nil=>intro v hv;cases hv
 |cons x r ih=>
  simp only[xB,IZ] at h
  intro v hv
  rcases GH.1 hv with rfl|hv
  ·cases x with
   |raw u=>cases u <;> simp_all [AC2,SV.den]
   |_=>simp_all [AC2,SV.den]
  ·exact ih h.2 v hv
theorem aB (E:Env) (vs:List SV):∀ (cs:List SV) (off:Nat),(AN E (EB cs off vs)).toArray=vW (AN E cs).toArray off (AN E vs):=by
 induction vs with
 |nil=>intros;rfl
 |cons v r ih=>
  intro cs off
  simp only[EB,AN,vW]
  rw[ih,dU]
  simp
theorem AK3 (E:Env) (m:Nm) (vs:List SV):∀ (cs:List SV) (off:Nat),off+vs.length<=cs.length->m.arr (AN E (EB cs off vs))=vW (m.arr (AN E cs)) (m.pp.pre.length+off) (AN E vs):=by
 induction vs with
 |nil=>intros;rfl
 |cons v r ih=>
  intro cs off h
  simp only[NU] at h
  simp only[EB,AN,vW]
  rw[ih _ _ (by rw[EG];omega),dU,Nm.AWT _ (by rw[AU];omega),PC]
theorem mV {vs:List SV}:∀ {cs:List SV} {off:Nat} {v:SV},v∈EB cs off vs->v∈cs\/v∈vs:=by
 induction vs with
 |nil=>intro cs off v h;exact .inl h
 |cons x r ih=>
  intro cs off v h
  rcases ih h with h|h
  ·rcases ALJ h with h|h
   ·exact .inl h
   ·exact .inr (by simp [h])
  ·exact .inr (by simp [h])
theorem RW (h:v.wf E L):MT E L (BN v):=by
 cases v with
 |agg cs=>exact h
 |_=>exact⟨h,trivial⟩
variable {w':World}
theorem SW (hq:P.info? t=some q) (hr:OU v=false) (hl:(BN v).length=q.size)
  (hst:(storeCells ⟨b,off,none⟩ (AN E (BN v)) 0).run P w= .ok () w'):(Instr.storeAt t (.pointer (some ⟨b,off,none⟩)) (v.den E)).run P w= .ok () w' :=by
 have YW:=mK (E:=E) v hr
 simp only[Instr.storeAt,Instr.sureAddr,storeVar,sizeOf,typeInfo,Sem.run_bind,Sem.run_pure,Result.andThen]
 simp [hq,YW,AU,hl,hst]
theorem AT.setRow (h:AT c G w E L) {xs ys:List a.T} (hl:look L i=some (.row a xs)) (hn:(E.nm i).nil=false) (hlen:ys.length=xs.length)
  (hr:Rest w w') (hs:w'.heap.size=w.heap.size) (hw:∀ j,j≠(E.nm i).CN->w'.heap[j]? =w.heap[j]?)
  (ZZ:∀ arr ty,w.heap[(E.nm i).CN]? =some (.cells arr ty ((E.nm i).fr arr.size))->(E.nm i).off+(E.nm i).cap*a.sz<=arr.size->RowsIn (Rp G w a) a.sz arr (E.nm i).off xs->∃ Z8,w'.heap[(E.nm i).CN]? =some (.cells Z8 ty ((E.nm i).fr arr.size))/\Z8.size=arr.size/\RowsIn (Rp G w a) a.sz Z8 (E.nm i).off ys):
  AT c G w' E (DW L (i,.row a ys)):=by
 have C6:=h.MQ i _ hl
 obtain⟨h1,h2,h3⟩:=C6
 rcases h3 with ⟨h4,_⟩|⟨_,h5,h6,h7,arr,ty,h8,h9,h10⟩
 ·rw[hn] at h4;cases h4
 obtain⟨Z8,k1,k2,k3⟩:=ZZ arr ty h8 h9 h10
 have XF:E.set i (E.nm i)=E:=by
  refine MD (fun k=> ?_) rfl (fun _=>rfl)
  by_cases hk:k=i
  ·subst hk;rw[Env.E_]
  ·exact E.H5 _ hk
 have hGb:∀ b,G b->w'.heap[b]? =w.heap[b]? :=fun b hb=>hw b (fun he=>h5 (he ▸ hb))
 have:=h.change (i:=i) (e' := .row a ys) (m:=E.nm i) (w' :=w') (AR hl) hr (by omega) (fun _=>rfl) rfl
  (fun b _ hb=>hw b (fun he=>hb (by simp [A9.own,hn,he])))
  (fun b hb=>by simp only[A9.own,hn,W_,KK,A_] at hb;subst hb;exact⟨h6,h5⟩)
  (fun k f hk hf b hb he=>h.inj k i f (.row a xs) b hk hf hl hb (.inl (by simpa [A9.own,hn] using he)))
  (fun _=>⟨by rw[h1,hlen],h2,.inr ⟨hn,h5,h6,by rw[hlen];exact h7,Z8,ty,by rw[k2];exact k1,by rw[k2];exact h9,k3.imp fun x vs hx=>Rp.mono hGb (fun _ h=>h) a x vs hx⟩⟩)
 rw[XF] at this
 exact this
theorem mW:∀ (n:Nat) (cs:List SV) (xs:List a.T) (u:DN),bP AQ a n cs=some (xs,u)->MT E L cs->oR .jO AQ E c G w [] u []→
  xs.length=n/\cs.length=n*a.sz/\RowsIn (Rp G w a) a.sz (AN E cs).toArray 0 xs:=by
 intro n
 induction n with
 |zero=>
  intro cs xs u h _ _
  cases cs with
  |nil=>simp only[bP,A_,DG] at h;obtain⟨rfl,rfl⟩:=h;exact⟨rfl,by simp,fun i x hx=>by simp at hx⟩
  |cons v r=>simp [bP] at h
 |succ n ih=>
  intro cs xs u h hw hk
  simp only[bP] at h
  split at h
  rotate_left
  ·cases h
  rename_i x r nes u1 hp
  split at h
  rotate_left
  ·cases h
  rename_i xs' u2 hq
  simp only[A_,DG] at h
  obtain⟨rfl,rfl⟩:=h
  obtain⟨c1,rfl,l1,_,hd⟩:=KB E _ _ _ _ _ _ hp
  have hw1:MT E L c1:=B1.2 fun v hv=>B1.1 hw v (FG.2 (.inl hv))
  have hw2:MT E L r:=B1.2 fun v hv=>B1.1 hw v (FG.2 (.inr hv))
  obtain⟨i1,i2,i3⟩:=ih _ _ _ hq hw2 (hk.sub (by simp) (by simp;intros;simp [*]) (by simp))
  have hrp:Rp G w a x (AN E c1):=by
   rw[hd]
   refine Rp.mk _ _ _ fun k e he=> ?_
   obtain⟨g1,_⟩:=YX _ _ _ _ _ _ hp
   rcases g1 k false e he with rfl|⟨t,ys,ne,hs,CW,rfl⟩|⟨t,s,ys,ne,uk,hs,CW,hsc,GR,rfl⟩
   ·trivial
   ·have hnf:D4 E nes k=ne.nm E:=by simp [D4,CW]
    rw[hnf]
    exact hs.ok hk.shr
   have hnf:D4 E nes k=ne.nm E:=by simp [D4,CW]
   rw[hnf]
   refine rN hs (by simp) (B1.1 hw s hsc) hk.shr ?_
   intro i t' zs e' hnn hl hoe hx
   refine hk.jO i t' zs e' hl hoe (.inr ?_)
   rcases hx with hx|hx
   ·cases hx
   ·exact FG.2 (.inl (GR _ hx))
  refine⟨by simp [i1],by simp [l1,i2];rw[SL];omega, ?_⟩
  intro i y hy
  cases i with
  |zero=>
   simp only[MU,A_] at hy
   subst hy
   have:BT (AN E (c1++r)).toArray (0+0*a.sz) a.sz=AN E c1:=by
    unfold BT
    rw[G7]
    simp [AU,l1]
   rw[this];exact hrp
  |succ i=>
   simp only[AD8] at hy
   have:=i3 i y hy
   have e:BT (AN E (c1++r)).toArray (0+(i+1)*a.sz) a.sz=BT (AN E r).toArray (0+i*a.sz) a.sz:=by
    unfold BT
    rw[G7]
    simp only[NV]
    have:(i+1)*a.sz=(AN E c1).length+i*a.sz:=by rw[AU,l1,SL];omega
    rw[this]
    simp
   rw[e];exact this
variable {u:DN}
theorem lV (md:PM):oR md I7 E c G w [] u []:=
 ⟨fun i t ys h=>by simp [I7] at h,fun i t ys e h=>by simp [I7] at h,fun i t ys h=>by simp [I7] at h,fun i t ys h=>by simp [I7] at h,fun i t1 t2 ys h=>by simp [I7] at h,fun i cs h=>by simp [I7] at h⟩
theorem AK4:∀ (t:Ty) (x:t.T) (j:Nat) (e:A9),(CA false t x)[j]? =some e->(∃ (a:Ty) (xs:List a.T),e= .shr a xs)\/e= .dead:=by
 intro t
 induction t with
 |pair a b W5 W6=>
  intro x j e he
  simp only[CA] at he
  by_cases hk:j<(CA false a x.1).length
  ·rw[V4 hk] at he;exact W5 _ _ _ he
  ·rw[SI (by omega)] at he;exact W6 _ _ _ he
 |slice a=>
  intro x j e he
  cases j with
  |zero=>simp only[CA,MU,A_] at he;exact .inl ⟨_,_,he.symm⟩
  |succ j=>simp [CA] at he
 |sl a=>
  intro x j e he
  cases j with
  |zero=>simp only[CA,MU,A_] at he;exact .inl ⟨_,_,he.symm⟩
  |succ j=>simp [CA] at he
 |nf=>
  intro x j e he
  cases j with
  |zero=>simp only[CA,MU,A_] at he;exact .inr he.symm
  |succ j=>simp [CA] at he
 |_=>intro x j e he;simp [CA] at he
theorem AC7 {G1:Nat->Prop} {z:a.T} {nes:List NE} (hp:FY .jO AQ a cs=some (z,[],nes,u))
  (t9:HJ c G1 w ⟨a,true,false,false⟩ z (D4 E nes)):Rp G1 w a z (AN E cs):=by
 obtain⟨c1,e1,_,_,hd⟩:=KB E _ _ _ _ _ _ hp
 rw[FP] at e1;subst e1
 rw[hd]
 refine Rp.mk _ _ _ fun k e he=> ?_
 have:=t9.1 k e he
 simp only[CT.pn,NV] at this
 rcases AK4 a z k e he with ⟨a',xs,rfl⟩|rfl
 ·exact this
 ·trivial
theorem xX:∀ (l cs:List SV) (off p:Nat),(EB cs off l)[p]? =if off<=p/\p<off+l.length/\p<cs.length then l[p-off]? else cs[p]?
 | [],cs,off,p=>by simp only[EB,SK];rw[af]
 |v::r,cs,off,p=>by
  simp only[EB,NU]
  rw[xX r,EG]
  by_cases h:off=p
  ·subst h
   by_cases h2:off<cs.length
   ·rw[af,ab,ALP h2];simp
   ·rw[af,af,IF (by simp;omega),IF (by omega)]
  ·rw[ALU h]
   by_cases h2:off+1<=p/\p<off+1+r.length/\p<cs.length
   ·rw[AA h2,ab,show p-off=(p-(off+1))+1 by omega];simp
   ·rw[AE h2,af]
theorem AWU:∀ (a:Ty) (x:a.T) (n:Nat) (v:SV),v∈I1 a x n->AS5 v=true->v.wf E L:=by
 intro a
 induction a with
 |pair a b W5 W6=>
  intro x n v hv hn
  rcases FG.1 hv with hv|hv
  ·exact W5 _ _ _ hv hn
  ·exact W6 _ _ _ hv hn
 |slice a=>intro x n v hv hn;simp only[I1,GG] at hv;subst hv;cases hn
 |sl a=>intro x n v hv hn;simp only[I1,GG] at hv;subst hv;cases hn
 |nf=>intro x n v hv hn;simp only[I1,GG] at hv;subst hv;cases hn
 |_=>intro x n v hv hn;simp only[I1,GG] at hv;subst hv;trivial
theorem ASG:∀ (a:Ty) (x:a.T) (n p:Nat) (v:SV) (hs:Nat->Nm),(I1 a x n)[p]? =some v->AS5 v=true->(enc a x hs)[p]? =some (v.den E):=by
 intro a
 induction a with
 |pair a b W5 W6=>
  intro x n p v hs hv hn
  have hl:(enc a x.1 hs).length=(I1 a x.1 n).length:=by rw[FI,AJJ]
  simp only[I1,enc] at hv ⊢
  rcases IG p (I1 a x.1 n).length with hp|hp
  ·rw[V4 hp] at hv
   rw[V4 (by omega)]
   exact W5 _ _ _ _ _ hv hn
  ·rw[SI hp] at hv
   rw[SI (by omega),hl]
   exact W6 _ _ _ _ _ hv hn
 |slice a=>
  intro x n p v hs hv hn
  cases p with
  |zero=>simp only[I1,MU,A_] at hv;subst hv;cases hn
  |succ p=>simp [I1] at hv
 |sl a=>
  intro x n p v hs hv hn
  cases p with
  |zero=>simp only[I1,MU,A_] at hv;subst hv;cases hn
  |succ p=>simp [I1] at hv
 |nf=>
  intro x n p v hs hv hn
  cases p with
  |zero=>simp only[I1,MU,A_] at hv;subst hv;cases hn
  |succ p=>simp [I1] at hv
 |_=>
  intro x n p v hs hv hn
  cases p with
  |zero=>simp only[I1,MU,A_] at hv;subst hv;rfl
  |succ p=>simp [I1] at hv
variable {y:Operand}
theorem AK5 (GJ:o.op= .store t x y) (hq:P.info? t=some q) {sz:Nat} (hx:ρ x= .el i k sz off)
  {xs:List a.T} (hl:AQ i=some (.row a xs)) (CL:∀ n e,AQ n=some e->look L n=some e) {DU:DN}
  (h:vX AQ q.size a xs i k sz off (ρ y) pr=some (v,DU)):FH TB P o ρ L v DU:=by
 unfold vX at h
 split at h
 rotate_left
 ·cases h
 rename_i hc
 obtain⟨rfl,b8,hlen,ASH⟩:=hc
 have step:∀ (c:EX TB) (w:World) (E:Env) (G:Nat->Prop) (L' :AM),AT c G w E L' ->look L' i=some (.row a xs)->(∀ x,(ρ x).wf E L)->∀ (z:a.T) (cells:List Value),Rp G w a z cells->Flat (AN E (BN (ρ y)))→
   (∀ (arr:Array Value) (ty:TypeId) (fz:Nat×Nat),w.heap[(E.nm i).CN]? =some (.cells arr ty fz)->Rp G w a (gd a xs k) (BT arr ((E.nm i).off+k*a.sz) a.sz)->vW arr ((E.nm i).off+k*a.sz+off) (AN E (BN (ρ y)))=vW arr ((E.nm i).off+k*a.sz) cells)→
   ∃ w',(execOp (fun x=>(ρ x).den E) o).run P w= .ok .skip w' /\AT c G w' E (DW L' (i,.row a (xs.set k z))):=by
  intro c w E G L' hG lU hw z cells hz AH5 hsp
  have XW:=hw x
  rw[hx] at XW
  obtain⟨NX,hk,hn⟩:=XW
  obtain⟨n7,arr,ty0,fz,h1,h2,h3⟩:=AMU hG (.inl lU) hk hn
  obtain⟨e1,e2,e3⟩:=hG.MQ i _ lU
  rcases e3 with ⟨h4,_⟩|⟨_,h5,h6,h7,AK6,ty,h8,h9,h10⟩
  ·rw[hn] at h4;cases h4
  rw[h8] at h1
  simp only[A_,Obj.cells.injEq] at h1
  obtain⟨rfl,rfl,rfl⟩:=h1
  have RX:(E.nm i).off+(k*a.sz+off)=(E.nm i).off+k*a.sz+off:=by omega
  obtain⟨w',s1,s2,s3,s4,s5⟩:=LG (P:=P) (off:=(E.nm i).off+k*a.sz+off) (AN E (BN (ρ y))) w AK6 0 (fun j hj=>(E.nm i).ADA hj) h8 AH5 (by rw[AU,hlen];omega)
  rw[P6,hsp AK6 ty _ h8 h2] at s4
  refine⟨w', ?_, ?_⟩
  ·simp only[execOp,GJ,hx,SV.den,Sem.run_bind]
   rw[RX,SW hq ASH hlen s1]
   rfl
  ·refine hG.setRow lU hn (by simp) s2 s3 s5 ?_
   intro A6A ty3 q1 q2 q3
   rw[h8] at q1
   simp only[A_,Obj.cells.injEq] at q1
   obtain⟨rfl,rfl,_⟩:=q1
   refine⟨_,s4,SU _ _ _, ?_⟩
   refine q3.set hz hz.length n7 ?_
   have:=wX a.sz h7
   omega
 split at h
 ·rename_i A0W
  obtain⟨rfl,hn⟩:=A0W
  split at h
  rotate_left
  ·cases h
  rename_i z nes u hp
  split at h
  rotate_left
  ·cases h
  rename_i hu
  simp only[pr,A_,DG] at h
  obtain⟨rfl,rfl⟩:=h
  refine BW fun c w E hh hw=> ?_
  obtain⟨G,hG⟩:=hh
  have hct:KC .jO AQ [⟨a,true,false,false⟩] [.agg (BN (ρ y))]=some ⟨HT.mk ⟨a,true,false,false⟩ [] z (),nes++ [],u++ [],[]++ [],nes.filterMap NE.name++ []⟩:=by
   simp [KC,QE,hp]
  obtain⟨G1,G2,t1,t2,t3,t4,t5,t6,t7,t8,t9,t10,t11⟩:=hG.take (md:= .jO) (by simp) CL hct (by simp [okA]) ⟨RW (hw y),trivial⟩
  have A0X:=t4 rfl
  rw[A0X] at t9
  simp only[M0.DU,FP,ABO] at t1 t6 t7
  have UG:i∉u.map (·.1):=by
   intro hx
   obtain⟨q',SR,he⟩:=DH.1 hx
   have:=KI.1 hu q' SR
   simp [he] at this
  have hli:look (AJ L u) i=some (.row a xs):=by
   rw[t7 i (by simp) UG];exact CL _ _ hl
  have hrp:Rp G1 w a z (AN E (BN (ρ y))):=AC7 hp (by have:=t9.1;rw[FP] at this;exact this)
  obtain⟨w',s1,s2⟩:=step c w E G1 (AJ L u) t1 hli hw z _ hrp hrp.AMN (fun arr ty fz _ _=>by rw[P6])
  have eu:AJ L (u++ [(i,.row a (xs.set k z))])=DW (AJ L u) (i,.row a (xs.set k z)):=by rw[BS];rfl
  rw[eu]
  exact⟨w',E,_,s1,.inr ⟨rfl,rfl⟩,⟨G1,s2⟩,fun n hn=>⟨rfl,BZ rfl n (t6 n hn)⟩,rfl,trivial⟩
 ·split at h
  rotate_left
  ·split at h
   rotate_left
   ·cases h
   rename_i eF
   split at h
   rotate_left
   ·cases h
   rename_i z nes u hp
   split at h
   rotate_left
   ·cases h
   rename_i hu
   simp only[pr,A_,DG] at h
   obtain⟨rfl,rfl⟩:=h
   refine BW fun c w E hh hw=> ?_
   obtain⟨G,hG⟩:=hh
   have hct:KC .jO AQ [⟨a,true,false,false⟩] [.agg (EB (I1 a (gd a xs k) 0) off (BN (ρ y)))]=some ⟨HT.mk ⟨a,true,false,false⟩ [] z (),nes++ [],u++ [],[]++ [],nes.filterMap NE.name++ []⟩:=by
    simp [KC,QE,hp]
   simp only[AYY,IZ,KI] at eF
   have vT:MT E L (EB (I1 a (gd a xs k) 0) off (BN (ρ y))):=by
    refine B1.2 fun u hu=> ?_
    obtain⟨p,hp⟩:=AFZ.1 hu
    rw[xX,hlen,FI] at hp
    split at hp
    ·exact B1.1 (RW (hw y)) u (bZ hp)
    ·rename_i hpo
     refine AWU a _ _ u (bZ hp) ?_
     have hlp:p<a.sz:=by
      have:=(AA4.1 hp).1
      rwa [FI] at this
     rcases IG p off with h1|h1
     ·refine eF.1 _ (AFZ.2 ⟨p, ?_⟩)
      rw[n_,AA h1,hp]
     ·refine eF.2 _ (AFZ.2 ⟨p-(off+q.size), ?_⟩)
      rw[dM,←hp]
      congr 1;omega
   obtain⟨G1,G2,t1,t2,t3,t4,t5,t6,t7,t8,t9,t10,t11⟩:=hG.take (md:= .jO) (by simp) CL hct (by simp [okA]) ⟨vT,trivial⟩
   have A0X:=t4 rfl
   rw[A0X] at t9
   simp only[M0.DU,FP,ABO] at t1 t6 t7
   have UG:i∉u.map (·.1):=by
    intro hx
    obtain⟨q',SR,he⟩:=DH.1 hx
    have:=KI.1 hu q' SR
    simp [he] at this
   have hli:look (AJ L u) i=some (.row a xs):=by
    rw[t7 i (by simp) UG];exact CL _ _ hl
   have hrp:Rp G1 w a z (AN E (EB (I1 a (gd a xs k) 0) off (BN (ρ y)))):=AC7 hp (by have:=t9.1;rw[FP] at this;exact this)
   have AH5:Flat (AN E (BN (ρ y))):=by
    have hf:=hrp.AMN
    intro u hu
    have hs:=aB E (BN (ρ y)) (I1 a (gd a xs k) 0) off
    obtain⟨j,hj,rfl⟩:=wP hu
    refine hf _ ?_
    have iU:j<q.size:=by rw[AU,hlen] at hj;exact hj
    have:(vW (AN E (I1 a (gd a xs k) 0)).toArray off (AN E (BN (ρ y))))[off+j]? =(AN E (BN (ρ y)))[j]? :=by
     rw[KT,AA ⟨by omega,by omega,by simp [AU,FI];omega⟩]
     congr 1;omega
    rw[<-hs,wN,O6 hj] at this
    exact bZ this
   obtain⟨w',s1,s2⟩:=step c w E G1 (AJ L u) t1 hli hw z _ hrp AH5 (by
    intro arr ty fz h1 h2
    apply ALZ
    intro j
    rw[KT,KT,AU,AU,hlen,lR,FI]
    have hse:∀ m:Nat,(AN E (EB (I1 a (gd a xs k) 0) off (BN (ρ y))))[m]? =(vW (AN E (I1 a (gd a xs k) 0)).toArray off (AN E (BN (ρ y))))[m]? :=by
     intro m;rw[<-aB];simp
    have hold:∀ p,p<a.sz->p<off\/off+q.size<=p->(AN E (I1 a (gd a xs k) 0))[p]? =arr[(E.nm i).off+k*a.sz+p]? :=by
     intro p hp hpo
     obtain⟨ms,h4,_⟩:=h2.out
     have hlp:p<(I1 a (gd a xs k) 0).length:=by rw[FI];exact hp
     have hv:=O6 hlp
     have hnv:AS5 (I1 a (gd a xs k) 0)[p]=true:=by
      rcases hpo with hpo|hpo
      ·refine eF.1 _ (AFZ.2 ⟨p, ?_⟩)
       rw[n_,AA hpo,hv]
      ·refine eF.2 _ (AFZ.2 ⟨p-(off+q.size), ?_⟩)
       rw[dM,←hv]
       congr 1;omega
     have e1:=ASG (E:=E) a _ 0 p _ ms hv hnv
     rw[<-h4,CP,AA hp] at e1
     rw[GM,ABD,hv,e1]
     rfl
    by_cases hj1:((E.nm i).off+k*a.sz)+off<=j/\j<((E.nm i).off+k*a.sz)+off+q.size/\j<arr.size
    ·rw[AA hj1,ab,hse,KT,AU,hlen,AA ⟨by omega,by omega,by simp [AU,FI];omega⟩]
     congr 1;omega
    ·rw[AE hj1]
     by_cases iU:((E.nm i).off+k*a.sz)<=j/\j<((E.nm i).off+k*a.sz)+a.sz/\j<arr.size
     ·have e1:((AN E (I1 a (gd a xs k) 0)).toArray)[j-((E.nm i).off+k*a.sz)]? =arr[j]? :=by
       rw[wN,hold _ (by omega) (by omega)]
       congr 1;omega
      rw[AA iU,hse,KT,AU,hlen,af,e1]
     ·rw[AE iU])
   have eu:AJ L (u++ [(i,.row a (xs.set k z))])=DW (AJ L u) (i,.row a (xs.set k z)):=by rw[BS];rfl
   rw[eu]
   exact⟨w',E,_,s1,.inr ⟨rfl,rfl⟩,⟨G1,s2⟩,fun n hn=>⟨rfl,BZ rfl n (t6 n hn)⟩,rfl,trivial⟩
  rename_i AWV
  split at h
  rotate_left
  ·cases h
  rename_i z nes u hp
  simp only[pr,A_,DG] at h
  obtain⟨rfl,rfl⟩:=h
  refine BW fun c w E hh hw=> ?_
  obtain⟨G,hG⟩:=hh
  obtain⟨c1,e1,hc1,_,hd⟩:=KB E _ _ _ _ _ _ hp
  rw[FP] at e1;subst e1
  have hrp:Rp G w a z (AN E (EB (I1 a (gd a xs k) 0) off (BN (ρ y)))):=by
   rw[hd]
   refine Rp.mk _ _ _ fun k e he=> ?_
   have:(CA false a z).length=0:=by rw[BJ];exact AWV
   rw[IF (by omega)] at he;cases he
  have AH5:Flat (AN E (BN (ρ y))):=by
   have hf:=hrp.AMN
   intro u hu
   have hs:=aB E (BN (ρ y)) (I1 a (gd a xs k) 0) off
   obtain⟨j,hj,rfl⟩:=wP hu
   refine hf _ ?_
   have iU:j<q.size:=by rw[AU,hlen] at hj;exact hj
   have:(vW (AN E (I1 a (gd a xs k) 0)).toArray off (AN E (BN (ρ y))))[off+j]? =(AN E (BN (ρ y)))[j]? :=by
    rw[KT,AA ⟨by omega,by omega,by simp [AU,FI];omega⟩]
    congr 1;omega
   rw[<-hs,wN,O6 hj] at this
   exact bZ this
  obtain⟨w',s1,s2⟩:=step c w E G L hG (CL _ _ hl) hw z _ hrp AH5 (by
   intro arr ty fz h1 h2
   apply ALZ
   intro j
   rw[KT,KT,AU,AU,hlen,lR,FI]
   have hse:∀ m:Nat,(AN E (EB (I1 a (gd a xs k) 0) off (BN (ρ y))))[m]? =(vW (AN E (I1 a (gd a xs k) 0)).toArray off (AN E (BN (ρ y))))[m]? :=by
    intro m;rw[<-aB];simp
   have hold:AN E (I1 a (gd a xs k) 0)=BT arr (((E.nm i).off+k*a.sz)) a.sz:=by
    obtain⟨ms,h4,_⟩:=h2.out
    rw[h4,XQ]
    exact IH _ _ fun j hj=>by omega
   by_cases hj1:((E.nm i).off+k*a.sz)+off<=j/\j<((E.nm i).off+k*a.sz)+off+q.size/\j<arr.size
   ·rw[AA hj1,ab,hse,KT,AU,hlen,AA ⟨by omega,by omega,by simp [AU,FI];omega⟩]
    congr 1;omega
   ·rw[AE hj1]
    by_cases iU:((E.nm i).off+k*a.sz)<=j/\j<((E.nm i).off+k*a.sz)+a.sz/\j<arr.size
    ·have e1:((AN E (I1 a (gd a xs k) 0)).toArray)[j-((E.nm i).off+k*a.sz)]? =arr[j]? :=by
      rw[wN,hold,CP,ab]
      congr 1;omega
     rw[AA iU,hse,KT,AU,hlen,af,e1]
    ·rw[AE iU])
  exact⟨w',E,_,s1,.inr ⟨rfl,rfl⟩,⟨G,s2⟩,fun n hn=>⟨rfl,BZ rfl n hn⟩,rfl,trivial⟩
theorem AH6 (GJ:o.op= .store t x y) (hq:P.info? t=some q) {sz len:Nat} (hx:ρ x= .el i k sz off)
  {xs:List a.T} (hl:AQ i=some (.row a xs)) (CL:∀ n e,AQ n=some e->look L n=some e) {DU:DN}
  (h:oW q.size len a xs i k off (ρ y) pr=some (v,DU)):FH TB P o ρ L v DU:=by
 unfold oW at h
 split at h
 rotate_left
 ·cases h
 rename_i hc
 obtain⟨rfl,rfl,AWV,hlen,uC,ASH⟩:=hc
 split at h
 rotate_left
 ·cases h
 rename_i ys u hp
 split at h
 rotate_left
 ·cases h
 rename_i vB
 simp only[pr,A_,DG] at h
 obtain⟨rfl,rfl⟩:=h
 refine BW fun c w E hh hw=> ?_
 obtain⟨G,hG⟩:=hh
 obtain⟨l1,l2,l3⟩:=mW (c:=c) (G:=G) (w:=w) (E:=E) (L:=L) len (BN (ρ y)) ys u hp (RW (hw y)) (lV .jO)
 have lU :=CL _ _ hl
 have XW:=hw x
 rw[hx] at XW
 obtain⟨NX,hk,hn⟩:=XW
 obtain⟨e1,e2,e3⟩:=hG.MQ i _ lU
 rcases e3 with ⟨h4,_⟩|⟨_,h5,h6,h7,AK6,ty,h8,h9,h10⟩
 ·rw[hn] at h4;cases h4
 have RX:(E.nm i).off+(0*sz+0)=(E.nm i).off:=by omega
 have b8:(E.nm i).off+len*a.sz<=AK6.size:=by
  have:=wX a.sz h7
  rw[vB] at this;omega
 obtain⟨w',s1,s2,s3,s4,s5⟩:=LG (P:=P) (off:=(E.nm i).off) (AN E (BN (ρ y))) w AK6 0 (fun j hj=>(E.nm i).ADA hj) h8 (ADQ uC) (by rw[AU,l2];omega)
 rw[P6] at s4
 have hst:AT c G w' E (DW L (i,.row a ys)):=by
  refine hG.setRow lU hn (by omega) s2 s3 s5 ?_
  intro A6A ty3 q1 q2 q3
  rw[h8] at q1
  simp only[A_,Obj.cells.injEq] at q1
  obtain⟨rfl,rfl,_⟩:=q1
  refine⟨_,s4,SU _ _ _, ?_⟩
  intro j z hz
  have hj:j<len:=by
   rw[<-l1]
   rcases IG j ys.length with h|h
   ·exact h
   ·rw[IF h] at hz;cases hz
  have hr:=l3 j z hz
  have hb:(j+1)*a.sz<=len*a.sz:=wX _ hj
  rw[SL,Nat.one_mul] at hb
  have e:BT (vW AK6 (E.nm i).off (AN E (BN (ρ y)))) ((E.nm i).off+j*a.sz) a.sz=BT (AN E (BN (ρ y))).toArray (0+j*a.sz) a.sz:=by
   apply XA
   intro m
   rw[CP,CP]
   by_cases hm:m<a.sz
   ·rw[KT,AU,l2]
    simp only[hm,HP]
    rw[AA ⟨by omega,by omega,by omega⟩]
    rw[wN]
    congr 1;omega
   ·simp [hm]
  rw[e]
  exact hr
 refine⟨w',E,.skip, ?_,.inr ⟨rfl,rfl⟩,⟨G,hst⟩,fun n hn=>⟨rfl,BZ rfl n hn⟩,rfl,trivial⟩
 simp only[execOp,GJ,hx,SV.den,Sem.run_bind]
 rw[RX,SW hq ASH hlen s1]
 rfl
theorem APA (GJ:o.op= .store t x y) (hq:P.info? t=some q) {sz:Nat} (hx:ρ x= .el i k sz off)
  {xss:List (List a.T)} {h' :Option (Nat×Nat)} (hl:AQ i=some (.deep a xss h')) (CL:∀ n e,AQ n=some e->look L n=some e) {DU:DN}
  (h:ADN AQ q.size a xss h' i k sz off (ρ y) pr=some (v,DU)):FH TB P o ρ L v DU:=by
 unfold ADN at h
 split at h
 rotate_left
 ·cases h
 rename_i hc
 obtain⟨hq1,rfl,rfl⟩:=hc
 split at h
 rotate_left
 ·cases h
 rename_i j hy
 split at h
 rotate_left
 ·cases h
 rename_i t' ys hj
 split at h
 rotate_left
 ·cases h
 rename_i he
 subst he
 have KM :=CL _ _ hl
 have bQ :=CL _ _ hj
 obtain⟨hh,rfl,rfl⟩:(∀ k' j',h' =some (k',j')->k' =k)/\v=BK/\DU=[(j,.dead),(i,.deep t' (xss.set k ys) none)]:=by
  split at h
  ·simp only[pr,A_,DG] at h
   exact⟨fun k' j' he=>(by cases he),h.1.symm,h.2.symm⟩
  ·rename_i k0 j0
   split at h
   rotate_left
   ·cases h
   rename_i HR
   simp only[pr,A_,DG] at h
   exact⟨fun k' j' he=>(by simp only[A_,DG] at he;omega),h.1.symm,h.2.symm⟩
 refine BW fun c w E hH hw=> ?_
 obtain⟨G,hG⟩:=hH
 have XW:=hw x
 rw[hx] at XW
 obtain⟨NX,hk,hn⟩:=XW
 have hd:=hG.dp i _ _ _ KM
 have hlen:=hd.len
 have AK2:=hd.off
 obtain⟨arr,ty,AOV,b8⟩:∃ arr ty,w.heap[(E.nm i).CN]? =some (.cells arr ty (0,0))/\k<arr.size:=by
  rcases hd.cs with ⟨h1,_⟩|⟨h1,h2,h3,arr,ty,hs,h4,h5,_⟩
  ·rw[hn] at h1;cases h1
  ·exact⟨arr,ty,h4,by omega⟩
 have hcv:AN E (BN (ρ y))=[.slice (E.nm j).ad (E.nm j).len (E.nm j).cap]:=by rw[hy];rfl
 obtain⟨w',s1,s2,s3,s4,s5⟩:=QG (P:=P) (off:=k) (AN E (BN (ρ y))) w arr 0 AOV (by
   rw[hcv]
   intro u hu
   simp only[GG] at hu;subst hu
   exact⟨fun c h=>(by cases h),fun c h=>(by cases h)⟩) (by rw[hcv];simp;omega)
 rw[hcv,P6] at s4
 simp only[vW] at s4
 have h1:=hG.A3L (w' :=w') KM bQ hh (by omega) s2 s3 s5 (fun AK6 ty2 _ ha _=>by
  rw[AOV] at ha
  simp only[A_,Obj.cells.injEq] at ha
  obtain⟨rfl,rfl,_⟩:=ha
  exact⟨_,s4⟩)
 refine⟨w',_,.skip, ?_,.inr ⟨rfl,rfl⟩,⟨G,h1⟩,fun n hn=>⟨?_,BZ rfl n (BZ rfl n hn)⟩,rfl,trivial⟩
 ·simp only[execOp,GJ,hx,SV.den,Sem.run_bind]
  have e:(E.nm i).off+(k*1+0)=k:=by omega
  rw[e,SW hq (by rw[hy];rfl) (by rw[hy,hq1];rfl) s1]
  rfl
 ·by_cases UG:n=i
  ·subst UG;exact (E.FE _ _ _).1
  ·exact (E.NW _ _ UG).1
variable {j:Nat}
set_option maxHeartbeats 1000000 in
theorem APB (GJ:o.op= .store t x y) (hq:P.info? t=some q) {hh:Nat} (hx:ρ x= .tel i k hh j) (CL:∀ n e,AQ n=some e->look L n=some e) {DU:DN}
  (h:storeT AQ q.size i k hh j (ρ y) pr=some (v,DU)):FH TB P o ρ L v DU:=by
 unfold storeT at h
 split at h
 rotate_left
 ·cases h
 rename_i t1 t2 xs hl
 split at h
 rotate_left
 ·cases h
 rename_i hc
 obtain⟨hq1,ASH,uC⟩:=hc
 have hcv:BN (ρ y)=[ρ y]:=by
  cases hy:ρ y <;> first|rfl|(rw[hy] at uC;cases uC)
 have step:∀ (tt:Ty) (z:tt.T) (nes:List NE) (u:DN) (x' :List t1.T×List t2.T),tt.HH=0->tt.sz=1->FY .dY I7 tt [ρ y]=some (z,[],nes,u)->hh<2→
   (∀ (G:Nat->Prop) (w w' :World) (mm:Nm),(∀ k x,xs[k]? =some x->GN (Rp G w t1) t1.sz w (mm.hn (k*2)) x.1/\GN (Rp G w t2) t2.sz w (mm.hn (k*2+1)) x.2)->k<xs.length→
    (∀ (ys:List tt.T),GN (Rp G w tt) tt.sz w (mm.hn (k*2+hh)) ys->GN (Rp G w' tt) tt.sz w' (mm.hn (k*2+hh)) (ys.set j z))→
    (∀ (k' e:Nat) (t' :Ty) (ys:List t'.T),k' <xs.length->e<2->k' *2+e≠k*2+hh->GN (Rp G w t') t'.sz w (mm.hn (k' *2+e)) ys->GN (Rp G w' t') t'.sz w' (mm.hn (k' *2+e)) ys)→
    GN (Rp G w' t1) t1.sz w' (mm.hn (k*2)) x'.1/\GN (Rp G w' t2) t2.sz w' (mm.hn (k*2+1)) x'.2)→
   (∀ (G:Nat->Prop) (w:World) (mm:Nm),(∀ k x,xs[k]? =some x->GN (Rp G w t1) t1.sz w (mm.hn (k*2)) x.1/\GN (Rp G w t2) t2.sz w (mm.hn (k*2+1)) x.2)->k<xs.length->∃ ys:List tt.T,GN (Rp G w tt) tt.sz w (mm.hn (k*2+hh)) ys)→
   FH TB P o ρ L BK [(i,.tree t1 t2 (xs.set k x'))]:=by
  intro tt z nes u x' AWV b8 hp hhh D8 vC
  refine BW fun c w E hhd hw=> ?_
  obtain⟨G,hG⟩:=hhd
  have htr:F3 c G w (E.nm i) t1 t2 xs:=hG.MQ i _ (CL _ _ hl)
  have XW:=hw x
  rw[hx] at XW
  obtain⟨NX,hk,_,hj⟩:=XW
  rw[htr.len] at hk
  rcases htr.cs with ⟨h1,h1',_⟩|⟨h1,h2,h3,A6B,ty0,h4,h5,h6,h7,h8,h9⟩
  ·rw[h1'] at hk;simp at hk
  obtain⟨ys0,MR⟩:=vC G w (E.nm i) h7 hk
  have A86:=MR
  obtain⟨p1,_,p3⟩:=MR
  rcases p3 with ⟨_,p4,_⟩|⟨p4,p5,arr,ty,p6,p7,p8⟩
  ·rw[p1,p4] at hj;simp at hj
  obtain⟨c1,e1,hc1,_,hd⟩:=KB E _ _ _ _ _ _ hp
  rw[FP] at e1;subst e1
  have hbm:=h8 (k*2+hh) (by omega) p4
  have hbG:¬G ((E.nm i).hn (k*2+hh)).CN:=(htr.all _ hbm.1).1
  obtain⟨w',s1,s2,s3,s4,s5⟩:=LG (P:=P) (off:=((E.nm i).hn (k*2+hh)).off+j) (AN E (BN (ρ y))) w arr 0 (fun j hj=>((E.nm i).hn (k*2+hh)).ADA hj) p6 (by rw[hcv];exact ADQ (by simp [uC]))
   (by rw[AU,hcv,Q5];rw[p1] at hj;rw[b8] at p7;omega)
  rw[P6] at s4
  have hGs:∀ b,G b->w'.heap[b]? =w.heap[b]? :=fun b hb=>s5 b (fun he=>hbG (he ▸ hb))
  have hrp:Rp G w' tt z (AN E [ρ y]):=by
   rw[hd]
   refine Rp.mk _ _ _ fun k e he=> ?_
   have:(CA false tt z).length=0:=by rw[BJ];exact AWV
   rw[IF (by omega)] at he;cases he
  have XF:∀ (ys:List tt.T),GN (Rp G w tt) tt.sz w ((E.nm i).hn (k*2+hh)) ys->GN (Rp G w' tt) tt.sz w' ((E.nm i).hn (k*2+hh)) (ys.set j z):=by
   intro ys hi
   obtain⟨r1,_,r3⟩:=hi
   rcases r3 with ⟨r4,_⟩|⟨r4,r5,Z8,ty',r6,r7,r8⟩
   ·rw[p4] at r4;cases r4
   rw[p6] at r6
   simp only[A_,Obj.cells.injEq] at r6
   obtain⟨rfl,rfl,_⟩:=r6
   refine⟨by rw[EG];exact r1,trivial,.inr ⟨r4,by rw[EG];exact r5,_,_,by rw[SU];exact s4,by rw[SU];exact r7, ?_⟩⟩
   have vD:j<ys.length:=by rw[<-r1];exact hj
   have:=(r8.imp (R' :=Rp G w' tt) fun x vs hx=>Rp.mono hGs (fun _ h=>h) tt x vs hx).set (k:=j) hrp (by rw[hrp.length]) vD (by
    have:=wX tt.sz r5
    omega)
   rw[b8,tQ] at this
   rw[hcv,b8]
   exact this
  have AK7:∀ (k' e:Nat) (t' :Ty) (ys:List t'.T),k' <xs.length->e<2->k' *2+e≠k*2+hh->GN (Rp G w t') t'.sz w ((E.nm i).hn (k' *2+e)) ys->GN (Rp G w' t') t'.sz w' ((E.nm i).hn (k' *2+e)) ys:=by
   intro k' e t' ys KA he CW hi
   refine hi.mono (fun x vs hx=>Rp.mono hGs (fun _ h=>h) t' x vs hx) fun hn=>s5 _ ?_
   exact h9 _ _ (by omega) (by omega) CW hn p4
  have jP:∀ b (xx:List (List t1.T×List t2.T)),(A9.tree t1 t2 xx).ow E i b↔b∈(E.nm i).ins.l:=fun b xx=>A9.iJ
  have xY:AT c G w' E (DW L (i,.tree t1 t2 (xs.set k x'))):=by
   refine hG.VF (AR (CL _ _ hl)) s2 (by omega) (fun _=>rfl) (fun _ _=>⟨rfl,rfl⟩) rfl (fun b _ XS=>s5 b (fun he=>XS ((jP b _).2 (he ▸ hbm.1))))
    (fun b hb=>⟨(htr.all b ((jP b _).1 hb)).2.1,(htr.all b ((jP b _).1 hb)).1⟩) (fun k' f KA hf b hb he=>hG.inj k' i f _ b KA hf (CL _ _ hl) hb ((jP b xs).2 ((jP b _).1 he))) ?_ (fun t' xs' q he=>by cases he)
   refine⟨by rw[EG];exact htr.len,htr.off,htr.nd,fun b hb=> ?_,.inr ⟨h1,h2,by rw[EG];exact h3,A6B,ty0,by rw[s5 _ hbm.2.symm];exact h4,h5,by rw[EG];exact h6, ?_,by rw[EG];exact h8,by rw[EG];exact h9⟩⟩
   ·obtain⟨b1,b2,aa,tyy,fz,b3⟩:=htr.all b hb
    refine⟨b1,b2, ?_⟩
    by_cases hbe:b=((E.nm i).hn (k*2+hh)).CN
    ·rw[hbe];exact⟨_,_,_,s4⟩
    ·rw[s5 b hbe];exact⟨aa,tyy,fz,b3⟩
   ·intro k' xx KA
    rw[wR] at KA
    by_cases HR:k=k'
    ·subst HR
     rw[AA rfl,AA hk] at KA
     simp only[A_] at KA
     subst KA
     exact D8 G w w' (E.nm i) h7 hk XF AK7
    ·rw[AE HR] at KA
     have DY:=(AA4.1 KA).1
     obtain⟨i1,i2⟩:=h7 k' xx KA
     exact⟨AK7 k' 0 t1 _ DY (by omega) (by omega) i1,AK7 k' 1 t2 _ DY (by omega) (by omega) i2⟩
  refine⟨w',E,.skip, ?_,.inr ⟨rfl,rfl⟩,⟨G,xY⟩,fun n hn=>⟨rfl,BZ rfl n hn⟩,rfl,trivial⟩
  simp only[execOp,GJ,hx,SV.den,Sem.run_bind]
  rw[SW hq ASH (by rw[hcv,hq1];rfl) s1]
  rfl
 have hgd:∀ (hk:k<xs.length),xs[k]? =some (gd (.pair (.slice t1) (.slice t2)) xs k):=by
  intro hk
  unfold gd
  rw[n9,O6 hk];rfl
 split at h
 ·split at h
  rotate_left
  ·cases h
  rename_i z nes u hp
  split at h
  rotate_left
  ·cases h
  rename_i hc2
  simp only[pr,A_,DG] at h
  obtain⟨rfl,rfl⟩:=h
  refine step t1 z nes u _ hc2.1 hc2.2 hp (by omega) ?_ ?_
  ·intro G w w' mm h7 hk XF AK7
   obtain⟨i1,i2⟩:=h7 k _ (hgd hk)
   exact⟨XF _ i1,AK7 k 1 t2 _ hk (by omega) (by omega) i2⟩
  ·intro G w mm h7 hk
   exact⟨_,(h7 k _ (hgd hk)).1⟩
 ·split at h
  rotate_left
  ·cases h
  rename_i z nes u hp
  split at h
  rotate_left
  ·cases h
  rename_i hc2
  simp only[pr,A_,DG] at h
  obtain⟨rfl,rfl⟩:=h
  refine step t2 z nes u _ hc2.1 hc2.2 hp (by omega) ?_ ?_
  ·intro G w w' mm h7 hk XF AK7
   obtain⟨i1,i2⟩:=h7 k _ (hgd hk)
   exact⟨AK7 k 0 t1 _ hk (by omega) (by omega) i1,XF _ i2⟩
  ·intro G w mm h7 hk
   exact⟨_,(h7 k _ (hgd hk)).2⟩
 ·cases h
theorem APC (GJ:o.op= .store t x y) (CL:∀ n e,AQ n=some e->look L n=some e) {DU:DN}
  (h:rV P AQ t (ρ x) (ρ y) pr=some (v,DU)):FH TB P o ρ L v DU:=by
 unfold rV at h
 split at h
 rotate_left
 ·cases h
 rename_i q hq
 split at h
 ·rename_i i off hx
  split at h
  rotate_left
  ·cases h
  rename_i cs hl
  split at h
  rotate_left
  ·cases h
  rename_i hc
  obtain⟨c1,c2,c3,c4⟩:=hc
  simp only[pr,A_,DG] at h
  obtain⟨rfl,rfl⟩:=h
  refine BW fun c w E hh hw=> ?_
  obtain⟨G,hG⟩:=hh
  obtain⟨h1,h2,h3,h4,⟨ty,h5⟩,h6⟩:=hG.MQ i _ (CL _ _ hl)
  obtain⟨w',s1,s2,s3,s4,s5⟩:=QG (P:=P) (off:=(E.nm i).pp.pre.length+off) (AN E (BN (ρ y))) w _ 0 h5 (ADQ c2) (by rw[Nm.xW,AU,AU];omega)
  rw[P6,←AK3 E (E.nm i) _ cs off c4] at s4
  have XF:E.set i (E.nm i)=E:=by
   refine MD (fun k=> ?_) rfl (fun _=>rfl)
   by_cases hk:k=i
   ·subst hk;rw[Env.E_]
   ·exact E.H5 _ hk
  have vT:MT E (DW L (i,.box (EB cs off (BN (ρ y))))) (EB cs off (BN (ρ y))):=by
   refine B1.2 fun u hu=> ?_
   refine (Z7 (fun n hn=>BZ rfl n hn) (fun _ _=>rfl) u ?_).1
   rcases mV hu with hu|hu
   ·exact B1.1 h6 u hu
   ·exact B1.1 (RW (hw y)) u hu
  have:=hG.change (i:=i) (e' := .box (EB cs off (BN (ρ y)))) (m:=E.nm i) (w' :=w') (AR (CL _ _ hl)) s2 (by omega) (fun _=>rfl) rfl
   (fun b _ hb=>s5 b (fun he=>hb (by simp [A9.own,he])))
   (fun b hb=>by simp only[A9.own,A_] at hb;subst hb;exact⟨h4,h3⟩)
   (fun k f hk hf b hb he=>hG.inj k i f (.box cs) b hk hf (CL _ _ hl) hb (.inl (by simpa [A9.own] using he)))
   (fun _=>by rw[XF];exact⟨h1,h2,h3,h4,⟨ty,s4⟩,vT⟩)
  rw[XF] at this
  refine⟨w',E,.skip, ?_,.inr ⟨rfl,rfl⟩,⟨G,this⟩,fun n hn=>⟨rfl,BZ rfl n hn⟩,rfl,trivial⟩
  simp only[execOp,GJ,hx,SV.den,Sem.run_bind]
  rw[h2,SW hq c3 c1 s1]
  rfl
 ·rename_i i k sz off hx
  split at h
  ·rename_i a xs hl
   split at h
   ·exact AH6 GJ hq hx hl CL h
   ·exact AK5 GJ hq hx hl CL h
  ·rename_i a xss hh hl
   exact APA GJ hq hx hl CL h
  ·cases h
 ·rename_i i k hh j hx
  exact APB GJ hq hx CL h
 ·cases h
end
end Go.V3
namespace Go.V3
open Go
variable {TB:Tb}
section
variable {P:Program} {AQ:Nat->Option A9} {L:AM}
variable {m:Nm} {bs:Nat} {E:Env} {w w':World} {G:Nat->Prop} {c:EX TB}
theorem AT.sB (h:AT c G w E L) (hl:look L bs=some .MB) {ob:Obj} (hw:w'.heap=w.heap.push ob) (hr:Rest w w') {e:A9} (CW:e.IL=false)
  (hm:m.CN=w.heap.size/\m.off=0/\m.nil=false) (ZZ:w'.heap[w.heap.size]? =some ob->¬c.Old w.heap.size->¬G w.heap.size->(∀ b,G b->w'.heap[b]? =w.heap[b]?)->bM c G w' (E.set bs m) (DW L (bs,e)) m e) (hd:e.UD=false:=by rfl) (ht:e.QC=false:=by rfl):
  AT c G w' (E.set bs m) (DW L (bs,e))/\(∀ n,Al L n->(E.set bs m).nm n=E.nm n/\Al (DW L (bs,e)) n):=by
 have D8:w'.heap[w.heap.size]? =some ob:=by rw[hw];simp
 have CZ:∀ b,b<w.heap.size->w'.heap[b]? =w.heap[b]? :=by
  intro b hb
  rw[hw,tK,af]
 have hold:¬c.Old w.heap.size:=fun hx=>by have:=hx.1;have:=h.size;omega
 have hG:¬G w.heap.size:=fun hx=>by have:=h.gin _ hx;omega
 have hbo:∀ b,e.own m=some b->b=w.heap.size:=by
  intro b hb
  cases e with
  |box cs=>simp only[A9.own,A_] at hb;rw[<-hb];exact hm.1
  |row t xs=>simp only[A9.own,hm.2.2,W_,KK,A_] at hb;rw[<-hb];exact hm.1
  |map xs=>simp only[A9.own,A_] at hb;rw[<-hb];exact hm.1
  |_=>cases hb
 refine⟨h.change (AR hl) hr (by rw[hw];simp) (fun hx=>absurd hx (FA hl)) CW (fun b hb _=>CZ b hb) (fun b hb=>by rw[hbo b hb];exact⟨hold,hG⟩) ?_ ?_ hd ht, ?_⟩
 ·intro k f _ hf b hb he
  have:=h.lS hf hb
  rw[hbo b he] at this
  omega
 ·intro _
  exact ZZ D8 hold hG (fun b hb=>CZ b (h.gin b hb))
 ·intro n hn
  have UG:n≠bs:=fun he=>FA (he ▸ hl) hn
  exact⟨E.H5 m UG,BZ CW n hn⟩
theorem Hd.fin {c:EX TB} {G:Nat->Prop} {w w' :World} {E:Env} (h:AT c G w E L) {bs:Nat} (hl:look L bs=some .MB) {arr:Array Value} {ty:TypeId} (hw:w'.heap=w.heap.push (.cells arr ty (0,0))) (hr:Rest w w') {a:Ty} {xs:List a.T} {cap:Nat} (CQ:Bool)
  (b8:arr.size=cap*a.sz) (hle:xs.length<=cap) (YE:RowsIn (Rp G w a) a.sz arr 0 xs):
  Hd c w' (E.set bs ⟨w.heap.size,0,false,xs.length,cap,none⟩) (AJ L (fin CQ bs a xs))/\(∀ n,Al L n->(E.set bs ⟨w.heap.size,0,false,xs.length,cap,none⟩).nm n=E.nm n/\Al (AJ L (fin CQ bs a xs)) n)/\Al (AJ L (fin CQ bs a xs)) bs:=by
 obtain⟨h1,h2⟩:=h.sB hl hw hr (e:= .row a xs) (m:=⟨w.heap.size,0,false,xs.length,cap,none⟩) rfl ⟨rfl,rfl,rfl⟩
  (fun D8 hold hG CZ=>⟨rfl,trivial,.inr ⟨rfl,hG,hold,hle,arr,ty,D8,by show 0+cap*a.sz<=arr.size;omega,YE.imp fun x vs hx=>Rp.mono CZ (fun _ h=>h) a x vs hx⟩⟩)
 have CL:look (DW L (bs,.row a xs)) bs=some (.row a xs):=by rw[BB (AR hl),AA rfl]
 cases CQ with
 |true=>exact⟨⟨G,h1⟩,h2,⟨_,CL,rfl⟩⟩
 |false=>
  have h3:=h1.freeze CL
  refine⟨⟨_,h3⟩,fun n hn=>⟨(h2 n hn).1,BZ rfl n (h2 n hn).2⟩,BZ rfl bs ⟨_,CL,rfl⟩⟩
variable {u:DN}
theorem AT.known (h:AT c G w E L) (CL:∀ n e,AQ n=some e->look L n=some e) (hu:∀ q∈u,∃ t ys e,AQ q.1=some e/\b9 e t ys/\q.2= .shr t ys):
  ∃ G',AT c G' w E (AJ L u)/\(∀ n,Al L n->Al (AJ L u) n)/\oR .jO AQ E c G' w [] u []/\(∀ n,n∉u.map (·.1)->look (AJ L u) n=look L n)/\(∀ b,G b->G' b):=by
 obtain⟨G1,h1,hg1,ha1,hk1,hq1⟩:=h.ADH u (fun q hq=>by
  obtain⟨t,ys,e0,hl,ho0,e⟩:=hu q hq
  exact⟨t,ys,.inl ⟨e0,CL _ _ hl,ho0⟩,e⟩)
 refine⟨G1,h1,ha1,⟨?_, ?_,fun i t ys _ hx=>by simp at hx,fun i t ys _ hx=>by simp at hx,fun i t1 t2 ys _ hx=>by simp at hx,fun i cs _ hx=>by simp at hx⟩, ?_,hg1⟩
 ·intro i t ys hl
  rcases hk1 i _ (CL _ _ hl) with hx|⟨_,_,hx,_⟩
  ·exact h1.MQ i _ hx
  ·cases hx
 ·rintro i t ys e0 hl ho0 (⟨hx,_⟩|hx)
  ·cases hx
  ·exact h1.MQ i _ (hq1 _ hx)
 ·intro n hn
  cases hl:look L n with
  |some e=>
   rcases hk1 n e hl with hx|⟨t,ys,_,_,hx⟩
   ·exact hx
   ·exact absurd (DH.2 ⟨_,hx,rfl⟩) hn
  |none=>
   have hge:L.length<=n:=by
    rcases IG n L.length with h' |h'
    ·unfold look at hl;rw[O6 h'] at hl;cases hl
    ·exact h'
   unfold look
   rw[IF (by rw[PR];exact hge)]
variable {cs:List SV} {a:Ty}
theorem AAH {x:a.T} {r:List SV} {nes:List NE} (h:FY .jO AQ a cs=some (x,r,nes,u)):∀ q∈u,∃ t ys e,AQ q.1=some e/\b9 e t ys/\q.2= .shr t ys:=by
 intro q hq
 obtain⟨_,g2⟩:=YX _ _ _ _ _ _ h
 obtain⟨k,t,s,xs,ne,uk,hs,CW,hqk⟩:=g2 q hq
 rcases rM hs with rfl|⟨i,t',ys,e',hl,hoe,_,_,rfl⟩|hx
 ·cases hqk
 ·rw[GG] at hqk;subst hqk;exact⟨t',ys,e',hl,hoe,rfl⟩
 ·cases hx
theorem APD:∀ (n:Nat) (cs:List SV) (xs:List a.T) (u:DN),bP AQ a n cs=some (xs,u)->∀ q∈u,∃ t ys e,AQ q.1=some e/\b9 e t ys/\q.2= .shr t ys:=by
 intro n
 induction n with
 |zero=>
  intro cs xs u h
  cases cs with
  |nil=>simp only[bP,A_,DG] at h;obtain⟨rfl,rfl⟩:=h;intro q hq;cases hq
  |cons v r=>simp [bP] at h
 |succ n ih=>
  intro cs xs u h
  simp only[bP] at h
  split at h
  rotate_left
  ·cases h
  rename_i x r nes u1 hp
  split at h
  rotate_left
  ·cases h
  rename_i xs' u2 hq
  simp only[A_,DG] at h
  obtain⟨rfl,rfl⟩:=h
  intro q SR
  rcases FG.1 SR with SR |SR
  ·exact AAH hp q SR
  ·exact ih _ _ _ hq q SR
theorem AC8 (E:Env) (v:Value):(UC v).wf E L:=by
 cases v with
 |int k n=>cases k <;> first|trivial|(simp only[UC];split <;> trivial)
 |float k n=>cases k <;> trivial
 |slice a l c=>simp only[UC];split <;> trivial
 |_=>trivial
variable {t:TypeId}
theorem o9 (E:Env) {z:List SV} (h:OV P t=some z):MT E L z:=by
 unfold OV at h
 split at h
 ·split at h
  ·simp only[A_] at h
   subst h
   refine B1.2 fun v hv=> ?_
   obtain⟨u,_,rfl⟩:=DH.1 hv
   exact AC8 E u
  ·cases h
 ·cases h
theorem APE {vs:List SV} (off:Nat) (h1:MT E L cs) (h2:MT E L vs):MT E L (EB cs off vs):=
 B1.2 fun u hu=>(mV hu).elim (B1.1 h1 u) (B1.1 h2 u)
theorem xZ {E:Env} {place:Nat->Option (Nat×Nat)}:∀ (l:List (Nat×SV)) (cs mL :List SV),dW place cs l=some mL ->MT E L cs->(∀ q∈l,q.2.wf E L)->MT E L mL
 | [],cs,mL,h,hw,_=>by simp only[dW,A_] at h;subst h;exact hw
 |(i,v)::r,cs,mL,h,hw,hl=>by
  simp only[dW] at h
  split at h
  ·cases h
  ·split at h
   ·exact xZ r _ _ h (APE _ hw (RW (hl (i,v) (by simp)))) (fun q hq=>hl q (by simp [hq]))
   ·cases h
theorem ASI {z:List SV} (h:MT E L z) (n size:Nat):MT E L (fresh z n size):=by
 refine B1.2 fun v hv=> ?_
 unfold fresh at hv
 obtain⟨i,_,rfl⟩:=DH.1 hv
 simp only[List.getD]
 cases hz:z[i%size]? with
 |none=>exact trivial
 |some u=>exact B1.1 h u (bZ hz)
variable {v:SV} {parts:Array (Nat×Operand)} {ρ:Operand->SV} {o:Oper}
theorem x5 {len:Nat} (GJ:o.op= .buildSlice t len parts) {CQ:Bool} (CL:∀ n e,AQ n=some e->look L n=some e) {DU:DN}
  (h:PU P AQ t len (parts.toList.map fun q=>(q.1,ρ q.2)) CQ bs pr=some (v,DU)):FH TB P o ρ L v DU:=by
 unfold PU at h
 split at h
 rotate_left
 ·cases h
 rename_i e hu
 split at h
 rotate_left
 ·cases h
 rename_i q z a hq hz hty
 split at h
 rotate_left
 ·cases h
 rename_i hc
 obtain⟨hzl,iV,b8,hna,D8⟩:=hc
 split at h
 rotate_left
 ·cases h
 rename_i cs hf
 split at h
 rotate_left
 ·cases h
 rename_i xs u hp
 simp only[pr,A_,DG] at h
 obtain⟨rfl,rfl⟩:=h
 have MS:look L bs=some .MB:=CL _ _ (by have:=DA D8 0 (by omega);simpa using this)
 refine BW fun c w E hh hw=> ?_
 obtain⟨G,hG⟩:=hh
 have ADR:=APD _ _ _ _ hp
 obtain⟨G',k1,k2,k3,k4,_⟩:=hG.known CL ADR
 have A6C:MT E L cs:=xZ _ _ _ hf (ASI (o9 E hz) _ _) (by
  intro q' SR
  obtain⟨y,_,rfl⟩:=DH.1 SR
  exact hw y.2)
 obtain⟨l1,l2,l3⟩:=mW _ _ _ _ hp A6C k3
 have o_:look (AJ L u) bs=some .MB:=by
  rw[k4 bs];exact MS
  intro hx
  obtain⟨q',SR,he⟩:=DH.1 hx
  obtain⟨t',ys,e',hl,hoe,_⟩:=ADR q' SR
  have:=CL _ _ hl
  rw[he,MS] at this;cases this;cases hoe
 obtain⟨f1,f2,f3⟩:=Hd.fin k1 o_ (w' :=w.alloc (.cells (AN E cs).toArray e)) (ty:=e) rfl ⟨rfl,rfl,rfl⟩ (a:=a) (xs:=xs) (cap:=len) CQ (by simp [AU,l2]) (by omega) l3
 rw[BS]
 refine⟨w.alloc (.cells (AN E cs).toArray e),_,_, ?_,.inl rfl,f1,fun n hn=>f2 n (k2 n hn),rfl,f3⟩
 obtain⟨zv,hzr,hzc⟩:=VU (E:=E) (P:=P) w hz
 simp only[execOp,GJ,SV.den,Env.E_,Nm.ad,W_,KK,l1]
 refine C_ ?_
 have SX:=Z6 (E:=E) _ _ _ _ hna hf
 rw[uA hzl] at SX
 have QI:(List.map (fun q=>(q.1,q.2.den E)) (List.map (fun y=>(y.1,ρ y.2)) parts.toList))=(parts.map fun (i,x)=>(i,(ρ x).den E)).toList:=by
  rw[XB,lO];rfl
 rw[QI] at SX
 simp only[ARD] at SX
 have h24:¬(len*q.size>2 ^ 24):=by
  have:(2:Nat) ^ 24=16777216:=rfl
  omega
 simp only[Instr.buildSlice,Sem.run_bind,run_underlying hu,Result.andThen,sizeOf,typeInfo]
 by_cases h0:len*q.size=0
 ·have hr:Array.range 0= #[]:=by decide
  rw[h0,hr] at SX
  simp [hq,h0,hr,newRow]
  simp at SX
  simp [SX]
 ·simp [hq,h24,h0,hzr,hzc,newRow]
  simp at SX
  simp [SX]
variable {q:TypeInfo} {e:TypeId}
theorem WA {len:Nat} (GJ:o.op= .buildSlice t len parts) {z:List SV} (hu:P.underlying t=some (.slice e)) (hq:P.info? e=some q) (hz:OV P e=some z)
  (hzl:z.length=q.size) (b8:len*q.size<=16777216) (hna:V7 (parts.toList.map fun q=>(q.1,ρ q.2))=true) (hf:dW (fun i=>some (i*q.size,q.size)) (fresh z (len*q.size) q.size) (parts.toList.map fun q=>(q.1,ρ q.2))=some cs):
  (execOp (fun x=>(ρ x).den E) o).run P w= .ok (.value (.slice (some ⟨w.heap.size,0,none⟩) len len)) (w.alloc (.cells (AN E cs).toArray e)):=by
 obtain⟨zv,hzr,hzc⟩:=VU (E:=E) (P:=P) w hz
 simp only[execOp,GJ]
 refine C_ ?_
 have SX:=Z6 (E:=E) _ _ _ _ hna hf
 rw[uA hzl] at SX
 have QI:(List.map (fun q=>(q.1,q.2.den E)) (List.map (fun y=>(y.1,ρ y.2)) parts.toList))=(parts.map fun (i,x)=>(i,(ρ x).den E)).toList:=by
  rw[XB,lO];rfl
 rw[QI] at SX
 simp only[ARD] at SX
 have h24:¬(len*q.size>2 ^ 24):=by
  have:(2:Nat) ^ 24=16777216:=rfl
  omega
 simp only[Instr.buildSlice,Sem.run_bind,run_underlying hu,Result.andThen,sizeOf,typeInfo]
 by_cases h0:len*q.size=0
 ·have hr:Array.range 0= #[]:=by decide
  rw[h0,hr] at SX
  simp [hq,h0,hr,newRow]
  simp at SX
  simp [SX]
 ·simp [hq,h24,h0,hzr,hzc,newRow]
  simp at SX
  simp [SX]
variable {l:List Nat}
theorem AT.AMV (h:AT c G w E L) (hl:look L bs=some .MB) (hr:Rest w w') (hs:w.heap.size<=w'.heap.size) {t:Ty} {xss:List (List t.T)}
  (hw:∀ b,b<w.heap.size->b∉l->w'.heap[b]? =w.heap[b]?) (XS:∀ b∈l,JP E L b) (hd:∀ (E' :Env) (L' :AM),GI c G w' E' L' m l t xss none):
  AT c G w' (E.UF bs m l) (DW L (bs,.deep t xss none))/\(∀ n,Al L n->(E.UF bs m l).nm n=E.nm n/\Al (DW L (bs,.deep t xss none)) n)/\Al (DW L (bs,.deep t xss none)) bs/\(E.UF bs m l).nm bs=m:=by
 have jP:∀ b,(A9.deep t xss none).ow (E.UF bs m l) bs b↔b∈l:=fun b=>by rw[A9.GL,(E.FE _ _ _).2]
 refine⟨h.VF (AR hl) hr hs (fun hx=>absurd hx (FA hl)) (fun k hk=>E.NW _ _ hk) rfl (fun b hb hn=>hw b hb (fun hx=>hn ((jP b).2 hx)))
  (fun b hb=>by have:=(hd E L).all b ((jP b).1 hb);exact⟨this.2.1,this.1⟩) (fun k f _ hf b hb he=>XS b ((jP b).1 he) k f hf hb) trivial ?_, ?_,⟨_,by rw[BB (AR hl),AA rfl],rfl⟩,(E.FE _ _ _).1⟩
 ·intro t' xs' q he
  cases he
  rw[(E.FE _ _ _).1,(E.FE _ _ _).2]
  exact hd _ _
 ·intro n hn
  have UG:n≠bs:=fun he=>FA (he ▸ hl) hn
  exact⟨(E.NW _ _ UG).1,BZ rfl n hn⟩
theorem VX (h:AT c G w E L):JP E L w.heap.size:=by
 intro n e he hb
 have:=h.lS he hb
 omega
variable {b i:Nat}
theorem mX (h:AT c G w E L) {e:A9} (hi:look L i=some e) (hb:e.ow E i b):JP E (DW L (i,.dead)) b:=by
 intro n f hf RS
 rw[BB (AR hi)] at hf
 by_cases hn:n=i
 ·subst hn
  simp only[HP,A_] at hf;subst hf
  rcases RS with RS|⟨RS,_⟩|⟨RS,_⟩ <;> cases RS
 ·rw[AE hn] at hf
  exact h.inj n i f e b hn hf hi RS hb
theorem JP.kill (h:JP E L b) (hi:i<L.length):JP E (DW L (i,.dead)) b:=by
 intro n f hf RS
 rw[BB hi] at hf
 by_cases hn:n=i
 ·simp only[hn,HP,A_] at hf;subst hf
  rcases RS with RS|⟨RS,_⟩|⟨RS,_⟩ <;> cases RS
 ·rw[AE hn] at hf
  exact h n f hf RS
theorem ASJ {l cp:Operand} (GJ:o.op= .makeSlice t l cp) (CL:∀ n e,AQ n=some e->look L n=some e) {DU:DN}
  (h:AC3 P AQ t (ρ l) (ρ cp) bs pr=some (v,DU)):FH TB P o ρ L v DU:=by
 unfold AC3 at h
 split at h
 rotate_left
 ·cases h
 rename_i e hu
 split at h
 rotate_left
 ·cases h
 rename_i q a k n k' m hq hz hty hl hcp
 split at h
 rotate_left
 ·cases h
 rename_i hc
 obtain⟨sC,hqb,D8⟩:=hc
 split at h
 rotate_left
 ·cases h
 rename_i hn
 obtain⟨h0,h1,h2⟩:=hn
 simp only[pr,A_,DG] at h
 obtain⟨rfl,rfl⟩:=h
 have MS:look L bs=some .MB:=CL _ _ (by have:=DA D8 0 (by omega);simpa using this)
 refine BW fun c w E hh hw=> ?_
 obtain⟨G,hG⟩:=hh
 have A0Y:I64 m:=by
  have:(1:Int)<=q.bytes:=by omega
  have:m*1<=m*q.bytes:=AOM this (by omega)
  exact⟨by omega,by omega⟩
 have KD:=run_makeSlice (E:=E) (k:=k) (k' :=k') w hu hq hz (by rw[sC];rfl) h0 h1 h2 A0Y
 have hold:¬c.Old w.heap.size:=fun hx=>by have:=hx.1;have:=hG.size;omega
 have hGn:¬G w.heap.size:=fun hx=>by have:=hG.gin _ hx;omega
 have CZ:∀ (o:Obj) (b:Nat),b<w.heap.size->(w.alloc o).heap[b]? =w.heap[b]? :=by
  intro o b hb
  show (w.heap.push o)[b]? =_
  rw[tK,af]
 have SY:∀ (o:Obj),(w.alloc o).heap[w.heap.size]? =some o:=by
  intro o
  show (w.heap.push o)[w.heap.size]? =_
  simp
 obtain⟨g1,g2,g3,g4⟩:=hG.AMV (w' :=w.alloc (.cells ((Array.range (m.toNat*([SV.LW]:List SV).length)).map fun i=>(AN E [SV.LW]).toArray[i%(AN E [SV.LW]).toArray.size]!) e)) MS ⟨rfl,rfl,rfl⟩ (by show _<=(w.heap.push _).size;simp) (m:=⟨w.heap.size,0,false,n.toNat,m.toNat,none⟩) (l:=[w.heap.size]) (t:=a) (xss:=List.replicate n.toNat [])
  (fun b hb _=>CZ _ b hb) (by intro b hb;simp only[GG] at hb;subst hb;exact VX hG)
  (by
   intro E' L'
   refine⟨by simp,rfl,by simp, ?_,.inr ⟨rfl,by simp,by simp;omega,_,e,fun _=>⟨0,0,true,0,0,none⟩,SY _,by simp, ?_, ?_, ?_,fun _ _ he=>by cases he⟩⟩
   ·intro b hb
    simp only[GG] at hb;subst hb
    exact⟨hGn,hold,_,_,_,SY _⟩
   ·intro i hi
    simp only[V5] at hi
    rw[ARJ,Array.getElem?_range,AA (by simp;omega)]
    have:i%(AN E [SV.LW]).toArray.size=0:=Nat.mod_one i
    simp only[dO,this]
    rfl
   ·intro i xs hi _
    rw[AA6] at hi
    split at hi
    ·simp only[A_] at hi;subst hi
     exact⟨⟨rfl,trivial,.inl ⟨rfl,rfl,rfl⟩⟩,fun hx=>by cases hx⟩
    ·cases hi
   ·intro i j _ _ _ _ _ hx;cases hx)
 refine⟨_,_,_, ?_,.inl rfl,⟨G,g1⟩,g2,rfl,g3⟩
 simp only[execOp,GJ,hl,hcp,SV.den]
 rw[g4]
 exact C_ KD
theorem APF {len:Nat} (GJ:o.op= .buildSlice t len parts) (CL:∀ n e,AQ n=some e->look L n=some e) {DU:DN}
  (h:rX P AQ t len (parts.toList.map fun q=>(q.1,ρ q.2)) bs pr=some (v,DU)):FH TB P o ρ L v DU:=by
 unfold rX at h
 split at h
 rotate_left
 ·cases h
 rename_i e hu
 split at h
 rotate_left
 ·rename_i q a hq hz hty QI
  split at h
  rotate_left
  ·cases h
  rename_i hc
  obtain⟨sC,rfl,D8⟩:=hc
  simp only[pr,A_,DG] at h
  obtain⟨rfl,rfl⟩:=h
  have MS:look L bs=some .MB:=CL _ _ (by have:=DA D8 0 (by omega);simpa using this)
  refine BW fun c w E hh hw=> ?_
  obtain⟨G,hG⟩:=hh
  have KD:=WA (E:=E) (w:=w) (cs:=[.LW]) GJ hu hq hz (by rw[sC];rfl) (by rw[sC];omega) (by rw[QI];rfl) (by rw[QI,sC];rfl)
  have hold:¬c.Old w.heap.size:=fun hx=>by have:=hx.1;have:=hG.size;omega
  have hGn:¬G w.heap.size:=fun hx=>by have:=hG.gin _ hx;omega
  have SY:∀ (o:Obj),(w.alloc o).heap[w.heap.size]? =some o:=by
   intro o
   show (w.heap.push o)[w.heap.size]? =_
   simp
  have CZ:∀ (o:Obj) (b:Nat),b<w.heap.size->(w.alloc o).heap[b]? =w.heap[b]? :=by
   intro o b hb
   show (w.heap.push o)[b]? =_
   rw[tK,af]
  obtain⟨g1,g2,g3,g4⟩:=hG.AMV (w' :=w.alloc (.cells (AN E [SV.LW]).toArray e)) MS ⟨rfl,rfl,rfl⟩ (by show _<=(w.heap.push _).size;simp) (m:=⟨w.heap.size,0,false,1,1,none⟩) (l:=[w.heap.size]) (t:=a) (xss:=[[]])
   (fun b hb _=>CZ _ b hb) (by intro b hb;simp only[GG] at hb;subst hb;exact VX hG)
   (by
    intro E' L'
    refine⟨rfl,rfl,by simp, ?_,.inr ⟨rfl,by simp,by simp,_,e,fun _=>⟨0,0,true,0,0,none⟩,SY _,by simp [AN], ?_, ?_, ?_,fun _ _ he=>by cases he⟩⟩
    ·intro b hb
     simp only[GG] at hb;subst hb
     exact⟨hGn,hold,_,_,_,SY _⟩
    ·intro i hi
     simp only[Q5] at hi
     have:i=0:=by omega
     subst this
     rfl
    ·intro i xs hi _
     cases i with
     |succ i=>simp at hi
     |zero=>
      simp only[MU,A_] at hi;subst hi
      exact⟨⟨rfl,trivial,.inl ⟨rfl,rfl,rfl⟩⟩,fun hx=>by cases hx⟩
    ·intro i j _ _ _ _ _ hx;cases hx)
  refine⟨_,_,_,KD,.inl ?_,⟨G,g1⟩,g2,rfl,g3⟩
  simp only[SV.den];rw[g4];rfl
 ·cases h
 rename_i q a j hq hz hty QI
 split at h
 rotate_left
 ·cases h
 rename_i t' ys hj
 split at h
 rotate_left
 ·cases h
 rename_i he
 subst he
 split at h
 rotate_left
 ·cases h
 rename_i hc
 obtain⟨sC,rfl,D8⟩:=hc
 simp only[pr,A_,DG] at h
 obtain⟨rfl,rfl⟩:=h
 have MS:look L bs=some .MB:=CL _ _ (by have:=DA D8 0 (by omega);simpa using this)
 have bQ :=CL _ _ hj
 refine BW fun c w E hh hw=> ?_
 obtain⟨G,hG⟩:=hh
 have KD:=WA (E:=E) (w:=w) (cs:=[.NT j]) GJ hu hq hz (by rw[sC];rfl) (by rw[sC];omega) (by rw[QI];rfl) (by rw[QI,sC];rfl)
 have hold:¬c.Old w.heap.size:=fun hx=>by have:=hx.1;have:=hG.size;omega
 have hGn:¬G w.heap.size:=fun hx=>by have:=hG.gin _ hx;omega
 have Y6:=hG.kill (AR bQ)
 have hjb:j≠bs:=by rintro rfl;rw[bQ] at MS;cases MS
 have o_:look (DW L (j,.dead)) bs=some .MB:=by rw[BB (AR bQ),AE (fun he=>hjb he.symm)];exact MS
 have C6:=hG.MQ j _ bQ
 have hjo:(E.nm j).nil=false->(A9.row t' ys).ow E j (E.nm j).CN:=fun hn=> .inl (by simp [A9.own,hn])
 have SY:∀ (o:Obj),(w.alloc o).heap[w.heap.size]? =some o:=by
  intro o
  show (w.heap.push o)[w.heap.size]? =_
  simp
 have CZ:∀ (o:Obj) (b:Nat),b<w.heap.size->(w.alloc o).heap[b]? =w.heap[b]? :=by
  intro o b hb
  show (w.heap.push o)[b]? =_
  rw[tK,af]
 have DY:(E.nm j).nil=false->(E.nm j).CN<w.heap.size:=fun hn=>hG.lS bQ (hjo hn)
 obtain⟨g1,g2,g3,g4⟩:=Y6.AMV (w' :=w.alloc (.cells (AN E [SV.NT j]).toArray e)) o_ ⟨rfl,rfl,rfl⟩ (by show _<=(w.heap.push _).size;simp) (m:=⟨w.heap.size,0,false,1,1,none⟩) (l:=sA (E.nm j) [w.heap.size]) (t:=t') (xss:=[ys])
  (fun b hb _=>CZ _ b hb)
  (by
   intro b hb
   rcases M6.1 hb with hb|⟨hn,rfl⟩
   ·simp only[GG] at hb;subst hb;exact VX Y6
   ·exact mX hG bQ (hjo hn))
  (by
   intro E' L'
   have MR:=C6.inner
   refine⟨rfl,rfl, ?_, ?_,.inr ⟨rfl,M6.2 (.inl (by simp)),by simp,_,e,fun _=>E.nm j,SY _,by simp [AN], ?_, ?_, ?_,fun _ _ he=>by cases he⟩⟩
   ·unfold sA
    split
    ·simp
    ·rename_i hn
     have:=DY (by simpa using hn)
     simp;omega
   ·intro b hb
    rcases M6.1 hb with hb|⟨hn,rfl⟩
    ·simp only[GG] at hb;subst hb
     exact⟨hGn,hold,_,_,_,SY _⟩
    ·obtain⟨q1,q2, -⟩:=hG.Q7 bQ (hjo hn)
     obtain⟨-, -,YE⟩:=hG.MQ _ _ bQ
     rcases YE with ⟨hnn,_⟩|⟨_,_,_,_,arr,ty,q3,_⟩
     ·rw[hn] at hnn;cases hnn
     ·exact⟨q1,q2,arr,ty,_,by rw[CZ _ _ (DY hn)];exact q3⟩
   ·intro i hi
    simp only[Q5] at hi
    have:i=0:=by omega
    subst this
    rfl
   ·intro i xs hi _
    cases i with
    |succ i=>simp at hi
    |zero=>
     simp only[MU,A_] at hi
     subst hi
     refine⟨MR.mono (fun x vs hx=>Rp.mono (fun b hb=>CZ _ b (hG.gin b hb)) (fun _ h=>h) _ x vs hx) (fun hn=>CZ _ _ (DY hn)),fun hn=>⟨M6.2 (.inr ⟨hn,rfl⟩), ?_⟩⟩
     have:=DY hn
     show (E.nm j).CN≠w.heap.size
     omega
   ·intro i i' hi KM hii
    simp at hi KM
    omega)
 refine⟨_,_,_,KD,.inl ?_,⟨G,g1⟩,fun n hn=> ?_,rfl,g3⟩
 ·simp only[SV.den];rw[g4];rfl
 ·obtain⟨q1,q2⟩:=g2 n (BZ rfl n hn)
  exact⟨q1,q2⟩
theorem AAI {l cp:Operand} (GJ:o.op= .makeSlice t l cp) {CQ:Bool} (CL:∀ n e,AQ n=some e->look L n=some e) {DU:DN}
  (h:RU P AQ t (ρ l) (ρ cp) CQ bs pr=some (v,DU)):FH TB P o ρ L v DU:=by
 unfold RU at h
 split at h
 rotate_left
 ·cases h
 rename_i e hu
 split at h
 rotate_left
 ·cases h
 rename_i q z a k n k' m hq hz hty hl hcp
 split at h
 rotate_left
 ·cases h
 rename_i zv nes u0 hpz
 split at h
 rotate_left
 ·cases h
 rename_i hc
 obtain⟨hzl,iV,hqb,D8⟩:=hc
 split at h
 rotate_left
 ·cases h
 rename_i hn
 obtain⟨h0,h1,h2⟩:=hn
 simp only[pr,A_,DG] at h
 obtain⟨rfl,rfl⟩:=h
 have MS:look L bs=some .MB:=CL _ _ (by have:=DA D8 0 (by omega);simpa using this)
 refine BW fun c w E hh hw=> ?_
 obtain⟨G,hG⟩:=hh
 have A0Y:I64 m:=by
  have:(1:Int)<=q.bytes:=by omega
  have:m*1<=m*q.bytes:=AOM this (by omega)
  exact⟨by omega,by omega⟩
 have hrp:Rp G w a zv (AN E z):=by
  obtain⟨c1,e1,_,_,hd⟩:=KB E _ _ _ _ _ _ hpz
  rw[FP] at e1;subst e1
  rw[hd]
  refine Rp.mk _ _ _ fun k e he=> ?_
  obtain⟨g1,_⟩:=YX _ _ _ _ _ _ hpz
  rcases g1 k false e he with rfl|⟨t,ys,ne,hs,CW,rfl⟩|⟨t,s,ys,ne,uk,hs,CW,hsc,GR,rfl⟩
  ·trivial
  ·have hnf:D4 E nes k=ne.nm E:=by simp [D4,CW]
   rw[hnf]
   exact hs.ok (fun i t ys h=>by simp [I7] at h)
  have hnf:D4 E nes k=ne.nm E:=by simp [D4,CW]
  rw[hnf]
  exact rN (L:=L) hs (by simp) (B1.1 (o9 E hz) s hsc) (fun i t ys h=>by simp [I7] at h) (fun i t ys e _ h=>by simp [I7] at h)
 have YE:RowsIn (Rp G w a) a.sz ((Array.range (m.toNat*z.length)).map fun i=>(AN E z).toArray[i%(AN E z).toArray.size]!) 0 (List.replicate n.toNat zv):=by
  intro i x hx
  rw[AA6] at hx
  split at hx
  ·rename_i hi
   simp only[A_] at hx;subst hx
   have hzs:z.length=a.sz:=by omega
   have DY:(i+1)*a.sz<=m.toNat*a.sz:=wX _ (by omega)
   rw[SL] at DY
   have:BT ((Array.range (m.toNat*z.length)).map fun i=>(AN E z).toArray[i%(AN E z).toArray.size]!) (0+i*a.sz) a.sz=AN E z:=by
    apply XA
    intro j
    rw[CP]
    split
    ·rename_i hj
     rw[NV,ARJ,Array.getElem?_range,AA (by rw[hzs];omega)]
     have e1:(AN E z).toArray.size=a.sz:=by simp [AU,hzs]
     simp only[dO,e1]
     have ADS:(i*a.sz+j)%a.sz=j:=by rw[tP,Nat.mul_add_mod,rG hj]
     have vD:j<(AN E z).length:=by rw[AU,hzs];exact hj
     rw[ADS,O6 vD]
     simp [vD]
    ·rw[IF (by rw[AU];omega)]
   rw[this];exact hrp
  ·cases hx
 have hlen:(List.replicate n.toNat zv).length=n.toNat:=by simp
 obtain⟨f1,f2,f3⟩:=Hd.fin hG MS (w' :=w.alloc (.cells ((Array.range (m.toNat*z.length)).map fun i=>(AN E z).toArray[i%(AN E z).toArray.size]!) e)) (ty:=e) rfl ⟨rfl,rfl,rfl⟩ (a:=a) (xs:=List.replicate n.toNat zv) (cap:=m.toNat) CQ
  (by simp;rw[hzl,iV]) (by rw[hlen];omega) YE
 refine⟨_,_,_, ?_,.inl rfl,f1,f2,rfl,f3⟩
 simp only[execOp,GJ,hl,hcp,SV.den,Env.E_,Nm.ad,W_,KK,hlen]
 exact C_ (run_makeSlice (E:=E) w hu hq hz hzl h0 h1 h2 A0Y)
theorem APG (GJ:o.op= .alloc t) {CQ:Bool} (CL:∀ n e,AQ n=some e->look L n=some e) {DU:DN}
  (h:rW P AQ t CQ bs pr=some (v,DU)):FH TB P o ρ L v DU:=by
 unfold rW at h
 split at h
 rotate_left
 ·cases h
 rename_i z hz
 split at h
 rotate_left
 ·cases h
 rename_i D8
 have MS:look L bs=some .MB:=CL _ _ (by have:=DA D8 0 (by omega);simpa using this)
 have KD:∀ (E:Env) (w:World),(execOp (fun x=>(ρ x).den E) o).run P w= .ok (.value (.pointer (some ⟨w.heap.size,0,none⟩))) (w.alloc (.cells (AN E z).toArray t)):=by
  intro E w
  obtain⟨zv,hzr,hzc⟩:=VU (E:=E) (P:=P) w hz
  simp only[execOp,GJ]
  refine C_ ?_
  simp only[Instr.alloc,Sem.run_bind,hzr,Result.andThen]
  simp [xT,hzc]
 split at h
 ·rename_i len e _
  split at h
  rotate_left
  ·cases h
  rename_i a q hty hq
  split at h
  rotate_left
  ·cases h
  rename_i hc
  obtain⟨iV,hns,hlen⟩:=hc
  split at h
  rotate_left
  ·cases h
  rename_i xs u hp
  simp only[pr,A_,DG] at h
  obtain⟨rfl,rfl⟩:=h
  refine BW fun c w E hh hw=> ?_
  obtain⟨G,hG⟩:=hh
  obtain⟨l1,l2,l3⟩:=mW (L:=L) (c:=c) (G:=G) (w:=w) (E:=E) _ _ _ _ hp (o9 E hz) (lV .jO)
  obtain⟨f1,f2,f3⟩:=Hd.fin hG MS (w' :=w.alloc (.cells (AN E z).toArray t)) (ty:=t) rfl ⟨rfl,rfl,rfl⟩ (a:=a) (xs:=xs) (cap:=len) CQ (by simp [AU,l2]) (by omega) l3
  refine⟨_,_,_,KD E w,.inl ?_,f1,f2,rfl,⟨f3,by rw[Env.E_];show 0<xs.length;omega,by rw[Env.E_]⟩⟩
  simp only[SV.den,Env.E_]
  simp
 ·split at h
  rotate_left
  ·cases h
  simp only[pr,A_,DG] at h
  obtain⟨rfl,rfl⟩:=h
  refine BW fun c w E hh hw=> ?_
  obtain⟨G,hG⟩:=hh
  have hwz:∀ (E' :Env) (L' :AM),MT E' L' z/\AN E' z=AN E z:=by
   intro E' L'
   have:∀ (E1:Env) (L1:AM) (l:List Value),MT E1 L1 (l.map UC)/\AN E1 (l.map UC)=l:=fun E1 L1 l=>
    ⟨B1.2 fun v hv=>by obtain⟨u,_,rfl⟩:=DH.1 hv;exact AC8 E1 u,XP l⟩
   unfold OV at hz
   split at hz
   ·split at hz
    ·simp only[A_] at hz
     subst hz
     exact⟨(this _ _ _).1,by rw[(this E' L' _).2,(this E L _).2]⟩
    ·cases hz
   ·cases hz
  obtain⟨k1,k2⟩:=hG.sB MS (w' :=w.alloc (.cells (AN E z).toArray t)) (ob:= .cells (AN E z).toArray t (0,0)) rfl ⟨rfl,rfl,rfl⟩ (e:= .box z) (m:=⟨w.heap.size,0,false,0,0,none⟩) rfl ⟨rfl,rfl,rfl⟩
   (fun D8 hold hG CZ=>⟨rfl,rfl,hG,hold,⟨t,by rw[(hwz (E.set bs ⟨w.heap.size,0,false,0,0,none⟩) L).2,Nm.AMT _ rfl rfl];exact D8⟩,(hwz _ _).1⟩)
  refine⟨_,_,_,KD E w,.inl ?_,⟨G,k1⟩,k2,rfl, ?_⟩
  ·simp only[SV.den,Env.E_]
  ·exact⟨.box z,by show look (DW L (bs,.box z)) bs=_;rw[BB (AR MS),AA rfl],rfl⟩
variable {x:Operand}
theorem AWW (GJ:o.op= .box t x) (CL:∀ n e,AQ n=some e->look L n=some e) {DU:DN}
  (h:AP2 AQ (ρ x) bs pr=some (v,DU)):FH TB P o ρ L v DU:=by
 unfold AP2 at h
 split at h
 rotate_left
 ·cases h
 rename_i hc
 obtain⟨hr,D8⟩:=hc
 have MS:look L bs=some .MB:=CL _ _ (by have:=DA D8 0 (by omega);simpa using this)
 simp only[pr,A_,DG] at h
 obtain⟨rfl,rfl⟩:=h
 refine BW fun c w E hh hw=> ?_
 obtain⟨G,hG⟩:=hh
 have YW:=mK (E:=E) (ρ x) hr
 have N6:∀ m:Nm,MT (E.set bs m) (DW L (bs,.box (BN (ρ x)))) (BN (ρ x))/\AN (E.set bs m) (BN (ρ x))=AN E (BN (ρ x)):=by
  intro m
  exact MC (fun n hn=>BZ rfl n hn) (fun n hn=>E.H5 m (fun he=>FA (he ▸ MS) hn)) _ (RW (hw x))
 obtain⟨k1,k2⟩:=hG.sB MS (w' :=w.alloc (.cells (AN E (BN (ρ x))).toArray t)) (ob:= .cells (AN E (BN (ρ x))).toArray t (0,0)) rfl ⟨rfl,rfl,rfl⟩ (e:= .box (BN (ρ x))) (m:=⟨w.heap.size,0,false,0,0,none⟩) rfl ⟨rfl,rfl,rfl⟩
  (fun D8 hold hG CZ=>⟨rfl,rfl,hG,hold,⟨t,by rw[(N6 _).2,Nm.AMT _ rfl rfl];exact D8⟩,(N6 _).1⟩)
 refine⟨w.alloc (.cells (AN E (BN (ρ x))).toArray t),_,.value (.pointer (some ⟨w.heap.size,0,none⟩)), ?_,.inl ?_,⟨G,k1⟩,k2,rfl, ?_⟩
 ·simp only[execOp,GJ]
  refine C_ ?_
  simp [Instr.box,xT,YW]
 ·simp only[SV.den,Env.E_]
 ·exact⟨.box (BN (ρ x)),by show look (DW L (bs,.box (BN (ρ x)))) bs=_;rw[BB (AR MS),AA rfl],rfl⟩
end
theorem AC9:∀ (vs cs:List SV) (off:Nat),off+vs.length<=cs.length->EB cs off vs=cs.take off++vs++cs.drop (off+vs.length)
 | [],cs,off,h=>by simp [EB]
 |v::r,cs,off,h=>by
  simp only[NU] at h
  rw[EB,AC9 r _ _ (by rw[EG];omega)]
  have e1:(cs.set off v).take (off+1)=cs.take off++ [v]:=by
   rw[AM3,ALP (by omega),ARF (EH _)]
   rfl
  rw[e1,ARG (by omega),NU,show off+1+r.length=off+(r.length+1) from by omega]
  simp
variable {cs:List SV} {i j:Nat} {L:AM} {E:Env} {w:World} {G:Nat->Prop} {c:EX TB}
theorem AT.A3P (h:AT c G w E L) (hi:look L i=some (.box cs)) (hj:look L j=some .MB) (off n:Nat) (hn:off+n<=cs.length):
  AT c G w (E.set j { CN:=(E.nm i).CN,off:=(E.nm i).off+off,nil:=false,len:=0,cap:=0,XC:=none,pp:=⟨(E.nm i).pp.pre++AN E (cs.take off),AN E (cs.drop (off+n))++(E.nm i).pp.post⟩ }) (DW (DW L (i,.dead)) (j,.box ((cs.drop off).take n))):=by
 obtain⟨h1,h2,h3,h4,⟨ty,h5⟩,h6⟩:=h.MQ i _ hi
 have rT:j≠i:=by rintro rfl;rw[hi] at hj;cases hj
 have hk:=h.kill (AR hi)
 have hj1:look (DW L (i,.dead)) j=some .MB:=by rw[BB (AR hi),AE rT];exact hj
 have NX:∀ k,Al L k->k≠j:=fun k hk he=>FA hj (he ▸ hk)
 have CZ:∀ l,MT E L l->∀ m:Nm,MT (E.set j m) (DW (DW L (i,.dead)) (j,.box ((cs.drop off).take n))) l/\AN (E.set j m) l=AN E l:=fun l hl m=>
  MC (fun k hk=>BZ rfl k (BZ rfl k hk)) (fun k hk=>E.H5 m (NX k hk)) l hl
 have Y8:=B1.2 (fun v hv=>B1.1 h6 v (tJ (AA7 hv)):∀ v∈(cs.drop off).take n,v.wf E L)
 refine hk.change (i:=j) (e' := .box ((cs.drop off).take n)) (w' :=w) (AR hj1) (.refl _) (EH _) (fun hx=>absurd hx (FA hj1)) rfl (fun _ _ _=>rfl) ?_ ?_ ?_
 ·intro b hb
  simp only[A9.own,A_] at hb
  subst hb
  exact⟨h4,h3⟩
 ·intro k f hkj hf b hb he
  simp only[A9.own,A_] at he
  rw[BB (AR hi)] at hf
  by_cases lT:k=i
  ·subst lT;simp only[HP,A_] at hf;subst hf;rcases hb with hb|⟨hb,_⟩|⟨hb,_⟩ <;> cases hb
  ·rw[AE lT] at hf
   exact h.inj k i f (.box cs) b lT hf hi hb (.inl (by simp [A9.own,he]))
 ·intro _
  refine⟨rfl,by simp [h2,AU];omega,h3,h4,⟨ty, ?_⟩,(CZ _ Y8 _).1⟩
  rw[(CZ _ Y8 _).2,h5]
  congr 2
  simp only[Nm.arr]
  congr 1
  have e:cs=cs.take off++((cs.drop off).take n++cs.drop (off+n)):=by
   rw[<-ABL,AFT,AFT]
  conv=>lhs;rw[e]
  simp only[G7,I0]
theorem AT.A6D (h:AT c G w E L) {mL:List SV} (rT:i≠j) (hi:i<L.length) (hj:look L j=some (.box mL)) (off:Nat) (hn:off+mL.length<=cs.length)
  (hb:(E.nm j).CN=(E.nm i).CN) (VJ:(E.nm i).nil=false) (ho:(E.nm i).off=(E.nm i).pp.pre.length)
  (A6E:(E.nm j).pp.pre=(E.nm i).pp.pre++AN E (cs.take off)) (A3Q:(E.nm j).pp.post=AN E (cs.drop (off+mL.length))++(E.nm i).pp.post) (hcs:MT E L cs):
  AT c G w E (DW (DW L (j,.dead)) (i,.box (EB cs off mL))):=by
 obtain⟨h1,h2,h3,h4,⟨ty,h5⟩,h6⟩:=h.MQ j _ hj
 have hk:=h.kill (AR hj)
 have XF:E.set i (E.nm i)=E:=by
  refine MD (fun k=> ?_) rfl (fun _=>rfl)
  by_cases hk:k=i
  ·subst hk;rw[Env.E_]
  ·exact E.H5 _ hk
 have:=hk.change (i:=i) (e' := .box (EB cs off mL)) (m:=E.nm i) (w' :=w) (by rw[GQ];exact hi) (.refl _) (EH _) (fun _=>rfl) rfl (fun _ _ _=>rfl) ?_ ?_ ?_
 ·rw[XF] at this;exact this
 ·intro b UB
  simp only[A9.own,A_] at UB
  subst UB
  rw[<-hb]
  exact⟨h4,h3⟩
 ·intro k f lT hf b UB he
  simp only[A9.own,A_] at he
  rw[BB (AR hj)] at hf
  by_cases hkj:k=j
  ·subst hkj;simp only[HP,A_] at hf;subst hf;rcases UB with UB |⟨UB,_⟩|⟨UB,_⟩ <;> cases UB
  ·rw[AE hkj] at hf
   exact h.inj k j f (.box mL) b hkj hf hj UB (.inl (by simp [A9.own,hb,he]))
 ·intro _
  rw[XF]
  refine⟨VJ,ho,by rw[<-hb];exact h3,by rw[<-hb];exact h4,⟨ty, ?_⟩, ?_⟩
  ·rw[<-hb,h5]
   congr 2
   simp only[Nm.arr]
   rw[AC9 _ _ _ hn,A6E,A3Q]
   simp only[G7,I0]
  ·refine (MC (fun k hk=>BZ rfl k (BZ rfl k hk)) (fun _ _=>rfl) _ ?_).1
   refine B1.2 fun u hu=> ?_
   rcases mV hu with hu|hu
   ·exact B1.1 hcs u hu
   ·exact B1.1 h6 u hu
variable {v:SV} {AQ:Nat->Option A9} {P:Program}
theorem ASK {fi:FnI} {base:Nat} {args:List SV} {DU:DN} (h:ABZ fi base AQ args (fun v u=>some (v,u))=some (v,DU)) {f:FuncId} (hc:CallsV P TB f fi)
  (CL:∀ n e,AQ n=some e->look L n=some e) (hh:Hd c w E L) (hw:MT E L args):
  Calls P f (AN E args).toArray w (fun e w' =>∃ E',e= .returned (v.den E')/\Hd c w' E' (AJ L DU)/\(∀ n,Al L n->E'.nm n=E.nm n/\Al (AJ L DU) n)/\E'.ds=E.ds/\v.wf E' (AJ L DU)):=by
 unfold ABZ at h
 split at h
 ·exact xR h hc CL hh hw
 rename_i p i off n cs hf
 have hfp:OY AQ fi.ps args 0=some (p,i,off,n,cs):=by
  split at hf
  ·exact hf
  ·cases hf
 obtain⟨-,hap,hbx⟩:=tZ _ _ _ hfp
 rw[AG8] at hap
 split at h
 rotate_left
 ·cases h
 rename_i hck
 obtain⟨hn,D8⟩:=hck
 generalize hj:base+(cnts fi.rs+XE fi.os)=j at h D8
 have hjr:=CL _ _ (DA D8 0 (by omega))
 rw[P6] at hjr
 have hbi:=CL _ _ hbx
 obtain⟨G,hG⟩:=hh
 obtain⟨h1,h2,h3,h4, -,h6⟩:=hG.MQ i _ hbi
 have hcv:=hG.A3P hbi hjr off n hn
 generalize hm:({ CN:=(E.nm i).CN,off:=(E.nm i).off+off,nil:=false,len:=0,cap:=0,XC:=none,pp:=⟨(E.nm i).pp.pre++AN E (cs.take off),AN E (cs.drop (off+n))++(E.nm i).pp.post⟩ }:Nm)=m at hcv
 have rT:j≠i:=by rintro rfl;rw[hbi] at hjr;cases hjr
 have NX:∀ k,Al L k->k≠j:=fun k hk he=>FA hjr (he ▸ hk)
 have ADP:∀ k,Al L k->Al (DW (DW L (i,.dead)) (j,.box ((cs.drop off).take n))) k:=fun k hk=>BZ rfl k (BZ rfl k hk)
 have CZ:∀ l,MT E L l->MT (E.set j m) (DW (DW L (i,.dead)) (j,.box ((cs.drop off).take n))) l/\AN (E.set j m) l=AN E l:=fun l hl=>
  MC ADP (fun k hk=>E.H5 m (NX k hk)) l hl
 have hjL:j<(DW L (i,A9.dead)).length:=by rw[GQ];exact AR hjr
 have iU:look (DW (DW L (i,.dead)) (j,.box ((cs.drop off).take n))) j=some (.box ((cs.drop off).take n)):=by rw[BB hjL,AA rfl]
 have hi2:look (DW (DW L (i,.dead)) (j,.box ((cs.drop off).take n))) i=some .dead:=by rw[BB hjL,AE (fun he=>rT he.symm),BB (AR hbi),AA rfl]
 rw[Y5,AFR] at h
 obtain⟨⟨v0,u⟩,AML,h⟩:=h
 simp only at h
 split at h
 rotate_left
 ·cases h
 rename_i mL hlb
 split at h
 rotate_left
 ·cases h
 rename_i hlen
 simp only[A_,DG] at h
 obtain⟨rfl,rfl⟩:=h
 have M8:MT (E.set j m) (DW (DW L (i,.dead)) (j,.box ((cs.drop off).take n))) (args.set p (.loc j 0)):=by
  refine B1.2 fun x hx=> ?_
  rcases ALJ hx with hx|rfl
  ·exact B1.1 (CZ _ hw).1 x hx
  ·exact⟨_,iU,rfl⟩
 have mR:AN (E.set j m) (args.set p (.loc j 0))=AN E args:=by
  rw[dU]
  rw[(CZ _ hw).2]
  apply XA
  intro k
  rw[wR]
  split
  ·rename_i hpk
   subst hpk
   rw[F_,hap]
   have DY:p<(AN E args).length:=by rw[AU];exact (AA4.1 hap).1
   rw[AA DY,dO]
   simp only[SV.den,Env.E_,←hm,P6]
  ·rfl
 have hr:=xR AML hc (L:=DW (DW L (i,.dead)) (j,.box ((cs.drop off).take n))) (fun k e he=>by
  split at he
  ·cases he
  ·rename_i lT
   split at he
   ·rename_i hkj
    subst hkj
    simp only[A_] at he
    subst he
    exact iU
   ·rename_i hkj
    rw[BB hjL,AE hkj,BB (AR hbi),AE lT]
    exact CL _ _ he) ⟨G,hcv⟩ M8
 rw[mR] at hr
 refine hr.mono ?_
 rintro e w' ⟨E',he,⟨G',hH⟩,hnm,hds,hv⟩
 have hj3:look (AJ (DW (DW L (i,.dead)) (j,.box ((cs.drop off).take n))) u) j=some (.box mL):=xS j u (DW (DW L (i,.dead)) (j,.box ((cs.drop off).take n))) none (fun _ h=>by cases h) (by rw[GQ];exact hjL) hlb
 have A0Z:∀ k,Al L k->Al (AJ (DW (DW L (i,.dead)) (j,.box ((cs.drop off).take n))) u) k:=fun k hk=>(hnm k (ADP k hk)).2
 have A10:∀ k,Al L k->E'.nm k=E.nm k:=fun k hk=>by rw[(hnm k (ADP k hk)).1,E.H5 m (NX k hk)]
 have hnj:E'.nm j=m:=by rw[(hnm j ⟨_,iU,rfl⟩).1,Env.E_]
 have UG:E'.nm i=E.nm i:=A10 i ⟨_,hbi,rfl⟩
 have hcs:∀ l,(∀ x∈l,x∈cs)->MT E' (AJ (DW (DW L (i,.dead)) (j,.box ((cs.drop off).take n))) u) l/\AN E' l=AN E l:=fun l hl=>
  MC A0Z A10 l (B1.2 fun x hx=>B1.1 h6 x (hl x hx))
 have A3R:=hH.A6D (i:=i) (j:=j) (cs:=cs) (fun he=>rT he.symm) (AR (A0Z i ⟨_,hbi,rfl⟩).choose_spec.1) hj3 off (by rw[hlen];exact hn)
  (by rw[hnj,UG,←hm]) (by rw[UG];exact h1) (by rw[UG];exact h2)
  (by rw[hnj,UG,(hcs _ (fun x hx=>AA7 hx)).2,←hm]) (by rw[hnj,UG,hlen,(hcs _ (fun x hx=>tJ hx)).2,←hm]) (hcs cs fun _ h=>h).1
 have eu:AJ L ([(i,.dead),(j,.box ((cs.drop off).take n))]++(u++ [(j,.dead),(i,.box (EB cs off mL))]))=DW (DW (AJ (DW (DW L (i,.dead)) (j,.box ((cs.drop off).take n))) u) (j,.dead)) (i,.box (EB cs off mL)):=by
  rw[BS,BS]
  rfl
 rw[eu]
 refine⟨E',he,⟨G',A3R⟩,fun k hk=>⟨A10 k hk,BZ rfl k (BZ rfl k (A0Z k hk))⟩,hds, ?_⟩
 exact (Z7 (fun k hk=>BZ rfl k (BZ rfl k hk)) (fun _ _=>rfl) v0 hv).1
theorem ASL {d:Bool} {fi:FnI} {base:Nat} {args:List SV} {DU:DN} (h:AMM d fi base AQ args (fun v u=>some (v,u))=some (v,DU)) {f:FuncId} (hc:CallsV P TB f fi)
  (CL:∀ n e,AQ n=some e->look L n=some e) (hh:Hd c w E L) (hw:MT E L args):
  Calls P f (AN E args).toArray w (fun e w' =>∃ E',e= .returned (v.den E')/\Hd c w' E' (AJ L DU)/\(∀ n,Al L n->E'.nm n=E.nm n/\Al (AJ L DU) n)/\E'.ds=E.ds/\v.wf E' (AJ L DU)):=by
 cases d
 ·exact ASK h hc CL hh hw
 ·exact AS4 h hc CL hh hw
end Go.V3
namespace Go.V3
open Go
variable {TB:Tb}
section
variable {P:Program} {AQ:Nat->Option A9} {L:AM}
def Rd {α:Type} (R:α->List Value->Prop) (sz:Nat) (w:World) (m:Nm) (xs:List α):Prop:=
 m.len=xs.length/\m.len<=m.cap/\(xs=[]\/(m.nil=false/\∃ arr ty fz,w.heap[m.CN]? =some (.cells arr ty fz)/\RowsIn R sz arr m.off xs))
variable {n:Nat} {m:Nm} {w:World} {α:Type}
theorem AK8 {R:α->List Value->Prop} {sz:Nat} {xs:List α} (h:Rd R sz w m xs) {lo:Nat} (hl:lo+n<=m.len):
  Rd R sz w (if m.cap=lo then { CN:=m.CN,off:=m.off,nil:=m.nil,len:=n,cap:=m.cap-lo,XC:=m.XC,fz:=m.fz } else { CN:=m.CN,off:=m.off+lo*sz,nil:=m.nil,len:=n,cap:=m.cap-lo,XC:=rI m.XC (lo*sz),fz:=m.fz }) (BF xs lo n):=by
 obtain⟨h1,h0,h2⟩:=h
 have hs:rA R sz (fun _=>True) w m xs:=⟨h1,h0,h2.imp id fun ⟨a,b⟩=>⟨a,trivial,b⟩⟩
 obtain⟨k1,k0,k2⟩:=oO hs hl
 exact⟨k1,k0,k2.imp id fun ⟨a,_,b⟩=>⟨a,b⟩⟩
variable {G:Nat->Prop} {c:EX TB}
theorem x6 {R:α->List Value->Prop} {sz:Nat} {xs:List α} (h:Own R sz c G w m xs):Rd R sz w m xs:=by
 have hc:=iH h
 obtain⟨h1,h2,h3⟩:=h
 refine⟨h1,hc, ?_⟩
 rcases h3 with ⟨_,h4,_⟩|⟨h4,h5,h6,h7,arr,ty,h8,h9,h10⟩
 ·exact .inl h4
 ·exact .inr ⟨h4,arr,ty,_,h8,h10⟩
theorem AWX {R:α->List Value->Prop} {sz:Nat} {xs:List α} (h:Own R sz c G w m xs) (hn:n<=xs.length):Own R sz c G w (m.cut n) (BF xs 0 n):=by
 obtain⟨h1,h2,h3⟩:=h
 have hl:(BF xs 0 n).length=n:=by unfold BF;simp;omega
 refine⟨hl.symm,h2, ?_⟩
 rcases h3 with ⟨h4,rfl,h6⟩|⟨h4,h5,h6,h7,arr,ty,h8,h9,h10⟩
 ·exact .inl ⟨h4,by simp [BF],h6⟩
 ·refine .inr ⟨h4,h5,h6,by show _<=m.cap;omega,arr,ty,h8,h9,fun k x hk=>h10 k x ?_⟩
  unfold BF at hk
  rw[xA,n_] at hk
  split at hk
  ·exact hk
  ·cases hk
theorem AK9 {R:α->List Value->Prop} {sz:Nat} {xs:List α} (h:rA R sz G w m xs):Rd R sz w m xs:=
 ⟨h.1,h.2.1,h.2.2.imp id fun ⟨a,_,b⟩=>⟨a,b⟩⟩
variable {E:Env} {u:DN} {v:SV} {a:Ty}
theorem AH7 {md:PM} {xs:List a.T} {ne:NE} (h:N4 md AQ a v=some (xs,ne,u)) (xL:md≠ .own) (HN:XV AQ v=false) (hv:v.wf E L) 
  (h1:∀ i t ys,AQ i=some (.shr t ys)\/AQ i=some (.row t ys)->Rd (Rp G w t) t.sz w (E.nm i) ys):Rd (Rp G w a) a.sz w (ne.nm E) xs:=by
 unfold N4 at h
 repeat' split at h
 all_goals first|(cases h;done)|skip
 all_goals (simp only[A_,DG] at h;obtain⟨rfl,rfl,rfl⟩:=h)
 all_goals first|exact absurd rfl xL|skip
 ·exact⟨rfl,EH _,.inl rfl⟩
 ·rename_i hl he _ _;subst he;exact h1 _ _ _ (.inl hl)
 ·rename_i hl he _;subst he;exact h1 _ _ _ (.inr hl)
 ·rename_i hl he _;subst he;exact h1 _ _ _ (.inr hl)
 ·rename_i hl he _;simp [XV,hl] at HN
 ·rename_i hl he _;simp [XV,hl] at HN
 ·rename_i hl he _;simp [XV,hl] at HN
 ·rename_i hl he _;simp [XV,hl] at HN
 ·rename_i hz _ _ _ hl he _ _;subst he;subst hz;exact AK8 (h1 _ _ _ (.inl hl)) hv.2
 ·rename_i hz _ _ _ hl he _;subst he;subst hz;exact AK8 (h1 _ _ _ (.inr hl)) hv.2
 ·rename_i hz _ _ _ hl he _;subst he;subst hz;exact AK8 (h1 _ _ _ (.inr hl)) hv.2
variable {off:Nat}
theorem APH {arr:Array Value} {xs:List a.T} (h:RowsIn (Rp G w a) a.sz arr off xs) (hx:xs≠[]):off+xs.length*a.sz<=arr.size:=by
 have DY:xs.length-1<xs.length:=by
  cases xs with
  |nil=>exact absurd rfl hx
  |cons _ _=>simp
 have:=h (xs.length-1) _ (O6 DY)
 have h2:=uB this.length (AJK a)
 have e:(xs.length-1)*a.sz+a.sz=xs.length*a.sz:=by
  rw[<-Nat.succ_mul];congr 1;omega
 omega
theorem x7 {xs:List a.T} (h:Rd (Rp G w a) a.sz w m xs):∃ cells:List Value,cells.length=xs.length*a.sz∧
  (∀ w' :World,w'.heap=w.heap->(Builtin.firstCells a.sz xs.length (.slice m.ad m.len m.cap)).run P w' = .ok cells.toArray w')∧
  (∀ (arr:Array Value) (o:Nat),BT arr o (xs.length*a.sz)=cells->RowsIn (Rp G w a) a.sz arr o xs)/\Flat cells:=by
 obtain⟨h1,h0,h2⟩:=h
 rcases h2 with rfl|⟨hn,arr,ty,fz,h3,h4⟩
 ·refine⟨[],by simp,fun w' _=> ?_,fun arr o _ i x hx=>by simp at hx,fun v hv=>by cases hv⟩
  cases had:m.ad with
  |none=>rfl
  |some p=>
   have:=run_loadCells_list (P:=P) w' p [] (fun j v hj=>by simp at hj)
   show (loadCells p (0*a.sz)).run P w' =_
   rw[ABN];exact this
 ·by_cases hx:xs=[]
  ·subst hx
   refine⟨[],by simp,fun w' _=> ?_,fun arr o _ i x hx=>by simp at hx,fun v hv=>by cases hv⟩
   cases had:m.ad with
   |none=>rfl
   |some p=>
    have:=run_loadCells_list (P:=P) w' p [] (fun j v hj=>by simp at hj)
    show (loadCells p (0*a.sz)).run P w' =_
    rw[ABN];exact this
  ·have hs:=APH h4 hx
   refine⟨BT arr m.off (xs.length*a.sz),by unfold BT;simp;omega,fun w' hw' => ?_,fun Z8 o he=>h4.AGV he, ?_⟩
   ·rw[<-h1]
    exact V_ hn (by rw[hw'];exact h3) (by rw[h1];exact hs)
   ·intro v hv
    obtain⟨j,hj,rfl⟩:=wP hv
    have vD:j<xs.length*a.sz:=by unfold BT at hj;simp at hj;omega
    have b8:=AJK a
    have hq:j / a.sz<xs.length:=Nat.div_lt_of_lt_mul (by rw[tP];exact vD)
    have hr:=h4 (j / a.sz) _ (O6 hq)
    refine Rp.AMN a _ _ hr _ ?_
    have ADS:=Nat.div_add_mod j a.sz
    rw[tP] at ADS
    have hml:=ABP j b8
    have:(BT arr (m.off+j / a.sz*a.sz) a.sz)[j%a.sz]? =(BT arr m.off (xs.length*a.sz))[j]? :=by
     rw[CP,CP,AA hml,AA vD]
     congr 1;omega
    rw[O6 hj] at this
    exact bZ this
variable {bs:Nat}
theorem iW {xs:List a.T} (CQ:Bool) (hb:bs<L.length) (h:AT c G w E (DW L (bs,.row a xs))):
  Hd c w E (AJ L (fin CQ bs a xs))/\(∀ n,Al (DW L (bs,.row a xs)) n->Al (AJ L (fin CQ bs a xs)) n)/\Al (AJ L (fin CQ bs a xs)) bs:=by
 have CL:look (DW L (bs,.row a xs)) bs=some (.row a xs):=by rw[BB hb,AA rfl]
 cases CQ with
 |true=>exact⟨⟨G,h⟩,fun _ hn=>hn,⟨_,CL,rfl⟩⟩
 |false=>exact⟨⟨_,h.freeze CL⟩,fun n hn=>BZ rfl n hn,BZ rfl bs ⟨_,CL,rfl⟩⟩
variable {ts:Array TypeId} {args:Array Operand} {ρ:Operand->SV} {o:Oper}
set_option maxHeartbeats 1000000 in
theorem AKA (GJ:o.op= .call { callee:= .builtin .append,args:=args,argTypes:=ts }) {x y:SV} (M8:args.toList.map ρ=[x,y])
  {CQ:Bool} (CL:∀ n e,AQ n=some e->look L n=some e) (HN:XV AQ y=false) {DU:DN} (h:iS P AQ ts.toList x y CQ bs pr=some (v,DU)):FH TB P o ρ L v DU:=by
 unfold iS at h
 split at h
 rotate_left
 ·cases h
 rename_i t0 t1 hts
 split at h
 rotate_left
 ·cases h
 rename_i e e1 hu hu1
 split at h
 rotate_left
 ·cases h
 rename_i q z a hq hz hty
 split at h
 rotate_left
 ·cases h
 rename_i hc
 obtain⟨hzl,iV,hqb,D8⟩:=hc
 split at h
 rotate_left
 ·cases h
 rename_i xs ne1 u1 ys ne u2 rP hp2
 split at h
 rotate_left
 ·cases h
 rename_i Y2
 split at h
 rotate_left
 ·cases h
 rename_i hby
 simp only[pr,A_,DG] at h
 obtain⟨rfl,rfl⟩:=h
 have MS:look L bs=some .MB:=CL _ _ (by have:=DA D8 0 (by omega);simpa using this)
 obtain⟨zv,hzv⟩:∃ zv,q.zero=some zv:=by
  unfold OV at hz
  rw[hq] at hz
  simp only at hz
  split at hz
  ·exact⟨_,by assumption⟩
  ·cases hz
 have hzc:zv.cells.size=a.sz:=by
  unfold OV at hz
  rw[hq] at hz
  simp only[hzv,A_] at hz
  have:z.length=zv.cells.size:=by rw[<-hz];simp
  omega
 have vE:ts[0]? =some t0:=by rw[<-mH,hts];rfl
 have vF:ts[1]? =some t1:=by rw[<-mH,hts];rfl
 refine BW fun c w E hh hw=> ?_
 obtain⟨G,hG⟩:=hh
 have SN:∀ u∈[x,y],u.wf E L:=by
  rw[<-M8]
  intro u hu
  obtain⟨k,_,rfl⟩:=DH.1 hu
  exact hw k
 have xL:PM.dY≠ .own:=by simp
 have ADR:∀ q∈u2,∃ t ys e,AQ q.1=some e/\b9 e t ys/\q.2= .shr t ys:=by
  intro q SR
  rcases rM hp2 with rfl|⟨i,t',ys',e',hl,hoe,_,_,rfl⟩|hx
  ·cases SR
  ·rw[GG] at SR;subst SR;exact⟨t',ys',e',hl,hoe,rfl⟩
  ·exact absurd hx xL
 obtain⟨G1,k1,k2,k3,k4,k5⟩:=hG.known CL ADR
 have A11:∀ i t zs,AQ i=some (.shr t zs)\/AQ i=some (.row t zs)->Rd (Rp G1 w t) t.sz w (E.nm i) zs:=by
  intro i t zs hl
  rcases hl with hl|hl
  ·exact AK9 (k3.shr i t zs hl)
  ·have:=hG.MQ i _ (CL _ _ hl)
   have h2:=x6 this
   exact⟨h2.1,h2.2.1,h2.2.2.imp id fun ⟨p1,arr,ty,fz,p2,p3⟩=>⟨p1,arr,ty,fz,p2,p3.imp fun x vs hx=>Rp.mono (fun _ _=>rfl) k5 t x vs hx⟩⟩
 have A3S:Rd (Rp G1 w a) a.sz w (ne.nm E) ys:=AH7 hp2 xL HN (SN y (by simp)) A11
 have hy:=rL hp2 E
 have o_:look (AJ L u2) bs=some .MB:=by
  rw[k4 bs];exact MS
  intro hx
  obtain⟨q',SR,he⟩:=DH.1 hx
  obtain⟨t',ys',e',hl,hoe,_⟩:=ADR q' SR
  have:=CL _ _ hl
  rw[he,MS] at this;cases this;cases hoe
 have uD:∀ (w' :World) (r:Value) (X:Value),x.den E=X->(Builtin.append_ ts o.type #[X,.slice (ne.nm E).ad (ne.nm E).len (ne.nm E).cap]).run P w= .ok r w' ->(execOp (fun x=>(ρ x).den E) o).run P w= .ok (.value r) w' :=by
  intro w' r X hX hr
  have mY :(args.map fun x=>(ρ x).den E)= #[X,.slice (ne.nm E).ad (ne.nm E).len (ne.nm E).cap]:=by
   apply dT
   have:(args.toList.map ρ).map (SV.den E)=[X,.slice (ne.nm E).ad (ne.nm E).len (ne.nm E).cap]:=by rw[M8];simp [hX,hy]
   rw[XB] at this
   rw[lO]
   exact this
  simp only[execOp,GJ,resolve,invoke,Sem.run_bind,Sem.run_pure,Result.andThen,mY,builtin,hr]
 obtain⟨news,n1,n2,n3,n4⟩:=x7 (P:=P) A3S
 have XX:=A3S.1
 have AMW:∀ (L2:AM) (od:Option Addr),AT c G1 w E L2->look L2 bs=some .MB->xs++ys=[]->AJ L (u2++u1++fin CQ bs a (xs++ys))=AJ L2 (fin CQ bs a (xs++ys))->(∀ n,Al L n->Al L2 n)→
   (execOp (fun x=>(ρ x).den E) o).run P w= .ok (.value (.slice od 0 0)) w→
   ∃ (w' :World) (E' :Env) (nx:Next),(execOp (fun x=>(ρ x).den E) o).run P w= .ok nx w' /\(nx= .value ((SV.NT bs).den E')\/(nx= .skip/\(SV.NT bs)=BK))∧
   Hd c w' E' (AJ L (u2++u1++fin CQ bs a (xs++ys)))/\(∀ n,Al L n->E'.nm n=E.nm n/\Al (AJ L (u2++u1++fin CQ bs a (xs++ys))) n)/\E'.ds=E.ds/\(SV.NT bs).wf E' (AJ L (u2++u1++fin CQ bs a (xs++ys))):=by
  intro L2 od hH hr VJ ADR NX KD
  rw[ADR,VJ]
  have h1:=hH.change (i:=bs) (e' := .row a []) (m:=⟨0,0,true,0,0,od⟩) (w' :=w) (AR hr) (.refl _) (EH _) (fun hx=>absurd hx (FA hr)) rfl (fun _ _ _=>rfl) (fun b hb=>by cases hb) (fun _ _ _ _ _ _ hb=>by cases hb)
   (fun _=>⟨rfl,trivial,.inl ⟨rfl,rfl,rfl⟩⟩)
  obtain⟨f1,f2,f3⟩:=iW CQ (AR hr) h1
  refine⟨w,E.set bs ⟨0,0,true,0,0,od⟩,_,KD,.inl ?_,f1,fun n hn=>⟨E.H5 _ (fun he=>FA (he ▸ MS) hn),f2 n (BZ rfl n (NX n hn))⟩,rfl,f3⟩
  simp [SV.den,Env.E_,Nm.ad]
 have AH8:∀ (L2:AM) (m:Nm),AT c G1 w E L2->look L2 bs=some .MB->Rd (Rp G1 w a) a.sz w m xs->x.den E= .slice m.ad m.len m.cap->m.cap<m.len+(ne.nm E).len->AJ L (u2++u1++fin CQ bs a (xs++ys))=AJ L2 (fin CQ bs a (xs++ys))->(∀ n,Al L n->Al L2 n)→
   ∃ (w' :World) (E' :Env) (nx:Next),(execOp (fun x=>(ρ x).den E) o).run P w= .ok nx w' /\(nx= .value ((SV.NT bs).den E')\/(nx= .skip/\(SV.NT bs)=BK))∧
   Hd c w' E' (AJ L (u2++u1++fin CQ bs a (xs++ys)))/\(∀ n,Al L n->E'.nm n=E.nm n/\Al (AJ L (u2++u1++fin CQ bs a (xs++ys))) n)/\E'.ds=E.ds/\(SV.NT bs).wf E' (AJ L (u2++u1++fin CQ bs a (xs++ys))):=by
  intro L2 m hH hr ADT hx x8 ADR NX
  rw[ADR]
  obtain⟨olds,o1,o2,o3,o4⟩:=x7 (P:=P) ADT
  obtain⟨c',hc',KD⟩:=run_append_grow (P:=P) (w:=w) (ty:=o.type) (a:=m.ad) (b:=(ne.nm E).ad) (len:=m.len) (cap:=m.cap) (n:=(ne.nm E).len) (c:=(ne.nm E).cap) (news:=news) (olds:=olds) vE vF hu hu1 hq hzv hqb
   (by rw[iV];have:=n2 w.drew rfl;rw[XX];rw[XX] at this;exact this)
   (by rw[iV];have:=o2 w.drew rfl;rw[ADT.1];rw[ADT.1] at this;exact this) x8 (by rw[ADT.1,XX];exact hby)
  have b8:(olds.toArray++news.toArray++Builtin.zeroCells zv.cells (c' -(m.len+(ne.nm E).len))).size=c' *a.sz:=by
   have hzs:(Builtin.zeroCells zv.cells (c' -(m.len+(ne.nm E).len))).size=(c' -(m.len+(ne.nm E).len))*a.sz:=by
    simp [Builtin.zeroCells,hzc]
   simp only[Array.size_append,hzs,List.size_toArray,o1,n1]
   rw[<-ADT.1,←XX,←SL,←SL]
   congr 1;omega
  have YE:RowsIn (Rp G1 w a) a.sz (olds.toArray++news.toArray++Builtin.zeroCells zv.cells (c' -(m.len+(ne.nm E).len))) 0 (xs++ys):=by
   refine RowsIn.append (o3 _ _ ?_) ?_
   rotate_left
   rw[NV]
   refine n3 _ _ ?_
   rotate_left
   ·apply XA
    intro j
    rw[CP]
    split
    ·rw[NV,AFP (by simp;omega),AFP (by simp;omega)];simp
    ·rw[IF (by omega)]
   ·apply XA
    intro j
    rw[CP]
    split
    ·rw[AFP (by simp;omega),AR2 (by simp;omega)]
     simp only[List.size_toArray,o1,wN]
     congr 1;omega
    ·rw[IF (by omega)]
  obtain⟨h1,h2⟩:=hH.sB hr (w' :=w.drew.alloc (.cells (olds.toArray++news.toArray++Builtin.zeroCells zv.cells (c' -(m.len+(ne.nm E).len))) e)) (ob:= .cells (olds.toArray++news.toArray++Builtin.zeroCells zv.cells (c' -(m.len+(ne.nm E).len))) e (0,0)) rfl ⟨rfl,rfl,rfl⟩ (e:= .row a (xs++ys)) (m:=⟨w.heap.size,0,false,(xs++ys).length,c',none⟩) rfl ⟨rfl,rfl,rfl⟩
   (fun D8 hold hG CZ=>⟨rfl,trivial,.inr ⟨rfl,hG,hold,by have:=ADT.1;simp;omega,_,e,D8,by rw[b8];show 0+c' *a.sz<=_;omega,YE.imp fun x vs hx=>Rp.mono CZ (fun _ h=>h) a x vs hx⟩⟩)
  obtain⟨f1,f2,f3⟩:=iW CQ (AR hr) h1
  refine⟨_,_,_,uD _ _ _ hx KD,.inl ?_,f1,fun n hn=>⟨E.H5 _ (fun he=>FA (he ▸ MS) hn),f2 n (BZ rfl n (NX n hn))⟩,rfl,f3⟩
  have hlen:m.len+(ne.nm E).len=(xs++ys).length:=by rw[ADT.1,XX];simp
  simp [SV.den,Env.E_,Nm.ad,hlen]
 rcases AGJ rP with ⟨rfl,rfl,rfl,rfl⟩|⟨i,zs,nn,hl,rfl,hxs,A6F⟩
 ·
  have hxd:SV.LW.den E= .slice none 0 0:=rfl
  have ACA:AJ L (u2++ []++fin CQ bs a ([]++ys))=AJ (AJ L u2) (fin CQ bs a ([]++ys)):=by simp [BS]
  by_cases hn:ys=[]
  ·have n8:(ne.nm E).len=0:=by rw[XX,hn];rfl
   refine AMW (AJ L u2) none k1 o_ (by simp [hn]) ACA k2 ?_
   refine uD w _ _ hxd ?_
   have:=JJ (P:=P) (w:=w) (w' :=w) (ty:=o.type) (a:=none) (b:=(ne.nm E).ad) (len:=0) (cap:=0) (n:=(ne.nm E).len) (c:=(ne.nm E).cap) (news:=news) vE vF hu hu1 hq
    (by rw[iV];have:=n2 w rfl;rw[XX];rw[XX] at this;exact this) (by omega) rfl
   rw[n8] at this
   rw[n8];exact this
  ·refine AH8 (AJ L u2) ⟨0,0,true,0,0,none⟩ k1 o_ ⟨rfl,EH _,.inl rfl⟩ (by rw[hxd];rfl) ?_ ACA k2
   have:0<ys.length:=by
    cases ys with
    |nil=>exact absurd rfl hn
    |cons _ _=>simp
   show 0<0+(ne.nm E).len
   omega
 ·
  have A6G:i∉u2.map (·.1):=by
   intro hx
   obtain⟨q',SR,he⟩:=DH.1 hx
   have:=KI.1 Y2 (i,.dead) (by simp)
   have:=KI.1 this q' SR
   simp [he] at this
  have hli:look (AJ L u2) i=some (.row a zs):=by rw[k4 i A6G];exact CL _ _ hl
  have AZ1:=k1.MQ i _ hli
  obtain⟨hnn,A6H⟩:=A6F E L (SN x (by simp)) AZ1.1
  have C6:=AWX AZ1 hnn
  rw[<-hxs] at C6
  have ADT:=x6 C6
  have hxd:x.den E= .slice ((E.nm i).cut nn).ad ((E.nm i).cut nn).len ((E.nm i).cut nn).cap:=A6H
  have Y6:=k1.kill (AR hli)
  have hib:i≠bs:=by
   intro he;rw[he,o_] at hli;cases hli
  have ADU:look (DW (AJ L u2) (i,.dead)) bs=some .MB:=by rw[BB (AR hli),AE (fun he=>hib he.symm)];exact o_
  have ACA:AJ L (u2++ [(i,.dead)]++fin CQ bs a (xs++ys))=AJ (DW (AJ L u2) (i,.dead)) (fin CQ bs a (xs++ys)):=by rw[BS,BS];rfl
  have ADP:∀ n,Al L n->Al (DW (AJ L u2) (i,.dead)) n:=fun n hn=>BZ rfl n (k2 n hn)
  by_cases x8:((E.nm i).cut nn).cap<((E.nm i).cut nn).len+(ne.nm E).len
  ·exact AH8 _ ((E.nm i).cut nn) Y6 ADU ADT hxd x8 ACA ADP
  ·obtain⟨p1,p2,p3⟩:=C6
   rcases p3 with ⟨p4,p5,p6⟩|⟨p4,p5,p6,p7,arr,ty,p8,p9,p10⟩
   ·
    have A3T:((E.nm i).cut nn).len=0:=by rw[p1,p5];rfl
    have n8:(ne.nm E).len=0:=by omega
    have hyn:ys=[]:=by
     cases ys with
     |nil=>rfl
     |cons _ _=>simp at XX;omega
    refine AMW _ (E.nm i).XC Y6 ADU (by simp [p5,hyn]) ACA ADP ?_
    refine uD w _ _ hxd ?_
    have hnw:news=[]:=by
     have:ys.length=0:=by rw[hyn];rfl
     exact AFW.1 (by rw[n1,this,ABN])
    have:=JJ (P:=P) (w:=w) (w' :=w) (ty:=o.type) (a:=(E.nm i).XC) (b:=(ne.nm E).ad) (len:=0) (cap:=0) (n:=(ne.nm E).len) (c:=(ne.nm E).cap) (news:=news) vE vF hu hu1 hq
     (by rw[iV];have:=n2 w rfl;rw[XX];rw[XX] at this;exact this) (by omega) (by rw[hnw];split <;> rfl)
    rw[n8] at this
    have had:((E.nm i).cut nn).ad=(E.nm i).XC:=by unfold Nm.ad;rw[AA p4];rfl
    rw[had,A3T,p6,n8];exact this
   ·
    have AAJ:((E.nm i).cut nn).len+(ne.nm E).len<=((E.nm i).cut nn).cap:=by omega
    have hmul:(xs.length+ys.length)*a.sz<=((E.nm i).cut nn).cap*a.sz:=wX _ (by omega)
    rw[SL] at hmul
    obtain⟨w',s1,s2,s3,s4,s5⟩:=LG (P:=P) (off:=((E.nm i).cut nn).off+((E.nm i).cut nn).len*a.sz) news w arr 0 (fun j hj=>((E.nm i).cut nn).ADA hj) p8 n4 (by rw[n1,p1];omega)
    rw[P6] at s4
    have KD:=JJ (P:=P) (w:=w) (w' :=w') (ty:=o.type) (a:=((E.nm i).cut nn).ad) (b:=(ne.nm E).ad) (len:=((E.nm i).cut nn).len) (cap:=((E.nm i).cut nn).cap) (n:=(ne.nm E).len) (c:=(ne.nm E).cap) (news:=news) vE vF hu hu1 hq
     (by rw[iV];have:=n2 w rfl;rw[XX];rw[XX] at this;exact this) AAJ (by
      simp only[Nm.ad,p4,W_,KK]
      rw[iV,IT];exact s1)
    have hGs:∀ b,G1 b->w'.heap[b]? =w.heap[b]? :=fun b hb=>s5 b (fun he=>p5 (he ▸ hb))
    have YE:RowsIn (Rp G1 w' a) a.sz (vW arr (((E.nm i).cut nn).off+((E.nm i).cut nn).len*a.sz) news) ((E.nm i).cut nn).off (xs++ys):=by
     refine RowsIn.imp (R:=Rp G1 w a) ?_ (fun x vs hx=>Rp.mono hGs (fun _ h=>h) a x vs hx)
     refine RowsIn.append (p10.AGV ?_) (n3 _ _ ?_)
     ·rw[p1,bO];omega
     ·rw[p1,←n1,eG];omega
    have h1:=Y6.change (i:=bs) (e' := .row a (xs++ys)) (m:={ CN:=((E.nm i).cut nn).CN,off:=((E.nm i).cut nn).off,nil:=false,len:=(xs++ys).length,cap:=((E.nm i).cut nn).cap,XC:=none,fz:=(E.nm i).fz }) (w' :=w') (AR ADU) s2 (by omega) (fun hx=>absurd hx (FA ADU)) rfl
     (fun b _ hb=>s5 b (fun he=>hb (by simp [A9.own,he])))
     (fun b hb=>by simp only[A9.own,W_,KK,A_] at hb;subst hb;exact⟨p6,p5⟩)
     (by
      intro k f hk hf b hb he
      simp only[A9.own,W_,KK,A_] at he
      rw[BB (AR hli)] at hf
      by_cases lT:k=i
      ·subst lT;simp only[HP,A_] at hf;subst hf;rcases hb with hb|⟨hb,_⟩|⟨hb,_⟩ <;> cases hb
      ·rw[AE lT] at hf
       refine k1.inj k i f _ b lT hf hli hb (.inl ?_)
       have p4' :(E.nm i).nil=false:=p4
       have xN :(E.nm i).CN=b:=he
       simp [A9.own,p4',xN])
     (fun _=>⟨rfl,trivial,.inr ⟨rfl,p5,p6,by simp;omega,vW arr (((E.nm i).cut nn).off+((E.nm i).cut nn).len*a.sz) news,ty,by rw[SU];exact s4,by rw[SU];exact p9,YE⟩⟩)
    obtain⟨f1,f2,f3⟩:=iW CQ (AR ADU) h1
    rw[ACA]
    refine⟨w',_,_,uD _ _ _ hxd KD,.inl ?_,f1,fun n hn=>⟨E.H5 _ (fun he=>FA (he ▸ MS) hn),f2 n (BZ rfl n (ADP n hn))⟩,rfl,f3⟩
    have hlen:((E.nm i).cut nn).len+(ne.nm E).len=(xs++ys).length:=by rw[p1,XX];simp
    simp [SV.den,Env.E_,Nm.ad,hlen,p4]
def Y9 (m:Nm):Value:= .slice m.ad m.len m.cap
theorem AKB {xs:List (List a.T)} (h:AGY AQ a v=some (xs,u)):(v= .LW/\xs=[]/\u=[])\/∃ i,v= .NT i/\AQ i=some (.deep a xs none)/\u=[(i,.dead)]:=by
 unfold AGY at h
 split at h
 ·simp only[A_,DG] at h
  obtain⟨rfl,rfl⟩:=h
  exact .inl ⟨rfl,rfl,rfl⟩
 ·split at h
  rotate_left
  ·cases h
  rename_i t xss hl
  split at h
  rotate_left
  ·cases h
  rename_i he
  subst he
  simp only[A_,DG] at h
  obtain⟨rfl,rfl⟩:=h
  exact .inr ⟨_,rfl,hl,rfl⟩
 ·cases h
structure ASM (P:Program) (c:EX TB) (G:Nat->Prop) (w:World) (m:Nm) (l:List Nat) (a:Ty) (xs:List (List a.T)) (hs:Nat->Nm):Prop where
 rd:∀ w' :World,w'.heap=w.heap->(Builtin.firstCells 1 xs.length (.slice m.ad m.len m.cap)).run P w' = .ok ((List.range xs.length).map fun k=>Y9 (hs k)).toArray w'
 u7:∀ k v,xs[k]? =some v->GN (Rp G w a) a.sz w (hs k) v/\((hs k).nil=false->(hs k).CN∈l/\(m.nil=false->(hs k).CN≠m.CN))
 dis:∀ k k',k<xs.length->k' <xs.length->k≠k' ->(hs k).nil=false->(hs k').nil=false->(hs k).CN≠(hs k').CN
variable {l:List Nat}
theorem GI.x9 {xs:List (List a.T)} (d:GI c G w E L m l a xs none):∃ hs,ASM P c G w m l a xs hs∧
  (m.nil=false->∃ arr ty,w.heap[m.CN]? =some (.cells arr ty (0,0))/\arr.size=m.cap/\xs.length<=m.cap/\m.CN∈l/\∀ k,k<xs.length->arr[k]? =some (Y9 (hs k))):=by
 have M7:∀ k' j,(none:Option (Nat×Nat))≠some (k',j):=fun _ _ he=>by cases he
 rcases d.cs with ⟨h1,h2,h3⟩|⟨h1,h2,h3,arr,ty,hs,h4,h5,h6,h7,h8,h9⟩
 ·subst h2
  refine⟨fun _=>⟨0,0,true,0,0,none⟩,⟨fun w' hw=> ?_,fun k v hk=>by simp at hk,fun k k' hk=>by simp at hk⟩,fun hn=>by rw[h1] at hn;cases hn⟩
  cases m.ad with
  |none=>rfl
  |some p=>
   have:=run_loadCells_list (P:=P) w' p [] (fun j v hj=>by simp at hj)
   exact this
 ·refine⟨hs,⟨fun w' hw=> ?_,fun k v hk=> ?_,fun k k' hk KA HR=>h8 k k' hk KA HR (M7 _) (M7 _)⟩,fun _=>⟨arr,ty,h4,h5,h3,h2,h6⟩⟩
  ·have hm:m.len=xs.length:=d.len
   have hr:=V_ (P:=P) (w:=w') (size:=1) h1 (by rw[hw];exact h4) (by rw[d.off];omega)
   rw[hm] at hr ⊢
   rw[hr]
   congr 2
   apply XA
   intro j
   rw[CP,d.off]
   by_cases hj:j<xs.length
   ·rw[ab,NV,h6 j hj]
    simp [hj,Y9]
   ·rw[af,IF (by simp;omega)]
  ·obtain⟨q1,q2⟩:=h7 k v hk (M7 k)
   exact⟨q1,fun hx=>⟨(q2 hx).1,fun _=>(q2 hx).2⟩⟩
variable {ty:TypeId} {w':World}
theorem GI.join {E' :Env} {L' :AM} {xs ys:List (List a.T)} {hx hy:Nat->Nm} {mx my:Nm} {lx ly:List Nat} (kx:ASM P c G w mx lx a xs hx) (ky:ASM P c G w my ly a ys hy)
  (h1:m.len=(xs++ys).length) (h2:m.off=0) (h3:m.nil=false) (h4:m.CN∈l) (h5:(xs++ys).length<=m.cap) (HN:l.Nodup) (QF:∀ b∈l,¬G b/\¬c.Old b/\∃ arr ty fz,w'.heap[b]? =some (.cells arr ty fz))
  {arr:Array Value} (ha:w'.heap[m.CN]? =some (.cells arr ty (0,0))) (b8:arr.size=m.cap)
  (hc:∀ k,k<(xs++ys).length->arr[k]? =some (Y9 (if k<xs.length then hx k else hy (k-xs.length))))
  (hsx:∀ b∈lx,b∈l) (hsy:∀ b∈ly,b∈l) (Y2:∀ b∈lx,b∉ly) (hmx:m.CN∈lx->mx.nil=false/\m.CN=mx.CN) (hmy:m.CN∉ly)
  (hw:∀ b,b∈lx\/b∈ly->b≠m.CN->w'.heap[b]? =w.heap[b]?) (hG:∀ b,G b->w'.heap[b]? =w.heap[b]?):GI c G w' E' L' m l a (xs++ys) none:=by
 have CW:∀ k v,xs[k]? =some v->(hx k).nil=false->(hx k).CN≠m.CN:=by
  intro k v hk hn he
  obtain⟨q1,q2⟩:=(kx.u7 k v hk).2 hn
  obtain⟨r1,r2⟩:=hmx (he ▸ q1)
  exact q2 r1 (he.trans r2)
 have ASN:∀ k v,ys[k]? =some v->(hy k).nil=false->(hy k).CN≠m.CN:=by
  intro k v hk hn he
  exact hmy (he ▸ ((ky.u7 k v hk).2 hn).1)
 refine⟨h1,h2,HN,QF,.inr ⟨h3,h4,h5,arr,ty,fun k=>if k<xs.length then hx k else hy (k-xs.length),ha,b8,hc, ?_, ?_,fun _ _ he=>by cases he⟩⟩
 ·intro k v hk _
  dsimp only
  by_cases n7:k<xs.length
  ·rw[AA n7]
   rw[V4 n7] at hk
   obtain⟨q1,q2⟩:=kx.u7 k v hk
   exact⟨q1.mono (fun x vs hx=>Rp.mono hG (fun _ h=>h) a x vs hx) (fun hn=>hw _ (.inl (q2 hn).1) (CW k v hk hn)),fun hn=>⟨hsx _ (q2 hn).1,CW k v hk hn⟩⟩
  ·rw[AE n7]
   rw[SI (by omega)] at hk
   obtain⟨q1,q2⟩:=ky.u7 _ v hk
   exact⟨q1.mono (fun x vs hx=>Rp.mono hG (fun _ h=>h) a x vs hx) (fun hn=>hw _ (.inr (q2 hn).1) (ASN _ v hk hn)),fun hn=>⟨hsy _ (q2 hn).1,ASN _ v hk hn⟩⟩
 ·intro i j hi hj rT _ _ UG hnj
  dsimp only at UG hnj ⊢
  rw[PQ] at hi hj
  by_cases hix:i<xs.length
  ·rw[AA hix] at UG ⊢
   by_cases hjx:j<xs.length
   ·rw[AA hjx] at hnj ⊢
    exact kx.dis i j hix hjx rT UG hnj
   ·rw[AE hjx] at hnj ⊢
    intro he
    have q1:=((kx.u7 i _ (O6 hix)).2 UG).1
    have q2:=((ky.u7 (j-xs.length) _ (O6 (by omega))).2 hnj).1
    exact Y2 _ q1 (he ▸ q2)
  ·rw[AE hix] at UG ⊢
   have q2:=((ky.u7 (i-xs.length) _ (O6 (by omega))).2 UG).1
   by_cases hjx:j<xs.length
   ·rw[AA hjx] at hnj ⊢
    intro he
    have q1:=((kx.u7 j _ (O6 hjx)).2 hnj).1
    exact Y2 _ q1 (he ▸ q2)
   ·rw[AE hjx] at hnj ⊢
    exact ky.dis _ _ (by omega) (by omega) (by omega) UG hnj
set_option maxHeartbeats 1000000 in
theorem uE (GJ:o.op= .call { callee:= .builtin .append,args:=args,argTypes:=ts }) {x y:SV} (M8:args.toList.map ρ=[x,y])
  (CL:∀ n e,AQ n=some e->look L n=some e) {DU:DN} (h:VI P AQ ts.toList x y true bs pr=some (v,DU)):FH TB P o ρ L v DU:=by
 unfold VI at h
 split at h
 rotate_left
 ·cases h
 rename_i t0 t1 hts
 split at h
 rotate_left
 ·cases h
 rename_i e e1 hu hu1
 split at h
 rotate_left
 ·cases h
 rename_i q a hq hz hty
 split at h
 rotate_left
 ·cases h
 rename_i hc
 obtain⟨sC,hqb,D8⟩:=hc
 split at h
 rotate_left
 ·cases h
 rename_i xs u1 ys u2 rP hp2
 split at h
 rotate_left
 ·cases h
 rename_i Y2
 split at h
 rotate_left
 ·cases h
 rename_i hby
 simp only[pr,AWO,FP,A_,DG] at h
 obtain⟨rfl,rfl⟩:=h
 have MS:look L bs=some .MB:=CL _ _ (by have:=DA D8 0 (by omega);simpa using this)
 obtain⟨zv,hzv,hzl⟩:∃ zv,q.zero=some zv/\zv.cells.toList.map UC=[.LW]:=by
  unfold OV at hz
  rw[hq] at hz
  simp only at hz
  split at hz
  ·simp only[A_] at hz
   exact⟨_,by assumption,hz⟩
  ·cases hz
 have hzc:zv.cells= #[.slice none 0 0]:=by
  have:=XP (E:=⟨fun _=>⟨0,0,true,0,0,none⟩,fun _=>undef⟩) zv.cells.toList
  rw[hzl] at this
  apply dT
  exact this.symm
 have vE:ts[0]? =some t0:=by rw[<-mH,hts];rfl
 have vF:ts[1]? =some t1:=by rw[<-mH,hts];rfl
 refine BW fun c w E hh hw=> ?_
 obtain⟨G,hG⟩:=hh
 have side:∀ (v:SV) (zs:List (List a.T)) (u:DN),AGY AQ a v=some (zs,u)->∃ (m:Nm) (l:List Nat),v.den E= .slice m.ad m.len m.cap/\GI c G w E L m l a zs none∧
   ((u=[]/\l=[]/\m.nil=true)\/∃ i,look L i=some (.deep a zs none)/\u=[(i,.dead)]/\l=E.ins.l i):=by
  intro v zs u hv
  rcases AKB hv with ⟨rfl,rfl,rfl⟩|⟨i,rfl,hl,rfl⟩
  ·exact⟨⟨0,0,true,0,0,none⟩,[],rfl,⟨rfl,rfl,dP,(fun b hb=>(by cases hb)),.inl ⟨rfl,rfl,rfl⟩⟩,.inl ⟨rfl,rfl,rfl⟩⟩
  ·exact⟨E.nm i,E.ins.l i,rfl,hG.dp i _ _ _ (CL _ _ hl),.inr ⟨i,CL _ _ hl,rfl,rfl⟩⟩
 obtain⟨mx,lx,hxd,dx,sx⟩:=side x xs u1 rP
 obtain⟨my,ly,hyd,dy,sy⟩:=side y ys u2 hp2
 obtain⟨hx,kx,ax⟩:=dx.x9 (P:=P)
 obtain⟨hy,ky,ay⟩:=dy.x9 (P:=P)
 obtain⟨hH,o_,NX,ASO,ASP,hxy⟩:AT c G w E (AJ L (u1++u2))/\look (AJ L (u1++u2)) bs=some .MB/\(∀ n,Al L n->Al (AJ L (u1++u2)) n)/\(∀ b∈lx,JP E (AJ L (u1++u2)) b)/\(∀ b∈ly,JP E (AJ L (u1++u2)) b)/\(∀ b∈lx,b∉ly):=by
  have x_:∀ (L:AM),AT c G w E L->∀ (i:Nat) (zs:List (List a.T)),look L i=some (.deep a zs none)->look L bs=some .MB->AT c G w E (AJ L [(i,.dead)])/\look (AJ L [(i,.dead)]) bs=some .MB/\(∀ n,Al L n->Al (AJ L [(i,.dead)]) n)/\(∀ b∈E.ins.l i,JP E (AJ L [(i,.dead)]) b):=by
   intro L hG i zs hi hb
   have hib:bs≠i:=by rintro rfl;rw[hi] at hb;cases hb
   refine⟨hG.kill (AR hi), ?_,fun n hn=>BZ rfl n hn,fun b hbm=>mX hG hi (A9.GL.2 hbm)⟩
   show look (DW L (i,.dead)) bs=_
   rw[BB (AR hi),AE hib];exact hb
  rcases sx with ⟨rfl,rfl,_⟩|⟨i,hi,rfl,rfl⟩
  ·rcases sy with ⟨rfl,rfl,_⟩|⟨j,hj,rfl,rfl⟩
   ·exact⟨hG,MS,fun _ h=>h,(fun b hb=>(by cases hb)),(fun b hb=>(by cases hb)),(fun b hb=>(by cases hb))⟩
   ·obtain⟨k1,k2,k3,k4⟩:=x_ L hG j _ hj MS
    exact⟨k1,k2,k3,(fun b hb=>(by cases hb)),k4,(fun b hb=>(by cases hb))⟩
  ·obtain⟨k1,k2,k3,k4⟩:=x_ L hG i _ hi MS
   rcases sy with ⟨rfl,rfl,_⟩|⟨j,hj,rfl,rfl⟩
   ·exact⟨k1,k2,k3,k4,(fun b hb=>(by cases hb)),(fun b _ hb=>(by cases hb))⟩
   ·have rT:i≠j:=by
     rintro rfl
     have:=KI.1 Y2 (i,.dead) (by simp)
     simp at this
    have hj1:look (AJ L [(i,.dead)]) j=some (.deep a ys none):=by
     show look (DW L (i,.dead)) j=_
     rw[BB (AR hi),AE (fun he=>rT he.symm)];exact hj
    obtain⟨q1,q2,q3,q4⟩:=x_ _ k1 j _ hj1 k2
    rw[<-BS] at q1 q2 q3 q4
    refine⟨q1,q2,fun n hn=>q3 n (k3 n hn), ?_,q4,fun b hb UB =>hG.inj i j _ _ b rT hi hj (A9.GL.2 hb) (A9.GL.2 UB)⟩
    intro b hb
    rw[BS]
    exact (k4 b hb).kill (AR hj1)
 have uD:∀ (w' :World) (r:Value),(Builtin.append_ ts o.type #[.slice mx.ad mx.len mx.cap,.slice my.ad my.len my.cap]).run P w= .ok r w' ->(execOp (fun x=>(ρ x).den E) o).run P w= .ok (.value r) w' :=by
  intro w' r hr
  have mY :(args.map fun x=>(ρ x).den E)= #[.slice mx.ad mx.len mx.cap,.slice my.ad my.len my.cap]:=by
   apply dT
   have:(args.toList.map ρ).map (SV.den E)=[.slice mx.ad mx.len mx.cap,.slice my.ad my.len my.cap]:=by rw[M8];simp [hxd,hyd]
   rw[XB] at this
   rw[lO]
   exact this
  simp only[execOp,GJ,resolve,invoke,Sem.run_bind,Sem.run_pure,Result.andThen,mY,builtin,hr]
 have vB:=dx.len
 have n8:=dy.len
 have AKC:∀ (w' :World) (m:Nm) (l:List Nat),Rest w w' ->w.heap.size<=w'.heap.size->(∀ b,b<w.heap.size->b∉l->w'.heap[b]? =w.heap[b]?)->(∀ b∈l,JP E (AJ L (u1++u2)) b)->(∀ (E' :Env) (L' :AM),GI c G w' E' L' m l a (xs++ys) none)→
   (Builtin.append_ ts o.type #[.slice mx.ad mx.len mx.cap,.slice my.ad my.len my.cap]).run P w= .ok (.slice m.ad m.len m.cap) w' →
   ∃ (w' :World) (E' :Env) (nx:Next),(execOp (fun x=>(ρ x).den E) o).run P w= .ok nx w' /\(nx= .value ((SV.NT bs).den E')\/(nx= .skip/\(SV.NT bs)=BK))∧
   Hd c w' E' (AJ L (u1++u2++ [(bs,.deep a (xs++ys) none)]))/\(∀ n,Al L n->E'.nm n=E.nm n/\Al (AJ L (u1++u2++ [(bs,.deep a (xs++ys) none)])) n)/\E'.ds=E.ds/\(SV.NT bs).wf E' (AJ L (u1++u2++ [(bs,.deep a (xs++ys) none)])):=by
  intro w' m l r1 r2 r3 r4 r5 r6
  obtain⟨g1,g2,g3,g4⟩:=hH.AMV o_ r1 r2 r3 r4 r5
  have eu:AJ L (u1++u2++ [(bs,.deep a (xs++ys) none)])=DW (AJ L (u1++u2)) (bs,.deep a (xs++ys) none):=by rw[BS];rfl
  rw[eu]
  refine⟨w',_,_,uD _ _ r6,.inl ?_,⟨G,g1⟩,fun n hn=>g2 n (NX n hn),rfl,g3⟩
  simp only[SV.den];rw[g4]
 by_cases x8:mx.cap<mx.len+my.len
 ·
  obtain⟨c',hc',KD⟩:=run_append_grow (P:=P) (w:=w) (ty:=o.type) (a:=mx.ad) (b:=my.ad) (len:=mx.len) (cap:=mx.cap) (n:=my.len) (c:=my.cap) vE vF hu hu1 hq hzv hqb
   (by rw[sC,n8,←n8];have:=ky.rd w.drew rfl;rw[<-n8] at this;exact this)
   (by rw[sC,vB,←vB];have:=kx.rd w.drew rfl;rw[<-vB] at this;exact this) x8 (by rw[vB,n8];exact hby)
  have hold:¬c.Old w.heap.size:=fun hx=>by have:=hx.1;have:=hG.size;omega
  have hGn:¬G w.heap.size:=fun hx=>by have:=hG.gin _ hx;omega
  have CZ:∀ (ob:Obj) (b:Nat),b<w.heap.size->((w.drew).alloc ob).heap[b]? =w.heap[b]? :=by
   intro ob b hb
   show (w.heap.push ob)[b]? =_
   rw[tK,af]
  have SY:∀ (ob:Obj),((w.drew).alloc ob).heap[w.heap.size]? =some ob:=by
   intro ob
   show (w.heap.push ob)[w.heap.size]? =_
   simp
  have ADV:∀ b∈lx,b<w.heap.size:=fun b hb=>by obtain⟨_,_,_,_,_,h⟩:=dx.all b hb;exact UE h
  have ADW:∀ b∈ly,b<w.heap.size:=fun b hb=>by obtain⟨_,_,_,_,_,h⟩:=dy.all b hb;exact UE h
  refine AKC _ ⟨w.heap.size,0,false,mx.len+my.len,c',none⟩ (w.heap.size::(lx++ly)) ?_ ?_ ?_ ?_ ?_ KD
  ·exact⟨rfl,rfl,rfl⟩
  ·show _<=(w.heap.push _).size;simp
  ·exact fun b hb _=>CZ _ b hb
  ·intro b hb
   rcases GH.1 hb with rfl|hb
   ·exact VX hH
   ·rcases FG.1 hb with hb|hb
    ·exact ASO b hb
    ·exact ASP b hb
  ·intro E' L'
   refine GI.join kx ky (by simp [vB,n8]) rfl rfl (by simp) (by simp [<-vB,←n8];exact hc') ?_ ?_ (SY _) ?_ ?_ (fun b hb=>by simp [hb]) (fun b hb=>by simp [hb]) hxy (fun hm=> ?_) (fun hm=> ?_) (fun b hb _=>CZ _ b (hb.elim (ADV b) (ADW b))) (fun b hb=>CZ _ b (hG.gin b hb))
   ·refine VE.2 ⟨fun hm=> ?_,PB.2 ⟨dx.nd,dy.nd,fun b hb b' UB he=>hxy b hb (he ▸ UB)⟩⟩
    rcases FG.1 hm with hm|hm
    ·have:=ADV _ hm;omega
    ·have:=ADW _ hm;omega
   ·intro b hb
    rcases GH.1 hb with rfl|hb
    ·exact⟨hGn,hold,_,_,_,SY _⟩
    ·rcases FG.1 hb with hb|hb
     ·obtain⟨q1,q2,arr,ty,fz,q3⟩:=dx.all b hb
      exact⟨q1,q2,arr,ty,fz,by rw[CZ _ b (ADV b hb)];exact q3⟩
     ·obtain⟨q1,q2,arr,ty,fz,q3⟩:=dy.all b hb
      exact⟨q1,q2,arr,ty,fz,by rw[CZ _ b (ADW b hb)];exact q3⟩
   ·simp [Builtin.zeroCells,hzc]
    omega
   ·intro k hk
    rw[PQ] at hk
    rw[AFP (by simp;omega)]
    by_cases n7:k<xs.length
    ·rw[AA n7,AFP (by simp;omega)]
     simp [ALV (show k<mx.len by omega)]
    ·rw[AE n7,AR2 (by simp;omega)]
     have MZ:k-xs.length<my.len:=by omega
     simp [vB,ALV MZ]
   ·have:=ADV _ hm;simp at this
   ·have:=ADW _ hm;simp at this
 ·
  cases VY:mx.nil with
  |true=>
   rcases dx.cs with ⟨_,h2,h3⟩|⟨h1,_⟩
   rotate_left
   ·rw[VY] at h1;cases h1
   have hx0:mx.len=0:=by rw[vB,h2];rfl
   have hy0:my.len=0:=by omega
   have hys:ys=[]:=by
    cases ys with
    |nil=>rfl
    |cons _ _=>simp at n8;omega
   have ADX:mx.ad=mx.XC:=by simp [Nm.ad,VY]
   have KD:=JJ (P:=P) (w:=w) (w' :=w) (ty:=o.type) (a:=mx.XC) (b:=my.ad) (len:=0) (cap:=0) (n:=my.len) (c:=my.cap) (news:=[]) vE vF hu hu1 hq
    (by rw[sC];have:=ky.rd w rfl;rw[<-n8,hy0] at this;rw[hy0];exact this) (by omega) (by split <;> rfl)
   refine AKC w ⟨0,0,true,0,0,mx.XC⟩ [] (.refl _) (EH _) (fun _ _ _=>rfl) (fun b hb=>(by cases hb)) (fun E' L' =>⟨by simp [h2,hys],rfl,dP,(fun b hb=>(by cases hb)),.inl ⟨rfl,by simp [h2,hys],rfl⟩⟩) ?_
   rw[ADX,hx0,h3,KD,hy0]
   rfl
  |false=>
   obtain⟨arr,ty,p1,p2,p3,p4,p5⟩:=ax VY
   have hnl:((List.range ys.length).map fun k=>Y9 (hy k)).length=ys.length:=by simp
   obtain⟨w',s1,s2,s3,s4,s5⟩:=QG (P:=P) (off:=mx.len) ((List.range ys.length).map fun k=>Y9 (hy k)) w arr 0 p1 (by
     intro u hu
     obtain⟨k,_,rfl⟩:=DH.1 hu
     exact⟨fun c h=>(by cases h),fun c h=>(by cases h)⟩) (by rw[hnl];omega)
   rw[P6] at s4
   have ADX:mx.ad=some ⟨mx.CN,0,none⟩:=by simp [Nm.ad,VY,dx.off]
   have KD:=JJ (P:=P) (w:=w) (w' :=w') (ty:=o.type) (a:=mx.ad) (b:=my.ad) (len:=mx.len) (cap:=mx.cap) (n:=my.len) (c:=my.cap) (news:=(List.range ys.length).map fun k=>Y9 (hy k)) vE vF hu hu1 hq
    (by rw[sC];have:=ky.rd w rfl;rw[<-n8] at this ⊢;exact this) (by omega) (by
     rw[ADX]
     simp only
     rw[sC,IT,NV,tQ];exact s1)
   have hmy:mx.CN∉ly:=hxy _ p4
   refine AKC w' ⟨mx.CN,0,false,mx.len+my.len,mx.cap,none⟩ (lx++ly) s2 (by omega) (fun b _ hb=>s5 b (fun he=>hb (by rw[he];simp [p4]))) ?_ ?_ ?_
   ·intro b hb
    rcases FG.1 hb with hb|hb
    ·exact ASO b hb
    ·exact ASP b hb
   ·intro E' L'
    refine GI.join kx ky (by simp [vB,n8]) rfl rfl (by simp [p4]) (by simp [<-vB,←n8];omega) (PB.2 ⟨dx.nd,dy.nd,fun b hb b' UB he=>hxy b hb (he ▸ UB)⟩) ?_ s4 (by rw[SU];exact p2) ?_ (fun b hb=>by simp [hb]) (fun b hb=>by simp [hb]) hxy (fun _=>⟨VY,rfl⟩) hmy (fun b _ hb=>s5 b hb) (fun b hb=>s5 b (fun he=>(dx.all _ p4).1 (he ▸ hb)))
    ·intro b hb
     by_cases hbm:b=mx.CN
     ·subst hbm
      exact⟨(dx.all _ p4).1,(dx.all _ p4).2.1,_,_,_,s4⟩
     ·rw[s5 b hbm]
      rcases FG.1 hb with hb|hb
      ·exact dx.all b hb
      ·exact dy.all b hb
    ·intro k hk
     rw[PQ] at hk
     rw[KT,hnl]
     by_cases n7:k<xs.length
     ·rw[af,AA n7];exact p5 k n7
     ·rw[ab,AE n7]
      have:k-xs.length<ys.length:=by omega
      rw[vB]
      simp [this]
   ·rw[KD,ADX]
    rfl
theorem FH.A6I {xs:List (List a.T)} {DU:DN} (h:FH TB P o ρ L (.NT bs) DU) (hl:look (AJ L DU) bs=some (.deep a xs none)):
  FH TB P o ρ L (.NT bs) (DU++ [(bs,.shr (.slice a) xs)]):=by
 intro c w E hh hw ac next Q ha hn
 refine h c w E hh hw ac next Q ha fun E' w' k1 k2 k3 k4=> ?_
 obtain⟨G,hG⟩:=k1
 have DY:=AR hl
 have e:AJ L (DU++ [(bs,.shr (.slice a) xs)])=DW (AJ L DU) (bs,.shr (.slice a) xs):=by rw[BS];rfl
 refine hn E' w' (by rw[e];exact⟨_,hG.ADG hl⟩) (fun n hn' =>⟨(k2 n hn').1,by rw[e];exact BZ rfl n (k2 n hn').2⟩) k3 (by rw[e];exact BZ rfl bs k4)
theorem AKD (GJ:o.op= .call { callee:= .builtin .append,args:=args,argTypes:=ts }) {x y:SV} (M8:args.toList.map ρ=[x,y])
  {CQ:Bool} (CL:∀ n e,AQ n=some e->look L n=some e) {DU:DN} (h:VI P AQ ts.toList x y CQ bs pr=some (v,DU)):FH TB P o ρ L v DU:=by
 cases CQ with
 |true=>exact uE GJ M8 CL h
 |false=>
  have key:∃ (a:Ty) (xs:List (List a.T)) (u0:DN),VI P AQ ts.toList x y true bs pr=some (.NT bs,u0++ [(bs,.deep a xs none)])/\v= .NT bs/\DU=u0++ [(bs,.deep a xs none)]++ [(bs,.shr (.slice a) xs)]/\JQ AQ bs 1=true:=by
   unfold VI at h ⊢
   split at h
   rotate_left
   ·cases h
   rename_i t0 t1 hts
   split at h
   rotate_left
   ·cases h
   rename_i e e1 hu hu1
   split at h
   rotate_left
   ·cases h
   rename_i q a hq hz hty
   split at h
   rotate_left
   ·cases h
   rename_i hc
   split at h
   rotate_left
   ·cases h
   rename_i xs u1 ys u2 rP hp2
   split at h
   rotate_left
   ·cases h
   rename_i Y2
   split at h
   rotate_left
   ·cases h
   rename_i hby
   simp only[pr,AWO,A_,DG] at h
   obtain⟨rfl,rfl⟩:=h
   refine⟨a,xs++ys,u1++u2, ?_,rfl,rfl,hc.2.2⟩
   simp only[hc,hby,pr,AWO,FP,and_self,HP,ne_eq,not_false_eq_true]
  obtain⟨a,xs,u0,h1,rfl,rfl,D8⟩:=key
  have MS:look L bs=some .MB:=CL _ _ (by have:=DA D8 0 (by omega);simpa using this)
  refine (uE GJ M8 CL h1).A6I ?_
  rw[BS]
  show look (DW (AJ L u0) (bs,.deep a xs none)) bs=_
  rw[BB (by rw[PR];exact AR MS),AA rfl]
end
end Go.V3
namespace Go.V3
open Go
variable {TB:Tb}
section
variable {P:Program} {AQ:Nat->Option A9} {L:AM}
variable {m:Nm} {bs:Nat} {L:AM} {E:Env} {w w':World} {G:Nat->Prop} {c:EX TB}
theorem AT.AZ2 (h:AT c G w E L) (hl:look L bs=some .MB) (hr:Rest w w') (hs:w.heap.size<=w'.heap.size) {t1 t2:Ty} {xs:List (List t1.T×List t2.T)}
  (hw:∀ b,b<w.heap.size->b∉m.ins.l->w'.heap[b]? =w.heap[b]?) (XS:∀ b∈m.ins.l,JP E L b) (hd:F3 c G w' m t1 t2 xs):
  AT c G w' (E.set bs m) (DW L (bs,.tree t1 t2 xs))/\(∀ n,Al L n->(E.set bs m).nm n=E.nm n/\Al (DW L (bs,.tree t1 t2 xs)) n)/\Al (DW L (bs,.tree t1 t2 xs)) bs/\(E.set bs m).nm bs=m:=by
 have jP:∀ b,(A9.tree t1 t2 xs).ow (E.set bs m) bs b↔b∈m.ins.l:=fun b=>by rw[A9.iJ,Env.E_]
 refine⟨h.VF (AR hl) hr hs (fun hx=>absurd hx (FA hl)) (fun k hk=>⟨E.H5 _ hk,rfl⟩) rfl (fun b hb hn=>hw b hb (fun hx=>hn ((jP b).2 hx)))
  (fun b hb=>by have:=hd.all b ((jP b).1 hb);exact⟨this.2.1,this.1⟩) (fun k f _ hf b hb he=>XS b ((jP b).1 he) k f hf hb) (by rw[Env.E_];exact hd) (fun t' xs' q he=>by cases he), ?_,⟨_,by rw[BB (AR hl),AA rfl],rfl⟩,Env.E_ _ _ _⟩
 intro n hn
 have UG:n≠bs:=fun he=>FA (he ▸ hl) hn
 exact⟨E.H5 _ UG,BZ rfl n hn⟩
variable {u:DN} {v:SV}
theorem ADY {t:Ty} {ys:List t.T} (h:oX AQ t v=some (ys,u)):(v= .LW/\ys=[]/\u=[])\/∃ i,v= .NT i/\AQ i=some (.row t ys)/\u=[(i,.dead)]:=by
 unfold oX at h
 split at h
 ·simp only[A_,DG] at h
  obtain⟨rfl,rfl⟩:=h
  exact .inl ⟨rfl,rfl,rfl⟩
 ·split at h
  rotate_left
  ·cases h
  rename_i t' xss hl
  split at h
  rotate_left
  ·cases h
  rename_i he
  subst he
  simp only[A_,DG] at h
  obtain⟨rfl,rfl⟩:=h
  exact .inr ⟨_,rfl,hl,rfl⟩
 ·cases h
variable {a:Ty}
theorem AKE {b:Ty} {xs:List (List a.T×List b.T)} (h:AGX AQ a b v=some (xs,u)):(v= .LW/\xs=[]/\u=[])\/∃ i,v= .NT i/\AQ i=some (.tree a b xs)/\u=[(i,.dead)]:=by
 unfold AGX at h
 split at h
 ·simp only[A_,DG] at h
  obtain⟨rfl,rfl⟩:=h
  exact .inl ⟨rfl,rfl,rfl⟩
 ·split at h
  rotate_left
  ·cases h
  rename_i t1 t2 xss hl
  split at h
  rotate_left
  ·cases h
  rename_i he
  obtain⟨rfl,rfl⟩:=he
  simp only[A_,DG] at h
  obtain⟨rfl,rfl⟩:=h
  exact .inr ⟨_,rfl,hl,rfl⟩
 ·cases h
structure AZ3 (c:EX TB) (G:Nat->Prop) (w:World) (E:Env) (L:AM) (t:Ty) (v:SV) (ys:List t.T) (u:DN) (m:Nm) (l:List Nat):Prop where
 den:v.den E= .slice m.ad m.len m.cap
 u7:GN (Rp G w t) t.sz w m ys
 mem:m.nil=false->m.CN∈l
 one:∀ b∈l,b=m.CN/\m.nil=false
 nd:l.Nodup
 all:∀ b∈l,¬G b/\¬c.Old b/\∃ arr ty fz,w.heap[b]? =some (.cells arr ty fz)
 src:(u=[]/\l=[])\/∃ i,look L i=some (.row t ys)/\u=[(i,.dead)]/\∀ b∈l,(A9.row t ys).ow E i b
theorem AZ4 (hG:AT c G w E L) (CL:∀ n e,AQ n=some e->look L n=some e) {t:Ty} {ys:List t.T} (h:oX AQ t v=some (ys,u)):
  ∃ m l,AZ3 c G w E L t v ys u m l:=by
 rcases ADY h with ⟨rfl,rfl,rfl⟩|⟨i,rfl,hl,rfl⟩
 ·exact⟨⟨0,0,true,0,0,none⟩,[],rfl,⟨rfl,trivial,.inl ⟨rfl,rfl,rfl⟩⟩,(fun hx=>by cases hx),(fun b hb=>by cases hb),dP,(fun b hb=>by cases hb),.inl ⟨rfl,rfl⟩⟩
 ·have hi:=CL _ _ hl
  obtain⟨h1,h2,h3⟩:=hG.MQ i _ hi
  cases hn:(E.nm i).nil with
  |true=>
   rcases h3 with h3|⟨h4,_⟩
   rotate_left
   ·rw[hn] at h4;cases h4
   exact⟨E.nm i,[],rfl,⟨h1,trivial,.inl h3⟩,(fun hx=>by rw[hn] at hx;cases hx),(fun b hb=>by cases hb),dP,(fun b hb=>by cases hb),.inr ⟨i,hi,rfl,fun b hb=>by cases hb⟩⟩
  |false=>
   rcases h3 with ⟨h4,_⟩|⟨h4,h5,h6,h7,arr,ty,h8,h9,h10⟩
   ·rw[hn] at h4;cases h4
   refine⟨E.nm i,[(E.nm i).CN],rfl,⟨h1,trivial,.inr ⟨h4,h7,arr,ty,h8,h9,h10⟩⟩,(fun _=>by simp),(fun b hb=>⟨by simpa using hb,hn⟩),by simp, ?_,.inr ⟨i,hi,rfl, ?_⟩⟩
   ·intro b hb
    simp only[GG] at hb;subst hb
    exact⟨h5,h6,arr,ty,_,h8⟩
   ·intro b hb
    simp only[GG] at hb;subst hb
    exact .inl (by simp [A9.own,hn])
theorem AMX (hG:AT c G w E L) (MS:look L bs=some .MB) {u1 u2:DN} {l1 l2:List Nat} {e1 e2:A9}
  (s1:(u1=[]/\l1=[])\/∃ i,look L i=some e1/\e1.IL=false/\u1=[(i,.dead)]/\∀ b∈l1,e1.ow E i b)
  (s2:(u2=[]/\l2=[])\/∃ i,look L i=some e2/\e2.IL=false/\u2=[(i,.dead)]/\∀ b∈l2,e2.ow E i b) (Y2:u1.all (fun q=>u2.all (fun r=> !(r.1==q.1)))=true):
  AT c G w E (AJ L (u1++u2))/\look (AJ L (u1++u2)) bs=some .MB/\(∀ n,Al L n->Al (AJ L (u1++u2)) n)/\(∀ b∈l1,JP E (AJ L (u1++u2)) b)/\(∀ b∈l2,JP E (AJ L (u1++u2)) b)/\(∀ b∈l1,b∉l2):=by
 have x_:∀ (L:AM) (l:List Nat) (e:A9),AT c G w E L->∀ (i:Nat),look L i=some e->e.IL=false->look L bs=some .MB->(∀ b∈l,e.ow E i b)->AT c G w E (AJ L [(i,.dead)])/\look (AJ L [(i,.dead)]) bs=some .MB/\(∀ n,Al L n->Al (AJ L [(i,.dead)]) n)/\(∀ b∈l,JP E (AJ L [(i,.dead)]) b):=by
  intro L l e hG i hi hr hb ho
  have hib:bs≠i:=by rintro rfl;rw[hi] at hb;cases hb;cases hr
  refine⟨hG.kill (AR hi), ?_,fun n hn=>BZ rfl n hn,fun b hbm=>mX hG hi (ho b hbm)⟩
  show look (DW L (i,.dead)) bs=_
  rw[BB (AR hi),AE hib];exact hb
 rcases s1 with ⟨rfl,rfl⟩|⟨i,hi,hir,rfl,hio⟩
 ·rcases s2 with ⟨rfl,rfl⟩|⟨j,hj,hjr,rfl,hjo⟩
  ·exact⟨hG,MS,fun _ h=>h,(fun b hb=>(by cases hb)),(fun b hb=>(by cases hb)),(fun b hb=>(by cases hb))⟩
  ·obtain⟨k1,k2,k3,k4⟩:=x_ L l2 e2 hG j hj hjr MS hjo
   exact⟨k1,k2,k3,(fun b hb=>(by cases hb)),k4,(fun b hb=>(by cases hb))⟩
 ·obtain⟨k1,k2,k3,k4⟩:=x_ L l1 e1 hG i hi hir MS hio
  rcases s2 with ⟨rfl,rfl⟩|⟨j,hj,hjr,rfl,hjo⟩
  ·exact⟨k1,k2,k3,k4,(fun b hb=>(by cases hb)),(fun b _ hb=>(by cases hb))⟩
  ·have rT:i≠j:=by
    rintro rfl
    have:=KI.1 Y2 (i,.dead) (by simp)
    simp at this
   have hj1:look (AJ L [(i,.dead)]) j=some e2:=by
    show look (DW L (i,.dead)) j=_
    rw[BB (AR hi),AE (fun he=>rT he.symm)];exact hj
   obtain⟨q1,q2,q3,q4⟩:=x_ _ l2 e2 k1 j hj1 hjr k2 hjo
   rw[<-BS] at q1 q2 q3 q4
   refine⟨q1,q2,fun n hn=>q3 n (k3 n hn), ?_,q4,fun b hb UB =>hG.inj i j _ _ b rT hi hj (hio b hb) (hjo b UB)⟩
   intro b hb
   rw[BS]
   exact (k4 b hb).kill (AR hj1)
variable {parts:Array (Nat×Operand)} {t:TypeId} {ρ:Operand->SV} {o:Oper}
theorem API {len:Nat} (GJ:o.op= .buildSlice t len parts) (CL:∀ n e,AQ n=some e->look L n=some e) {DU:DN}
  (h:rY P AQ t len (parts.toList.map fun q=>(q.1,ρ q.2)) bs pr=some (v,DU)):FH TB P o ρ L v DU:=by
 unfold rY at h
 split at h
 rotate_left
 ·cases h
 rename_i e hu
 split at h
 rotate_left
 ·cases h
 rename_i q a b v1 v2 hq hz hty QI
 split at h
 rotate_left
 ·cases h
 rename_i y1 u1 y2 u2 rP hp2
 split at h
 rotate_left
 ·cases h
 rename_i hc
 obtain⟨sC,rfl,D8,Y2⟩:=hc
 simp only[pr,A_,DG] at h
 obtain⟨rfl,rfl⟩:=h
 have MS:look L bs=some .MB:=CL _ _ (by have:=DA D8 0 (by omega);simpa using this)
 refine BW fun c w E hh hw=> ?_
 obtain⟨G,hG⟩:=hh
 obtain⟨m1,l1,r1⟩:=AZ4 hG CL rP
 obtain⟨m2,l2,r2⟩:=AZ4 hG CL hp2
 have KD:=WA (E:=E) (w:=w) (cs:=[v1,v2]) GJ hu hq hz (by rw[sC];rfl) (by rw[sC];omega) (by rw[QI];rfl) (by rw[QI,sC];rfl)
 have conv:∀ {t:Ty} {v:SV} {ys:List t.T} {u:DN} {m:Nm} {l:List Nat},AZ3 c G w E L t v ys u m l->(u=[]/\l=[])\/∃ i,look L i=some (.row t ys)/\(A9.row t ys).IL=false/\u=[(i,.dead)]/\∀ b∈l,(A9.row t ys).ow E i b:=by
  intro t v ys u m l r
  rcases r.src with hx|⟨i,h1,h2,h3⟩
  ·exact .inl hx
  ·exact .inr ⟨i,h1,rfl,h2,h3⟩
 obtain⟨hH,o_,NX,AP1,AWJ,h12⟩:=AMX hG MS (conv r1) (conv r2) Y2
 have hold:¬c.Old w.heap.size:=fun hx=>by have:=hx.1;have:=hG.size;omega
 have hGn:¬G w.heap.size:=fun hx=>by have:=hG.gin _ hx;omega
 have SY:∀ (o:Obj),(w.alloc o).heap[w.heap.size]? =some o:=by
  intro o
  show (w.heap.push o)[w.heap.size]? =_
  simp
 have CZ:∀ (o:Obj) (b:Nat),b<w.heap.size->(w.alloc o).heap[b]? =w.heap[b]? :=by
  intro o b hb
  show (w.heap.push o)[b]? =_
  rw[tK,af]
 have AWY:∀ b∈l1,b<w.heap.size:=fun b hb=>by obtain⟨_,_,_,_,_,h⟩:=r1.all b hb;exact UE h
 have AJL:∀ b∈l2,b<w.heap.size:=fun b hb=>by obtain⟨_,_,_,_,_,h⟩:=r2.all b hb;exact UE h
 have A3U:∀ {t:Ty} {m:Nm} {ys:List t.T} {l:List Nat} (ob:Obj),GN (Rp G w t) t.sz w m ys->(m.nil=false->m.CN∈l)->(∀ b∈l,b<w.heap.size)->GN (Rp G (w.alloc ob) t) t.sz (w.alloc ob) m ys:=by
  intro t m ys l ob hi hm hl
  exact hi.mono (fun x vs hx=>Rp.mono (fun b hb=>CZ ob b (hG.gin b hb)) (fun _ h=>h) t x vs hx) (fun hn=>CZ ob _ (hl _ (hm hn)))
 obtain⟨g1,g2,g3,g4⟩:=hH.AZ2 (w' :=w.alloc (.cells (AN E [v1,v2]).toArray e)) o_ ⟨rfl,rfl,rfl⟩ (by show _<=(w.heap.push _).size;simp)
  (m:={ CN:=w.heap.size,off:=0,nil:=false,len:=1,cap:=1,XC:=none,ins:=⟨w.heap.size::(l1++l2)⟩,hd:=⟨fun k=>if k=0 then m1.h0 else m2.h0⟩ }) (t1:=a) (t2:=b) (xs:=[(y1,y2)])
  (fun b hb _=>CZ _ b hb)
  (by
   intro b hb
   rcases GH.1 hb with rfl|hb
   ·exact VX hH
   ·rcases FG.1 hb with hb|hb
    ·exact AP1 b hb
    ·exact AWJ b hb)
  (by
   refine⟨rfl,rfl, ?_, ?_,.inr ⟨rfl,by simp,by simp,_,e,SY _,by simp [AN], ?_, ?_, ?_, ?_⟩⟩
   ·refine VE.2 ⟨fun hm=> ?_,PB.2 ⟨r1.nd,r2.nd,fun b hb b' UB he=>h12 b hb (he ▸ UB)⟩⟩
    rcases FG.1 hm with hm|hm
    ·have:=AWY _ hm;omega
    ·have:=AJL _ hm;omega
   ·intro b hb
    rcases GH.1 hb with rfl|hb
    ·exact⟨hGn,hold,_,_,_,SY _⟩
    ·rcases FG.1 hb with hb|hb
     ·obtain⟨q1,q2,arr,ty,fz,q3⟩:=r1.all b hb
      exact⟨q1,q2,arr,ty,fz,by rw[CZ _ b (AWY b hb)];exact q3⟩
     ·obtain⟨q1,q2,arr,ty,fz,q3⟩:=r2.all b hb
      exact⟨q1,q2,arr,ty,fz,by rw[CZ _ b (AJL b hb)];exact q3⟩
   ·intro k hk
    simp only[Q5] at hk
    match k with
    |0=>simp only[AN,r1.den];rfl
    |1=>simp only[AN,r2.den];rfl
    |k+2=>omega
   ·intro k x hk
    cases k with
    |succ k=>simp at hk
    |zero=>
     simp only[MU,A_] at hk;subst hk
     exact⟨A3U _ r1.u7 r1.mem AWY,A3U _ r2.u7 r2.mem AJL⟩
   ·intro k hk
    simp only[Q5] at hk
    match k with
    |0=>
     intro hn
     have hm:m1.CN∈l1:=r1.mem hn
     exact⟨YB _ (FG.2 (.inl hm)),fun he=>by have:=AWY _ hm;have xN :m1.CN=w.heap.size:=he;omega⟩
    |1=>
     intro hn
     have hm:m2.CN∈l2:=r2.mem hn
     exact⟨YB _ (FG.2 (.inr hm)),fun he=>by have:=AJL _ hm;have xN :m2.CN=w.heap.size:=he;omega⟩
    |k+2=>omega
   ·intro k k' hk KA HR
    simp only[Q5] at hk KA
    match k,k' with
    |0,0=>exact absurd rfl HR
    |1,1=>exact absurd rfl HR
    |0,1=>
     intro hn hn' he
     have xN :m1.CN=m2.CN:=he
     exact h12 _ (r1.mem hn) (xN ▸ r2.mem hn')
    |1,0=>
     intro hn hn' he
     have xN :m2.CN=m1.CN:=he
     exact h12 _ (r1.mem hn') (xN ▸ r2.mem hn)
    |k+2,_=>omega
    |_,k' +2=>omega)
 have eu:AJ L (u1++u2++ [(bs,.tree a b [(y1,y2)])])=DW (AJ L (u1++u2)) (bs,.tree a b [(y1,y2)]):=by rw[BS];rfl
 rw[eu]
 refine⟨_,_,_,KD,.inl ?_,⟨G,g1⟩,fun n hn=>g2 n (NX n hn),rfl,g3⟩
 simp only[SV.den];rw[g4];rfl
theorem F3.x9 {b:Ty} {xs:List (List a.T×List b.T)} (d:F3 c G w m a b xs):
  (∀ k x,xs[k]? =some x->GN (Rp G w a) a.sz w (m.hn (k*2)) x.1/\GN (Rp G w b) b.sz w (m.hn (k*2+1)) x.2)∧
  (∀ k,k<xs.length*2->(m.hn k).nil=false->(m.hn k).CN∈m.ins.l/\(m.hn k).CN≠m.CN/\m.nil=false)∧
  (∀ k k',k<xs.length*2->k' <xs.length*2->k≠k' ->(m.hn k).nil=false->(m.hn k').nil=false->(m.hn k).CN≠(m.hn k').CN)∧
  (∀ w' :World,w'.heap=w.heap->(Builtin.firstCells 2 xs.length (.slice m.ad m.len m.cap)).run P w' = .ok ((List.range (xs.length*2)).map fun k=>Y9 (m.hn k)).toArray w'):=by
 rcases d.cs with ⟨h1,h2,h3⟩|⟨h1,h2,h3,arr,ty,h4,h5,h6,h7,h8,h9⟩
 ·subst h2
  refine⟨fun k x hk=>by simp at hk,fun k hk=>by simp at hk,fun k k' hk=>by simp at hk,fun w' hw=> ?_⟩
  cases m.ad with
  |none=>rfl
  |some p=>
   have:=run_loadCells_list (P:=P) w' p [] (fun j v hj=>by simp at hj)
   exact this
 ·refine⟨h7,fun k hk hn=>⟨(h8 k hk hn).1,(h8 k hk hn).2,h1⟩,h9,fun w' hw=> ?_⟩
  have hm:m.len=xs.length:=d.len
  have hr:=V_ (P:=P) (w:=w') (size:=2) h1 (by rw[hw];exact h4) (by rw[d.off];omega)
  rw[hm] at hr ⊢
  rw[hr]
  congr 2
  apply XA
  intro j
  rw[CP,d.off]
  by_cases hj:j<xs.length*2
  ·rw[ab,NV,h6 j hj]
   simp [hj,Y9]
  ·rw[af,IF (by simp;omega)]
variable {ty:TypeId}
theorem F3.join (P:Program) {b:Ty} {xs ys:List (List a.T×List b.T)} {mx my:Nm} (dx:F3 c G w mx a b xs) (dy:F3 c G w my a b ys)
  (hh:∀ k,m.hn k=if k<xs.length*2 then mx.hn k else my.hn (k-xs.length*2))
  (h1:m.len=(xs++ys).length) (h2:m.off=0) (h3:m.nil=false) (h4:m.CN∈m.ins.l) (h5:(xs++ys).length<=m.cap) (HN:m.ins.l.Nodup) (QF:∀ b∈m.ins.l,¬G b/\¬c.Old b/\∃ arr ty fz,w'.heap[b]? =some (.cells arr ty fz))
  {arr:Array Value} (ha:w'.heap[m.CN]? =some (.cells arr ty (0,0))) (b8:arr.size=m.cap*2)
  (hc:∀ k,k<(xs++ys).length*2->arr[k]? =some (Y9 (m.hn k)))
  (hsx:∀ b∈mx.ins.l,b∈m.ins.l) (hsy:∀ b∈my.ins.l,b∈m.ins.l) (Y2:∀ b∈mx.ins.l,b∉my.ins.l) (hmx:m.CN∈mx.ins.l->m.CN=mx.CN) (hmy:m.CN∉my.ins.l)
  (hw:∀ b,b∈mx.ins.l\/b∈my.ins.l->b≠m.CN->w'.heap[b]? =w.heap[b]?) (hG:∀ b,G b->w'.heap[b]? =w.heap[b]?):F3 c G w' m a b (xs++ys):=by
 obtain⟨x1,x2,x3,_⟩:=dx.x9 (P:=P)
 obtain⟨y1,y2,y3,_⟩:=dy.x9 (P:=P)
 have CW:∀ k,k<xs.length*2->(mx.hn k).nil=false->(mx.hn k).CN≠m.CN:=by
  intro k hk hn he
  obtain⟨q1,q2,q3⟩:=x2 k hk hn
  exact q2 (he.trans (hmx (he ▸ q1)))
 have ASN:∀ k,k<ys.length*2->(my.hn k).nil=false->(my.hn k).CN≠m.CN:=by
  intro k hk hn he
  exact hmy (he ▸ (y2 k hk hn).1)
 have hix:∀ (t:Ty) (k:Nat) (v:List t.T),k<xs.length*2->GN (Rp G w t) t.sz w (mx.hn k) v->GN (Rp G w' t) t.sz w' (mx.hn k) v:=fun t k v hk hi=>
  hi.mono (fun x vs hx=>Rp.mono hG (fun _ h=>h) t x vs hx) (fun hn=>hw _ (.inl (x2 k hk hn).1) (CW k hk hn))
 have hiy:∀ (t:Ty) (k:Nat) (v:List t.T),k<ys.length*2->GN (Rp G w t) t.sz w (my.hn k) v->GN (Rp G w' t) t.sz w' (my.hn k) v:=fun t k v hk hi=>
  hi.mono (fun x vs hx=>Rp.mono hG (fun _ h=>h) t x vs hx) (fun hn=>hw _ (.inr (y2 k hk hn).1) (ASN k hk hn))
 refine⟨h1,h2,HN,QF,.inr ⟨h3,h4,h5,arr,ty,ha,b8,hc, ?_, ?_, ?_⟩⟩
 ·intro k x hk
  rw[hh,hh]
  by_cases n7:k<xs.length
  ·rw[V4 n7] at hk
   obtain⟨q1,q2⟩:=x1 k x hk
   rw[ab,ab]
   exact⟨hix a _ _ (by omega) q1,hix b _ _ (by omega) q2⟩
  ·rw[SI (by omega)] at hk
   have DY:=(AA4.1 hk).1
   obtain⟨q1,q2⟩:=y1 _ x hk
   rw[af,af,show k*2-xs.length*2=(k-xs.length)*2 by omega,show k*2+1-xs.length*2=(k-xs.length)*2+1 by omega]
   exact⟨hiy a _ _ (by omega) q1,hiy b _ _ (by omega) q2⟩
 ·intro k hk
  rw[PQ] at hk
  rw[hh]
  by_cases n7:k<xs.length*2
  ·rw[AA n7]
   exact fun hn=>⟨hsx _ (x2 k n7 hn).1,CW k n7 hn⟩
  ·rw[AE n7]
   exact fun hn=>⟨hsy _ (y2 _ (by omega) hn).1,ASN _ (by omega) hn⟩
 ·intro i j hi hj rT
  rw[PQ] at hi hj
  rw[hh,hh]
  by_cases hix:i<xs.length*2
  ·rw[AA hix]
   by_cases hjx:j<xs.length*2
   ·rw[AA hjx];exact x3 i j hix hjx rT
   ·rw[AE hjx]
    intro UG hnj he
    exact Y2 _ (x2 i hix UG).1 (he ▸ (y2 _ (by omega) hnj).1)
  ·rw[AE hix]
   by_cases hjx:j<xs.length*2
   ·rw[AA hjx]
    intro UG hnj he
    exact Y2 _ (x2 j hjx hnj).1 (he ▸ (y2 _ (by omega) UG).1)
   ·rw[AE hjx];exact y3 _ _ (by omega) (by omega) (by omega)
variable {ts:Array TypeId} {args:Array Operand}
set_option maxHeartbeats 1000000 in
theorem AKF (GJ:o.op= .call { callee:= .builtin .append,args:=args,argTypes:=ts }) {x y:SV} (M8:args.toList.map ρ=[x,y])
  (CL:∀ n e,AQ n=some e->look L n=some e) {DU:DN} (h:iR P AQ ts.toList x y bs pr=some (v,DU)):FH TB P o ρ L v DU:=by
 unfold iR at h
 split at h
 rotate_left
 ·cases h
 rename_i t0 t1 hts
 split at h
 rotate_left
 ·cases h
 rename_i e e1 hu hu1
 split at h
 rotate_left
 ·cases h
 rename_i q a b hq hz hty
 split at h
 rotate_left
 ·cases h
 rename_i hc
 obtain⟨sC,hqb,D8⟩:=hc
 split at h
 rotate_left
 ·cases h
 rename_i xs u1 ys u2 rP hp2
 split at h
 rotate_left
 ·cases h
 rename_i Y2
 split at h
 rotate_left
 ·cases h
 rename_i hby
 simp only[pr,A_,DG] at h
 obtain⟨rfl,rfl⟩:=h
 have MS:look L bs=some .MB:=CL _ _ (by have:=DA D8 0 (by omega);simpa using this)
 obtain⟨zv,hzv,hzl⟩:∃ zv,q.zero=some zv/\zv.cells.toList.map UC=[.LW,.LW]:=by
  unfold OV at hz
  rw[hq] at hz
  simp only at hz
  split at hz
  ·simp only[A_] at hz
   exact⟨_,by assumption,hz⟩
  ·cases hz
 have hzc:zv.cells= #[.slice none 0 0,.slice none 0 0]:=by
  have:=XP (E:=⟨fun _=>⟨0,0,true,0,0,none⟩,fun _=>undef⟩) zv.cells.toList
  rw[hzl] at this
  apply dT
  exact this.symm
 have vE:ts[0]? =some t0:=by rw[<-mH,hts];rfl
 have vF:ts[1]? =some t1:=by rw[<-mH,hts];rfl
 refine BW fun c w E hh hw=> ?_
 obtain⟨G,hG⟩:=hh
 have side:∀ (v:SV) (zs:List (List a.T×List b.T)) (u:DN),AGX AQ a b v=some (zs,u)->∃ (m:Nm),v.den E= .slice m.ad m.len m.cap/\F3 c G w m a b zs∧
   ((u=[]/\m.ins.l=[])\/∃ i,look L i=some (.tree a b zs)/\(A9.tree a b zs).IL=false/\u=[(i,.dead)]/\∀ z∈m.ins.l,(A9.tree a b zs).ow E i z):=by
  intro v zs u hv
  rcases AKE hv with ⟨rfl,rfl,rfl⟩|⟨i,rfl,hl,rfl⟩
  ·exact⟨⟨0,0,true,0,0,none⟩,rfl,⟨rfl,rfl,dP,(fun b hb=>(by cases hb)),.inl ⟨rfl,rfl,rfl⟩⟩,.inl ⟨rfl,rfl⟩⟩
  ·exact⟨E.nm i,rfl,hG.MQ i _ (CL _ _ hl),.inr ⟨i,CL _ _ hl,rfl,rfl,fun z hz=>A9.iJ.2 hz⟩⟩
 obtain⟨mx,hxd,dx,sx⟩:=side x xs u1 rP
 obtain⟨my,hyd,dy,sy⟩:=side y ys u2 hp2
 obtain⟨_,_,_,rx⟩:=dx.x9 (P:=P)
 obtain⟨_,_,_,ry⟩:=dy.x9 (P:=P)
 obtain⟨hH,o_,NX,ASO,ASP,hxy⟩:=AMX hG MS sx sy Y2
 have uD:∀ (w' :World) (r:Value),(Builtin.append_ ts o.type #[.slice mx.ad mx.len mx.cap,.slice my.ad my.len my.cap]).run P w= .ok r w' ->(execOp (fun x=>(ρ x).den E) o).run P w= .ok (.value r) w' :=by
  intro w' r hr
  have mY :(args.map fun x=>(ρ x).den E)= #[.slice mx.ad mx.len mx.cap,.slice my.ad my.len my.cap]:=by
   apply dT
   have:(args.toList.map ρ).map (SV.den E)=[.slice mx.ad mx.len mx.cap,.slice my.ad my.len my.cap]:=by rw[M8];simp [hxd,hyd]
   rw[XB] at this
   rw[lO]
   exact this
  simp only[execOp,GJ,resolve,invoke,Sem.run_bind,Sem.run_pure,Result.andThen,mY,builtin,hr]
 have vB:=dx.len
 have n8:=dy.len
 have AKC:∀ (w' :World) (m:Nm),Rest w w' ->w.heap.size<=w'.heap.size->(∀ z,z<w.heap.size->z∉m.ins.l->w'.heap[z]? =w.heap[z]?)->(∀ z∈m.ins.l,JP E (AJ L (u1++u2)) z)->F3 c G w' m a b (xs++ys)→
   (Builtin.append_ ts o.type #[.slice mx.ad mx.len mx.cap,.slice my.ad my.len my.cap]).run P w= .ok (.slice m.ad m.len m.cap) w' →
   ∃ (w' :World) (E' :Env) (nx:Next),(execOp (fun x=>(ρ x).den E) o).run P w= .ok nx w' /\(nx= .value ((SV.NT bs).den E')\/(nx= .skip/\(SV.NT bs)=BK))∧
   Hd c w' E' (AJ L (u1++u2++ [(bs,.tree a b (xs++ys))]))/\(∀ n,Al L n->E'.nm n=E.nm n/\Al (AJ L (u1++u2++ [(bs,.tree a b (xs++ys))])) n)/\E'.ds=E.ds/\(SV.NT bs).wf E' (AJ L (u1++u2++ [(bs,.tree a b (xs++ys))])):=by
  intro w' m r1 r2 r3 r4 r5 r6
  obtain⟨g1,g2,g3,g4⟩:=hH.AZ2 o_ r1 r2 r3 r4 r5
  have eu:AJ L (u1++u2++ [(bs,.tree a b (xs++ys))])=DW (AJ L (u1++u2)) (bs,.tree a b (xs++ys)):=by rw[BS];rfl
  rw[eu]
  refine⟨w',_,_,uD _ _ r6,.inl ?_,⟨G,g1⟩,fun n hn=>g2 n (NX n hn),rfl,g3⟩
  simp only[SV.den];rw[g4]
 by_cases x8:mx.cap<mx.len+my.len
 ·
  obtain⟨c',hc',KD⟩:=run_append_grow (P:=P) (w:=w) (ty:=o.type) (a:=mx.ad) (b:=my.ad) (len:=mx.len) (cap:=mx.cap) (n:=my.len) (c:=my.cap) vE vF hu hu1 hq hzv hqb
   (by rw[sC];have:=ry w.drew rfl;rw[<-n8] at this;exact this)
   (by rw[sC];have:=rx w.drew rfl;rw[<-vB] at this;exact this) x8 (by rw[vB,n8];exact hby)
  have hold:¬c.Old w.heap.size:=fun hx=>by have:=hx.1;have:=hG.size;omega
  have hGn:¬G w.heap.size:=fun hx=>by have:=hG.gin _ hx;omega
  have CZ:∀ (ob:Obj) (z:Nat),z<w.heap.size->((w.drew).alloc ob).heap[z]? =w.heap[z]? :=by
   intro ob z hz
   show (w.heap.push ob)[z]? =_
   rw[tK,af]
  have SY:∀ (ob:Obj),((w.drew).alloc ob).heap[w.heap.size]? =some ob:=by
   intro ob
   show (w.heap.push ob)[w.heap.size]? =_
   simp
  have ADV:∀ z∈mx.ins.l,z<w.heap.size:=fun z hz=>by obtain⟨_,_,_,_,_,h⟩:=dx.all z hz;exact UE h
  have ADW:∀ z∈my.ins.l,z<w.heap.size:=fun z hz=>by obtain⟨_,_,_,_,_,h⟩:=dy.all z hz;exact UE h
  have hhn:∀ k,(Nm.hn { CN:=w.heap.size,off:=0,nil:=false,len:=mx.len+my.len,cap:=c',XC:=none,ins:=⟨w.heap.size::(mx.ins.l++my.ins.l)⟩,hd:=⟨fun k=>if k<xs.length*2 then mx.hd.l k else my.hd.l (k-xs.length*2)⟩ } k)=if k<xs.length*2 then mx.hn k else my.hn (k-xs.length*2):=by
   intro k
   show (if k<xs.length*2 then mx.hd.l k else my.hd.l (k-xs.length*2)).nm=_
   split <;> rfl
  refine AKC _ { CN:=w.heap.size,off:=0,nil:=false,len:=mx.len+my.len,cap:=c',XC:=none,ins:=⟨w.heap.size::(mx.ins.l++my.ins.l)⟩,hd:=⟨fun k=>if k<xs.length*2 then mx.hd.l k else my.hd.l (k-xs.length*2)⟩ } ?_ ?_ ?_ ?_ ?_ KD
  ·exact⟨rfl,rfl,rfl⟩
  ·show _<=(w.heap.push _).size;simp
  ·exact fun z hz _=>CZ _ z hz
  ·intro z hz
   rcases GH.1 hz with rfl|hz
   ·exact VX hH
   ·rcases FG.1 hz with hz|hz
    ·exact ASO z hz
    ·exact ASP z hz
  ·refine F3.join P dx dy hhn (by simp [vB,n8]) rfl rfl (by simp) (by simp [<-vB,←n8];exact hc') ?_ ?_ (SY _) ?_ ?_ (fun z hz=>by simp [hz]) (fun z hz=>by simp [hz]) hxy (fun hm=> ?_) (fun hm=> ?_) (fun z hz _=>CZ _ z (hz.elim (ADV z) (ADW z))) (fun z hz=>CZ _ z (hG.gin z hz))
   ·refine VE.2 ⟨fun hm=> ?_,PB.2 ⟨dx.nd,dy.nd,fun z hz z' hz' he=>hxy z hz (he ▸ hz')⟩⟩
    rcases FG.1 hm with hm|hm
    ·have:=ADV _ hm;omega
    ·have:=ADW _ hm;omega
   ·intro z hz
    rcases GH.1 hz with rfl|hz
    ·exact⟨hGn,hold,_,_,_,SY _⟩
    ·rcases FG.1 hz with hz|hz
     ·obtain⟨q1,q2,arr,ty,fz,q3⟩:=dx.all z hz
      exact⟨q1,q2,arr,ty,fz,by rw[CZ _ z (ADV z hz)];exact q3⟩
     ·obtain⟨q1,q2,arr,ty,fz,q3⟩:=dy.all z hz
      exact⟨q1,q2,arr,ty,fz,by rw[CZ _ z (ADW z hz)];exact q3⟩
   ·simp [Builtin.zeroCells,hzc]
    omega
   ·intro k hk
    rw[PQ] at hk
    rw[hhn,AFP (by simp;omega)]
    by_cases n7:k<xs.length*2
    ·rw[AA n7,AFP (by simp;omega)]
     simp [ALV (show k<mx.len*2 by omega)]
    ·rw[AE n7,AR2 (by simp;omega)]
     have MZ:k-xs.length*2<my.len*2:=by omega
     simp [vB,ALV MZ]
   ·have:=ADV _ hm;simp at this
   ·have:=ADW _ hm;simp at this
 ·
  rcases dx.cs with ⟨VY,h2,h3⟩|⟨VY,p4,p3,arr,ty,p1,p2,p5,_,_,_⟩
  ·have hx0:mx.len=0:=by rw[vB,h2];rfl
   have hy0:my.len=0:=by omega
   have hys:ys=[]:=by
    cases ys with
    |nil=>rfl
    |cons _ _=>simp at n8;omega
   have ADX:mx.ad=mx.XC:=by simp [Nm.ad,VY]
   have KD:=JJ (P:=P) (w:=w) (w' :=w) (ty:=o.type) (a:=mx.XC) (b:=my.ad) (len:=0) (cap:=0) (n:=my.len) (c:=my.cap) (news:=[]) vE vF hu hu1 hq
    (by rw[sC];have:=ry w rfl;rw[<-n8,hy0] at this;rw[hy0];exact this) (by omega) (by split <;> rfl)
   refine AKC w ⟨0,0,true,0,0,mx.XC⟩ (.refl _) (EH _) (fun _ _ _=>rfl) (fun z hz=>(by cases hz)) ⟨by simp [h2,hys],rfl,dP,(fun z hz=>(by cases hz)),.inl ⟨rfl,by simp [h2,hys],rfl⟩⟩ ?_
   rw[ADX,hx0,h3,KD,hy0]
   rfl
  ·have hnl:((List.range (ys.length*2)).map fun k=>Y9 (my.hn k)).length=ys.length*2:=by simp
   obtain⟨w',s1,s2,s3,s4,s5⟩:=QG (P:=P) (off:=mx.len*2) ((List.range (ys.length*2)).map fun k=>Y9 (my.hn k)) w arr 0 p1 (by
     intro u hu
     obtain⟨k,_,rfl⟩:=DH.1 hu
     exact⟨fun c h=>(by cases h),fun c h=>(by cases h)⟩) (by rw[hnl];omega)
   rw[P6] at s4
   have ADX:mx.ad=some ⟨mx.CN,0,none⟩:=by simp [Nm.ad,VY,dx.off]
   have KD:=JJ (P:=P) (w:=w) (w' :=w') (ty:=o.type) (a:=mx.ad) (b:=my.ad) (len:=mx.len) (cap:=mx.cap) (n:=my.len) (c:=my.cap) (news:=(List.range (ys.length*2)).map fun k=>Y9 (my.hn k)) vE vF hu hu1 hq
    (by rw[sC];have:=ry w rfl;rw[<-n8] at this ⊢;exact this) (by omega) (by
     rw[ADX]
     simp only
     rw[sC,IT,NV];exact s1)
   have hmy:mx.CN∉my.ins.l:=hxy _ p4
   have hhn:∀ k,(Nm.hn { CN:=mx.CN,off:=0,nil:=false,len:=mx.len+my.len,cap:=mx.cap,XC:=none,ins:=⟨mx.ins.l++my.ins.l⟩,hd:=⟨fun k=>if k<xs.length*2 then mx.hd.l k else my.hd.l (k-xs.length*2)⟩ } k)=if k<xs.length*2 then mx.hn k else my.hn (k-xs.length*2):=by
    intro k
    show (if k<xs.length*2 then mx.hd.l k else my.hd.l (k-xs.length*2)).nm=_
    split <;> rfl
   refine AKC w' { CN:=mx.CN,off:=0,nil:=false,len:=mx.len+my.len,cap:=mx.cap,XC:=none,ins:=⟨mx.ins.l++my.ins.l⟩,hd:=⟨fun k=>if k<xs.length*2 then mx.hd.l k else my.hd.l (k-xs.length*2)⟩ } s2 (by omega) (fun z _ hz=>s5 z (fun he=>hz (by rw[he];simp [p4]))) ?_ ?_ ?_
   ·intro z hz
    rcases FG.1 hz with hz|hz
    ·exact ASO z hz
    ·exact ASP z hz
   ·refine F3.join P dx dy hhn (by simp [vB,n8]) rfl rfl (by simp [p4]) (by simp [<-vB,←n8];omega) (PB.2 ⟨dx.nd,dy.nd,fun z hz z' hz' he=>hxy z hz (he ▸ hz')⟩) ?_ s4 (by rw[SU];exact p2) ?_ (fun z hz=>by simp [hz]) (fun z hz=>by simp [hz]) hxy (fun _=>rfl) hmy (fun z _ hz=>s5 z hz) (fun z hz=>s5 z (fun he=>(dx.all _ p4).1 (he ▸ hz)))
    ·intro z hz
     by_cases hzm:z=mx.CN
     ·subst hzm
      exact⟨(dx.all _ p4).1,(dx.all _ p4).2.1,_,_,_,s4⟩
     ·rw[s5 z hzm]
      rcases FG.1 hz with hz|hz
      ·exact dx.all z hz
      ·exact dy.all z hz
    ·intro k hk
     rw[PQ] at hk
     rw[hhn,KT,hnl]
     by_cases n7:k<xs.length*2
     ·rw[af,AA n7];exact p5 k n7
     ·rw[ab,AE n7]
      have:k-xs.length*2<ys.length*2:=by omega
      rw[vB]
      simp [this]
   ·rw[KD,ADX]
    rfl
end
end Go.V3
namespace Go.V3
open Go
variable {TB:Tb}
section
variable {P:Program} {AQ:Nat->Option A9} {L:AM}
variable {cap:Nat} {E:Env} {q:TypeInfo} {e t:TypeId} {w:World}
theorem YG {x:SV} {A:Option Addr} {len:Nat} {low high:Option SV} {h l:Option Int} {hn ln:Nat} (hu:P.underlying t=some (.slice e)) (hq:P.info? e=some q)
  (hx:x.den E= .slice A len cap) (hh:bnd high len=some (h,hn)) (hl:bnd low 0=some (l,ln)) (hb:Bd l h hn cap):
  (Instr.sliceAt t (x.den E) (low.map (SV.den E)) (high.map (SV.den E)) none).run P w= .ok (.slice (if cap=ln then A else rI A (ln*q.size)) (hn-ln) (cap-ln)) w:=by
 simp only[Instr.sliceAt,hx,Sem.run_bind,run_underlying hu,Result.andThen]
 simp only[Instr.slice,Sem.run_bind,run_underlying hu,Result.andThen,xI (E:=E) w true hh hl rfl hb,sizeOf,typeInfo]
 simp [hq,rI]
variable {n:Nat}
theorem AKG {low high:Option SV} {h l:Option Int} {hn ln:Nat} (hh:bnd high n=some (h,hn)) (hl:bnd low 0=some (l,ln)) (hb:Bd l h hn n) (hc:n<=cap):ln<=hn/\hn<=n/\Bd l h hn cap:=by
 obtain⟨b1,b2⟩:=hb
 have h2:ln<=hn:=by
  unfold bnd at hl
  cases low with
  |none=>simp only[A_,DG] at hl;obtain⟨rfl,rfl⟩:=hl;omega
  |some y=>
   simp only at hl
   split at hl
   ·simp only[A_,DG] at hl
    obtain⟨rfl,rfl⟩:=hl
    simp only at b2
    omega
   ·cases hl
 unfold bnd at hh
 cases high with
 |none=>simp only[A_,DG] at hh;obtain⟨rfl,rfl⟩:=hh;exact⟨h2,EH _,trivial,b2⟩
 |some y=>
  simp only at hh
  split at hh
  ·simp only[A_,DG] at hh
   obtain⟨rfl,rfl⟩:=hh
   simp only at b1
   exact⟨h2,by omega,⟨b1.1,by omega⟩,b2⟩
  ·cases hh
variable {m:Nm} {G:Nat->Prop} {c:EX TB} {α:Type}
theorem AWZ {R:α->List Value->Prop} {sz:Nat} {xs:List α} (h:Own R sz c G w m xs) {lo:Nat} (hl:lo+n<=m.len):
  Own R sz c G w (if m.cap=lo then ({ CN:=m.CN,off:=m.off,nil:=m.nil,len:=n,cap:=m.cap-lo,XC:=m.XC,fz:=m.fz }:Nm) else { CN:=m.CN,off:=m.off+lo*sz,nil:=m.nil,len:=n,cap:=m.cap-lo,XC:=rI m.XC (lo*sz),fz:=m.fz }) (BF xs lo n):=by
 have u9:=iH h
 obtain⟨h1,h2,h3⟩:=h
 have hlen:(BF xs lo n).length=n:=by unfold BF;simp;omega
 rcases h3 with ⟨h4,rfl,h6⟩|⟨h4,h5,h6,h7,arr,ty,h8,h9,h10⟩
 ·have hlo:lo=0/\n=0:=by simp at h1;omega
  obtain⟨rfl,rfl⟩:=hlo
  rw[AA h6]
  exact⟨by simp [BF],trivial,.inl ⟨h4,by simp [BF],by simp [h6]⟩⟩
 ·by_cases hc:m.cap=lo
  ·have hn:n=0:=by omega
   subst hn
   rw[AA hc]
   exact⟨by simp [BF],trivial,.inr ⟨h4,h5,h6,by simp [BF],arr,ty,h8,by simp only[hc,bL,ABN];omega,by intro i x hx;simp [BF] at hx⟩⟩
  ·rw[AE hc]
   have hm:(m.cap-lo)*sz+lo*sz=m.cap*sz:=by rw[<-SL];congr 1;omega
   refine⟨hlen.symm,trivial,.inr ⟨h4,h5,h6,by rw[hlen];show n<=m.cap-lo;omega,arr,ty,h8,by show m.off+lo*sz+(m.cap-lo)*sz<=_;omega,fun i x hx=> ?_⟩⟩
   simp only[BF] at hx
   rw[n_] at hx
   split at hx
   ·rw[dM] at hx
    have:=h10 _ _ hx
    rw[SL] at this
    rw[PC]
    exact this
   ·cases hx
variable {v:SV} {bs:Nat} {x:Operand} {ρ:Operand->SV} {o:Oper}
theorem APJ {l h:Option Operand} (GJ:o.op= .slice t x l h none) {CQ:Bool} (CL:∀ n e,AQ n=some e->look L n=some e) {DU:DN}
  (hs:rZ P AQ t (ρ x) (l.map ρ) (h.map ρ) CQ bs pr=some (v,DU)):FH TB P o ρ L v DU:=by
 unfold rZ at hs
 split at hs
 rotate_left
 ·cases hs
 rename_i e hu
 split at hs
 rotate_left
 ·cases hs
 rename_i q i hq hx
 have ASQ:∀ (E:Env) (y:Option Operand),y.map (fun x=>(ρ x).den E)=(y.map ρ).map (SV.den E):=fun E y=>by cases y <;> rfl
 split at hs
 ·rename_i a xs hl
  cases CQ with
  |true=>
   simp only at hs
   split at hs
   rotate_left
   ·cases hs
   rename_i hc
   obtain⟨iV,D8⟩:=hc
   split at hs
   rotate_left
   ·cases hs
   rename_i hh hn ll ln hhb hlb
   split at hs
   rotate_left
   ·cases hs
   rename_i hb
   simp only[pr,A_,DG] at hs
   obtain⟨rfl,rfl⟩:=hs
   have MS:look L bs=some .MB:=CL _ _ (by have:=DA D8 0 (by omega);simpa using this)
   have hLi:=CL _ _ hl
   refine BW fun c w E hH hw=> ?_
   obtain⟨G,hG⟩:=hH
   have AAK:Own (Rp G w a) a.sz c G w (E.nm i) xs:=hG.MQ i _ hLi
   have u9:=iH AAK
   have hlen:=AAK.1
   obtain⟨c1,c2,c3⟩:=AKG hhb hlb hb (cap:=(E.nm i).cap) (by omega)
   have GR:=AWZ AAK (lo:=ln) (n:=hn-ln) (by omega)
   have hib:i≠bs:=by intro he;rw[he,MS] at hLi;cases hLi
   have Y6:=hG.kill (AR hLi)
   have ADU:look (DW L (i,.dead)) bs=some .MB:=by rw[BB (AR hLi),AE (fun he=>hib he.symm)];exact MS
   have C6:∀ b,(A9.row a (BF xs ln (hn-ln))).own (if (E.nm i).cap=ln then ({ CN:=(E.nm i).CN,off:=(E.nm i).off,nil:=(E.nm i).nil,len:=hn-ln,cap:=(E.nm i).cap-ln,XC:=(E.nm i).XC,fz:=(E.nm i).fz }:Nm) else { CN:=(E.nm i).CN,off:=(E.nm i).off+ln*a.sz,nil:=(E.nm i).nil,len:=hn-ln,cap:=(E.nm i).cap-ln,XC:=rI (E.nm i).XC (ln*a.sz),fz:=(E.nm i).fz })=some b->(A9.row a xs).own (E.nm i)=some b:=by
    intro b hb
    split at hb <;> exact hb
   have h1:=Y6.change (i:=bs) (e' := .row a (BF xs ln (hn-ln))) (m:=_) (w' :=w) (AR ADU) (.refl _) (EH _) (fun hx=>absurd hx (FA ADU)) rfl (fun _ _ _=>rfl)
    (fun b hb=>by have:=hG.Q7 hLi (.inl (C6 b hb));exact⟨this.2.1,this.1⟩)
    (fun k f hk hf b hb he=>by
     rw[BB (AR hLi)] at hf
     by_cases lT:k=i
     ·subst lT;simp only[HP,A_] at hf;subst hf;rcases hb with hb|⟨hb,_⟩|⟨hb,_⟩ <;> cases hb
     ·rw[AE lT] at hf
      exact hG.inj k i f _ b lT hf hLi hb (.inl (C6 b he)))
    (fun _=>GR)
   refine⟨w,_,_, ?_,.inl rfl,⟨G,h1⟩,fun n hn=>⟨E.H5 _ (fun he=>FA (he ▸ MS) hn),BZ rfl n (BZ rfl n hn)⟩,rfl,⟨_,by show look (DW (DW L _) _) bs=_;rw[BB (AR ADU),AA rfl],rfl⟩⟩
   simp only[execOp,GJ,AM6,ASQ]
   refine C_ ?_
   rw[YG (E:=E) (x:=ρ x) (A:=(E.nm i).ad) (len:=xs.length) (cap:=(E.nm i).cap) hu hq (by rw[hx];simp [SV.den,hlen]) hhb hlb c3]
   simp only[SV.den,Env.E_]
   split
   ·rename_i hcl;simp [Nm.ad]
   ·simp only[Nm.ad,iV]
    split
    ·rfl
    ·simp [rI,IT]
  |false=>
  simp only at hs
  split at hs
  rotate_left
  ·cases hs
  rename_i iV
  split at hs
  rotate_left
  ·cases hs
  rename_i hh hn ll ln hhb hlb
  split at hs
  rotate_left
  ·cases hs
  rename_i hb
  simp only[pr,A_,DG] at hs
  obtain⟨rfl,rfl⟩:=hs
  refine BW fun c w E hH hw=> ?_
  obtain⟨G,hG⟩:=hH
  have AAK:=hG.MQ i _ (CL _ _ hl)
  have u9:=iH AAK
  have hlen:=AAK.1
  obtain⟨c1,c2,c3⟩:=AKG hhb hlb hb (cap:=(E.nm i).cap) (by omega)
  have XW:=hw x
  rw[hx] at XW
  refine⟨w,E,_, ?_,.inl rfl,⟨G,hG⟩,fun n hn=>⟨rfl,hn⟩,rfl,⟨XW,by omega⟩⟩
  simp only[execOp,GJ,AM6,ASQ]
  refine C_ ?_
  rw[YG (E:=E) (x:=ρ x) (A:=(E.nm i).ad) (len:=xs.length) (cap:=(E.nm i).cap) hu hq (by rw[hx];simp [SV.den,hlen]) hhb hlb c3]
  simp [SV.den,iV]
 ·rename_i a xs hl
  split at hs
  rotate_left
  ·cases hs
  rename_i hc
  obtain⟨iV,D8⟩:=hc
  split at hs
  rotate_left
  ·cases hs
  rename_i hh hn ll ln hhb hlb
  split at hs
  rotate_left
  ·cases hs
  rename_i hb
  simp only[pr,A_,DG] at hs
  obtain⟨rfl,rfl⟩:=hs
  have MS:look L bs=some .MB:=CL _ _ (by have:=DA D8 0 (by omega);simpa using this)
  refine BW fun c w E hH hw=> ?_
  obtain⟨G,hG⟩:=hH
  have AAK:rA (Rp G w a) a.sz G w (E.nm i) xs:=hG.MQ i _ (CL _ _ hl)
  have hlen:=AAK.1
  obtain⟨c1,c2,c3⟩:=AKG hhb hlb hb (cap:=(E.nm i).cap) (by have:=AAK.2.1;omega)
  have GR:=oO AAK (lo:=ln) (n:=hn-ln) (by omega)
  have h1:=hG.change (i:=bs) (e' := .shr a (BF xs ln (hn-ln))) (m:=_) (w' :=w) (AR MS) (.refl _) (EH _) (fun hx=>absurd hx (FA MS)) rfl (fun _ _ _=>rfl) (fun b hb=>by cases hb) (fun _ _ _ _ _ _ hb=>by cases hb) (fun _=>GR)
  refine⟨w,_,_, ?_,.inl rfl,⟨G,h1⟩,fun n hn=>⟨E.H5 _ (fun he=>FA (he ▸ MS) hn),BZ rfl n hn⟩,rfl,⟨_,by show look (DW L _) bs=_;rw[BB (AR MS),AA rfl],rfl⟩⟩
  simp only[execOp,GJ,AM6,ASQ]
  refine C_ ?_
  rw[YG (E:=E) (x:=ρ x) (A:=(E.nm i).ad) (len:=xs.length) (cap:=(E.nm i).cap) hu hq (by rw[hx];simp [SV.den,hlen]) hhb hlb c3]
  simp only[SV.den,Env.E_]
  split
  ·rename_i hcl;simp [Nm.ad]
  ·simp only[Nm.ad,iV]
   split
   ·rfl
   ·simp [rI,IT]
 ·cases hs
theorem M9 {x i:SV} {p:Addr} {len:Nat} {n:Int} (hu:P.underlying t=some (.slice e)) (hq:P.info? e=some q) (hx:x.den E= .slice (some p) len cap) (hi:idxOf i=some n)
  (h0:0<=n) (h1:n<len):(Instr.indexAt t (x.den E) (i.den E)).run P w= .ok (.pointer (some (p.add (n.toNat*q.size)))) w:=by
 obtain⟨k,hk⟩:=VW (E:=E) hi
 rw[hk,hx]
 simp [Instr.indexAt,asIntOf,run_underlying hu,sizeOf,typeInfo,hq,h0,h1]
theorem yA {len:Nat} {x i:SV} {p:Addr} {n:Int} (hu:P.underlying t=some (.array len e)) (hq:P.info? e=some q) (hx:x.den E= .pointer (some p)) (hi:idxOf i=some n)
  (h0:0<=n) (h1:n<len):(Instr.indexAt t (x.den E) (i.den E)).run P w= .ok (.pointer (some (p.add (n.toNat*q.size)))) w:=by
 obtain⟨k,hk⟩:=VW (E:=E) hi
 rw[hk,hx]
 simp [Instr.indexAt,asIntOf,run_underlying hu,sizeOf,typeInfo,hq,h0,h1,Instr.sureAddr]
theorem APK {i:Operand} (GJ:o.op= .indexAddr t x i) (CL:∀ n e,AQ n=some e->look L n=some e) {DU:DN}
  (hs:r_ P AQ t (ρ x) (ρ i) pr=some (v,DU)):FH TB P o ρ L v DU:=by
 have whole:∀ (j:Nat) (a:Ty) (xs:List a.T) (e:TypeId) (q:TypeInfo) (n:Int),P.underlying t=some (.slice e)->P.info? e=some q->idxOf (ρ i)=some n->ρ x= .NT j->(look L j=some (.row a xs)\/look L j=some (.shr a xs))->q.size=a.sz->0<=n/\n<(xs.length:Int)→
   FH TB P o ρ L (.el j n.toNat a.sz 0) []:=by
  intro j a xs e q n hu hq hi hx hl iV hn
  refine BW fun c w E hH hw=> ?_
  obtain⟨G,hG⟩:=hH
  have XW:=hw x
  rw[hx] at XW
  have hrd:Rd (Rp G w a) a.sz w (E.nm j) xs:=by
   rcases hl with hl|hl
   ·exact x6 (hG.MQ j _ hl)
   ·exact AK9 (hG.MQ j _ hl)
  have VJ:(E.nm j).nil=false:=by
   rcases hrd.2.2 with h|h
   ·rw[h] at hn;simp at hn;omega
   ·exact h.1
  refine⟨w,E,_, ?_,.inl rfl,⟨G,hG⟩,fun n hn=>⟨rfl,hn⟩,rfl,⟨XW,by rw[hrd.1];omega,VJ⟩⟩
  simp only[execOp,GJ]
  refine C_ ?_
  rw[M9 (p:=⟨(E.nm j).CN,(E.nm j).off,none⟩) hu hq (len:=(E.nm j).len) (cap:=(E.nm j).cap) (by rw[hx];simp [SV.den,Nm.ad,VJ]) hi hn.1 (by rw[hrd.1];exact hn.2)]
  simp [SV.den,IT,iV]
 unfold r_ at hs
 split at hs
 ·rename_i e n hu hi
  split at hs
  ·rename_i q j hq hx
   split at hs
   ·rename_i a xs hl
    split at hs
    rotate_left
    ·cases hs
    rename_i iV
    split at hs
    rotate_left
    ·cases hs
    rename_i hn
    simp only[pr,A_,DG] at hs
    obtain⟨rfl,rfl⟩:=hs
    exact whole j a xs e q n hu hq hi hx (.inl (CL _ _ hl)) iV hn
   ·rename_i a xs hl
    split at hs
    rotate_left
    ·cases hs
    rename_i iV
    split at hs
    rotate_left
    ·cases hs
    rename_i hn
    simp only[pr,A_,DG] at hs
    obtain⟨rfl,rfl⟩:=hs
    exact whole j a xs e q n hu hq hi hx (.inr (CL _ _ hl)) iV hn
   ·rename_i a xss hh hl
    split at hs
    rotate_left
    ·cases hs
    rename_i iV
    split at hs
    rotate_left
    ·cases hs
    rename_i hn
    simp only[pr,A_,DG] at hs
    obtain⟨rfl,rfl⟩:=hs
    refine BW fun c w E hH hw=> ?_
    obtain⟨G,hG⟩:=hH
    have XW:=hw x
    rw[hx] at XW
    have hd:=hG.dp j _ _ _ (CL _ _ hl)
    have hlen:=hd.len
    have VJ:(E.nm j).nil=false:=by
     rcases hd.cs with ⟨_,h2,_⟩|⟨h1,_⟩
     ·rw[h2] at hn;simp at hn;omega
     ·exact h1
    refine⟨w,E,_, ?_,.inl rfl,⟨G,hG⟩,fun n hn=>⟨rfl,hn⟩,rfl,⟨XW,by rw[hlen];omega,VJ⟩⟩
    simp only[execOp,GJ]
    refine C_ ?_
    rw[M9 (p:=⟨(E.nm j).CN,(E.nm j).off,none⟩) hu hq (len:=(E.nm j).len) (cap:=(E.nm j).cap) (by rw[hx];simp [SV.den,Nm.ad,VJ]) hi hn.1 (by rw[hlen];exact hn.2)]
    simp [SV.den,IT,iV]
   ·rename_i t1 t2 xs hl
    split at hs
    rotate_left
    ·cases hs
    rename_i iV
    split at hs
    rotate_left
    ·cases hs
    rename_i hn
    simp only[pr,A_,DG] at hs
    obtain⟨rfl,rfl⟩:=hs
    refine BW fun c w E hH hw=> ?_
    obtain⟨G,hG⟩:=hH
    have XW:=hw x
    rw[hx] at XW
    have hd:F3 c G w (E.nm j) t1 t2 xs:=hG.MQ j _ (CL _ _ hl)
    have hlen:=hd.len
    have VJ:(E.nm j).nil=false:=by
     rcases hd.cs with ⟨_,h2,_⟩|⟨h1,_⟩
     ·rw[h2] at hn;simp at hn;omega
     ·exact h1
    refine⟨w,E,_, ?_,.inl rfl,⟨G,hG⟩,fun n hn=>⟨rfl,hn⟩,rfl,⟨XW,by rw[hlen];omega,VJ⟩⟩
    simp only[execOp,GJ]
    refine C_ ?_
    rw[M9 (p:=⟨(E.nm j).CN,(E.nm j).off,none⟩) hu hq (len:=(E.nm j).len) (cap:=(E.nm j).cap) (by rw[hx];simp [SV.den,Nm.ad,VJ]) hi hn.1 (by rw[hlen];exact hn.2)]
    simp [SV.den,IT,iV]
   ·cases hs
  ·rename_i q i' k h' hq hx
   have inner:∀ (tt:Ty) (ys:List tt.T) (hh:Nat),hh<2->h' =hh->q.size=1->0<=n/\n<(ys.length:Int)→
     (∀ (c:EX TB) (w:World) (E:Env) (G:Nat->Prop),AT c G w E L->k<(E.nm i').len->GN (Rp G w tt) tt.sz w ((E.nm i').hn (k*2+hh)) ys)->FH TB P o ρ L (.tel i' k hh n.toNat) []:=by
    intro tt ys hh hh2 he sC hn MR
    subst he
    refine BW fun c w E hH hw=> ?_
    obtain⟨G,hG⟩:=hH
    have XW:=hw x
    rw[hx] at XW
    obtain⟨NX,hk,vR⟩:=XW
    obtain⟨p1,_,p3⟩:=MR c w E G hG hk
    have VJ:((E.nm i').hn (k*2+h')).nil=false:=by
     rcases p3 with ⟨_,p4,_⟩|⟨p4,_⟩
     ·rw[p4] at hn;simp at hn;omega
     ·exact p4
    refine⟨w,E,_, ?_,.inl rfl,⟨G,hG⟩,fun n hn=>⟨rfl,hn⟩,rfl,⟨NX,hk,vR,by rw[p1];omega⟩⟩
    simp only[execOp,GJ]
    refine C_ ?_
    rw[M9 (p:=⟨((E.nm i').hn (k*2+h')).CN,((E.nm i').hn (k*2+h')).off,none⟩) hu hq (len:=((E.nm i').hn (k*2+h')).len) (cap:=((E.nm i').hn (k*2+h')).cap) (by rw[hx];simp [SV.den,Nm.ad,VJ]) hi hn.1 (by rw[p1];exact hn.2)]
    simp [SV.den,IT,sC]
   unfold A0S at hs
   split at hs
   rotate_left
   ·cases hs
   rename_i t1 t2 xs hl
   have AZ5:∀ (c:EX TB) (w:World) (E:Env) (G:Nat->Prop),AT c G w E L->k<(E.nm i').len→
     GN (Rp G w t1) t1.sz w ((E.nm i').hn (k*2)) (gd (.pair (.slice t1) (.slice t2)) xs k).1/\GN (Rp G w t2) t2.sz w ((E.nm i').hn (k*2+1)) (gd (.pair (.slice t1) (.slice t2)) xs k).2:=by
    intro c w E G hG hk
    have hd:F3 c G w (E.nm i') t1 t2 xs:=hG.MQ i' _ (CL _ _ hl)
    rw[hd.len] at hk
    rcases hd.cs with ⟨_,h2,_⟩|⟨_,_,_,_,_,_,_,_,h7,_⟩
    ·rw[h2] at hk;simp at hk
    ·refine h7 k _ ?_
     unfold gd
     rw[n9,O6 hk];rfl
   split at hs
   ·split at hs
    rotate_left
    ·cases hs
    rename_i iV
    split at hs
    rotate_left
    ·cases hs
    rename_i hn
    simp only[pr,A_,DG] at hs
    obtain⟨rfl,rfl⟩:=hs
    exact inner t1 _ 0 (by omega) rfl iV.1 hn fun c w E G hG hk=>(AZ5 c w E G hG hk).1
   ·split at hs
    rotate_left
    ·cases hs
    rename_i iV
    split at hs
    rotate_left
    ·cases hs
    rename_i hn
    simp only[pr,A_,DG] at hs
    obtain⟨rfl,rfl⟩:=hs
    exact inner t2 _ 1 (by omega) rfl iV.1 hn fun c w E G hG hk=>(AZ5 c w E G hG hk).2
   ·cases hs
  ·rename_i q j lo len sz hq hx
   split at hs
   rotate_left
   ·cases hs
   rename_i a xs hl
   split at hs
   rotate_left
   ·cases hs
   rename_i iV
   split at hs
   rotate_left
   ·cases hs
   rename_i hn
   simp only[pr,A_,DG] at hs
   obtain⟨rfl,rfl⟩:=hs
   refine BW fun c w E hH hw=> ?_
   obtain⟨G,hG⟩:=hH
   have XW:=hw x
   rw[hx] at XW
   obtain⟨NX,hle⟩:=XW
   have DY:lo+n.toNat<(E.nm j).len:=by omega
   have hrd:=x6 (hG.MQ j _ (CL _ _ hl))
   have u9:=hrd.2.1
   have VJ:(E.nm j).nil=false:=by
    rcases hrd.2.2 with h|h
    ·have:=hrd.1;rw[h] at this;simp at this;omega
    ·exact h.1
   refine⟨w,E,_, ?_,.inl rfl,⟨G,hG⟩,fun n hn=>⟨rfl,hn⟩,rfl,⟨NX,DY,VJ⟩⟩
   simp only[execOp,GJ]
   refine C_ ?_
   have CW:¬(E.nm j).cap=lo:=by omega
   rw[M9 (p:=⟨(E.nm j).CN,(E.nm j).off+lo*sz,none⟩) (len:=len) (cap:=(E.nm j).cap-lo) hu hq (by rw[hx];simp [SV.den,Nm.ad,VJ,CW,rI,IT]) hi hn.1 hn.2]
   simp [SV.den,IT,iV.1,SL,PC]
  ·cases hs
 ·rename_i len e n hu hi
  split at hs
  ·rename_i q j k sz off hq hx
   split at hs
   ·rename_i a xs hl
    split at hs
    rotate_left
    ·cases hs
    rename_i iV
    obtain⟨q1,q2,q3,q4⟩:=iV
    split at hs
    rotate_left
    ·cases hs
    rename_i hn
    obtain⟨⟨n0,n1⟩,n2⟩:=hn
    simp only[pr,A_,DG] at hs
    obtain⟨rfl,rfl⟩:=hs
    refine BW fun c w E hH hw=> ?_
    obtain⟨G,hG⟩:=hH
    have XW:=hw x
    rw[hx] at XW
    obtain⟨NX,_,VJ⟩:=XW
    have hlen:=(hG.MQ j _ (CL _ _ hl)).1
    refine⟨w,E,_, ?_,.inl rfl,⟨G,hG⟩,fun n hn=>⟨rfl,hn⟩,rfl,⟨NX,by omega,VJ⟩⟩
    simp only[execOp,GJ]
    refine C_ ?_
    rw[yA (p:=⟨(E.nm j).CN,(E.nm j).off+(k*sz+off),none⟩) hu hq (by rw[hx];rfl) hi n0 n1]
    subst q3;subst q4
    simp [SV.den,IT,q1]
   ·cases hs
  ·cases hs
 ·cases hs
theorem ASR (hH:Hd c w E L) (CL:∀ n e,AQ n=some e->look L n=some e) {x:SV} (h:AS7 AQ x=some n):∃ a k,x.den E= .slice a n k:=by
 obtain⟨G,hG⟩:=hH
 unfold AS7 at h
 split at h
 ·simp only[A_] at h;subst h;exact⟨_,_,rfl⟩
 ·split at h
  ·rename_i i _ t xs hl
   simp only[A_] at h;subst h
   have:=(hG.MQ i _ (CL _ _ hl)).1
   exact⟨(E.nm i).ad,(E.nm i).cap,by simp [SV.den,this]⟩
  ·rename_i i _ t xs hl
   simp only[A_] at h;subst h
   have:=(hG.MQ i _ (CL _ _ hl)).1
   exact⟨(E.nm i).ad,(E.nm i).cap,by simp [SV.den,this]⟩
  ·rename_i i _ t xs _ hl
   simp only[A_] at h;subst h
   have:=(hG.dp i _ _ _ (CL _ _ hl)).len
   exact⟨(E.nm i).ad,(E.nm i).cap,by simp [SV.den,this]⟩
  ·rename_i i _ t1 t2 xs hl
   simp only[A_] at h;subst h
   have:=(hG.MQ i _ (CL _ _ hl)).len
   exact⟨(E.nm i).ad,(E.nm i).cap,by simp [SV.den,this]⟩
  ·cases h
 ·simp only[A_] at h;subst h;exact⟨_,_,rfl⟩
 ·cases h
def BA (P:Program) (n:FuncId) (e:Xt):Prop:=
 ∃ fn, P.funcs[n]? = some fn ∧ fn.body = none ∧ (fn.name == "runtime.NumGoroutine") = false ∧ Extern.findNext fn = none ∧ Extern.find fn = some e.sem
def Cx.Ok (P:Program) (cx:Cx):Prop:=(∀ n fi,cx.fns n=some fi->CallsV P cx.tb n fi)/\∀ n e,lk cx.exts n=some e->BA P n e
variable {P:Program}
theorem A12 (w:World) {n:FuncId} {e:Xt} (hx:BA P n e) (args:List SV):(xtE e args).ok fun v=>(callFunc n (AN E args).toArray).run P w= .ok (.value (v.den E)) w:=by
 obtain⟨fn,h1,h2,h3,h4,h5⟩:=hx
 have KD:∀ v:Value,(e.sem (AN E args).toArray).run P w= .ok v w->(callFunc n (AN E args).toArray).run P w= .ok (.value v) w:=by
  intro v hv
  have hp:(program:Sem Program).run P w= .ok P w:=rfl
  unfold callFunc
  simp only[Sem.run_bind,hp,Result.andThen,h1,h3,h2,Option.isNone_none,HP,W_,KK,h4,h5]
  have hm:(mark (.extern n)).run P w= .ok () w:=rfl
  rw[hm]
  simp only[hv]
  rfl
 unfold xtE
 split
 ·rename_i o i
  refine J8 fun hb=>KD _ ?_
  obtain⟨b,rfl⟩:=ALK.1 hb.1
  have hb2:b<18446744073709551616:=hb.2
  show Result.ok (Value.int .u64 (b:Int)) w=_
  simp only[SV.den,uZ,AG6]
  rw[rG (by omega)]
 ·rename_i b
  refine J8 fun hb=>KD _ ?_
  show Result.ok (Value.int .u64 (b:Int)) w=_
  simp only[SV.den,uZ]
  rw[rG (by omega)]
 ·rename_i x
  refine BL (KD _ ?_)
  show Result.ok (Value.float .f64 ((x.toNat:Int).toNat)) w=_
  rfl
 ·exact ok_none
theorem A13 {e:Xt} {args:List SV} {q:Option DP} (h:xtE e args=some (q,v)):v.wf E L:=by
 unfold xtE at h
 repeat' split at h
 all_goals first|(cases h;done)|(simp only[val,YV,A_,DG] at h;rw[<-h.2];trivial)
theorem yB {kk:IntKind} (n:Int) (v:Bool):∀ (xs:List (Int×Bool)) (es:List MapEntry) (i:Nat),es.map (fun e=>(e.key,e.val))=xs.map (fun q=>((.int .i64 q.1:Value),(.bool q.2:Value)))→
  (Instr.findNow (.int kk) (.int .i64 n) es i=some none/\QH xs n=none/\mS xs n v=xs++ [(n,v)])∨
  ∃ j b e,Instr.findNow (.int kk) (.int .i64 n) es i=some (some (i+j,.bool b))/\QH xs n=some b/\es[j]? =some e/\e.key= .int .i64 n∧
   (es.modify j fun e=>{ e with key:= .int .i64 n,val:= .bool v }).map (fun e=>(e.key,e.val))=(mS xs n v).map (fun q=>((.int .i64 q.1:Value),(.bool q.2:Value)))
 | [],[],_,_=> .inl ⟨rfl,rfl,rfl⟩
 | [],_::_,_,h=>by simp at h
 |_::_,[],_,h=>by simp at h
 |(a,b)::r,e::es,i,h=>by
  simp only[JS,mI,DG] at h
  obtain⟨⟨h1,h2⟩,h3⟩:=h
  have hs:Instr.sameNow (.int kk) (.int .i64 n) e.key=some (n==a):=by rw[h1];simp [Instr.sameNow]
  by_cases hna:n=a
  ·subst hna
   refine .inr ⟨0,b,e, ?_,by simp [QH],rfl,h1, ?_⟩
   ·simp [Instr.findNow,hs,h2]
   ·simp [mS,h3]
  ·have hs' :Instr.sameNow (.int kk) (.int .i64 n) e.key=some false:=by rw[hs];simp [hna]
   rcases yB (kk:=kk) n v r es (i+1) h3 with ⟨k1,k2,k3⟩|⟨j,b',e',k1,k2,k3,k4,k5⟩
   ·refine .inl ⟨by simp [Instr.findNow,hs',k1],by simp [QH,hna,k2],by simp [mS,hna,k3]⟩
   ·refine .inr ⟨j+1,b',e', ?_,by simp [QH,hna,k2],by simpa using k3,k4, ?_⟩
    ·simp only[Instr.findNow,hs',k1]
     congr 3;omega
    ·simp only[mS,AE hna,List.modify_succ_cons,JS,k5,h1,h2]
theorem uF (h:ADM P t=true):∃ k e kk,P.underlying t=some (.map k e)/\P.underlying k=some (.int kk)/\∀ w:World,(zeroValue e).run P w= .ok (.bool false) w:=by
 unfold ADM at h
 split at h
 ·rename_i k e hu
  split at h
  ·rename_i kk q h1 h2
   split at h
   ·rename_i h3
    exact⟨k,e,kk,hu,h1,fun w=>by simp [zeroValue,typeInfo,h2,h3]⟩
   ·cases h
  ·cases h
 ·cases h
theorem mZ {r:Nat} {es:Array MapEntry} {ck:Nat} (h:w.heap[r]? =some (.map es ck)):(getObj r).run P w= .ok (.map es ck) w:=by simp [getObj,Sem.run,h]
theorem run_checkKey {k:TypeId} {kk:IntKind} (hk:P.underlying k=some (.int kk)) (em:Bool) (v:Value) (w:World):(Instr.checkKey em 10000 k v).run P w= .ok () w:=by
 rw[show (10000:Nat)=9999+1 from rfl,Instr.checkKey]
 simp [run_underlying hk]
theorem AH9 (GJ:o.op= .makeMap t none) (CL:∀ n e,AQ n=some e->look L n=some e) {DU:DN}
  (h:oY AQ bs pr=some (v,DU)):FH TB P o ρ L v DU:=by
 unfold oY at h
 split at h
 rotate_left
 ·cases h
 rename_i D8
 have MS:look L bs=some .MB:=CL _ _ (by have:=DA D8 0 (by omega);simpa using this)
 simp only[pr,A_,DG] at h
 obtain⟨rfl,rfl⟩:=h
 refine BW fun c w E hh hw=> ?_
 obtain⟨G,hG⟩:=hh
 obtain⟨k1,k2⟩:=hG.sB MS (w' :=w.alloc (.map #[] 0)) (ob:= .map #[] 0) rfl ⟨rfl,rfl,rfl⟩ (e:= .map []) (m:=⟨w.heap.size,0,false,0,0,none⟩) rfl ⟨rfl,rfl,rfl⟩
  (fun D8 hold hG CZ=>⟨rfl,rfl,hG,hold,_,_,D8,rfl⟩)
 refine⟨w.alloc (.map #[] 0),_,.value (.map (some w.heap.size)), ?_,.inl ?_,⟨G,k1⟩,k2,rfl, ?_⟩
 ·simp only[execOp,GJ]
  refine C_ ?_
  rfl
 ·simp only[SV.den,Env.E_]
 ·exact⟨.map [],by show look (DW L (bs,.map [])) bs=_;rw[BB (AR MS),AA rfl],rfl⟩
theorem m8 (s:ByteArray):(mU s).length=s.size:=by
 unfold mU;simp
theorem ACB (h:AWP P e=true):P.underlying e=some (.int .u8):=by
 unfold AWP at h
 split at h
 ·assumption
 ·cases h
theorem ASS {xs:List Int} {cells:List Value} (hl:cells.length=xs.length) (h:RowsIn (Rp G w (.int .u8)) 1 cells.toArray 0 xs):cells=xs.map (Value.int .u8):=by
 apply XA
 intro j
 rw[ABD]
 rcases IG j xs.length with hj|hj
 ·have h1:=h j xs[j] (O6 hj)
  have h2:BT cells.toArray (0+j*1) 1=[.int .u8 xs[j]]:=h1
  have h3:(BT cells.toArray (0+j*1) 1)[0]? =some (.int .u8 xs[j]):=by rw[h2];rfl
  rw[CP,ab] at h3
  rw[O6 hj,dO,←h3]
  simp
 ·rw[IF (by omega),IF hj];rfl
theorem AST {s d:TypeId} (GJ:o.op= .convert s d x) {kp:Bool} (CL:∀ n e,AQ n=some e->look L n=some e) {DU:DN}
  (h:AMR P AQ s d (ρ x) kp bs pr=some (v,DU)):FH TB P o ρ L v DU:=by
 have vG:∀ E:Env,execOp (fun x=>(ρ x).den E) o=(do pure (Next.value (<-convert s d ((ρ x).den E))):Sem Next):=by
  intro E;simp only[execOp,GJ]
 unfold AMR at h
 split at h
 ·rename_i e hs hd
  split at h
  rotate_left
  ·cases h
  rename_i hu
  have hu:=ACB hu
  split at h
  ·cases h
  rename_i HN
  split at h
  rotate_left
  ·cases h
  rename_i xs ne u hp
  simp only[pr,A_,DG] at h
  obtain⟨rfl,rfl⟩:=h
  refine BW fun c w E hh hw=> ?_
  obtain⟨G,hG⟩:=hh
  have hrd:Rd (Rp G w (.int .u8)) (Ty.int .u8).sz w (ne.nm E) xs:=by
   refine AH7 hp (by simp) HN (hw x) ?_
   rintro i t ys (hl|hl)
   ·exact AK9 (hG.MQ i _ (CL _ _ hl))
   ·exact x6 (hG.MQ i _ (CL _ _ hl))
  obtain⟨cells,c1,c2,c3,_⟩:=x7 (P:=P) hrd
  have b8:(Ty.int .u8).sz=1:=rfl
  rw[b8,tQ] at c1
  have hc:cells=xs.map (Value.int .u8):=ASS c1 (by
   refine c3 cells.toArray 0 ?_
   rw[b8,tQ]
   unfold BT
   rw[xA,AFY (by simp;omega)])
  have mR:=rL hp E
  have hlen:(ne.nm E).len=xs.length:=hrd.1
  refine⟨w,E,.value (.string (A3K xs)), ?_,.inl rfl,⟨G,hG⟩,fun n hn=>⟨rfl,hn⟩,rfl,trivial⟩
  rw[vG]
  refine C_ ?_
  rw[mR,run_convert_bytes_string w s d e _ _ _ hs hu hd]
  have hc2:=c2 w rfl
  cases had:(ne.nm E).ad with
  |none=>
   rw[had] at hc2
   have hxs:xs=[]:=by
    have:(Builtin.firstCells (Ty.int .u8).sz xs.length (.slice none (ne.nm E).len (ne.nm E).cap):Sem _)=pure #[]:=rfl
    rw[this] at hc2
    have hc3:cells.toArray= #[]:=by
     have:(Result.ok (#[]:Array Value) w)= .ok cells.toArray w:=hc2
     simp only[Result.ok.injEq] at this
     exact this.1.symm
    have:cells.length=0:=by have:=KL Array.size hc3;simpa using this
    exact AFW.1 (by omega)
   subst hxs
   rfl
  |some p=>
   rw[had] at hc2
   have hc4:(loadCells p (xs.length*1)).run P w= .ok cells.toArray w:=hc2
   rw[tQ] at hc4
   rw[hlen]
   exact run_bytesToString w p xs.length _ xs (by rw[hc4,hc])
 ·rename_i e hs hd
  split at h
  rotate_left
  ·cases h
  rename_i hc
  simp only[IZ] at hc
  obtain⟨hu,D8⟩:=hc
  have hu:=ACB hu
  split at h
  rotate_left
  ·cases h
  rename_i t hx
  simp only[pr,A_,DG] at h
  obtain⟨rfl,rfl⟩:=h
  have MS:look L bs=some .MB:=CL _ _ (by have:=DA D8 0 (by omega);simpa using this)
  refine BW fun c w E hh hw=> ?_
  obtain⟨G,hG⟩:=hh
  have u9:t.size<=grownCap w t.size 0 e:=by
   unfold grownCap Question.cut;simp only;omega
  let m:Nm:={ CN:=w.heap.size,off:=0,nil:=false,len:=t.size,cap:=grownCap w t.size 0 e,XC:=none,fz:=⟨true⟩ }
  have YE:RowsIn (Rp G (Lib.bytesWorld w e t) (.int .u8)) (Ty.int .u8).sz (Lib.bytesCells w e t) 0 (mU t):=by
   intro i y hy
   have hi:i<t.size:=by
    rw[<-m8 t]
    rcases IG i (mU t).length with h' |h'
    ·exact h'
    ·rw[IF h'] at hy;cases hy
   show BT _ (0+i*1) 1=[.int .u8 y]
   apply XA
   intro j
   rw[CP]
   cases j with
   |zero=>
    rw[ab]
    unfold mU at hy
    rw[ABD] at hy
    unfold Lib.bytesCells
    rw[AFP (by simp;omega),ARJ]
    simp only[NV,tQ,P6,MU]
    rw[<-mH]
    cases hg:t.data.toList[i]? with
    |none=>rw[hg] at hy;cases hy
    |some b=>rw[hg] at hy;simp only[dO,A_] at hy ⊢;rw[hy]
   |succ j=>rw[af];rfl
  have hcs:(Lib.bytesCells w e t).size=grownCap w t.size 0 e:=by
   unfold Lib.bytesCells
   rw[Array.size_append,Array.size_map,Array.size_replicate,ByteArray.size_data];omega
  have A3V:(Lib.bytesWorld w e t).heap=w.heap.push (.cells (Lib.bytesCells w e t) e ((Lib.bytesCells w e t).size,(Lib.bytesCells w e t).size+1)):=by
   apply ALZ
   intro k
   rw[tK]
   by_cases hk:k=w.heap.size
   ·rw[AA hk,hk];exact Lib.bytesWorld_at_new w e t
   ·rw[AE hk]
    rcases IG k w.heap.size with KA |KA
    ·exact Lib.bytesWorld_at_old w e t k KA
    ·rw[wV KA,wV (by rw[Lib.bytesWorld_size];omega)]
  obtain⟨k1,k2⟩:=hG.sB MS (w' :=Lib.bytesWorld w e t) A3V ⟨rfl,rfl,rfl⟩ (e:= .row (.int .u8) (mU t)) (m:=m) rfl ⟨rfl,rfl,rfl⟩ (fun hb ho hg hs=>by
   refine⟨(m8 t).symm,trivial,.inr ⟨rfl,hg,ho, ?_,Lib.bytesCells w e t,e,hb, ?_,YE⟩⟩
   ·rw[m8];exact u9
   ·show 0+grownCap w t.size 0 e*1<=_
    rw[hcs];omega)
  obtain⟨f1,f2,f3⟩:=iW kp (AR MS) k1
  refine⟨Lib.bytesWorld w e t,E.set bs m,.value (.slice (some ⟨w.heap.size,0,none⟩) t.size (grownCap w t.size 0 e)), ?_,.inl ?_,f1,fun n hn=>⟨(k2 n hn).1,f2 n (k2 n hn).2⟩,rfl, ?_⟩
  ·rw[vG,hx]
   refine C_ ?_
   exact Lib.run_convert_string_bytes w s d e t hs hd hu
  ·simp only[SV.den,Env.E_];rfl
  ·exact f3
 ·cases h
variable {b:Nat} {y:Operand}
theorem AX0 {rt:TypeId} (GJ:o.op= .binOp .quo t x y rt) {a:Nat} (hx:ρ x= .UA a) (hy:ρ y= .UA b) (CL:∀ n e,AQ n=some e->look L n=some e) (D8:JQ AQ bs 1=true):
  FH TB P o ρ L (.nf (KR .quo a b) bs) [(bs,.dead)]:=by
 have MS:look L bs=some .MB:=CL _ _ (by have:=DA D8 0 (by omega);simpa using this)
 refine BW fun c w E hh hw=> ?_
 obtain⟨G,hG⟩:=hh
 have NX:∀ (m:Nm) (n:Nat),Al L n->(E.set bs m).nm n=E.nm n/\Al (AJ L [(bs,.dead)]) n:=fun m n hn=>⟨E.H5 _ (fun he=>FA (he ▸ MS) hn),BZ rfl n hn⟩
 have vT:SV.wf E (AJ L [(bs,.dead)]) (.nf (KR .quo a b) bs):=⟨.dead,by show look (DW L (bs,.dead)) bs=_;rw[BB (AR MS),AA rfl],rfl⟩
 have hch:∀ (m:Nm) (w' :World),w'.heap=w.heap->Rest w w' ->AT c G w' (E.set bs m) (DW L (bs,.dead)):=fun m w' hh hr=>
  hG.change (AR MS) hr (by rw[hh];exact EH _) (fun ha=>absurd ha (FA MS)) rfl (fun b _ _=>by rw[hh]) (fun b hb=>by cases hb) (fun _ _ _ _ _ _ hb=>by cases hb) (fun _=>trivial)
 have vG:(execOp (fun x=>(ρ x).den E) o)=(do pure (Next.value (<-Op.floatArith .quo .f64 a b)):Sem Next):=by
  simp only[execOp,GJ,hx,hy,SV.den];rfl
 cases hq:KR .quo a b with
 |some r=>
  rw[hq] at vT
  refine⟨w,E.set bs ⟨0,0,true,0,0,none⟩,.value (.float .f64 r), ?_,.inl rfl,⟨G,hch _ w rfl (.refl _)⟩,NX _,rfl,vT⟩
  rw[vG]
  refine C_ ?_
  simp only[KR] at hq
  simp [Op.floatArith,hq]
 |none=>
  rw[hq] at vT
  let T:=w.tape w.drawn (.nanBits .f64 a b)
  refine⟨{ w with drawn:=w.drawn+1 },E.set bs ⟨T,0,true,0,0,none⟩,.value (.float .f64 (XN T)), ?_,.inl ?_,⟨G,hch _ _ rfl ⟨rfl,rfl,rfl⟩⟩,NX _,rfl,vT⟩
  ·rw[vG]
   refine C_ ?_
   simp only[KR] at hq
   simp only[Op.floatArith,hq]
   rfl
  ·simp only[SV.den,Env.E_,Option.getD_none]
theorem AKH {i:Operand} {ok:Bool} (GJ:o.op= .lookup t x i ok) (CL:∀ n e,AQ n=some e->look L n=some e) {DU:DN}
  (h:vY P AQ t (ρ x) (ρ i) ok pr=some (v,DU)):FH TB P o ρ L v DU:=by
 unfold vY at h
 split at h
 rotate_left
 ·cases h
 rename_i j n hx hi
 split at h
 rotate_left
 ·cases h
 rename_i xs hl
 split at h
 rotate_left
 ·cases h
 rename_i hm
 obtain⟨k,e,kk,u1,u2,u3⟩:=uF hm
 obtain⟨V,hV⟩:∃ V:SV,V=(if ok=true then SV.tup [.bool ((QH xs n).getD false),.bool (QH xs n).isSome] else .bool ((QH xs n).getD false)):=⟨_,rfl⟩
 have hv:v=V/\DU=[]:=by
  cases ok <;> (simp only[pr,A_,DG] at h;exact⟨by rw[hV];exact h.1.symm,h.2.symm⟩)
 clear h
 obtain⟨rfl,rfl⟩:=hv
 subst hV
 refine BW fun c w E hh hw=> ?_
 obtain⟨G,hG⟩:=hh
 obtain⟨-, -, -, -,es,ck,h5,h6⟩:=hG.MQ j _ (CL _ _ hl)
 refine⟨w,E,_, ?_,.inl rfl,⟨G,hG⟩,fun n hn=>⟨rfl,hn⟩,rfl,by cases ok <;> simp [SV.wf,MT]⟩
 simp only[execOp,GJ,hx,hi]
 refine C_ ?_
 have A3W:∃ r:Option (Nat×Value),(Instr.findKey k (.int .i64 n) es.toList).run P w= .ok r w/\r.map (·.2)=(QH xs n).map Value.bool:=by
  rcases yB (kk:=kk) n false xs es.toList 0 h6 with ⟨k1,k2,_⟩|⟨j',b,e',k1,k2,_⟩
  ·exact⟨none,by simp [Instr.findKey,run_underlying u2,k1],by simp [k2]⟩
  ·exact⟨some (0+j',.bool b),by simp [Instr.findKey,run_underlying u2,k1],by simp [k2]⟩
 obtain⟨r,hr1,hr2⟩:=A3W
 simp only[Instr.lookup,Sem.run_bind,run_underlying u1,Result.andThen,SV.den,mZ h5,Sem.run_pure,run_checkKey u2,hr1]
 cases r with
 |none=>
  have hg:QH xs n=none:=by cases hx:QH xs n with
   |none=>rfl
   |some b=>rw[hx] at hr2;cases hr2
  cases ok <;> simp [u3,hg,SV.den,AN]
 |some q=>
  obtain⟨q1,q2⟩:=q
  have hg:∃ b,QH xs n=some b/\q2= .bool b:=by cases hx:QH xs n with
   |none=>rw[hx] at hr2;cases hr2
   |some b=>rw[hx] at hr2;simp at hr2;exact⟨b,rfl,hr2⟩
  obtain⟨b,hg,rfl⟩:=hg
  cases ok <;> simp [hg,SV.den,AN]
theorem AKI {i:Operand} (GJ:o.op= .mapUpdate t x i y) (CL:∀ n e,AQ n=some e->look L n=some e) {DU:DN}
  (h:vZ P AQ t (ρ x) (ρ i) (ρ y) pr=some (v,DU)):FH TB P o ρ L v DU:=by
 unfold vZ at h
 split at h
 rotate_left
 ·cases h
 rename_i j n b hx hi hb
 split at h
 rotate_left
 ·cases h
 rename_i xs hl
 split at h
 rotate_left
 ·cases h
 rename_i hm
 obtain⟨k,e,kk,u1,u2,u3⟩:=uF hm
 simp only[pr,A_,DG] at h
 obtain⟨rfl,rfl⟩:=h
 refine BW fun c w E hh hw=> ?_
 obtain⟨G,hG⟩:=hh
 have hL:=CL _ _ hl
 obtain⟨e1,e2,e3,e4,es,ck,h5,h6⟩:=hG.MQ j _ hL
 have hbd:(ρ y).den E= .bool b:=XO hb
 have DY:=UE h5
 have key:∃ es' ck',(Instr.mapUpdate t (.map (some (E.nm j).CN)) (.int .i64 n) (.bool b)).run P w= .ok () { w with heap:=w.heap.setIfInBounds (E.nm j).CN (.map es' ck') }/\AMD es' (mS xs n b):=by
  rcases yB (kk:=kk) n b xs es.toList 0 h6 with ⟨k1,k2,k3⟩|⟨j',b',e',k1,k2,k3,k4,k5⟩
  ·refine⟨es.push { key:= .int .i64 n,val:= .bool b,born:=ck },ck+1, ?_, ?_⟩
   ·have hf:(Instr.findKey k (.int .i64 n) es.toList).run P w= .ok none w:=by simp [Instr.findKey,run_underlying u2,k1]
    simp only[Instr.mapUpdate,Sem.run_bind,run_underlying u1,Result.andThen,mZ h5,run_checkKey u2,hf]
    simp [setObj,Sem.run,h5]
   ·unfold AMD at h6 ⊢
    rw[Array.toList_push,YC,h6,k3];simp
  ·refine⟨es.modify j' fun e=>{ e with key:= .int .i64 n,val:= .bool b },ck, ?_, ?_⟩
   ·have hf:(Instr.findKey k (.int .i64 n) es.toList).run P w= .ok (some (j',.bool b')) w:=by simp [Instr.findKey,run_underlying u2,k1]
    have hk:∀ o,(es[j']?).map (·.key)=some o->(Instr.keyThatStays o (.int .i64 n)).run P w= .ok (.int .i64 n) w:=by
     intro o ho
     have:es[j']? =some e' :=by simpa using k3
     rw[this] at ho
     simp only[dO,A_] at ho
     subst ho
     rw[k4]
     simp [Instr.keyThatStays,Instr.sameBits]
    have KA :(es[j']?).map (·.key)=some (.int .i64 n):=by
     have:es[j']? =some e' :=by simpa using k3
     rw[this];simp [k4]
    simp only[Instr.mapUpdate,Sem.run_bind,run_underlying u1,Result.andThen,mZ h5,run_checkKey u2,hf,KA,AG6,hk _ KA]
    simp [setObj,Sem.run,h5]
   ·unfold AMD
    rw[<-k5,Array.toList_modify]
 obtain⟨es',ck',r1,r2⟩:=key
 let w' :World:={ w with heap:=w.heap.setIfInBounds (E.nm j).CN (.map es' ck') }
 have CZ:∀ b,b≠(E.nm j).CN->w'.heap[b]? =w.heap[b]? :=fun b hb=>by
  show (w.heap.setIfInBounds _ _)[b]? =_
  rw[AFU,AE (fun h=>hb h.symm)]
 have D8:w'.heap[(E.nm j).CN]? =some (.map es' ck'):=by
  show (w.heap.setIfInBounds _ _)[_]? =_
  rw[AFU,AA rfl,AA DY]
 have k1:=hG.change (w' :=w') (AR hL) ⟨rfl,rfl,rfl⟩ (by simp [w']) (fun _=>rfl) (e' := .map (mS xs n b)) (m:=E.nm j) rfl
  (fun b _ hb=>CZ b (fun he=>hb (by simp [A9.own,he])))
  (fun b hb=>by simp only[A9.own,A_] at hb;subst hb;exact⟨e4,e3⟩)
  (fun k f hk hf b hb he=>hG.inj k j f _ b hk hf hL hb (.inl he))
  (fun _=>⟨e1,e2,e3,e4,es',ck',D8,r2⟩)
 have hE:E.set j (E.nm j)=E:=by
  refine MD (fun k=> ?_) rfl (fun _=>rfl)
  by_cases hk:k=j
  ·subst hk;rw[Env.E_]
  ·rw[Env.H5 _ _ hk]
 rw[hE] at k1
 refine⟨w',E,.skip, ?_,.inr ⟨rfl,rfl⟩,⟨G,k1⟩,fun n hn=>⟨rfl,BZ rfl n hn⟩,rfl,trivial⟩
 simp only[execOp,GJ,hx,hi,hbd,SV.den]
 simp only[Sem.run_bind,r1,Result.andThen]
 rfl
variable {cx:Cx}
theorem AMY (hcx:cx.Ok P) (CL:∀ n e,AQ n=some e->look L n=some e) {DU:DN} (h:AGZ P cx AQ o.dst ρ pr o.op=some (v,DU)):FH cx.tb P o ρ L v DU:=by
 generalize GJ:o.op=op at h
 unfold AGZ at h
 split at h
 ·split at h
  ·exact ASF GJ (by assumption) h
  ·exact ASD GJ CL h
 ·exact APC GJ CL h
 ·exact APG GJ CL h
 ·exact AWW GJ CL h
 ·split at h
  ·exact APF GJ CL h
  ·split at h
   ·exact API GJ CL h
   ·exact x5 GJ CL h
 ·split at h
  ·exact ASJ GJ CL h
  ·exact AAI GJ CL h
 ·exact APJ GJ CL h
 ·exact APK GJ CL h
 ·rename_i args ts
  split at h
  rotate_left
  ·cases h
  rename_i x t M8 hts
  split at h
  rotate_left
  ·cases h
  rename_i e n hu hn
  simp only[pr,A_,DG] at h
  obtain⟨rfl,rfl⟩:=h
  refine BW fun c w E hH hw=> ?_
  obtain⟨a,k,hx⟩:=ASR hH CL hn
  refine⟨w,E,.value ((SV.int .i64 n).den E), ?_,.inl rfl,hH,fun n hn=>⟨rfl,hn⟩,rfl,trivial⟩
  have A6J :ts= #[t]:=by apply dT;rw[hts]
  have mY :(args.map fun x=>(ρ x).den E)= #[.slice a n k]:=by
   apply dT
   have:(args.toList.map ρ).map (SV.den E)=[.slice a n k]:=by rw[M8];simp [hx]
   rw[XB] at this
   rw[lO]
   exact this
  simp only[execOp,GJ,resolve,invoke,Sem.run_bind,Sem.run_pure,Result.andThen,mY,A6J,builtin]
  simp [Builtin.len_,run_underlying hu,goInt,SV.den]
 ·rename_i args ts
  split at h
  ·rename_i x y M8
   split at h
   ·split at h
    ·exact AKF GJ M8 CL h
    ·exact AKD GJ M8 CL h
   ·exact AKA GJ M8 CL (by assumption) h
  ·cases h
 ·exact AH9 GJ CL h
 ·exact AST GJ CL h
 ·split at h
  rotate_left
  ·cases h
  rename_i a b hx hy
  split at h
  rotate_left
  ·cases h
  rename_i D8
  simp only[pr,A_,DG] at h
  obtain⟨rfl,rfl⟩:=h
  exact AX0 GJ hx hy CL D8
 ·exact AKH GJ CL h
 ·exact AKI GJ CL h
 ·rename_i f args ts
  split at h
  rotate_left
  ·cases h
  rename_i n cs hf
  have hfd:=fun E=>AGQ hf E
  split at h
  rotate_left
  ·split at h
   rotate_left
   ·cases h
   rename_i e he
   have fin:∀ q:Option DP,xtE e (args.toList.map ρ++cs)=some (q,v)->cnd q->DU=[]->FH cx.tb P o ρ L v DU:=by
    rintro q hq hc rfl
    refine BW fun c w E hH hw=>⟨w,E,_, ?_,.inl rfl,hH,fun n hn=>⟨rfl,hn⟩,rfl,A13 hq⟩
    rw[<-A12 (E:=E) w (hcx.2 n e he) (args.toList.map ρ++cs) q v hq hc]
    simp only[execOp,GJ,resolve,invoke,Sem.run_bind,hfd,Deferred.ofValue,Sem.run_pure,Result.andThen]
    congr 2
    apply dT
    simp [GM,ABC]
   split at h
   ·rename_i u hq
    simp only[pr,A_,DG] at h
    obtain⟨rfl,rfl⟩:=h
    exact fin none hq trivial rfl
   ·rename_i q u hq
    have:=q.d
    by_cases hp:q.p
    ·simp only[hp,HP,pr,A_,DG] at h
     obtain⟨rfl,rfl⟩:=h
     exact fin (some q) hq hp rfl
    ·simp [hp] at h
   ·cases h
  rename_i fi hfi
  intro c w E hH hw a next Q ha hn
  show o.upon P a next Q ((execOp a.eval o).run P w)
  have KD:(execOp (fun x=>(ρ x).den E) o).run P w= .ok (.enter n (AN E (args.toList.map ρ++cs)).toArray) w:=by
   rw[<-(hcx.1 n fi hfi).1]
   simp only[execOp,GJ,resolve,invoke,Sem.run_bind,hfd,Deferred.ofValue,Sem.run_pure,Result.andThen]
   congr 2
   apply dT
   simp [GM,ABC]
  rw[ha,KD]
  have W7:MT E L (args.toList.map ρ++cs):=B1.2 fun v hv=>by
   rcases FG.1 hv with hv|hv
   ·obtain⟨x,_,rfl⟩:=DH.1 hv
    exact hw x
   ·exact B1.1 (AMG hf (hw f)) v hv
  refine (ASL h (hcx.1 n fi hfi) CL hH W7).mono ?_
  rintro e w' ⟨E',rfl,h1,h2,h3,h4⟩
  exact hn E' w' h1 h2 h3 h4
 ·cases h
variable {off:Nat} {cs:List SV}
theorem ASU {q:Option DP} (h:AGB P t cs off=some (q,v)) (hw:MT E L cs):v.wf E L:=by
 unfold AGB at h
 repeat' split at h
 all_goals first|(cases h;done)|skip
 ·simp only[val,A_,DG] at h;rw[<-h.2];exact YF hw _ _
 ·rename_i hv
  simp only[val,A_,DG] at h;rw[<-h.2]
  exact B1.1 hw _ (bZ hv)
theorem AX1 {op:Op} {q:Option DP} (h:dX P ρ op=some (q,v)) (hl:∀ x,(ρ x).wf E L):v.wf E L:=by
 have A87:∀ v:SV,(match v with| .int _ _| .u64 _| .bool _| .mJ _| .prop _ _| .str _| .UA _=>True|_=>False)->v.wf E L:=by
  intro v hv
  cases v <;> first|trivial|exact hv.elim
 cases op <;> simp only[dX] at h
 case move x=>simp only[val,A_,DG] at h;rw[<-h.2];exact hl x
 case assign x=>simp only[val,A_,DG] at h;rw[<-h.2];exact hl x
 case pick c a b=>
  split at h
  ·rename_i t _
   simp only[val,A_,DG] at h
   rw[<-h.2]
   cases t
   ·exact hl b
   ·exact hl a
  ·cases h
 case nilCheck x=>
  split at h
  ·rename_i i k sz off hx
   simp only[val,A_,DG] at h
   rw[<-h.2]
   have:=hl x
   rw[hx] at this
   exact this
  ·rename_i i off hx
   simp only[val,A_,DG] at h
   rw[<-h.2]
   have:=hl x
   rw[hx] at this
   exact this
  ·rename_i f cs hx
   simp only[val,A_,DG] at h
   rw[<-h.2]
   have:=hl x
   rw[hx] at this
   exact this
  ·cases h
 case makeFunc fn first captured=>
  split at h
  ·simp only[val,A_,DG] at h
   rw[<-h.2]
   exact B1.2 fun v hv=>by
    obtain⟨x,_,rfl⟩:=DH.1 hv
    exact hl x
  ·cases h
 case binOp op t x y _=>
  unfold ARO AW0 ADB shE AVX AVY AVZ nfE at h
  repeat' split at h
  all_goals first|(cases h;done)|(simp only[val,YV,A_,DG] at h;rw[<-h.2];trivial)
 case unOp op t x=>
  unfold unE at h
  repeat' split at h
  all_goals first|(cases h;done)|(simp only[val,A_,DG] at h;rw[<-h.2];trivial)
 case convert s d x=>
  unfold AMA at h
  repeat' split at h
  all_goals first|(cases h;done)|(simp only[val,YV,A_,DG] at h;rw[<-h.2];trivial)
 case extract x i=>
  unfold oL at h
  repeat' split at h
  all_goals first|(cases h;done)|skip
  simp only[val,A_,DG] at h;rw[<-h.2]
  have:=hl x
  rw[‹ρ x=_›] at this
  exact B1.1 this _ (bZ (by assumption))
 case field t x f=>
  unfold ADC at h
  repeat' split at h
  all_goals first|(cases h;done)|skip
  have:=hl x
  rw[‹ρ x=_›] at this
  exact ASU h this
 case build t parts=>
  have QI:∀ q∈(parts.toList.map fun q=>(q.1,ρ q.2)),q.2.wf E L:=by
   intro q hq
   obtain⟨y,_,rfl⟩:=DH.1 hq
   exact hl y.2
  unfold ADD at h
  repeat' split at h
  all_goals first|(cases h;done)|skip
  all_goals
   rename_i hf
   simp only[val,A_,DG] at h;rw[<-h.2]
   exact xZ _ _ _ hf (o9 E (by assumption)) QI
 case indexAddr t x i=>
  unfold Z3 at h
  repeat' split at h
  all_goals first|(cases h;done)|skip
  ·rename_i hx _ _ _
   simp only[YV,A_,DG] at h;rw[<-h.2]
   have:=hl x
   rw[‹ρ x=_›] at this
   exact this
  ·simp only[YV,A_,DG] at h;rw[<-h.2]
   trivial
 case fieldAddr t x f=>
  unfold Z4 at h
  repeat' split at h
  all_goals first|(cases h;done)|skip
  all_goals
   simp only[val,A_,DG] at h;rw[<-h.2]
   have:=hl x
   rw[‹ρ x=_›] at this
   exact this
 case slice t x l hh m=>
  unfold ADE at h
  repeat' split at h
  all_goals first|(cases h;done)|(simp only[YV,A_,DG] at h;rw[<-h.2];trivial)
 case index t x i=>
  unfold ADF at h
  repeat' split at h
  all_goals first|(cases h;done)|(simp only[YV,A_,DG] at h;rw[<-h.2];trivial)
 case call c=>
  obtain⟨callee,args,ts⟩:=c
  cases callee with
  |builtin b=>
   dsimp only at h
   unfold oM AW1 at h
   repeat' split at h
   all_goals first|(cases h;done)|(simp only[val,YV,A_,DG] at h;rw[<-h.2];trivial)
  |_=>dsimp only at h;cases h
 all_goals cases h
theorem yC (CL:∀ n e,AQ n=some e->look L n=some e) (KD:∀ (E:Env) (w:World),(execOp (fun x=>(ρ x).den E) o).run P w= .ok (.value ((ρ x).den E)) w) {DU:DN}
  (h:oZ AQ (ρ x) pr=some (v,DU)):FH TB P o ρ L v DU:=by
 have pass:ρ x=v->DU=[]->FH TB P o ρ L v DU:=by
  rintro rfl rfl
  exact BW fun c w E hH hw=>⟨w,E,_,KD E w,.inl rfl,hH,fun n hn=>⟨rfl,hn⟩,rfl,hw x⟩
 unfold oZ at h
 split at h
 rotate_left
 ·simp only[pr,A_,DG] at h
  exact pass h.1 h.2.symm
 rename_i i hx
 split at h
 rotate_left
 ·simp only[pr,A_,DG] at h
  exact pass (hx.trans h.1) h.2.symm
 rename_i t xss hh hl
 split at h
 rotate_left
 ·cases h
 rename_i ys u hc
 simp only[pr,A_,DG] at h
 obtain⟨rfl,rfl⟩:=h
 refine BW fun c w E hH hw=> ?_
 obtain⟨G,hG⟩:=hH
 obtain⟨E1,c1,c2,c3,c4,c5,c6,c7⟩:=iT CL hG hl hc
 have h2:=c1.ADG c4
 have eu:AJ L (u++ [(i,.shr (.slice t) ys)])=DW (AJ L u) (i,.shr (.slice t) ys):=by rw[BS];rfl
 rw[eu]
 refine⟨w,E1,_,KD E w,.inl ?_,⟨_,h2⟩,fun n hn=>⟨c2 n,BZ rfl n (c5 n hn)⟩,c3, ?_⟩
 ·rw[hx];simp only[SV.den,c2]
 ·exact⟨_,by rw[BB (AR c4),AA rfl],rfl⟩
theorem AKJ (CL:∀ n e,AQ n=some e->look L n=some e) {DU:DN} (h:SE AQ ρ pr o.op=some (v,DU)):FH TB P o ρ L v DU:=by
 generalize GJ:o.op=op at h
 unfold SE at h
 split at h
 ·rename_i x
  exact yC CL (fun E w=>by simp only[execOp,GJ];rfl) h
 ·rename_i x
  exact yC CL (fun E w=>by simp only[execOp,GJ];rfl) h
 ·cases h
theorem AX2 (hcx:cx.Ok P) (CL:∀ n e,AQ n=some e->look L n=some e) {DU:DN} (h:core P cx AQ o.dst ρ pr o.op=some (v,DU)):FH cx.tb P o ρ L v DU:=by
 unfold core at h
 split at h
 ·exact AKJ CL h
 unfold core0 at h
 simp only[AMP] at h
 have fin:∀ (q:Option DP),dX P ρ o.op=some (q,v)->cnd q->FH cx.tb P o ρ L v []:=by
  intro q hp hq
  refine BW fun c w E hH hw=> ?_
  exact⟨w,E,_,AOT (E:=E) w ρ o.op q v hp hq o rfl,.inl rfl,hH,fun n hn=>⟨rfl,hn⟩,rfl,AX1 hp hw⟩
 cases hqq:(cx.keeps o.dst && Op.AMS o.op) with
 |true=>
  rw[hqq] at h
  exact AMY hcx CL h
 |false=>
 rw[hqq] at h
 simp only at h
 split at h
 ·rename_i u hp
  simp only[pr,A_,DG] at h
  obtain⟨rfl,rfl⟩:=h
  exact fin _ hp trivial
 ·rename_i q u hp
  have:=q.d
  by_cases hq:q.p
  ·simp only[hq,HP,pr,A_,DG] at h
   obtain⟨rfl,rfl⟩:=h
   exact fin _ hp hq
  ·simp only[hq,KK] at h;cases h
 ·exact AMY hcx CL h
end
end Go.V3
namespace Go.V3
open Go
variable {TB:Tb}
def clean:SV->SV
 | .unk _=>BK
 |v=>v
def evc (fr:List SV) (x:Operand):SV:=clean (ev fr x)
def ACC:SV->Bool
 | .unk _=>true
 |_=>false
def AMZ (fr:List SV) (op:Op):Bool:=op.operands.toList.all fun x=> !(ACC (ev fr x))
def eI (all:List Oper) (o:Oper) (fr:List SV):Option Bool:=
 match o.guard with
 |none=>some true
 |some (j,want)=>(match all[j]? with
  |none=>none
  |some oj=>(match oj.dst with
   |none=>none
   |some t=>(match fr.getD t BK with
    | .mJ b=>some (b==want)
    | .raw (.tuple _)=>some false
    |_=>none)))
def A14 (all:List Oper) (k:Nat):Bool:=all.any fun o=>match o.guard with
 |some (j,_)=>j==k
 |none=>false
section
variable {α:Type}
def ADZ (v:SV) (F:Bool->Option α):Option α:=
 match v with
 | .mJ b=>F b
 | .bool b=>if b=true then F true else F false
 | .prop p d=> @ite _ p d (F true) (F false)
 |_=>none
def eJ (P:Program) (cx:Cx) (all:List Oper) (o:Oper) (k:Nat) (fr:List SV) (AQ:Nat->Option A9) (K:SV->DN->Option α):Option α:=
 match eI all o fr with
 |none=>none
 |some false=>K BK []
 |some true=>(match AMZ fr o.op with
  |false=>none
  |true=>core P cx AQ o.dst (evc fr) (match A14 all k with
   |true=>fun v u=>ADZ v (fun b=>K (.mJ b) u)
   |false=>K) o.op)
def ASV (P:Program) (cx:Cx) (all:List Oper):List Oper->Nat->List SV->AM->(List SV->AM->Option α)->Option α
 | [],_,fr,L,K=>K fr L
 |o::r,k,fr,L,K=>eJ P cx all o k fr (look L) (fun v u=>ASV P cx all r (k+1) (SM fr o.dst v) (AJ L u) K)
end
variable {v:SV} {α:Type}
theorem uG {F:Bool->Option α} {a:α} (h:ADZ v F=some a):∃ b,toB v=some b/\F b=some a:=by
 unfold ADZ at h
 split at h
 ·exact⟨_,rfl,h⟩
 ·rename_i b;cases b
  ·exact⟨false,rfl,h⟩
  ·exact⟨true,rfl,h⟩
 ·rename_i p d
  by_cases hp:p
  ·simp only[hp,HP] at h;exact⟨true,by simp [toB,hp],h⟩
  ·simp only[hp,KK] at h;exact⟨false,by simp [toB,hp],h⟩
 ·cases h
variable {AQ:Nat->Option A9} {k:Nat} {o:Oper} {cx:Cx} {P:Program}
theorem yD {all:List Oper} {fr:List SV} {K:SV->DN->Option α} {a:α} (h:eJ P cx all o k fr AQ K=some a):
  ∃ v u,K v u=some a/\eJ P cx all o k fr AQ pr=some (v,u):=by
 unfold eJ at h ⊢
 split at h
 ·cases h
 ·exact⟨BK,[],h,rfl⟩
 ·split at h
  ·cases h
  ·cases hs:A14 all k with
   |false=>
    rw[hs] at h
    simp only at h ⊢
    rw[o7,AFR] at h
    obtain⟨⟨v,u⟩,h1,h2⟩:=h
    exact⟨v,u,h2,h1⟩
   |true=>
    rw[hs] at h
    simp only at h ⊢
    rw[o7,AFR] at h
    obtain⟨⟨v,u⟩,h1,h2⟩:=h
    obtain⟨b,hb,h3⟩:=uG h2
    refine⟨.mJ b,u,h3, ?_⟩
    rw[o7,h1]
    simp only[AW]
    cases v <;> simp only[toB,A_,reduceCtorEq] at hb
    ·subst hb;rename_i b;cases b <;> rfl
    ·subst hb;rfl
    ·subst hb
     rename_i p d
     by_cases hp:p <;> simp [ADZ,hp,pr]
def AE0 (E:Env) (L:AM) (fr:List SV):Prop:=∀ t,(fr.getD t BK).wf E L\/fr.getD t BK= .unk t
structure St (c:EX TB) (E:Env) (fr:List SV) (L:AM) (a:Act) (w:World):Prop where
 sim:Sim E fr a
 hd:Hd c w E L
 wf:AE0 E L fr
def eK (L L' :AM):Prop:=L'.length=L.length/\∀ (n v:Nat) (e:A9) (v' :Nat) (e' :A9),L[n]? =some (v,e)->L'[n]? =some (v',e')->v<=v' /\(v' =v->e' =e)
theorem eK.refl (L:AM):eK L L:=⟨rfl,fun n v e v' e' h h' =>by rw[h] at h';simp only[A_,DG] at h';obtain⟨rfl,rfl⟩:=h';exact⟨EH _,fun _=>rfl⟩⟩
theorem eK.trans {A B C:AM} (h:eK A B) (k:eK B C):eK A C:=by
 refine⟨k.1.trans h.1,fun n v e v' e' h1 h2=> ?_⟩
 have DY:n<A.length:=by
  rcases IG n A.length with h|h
  ·exact h
  ·rw[IF h] at h1;cases h1
 obtain⟨bv,be,hb⟩:∃ bv be,B[n]? =some (bv,be):=⟨_,_,O6 (by rw[h.1];exact DY)⟩
 obtain⟨a1,a2⟩:=h.2 n v e _ _ h1 hb
 obtain⟨b1,b2⟩:=k.2 n _ _ v' e' hb h2
 refine⟨oG a1 b1,fun he=> ?_⟩
 have e1:bv=v:=by omega
 rw[b2 (by omega),a2 e1]
theorem eK.DW (L:AM) (q:Nat×A9):eK L (DW L q):=by
 refine⟨GQ _ _,fun n v e v' e' h1 h2=> ?_⟩
 unfold V3.DW at h2
 split at h2
 ·rename_i v0 e0 hq
  rw[wR] at h2
  split at h2
  ·rename_i hn
   subst hn
   rw[h1] at hq
   simp only[A_,DG] at hq
   obtain⟨rfl,rfl⟩:=hq
   split at h2
   ·simp only[A_,DG] at h2
    exact⟨by omega,fun he=>by omega⟩
   ·cases h2
  ·rw[h1] at h2
   simp only[A_,DG] at h2
   obtain⟨rfl,rfl⟩:=h2
   exact⟨EH _,fun _=>rfl⟩
 ·rw[h1] at h2
  simp only[A_,DG] at h2
  obtain⟨rfl,rfl⟩:=h2
  exact⟨EH _,fun _=>rfl⟩
theorem eK.AJ (L:AM) (u:DN):eK L (AJ L u):=by
 induction u generalizing L with
 |nil=>exact .refl _
 |cons q r ih=>exact (eK.DW L q).trans (ih _)
structure Ext (W:List Nat) (E0:Env) (fr0:List SV) (L0:AM) (E:Env) (fr:List SV) (L:AM):Prop where
 nm:∀ n,Al L0 n->E.nm n=E0.nm n/\Al L n
 ds:∀ t,t∉W->E.ds t=E0.ds t
 AE1:eK L0 L
 len:fr.length=fr0.length
 out:∀ t,t∉W->fr.getD t BK=fr0.getD t BK
theorem Ext.refl (W:List Nat) (E:Env) (fr:List SV) (L:AM):Ext W E fr L E fr L:=⟨fun _ h=>⟨rfl,h⟩,fun _ _=>rfl,.refl _,rfl,fun _ _=>rfl⟩
theorem Ext.trans {W:List Nat} {E0 E1 E2:Env} {f0 f1 f2:List SV} {L0 L1 L2:AM} (h:Ext W E0 f0 L0 E1 f1 L1) (k:Ext W E1 f1 L1 E2 f2 L2):Ext W E0 f0 L0 E2 f2 L2:=
 ⟨fun n hn=>by obtain⟨a,b⟩:=h.nm n hn;obtain⟨c,d⟩:=k.nm n b;exact⟨c.trans a,d⟩,fun t ht=>(k.ds t ht).trans (h.ds t ht),h.AE1.trans k.AE1,k.len.trans h.len,fun t ht=>(k.out t ht).trans (h.out t ht)⟩
theorem Ext.mono {W W' :List Nat} {E0 E1:Env} {f0 f1:List SV} {L0 L1:AM} (h:Ext W E0 f0 L0 E1 f1 L1) (hs:∀ t,t∈W->t∈W'):Ext W' E0 f0 L0 E1 f1 L1:=
 ⟨h.nm,fun t ht=>h.ds t (fun hx=>ht (hs t hx)),h.AE1,h.len,fun t ht=>h.out t (fun hx=>ht (hs t hx))⟩
theorem Y_ (fr:List SV) (t k:Nat) (v:SV):(fr.set t v).getD k BK=if t=k/\t<fr.length then v else fr.getD k BK:=by
 simp only[List.getD,wR]
 by_cases h:t=k
 ·subst h
  by_cases h2:t<fr.length
  ·simp [h2]
  ·simp [h2]
 ·simp [h]
variable {L:AM} {E:Env}
theorem eL {E':Env} {L':AM} {fr:List SV} (hf:AE0 E L fr) (hnm:∀ n,Al L n->E'.nm n=E.nm n/\Al L' n) (hds:E'.ds=E.ds):AN E' fr=AN E fr/\AE0 E' L' fr:=by
 have key:∀ t,(fr.getD t BK).den E' =(fr.getD t BK).den E/\((fr.getD t BK).wf E' L' \/fr.getD t BK= .unk t):=by
  intro t
  rcases hf t with h|h
  ·obtain⟨h1,h2⟩:=Z7 (fun n hn=>(hnm n hn).2) (fun n hn=>(hnm n hn).1) _ h
   exact⟨h2,.inl h1⟩
  ·exact⟨by rw[h];simp only[SV.den,hds],.inr h⟩
 refine⟨?_,fun t=>(key t).2⟩
 apply XA
 intro i
 rw[F_,F_]
 by_cases hi:i<fr.length
 ·have:=(key i).1
  simp only[List.getD,O6 hi,AG6] at this
  rw[O6 hi]
  simp [this]
 ·rw[IF (by omega)];rfl
theorem AE0.put {fr:List SV} (h:AE0 E L fr) (d:Option Tmp) (hv:v.wf E L):AE0 E L (SM fr d v):=by
 cases d with
 |none=>exact h
 |some d=>
  intro t
  simp only[SM,Y_]
  split
  ·exact .inl hv
  ·exact h t
theorem yE (E:Env) (L:AM):BK.wf E L:=trivial
theorem A3X {fr:List SV} (h:AE0 E L fr) (x:Operand):(evc fr x).wf E L:=by
 unfold evc
 cases x with
 |tmp t=>
  show (clean (fr.getD t BK)).wf E L
  rcases h t with h|h
  ·cases hx:fr.getD t BK <;> first|(rw[hx] at h;exact h)|(rw[hx] at h;exact h.elim)
  ·rw[h];exact yE _ _
 |const v=>
  simp only[ev]
  split
  all_goals first|trivial|(split <;> trivial)
 |global g=>trivial
 |func f=>trivial
section
variable {P:Program} {ops:Array Oper} {Q:Exit->Act->World->Prop}
variable {j:Nat}
theorem AKK {fr:List SV} {a:Act} (hs:Sim E fr a) {t:Nat} {oj:Oper} {b:Bool} (hj:ops.toList[j]? =some oj) (hd:oj.dst=some t) (hv:fr.getD t BK= .mJ b):yielded ops a.tmps j=some b:=by
 have bQ :ops[j]? =some oj:=by rw[<-mH];exact hj
 have ht:a.tmps[t]? =some (.bool b):=by
  rw[hs.1,wN,F_]
  cases hx:fr[t]? with
  |none=>simp [List.getD,hx,BK] at hv
  |some v=>simp [List.getD,hx] at hv;simp [hv,SV.den]
 simp [yielded,bQ,hd,ht]
theorem AHA {fr:List SV} {a:Act} (hs:Sim E fr a) {t:Nat} {oj:Oper} {vs:Array Value} (hj:ops.toList[j]? =some oj) (hd:oj.dst=some t) (hv:fr.getD t BK= .raw (.tuple vs)):yielded ops a.tmps j=none:=by
 have bQ :ops[j]? =some oj:=by rw[<-mH];exact hj
 unfold yielded
 rw[bQ]
 simp only[AW,hd,hs.1,wN,F_]
 cases hx:fr[t]? with
 |none=>rfl
 |some v=>simp [List.getD,hx] at hv;simp [hv,SV.den]
theorem ACD {fr:List SV} {a:Act} (hs:Sim E fr a) {b:Bool} (h:eI ops.toList o fr=some b):Region.wanted o (yielded ops a.tmps)=b:=by
 unfold eI at h
 unfold Region.wanted
 split at h
 ·rename_i hg
  simp only[A_] at h
  rw[hg];exact h
 ·rename_i j want hg
  rw[hg]
  simp only
  split at h
  ·cases h
  ·rename_i oj hj
   split at h
   ·cases h
   ·rename_i t hd
    split at h
    ·rename_i b' hv
     simp only[A_] at h
     rw[AKK hs hj hd hv,←h]
     cases b' <;> cases want <;> rfl
    ·rename_i vs hv
     simp only[A_] at h
     rw[AHA hs hj hd hv,←h];rfl
    ·cases h
variable {u:DN} {w:World} {i:Nat}
theorem AN0 (hcx:cx.Ok P) (ho:ops[i]? =some o) {c:EX cx.tb} {fr:List SV} {a:Act} (hst:St c E fr L a w) (CL:∀ n e,AQ n=some e->look L n=some e)
  (h:eJ P cx ops.toList o k fr AQ pr=some (v,u)) {K:Act->World->Prop}
  (hK:∀ E' a' w',St c E' (SM fr o.dst v) (AJ L u) a' w' ->(∀ n,Al L n->E'.nm n=E.nm n/\Al (AJ L u) n)->E'.ds=E.ds->K a' w'):wpOp P ops Q i K a w:=by
 unfold wpOp
 rw[ho]
 simp only
 unfold eJ at h
 split at h
 ·cases h
 ·rename_i hg
  simp only[pr,A_,DG] at h
  obtain⟨rfl,rfl⟩:=h
  rw[ACD hst.sim hg]
  simp only[W_,KK]
  exact hK E _ w ⟨hst.sim.put o.dst BK,hst.hd,hst.wf.put o.dst (yE _ _)⟩ (fun n hn=>⟨rfl,hn⟩) rfl
 ·rename_i hg
  rw[ACD hst.sim hg]
  simp only[HP]
  refine .inl ?_
  split at h
  ·cases h
  rename_i hnu
  obtain⟨v0,ASW,hvv⟩:∃ v0,core P cx AQ o.dst (evc fr) pr o.op=some (v0,u)/\(∀ E:Env,v.den E=v0.den E)/\(∀ E L,v0.wf E L->v.wf E L):=by
   cases hs:A14 ops.toList k with
   |false=>rw[hs] at h;exact⟨v,h,fun _=>rfl,fun _ _ h=>h⟩
   |true=>
    rw[hs] at h
    simp only at h
    rw[o7,AFR] at h
    obtain⟨⟨v0,u0⟩,h1,h2⟩:=h
    obtain⟨b,hb,h3⟩:=uG h2
    simp only[pr,A_,DG] at h3
    obtain⟨rfl,rfl⟩:=h3
    exact⟨v0,h1,fun E=>by rw[XO hb];rfl,fun _ _ _=>trivial⟩
  have A6K:∀ cs b,o.op≠ .select cs b:=by
   intro cs b he
   rw[he] at ASW
   cases hfz:cx.AWL o.dst <;> (cases hkq:(cx.keeps o.dst && Op.AMS (Op.select cs b)) <;> simp [core,core0,SE,hfz,dX,AGZ,Op.AMS] at ASW hkq)
  obtain⟨G,hG⟩:=hst.hd
  refine AX2 hcx CL ASW c w E ⟨G,hG⟩ (fun x=>A3X hst.wf x) a _ Q ?_ ?_
  ·refine execOp_congr o A6K fun x hx=> ?_
   rw[ARM hst.sim x]
   have:=KI.1 hnu x (by simpa using hx)
   unfold evc
   cases hv:ev fr x <;> first|rfl|(rw[hv] at this;simp [ACC] at this)
  ·intro E' w' hH hnm hds vT
   obtain⟨d1,d2⟩:=eL hst.wf hnm hds
   have hs' :Sim E' fr a:=⟨by rw[hst.sim.1,d1],hst.sim.2⟩
   refine hK E' _ w' ⟨?_,hH,d2.put o.dst (hvv.2 _ _ vT)⟩ hnm hds
   rw[<-hvv.1 E']
   exact hs'.put o.dst v
theorem AN1 {W:List Nat} {fr:List SV} {d:Option Tmp} (h:∀ t,d=some t->t∈W):∀ t,t∉W->(SM fr d v).getD t BK=fr.getD t BK:=by
 intro t ht
 cases d with
 |none=>rfl
 |some d=>
  simp only[SM,Y_]
  rw[AE]
  rintro⟨rfl,_⟩
  exact ht (h d rfl)
theorem uH (fr:List SV) (d:Option Tmp) (v:SV):(SM fr d v).length=fr.length:=by cases d <;> simp [SM]
theorem AHB {α:Type} {cx:Cx} (hcx:cx.Ok P) {W:List Nat} {c:EX cx.tb} {fr0:List SV} {L0:AM} {E0:Env} {K:List SV->AM->Option α} {r0:α}
  (hK:∀ E' fr' L' a' w',St c E' fr' L' a' w' ->Ext W E0 fr0 L0 E' fr' L' ->K fr' L' =some r0->Q .normal a' w'):
  ∀ (rest:List Oper) (k:Nat),ops.toList.drop k=rest->(∀ o∈rest,∀ d,o.dst=some d->d∈W)->∀ (E:Env) (fr:List SV) (L:AM) (a:Act) (w:World),St c E fr L a w->Ext W E0 fr0 L0 E fr L→
   ASV P cx ops.toList rest k fr L K=some r0->wpOps P ops Q (List.range' k rest.length) a w
 | [],k,_,_,E,fr,L,a,w,hst,N6,hv=>hK E fr L a w hst N6 hv
 |o::rest,k,hd,hW,E,fr,L,a,w,hst,N6,hv=>by
  have ZZ:ops[k]? =some o:=by
   rw[<-mH]
   have:=KL (fun l=>l[0]?) hd
   simpa [dM] using this
  have hd' :ops.toList.drop (k+1)=rest:=by
   have:=KL (List.drop 1) hd
   simpa [ABL,AG9] using this
  obtain⟨v,u,h1,h2⟩:=yD hv
  show wpOps P ops Q (k::List.range' (k+1) rest.length) a w
  rw[wpOps_cons]
  refine AN0 hcx ZZ hst (fun n e h=>h) h2 fun E' a' w' A15 hnm hds=> ?_
  refine AHB hcx hK rest (k+1) hd' (fun o' ho' =>hW o' (by simp [ho'])) E' _ _ a' w' A15 (N6.trans ?_) h1
  exact⟨hnm,fun t _=>by rw[hds],eK.AJ L u,uH _ _ _,AN1 fun t ht=>hW o (by simp) t ht⟩
end
end Go.V3
