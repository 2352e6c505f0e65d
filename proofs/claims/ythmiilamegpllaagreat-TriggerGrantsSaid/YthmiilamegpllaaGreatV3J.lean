import Derived.Test.YthmiilamegpllaaGreatV3A
import Derived.Laws.BytesString
import Derived.Lib.ConvBytes
import Derived.Orders
set_option linter.unusedVariables false
set_option linter.unusedSimpArgs false
namespace Go.V3
open Go
variable {TB:Tb}
structure Z9 where
 live:List (Nat×CT)
 boxes:List (Nat×CT)
 rows:List (Nat×Ty)
 dead:List Nat
 lost:List Nat
 base:Nat
 pins:List (Nat×Nat×Nat):=[]
inductive Xt where
 |SU
 |jW
def Xt.sem:Xt->Array Value->Sem Value
 | .SU=>Extern.MathFloatBits.float64bits
 | .jW=>Extern.MathFloatBits.float64frombits
def xtE (e:Xt) (args:List SV):Pu:=
 match e,args with
 | .SU,[.nf o _]=>T0 (o.isSome=true/\o.getD 0<18446744073709551616) (.u64 (BitVec.ofNat 64 (o.getD 0)))
 | .SU,[.NC b]=>T0 (b<18446744073709551616) (.u64 (BitVec.ofNat 64 b))
 | .jW,[.u64 x]=>val (.NC x.toNat)
 |_,_=>none
structure Cx where
 nm:List (Nat×Nat×Nat)
 AL:List Nat
 fns:FuncId->Option FnI
 loops:List (Nat×Z9)
 AO:List (Nat×Z9)
 tb:Tb
 exts:List (Nat×Xt)
 lets:List Nat
 AWU:List Nat:=[]
 AWV:List Nat:=[]
 opens:List (Nat×(Nat×Nat×Nat)):=[]
 AU6:List Nat:=[]
def mK {β α:Type} (x:β) (K:β->Option α):Option α:=K x
def AQ7 {α:Type} (b:Bool) (v:SV) (K:SV->Option α):Option α:=match b,v with
 |true,.u64 x=>mK x fun x=>K (.u64 x)
 |true,.int k n=>mK n fun n=>K (.int k n)
 |_,v=>K v
theorem AGX {α:Type} (b:Bool) (v:SV) (K:SV->Option α):AQ7 b v K=K v:=by
 unfold AQ7 mK;split <;> rfl
def Cx.AWW (cx:Cx):Option Tmp->Bool
 |some d=>cx.lets.contains d
 |none=>false
def Cx.AGY (cx:Cx):Option Tmp->Bool
 |some d=> !cx.AWV.contains d
 |none=>true
def Cx.AZM (cx:Cx):Option Tmp->Bool
 |some d=>cx.AU6.contains d
 |none=>false
def Cx.AQ8 (cx:Cx):Option Tmp->Bool
 |some d=>cx.AWU.contains d
 |none=>false
def AWX (arr:Array Value) (k:Nat):Int:=match arr[k]? with
 |some (.int _ n)=>n
 |_=>0
def ABJ (k:IntKind):List Value->Bool
 | []=>true
 | .int k' _::r=>decide (k=k') && ABJ k r
 |_::_=>false
def lk {α:Type} (l:List (Nat×α)) (k:Nat):Option α:=
 match l with
 | []=>none
 |(a,b)::r=>if a=k then some b else lk r k
def Cx.HJ (cx:Cx):Option Tmp->Nat×Nat
 |some d=>(match lk cx.nm d with
  |some q=>q
  |none=>(0,0))
 |none=>(0,0)
def Cx.base (cx:Cx) (d:Option Tmp):Nat:=(cx.HJ d).1
def Cx.keeps (cx:Cx):Option Tmp->Bool
 |some d=>cx.AL.contains d
 |none=>false
def tyL:List (Option Ty)->Option Ty
 | []=>none
 | [x]=>x
 |x::r=>match x,tyL r with
  |some a,some b=>some (.pair a b)
  |_,_=>none
def pB (P:Program):Nat->TypeId->Option Ty
 |0,_=>none
 |n+1,t=>match P.underlying t with
  |some (.int k)=>some (match k with| .u64=> .u64|k=> .int k)
  |some .bool=>some .bool
  |some .string=>some .str
  |some (.float .f64)=>some .NC
  |some (.slice e)=>(match pB P n e with|some a=>some (.slice a)|none=>none)
  |some (.struct fs)=>tyL (fs.toList.map fun f=>pB P n f.type)
  |_=>none
def H9:Nat->Option AW:=fun _=>none
def K5:List (Int×Bool)->Int->Option Bool
 | [],_=>none
 |(a,b)::r,k=>if k=a then some b else K5 r k
def VZ:List (Int×Bool)->Int->Bool->List (Int×Bool)
 | [],k,v=>[(k,v)]
 |(a,b)::r,k,v=>if k=a then (k,v)::r else (a,b)::VZ r k v
def yN (P:Program) (t:TypeId):Bool:=match P.underlying t with
 |some (.map k e)=>(match P.underlying k,P.info? e with
  |some (.int _),some q=>(match q.zero with
   |some (.bool false)=>true
   |_=>false)
  |_,_=>false)
 |_=>false
def fin (AL:Bool) (bs:Nat) (a:Ty) (xs:List a.T):CW:=(bs,.row a xs)::(match AL with
 |true=>[]
 |false=>[(bs,.shr a xs)])
section
variable (P:Program) (cx:Cx) (AQ:Nat->Option AW) {α:Type}
def gZ (agg:Bool) (n:Nat) (a:Ty) (xs:List a.T) (k sz off bs:Nat) (K:SV->CW->Option α):Option α:=
 if sz=a.sz/\off+n<=a.sz/\H6 AQ bs a.GN=true then (match agg with
  |true=>K (.agg (((HH a (gd a xs k) bs).drop off).take n)) (CK bs (BY false a (gd a xs k)))
  |false=>(match (HH a (gd a xs k) bs)[off]? with
   |some v=>K v (CK bs (BY false a (gd a xs k)))
   |none=>none)) else none
def mL (i:Nat) (t:Ty) (xss:List (List t.T)) (h:Option (Nat×Nat)):Option (List (List t.T)×CW):=
 match h with
 |none=>some (xss,[])
 |some (k,j)=>(match AQ j with
  |some (.row t' ys)=>if he:t' =t then some (xss.set k (GU he ys),[(j,.dead),(i,.deep t (xss.set k (GU he ys)) none)]) else none
  |_=>none)
def wB (deep:Bool) (t:Ty) (xss:List (List t.T)) (h:Option (Nat×Nat)) (i k sz off bs:Nat) (K:SV->CW->Option α):Option α:=
 if sz=1/\off=0 then (match H6 AQ bs 1 && (deep||h.isNone) with
  |true=>(match mL AQ i t xss h with
   |some (ys,u)=>K (.MB bs) (u++ [(bs,.dead),(i,.deep t ys (some (k,bs))),(bs,.row t (ys.getD k []))])
   |none=>none)
  |false=>(match h with
   |some (k0,j)=>if k=k0 then K (.MB j) [] else none
   |none=>none)) else none
def wC (deep:Bool) (t:TypeId) (x:SV) (bs:Nat) (K:SV->CW->Option α):Option α:=
 match P.info? t,P.underlying t with
 |some q,some _=>(match x with
  | .loc i off=>(match AQ i with
   |some (.box cs)=>(match HY P t with
    |true=>if off+q.size<=cs.length then K (.agg ((cs.drop off).take q.size)) [] else none
    |false=>(match cs[off]? with
     |some v=>K v []
     |none=>none))
   |some (.ptr j)=>(match HY P t with
    |true=>none
    |false=>if off=0 then K (.loc j 0) [] else none)
   |_=>none)
  | .el i k sz off=>(match AQ i with
   |some (.row a xs)=>gZ AQ (HY P t) q.size a xs k sz off bs K
   |some (.shr a xs)=>gZ AQ (HY P t) q.size a xs k sz off bs K
   |some (.deep a xss h)=>(match HY P t with
    |true=>none
    |false=>wB AQ deep a xss h i k sz off bs K)
   |some (.tree _ _ _)=>(match HY P t with
    |true=>none
    |false=>if sz=2/\off<2 then K (.tsl i k off) [] else none)
   |_=>none)
  |_=>none)
 |_,_=>none
def loadT (t:TypeId) (g off:Nat) (K:SV->CW->Option α):Option α:=
 match lk cx.tb g,P.underlying t,P.info? t with
 |some arr,some (.int k),some _=>(match k with
  | .u64=>none
  |k=>if ABJ k arr.toList=true then (if off<arr.size then K (.int k (AWX arr off)) [] else none) else none)
 |_,_,_=>none
def wD:SV->Bool
 | .agg _=>false
 | .tup _=>false
 | .raw (.agg _)=>false
 | .raw (.tuple _)=>false
 | .l5 _=>false
 |_=>true
def ALM:SV->Bool
 | .MB _=>false
 | .nf _ _=>false
 |_=>true
def ASQ (cs:List SV) (off n:Nat):Bool:=(cs.take off).all ALM && (cs.drop (off+n)).all ALM
def pW (n:Nat) (a:Ty) (xs:List a.T) (i k sz off:Nat) (v:SV) (K:SV->CW->Option α):Option α:=
 if sz=a.sz/\off+n<=a.sz/\(BD v).length=n/\MW v=false then
  (if off=0/\n=a.sz then (match FA .dS AQ a (BD v) with
   |some (y,[],_,u)=>(match u.all (fun q=> !(q.1==i)) with
    |true=>K AV (u++ [(i,.row a (xs.set k y))])
    |false=>none)
   |_=>none)
  else if a.GN=0 then (match FA .Z0 H9 a (DJ (HH a (gd a xs k) 0) off (BD v)) with
   |some (y,[],_,_)=>K AV [(i,.row a (xs.set k y))]
   |_=>none)
  else (match ASQ (HH a (gd a xs k) 0) off n with
   |true=>(match FA .dS AQ a (DJ (HH a (gd a xs k) 0) off (BD v)) with
    |some (y,[],_,u)=>(match u.all (fun q=> !(q.1==i)) with
     |true=>K AV (u++ [(i,.row a (xs.set k y))])
     |false=>none)
    |_=>none)
   |false=>none))
 else none
def YG (a:Ty):Nat->List SV->Option (List a.T×CW)
 |0,[]=>some ([],[])
 |0,_::_=>none
 |n+1,cs=>match FA .dS AQ a cs with
  |some (x,r,_,u)=>(match YG a n r with
   |some (xs,u')=>some (x::xs,u++u')
   |none=>none)
  |none=>none
def jX (n len:Nat) (a:Ty) (xs:List a.T) (i k off:Nat) (v:SV) (K:SV->CW->Option α):Option α:=
 if k=0/\off=0/\a.GN=0/\(BD v).length=n/\(BD v).all wD=true/\MW v=false then
  (match YG H9 a len (BD v) with
  |some (ys,_)=>if xs.length=len then K AV [(i,.row a ys)] else none
  |none=>none)
 else none
def yO (n:Nat) (t:Ty) (xss:List (List t.T)) (h:Option (Nat×Nat)) (i k sz off:Nat) (v:SV) (K:SV->CW->Option α):Option α:=
 if n=1/\sz=1/\off=0 then (match v with
  | .MB j=>(match AQ j with
   |some (.row t' ys)=>if he:t' =t then (match h with
    |none=>K AV [(j,.dead),(i,.deep t (xss.set k (GU he ys)) none)]
    |some (k0,_)=>if k=k0 then K AV [(j,.dead),(i,.deep t (xss.set k (GU he ys)) none)] else none) else none
   |_=>none)
  |_=>none) else none
def AU7 (q1:TypeInfo) (i k q:Nat) (n:Int) (K:SV->CW->Option α):Option α:=match AQ i with
 |some (.tree t1 t2 xs)=>(match q with
  |0=>if q1.size=1/\t1.sz=1 then (if 0<=n/\n<((gd (.pair (.slice t1) (.slice t2)) xs k).1.length:Int) then K (.tel i k 0 n.toNat) [] else none) else none
  |1=>if q1.size=1/\t2.sz=1 then (if 0<=n/\n<((gd (.pair (.slice t1) (.slice t2)) xs k).2.length:Int) then K (.tel i k 1 n.toNat) [] else none) else none
  |_=>none)
 |_=>none
def storeT (n:Nat) (i k q j:Nat) (v:SV) (K:SV->CW->Option α):Option α:=match AQ i with
 |some (.tree t1 t2 xs)=>if n=1/\MW v=false/\wD v=true then (match q with
  |0=>(match FA .Z0 H9 t1 [v] with
   |some (y,[],_,_)=>if t1.GN=0/\t1.sz=1 then K AV [(i,.tree t1 t2 (xs.set k ((gd (.pair (.slice t1) (.slice t2)) xs k).1.set j y,(gd (.pair (.slice t1) (.slice t2)) xs k).2)))] else none
   |_=>none)
  |1=>(match FA .Z0 H9 t2 [v] with
   |some (y,[],_,_)=>if t2.GN=0/\t2.sz=1 then K AV [(i,.tree t1 t2 (xs.set k ((gd (.pair (.slice t1) (.slice t2)) xs k).1,(gd (.pair (.slice t1) (.slice t2)) xs k).2.set j y)))] else none
   |_=>none)
  |_=>none) else none
 |_=>none
def mM (t:TypeId) (x v:SV) (K:SV->CW->Option α):Option α:=
 match P.info? t with
 |some q=>(match x with
  | .loc i off=>(match AQ i with
   |some (.box cs)=>if (BD v).length=q.size/\(BD v).all wD=true/\MW v=false/\off+(BD v).length<=cs.length then K AV [(i,.box (DJ cs off (BD v)))] else none
   |_=>none)
  | .el i k sz off=>(match AQ i with
   |some (.row a xs)=>(match P.underlying t with
    |some (.array len _)=>jX q.size len a xs i k off v K
    |_=>pW AQ q.size a xs i k sz off v K)
   |some (.deep a xss h)=>yO AQ q.size a xss h i k sz off v K
   |_=>none)
  | .tel i k h j=>storeT AQ q.size i k h j v K
  |_=>none)
 |none=>none
def mN (t:TypeId) (AL:Bool) (bs:Nat) (K:SV->CW->Option α):Option α:=
 match MX P t with
 |some z=>if H6 AQ bs 1=true then (match P.underlying t with
  |some (.array len e)=>(match pB P 8 e,P.info? e with
   |some a,some q=>if q.size=a.sz/\a.GN=0/\0<len then (match YG H9 a len z with
    |some (xs,_)=>K (.el bs 0 a.sz 0) (fin AL bs a xs)
    |none=>none) else none
   |_,_=>none)
  |_=>if TC (z.map fun v=>(0,v))=true then K (.loc bs 0) [(bs,.box z)] else none) else none
 |none=>none
def AJ6 (x:SV) (bs:Nat) (K:SV->CW->Option α):Option α:=
 if MW x=false/\H6 AQ bs 1=true then K (.loc bs 0) [(bs,.box (BD x))] else none
def NT (t:TypeId) (len:Nat) (parts:List (Nat×SV)) (AL:Bool) (bs:Nat) (K:SV->CW->Option α):Option α:=
 match P.underlying t with
 |some (.slice e)=>(match P.info? e,MX P e,pB P 8 e with
  |some q,some z,some a=>
   if z.length=q.size/\q.size=a.sz/\len*q.size<=16777216/\TC parts=true/\H6 AQ bs 1=true then
    (match ZY (fun i=>some (i*q.size,q.size)) (fresh z (len*q.size) q.size) parts with
    |some cs=>(match YG AQ a len cs with
     |some (xs,u)=>K (.MB bs) (u++fin AL bs a xs)
     |none=>none)
    |none=>none)
   else none
  |_,_,_=>none)
 |_=>none
def PQ (t:TypeId) (l c:SV) (AL:Bool) (bs:Nat) (K:SV->CW->Option α):Option α:=
 match P.underlying t with
 |some (.slice e)=>(match P.info? e,MX P e,pB P 8 e,l,c with
  |some q,some z,some a,.int _ n,.int _ m=>(match FA .Z0 H9 a z with
   |some (zv,[],_,_)=>
    if z.length=q.size/\q.size=a.sz/\q.bytes≠0/\H6 AQ bs 1=true then
     (if 0<=n/\n<=m/\m*q.bytes<=140737488355328 then K (.MB bs) (fin AL bs a (List.replicate n.toNat zv)) else none)
    else none
   |_=>none)
  |_,_,_,_,_=>none)
 |_=>none
def ALN (t:TypeId):Bool:=match P.underlying t with
 |some (.slice e)=>(match P.underlying e with
  |some (.slice _)=>true
  |_=>false)
 |_=>false
def wE (t:TypeId) (l c:SV) (bs:Nat) (K:SV->CW->Option α):Option α:=
 match P.underlying t with
 |some (.slice e)=>(match P.info? e,MX P e,pB P 8 e,l,c with
  |some q,some [.KX],some (.slice a),.int _ n,.int _ m=>
   if q.size=1/\q.bytes≠0/\H6 AQ bs 1=true then
    (if 0<=n/\n<=m/\m*q.bytes<=140737488355328 then K (.MB bs) [(bs,.deep a (List.replicate n.toNat []) none)] else none)
   else none
  |_,_,_,_,_=>none)
 |_=>none
def mO (t:TypeId) (len:Nat) (parts:List (Nat×SV)) (bs:Nat) (K:SV->CW->Option α):Option α:=
 match P.underlying t with
 |some (.slice e)=>(match P.info? e,MX P e,pB P 8 e,parts with
  |some q,some [.KX],some (.slice a),[(0,.MB j)]=>(match AQ j with
   |some (.row t' ys)=>if he:t' =a then
    (if q.size=1/\len=1/\H6 AQ bs 1=true then K (.MB bs) [(j,.dead),(bs,.deep a [GU he ys] none)] else none) else none
   |_=>none)
  |some q,some [.KX],some (.slice a),[(0,.KX)]=>if q.size=1/\len=1/\H6 AQ bs 1=true then K (.MB bs) [(bs,.deep a [[]] none)] else none
  |_,_,_,_=>none)
 |_=>none
def AU8 (t:TypeId):Bool:=match P.underlying t with
 |some (.slice e)=>(match pB P 8 e with
  |some (.pair (.slice _) (.slice _))=>true
  |_=>false)
 |_=>false
def jY (t:Ty):SV->Option (List t.T×CW)
 | .KX=>some ([],[])
 | .MB i=>(match AQ i with
  |some (.row t' ys)=>if he:t' =t then some (GU he ys,[(i,.dead)]) else none
  |_=>none)
 |_=>none
def mP (t:TypeId) (len:Nat) (parts:List (Nat×SV)) (bs:Nat) (K:SV->CW->Option α):Option α:=
 match P.underlying t with
 |some (.slice e)=>(match P.info? e,MX P e,pB P 8 e,parts with
  |some q,some [.KX,.KX],some (.pair (.slice a) (.slice b)),[(0,.agg [v1,v2])]=>(match jY AQ a v1,jY AQ b v2 with
   |some (y1,u1),some (y2,u2)=>if q.size=2/\len=1/\H6 AQ bs 1=true/\u1.all (fun q=>u2.all (fun r=> !(r.1==q.1)))=true then K (.MB bs) (u1++u2++ [(bs,.tree a b [(y1,y2)])]) else none
   |_,_=>none)
  |_,_,_,_=>none)
 |_=>none
def ABK (a b:Ty):SV->Option (List (List a.T×List b.T)×CW)
 | .KX=>some ([],[])
 | .MB i=>(match AQ i with
  |some (.tree t1 t2 xs)=>if he:t1=a/\t2=b then some (he.1 ▸ he.2 ▸ xs,[(i,.dead)]) else none
  |_=>none)
 |_=>none
def AQ9:SV->Bool
 | .MB i=>(match AQ i with
  |some (.tree _ _ _)=>true
  |_=>false)
 |_=>false
def dC (ts:List TypeId) (x y:SV) (bs:Nat) (K:SV->CW->Option α):Option α:=
 match ts with
 | [t0,t1]=>(match P.underlying t0,P.underlying t1 with
  |some (.slice e),some (.slice _)=>(match P.info? e,MX P e,pB P 8 e with
   |some q,some [.KX,.KX],some (.pair (.slice a) (.slice b))=>
    if q.size=2/\q.bytes≠0/\H6 AQ bs 1=true then
     (match ABK AQ a b x,ABK AQ a b y with
     |some (xs,u1),some (ys,u2)=>(match u1.all (fun q=>u2.all (fun r=> !(r.1==q.1))) with
      |true=>if (xs.length+ys.length)*q.bytes<=140737488355328 then K (.MB bs) (u1++u2++ [(bs,.tree a b (xs++ys))]) else none
      |false=>none)
     |_,_=>none)
    else none
   |_,_,_=>none)
  |_,_=>none)
 |_=>none
def UN:SV->Bool
 | .MB i=>(match AQ i with
  |some (.deep _ _ _)=>true
  |some (.tree _ _ _)=>true
  |_=>false)
 |_=>false
def ABL (a:Ty):SV->Option (List (List a.T)×CW)
 | .KX=>some ([],[])
 | .MB i=>(match AQ i with
  |some (.deep t xss none)=>if he:t=a then some (GU (N5 Ty.slice he) xss,[(i,.dead)]) else none
  |_=>none)
 |_=>none
def AQA (AL:Bool) (bs:Nat) (a:Ty) (xss:List (List a.T)):CW:=match AL with
 |true=>[]
 |false=>[(bs,.shr (.slice a) xss)]
def SW (ts:List TypeId) (x y:SV) (AL:Bool) (bs:Nat) (K:SV->CW->Option α):Option α:=
 match ts with
 | [t0,t1]=>(match P.underlying t0,P.underlying t1 with
  |some (.slice e),some (.slice _)=>(match P.info? e,MX P e,pB P 8 e with
   |some q,some [.KX],some (.slice a)=>
    if q.size=1/\q.bytes≠0/\H6 AQ bs 1=true then
     (match ABL AQ a x,ABL AQ a y with
     |some (xs,u1),some (ys,u2)=>(match u1.all (fun q=>u2.all (fun r=> !(r.1==q.1))) with
      |true=>if (xs.length+ys.length)*q.bytes<=140737488355328 then K (.MB bs) (u1++u2++ [(bs,.deep a (xs++ys) none)]++AQA AL bs a (xs++ys)) else none
      |false=>none)
     |_,_=>none)
    else none
   |_,_,_=>none)
  |_,_=>none)
 |_=>none
def ALO :SV->Option Nat
 | .KX=>some 0
 | .MB i=>(match AQ i with
  |some (.row _ xs)=>some xs.length
  |some (.shr _ xs)=>some xs.length
  |some (.deep _ xss _)=>some xss.length
  |some (.tree _ _ xs)=>some xs.length
  |_=>none)
 | .sub _ _ n _=>some n
 |_=>none
def dD (ts:List TypeId) (x y:SV) (AL:Bool) (bs:Nat) (K:SV->CW->Option α):Option α:=
 match ts with
 | [t0,t1]=>(match P.underlying t0,P.underlying t1 with
  |some (.slice e),some (.slice _)=>(match P.info? e,MX P e,pB P 8 e with
   |some q,some z,some a=>
    if z.length=q.size/\q.size=a.sz/\q.bytes≠0/\H6 AQ bs 1=true then
     (match W4 AQ a x,MD .Z0 AQ a y with
     |some (xs,_,u1),some (ys,ne,u2)=>
      (match u1.all (fun q=>u2.all (fun r=> !(r.1==q.1))) with
      |true=>if (xs.length+ys.length)*q.bytes<=140737488355328 then K (.MB bs) (u2++u1++fin AL bs a (xs++ys)) else none
      |false=>none)
     |_,_=>none)
    else none
   |_,_,_=>none)
  |_,_=>none)
 |_=>none
def mQ (t:TypeId) (x:SV) (low high:Option SV) (AL:Bool) (bs:Nat) (K:SV->CW->Option α):Option α:=
 match P.underlying t with
 |some (.slice e)=>(match P.info? e,x with
  |some q,.MB i=>(match AQ i with
   |some (.row a xs)=>(match AL with
    |false=>if q.size=a.sz then (match bnd high xs.length,bnd low 0 with
     |some (h,hn),some (l,ln)=>if Bd l h hn xs.length then K (.sub i ln (hn-ln) a.sz) [] else none
     |_,_=>none) else none
    |true=>if q.size=a.sz/\H6 AQ bs 1=true then (match bnd high xs.length,bnd low 0 with
     |some (h,hn),some (l,ln)=>if Bd l h hn xs.length then K (.MB bs) [(i,.dead),(bs,.row a (BX xs ln (hn-ln)))] else none
     |_,_=>none) else none)
   |some (.shr a xs)=>if q.size=a.sz/\H6 AQ bs 1=true then (match bnd high xs.length,bnd low 0 with
    |some (h,hn),some (l,ln)=>if Bd l h hn xs.length then K (.MB bs) [(bs,.shr a (BX xs ln (hn-ln)))] else none
    |_,_=>none) else none
   |_=>none)
  |_,_=>none)
 |_=>none
def mR (t:TypeId) (x i:SV) (K:SV->CW->Option α):Option α:=
 match P.underlying t,idxOf i with
 |some (.slice e),some n=>(match P.info? e,x with
  |some q,.MB j=>(match AQ j with
   |some (.row a xs)=>if q.size=a.sz then (if 0<=n/\n<(xs.length:Int) then K (.el j n.toNat a.sz 0) [] else none) else none
   |some (.shr a xs)=>if q.size=a.sz then (if 0<=n/\n<(xs.length:Int) then K (.el j n.toNat a.sz 0) [] else none) else none
   |some (.deep _ xss _)=>if q.size=1 then (if 0<=n/\n<(xss.length:Int) then K (.el j n.toNat 1 0) [] else none) else none
   |some (.tree _ _ xs)=>if q.size=2 then (if 0<=n/\n<(xs.length:Int) then K (.el j n.toNat 2 0) [] else none) else none
   |_=>none)
  |some q,.tsl i k h=>AU7 AQ q i k h n K
  |some q,.sub j lo len sz=>(match AQ j with
   |some (.row a _)=>if q.size=sz/\sz=a.sz then (if 0<=n/\n<(len:Int) then K (.el j (lo+n.toNat) sz 0) [] else none) else none
   |_=>none)
  |_,_=>none)
 |some (.array len e),some n=>(match P.info? e,x with
  |some q,.el j k sz off=>(match AQ j with
   |some (.row a xs)=>if q.size=a.sz/\sz=a.sz/\k=0/\off=0 then (if (0<=n/\n<(len:Int))/\n<(xs.length:Int) then K (.el j n.toNat a.sz 0) [] else none) else none
   |_=>none)
  |_,_=>none)
 |_,_=>none
def jZ (bs:Nat) (K:SV->CW->Option α):Option α:=
 if H6 AQ bs 1=true then K (.mpv bs) [(bs,.map [])] else none
def pX (t:TypeId) (x i:SV) (ok:Bool) (K:SV->CW->Option α):Option α:=
 match x,i with
 | .mpv j,.int .i64 n=>(match AQ j with
  |some (.map xs)=>(match yN P t with
   |true=>(match ok with
    |true=>K (.tup [.bool ((K5 xs n).getD false),.bool (K5 xs n).isSome]) []
    |false=>K (.bool ((K5 xs n).getD false)) [])
   |false=>none)
  |_=>none)
 |_,_=>none
def pY (t:TypeId) (x i v:SV) (K:SV->CW->Option α):Option α:=
 match x,i,toB v with
 | .mpv j,.int .i64 n,some b=>(match AQ j with
  |some (.map xs)=>(match yN P t with
   |true=>K AV [(j,.map (VZ xs n b))]
   |false=>none)
  |_=>none)
 |_,_,_=>none
def AWY (xs:List Int):ByteArray:=xs.foldl (fun r n=>r.push (UInt8.ofNat n.toNat)) ByteArray.empty
def g_ (s:ByteArray):List Int:=s.data.toList.map fun b=>(b.toNat:Int)
def AQB (P:Program) (e:TypeId):Bool:=match P.underlying e with
 |some (.int .u8)=>true
 |_=>false
def AGZ (s d:TypeId) (x:SV) (kp:Bool) (bs:Nat) (K:SV->CW->Option α):Option α:=
 match P.underlying s,P.underlying d with
 |some (.slice e),some .string=>(match AQB P e with
  |true=>(match UN AQ x with
   |true=>none
   |false=>(match MD .Z0 AQ (.int .u8) x with
    |some (xs,_,_)=>K (.str (AWY xs)) []
    |none=>none))
  |false=>none)
 |some .string,some (.slice e)=>(match AQB P e && H6 AQ bs 1 with
  |true=>(match x with
   | .str t=>K (.MB bs) (fin kp bs (.int .u8) (g_ t))
   |_=>none)
  |false=>none)
 |_,_=>none
def ABM (dst:Option Tmp) (ρ:Operand->SV) (K:SV->CW->Option α):Op->Option α
 | .load t x=>(match ρ x with
  | .ptr (some ⟨g,off,none⟩)=>loadT P cx t g off K
  |v=>wC P AQ (cx.AGY dst) t v (cx.base dst) K)
 | .store t x y=>mM P AQ t (ρ x) (ρ y) K
 | .alloc t=>mN P AQ t (cx.keeps dst) (cx.base dst) K
 | .box _ x=>AJ6 AQ (ρ x) (cx.base dst) K
 | .buildSlice t len parts=>(match cx.keeps dst && (cx.AGY dst && ALN P t) with
  |true=>mO P AQ t len (parts.toList.map fun q=>(q.1,ρ q.2)) (cx.base dst) K
  |false=>(match cx.keeps dst && (cx.AGY dst && AU8 P t) with
   |true=>mP P AQ t len (parts.toList.map fun q=>(q.1,ρ q.2)) (cx.base dst) K
   |false=>NT P AQ t len (parts.toList.map fun q=>(q.1,ρ q.2)) (cx.keeps dst) (cx.base dst) K))
 | .makeSlice t l c=>(match cx.keeps dst && (cx.AGY dst && ALN P t) with
  |true=>wE P AQ t (ρ l) (ρ c) (cx.base dst) K
  |false=>PQ P AQ t (ρ l) (ρ c) (cx.keeps dst) (cx.base dst) K)
 | .slice t x l h none=>mQ P AQ t (ρ x) (l.map ρ) (h.map ρ) (cx.keeps dst) (cx.base dst) K
 | .indexAddr t x i=>mR P AQ t (ρ x) (ρ i) K
 | .call { callee:= .builtin .len,args,argTypes }=>(match args.toList.map ρ,argTypes.toList with
  | [x],[t]=>(match P.underlying t,ALO AQ x with
   |some (.slice _),some n=>K (.int .i64 n) []
   |_,_=>none)
  |_,_=>none)
 | .call { callee:= .builtin .append,args,argTypes }=>(match args.toList.map ρ with
  | [x,y]=>(match UN AQ y with
   |true=>(match AQ9 AQ y with
    |true=>dC P AQ argTypes.toList x y (cx.base dst) K
    |false=>SW P AQ argTypes.toList x y (cx.keeps dst) (cx.base dst) K)
   |false=>dD P AQ argTypes.toList x y (cx.keeps dst) (cx.base dst) K)
  |_=>none)
 | .makeMap _ none=>jZ AQ (cx.base dst) K
 | .convert s d x=>AGZ P AQ s d (ρ x) (cx.keeps dst) (cx.base dst) K
 | .binOp .quo _ x y _=>(match ρ x,ρ y with
  | .NC a,.NC b=>(match H6 AQ (cx.base dst) 1 with
   |true=>K (.nf (FI .quo a b) (cx.base dst)) [((cx.base dst),.dead)]
   |false=>none)
  |_,_=>none)
 | .lookup t x i ok=>pX P AQ t (ρ x) (ρ i) ok K
 | .mapUpdate t x i v=>pY P AQ t (ρ x) (ρ i) (ρ v) K
 | .call { callee:= .value f,args,.. }=>(match AJ0 (ρ f) with
  |some (n,cs)=>(match cx.fns n with
   |some fi=>AGV (cx.AZM dst) fi (cx.base dst) AQ (args.toList.map ρ++cs) K
   |none=>(match lk cx.exts n with
    |some e=>(match xtE e (args.toList.map ρ++cs) with
     |some (none,v)=>K v []
     |some (some q,v)=> @ite _ q.p q.d (K v []) none
     |none=>none)
    |none=>none))
  |_=>none)
 |_=>none
def j6 (v:SV) (K:SV->CW->Option α):Option α:=
 match v with
 | .MB i=>(match AQ i with
  |some (.deep t xss h)=>(match mL AQ i t xss h with
   |some (ys,u)=>K (.MB i) (u++ [(i,.shr (.slice t) ys)])
   |none=>none)
  |_=>K (.MB i) [])
 |v=>K v []
def P3 (ρ:Operand->SV) (K:SV->CW->Option α):Op->Option α
 | .move x=>j6 AQ (ρ x) K
 | .assign x=>j6 AQ (ρ x) K
 |_=>none
def Op.AH0:Op->Bool
 | .binOp .quo _ _ _ _=>true
 |_=>false
def core0 (dst:Option Tmp) (ρ:Operand->SV) (K:SV->CW->Option α) (op:Op):Option α:=
 match (match cx.keeps dst && Op.AH0 op with
  |true=>none
  |false=>ZZ P ρ op) with
 |some (none,v)=>AQ7 (cx.AWW dst) v fun v=>K v []
 |some (some q,v)=> @ite _ q.p q.d (AQ7 (cx.AWW dst) v fun v=>K v []) none
 |none=>ABM P cx AQ dst ρ K op
def core (dst:Option Tmp) (ρ:Operand->SV) (K:SV->CW->Option α) (op:Op):Option α:=
 match cx.AQ8 dst with
 |true=>P3 AQ ρ K op
 |false=>core0 P cx AQ dst ρ K op
end
section
variable {P:Program} {cx:Cx} {AQ:Nat->Option AW} {α:Type}
def pr (v:SV) (u:CW):Option (SV×CW):=some (v,u)
theorem AER (agg:Bool) (n:Nat) (a:Ty) (xs:List a.T) (k sz off bs:Nat) (K:SV->CW->Option α):
  gZ AQ agg n a xs k sz off bs K=(gZ AQ agg n a xs k sz off bs pr).bind (fun q=>K q.1 q.2):=by
 unfold gZ
 split
 ·cases agg
  ·simp only;split <;> rfl
  ·rfl
 ·rfl
theorem AJ7 (deep:Bool) (t:Ty) (xss:List (List t.T)) (h:Option (Nat×Nat)) (i k sz off bs:Nat) (K:SV->CW->Option α):
  wB AQ deep t xss h i k sz off bs K=(wB AQ deep t xss h i k sz off bs pr).bind (fun q=>K q.1 q.2):=by
 unfold wB
 repeat' split
 all_goals rfl
theorem AJ8 (deep:Bool) (t:TypeId) (x:SV) (bs:Nat) (K:SV->CW->Option α):wC P AQ deep t x bs K=(wC P AQ deep t x bs pr).bind (fun q=>K q.1 q.2):=by
 unfold wC
 repeat' split
 all_goals first|rfl|exact AER _ _ _ _ _ _ _ _ _|exact AJ7 _ _ _ _ _ _ _ _ _ _
theorem AES (t:TypeId) (x v:SV) (K:SV->CW->Option α):mM P AQ t x v K=(mM P AQ t x v pr).bind (fun q=>K q.1 q.2):=by
 unfold mM pW jX yO storeT
 repeat' split
 all_goals rfl
theorem AET (t:TypeId) (AL:Bool) (bs:Nat) (K:SV->CW->Option α):mN P AQ t AL bs K=(mN P AQ t AL bs pr).bind (fun q=>K q.1 q.2):=by
 unfold mN
 repeat' split
 all_goals rfl
theorem ALP (x:SV) (bs:Nat) (K:SV->CW->Option α):AJ6 AQ x bs K=(AJ6 AQ x bs pr).bind (fun q=>K q.1 q.2):=by
 unfold AJ6;split <;> rfl
theorem pC (t:TypeId) (len:Nat) (parts:List (Nat×SV)) (AL:Bool) (bs:Nat) (K:SV->CW->Option α):NT P AQ t len parts AL bs K=(NT P AQ t len parts AL bs pr).bind (fun q=>K q.1 q.2):=by
 unfold NT
 repeat' split
 all_goals rfl
theorem rP (t:TypeId) (l c:SV) (AL:Bool) (bs:Nat) (K:SV->CW->Option α):PQ P AQ t l c AL bs K=(PQ P AQ t l c AL bs pr).bind (fun q=>K q.1 q.2):=by
 unfold PQ
 repeat' split
 all_goals rfl
theorem ABN (ts:List TypeId) (x y:SV) (AL:Bool) (bs:Nat) (K:SV->CW->Option α):dD P AQ ts x y AL bs K=(dD P AQ ts x y AL bs pr).bind (fun q=>K q.1 q.2):=by
 unfold dD
 repeat' split
 all_goals rfl
theorem AJ9 (t:TypeId) (l c:SV) (bs:Nat) (K:SV->CW->Option α):wE P AQ t l c bs K=(wE P AQ t l c bs pr).bind (fun q=>K q.1 q.2):=by
 unfold wE
 repeat' split
 all_goals rfl
theorem AEU (t:TypeId) (len:Nat) (parts:List (Nat×SV)) (bs:Nat) (K:SV->CW->Option α):mP P AQ t len parts bs K=(mP P AQ t len parts bs pr).bind (fun q=>K q.1 q.2):=by
 unfold mP
 repeat' split
 all_goals rfl
theorem ABO (ts:List TypeId) (x y:SV) (bs:Nat) (K:SV->CW->Option α):dC P AQ ts x y bs K=(dC P AQ ts x y bs pr).bind (fun q=>K q.1 q.2):=by
 unfold dC
 repeat' split
 all_goals rfl
theorem AEV (t:TypeId) (len:Nat) (parts:List (Nat×SV)) (bs:Nat) (K:SV->CW->Option α):mO P AQ t len parts bs K=(mO P AQ t len parts bs pr).bind (fun q=>K q.1 q.2):=by
 unfold mO
 repeat' split
 all_goals rfl
theorem ABP (ts:List TypeId) (x y:SV) (AL:Bool) (bs:Nat) (K:SV->CW->Option α):SW P AQ ts x y AL bs K=(SW P AQ ts x y AL bs pr).bind (fun q=>K q.1 q.2):=by
 unfold SW
 repeat' split
 all_goals rfl
theorem ABQ (ρ:Operand->SV) (K:SV->CW->Option α) (op:Op):P3 AQ ρ K op=(P3 AQ ρ pr op).bind (fun q=>K q.1 q.2):=by
 unfold P3 j6
 repeat' split
 all_goals rfl
theorem AEW (t:TypeId) (x:SV) (low high:Option SV) (AL:Bool) (bs:Nat) (K:SV->CW->Option α):mQ P AQ t x low high AL bs K=(mQ P AQ t x low high AL bs pr).bind (fun q=>K q.1 q.2):=by
 unfold mQ
 repeat' split
 all_goals rfl
theorem AEX (t:TypeId) (x i:SV) (K:SV->CW->Option α):mR P AQ t x i K=(mR P AQ t x i pr).bind (fun q=>K q.1 q.2):=by
 unfold mR AU7
 repeat' split
 all_goals rfl
theorem V0 (fi:FnI) (base:Nat) (args:List SV) (K:SV->CW->Option α):nY fi base AQ args K=(nY fi base AQ args pr).bind (fun q=>K q.1 q.2):=by
 unfold nY
 split
 ·rfl
 ·split
  ·rfl
  ·split
   ·rfl
   ·split
    ·rw[Option.bind_assoc];rfl
    ·rfl
theorem AJA (fi:FnI) (base:Nat) (args:List SV) (K:SV->CW->Option α):wA fi base AQ args K=(wA fi base AQ args pr).bind (fun q=>K q.1 q.2):=by
 unfold wA
 split
 ·exact V0 _ _ _ _
 ·split
  ·rw[V0]
   conv=>rhs;arg 1;rw[V0]
   rw[Option.bind_assoc]
   congr 1
   funext q
   split
   ·split <;> rfl
   ·rfl
  ·rfl
theorem AJB (fi:FnI) (base:Nat) (args:List SV) (K:SV->CW->Option α):vV fi base AQ args K=(vV fi base AQ args pr).bind (fun q=>K q.1 q.2):=by
 unfold vV
 split
 ·rfl
 ·split
  ·rfl
  ·split
   ·rfl
   ·split
    ·rw[Option.bind_assoc]
     congr 1
     funext r
     cases YE (fi.rs++fi.os) r with
     |true=>rfl
     |false=>exact V0 _ _ _ _
    ·rfl
theorem AJC (d:Bool) (fi:FnI) (base:Nat) (args:List SV) (K:SV->CW->Option α):AGV d fi base AQ args K=(AGV d fi base AQ args pr).bind (fun q=>K q.1 q.2):=by
 cases d
 ·exact AJA _ _ _ _
 ·exact AJB _ _ _ _
theorem ALQ (dst:Option Tmp) (ρ:Operand->SV) (K:SV->CW->Option α) (op:Op):ABM P cx AQ dst ρ K op=(ABM P cx AQ dst ρ pr op).bind (fun q=>K q.1 q.2):=by
 unfold ABM
 split
 ·split
  ·unfold loadT
   repeat' split
   all_goals rfl
  ·exact AJ8 _ _ _ _ _
 ·exact AES _ _ _ _
 ·exact AET _ _ _ _
 ·exact ALP _ _ _
 ·split
  ·exact AEV _ _ _ _ _
  ·split
   ·exact AEU _ _ _ _ _
   ·exact pC _ _ _ _ _ _
 ·split
  ·exact AJ9 _ _ _ _ _
  ·exact rP _ _ _ _ _ _
 ·exact AEW _ _ _ _ _ _ _
 ·exact AEX _ _ _ _
 ·repeat' split
  all_goals rfl
 ·split
  ·split
   ·split
    ·exact ABO _ _ _ _ _
    ·exact ABP _ _ _ _ _ _
   ·exact ABN _ _ _ _ _ _
  ·rfl
 ·unfold jZ
  split <;> rfl
 ·unfold AGZ
  repeat' split
  all_goals rfl
 ·repeat' split
  all_goals rfl
 ·unfold pX
  repeat' split
  all_goals rfl
 ·unfold pY
  repeat' split
  all_goals rfl
 ·split
  ·split
   ·exact AJC _ _ _ _ _
   ·split
    ·split
     ·rfl
     ·rename_i q v _
      have:=q.d
      by_cases hp:q.p <;> simp [hp,pr]
     ·rfl
    ·rfl
  ·rfl
 ·rfl
theorem j7 (dst:Option Tmp) (ρ:Operand->SV) (K:SV->CW->Option α) (op:Op):core P cx AQ dst ρ K op=(core P cx AQ dst ρ pr op).bind (fun q=>K q.1 q.2):=by
 unfold core
 split
 ·exact ABQ _ _ _
 unfold core0
 simp only[AGX]
 split
 ·rfl
 ·rename_i q v _
  have:=q.d
  by_cases hp:q.p <;> simp [hp,pr]
 ·exact ALQ _ _ _ _
end
end Go.V3
namespace Go.V3
open Go
variable {TB:Tb}
theorem Own.inner {α:Type} {R:α->List Value->Prop} {sz:Nat} {c:DN TB} {G:Nat->Prop} {w:World} {m:Nm} {xs:List α} (h:Own R sz c G w m xs):FF R sz w m xs:=by
 obtain⟨h1,h2,h3⟩:=h
 exact⟨h1,h2,h3.imp id fun ⟨a,_,_,d,e⟩=>⟨a,d,e⟩⟩
def mS (m:Nm) (l:List Nat):List Nat:=if m.nil=true then l else m.B5::l
theorem K6 {m:Nm} {l:List Nat} {b:Nat}:b∈mS m l↔b∈l\/(m.nil=false/\b=m.B5):=by
 unfold mS
 cases hm:m.nil with
 |true=>simp
 |false=>simp [or_comm]
section
variable {P:Program} {L:AJ}
theorem FB.put {c:DN TB} {G:Nat->Prop} {w w' :World} {E E' :Env} {L' :AJ} {m:Nm} {l:List Nat} {t:Ty} {xss:List (List t.T)} {h:Option (Nat×Nat)} (d:FB c G w E L m l t xss h)
  {k:Nat} (hh:∀ k' j',h=some (k',j')->k' =k) (hk:k<xss.length) {nb:Nm} {ys:List t.T} (ND:FF (Rp G w t) t.sz w nb ys)
  (hnb:nb.nil=false->nb.B5∉l/\¬G nb.B5/\¬c.Old nb.B5) (hw:∀ b,b≠m.B5->w'.heap[b]? =w.heap[b]?)
  (AU9:∀ arr ty,m.nil=false->w.heap[m.B5]? =some (.cells arr ty (0,0))->k<arr.size->∃ ty',w'.heap[m.B5]? =some (.cells (arr.setIfInBounds k (.slice nb.ad nb.len nb.cap)) ty' (0,0))):
  FB c G w' E' L' m (mS nb l) t (xss.set k ys) none:=by
 obtain⟨d1,d2,d3,d4,d5⟩:=d
 rcases d5 with ⟨h1,h2,h3⟩|⟨h1,h2,h3,arr,ty,hs,h4,h5,h6,h7,h8,h9⟩
 ·rw[h2] at hk;simp at hk
 obtain⟨ty',k4⟩:=AU9 arr ty h1 h4 (by omega)
 have hG:∀ b,G b->w'.heap[b]? =w.heap[b]? :=fun b hb=>hw b (fun he=>(d4 _ h2).1 (he ▸ hb))
 have hrp:∀ (x:t.T) (vs:List Value),Rp G w t x vs->Rp G w' t x vs:=fun x vs hx=>Rp.mono hG (fun _ h=>h) t x vs hx
 have CJ:nb.nil=false->nb.B5≠m.B5:=fun hn he=>(hnb hn).1 (he ▸ h2)
 have H8:(mS nb l).Nodup:=by
  unfold mS
  split
  ·exact d3
  ·rename_i hn
   exact T_.2 ⟨(hnb (by simpa using hn)).1,d3⟩
 have K7:∀ k',k' ≠k->∀ j,h≠some (k',j):=fun k' HK j he=>HK (hh k' j he)
 refine⟨by rw[ER];exact d1,d2,H8, ?_,.inr ⟨h1,K6.2 (.inl h2),by rw[ER];exact h3,_,ty',fun k' =>if k' =k then nb else hs k',k4,by rw[Array.size_setIfInBounds];exact h5, ?_, ?_, ?_, ?_⟩⟩
 ·intro b hb
  rcases K6.1 hb with hb|⟨hn,rfl⟩
  ·obtain⟨q1,q2,q3⟩:=d4 b hb
   refine⟨q1,q2, ?_⟩
   by_cases hbm:b=m.B5
   ·subst hbm;exact⟨_,_,_,k4⟩
   ·rw[hw b hbm];exact q3
  ·obtain⟨q1,q2,q3⟩:=hnb hn
   refine⟨q2,q3, ?_⟩
   obtain⟨p1,p2,p3⟩:=ND
   rcases p3 with ⟨p4,_⟩|⟨_,_,W3,A1G,p6,_⟩
   ·rw[hn] at p4;cases p4
   ·rw[hw _ (CJ hn)];exact⟨_,_,_,p6⟩
 ·intro k' MC
  rw[ER] at MC
  dsimp only
  rw[AAU]
  by_cases HK:k' =k
  ·subst HK
   rw[AA rfl,AA (by omega),AA rfl]
  ·rw[AB (fun he=>HK he.symm),AB HK]
   exact h6 k' MC
 ·intro k' xs MC _
  rw[qW] at MC
  dsimp only
  by_cases HK:k' =k
  ·subst HK
   rw[AA rfl,AA hk] at MC
   simp only[AY] at MC;subst MC
   rw[AA rfl]
   exact⟨ND.mono hrp (fun hn=>hw _ (CJ hn)),fun hn=>⟨K6.2 (.inr ⟨hn,rfl⟩),CJ hn⟩⟩
  ·rw[AB (fun he=>HK he.symm)] at MC
   rw[AB HK]
   obtain⟨q1,q2⟩:=h7 k' xs MC (K7 k' HK)
   exact⟨q1.mono hrp (fun hn=>hw _ (q2 hn).2),fun hn=>⟨K6.2 (.inl (q2 hn).1),(q2 hn).2⟩⟩
 ·intro a b ha hb wF _ _ hna AEY
  rw[ER] at ha hb
  dsimp only at hna AEY ⊢
  have key:∀ k',k' <xss.length->k' ≠k->(hs k').nil=false->(hs k').B5∈l:=fun k' MC HK hn=>((h7 k' _ (NB MC) (K7 k' HK)).2 hn).1
  by_cases hak:a=k
  ·have hbk:b≠k:=fun he=>wF (hak.trans he.symm)
   rw[AA hak] at hna
   rw[AB hbk] at AEY
   rw[AA hak,AB hbk]
   intro he
   exact (hnb hna).1 (he ▸ key b hb hbk AEY)
  ·rw[AB hak] at hna
   rw[AB hak]
   by_cases hbk:b=k
   ·rw[AA hbk] at AEY
    rw[AA hbk]
    intro he
    exact (hnb AEY).1 (he ▸ key a ha hak hna)
   ·rw[AB hbk] at AEY
    rw[AB hbk]
    exact h8 a b ha hb wF (K7 a hak) (K7 b hbk) hna AEY
 ·intro k' j he;cases he
theorem AS.AWZ {c:DN TB} {G:Nat->Prop} {w w' :World} {E:Env} (hH:AS c G w E L) {i j k:Nat} {t:Ty} {xss:List (List t.T)} {ys:List t.T} {h:Option (Nat×Nat)} (hi:look L i=some (.deep t xss h)) (hj:look L j=some (.row t ys))
  (hh:∀ k' j',h=some (k',j')->k' =k) (hk:k<xss.length) (hr:Rest w w') (hs:w'.heap.size=w.heap.size) (hw:∀ b,b≠(E.nm i).B5->w'.heap[b]? =w.heap[b]?)
  (AU9:∀ arr ty,(E.nm i).nil=false->w.heap[(E.nm i).B5]? =some (.cells arr ty (0,0))->k<arr.size->∃ ty',w'.heap[(E.nm i).B5]? =some (.cells (arr.setIfInBounds k (.slice (E.nm j).ad (E.nm j).len (E.nm j).cap)) ty' (0,0))):
  AS c G w' (E.RQ i (E.nm i) (mS (E.nm j) (E.ins.l i))) (AI L [(j,.dead),(i,.deep t (xss.set k ys) none)]):=by
 have jD:i≠j:=by
  rintro rfl;rw[hi] at hj;cases hj
 have V1:=hH.kill (AP hj)
 have B4:=fun n=>AZ (q:=(j,AW.dead)) (AP hj) n
 have hi1:look (C5 L (j,.dead)) i=some (.deep t xss h):=by rw[B4,AB jD];exact hi
 have hd:=hH.dp i t xss h hi
 have CO:=hH.KY j _ hj
 have hjb:∀ b,((E.nm j).nil=false/\b=(E.nm j).B5)->(AW.row t ys).ow E j b:=by
  rintro b ⟨hn,rfl⟩
  exact .inl (by simp [AW.own,hn])
 have hnb:(E.nm j).nil=false->(E.nm j).B5∉E.ins.l i/\¬G (E.nm j).B5/\¬c.Old (E.nm j).B5:=by
  intro hn
  have h1:=hjb _ ⟨hn,rfl⟩
  have h2:=hH.O3 hj h1
  exact⟨fun hx=>hH.inj i j _ _ _ jD hi hj (AW.FE.2 hx) h1,h2.1,h2.2.1⟩
 have ALR:FB c G w' (E.RQ i (E.nm i) (mS (E.nm j) (E.ins.l i))) (C5 (C5 L (j,.dead)) (i,.deep t (xss.set k ys) none)) (E.nm i) (mS (E.nm j) (E.ins.l i)) t (xss.set k ys) none:=
  hd.put hh hk CO.inner hnb hw AU9
 have dT:∀ b,(AW.deep t (xss.set k ys) none).ow (E.RQ i (E.nm i) (mS (E.nm j) (E.ins.l i))) i b↔b∈mS (E.nm j) (E.ins.l i):=by
  intro b
  rw[AW.FE,(E.EI _ _ _).2]
 have hmi:∀ b,b<w.heap.size->b∉mS (E.nm j) (E.ins.l i)->w'.heap[b]? =w.heap[b]? :=by
  intro b hb hn
  refine hw b (fun he=> ?_)
  rcases hd.cs with ⟨h1,h2,_⟩|⟨_,h2,_⟩
  ·rw[h2] at hk;simp at hk
  ·exact hn (K6.2 (.inl (he ▸ h2)))
 exact V1.SQ (AP hi1) hr (by omega) (fun _=>(E.EI _ _ _).1) (fun k hk=>E.L4 _ _ hk) rfl (fun b hb hn=>hmi b hb (fun hx=>hn ((dT b).2 hx)))
  (fun b hb=>by
   rcases K6.1 ((dT b).1 hb) with hx|hx
   ·have:=hH.O3 hi (AW.FE.2 hx);exact⟨this.2.1,this.1⟩
   ·have:=hH.O3 hj (hjb b hx);exact⟨this.2.1,this.1⟩)
  (fun k f hk hf b hb he=>by
   rw[B4] at hf
   by_cases hkj:k=j
   ·subst hkj
    simp only[GA,AY] at hf;subst hf
    rcases hb with hb|⟨hb,_⟩|⟨hb,_⟩ <;> cases hb
   ·rw[AB hkj] at hf
    rcases K6.1 ((dT b).1 he) with hx|hx
    ·exact hH.inj k i f _ b hk hf hi hb (AW.FE.2 hx)
    ·exact hH.inj k j f _ b hkj hf hj hb (hjb b hx))
  trivial
  (fun t' xs' q he=>by
   cases he
   rw[(E.EI _ _ _).1,(E.EI _ _ _).2]
   exact ALR)
theorem dE {AQ:Nat->Option AW} (B4:∀ n e,AQ n=some e->look L n=some e) {c:DN TB} {G:Nat->Prop} {w:World} {E:Env} (hH:AS c G w E L) {i:Nat} {t:Ty} {xss ys:List (List t.T)} {h:Option (Nat×Nat)} {u:CW} (hi:AQ i=some (.deep t xss h))
  (hc:mL AQ i t xss h=some (ys,u)):∃ E',AS c G w E' (AI L u)/\(∀ n,E'.nm n=E.nm n)/\E'.ds=E.ds/\look (AI L u) i=some (.deep t ys none)/\(∀ n,Al L n->Al (AI L u) n)/\(∀ n,look L n=some .KI->look (AI L u) n=some .KI)/\ys.length=xss.length:=by
 have J_ :=B4 _ _ hi
 unfold mL at hc
 split at hc
 ·simp only[AY,C3] at hc
  obtain⟨rfl,rfl⟩:=hc
  exact⟨E,hH,fun _=>rfl,rfl,J_,fun _ h=>h,fun _ h=>h,rfl⟩
 ·rename_i k j
  split at hc
  rotate_left
  ·cases hc
  rename_i t' zs hl
  split at hc
  rotate_left
  ·cases hc
  rename_i he
  subst he
  simp only[AY,C3] at hc
  obtain⟨rfl,rfl⟩:=hc
  have hj:=B4 _ _ hl
  have hd:=hH.dp i _ xss _ J_
  have jD:i≠j:=by
   rintro rfl;rw[J_] at hj;cases hj
  have fin:∀ l' :List Nat,AS c G w (E.RQ i (E.nm i) l') (AI L [(j,.dead),(i,.deep t' (xss.set k zs) none)])->∃ E',AS c G w E' (AI L [(j,.dead),(i,.deep t' (xss.set k (GU rfl zs)) none)])/\(∀ n,E'.nm n=E.nm n)/\E'.ds=E.ds/\look (AI L [(j,.dead),(i,.deep t' (xss.set k (GU rfl zs)) none)]) i=some (.deep t' (xss.set k (GU rfl zs)) none)/\(∀ n,Al L n->Al (AI L [(j,.dead),(i,.deep t' (xss.set k (GU rfl zs)) none)]) n)/\(∀ n,look L n=some .KI->look (AI L [(j,.dead),(i,.deep t' (xss.set k (GU rfl zs)) none)]) n=some .KI)/\(xss.set k (GU rfl zs)).length=xss.length:=by
   intro l' h1
   have AQC:=fun n=>AZ (q:=(j,AW.dead)) (AP hj) n
   have hi1:look (C5 L (j,.dead)) i=some (.deep t' xss (some (k,j))):=by rw[AQC,AB jD];exact J_
   have AX0:=fun n=>AZ (q:=(i,AW.deep t' (xss.set k zs) none)) (AP hi1) n
   refine⟨_,h1,fun n=> ?_,rfl, ?_,fun n hn=> ?_,fun n hn=> ?_,by simp⟩
   ·by_cases hn:n=i
    ·subst hn;exact (E.EI _ _ _).1
    ·exact (E.L4 _ _ hn).1
   ·exact (AX0 i).trans (AA rfl)
   ·exact BM rfl n (BM rfl n hn)
   ·show look (C5 (C5 L (j,.dead)) _) n=_
    have h1:n≠i:=by rintro rfl;rw[J_] at hn;cases hn
    have h2:n≠j:=by rintro rfl;rw[hj] at hn;cases hn
    exact ((AX0 n).trans (AB h1)).trans (((AQC n).trans (AB h2)).trans hn)
  by_cases hk:k<xss.length
  ·refine fin _ (hH.AWZ J_ hj (fun k' j' he=>by cases he;rfl) hk (.refl _) rfl (fun _ _=>rfl) (fun arr ty hn ha hka=>⟨ty, ?_⟩))
   rcases hd.cs with ⟨h1,_⟩|⟨h1,h2,h3,W3,ty',hs,h4,h5,h6,h7,h8,h9⟩
   ·rw[hn] at h1;cases h1
   rw[h4] at ha
   simp only[AY,Obj.cells.injEq] at ha
   obtain⟨rfl,rfl,_⟩:=ha
   have hx:=h6 k hk
   rw[(h9 k j rfl hk).1] at hx
   rw[h4]
   congr 2
   apply Array.ext_getElem?
   intro q
   rw[AAU]
   split
   ·rename_i hq;subst hq;first|exact hx|(rw[AA hka];exact hx)
   ·rfl
  ·
   have V1:=hH.kill (AP hj)
   have AQC:=fun n=>AZ (q:=(j,AW.dead)) (AP hj) n
   have hi1:look (C5 L (j,.dead)) i=some (.deep t' xss (some (k,j))):=by rw[AQC,AB jD];exact J_
   have UD:xss.set k zs=xss:=List.set_eq_of_length_le (by omega)
   refine fin (E.ins.l i) ?_
   rw[UD]
   have dT:∀ b,(AW.deep t' xss none).ow (E.RQ i (E.nm i) (E.ins.l i)) i b↔b∈E.ins.l i:=fun b=>by rw[AW.FE,(E.EI _ _ _).2]
   refine V1.SQ (AP hi1) (.refl _) (ED _) (fun _=>(E.EI _ _ _).1) (fun k hk=>E.L4 _ _ hk) rfl (fun _ _ _=>rfl)
    (fun b hb=>by have:=hH.O3 J_ (AW.FE.2 ((dT b).1 hb));exact⟨this.2.1,this.1⟩)
    (fun n f hn hf b hb he=>V1.inj n i f _ b hn hf hi1 hb (AW.FE.2 ((dT b).1 he))) trivial ?_
   intro t'' xs' q he
   cases he
   rw[(E.EI _ _ _).1,(E.EI _ _ _).2]
   obtain⟨d1,d2,d3,d4,d5⟩:=hd
   refine⟨d1,d2,d3,d4,d5.imp id ?_⟩
   rintro⟨h1,h2,h3,W3,ty',hs,h4,h5,h6,h7,h8,h9⟩
   have K7:∀ k',k' <xss.length->∀ j',some (k,j)≠some (k',j'):=fun k' MC j' he=>by
    simp only[AY,C3] at he;omega
   refine⟨h1,h2,h3,W3,ty',hs,h4,h5,h6,fun k' xs MC _=> ?_,fun a b ha hb wF _ _=>h8 a b ha hb wF (K7 a ha) (K7 b hb),fun k' j' he=>by cases he⟩
   have C7:k' <xss.length:=by
    rcases GY k' xss.length with h' |h'
    ·exact h'
    ·rw[SO h'] at MC;cases MC
   exact h7 k' xs MC (K7 k' C7)
theorem AS.ASR {c:DN TB} {G:Nat->Prop} {w:World} {E:Env} (hH:AS c G w E L) {i k bs:Nat} {t:Ty} {xss:List (List t.T)} (hi:look L i=some (.deep t xss none)) (hb:look L bs=some .KI) (hn:(E.nm i).nil=false) (hk:k<xss.length):
  ∃ E',AS c G w E' (AI L [(bs,.dead),(i,.deep t xss (some (k,bs))),(bs,.row t (xss.getD k []))])/\(∀ n,n≠bs->E'.nm n=E.nm n)/\E'.ds=E.ds∧
   ∃ arr ty,w.heap[(E.nm i).B5]? =some (.cells arr ty (0,0))/\arr[k]? =some (.slice (E'.nm bs).ad (E'.nm bs).len (E'.nm bs).cap):=by
 have hib:i≠bs:=by rintro rfl;rw[hi] at hb;cases hb
 have hd:=hH.dp i _ xss _ hi
 obtain⟨d1,d2,d3,d4,d5⟩:=hd
 rcases d5 with ⟨h1,_⟩|⟨h1,h2,h3,arr,ty,hs,h4,h5,h6,h7,h8,h9⟩
 ·rw[hn] at h1;cases h1
 have K7:∀ k' j,(none:Option (Nat×Nat))≠some (k',j):=fun _ _ he=>by cases he
 have s1:=hH.change (i:=bs) (e' := .dead) (m:=hs k) (w' :=w) (AP hb) (.refl _) (ED _) (fun hx=>absurd hx (EF hb)) rfl (fun _ _ _=>rfl) (fun b hb=>by cases hb) (fun _ _ _ _ _ _ hb=>by cases hb) (fun _=>trivial)
 have hl1:=fun n=>AZ (q:=(bs,AW.dead)) (AP hb) n
 have hi1:look (C5 L (bs,.dead)) i=some (.deep t xss none):=by rw[hl1,AB hib];exact hi
 have AJ2:Al (C5 L (bs,.dead)) bs:=⟨.dead,by rw[hl1,AA rfl],rfl⟩
 let l' :List Nat:=if (hs k).nil=true then E.ins.l i else (E.ins.l i).erase (hs k).B5
 have JB:∀ b∈l',b∈E.ins.l i:=by
  intro b hb
  show b∈E.ins.l i
  simp only[l'] at hb
  split at hb
  ·exact hb
  ·exact List.mem_of_mem_erase hb
 have Z3:∀ b∈E.ins.l i,((hs k).nil=false->b≠(hs k).B5)->b∈l' :=by
  intro b hb CJ
  simp only[l']
  split
  ·exact hb
  ·rename_i hx
   exact (List.mem_erase_of_ne (CJ (by simpa using hx))).2 hb
 have ALS:(hs k).nil=false->(hs k).B5∉l' :=by
  intro hx hm
  simp only[l',hx,T8,I9] at hm
  exact (d3.mem_erase_iff.1 hm).1 rfl
 obtain⟨ND,AQD⟩:=h7 k _ (NB hk) (K7 k)
 have hEi:(E.set bs (hs k)).nm i=E.nm i:=E.GO _ hib
 let E2:Env:=(E.set bs (hs k)).RQ i (E.nm i) l'
 have hE2:∀ n,n≠bs->E2.nm n=E.nm n:=by
  intro n hnb
  by_cases RR:n=i
  ·subst RR;exact (Env.EI _ _ _ _).1
  ·exact ((Env.L4 _ _ _ RR).1).trans (E.GO _ hnb)
 have AQE:E2.nm bs=hs k:=((Env.L4 _ _ _ (fun he=>hib he.symm)).1).trans (E.EE _ _)
 have AX1:E2.ins.l i=l' :=(Env.EI _ _ _ _).2
 have AX2:E2.nm i=E.nm i:=(Env.EI _ _ _ _).1
 have dT:∀ b,(AW.deep t xss (some (k,bs))).ow E2 i b↔b∈l' :=fun b=>by rw[AW.FE,AX1]
 have ALR:FB c G w E2 (C5 (C5 L (bs,.dead)) (i,.deep t xss (some (k,bs)))) (E2.nm i) (E2.ins.l i) t xss (some (k,bs)):=by
  rw[AX2,AX1]
  refine⟨d1,d2, ?_,fun b hb=>d4 b (JB b hb),.inr ⟨h1,Z3 _ h2 (fun hx he=>(AQD hx).2 he.symm),h3,arr,ty,hs,h4,h5,h6, ?_, ?_, ?_⟩⟩
  ·simp only[l']
   split
   ·exact d3
   ·exact d3.erase _
  ·intro k' xs MC hj
   have HK:k' ≠k:=by rintro rfl;exact hj bs rfl
   have C7:k' <xss.length:=by
    rcases GY k' xss.length with h' |h'
    ·exact h'
    ·rw[SO h'] at MC;cases MC
   obtain⟨q1,q2⟩:=h7 k' xs MC (K7 k')
   exact⟨q1,fun hx=>⟨Z3 _ (q2 hx).1 (fun hy=>h8 k' k C7 hk HK (K7 _) (K7 _) hx hy),(q2 hx).2⟩⟩
  ·intro a b ha hb wF _ _
   exact h8 a b ha hb wF (K7 _) (K7 _)
  ·intro k' j he _
   simp only[AY,C3] at he
   obtain⟨rfl,rfl⟩:=he
   exact⟨AQE.symm,BM rfl _ AJ2⟩
 have s2:AS c G w E2 (C5 (C5 L (bs,.dead)) (i,.deep t xss (some (k,bs)))):=by
  refine s1.SQ (AP hi1) (.refl _) (ED _) (fun _=>by rw[AX2,hEi]) (fun n RR=>Env.L4 _ _ _ RR) rfl (fun _ _ _=>rfl)
   (fun b hb=>by have:=d4 b (JB b ((dT b).1 hb));exact⟨this.2.1,this.1⟩)
   (fun n f RR hf b hb he=>s1.inj n i f _ b RR hf hi1 hb (AW.FE.2 (JB b ((dT b).1 he)))) trivial ?_
  intro t'' xs' q he
  cases he
  exact ALR
 have mH:=fun n=>AZ (q:=(i,AW.deep t xss (some (k,bs)))) (AP hi1) n
 have uK:look (C5 (C5 L (bs,.dead)) (i,.deep t xss (some (k,bs)))) bs=some .dead:=by rw[mH,AB (fun he=>hib he.symm),hl1,AA rfl]
 have hi2:look (C5 (C5 L (bs,.dead)) (i,.deep t xss (some (k,bs)))) i=some (.deep t xss (some (k,bs))):=by rw[mH,AA rfl]
 have UD:E2.set bs (hs k)=E2:=by
  refine KL (fun n=> ?_) rfl (fun _=>rfl)
  by_cases hnb:n=bs
  ·subst hnb;rw[Env.EE,AQE]
  ·exact Env.GO _ _ hnb
 have hgk:xss.getD k []=xss[k]:=by simp [List.getD,NB hk]
 have s3:=s2.change (i:=bs) (e' := .row t (xss.getD k [])) (m:=hs k) (w' :=w) (AP uK) (.refl _) (ED _) (fun _=>AQE.symm) rfl (fun _ _ _=>rfl)
  (fun b hb=>by
   simp only[AW.own] at hb
   split at hb
   ·cases hb
   ·rename_i hx
    simp only[AY] at hb;subst hb
    have:=d4 _ (AQD (by simpa using hx)).1
    exact⟨this.2.1,this.1⟩)
  (fun n f hnb hf b hb he=>by
   simp only[AW.own] at he
   split at he
   ·cases he
   rename_i hx
   have hx:(hs k).nil=false:=by simpa using hx
   simp only[AY] at he;subst he
   by_cases RR:n=i
   ·subst RR
    rw[hi2] at hf
    simp only[AY] at hf;subst hf
    exact ALS hx ((dT _).1 hb)
   ·rw[mH,AB RR,hl1,AB hnb] at hf
    have RZ :f.ow E n (hs k).B5:=by
     refine (AW.cW ?_).1 hb
     exact⟨hE2 n hnb,(Env.L4 _ _ _ RR).2⟩
    exact hH.inj n i f _ _ RR hf hi RZ (AW.FE.2 (AQD hx).1))
  (fun _=>by
   rw[hgk]
   obtain⟨p1,p2,p3⟩:=ND
   refine⟨p1,p2,p3.imp id ?_⟩
   rintro⟨p4,p5,p6⟩
   have:=d4 _ (AQD p4).1
   exact⟨p4,this.1,this.2.1,p5,p6⟩)
 rw[UD] at s3
 exact⟨E2,s3,hE2,rfl,arr,ty,h4,by rw[AQE];exact h6 k hk⟩
end
end Go.V3
namespace Go.V3
open Go
variable {TB:Tb}
def EJ (TB:Tb) (P:Program) (o:Oper) (ρ:Operand->SV) (L:AJ) (v:SV) (C2:CW):Prop:=
 ∀ (c:DN TB) (w:World) (E:Env),Hd c w E L->(∀ x,(ρ x).wf E L)->∀ (a:Act) (next:Act->World->Prop) (Q:Exit->Act->World->Prop),execOp a.eval o=execOp (fun x=>(ρ x).den E) o→
  (∀ E' w',Hd c w' E' (AI L C2)->(∀ n,Al L n->E'.nm n=E.nm n/\Al (AI L C2) n)->E'.ds=E.ds->v.wf E' (AI L C2)->next (a.put o.dst (v.den E')) w')->o.wp P a w next Q
theorem BI {P:Program} {o:Oper} {ρ:Operand->SV} {L:AJ} {v:SV} {C2:CW}
  (h:∀ (c:DN TB) (w:World) (E:Env),Hd c w E L->(∀ x,(ρ x).wf E L)->∃ (w' :World) (E' :Env) (nx:Next),(execOp (fun x=>(ρ x).den E) o).run P w= .ok nx w' /\(nx= .value (v.den E')\/(nx= .skip/\v=AV))∧
   Hd c w' E' (AI L C2)/\(∀ n,Al L n->E'.nm n=E.nm n/\Al (AI L C2) n)/\E'.ds=E.ds/\v.wf E' (AI L C2)):EJ TB P o ρ L v C2:=by
 intro c w E hh hw a next Q ha hn
 obtain⟨w',E',nx,h1,h2,h3,h4,h5,h6⟩:=h c w E hh hw
 show o.upon P a next Q ((execOp a.eval o).run P w)
 rw[ha,h1]
 rcases h2 with rfl|⟨rfl,rfl⟩
 ·exact hn E' w' h3 h4 h5 h6
 ·exact hn E' w' h3 h4 h5 h6
section
variable {P:Program} {AQ:Nat->Option AW} {L:AJ}
theorem Z_ (E:Env) (cs:List SV) (off n:Nat):AK E ((cs.drop off).take n)=BH (AK E cs).toArray off n:=by
 unfold BH
 simp [EW,List.map_take,List.map_drop]
theorem U_ {E:Env} {cs:List SV} (h:KJ E L cs) (off n:Nat):KJ E L ((cs.drop off).take n):=
 BP.2 fun v hv=>BP.1 h v (vK (vJ hv))
theorem j8 {w:World} {b off:Nat} {t:TypeId} {q:TypeInfo} {d:TypeDesc} {arr:Array Value} {ty:TypeId} {fz:Nat×Nat} (hq:P.info? t=some q) (hd:P.underlying t=some d) (ha:HY P t=true)
  (h:w.heap[b]? =some (.cells arr ty fz)) (hn:off+q.size<=arr.size):(Instr.loadAt t (.pointer (some ⟨b,off,none⟩))).run P w= .ok (.agg (BH arr off q.size).toArray) w:=by
 have:=run_loadCells (P:=P) w h hn
 simp [Instr.loadAt,Instr.sureAddr,loadVar,NK w hd,ha,sizeOf,typeInfo,hq,this]
theorem JD {w:World} {b off:Nat} {t:TypeId} {d:TypeDesc} {arr:Array Value} {ty:TypeId} {fz:Nat×Nat} {x:Value} (hd:P.underlying t=some d) (ha:HY P t=false)
  (h:w.heap[b]? =some (.cells arr ty fz)) (hx:arr[off]? =some x):(Instr.loadAt t (.pointer (some ⟨b,off,none⟩))).run P w= .ok x w:=by
 have:w.cell? ⟨b,off,none⟩=some x:=by simp [World.cell?,h,hx]
 simp [Instr.loadAt,Instr.sureAddr,loadVar,NK w hd,ha,this]
theorem Nm.rQ (m:Nm) (l:List Value):(m.arr l).size=m.pp.pre.length+l.length+m.pp.post.length:=by simp [Nm.arr];omega
theorem Nm.AH1 {m:Nm} (l:List Value) (h1:m.pp.pre=[]) (h2:m.pp.post=[]):m.arr l=l.toArray:=by simp [Nm.arr,h1,h2]
theorem Nm.yP (m:Nm) {l:List Value} {k:Nat} (hk:k<l.length):(m.arr l)[m.pp.pre.length+k]? =l[k]? :=by
 simp only[Nm.arr,qR]
 rw[I6,T5 (by omega),T6 (by omega)]
 congr 1;omega
theorem Nm.wG (m:Nm) {l:List Value} {off n:Nat} (h:off+n<=l.length):BH (m.arr l) (m.pp.pre.length+off) n=BH l.toArray off n:=by
 apply T9
 intro i
 unfold BH
 rw[jG,jG]
 split
 ·rename_i hi
  have h1:=m.yP (l:=l) (k:=off+i) (by omega)
  rw[ZQ,ZQ]
  rw[<-NI] at h1
  simpa using h1
 ·rfl
theorem Nm.AQF (m:Nm) {l:List Value} {k:Nat} (hk:k<l.length) (v:Value):(m.arr l).setIfInBounds (m.pp.pre.length+k) v=m.arr (l.set k v):=by
 simp only[Nm.arr,List.setIfInBounds_toArray]
 rw[I6,List.set_append_right _ _ (by omega),List.set_append_left _ _ (by omega),I6]
 congr 4;omega
theorem AUA {a:Ty} {xs:List a.T} {k:Nat} (h:k<xs.length):xs[k]? =some (gd a xs k):=by
 rw[gd,NB h]
 simp [List.getD,NB h]
theorem ABR (arr:Array Value) (p sz off n:Nat) (h:off+n<=sz):((BH arr p sz).drop off).take n=BH arr (p+off) n:=by
 apply T9
 intro j
 rw[jG,B9]
 split
 ·rw[ZQ,B9,AA (by omega),NI]
 ·rfl
theorem n8 {arr:Array Value} {p n:Nat} (h:(BH arr p n).length=n) (hn:0<n):p+n<=arr.size:=by
 unfold BH at h
 simp at h
 omega
theorem AH2 {c:DN TB} {G:Nat->Prop} {w:World} {E:Env} (hG:AS c G w E L) {i k:Nat} {a:Ty} {xs:List a.T} (hl:look L i=some (.row a xs)\/look L i=some (.shr a xs)) (hk:k<(E.nm i).len) (hn:(E.nm i).nil=false):
  k<xs.length/\∃ arr ty fz,w.heap[(E.nm i).B5]? =some (.cells arr ty fz)/\Rp G w a (gd a xs k) (BH arr ((E.nm i).off+k*a.sz) a.sz)/\(E.nm i).off+k*a.sz+a.sz<=arr.size:=by
 have fin:∀ (arr:Array Value) (ty:TypeId) (fz:Nat×Nat),k<xs.length->w.heap[(E.nm i).B5]? =some (.cells arr ty fz)->RowsIn (Rp G w a) a.sz arr (E.nm i).off xs→
   k<xs.length/\∃ arr ty fz,w.heap[(E.nm i).B5]? =some (.cells arr ty fz)/\Rp G w a (gd a xs k) (BH arr ((E.nm i).off+k*a.sz) a.sz)/\(E.nm i).off+k*a.sz+a.sz<=arr.size:=by
  intro arr ty fz jE h1 h2
  have h3:=h2 k _ (AUA jE)
  exact⟨jE,arr,ty,fz,h1,h3,n8 h3.length (AEI a)⟩
 rcases hl with hl|hl
 ·obtain⟨h1,h2,h3⟩:=hG.KY i _ hl
  rcases h3 with ⟨h4,_⟩|⟨_,_,_,_,arr,ty,h5,_,h6⟩
  ·rw[hn] at h4;cases h4
  ·exact fin arr ty _ (by omega) h5 h6
 ·obtain⟨h1,_,h3⟩:=hG.KY i _ hl
  rcases h3 with rfl|⟨_,_,arr,ty,fz,h5,h6⟩
  ·simp at h1;omega
  ·exact fin arr ty fz (by omega) h5 h6
theorem wH {o:Oper} {ρ:Operand->SV} {t:TypeId} {x:Operand} (EB:o.op= .load t x) {q:TypeInfo} {d:TypeDesc} (hq:P.info? t=some q) (hd:P.underlying t=some d) {i k sz off bs:Nat} (hx:ρ x= .el i k sz off)
  {a:Ty} {xs:List a.T} (hl:look L i=some (.row a xs)\/look L i=some (.shr a xs)) (B4:∀ n e,AQ n=some e->look L n=some e) {v:SV} {C2:CW}
  (h:gZ AQ (HY P t) q.size a xs k sz off bs pr=some (v,C2)):EJ TB P o ρ L v C2:=by
 unfold gZ at h
 split at h
 rotate_left
 ·cases h
 rename_i hc
 obtain⟨rfl,YO,DC⟩:=hc
 refine BI fun c w E hh hw=> ?_
 obtain⟨G,hG⟩:=hh
 have UO:=hw x
 rw[hx] at UO
 obtain⟨NS,hk,hn⟩:=UO
 obtain⟨jE,arr,ty,fz,h1,h2,h3⟩:=AH2 hG hl hk hn
 obtain⟨ms,h4,h5⟩:=h2.out
 have v_:=fun j hj=>B4 _ _ (CM DC j hj)
 obtain⟨k1,k2⟩:=hG.jQ (BY false a (gd a xs k)) (n:=bs) (ms:=ms) (fun j hj=>v_ j (by rw[A_] at hj;exact hj)) (by
   intro j e he
   have:=h5 j e he
   cases e <;> first|exact this|exact this.elim)
  (by rw[cX];simp) (by rw[cX];simp)
 rw[A_] at k1 k2
 have hnm:∀ n,Al L n->(E.put bs a.GN ms).nm n=E.nm n/\Al (AI L (CK bs (BY false a (gd a xs k)))) n:=by
  intro n hn
  have hb:¬(bs<=n/\n<bs+a.GN):=by
   intro hx
   have:=v_ (n-bs) (by omega)
   have e:bs+(n-bs)=n:=by omega
   rw[e] at this
   exact EF this hn
  refine⟨Env.UM _ _ _ _ (by omega), ?_⟩
  obtain⟨e,rJ,he2⟩:=hn
  exact⟨e,by rw[k2,AB hb];exact rJ,he2⟩
 have nW:KJ (E.put bs a.GN ms) (AI L (CK bs (BY false a (gd a xs k)))) (HH a (gd a xs k) bs):=by
  refine rI _ _ _ fun j hj=> ?_
  have C7:j<(BY false a (gd a xs k)).length:=by rw[A_];exact hj
  refine⟨(BY false a (gd a xs k))[j], ?_,VP (NB C7)⟩
  rw[k2,AA ⟨by omega,by omega⟩]
  have e:bs+j-bs=j:=by omega
  rw[e,NB C7]
 have gY:AK (E.put bs a.GN ms) (HH a (gd a xs k) bs)=BH arr ((E.nm i).off+k*a.sz) a.sz:=by
  rw[h4,UL]
  exact GZ _ _ fun j hj=>Env.gV _ _ _ _ hj
 have ASS:(E.nm i).off+(k*a.sz+off)=(E.nm i).off+k*a.sz+off:=by omega
 split at h
 ·rename_i V2
  simp only[pr,AY,C3] at h
  obtain⟨rfl,rfl⟩:=h
  refine⟨w,E.put bs a.GN ms,_, ?_,.inl rfl,⟨G,k1⟩,hnm,rfl,U_ nW _ _⟩
  simp only[execOp,EB,hx,SV.den]
  refine CL ?_
  rw[ASS,j8 hq hd V2 h1 (by omega),Z_,gY]
  rw[<-ABR arr _ a.sz off q.size YO]
  unfold BH
  simp
 ·rename_i V2
  split at h
  ·rename_i u hu
   simp only[pr,AY,C3] at h
   obtain⟨rfl,rfl⟩:=h
   refine⟨w,E.put bs a.GN ms,_, ?_,.inl rfl,⟨G,k1⟩,hnm,rfl,BP.1 nW u (YL hu)⟩
   simp only[execOp,EB,hx,SV.den]
   refine CL ?_
   have C7:off<a.sz:=by
    rcases GY off (HH a (gd a xs k) bs).length with h' |h'
    ·rwa [EL] at h'
    ·rw[SO h'] at hu;cases hu
   have QA:arr[(E.nm i).off+k*a.sz+off]? =some (u.den (E.put bs a.GN ms)):=by
    have:=N5 (fun l=>l[off]?) gY
    simp only[FJ,hu,ZT,B9,AA C7] at this
    exact this.symm
   rw[ASS]
   exact JD hd V2 h1 QA
  ·cases h
theorem ALT {o:Oper} {ρ:Operand->SV} {t:TypeId} {x:Operand} (EB:o.op= .load t x) {d:TypeDesc} (hd:P.underlying t=some d) (V2:HY P t=false) {i k sz off bs:Nat} (hx:ρ x= .el i k sz off)
  {a:Ty} {xss:List (List a.T)} {h' :Option (Nat×Nat)} (hl:AQ i=some (.deep a xss h')) (B4:∀ n e,AQ n=some e->look L n=some e) {v:SV} {C2:CW}
  {deep:Bool} (h:wB AQ deep a xss h' i k sz off bs pr=some (v,C2)):EJ TB P o ρ L v C2:=by
 unfold wB at h
 split at h
 rotate_left
 ·cases h
 rename_i hc
 obtain⟨rfl,rfl⟩:=hc
 split at h
 ·rename_i DC
  have DC:=(G4 _ _ ▸ DC:H6 AQ bs 1=true/\_).1
  split at h
  rotate_left
  ·cases h
  rename_i ys u hcl
  simp only[pr,AY,C3] at h
  obtain⟨rfl,rfl⟩:=h
  have KZ:look L bs=some .KI:=B4 _ _ (by have:=CM DC 0 (by omega);simpa using this)
  refine BI fun c w E hh hw=> ?_
  obtain⟨G,hG⟩:=hh
  have UO:=hw x
  rw[hx] at UO
  obtain⟨NS,hk,hn⟩:=UO
  have hlen:=(hG.dp i _ _ _ (B4 _ _ hl)).len
  obtain⟨E1,c1,c2,c3,c4,c5,c6,c7⟩:=dE B4 hG hl hcl
  obtain⟨E2,t1,t2,t3,arr,ty,t4,t5⟩:=c1.ASR c4 (c6 bs KZ) (by rw[c2];exact hn) (by omega:k<ys.length)
  rw[<-BG] at t1
  have AEZ:=(hG.dp i _ _ _ (B4 _ _ hl)).off
  have C7:=AP KZ
  have yQ:∀ n,Al L n->Al (AI L (u++ [(bs,.dead),(i,.deep a ys (some (k,bs))),(bs,.row a (ys.getD k []))])) n:=by
   intro n hn
   rw[BG]
   exact BM rfl n (BM rfl n (BM rfl n (c5 n hn)))
  refine⟨w,E2,_, ?_,.inl rfl,⟨G,t1⟩,fun n hn=>⟨?_,yQ n hn⟩,t3.trans c3, ?_⟩
  ·simp only[execOp,EB,hx,SV.den]
   refine CL ?_
   have e:(E.nm i).off+(k*1+0)=k:=by omega
   rw[e]
   rw[c2] at t4
   exact JD hd V2 t4 t5
  ·rw[t2 n (fun he=>EF (he ▸ KZ) hn),c2]
  ·refine⟨.row a (ys.getD k []), ?_,rfl⟩
   rw[BG]
   show look (C5 (C5 (C5 (AI L u) (bs,.dead)) (i,.deep a ys (some (k,bs)))) (bs,.row a (ys.getD k []))) bs=_
   rw[AZ (by rw[FK,FK,NQ];exact C7),AA rfl]
 ·split at h
  rotate_left
  ·cases h
  rename_i k0 j _
  split at h
  rotate_left
  ·cases h
  rename_i HK
  subst HK
  simp only[pr,AY,C3] at h
  obtain⟨rfl,rfl⟩:=h
  refine BI fun c w E hh hw=> ?_
  obtain⟨G,hG⟩:=hh
  have UO:=hw x
  rw[hx] at UO
  obtain⟨NS,hk,hn⟩:=UO
  obtain⟨d1,d2,d3,d4,d5⟩:=hG.dp i _ _ _ (B4 _ _ hl)
  rcases d5 with ⟨h1,_⟩|⟨h1,h2,h3,arr,ty,hs,h4,h5,h6,h7,h8,h9⟩
  ·rw[hn] at h1;cases h1
  have yF:k<xss.length:=by omega
  obtain⟨q1,q2⟩:=h9 k j rfl yF
  refine⟨w,E,_, ?_,.inl rfl,⟨G,hG⟩,fun n hn=>⟨rfl,hn⟩,rfl,q2⟩
  simp only[execOp,EB,hx,SV.den]
  refine CL ?_
  have e:(E.nm i).off+(k*1+0)=k:=by omega
  rw[e,←q1]
  exact JD hd V2 h4 (h6 k yF)
theorem AJD {o:Oper} {ρ:Operand->SV} {t:TypeId} {x:Operand} (EB:o.op= .load t x) {d:TypeDesc} (hd:P.underlying t=some d) (V2:HY P t=false) {i k off:Nat} (hx:ρ x= .el i k 2 off) {t1 t2:Ty} {xs:List (List t1.T×List t2.T)}
  (hl:AQ i=some (.tree t1 t2 xs)) (B4:∀ n e,AQ n=some e->look L n=some e) (AEZ:off<2):EJ TB P o ρ L (.tsl i k off) []:=by
 refine BI fun c w E hh hw=> ?_
 have hh' :=hh
 obtain⟨G,hG⟩:=hh
 have htr:EX c G w (E.nm i) t1 t2 xs:=hG.KY i _ (B4 _ _ hl)
 have UO:=hw x
 rw[hx] at UO
 obtain⟨NS,hk,hn⟩:=UO
 rcases htr.cs with ⟨h1,_⟩|⟨h1,h2,h3,arr,ty,h4,h5,h6,h7,h8,h9⟩
 ·rw[hn] at h1;cases h1
 have MC :=hk
 rw[htr.len] at hk
 have hg:=h6 (k*2+off) (by omega)
 refine⟨w,E,_, ?_,.inl rfl,hh',fun n hn=>⟨rfl,hn⟩,rfl,⟨NS,MC,AEZ⟩⟩
 simp only[execOp,EB,hx,SV.den]
 refine CL ?_
 rw[htr.off,I7]
 exact JD hd V2 h4 hg
theorem ALU {o:Oper} {ρ:Operand->SV} {t:TypeId} {x:Operand} (EB:o.op= .load t x) {bs:Nat} (B4:∀ n e,AQ n=some e->look L n=some e) {v:SV} {C2:CW}
  {deep:Bool} (h:wC P AQ deep t (ρ x) bs pr=some (v,C2)):EJ TB P o ρ L v C2:=by
 unfold wC at h
 split at h
 rotate_left
 ·cases h
 rename_i q d hq hd
 split at h
 ·rename_i i off hx
  split at h
  ·rename_i cs hl
   have ABG:∀ (c:DN TB) (w:World) (E:Env),Hd c w E L->(E.nm i).off=(E.nm i).pp.pre.length/\(∃ ty,w.heap[(E.nm i).B5]? =some (.cells ((E.nm i).arr (AK E cs)) ty (0,0)))/\KJ E L cs:=by
    rintro c w E ⟨G,hG⟩
    obtain⟨h1,h2,h3,h4,h5,h6⟩:=hG.KY i _ (B4 _ _ hl)
    exact⟨h2,h5,h6⟩
   split at h
   ·rename_i V2
    split at h
    ·rename_i YO
     simp only[pr,AY,C3] at h
     obtain⟨rfl,rfl⟩:=h
     refine BI fun c w E hh hw=> ?_
     obtain⟨h2,⟨ty,h5⟩,h6⟩:=ABG c w E hh
     refine⟨w,E,_, ?_,.inl rfl,hh,fun n hn=>⟨rfl,hn⟩,rfl,U_ h6 _ _⟩
     simp only[execOp,EB,hx,SV.den]
     refine CL ?_
     rw[h2,j8 hq hd V2 h5 (by rw[Nm.rQ,AT];omega),Nm.wG _ (by rw[AT];omega),Z_]
    ·cases h
   ·rename_i V2
    split at h
    ·rename_i u hu
     simp only[pr,AY,C3] at h
     obtain⟨rfl,rfl⟩:=h
     refine BI fun c w E hh hw=> ?_
     obtain⟨h2,⟨ty,h5⟩,h6⟩:=ABG c w E hh
     refine⟨w,E,_, ?_,.inl rfl,hh,fun n hn=>⟨rfl,hn⟩,rfl,BP.1 h6 u (YL hu)⟩
     simp only[execOp,EB,hx,SV.den]
     refine CL ?_
     rw[h2]
     exact JD hd V2 h5 (by rw[Nm.yP _ (by rw[AT];exact (uA.1 hu).1)];simp [FJ,hu])
    ·cases h
  ·rename_i j hl
   split at h
   ·cases h
   ·rename_i V2
    split at h
    rotate_left
    ·cases h
    rename_i h0
    subst h0
    simp only[pr,AY,C3] at h
    obtain⟨rfl,rfl⟩:=h
    refine BI fun c w E hh hw=> ?_
    have hh' :=hh
    obtain⟨G,hG⟩:=hh
    obtain⟨q1,⟨arr,ty,fz,q2,q3⟩,q4⟩:=hG.KY i _ (B4 _ _ hl)
    refine⟨w,E,_, ?_,.inl rfl,hh',fun n hn=>⟨rfl,hn⟩,rfl,q4⟩
    simp only[execOp,EB,hx,SV.den]
    refine CL ?_
    rw[L3,L3]
    exact JD hd V2 (by rw[hG.old _ q1];exact q2) q3
  ·cases h
 ·rename_i i k sz off hx
  split at h
  ·rename_i a xs hl
   exact wH EB hq hd hx (.inl (B4 _ _ hl)) B4 h
  ·rename_i a xs hl
   exact wH EB hq hd hx (.inr (B4 _ _ hl)) B4 h
  ·rename_i a xss hh hl
   split at h
   ·cases h
   ·rename_i V2
    exact ALT EB hd V2 hx hl B4 h
  ·rename_i t1 t2 xs hl
   split at h
   ·cases h
   ·rename_i V2
    split at h
    rotate_left
    ·cases h
    rename_i hc
    obtain⟨rfl,AEZ⟩:=hc
    simp only[pr,AY,C3] at h
    obtain⟨rfl,rfl⟩:=h
    exact AJD EB hd V2 hx hl B4 AEZ
  ·cases h
 ·cases h
theorem wI {k:IntKind}:∀ {l:List Value} {i:Nat},ABJ k l=true->i<l.length->∃ n,l[i]? =some (.int k n)
 | [],i,_,h=>by simp at h
 | .int k' n::r,0,h,_=>by
  simp only[ABJ,G4,IQ] at h
  exact⟨n,by rw[h.1];rfl⟩
 | .int k' n::r,i+1,h,hi=>by
  simp only[ABJ,G4] at h
  simpa using wI h.2 (by simpa using hi)
theorem ALV {α:Type}:∀ {l:List (Nat×α)} {k:Nat} {x:α},lk l k=some x->(k,x)∈l
 | [],_,_,h=>by cases h
 |(a,b)::r,k,x,h=>by
  simp only[lk] at h
  split at h
  ·rename_i he
   simp only[AY] at h
   subst he h;simp
  ·exact S7 _ (ALV h)
theorem ALW {cx:Cx} {o:Oper} {ρ:Operand->SV} {t:TypeId} {x:Operand} (EB:o.op= .load t x) {g off:Nat} (hx:ρ x= .ptr (some ⟨g,off,none⟩)) {v:SV} {C2:CW}
  (h:loadT P cx t g off pr=some (v,C2)):EJ cx.tb P o ρ L v C2:=by
 unfold loadT at h
 split at h
 rotate_left
 ·cases h
 rename_i arr k q hl hu hq
 split at h
 ·cases h
 rename_i hk
 split at h
 rotate_left
 ·cases h
 rename_i hi
 split at h
 rotate_left
 ·cases h
 rename_i AEZ
 simp only[pr,AY,C3] at h
 obtain⟨rfl,rfl⟩:=h
 obtain⟨n,hn⟩:=wI (i:=off) hi (by simpa using AEZ)
 refine BI fun c w E hh hw=> ?_
 obtain⟨G,hG⟩:=hh
 obtain⟨o1,ty,fz,o2⟩:=hG.tab _ (ALV hl)
 have hb:w.heap[g]? =some (.cells arr ty fz):=by rw[hG.old g o1];exact o2
 have QA:arr[off]? =some (.int k n):=by rw[<-gM];exact hn
 have V2:HY P t=false:=by unfold HY;rw[hu]
 refine⟨w,E,_, ?_,.inl rfl,⟨G,hG⟩,fun n hn=>⟨rfl,hn⟩,rfl,trivial⟩
 simp only[execOp,EB,hx,SV.den]
 refine CL ?_
 rw[JD hu V2 hb QA]
 simp [AWX,QA]
theorem yR {E:Env} {vs:List SV} (h:vs.all wD=true):Flat (AK E vs):=by
 induction vs with
 |nil=>intro v hv;cases hv
 |cons x r ih=>
  simp only[List.all_cons,G4] at h
  intro v hv
  rcases F7.1 hv with rfl|hv
  ·cases x with
   |raw u=>cases u <;> simp_all [wD,SV.den]
   |_=>simp_all [wD,SV.den]
  ·exact ih h.2 v hv
theorem W6 (E:Env) (vs:List SV):∀ (cs:List SV) (off:Nat),(AK E (DJ cs off vs)).toArray=pV (AK E cs).toArray off (AK E vs):=by
 induction vs with
 |nil=>intros;rfl
 |cons v r ih=>
  intro cs off
  simp only[DJ,AK,pV]
  rw[ih,ZW]
  simp
theorem AF0 (E:Env) (m:Nm) (vs:List SV):∀ (cs:List SV) (off:Nat),off+vs.length<=cs.length->m.arr (AK E (DJ cs off vs))=pV (m.arr (AK E cs)) (m.pp.pre.length+off) (AK E vs):=by
 induction vs with
 |nil=>intros;rfl
 |cons v r ih=>
  intro cs off h
  simp only[N3] at h
  simp only[DJ,AK,pV]
  rw[ih _ _ (by rw[ER];omega),ZW,Nm.AQF _ (by rw[AT];omega),NI]
theorem hD {vs:List SV}:∀ {cs:List SV} {off:Nat} {v:SV},v∈DJ cs off vs->v∈cs\/v∈vs:=by
 induction vs with
 |nil=>intro cs off v h;exact .inl h
 |cons x r ih=>
  intro cs off v h
  rcases ih h with h|h
  ·rcases List.mem_or_eq_of_mem_set h with h|h
   ·exact .inl h
   ·exact .inr (by simp [h])
  ·exact .inr (by simp [h])
theorem PR {E:Env} {v:SV} (h:v.wf E L):KJ E L (BD v):=by
 cases v with
 |agg cs=>exact h
 |_=>exact⟨h,trivial⟩
theorem QF {w w' :World} {t:TypeId} {q:TypeInfo} (hq:P.info? t=some q) {b off:Nat} {v:SV} {E:Env} (hr:MW v=false) (hl:(BD v).length=q.size)
  (hst:(storeCells ⟨b,off,none⟩ (AK E (BD v)) 0).run P w= .ok () w'):(Instr.storeAt t (.pointer (some ⟨b,off,none⟩)) (v.den E)).run P w= .ok () w' :=by
 have QA:=gQ (E:=E) v hr
 simp only[Instr.storeAt,Instr.sureAddr,storeVar,sizeOf,typeInfo,Sem.run_bind,Sem.run_pure,Result.andThen]
 simp [hq,QA,AT,hl,hst]
theorem AS.setRow {c:DN TB} {G:Nat->Prop} {w w' :World} {E:Env} {L:AJ} (h:AS c G w E L) {i:Nat} {a:Ty} {xs ys:List a.T} (hl:look L i=some (.row a xs)) (hn:(E.nm i).nil=false) (hlen:ys.length=xs.length)
  (hr:Rest w w') (hs:w'.heap.size=w.heap.size) (hw:∀ j,j≠(E.nm i).B5->w'.heap[j]? =w.heap[j]?)
  (RL:∀ arr ty,w.heap[(E.nm i).B5]? =some (.cells arr ty ((E.nm i).fr arr.size))->(E.nm i).off+(E.nm i).cap*a.sz<=arr.size->RowsIn (Rp G w a) a.sz arr (E.nm i).off xs->∃ W3,w'.heap[(E.nm i).B5]? =some (.cells W3 ty ((E.nm i).fr arr.size))/\W3.size=arr.size/\RowsIn (Rp G w a) a.sz W3 (E.nm i).off ys):
  AS c G w' E (C5 L (i,.row a ys)):=by
 have CO:=h.KY i _ hl
 obtain⟨h1,h2,h3⟩:=CO
 rcases h3 with ⟨h4,_⟩|⟨_,h5,h6,h7,arr,ty,h8,h9,uG⟩
 ·rw[hn] at h4;cases h4
 obtain⟨W3,k1,k2,k3⟩:=RL arr ty h8 h9 uG
 have UD:E.set i (E.nm i)=E:=by
  refine KL (fun k=> ?_) rfl (fun _=>rfl)
  by_cases hk:k=i
  ·subst hk;rw[Env.EE]
  ·exact E.GO _ hk
 have hGb:∀ b,G b->w'.heap[b]? =w.heap[b]? :=fun b hb=>hw b (fun he=>h5 (he ▸ hb))
 have:=h.change (i:=i) (e' := .row a ys) (m:=E.nm i) (w' :=w') (AP hl) hr (by omega) (fun _=>rfl) rfl
  (fun b _ hb=>hw b (fun he=>hb (by simp [AW.own,hn,he])))
  (fun b hb=>by simp only[AW.own,hn,T8,I9,AY] at hb;subst hb;exact⟨h6,h5⟩)
  (fun k f hk hf b hb he=>h.inj k i f (.row a xs) b hk hf hl hb (.inl (by simpa [AW.own,hn] using he)))
  (fun _=>⟨by rw[h1,hlen],h2,.inr ⟨hn,h5,h6,by rw[hlen];exact h7,W3,ty,by rw[k2];exact k1,by rw[k2];exact h9,k3.imp fun x vs hx=>Rp.mono hGb (fun _ h=>h) a x vs hx⟩⟩)
 rw[UD] at this
 exact this
theorem hO {E:Env} {c:DN TB} {G:Nat->Prop} {w:World} {a:Ty}:∀ (n:Nat) (cs:List SV) (xs:List a.T) (u:CW),YG AQ a n cs=some (xs,u)->KJ E L cs->jS .dS AQ E c G w [] u []→
  xs.length=n/\cs.length=n*a.sz/\RowsIn (Rp G w a) a.sz (AK E cs).toArray 0 xs:=by
 intro n
 induction n with
 |zero=>
  intro cs xs u h _ _
  cases cs with
  |nil=>simp only[YG,AY,C3] at h;obtain⟨rfl,rfl⟩:=h;exact⟨rfl,by simp,fun i x hx=>by simp at hx⟩
  |cons v r=>simp [YG] at h
 |succ n ih=>
  intro cs xs u h hw hk
  simp only[YG] at h
  split at h
  rotate_left
  ·cases h
  rename_i x r nes u1 hp
  split at h
  rotate_left
  ·cases h
  rename_i xs' u2 hq
  simp only[AY,C3] at h
  obtain⟨rfl,rfl⟩:=h
  obtain⟨c1,rfl,l1,_,hd⟩:=IV E _ _ _ _ _ _ hp
  have hw1:KJ E L c1:=BP.2 fun v hv=>BP.1 hw v (EV.2 (.inl hv))
  have hw2:KJ E L r:=BP.2 fun v hv=>BP.1 hw v (EV.2 (.inr hv))
  obtain⟨i1,i2,i3⟩:=ih _ _ _ hq hw2 (hk.sub (by simp) (by simp;intros;simp [*]) (by simp))
  have hrp:Rp G w a x (AK E c1):=by
   rw[hd]
   refine Rp.mk _ _ _ fun k e he=> ?_
   obtain⟨g1,_⟩:=VN _ _ _ _ _ _ hp
   rcases g1 k false e he with rfl|⟨t,s,ys,ne,uk,hs,CJ,hsc,JB,rfl⟩
   ·trivial
   have hnf:DY E nes k=ne.nm E:=by simp [DY,CJ]
   rw[hnf]
   refine mE hs (by simp) (BP.1 hw s hsc) hk.shr ?_
   intro i t' zs e' vS hl hoe hx
   refine hk.dS i t' zs e' hl hoe (.inr ?_)
   rcases hx with hx|hx
   ·cases hx
   ·exact EV.2 (.inl (JB _ hx))
  refine⟨by simp [i1],by simp [l1,i2];rw[ZU];omega, ?_⟩
  intro i y hy
  cases i with
  |zero=>
   simp only[O1,AY] at hy
   subst hy
   have:BH (AK E (c1++r)).toArray (0+0*a.sz) a.sz=AK E c1:=by
    unfold BH
    rw[FW]
    simp [AT,l1]
   rw[this];exact hrp
  |succ i=>
   simp only[uC] at hy
   have:=i3 i y hy
   have e:BH (AK E (c1++r)).toArray (0+(i+1)*a.sz) a.sz=BH (AK E r).toArray (0+i*a.sz) a.sz:=by
    unfold BH
    rw[FW]
    simp only[I7]
    have:(i+1)*a.sz=(AK E c1).length+i*a.sz:=by rw[AT,l1,ZU];omega
    rw[this]
    simp
   rw[e];exact this
theorem gB {E:Env} {c:DN TB} {G:Nat->Prop} {w:World} {u:CW} (md:PM):jS md H9 E c G w [] u []:=
 ⟨fun i t ys h=>by simp [H9] at h,fun i t ys e h=>by simp [H9] at h,fun i t ys h=>by simp [H9] at h,fun i t ys h=>by simp [H9] at h,fun i t1 t2 ys h=>by simp [H9] at h,fun i cs h=>by simp [H9] at h⟩
theorem AF1:∀ (t:Ty) (x:t.T) (j:Nat) (e:AW),(BY false t x)[j]? =some e->(∃ (a:Ty) (xs:List a.T),e= .shr a xs)\/e= .dead:=by
 intro t
 induction t with
 |pair a b T1 T3=>
  intro x j e he
  simp only[BY] at he
  by_cases hk:j<(BY false a x.1).length
  ·rw[T6 hk] at he;exact T1 _ _ _ he
  ·rw[T5 (by omega)] at he;exact T3 _ _ _ he
 |slice a=>
  intro x j e he
  cases j with
  |zero=>simp only[BY,O1,AY] at he;exact .inl ⟨_,_,he.symm⟩
  |succ j=>simp [BY] at he
 |nf=>
  intro x j e he
  cases j with
  |zero=>simp only[BY,O1,AY] at he;exact .inr he.symm
  |succ j=>simp [BY] at he
 |_=>intro x j e he;simp [BY] at he
theorem wJ {c:DN TB} {G1:Nat->Prop} {w:World} {E:Env} {a:Ty} {cs:List SV} {z:a.T} {nes:List NE} {u:CW} (hp:FA .dS AQ a cs=some (z,[],nes,u))
  (t9:F8 c G1 w ⟨a,true,false,false⟩ z (DY E nes)):Rp G1 w a z (AK E cs):=by
 obtain⟨c1,e1,_,_,hd⟩:=IV E _ _ _ _ _ _ hp
 rw[G5] at e1;subst e1
 rw[hd]
 refine Rp.mk _ _ _ fun k e he=> ?_
 have:=t9.1 k e he
 simp only[CT.pn,I7] at this
 rcases AF1 a z k e he with ⟨a',xs,rfl⟩|rfl
 ·exact this
 ·trivial
theorem rR:∀ (l cs:List SV) (off p:Nat),(DJ cs off l)[p]? =if off<=p/\p<off+l.length/\p<cs.length then l[p-off]? else cs[p]?
 | [],cs,off,p=>by simp only[DJ,U7];rw[AB (by omega)]
 |v::r,cs,off,p=>by
  simp only[DJ,N3]
  rw[rR r,ER]
  by_cases h:off=p
  ·subst h
   by_cases h2:off<cs.length
   ·rw[AB (by omega),AA (by omega),List.getElem?_set_self h2];simp
   ·rw[AB (by omega),AB (by omega),SO (by simp;omega),SO (by omega)]
  ·rw[List.getElem?_set_ne h]
   by_cases h2:off+1<=p/\p<off+1+r.length/\p<cs.length
   ·rw[AA h2,AA (by omega),show p-off=(p-(off+1))+1 by omega];simp
   ·rw[AB h2,AB (by omega)]
theorem AQG {E:Env} {L:AJ}:∀ (a:Ty) (x:a.T) (n:Nat) (v:SV),v∈HH a x n->ALM v=true->v.wf E L:=by
 intro a
 induction a with
 |pair a b T1 T3=>
  intro x n v hv hn
  rcases EV.1 hv with hv|hv
  ·exact T1 _ _ _ hv hn
  ·exact T3 _ _ _ hv hn
 |slice a=>intro x n v hv hn;simp only[HH,F6] at hv;subst hv;cases hn
 |nf=>intro x n v hv hn;simp only[HH,F6] at hv;subst hv;cases hn
 |_=>intro x n v hv hn;simp only[HH,F6] at hv;subst hv;trivial
theorem ALX {E:Env}:∀ (a:Ty) (x:a.T) (n p:Nat) (v:SV) (hs:Nat->Nm),(HH a x n)[p]? =some v->ALM v=true->(enc a x hs)[p]? =some (v.den E):=by
 intro a
 induction a with
 |pair a b T1 T3=>
  intro x n p v hs hv hn
  have hl:(enc a x.1 hs).length=(HH a x.1 n).length:=by rw[EL,AEH]
  simp only[HH,enc] at hv ⊢
  rcases GY p (HH a x.1 n).length with hp|hp
  ·rw[T6 hp] at hv
   rw[T6 (by omega)]
   exact T1 _ _ _ _ _ hv hn
  ·rw[T5 hp] at hv
   rw[T5 (by omega),hl]
   exact T3 _ _ _ _ _ hv hn
 |slice a=>
  intro x n p v hs hv hn
  cases p with
  |zero=>simp only[HH,O1,AY] at hv;subst hv;cases hn
  |succ p=>simp [HH] at hv
 |nf=>
  intro x n p v hs hv hn
  cases p with
  |zero=>simp only[HH,O1,AY] at hv;subst hv;cases hn
  |succ p=>simp [HH] at hv
 |_=>
  intro x n p v hs hv hn
  cases p with
  |zero=>simp only[HH,O1,AY] at hv;subst hv;rfl
  |succ p=>simp [HH] at hv
theorem AF2 {o:Oper} {ρ:Operand->SV} {t:TypeId} {x y:Operand} (EB:o.op= .store t x y) {q:TypeInfo} (hq:P.info? t=some q) {i k sz off:Nat} (hx:ρ x= .el i k sz off)
  {a:Ty} {xs:List a.T} (hl:AQ i=some (.row a xs)) (B4:∀ n e,AQ n=some e->look L n=some e) {v:SV} {C2:CW}
  (h:pW AQ q.size a xs i k sz off (ρ y) pr=some (v,C2)):EJ TB P o ρ L v C2:=by
 unfold pW at h
 split at h
 rotate_left
 ·cases h
 rename_i hc
 obtain⟨rfl,YO,hlen,ALY⟩:=hc
 have step:∀ (c:DN TB) (w:World) (E:Env) (G:Nat->Prop) (L' :AJ),AS c G w E L' ->look L' i=some (.row a xs)->(∀ x,(ρ x).wf E L)->∀ (z:a.T) (cells:List Value),Rp G w a z cells->Flat (AK E (BD (ρ y)))→
   (∀ (arr:Array Value) (ty:TypeId) (fz:Nat×Nat),w.heap[(E.nm i).B5]? =some (.cells arr ty fz)->Rp G w a (gd a xs k) (BH arr ((E.nm i).off+k*a.sz) a.sz)->pV arr ((E.nm i).off+k*a.sz+off) (AK E (BD (ρ y)))=pV arr ((E.nm i).off+k*a.sz) cells)→
   ∃ w',(execOp (fun x=>(ρ x).den E) o).run P w= .ok .skip w' /\AS c G w' E (C5 L' (i,.row a (xs.set k z))):=by
  intro c w E G L' hG vT hw z cells hz ABS hsp
  have UO:=hw x
  rw[hx] at UO
  obtain⟨NS,hk,hn⟩:=UO
  obtain⟨jE,arr,ty0,fz,h1,h2,h3⟩:=AH2 hG (.inl vT) hk hn
  obtain⟨e1,e2,e3⟩:=hG.KY i _ vT
  rcases e3 with ⟨h4,_⟩|⟨_,h5,h6,h7,AF3,ty,h8,h9,uG⟩
  ·rw[hn] at h4;cases h4
  rw[h8] at h1
  simp only[AY,Obj.cells.injEq] at h1
  obtain⟨rfl,rfl,rfl⟩:=h1
  have yS:(E.nm i).off+(k*a.sz+off)=(E.nm i).off+k*a.sz+off:=by omega
  obtain⟨w',s1,s2,s3,s4,s5⟩:=JZ (P:=P) (off:=(E.nm i).off+k*a.sz+off) (AK E (BD (ρ y))) w AF3 0 (fun j hj=>(E.nm i).x8 hj) h8 ABS (by rw[AT,hlen];omega)
  rw[L3,hsp AF3 ty _ h8 h2] at s4
  refine⟨w', ?_, ?_⟩
  ·simp only[execOp,EB,hx,SV.den,Sem.run_bind]
   rw[yS,QF hq ALY hlen s1]
   rfl
  ·refine hG.setRow vT hn (by simp) s2 s3 s5 ?_
   intro AZN ty3 q1 q2 q3
   rw[h8] at q1
   simp only[AY,Obj.cells.injEq] at q1
   obtain⟨rfl,rfl,_⟩:=q1
   refine⟨_,s4,QE _ _ _, ?_⟩
   refine q3.set hz hz.length jE ?_
   have:=qS a.sz h7
   omega
 split at h
 ·rename_i AUB
  obtain⟨rfl,hn⟩:=AUB
  split at h
  rotate_left
  ·cases h
  rename_i z nes u hp
  split at h
  rotate_left
  ·cases h
  rename_i hu
  simp only[pr,AY,C3] at h
  obtain⟨rfl,rfl⟩:=h
  refine BI fun c w E hh hw=> ?_
  obtain⟨G,hG⟩:=hh
  have hct:IW .dS AQ [⟨a,true,false,false⟩] [.agg (BD (ρ y))]=some ⟨HT.mk ⟨a,true,false,false⟩ [] z (),nes++ [],u++ [],[]++ [],nes.filterMap NE.name++ []⟩:=by
   simp [IW,OA,hp]
  obtain⟨G1,G2,t1,t2,t3,t4,t5,t6,t7,t8,t9,t10,t11⟩:=hG.take (md:= .dS) (by simp) B4 hct (by simp [okA]) ⟨PR (hw y),trivial⟩
  have AUC:=t4 rfl
  rw[AUC] at t9
  simp only[K3.C2,G5,List.map_nil] at t1 t6 t7
  have RR:i∉u.map (·.1):=by
   intro hx
   obtain⟨q',O5,he⟩:=C0.1 hx
   have:=J9.1 hu q' O5
   simp [he] at this
  have hli:look (AI L u) i=some (.row a xs):=by
   rw[t7 i (by simp) RR];exact B4 _ _ hl
  have hrp:Rp G1 w a z (AK E (BD (ρ y))):=wJ hp (by have:=t9.1;rw[G5] at this;exact this)
  obtain⟨w',s1,s2⟩:=step c w E G1 (AI L u) t1 hli hw z _ hrp hrp.AGW (fun arr ty fz _ _=>by rw[L3])
  have eu:AI L (u++ [(i,.row a (xs.set k z))])=C5 (AI L u) (i,.row a (xs.set k z)):=by rw[BG];rfl
  rw[eu]
  exact⟨w',E,_,s1,.inr ⟨rfl,rfl⟩,⟨G1,s2⟩,fun n hn=>⟨rfl,BM rfl n (t6 n hn)⟩,rfl,trivial⟩
 ·split at h
  rotate_left
  ·split at h
   rotate_left
   ·cases h
   rename_i Z6
   split at h
   rotate_left
   ·cases h
   rename_i z nes u hp
   split at h
   rotate_left
   ·cases h
   rename_i hu
   simp only[pr,AY,C3] at h
   obtain⟨rfl,rfl⟩:=h
   refine BI fun c w E hh hw=> ?_
   obtain⟨G,hG⟩:=hh
   have hct:IW .dS AQ [⟨a,true,false,false⟩] [.agg (DJ (HH a (gd a xs k) 0) off (BD (ρ y)))]=some ⟨HT.mk ⟨a,true,false,false⟩ [] z (),nes++ [],u++ [],[]++ [],nes.filterMap NE.name++ []⟩:=by
    simp [IW,OA,hp]
   simp only[ASQ,G4,J9] at Z6
   have nW:KJ E L (DJ (HH a (gd a xs k) 0) off (BD (ρ y))):=by
    refine BP.2 fun u hu=> ?_
    obtain⟨p,hp⟩:=List.mem_iff_getElem?.1 hu
    rw[rR,hlen,EL] at hp
    split at hp
    ·exact BP.1 (PR (hw y)) u (YL hp)
    ·rename_i hpo
     refine AQG a _ _ u (YL hp) ?_
     have yU:p<a.sz:=by
      have:=(uA.1 hp).1
      rwa [EL] at this
     rcases GY p off with h1|h1
     ·refine Z6.1 _ (List.mem_iff_getElem?.2 ⟨p, ?_⟩)
      rw[jG,AA h1,hp]
     ·refine Z6.2 _ (List.mem_iff_getElem?.2 ⟨p-(off+q.size), ?_⟩)
      rw[ZQ,←hp]
      congr 1;omega
   obtain⟨G1,G2,t1,t2,t3,t4,t5,t6,t7,t8,t9,t10,t11⟩:=hG.take (md:= .dS) (by simp) B4 hct (by simp [okA]) ⟨nW,trivial⟩
   have AUC:=t4 rfl
   rw[AUC] at t9
   simp only[K3.C2,G5,List.map_nil] at t1 t6 t7
   have RR:i∉u.map (·.1):=by
    intro hx
    obtain⟨q',O5,he⟩:=C0.1 hx
    have:=J9.1 hu q' O5
    simp [he] at this
   have hli:look (AI L u) i=some (.row a xs):=by
    rw[t7 i (by simp) RR];exact B4 _ _ hl
   have hrp:Rp G1 w a z (AK E (DJ (HH a (gd a xs k) 0) off (BD (ρ y)))):=wJ hp (by have:=t9.1;rw[G5] at this;exact this)
   have ABS:Flat (AK E (BD (ρ y))):=by
    have hf:=hrp.AGW
    intro u hu
    have hs:=W6 E (BD (ρ y)) (HH a (gd a xs k) 0) off
    obtain⟨j,hj,rfl⟩:=qT hu
    refine hf _ ?_
    have hj2:j<q.size:=by rw[AT,hlen] at hj;exact hj
    have:(pV (AK E (HH a (gd a xs k) 0)).toArray off (AK E (BD (ρ y))))[off+j]? =(AK E (BD (ρ y)))[j]? :=by
     rw[JC,AA ⟨by omega,by omega,by simp [AT,EL];omega⟩]
     congr 1;omega
    rw[<-hs,qR,NB hj] at this
    exact YL this
   obtain⟨w',s1,s2⟩:=step c w E G1 (AI L u) t1 hli hw z _ hrp ABS (by
    intro arr ty fz h1 h2
    apply Array.ext_getElem?
    intro j
    rw[JC,JC,AT,AT,hlen,fZ,EL]
    have hse:∀ m:Nat,(AK E (DJ (HH a (gd a xs k) 0) off (BD (ρ y))))[m]? =(pV (AK E (HH a (gd a xs k) 0)).toArray off (AK E (BD (ρ y))))[m]? :=by
     intro m;rw[<-W6];simp
    have hold:∀ p,p<a.sz->p<off\/off+q.size<=p->(AK E (HH a (gd a xs k) 0))[p]? =arr[(E.nm i).off+k*a.sz+p]? :=by
     intro p hp hpo
     obtain⟨ms,h4,_⟩:=h2.out
     have yU:p<(HH a (gd a xs k) 0).length:=by rw[EL];exact hp
     have hv:=NB yU
     have hnv:ALM (HH a (gd a xs k) 0)[p]=true:=by
      rcases hpo with hpo|hpo
      ·refine Z6.1 _ (List.mem_iff_getElem?.2 ⟨p, ?_⟩)
       rw[jG,AA hpo,hv]
      ·refine Z6.2 _ (List.mem_iff_getElem?.2 ⟨p-(off+q.size), ?_⟩)
       rw[ZQ,←hv]
       congr 1;omega
     have e1:=ALX (E:=E) a _ 0 p _ ms hv hnv
     rw[<-h4,B9,AA hp] at e1
     rw[EW,List.getElem?_map,hv,e1]
     rfl
    by_cases yV:((E.nm i).off+k*a.sz)+off<=j/\j<((E.nm i).off+k*a.sz)+off+q.size/\j<arr.size
    ·rw[AA yV,AA (by omega),hse,JC,AT,hlen,AA ⟨by omega,by omega,by simp [AT,EL];omega⟩]
     congr 1;omega
    ·rw[AB yV]
     by_cases hj2:((E.nm i).off+k*a.sz)<=j/\j<((E.nm i).off+k*a.sz)+a.sz/\j<arr.size
     ·have e1:((AK E (HH a (gd a xs k) 0)).toArray)[j-((E.nm i).off+k*a.sz)]? =arr[j]? :=by
       rw[qR,hold _ (by omega) (by omega)]
       congr 1;omega
      rw[AA hj2,hse,JC,AT,hlen,AB (by omega),e1]
     ·rw[AB hj2])
   have eu:AI L (u++ [(i,.row a (xs.set k z))])=C5 (AI L u) (i,.row a (xs.set k z)):=by rw[BG];rfl
   rw[eu]
   exact⟨w',E,_,s1,.inr ⟨rfl,rfl⟩,⟨G1,s2⟩,fun n hn=>⟨rfl,BM rfl n (t6 n hn)⟩,rfl,trivial⟩
  rename_i AQH
  split at h
  rotate_left
  ·cases h
  rename_i z nes u hp
  simp only[pr,AY,C3] at h
  obtain⟨rfl,rfl⟩:=h
  refine BI fun c w E hh hw=> ?_
  obtain⟨G,hG⟩:=hh
  obtain⟨c1,e1,hc1,_,hd⟩:=IV E _ _ _ _ _ _ hp
  rw[G5] at e1;subst e1
  have hrp:Rp G w a z (AK E (DJ (HH a (gd a xs k) 0) off (BD (ρ y)))):=by
   rw[hd]
   refine Rp.mk _ _ _ fun k e he=> ?_
   have:(BY false a z).length=0:=by rw[A_];exact AQH
   rw[SO (by omega)] at he;cases he
  have ABS:Flat (AK E (BD (ρ y))):=by
   have hf:=hrp.AGW
   intro u hu
   have hs:=W6 E (BD (ρ y)) (HH a (gd a xs k) 0) off
   obtain⟨j,hj,rfl⟩:=qT hu
   refine hf _ ?_
   have hj2:j<q.size:=by rw[AT,hlen] at hj;exact hj
   have:(pV (AK E (HH a (gd a xs k) 0)).toArray off (AK E (BD (ρ y))))[off+j]? =(AK E (BD (ρ y)))[j]? :=by
    rw[JC,AA ⟨by omega,by omega,by simp [AT,EL];omega⟩]
    congr 1;omega
   rw[<-hs,qR,NB hj] at this
   exact YL this
  obtain⟨w',s1,s2⟩:=step c w E G L hG (B4 _ _ hl) hw z _ hrp ABS (by
   intro arr ty fz h1 h2
   apply Array.ext_getElem?
   intro j
   rw[JC,JC,AT,AT,hlen,fZ,EL]
   have hse:∀ m:Nat,(AK E (DJ (HH a (gd a xs k) 0) off (BD (ρ y))))[m]? =(pV (AK E (HH a (gd a xs k) 0)).toArray off (AK E (BD (ρ y))))[m]? :=by
    intro m;rw[<-W6];simp
   have hold:AK E (HH a (gd a xs k) 0)=BH arr (((E.nm i).off+k*a.sz)) a.sz:=by
    obtain⟨ms,h4,_⟩:=h2.out
    rw[h4,UL]
    exact GZ _ _ fun j hj=>by omega
   by_cases yV:((E.nm i).off+k*a.sz)+off<=j/\j<((E.nm i).off+k*a.sz)+off+q.size/\j<arr.size
   ·rw[AA yV,AA (by omega),hse,JC,AT,hlen,AA ⟨by omega,by omega,by simp [AT,EL];omega⟩]
    congr 1;omega
   ·rw[AB yV]
    by_cases hj2:((E.nm i).off+k*a.sz)<=j/\j<((E.nm i).off+k*a.sz)+a.sz/\j<arr.size
    ·have e1:((AK E (HH a (gd a xs k) 0)).toArray)[j-((E.nm i).off+k*a.sz)]? =arr[j]? :=by
      rw[qR,hold,B9,AA (by omega)]
      congr 1;omega
     rw[AA hj2,hse,JC,AT,hlen,AB (by omega),e1]
    ·rw[AB hj2])
  exact⟨w',E,_,s1,.inr ⟨rfl,rfl⟩,⟨G,s2⟩,fun n hn=>⟨rfl,BM rfl n hn⟩,rfl,trivial⟩
theorem ABT {o:Oper} {ρ:Operand->SV} {t:TypeId} {x y:Operand} (EB:o.op= .store t x y) {q:TypeInfo} (hq:P.info? t=some q) {i k sz off len:Nat} (hx:ρ x= .el i k sz off)
  {a:Ty} {xs:List a.T} (hl:AQ i=some (.row a xs)) (B4:∀ n e,AQ n=some e->look L n=some e) {v:SV} {C2:CW}
  (h:jX q.size len a xs i k off (ρ y) pr=some (v,C2)):EJ TB P o ρ L v C2:=by
 unfold jX at h
 split at h
 rotate_left
 ·cases h
 rename_i hc
 obtain⟨rfl,rfl,AQH,hlen,yW,ALY⟩:=hc
 split at h
 rotate_left
 ·cases h
 rename_i ys u hp
 split at h
 rotate_left
 ·cases h
 rename_i rS
 simp only[pr,AY,C3] at h
 obtain⟨rfl,rfl⟩:=h
 refine BI fun c w E hh hw=> ?_
 obtain⟨G,hG⟩:=hh
 obtain⟨l1,l2,l3⟩:=hO (c:=c) (G:=G) (w:=w) (E:=E) (L:=L) len (BD (ρ y)) ys u hp (PR (hw y)) (gB .dS)
 have vT :=B4 _ _ hl
 have UO:=hw x
 rw[hx] at UO
 obtain⟨NS,hk,hn⟩:=UO
 obtain⟨e1,e2,e3⟩:=hG.KY i _ vT
 rcases e3 with ⟨h4,_⟩|⟨_,h5,h6,h7,AF3,ty,h8,h9,uG⟩
 ·rw[hn] at h4;cases h4
 have yS:(E.nm i).off+(0*sz+0)=(E.nm i).off:=by omega
 have YO:(E.nm i).off+len*a.sz<=AF3.size:=by
  have:=qS a.sz h7
  rw[rS] at this;omega
 obtain⟨w',s1,s2,s3,s4,s5⟩:=JZ (P:=P) (off:=(E.nm i).off) (AK E (BD (ρ y))) w AF3 0 (fun j hj=>(E.nm i).x8 hj) h8 (yR yW) (by rw[AT,l2];omega)
 rw[L3] at s4
 have hst:AS c G w' E (C5 L (i,.row a ys)):=by
  refine hG.setRow vT hn (by omega) s2 s3 s5 ?_
  intro AZN ty3 q1 q2 q3
  rw[h8] at q1
  simp only[AY,Obj.cells.injEq] at q1
  obtain⟨rfl,rfl,_⟩:=q1
  refine⟨_,s4,QE _ _ _, ?_⟩
  intro j z hz
  have hj:j<len:=by
   rw[<-l1]
   rcases GY j ys.length with h|h
   ·exact h
   ·rw[SO h] at hz;cases hz
  have hr:=l3 j z hz
  have hb:(j+1)*a.sz<=len*a.sz:=qS _ hj
  rw[ZU,Nat.one_mul] at hb
  have e:BH (pV AF3 (E.nm i).off (AK E (BD (ρ y)))) ((E.nm i).off+j*a.sz) a.sz=BH (AK E (BD (ρ y))).toArray (0+j*a.sz) a.sz:=by
   apply T9
   intro m
   rw[B9,B9]
   by_cases hm:m<a.sz
   ·rw[JC,AT,l2]
    simp only[hm,GA]
    rw[AA ⟨by omega,by omega,by omega⟩]
    rw[qR]
    congr 1;omega
   ·simp [hm]
  rw[e]
  exact hr
 refine⟨w',E,.skip, ?_,.inr ⟨rfl,rfl⟩,⟨G,hst⟩,fun n hn=>⟨rfl,BM rfl n hn⟩,rfl,trivial⟩
 simp only[execOp,EB,hx,SV.den,Sem.run_bind]
 rw[yS,QF hq ALY hlen s1]
 rfl
theorem AJE {o:Oper} {ρ:Operand->SV} {t:TypeId} {x y:Operand} (EB:o.op= .store t x y) {q:TypeInfo} (hq:P.info? t=some q) {i k sz off:Nat} (hx:ρ x= .el i k sz off)
  {a:Ty} {xss:List (List a.T)} {h' :Option (Nat×Nat)} (hl:AQ i=some (.deep a xss h')) (B4:∀ n e,AQ n=some e->look L n=some e) {v:SV} {C2:CW}
  (h:yO AQ q.size a xss h' i k sz off (ρ y) pr=some (v,C2)):EJ TB P o ρ L v C2:=by
 unfold yO at h
 split at h
 rotate_left
 ·cases h
 rename_i hc
 obtain⟨hq1,rfl,rfl⟩:=hc
 split at h
 rotate_left
 ·cases h
 rename_i j hy
 split at h
 rotate_left
 ·cases h
 rename_i t' ys hj
 split at h
 rotate_left
 ·cases h
 rename_i he
 subst he
 have J_ :=B4 _ _ hl
 have YQ :=B4 _ _ hj
 obtain⟨hh,rfl,rfl⟩:(∀ k' j',h' =some (k',j')->k' =k)/\v=AV/\C2=[(j,.dead),(i,.deep t' (xss.set k ys) none)]:=by
  split at h
  ·simp only[pr,AY,C3] at h
   exact⟨fun k' j' he=>(by cases he),h.1.symm,h.2.symm⟩
  ·rename_i k0 j0
   split at h
   rotate_left
   ·cases h
   rename_i HK
   simp only[pr,AY,C3] at h
   exact⟨fun k' j' he=>(by simp only[AY,C3] at he;omega),h.1.symm,h.2.symm⟩
 refine BI fun c w E hH hw=> ?_
 obtain⟨G,hG⟩:=hH
 have UO:=hw x
 rw[hx] at UO
 obtain⟨NS,hk,hn⟩:=UO
 have hd:=hG.dp i _ _ _ J_
 have hlen:=hd.len
 have AEZ:=hd.off
 obtain⟨arr,ty,AIZ,YO⟩:∃ arr ty,w.heap[(E.nm i).B5]? =some (.cells arr ty (0,0))/\k<arr.size:=by
  rcases hd.cs with ⟨h1,_⟩|⟨h1,h2,h3,arr,ty,hs,h4,h5,_⟩
  ·rw[hn] at h1;cases h1
  ·exact⟨arr,ty,h4,by omega⟩
 have hcv:AK E (BD (ρ y))=[.slice (E.nm j).ad (E.nm j).len (E.nm j).cap]:=by rw[hy];rfl
 obtain⟨w',s1,s2,s3,s4,s5⟩:=OC (P:=P) (off:=k) (AK E (BD (ρ y))) w arr 0 AIZ (by
   rw[hcv]
   intro u hu
   simp only[F6] at hu;subst hu
   exact⟨fun c h=>(by cases h),fun c h=>(by cases h)⟩) (by rw[hcv];simp;omega)
 rw[hcv,L3] at s4
 simp only[pV] at s4
 have h1:=hG.AWZ (w' :=w') J_ YQ hh (by omega) s2 s3 s5 (fun AF3 ty2 _ ha _=>by
  rw[AIZ] at ha
  simp only[AY,Obj.cells.injEq] at ha
  obtain⟨rfl,rfl,_⟩:=ha
  exact⟨_,s4⟩)
 refine⟨w',_,.skip, ?_,.inr ⟨rfl,rfl⟩,⟨G,h1⟩,fun n hn=>⟨?_,BM rfl n (BM rfl n hn)⟩,rfl,trivial⟩
 ·simp only[execOp,EB,hx,SV.den,Sem.run_bind]
  have e:(E.nm i).off+(k*1+0)=k:=by omega
  rw[e,QF hq (by rw[hy];rfl) (by rw[hy,hq1];rfl) s1]
  rfl
 ·by_cases RR:n=i
  ·subst RR;exact (E.EI _ _ _).1
  ·exact (E.L4 _ _ RR).1
set_option maxHeartbeats 1000000 in
theorem AJF {o:Oper} {ρ:Operand->SV} {t:TypeId} {x y:Operand} (EB:o.op= .store t x y) {q:TypeInfo} (hq:P.info? t=some q) {i k hh j:Nat} (hx:ρ x= .tel i k hh j) (B4:∀ n e,AQ n=some e->look L n=some e) {v:SV} {C2:CW}
  (h:storeT AQ q.size i k hh j (ρ y) pr=some (v,C2)):EJ TB P o ρ L v C2:=by
 unfold storeT at h
 split at h
 rotate_left
 ·cases h
 rename_i t1 t2 xs hl
 split at h
 rotate_left
 ·cases h
 rename_i hc
 obtain⟨hq1,ALY,yW⟩:=hc
 have hcv:BD (ρ y)=[ρ y]:=by
  cases hy:ρ y <;> first|rfl|(rw[hy] at yW;cases yW)
 have step:∀ (tt:Ty) (z:tt.T) (nes:List NE) (u:CW) (x' :List t1.T×List t2.T),tt.GN=0->tt.sz=1->FA .Z0 H9 tt [ρ y]=some (z,[],nes,u)->hh<2→
   (∀ (G:Nat->Prop) (w w' :World) (mm:Nm),(∀ k x,xs[k]? =some x->FF (Rp G w t1) t1.sz w (mm.hn (k*2)) x.1/\FF (Rp G w t2) t2.sz w (mm.hn (k*2+1)) x.2)->k<xs.length→
    (∀ (ys:List tt.T),FF (Rp G w tt) tt.sz w (mm.hn (k*2+hh)) ys->FF (Rp G w' tt) tt.sz w' (mm.hn (k*2+hh)) (ys.set j z))→
    (∀ (k' e:Nat) (t' :Ty) (ys:List t'.T),k' <xs.length->e<2->k' *2+e≠k*2+hh->FF (Rp G w t') t'.sz w (mm.hn (k' *2+e)) ys->FF (Rp G w' t') t'.sz w' (mm.hn (k' *2+e)) ys)→
    FF (Rp G w' t1) t1.sz w' (mm.hn (k*2)) x'.1/\FF (Rp G w' t2) t2.sz w' (mm.hn (k*2+1)) x'.2)→
   (∀ (G:Nat->Prop) (w:World) (mm:Nm),(∀ k x,xs[k]? =some x->FF (Rp G w t1) t1.sz w (mm.hn (k*2)) x.1/\FF (Rp G w t2) t2.sz w (mm.hn (k*2+1)) x.2)->k<xs.length->∃ ys:List tt.T,FF (Rp G w tt) tt.sz w (mm.hn (k*2+hh)) ys)→
   EJ TB P o ρ L AV [(i,.tree t1 t2 (xs.set k x'))]:=by
  intro tt z nes u x' AQH YO hp hhh DC ABU
  refine BI fun c w E hhd hw=> ?_
  obtain⟨G,hG⟩:=hhd
  have htr:EX c G w (E.nm i) t1 t2 xs:=hG.KY i _ (B4 _ _ hl)
  have UO:=hw x
  rw[hx] at UO
  obtain⟨NS,hk,_,hj⟩:=UO
  rw[htr.len] at hk
  rcases htr.cs with ⟨h1,h1',_⟩|⟨h1,h2,h3,AZO,ty0,h4,h5,h6,h7,h8,h9⟩
  ·rw[h1'] at hk;simp at hk
  obtain⟨ys0,ND⟩:=ABU G w (E.nm i) h7 hk
  have A1H:=ND
  obtain⟨p1,_,p3⟩:=ND
  rcases p3 with ⟨_,p4,_⟩|⟨p4,p5,arr,ty,p6,p7,p8⟩
  ·rw[p1,p4] at hj;simp at hj
  obtain⟨c1,e1,hc1,_,hd⟩:=IV E _ _ _ _ _ _ hp
  rw[G5] at e1;subst e1
  have hbm:=h8 (k*2+hh) (by omega) p4
  have hbG:¬G ((E.nm i).hn (k*2+hh)).B5:=(htr.all _ hbm.1).1
  obtain⟨w',s1,s2,s3,s4,s5⟩:=JZ (P:=P) (off:=((E.nm i).hn (k*2+hh)).off+j) (AK E (BD (ρ y))) w arr 0 (fun j hj=>((E.nm i).hn (k*2+hh)).x8 hj) p6 (by rw[hcv];exact yR (by simp [yW]))
   (by rw[AT,hcv,HW];rw[p1] at hj;rw[YO] at p7;omega)
  rw[L3] at s4
  have hGs:∀ b,G b->w'.heap[b]? =w.heap[b]? :=fun b hb=>s5 b (fun he=>hbG (he ▸ hb))
  have hrp:Rp G w' tt z (AK E [ρ y]):=by
   rw[hd]
   refine Rp.mk _ _ _ fun k e he=> ?_
   have:(BY false tt z).length=0:=by rw[A_];exact AQH
   rw[SO (by omega)] at he;cases he
  have UD:∀ (ys:List tt.T),FF (Rp G w tt) tt.sz w ((E.nm i).hn (k*2+hh)) ys->FF (Rp G w' tt) tt.sz w' ((E.nm i).hn (k*2+hh)) (ys.set j z):=by
   intro ys hi
   obtain⟨r1,_,r3⟩:=hi
   rcases r3 with ⟨r4,_⟩|⟨r4,r5,W3,ty',r6,r7,r8⟩
   ·rw[p4] at r4;cases r4
   rw[p6] at r6
   simp only[AY,Obj.cells.injEq] at r6
   obtain⟨rfl,rfl,_⟩:=r6
   refine⟨by rw[ER];exact r1,trivial,.inr ⟨r4,by rw[ER];exact r5,_,_,by rw[QE];exact s4,by rw[QE];exact r7, ?_⟩⟩
   have pD:j<ys.length:=by rw[<-r1];exact hj
   have:=(r8.imp (R' :=Rp G w' tt) fun x vs hx=>Rp.mono hGs (fun _ h=>h) tt x vs hx).set (k:=j) hrp (by rw[hrp.length]) pD (by
    have:=qS tt.sz r5
    omega)
   rw[YO,Nat.mul_one] at this
   rw[hcv,YO]
   exact this
  have AF4:∀ (k' e:Nat) (t' :Ty) (ys:List t'.T),k' <xs.length->e<2->k' *2+e≠k*2+hh->FF (Rp G w t') t'.sz w ((E.nm i).hn (k' *2+e)) ys->FF (Rp G w' t') t'.sz w' ((E.nm i).hn (k' *2+e)) ys:=by
   intro k' e t' ys MC he CJ hi
   refine hi.mono (fun x vs hx=>Rp.mono hGs (fun _ h=>h) t' x vs hx) fun hn=>s5 _ ?_
   exact h9 _ _ (by omega) (by omega) CJ hn p4
  have dT:∀ b (xx:List (List t1.T×List t2.T)),(AW.tree t1 t2 xx).ow E i b↔b∈(E.nm i).ins.l:=fun b xx=>AW.cV
  have rT:AS c G w' E (C5 L (i,.tree t1 t2 (xs.set k x'))):=by
   refine hG.SQ (AP (B4 _ _ hl)) s2 (by omega) (fun _=>rfl) (fun _ _=>⟨rfl,rfl⟩) rfl (fun b _ VK=>s5 b (fun he=>VK ((dT b _).2 (he ▸ hbm.1))))
    (fun b hb=>⟨(htr.all b ((dT b _).1 hb)).2.1,(htr.all b ((dT b _).1 hb)).1⟩) (fun k' f MC hf b hb he=>hG.inj k' i f _ b MC hf (B4 _ _ hl) hb ((dT b xs).2 ((dT b _).1 he))) ?_ (fun t' xs' q he=>by cases he)
   refine⟨by rw[ER];exact htr.len,htr.off,htr.nd,fun b hb=> ?_,.inr ⟨h1,h2,by rw[ER];exact h3,AZO,ty0,by rw[s5 _ hbm.2.symm];exact h4,h5,by rw[ER];exact h6, ?_,by rw[ER];exact h8,by rw[ER];exact h9⟩⟩
   ·obtain⟨b1,b2,aa,tyy,fz,b3⟩:=htr.all b hb
    refine⟨b1,b2, ?_⟩
    by_cases hbe:b=((E.nm i).hn (k*2+hh)).B5
    ·rw[hbe];exact⟨_,_,_,s4⟩
    ·rw[s5 b hbe];exact⟨aa,tyy,fz,b3⟩
   ·intro k' xx MC
    rw[qW] at MC
    by_cases HK:k=k'
    ·subst HK
     rw[AA rfl,AA hk] at MC
     simp only[AY] at MC
     subst MC
     exact DC G w w' (E.nm i) h7 hk UD AF4
    ·rw[AB HK] at MC
     have C7:=(uA.1 MC).1
     obtain⟨i1,i2⟩:=h7 k' xx MC
     exact⟨AF4 k' 0 t1 _ C7 (by omega) (by omega) i1,AF4 k' 1 t2 _ C7 (by omega) (by omega) i2⟩
  refine⟨w',E,.skip, ?_,.inr ⟨rfl,rfl⟩,⟨G,rT⟩,fun n hn=>⟨rfl,BM rfl n hn⟩,rfl,trivial⟩
  simp only[execOp,EB,hx,SV.den,Sem.run_bind]
  rw[QF hq ALY (by rw[hcv,hq1];rfl) s1]
  rfl
 have hgd:∀ (hk:k<xs.length),xs[k]? =some (gd (.pair (.slice t1) (.slice t2)) xs k):=by
  intro hk
  unfold gd
  rw[qP,NB hk];rfl
 split at h
 ·split at h
  rotate_left
  ·cases h
  rename_i z nes u hp
  split at h
  rotate_left
  ·cases h
  rename_i hc2
  simp only[pr,AY,C3] at h
  obtain⟨rfl,rfl⟩:=h
  refine step t1 z nes u _ hc2.1 hc2.2 hp (by omega) ?_ ?_
  ·intro G w w' mm h7 hk UD AF4
   obtain⟨i1,i2⟩:=h7 k _ (hgd hk)
   exact⟨UD _ i1,AF4 k 1 t2 _ hk (by omega) (by omega) i2⟩
  ·intro G w mm h7 hk
   exact⟨_,(h7 k _ (hgd hk)).1⟩
 ·split at h
  rotate_left
  ·cases h
  rename_i z nes u hp
  split at h
  rotate_left
  ·cases h
  rename_i hc2
  simp only[pr,AY,C3] at h
  obtain⟨rfl,rfl⟩:=h
  refine step t2 z nes u _ hc2.1 hc2.2 hp (by omega) ?_ ?_
  ·intro G w w' mm h7 hk UD AF4
   obtain⟨i1,i2⟩:=h7 k _ (hgd hk)
   exact⟨AF4 k 0 t1 _ hk (by omega) (by omega) i1,UD _ i2⟩
  ·intro G w mm h7 hk
   exact⟨_,(h7 k _ (hgd hk)).2⟩
 ·cases h
theorem AJG {o:Oper} {ρ:Operand->SV} {t:TypeId} {x y:Operand} (EB:o.op= .store t x y) (B4:∀ n e,AQ n=some e->look L n=some e) {v:SV} {C2:CW}
  (h:mM P AQ t (ρ x) (ρ y) pr=some (v,C2)):EJ TB P o ρ L v C2:=by
 unfold mM at h
 split at h
 rotate_left
 ·cases h
 rename_i q hq
 split at h
 ·rename_i i off hx
  split at h
  rotate_left
  ·cases h
  rename_i cs hl
  split at h
  rotate_left
  ·cases h
  rename_i hc
  obtain⟨c1,c2,c3,c4⟩:=hc
  simp only[pr,AY,C3] at h
  obtain⟨rfl,rfl⟩:=h
  refine BI fun c w E hh hw=> ?_
  obtain⟨G,hG⟩:=hh
  obtain⟨h1,h2,h3,h4,⟨ty,h5⟩,h6⟩:=hG.KY i _ (B4 _ _ hl)
  obtain⟨w',s1,s2,s3,s4,s5⟩:=OC (P:=P) (off:=(E.nm i).pp.pre.length+off) (AK E (BD (ρ y))) w _ 0 h5 (yR c2) (by rw[Nm.rQ,AT,AT];omega)
  rw[L3,←AF0 E (E.nm i) _ cs off c4] at s4
  have UD:E.set i (E.nm i)=E:=by
   refine KL (fun k=> ?_) rfl (fun _=>rfl)
   by_cases hk:k=i
   ·subst hk;rw[Env.EE]
   ·exact E.GO _ hk
  have nW:KJ E (C5 L (i,.box (DJ cs off (BD (ρ y))))) (DJ cs off (BD (ρ y))):=by
   refine BP.2 fun u hu=> ?_
   refine (W2 (fun n hn=>BM rfl n hn) (fun _ _=>rfl) u ?_).1
   rcases hD hu with hu|hu
   ·exact BP.1 h6 u hu
   ·exact BP.1 (PR (hw y)) u hu
  have:=hG.change (i:=i) (e' := .box (DJ cs off (BD (ρ y)))) (m:=E.nm i) (w' :=w') (AP (B4 _ _ hl)) s2 (by omega) (fun _=>rfl) rfl
   (fun b _ hb=>s5 b (fun he=>hb (by simp [AW.own,he])))
   (fun b hb=>by simp only[AW.own,AY] at hb;subst hb;exact⟨h4,h3⟩)
   (fun k f hk hf b hb he=>hG.inj k i f (.box cs) b hk hf (B4 _ _ hl) hb (.inl (by simpa [AW.own] using he)))
   (fun _=>by rw[UD];exact⟨h1,h2,h3,h4,⟨ty,s4⟩,nW⟩)
  rw[UD] at this
  refine⟨w',E,.skip, ?_,.inr ⟨rfl,rfl⟩,⟨G,this⟩,fun n hn=>⟨rfl,BM rfl n hn⟩,rfl,trivial⟩
  simp only[execOp,EB,hx,SV.den,Sem.run_bind]
  rw[h2,QF hq c3 c1 s1]
  rfl
 ·rename_i i k sz off hx
  split at h
  ·rename_i a xs hl
   split at h
   ·exact ABT EB hq hx hl B4 h
   ·exact AF2 EB hq hx hl B4 h
  ·rename_i a xss hh hl
   exact AJE EB hq hx hl B4 h
  ·cases h
 ·rename_i i k hh j hx
  exact AJF EB hq hx B4 h
 ·cases h
end
end Go.V3
namespace Go.V3
open Go
variable {TB:Tb}
section
variable {P:Program} {AQ:Nat->Option AW} {L:AJ}
theorem AS.mT {c:DN TB} {G:Nat->Prop} {w w' :World} {E:Env} (h:AS c G w E L) {bs:Nat} (hl:look L bs=some .KI) {ob:Obj} (hw:w'.heap=w.heap.push ob) (hr:Rest w w') {e:AW} {m:Nm} (CJ:e.G6=false)
  (hm:m.B5=w.heap.size/\m.off=0/\m.nil=false) (RL:w'.heap[w.heap.size]? =some ob->¬c.Old w.heap.size->¬G w.heap.size->(∀ b,G b->w'.heap[b]? =w.heap[b]?)->YD c G w' (E.set bs m) (C5 L (bs,e)) m e) (hd:e.RO=false:=by rfl) (ht:e.N8=false:=by rfl):
  AS c G w' (E.set bs m) (C5 L (bs,e))/\(∀ n,Al L n->(E.set bs m).nm n=E.nm n/\Al (C5 L (bs,e)) n):=by
 have DC:w'.heap[w.heap.size]? =some ob:=by rw[hw];simp
 have CD:∀ b,b<w.heap.size->w'.heap[b]? =w.heap[b]? :=by
  intro b hb
  rw[hw,x6,AB (by omega)]
 have hold:¬c.Old w.heap.size:=fun hx=>by have:=hx.1;have:=h.size;omega
 have hG:¬G w.heap.size:=fun hx=>by have:=h.tV _ hx;omega
 have hbo:∀ b,e.own m=some b->b=w.heap.size:=by
  intro b hb
  cases e with
  |box cs=>simp only[AW.own,AY] at hb;rw[<-hb];exact hm.1
  |row t xs=>simp only[AW.own,hm.2.2,T8,I9,AY] at hb;rw[<-hb];exact hm.1
  |map xs=>simp only[AW.own,AY] at hb;rw[<-hb];exact hm.1
  |_=>cases hb
 refine⟨h.change (AP hl) hr (by rw[hw];simp) (fun hx=>absurd hx (EF hl)) CJ (fun b hb _=>CD b hb) (fun b hb=>by rw[hbo b hb];exact⟨hold,hG⟩) ?_ ?_ hd ht, ?_⟩
 ·intro k f _ hf b hb he
  have:=h.f_ hf hb
  rw[hbo b he] at this
  omega
 ·intro _
  exact RL DC hold hG (fun b hb=>CD b (h.tV b hb))
 ·intro n hn
  have RR:n≠bs:=fun he=>EF (he ▸ hl) hn
  exact⟨E.GO m RR,BM CJ n hn⟩
theorem Hd.fin {c:DN TB} {G:Nat->Prop} {w w' :World} {E:Env} (h:AS c G w E L) {bs:Nat} (hl:look L bs=some .KI) {arr:Array Value} {ty:TypeId} (hw:w'.heap=w.heap.push (.cells arr ty (0,0))) (hr:Rest w w') {a:Ty} {xs:List a.T} {cap:Nat} (AL:Bool)
  (YO:arr.size=cap*a.sz) (hle:xs.length<=cap) (TE:RowsIn (Rp G w a) a.sz arr 0 xs):
  Hd c w' (E.set bs ⟨w.heap.size,0,false,xs.length,cap,none⟩) (AI L (fin AL bs a xs))/\(∀ n,Al L n->(E.set bs ⟨w.heap.size,0,false,xs.length,cap,none⟩).nm n=E.nm n/\Al (AI L (fin AL bs a xs)) n)/\Al (AI L (fin AL bs a xs)) bs:=by
 obtain⟨h1,h2⟩:=h.mT hl hw hr (e:= .row a xs) (m:=⟨w.heap.size,0,false,xs.length,cap,none⟩) rfl ⟨rfl,rfl,rfl⟩
  (fun DC hold hG CD=>⟨rfl,trivial,.inr ⟨rfl,hG,hold,hle,arr,ty,DC,by show 0+cap*a.sz<=arr.size;omega,TE.imp fun x vs hx=>Rp.mono CD (fun _ h=>h) a x vs hx⟩⟩)
 have B4:look (C5 L (bs,.row a xs)) bs=some (.row a xs):=by rw[AZ (AP hl),AA rfl]
 cases AL with
 |true=>exact⟨⟨G,h1⟩,h2,⟨_,B4,rfl⟩⟩
 |false=>
  have h3:=h1.freeze B4
  refine⟨⟨_,h3⟩,fun n hn=>⟨(h2 n hn).1,BM rfl n (h2 n hn).2⟩,BM rfl bs ⟨_,B4,rfl⟩⟩
theorem AS.known {c:DN TB} {G:Nat->Prop} {w:World} {E:Env} (h:AS c G w E L) (B4:∀ n e,AQ n=some e->look L n=some e) {u:CW} (hu:∀ q∈u,∃ t ys e,AQ q.1=some e/\YP e t ys/\q.2= .shr t ys):
  ∃ G',AS c G' w E (AI L u)/\(∀ n,Al L n->Al (AI L u) n)/\jS .dS AQ E c G' w [] u []/\(∀ n,n∉u.map (·.1)->look (AI L u) n=look L n)/\(∀ b,G b->G' b):=by
 obtain⟨G1,h1,hg1,ha1,hk1,hq1⟩:=h.yH u (fun q hq=>by
  obtain⟨t,ys,e0,hl,ho0,e⟩:=hu q hq
  exact⟨t,ys,.inl ⟨e0,B4 _ _ hl,ho0⟩,e⟩)
 refine⟨G1,h1,ha1,⟨?_, ?_,fun i t ys _ hx=>by simp at hx,fun i t ys _ hx=>by simp at hx,fun i t1 t2 ys _ hx=>by simp at hx,fun i cs _ hx=>by simp at hx⟩, ?_,hg1⟩
 ·intro i t ys hl
  rcases hk1 i _ (B4 _ _ hl) with hx|⟨_,_,hx,_⟩
  ·exact h1.KY i _ hx
  ·cases hx
 ·rintro i t ys e0 hl ho0 (⟨hx,_⟩|hx)
  ·cases hx
  ·exact h1.KY i _ (hq1 _ hx)
 ·intro n hn
  cases hl:look L n with
  |some e=>
   rcases hk1 n e hl with hx|⟨t,ys,_,_,hx⟩
   ·exact hx
   ·exact absurd (C0.2 ⟨_,hx,rfl⟩) hn
  |none=>
   have hge:L.length<=n:=by
    rcases GY n L.length with h' |h'
    ·unfold look at hl;rw[NB h'] at hl;cases hl
    ·exact h'
   unfold look
   rw[SO (by rw[NQ];exact hge)]
theorem uL {a:Ty} {cs:List SV} {x:a.T} {r:List SV} {nes:List NE} {u:CW} (h:FA .dS AQ a cs=some (x,r,nes,u)):∀ q∈u,∃ t ys e,AQ q.1=some e/\YP e t ys/\q.2= .shr t ys:=by
 intro q hq
 obtain⟨_,g2⟩:=VN _ _ _ _ _ _ h
 obtain⟨k,t,s,xs,ne,uk,hs,CJ,hqk⟩:=g2 q hq
 rcases mD hs with rfl|⟨i,t',ys,e',hl,hoe,_,_,rfl⟩|hx
 ·cases hqk
 ·rw[F6] at hqk;subst hqk;exact⟨t',ys,e',hl,hoe,rfl⟩
 ·cases hx
theorem AJH {a:Ty}:∀ (n:Nat) (cs:List SV) (xs:List a.T) (u:CW),YG AQ a n cs=some (xs,u)->∀ q∈u,∃ t ys e,AQ q.1=some e/\YP e t ys/\q.2= .shr t ys:=by
 intro n
 induction n with
 |zero=>
  intro cs xs u h
  cases cs with
  |nil=>simp only[YG,AY,C3] at h;obtain⟨rfl,rfl⟩:=h;intro q hq;cases hq
  |cons v r=>simp [YG] at h
 |succ n ih=>
  intro cs xs u h
  simp only[YG] at h
  split at h
  rotate_left
  ·cases h
  rename_i x r nes u1 hp
  split at h
  rotate_left
  ·cases h
  rename_i xs' u2 hq
  simp only[AY,C3] at h
  obtain⟨rfl,rfl⟩:=h
  intro q O5
  rcases EV.1 O5 with O5 |O5
  ·exact uL hp q O5
  ·exact ih _ _ _ hq q O5
theorem wK (E:Env) (v:Value):(RN v).wf E L:=by
 cases v with
 |int k n=>cases k <;> first|trivial|(simp only[RN];split <;> trivial)
 |float k n=>cases k <;> trivial
 |slice a l c=>simp only[RN];split <;> trivial
 |_=>trivial
theorem j9 (E:Env) {t:TypeId} {z:List SV} (h:MX P t=some z):KJ E L z:=by
 unfold MX at h
 split at h
 ·split at h
  ·simp only[AY] at h
   subst h
   refine BP.2 fun v hv=> ?_
   obtain⟨u,_,rfl⟩:=C0.1 hv
   exact wK E u
  ·cases h
 ·cases h
theorem AJI {E:Env} {cs vs:List SV} (off:Nat) (h1:KJ E L cs) (h2:KJ E L vs):KJ E L (DJ cs off vs):=
 BP.2 fun u hu=>(hD hu).elim (BP.1 h1 u) (BP.1 h2 u)
theorem rU {E:Env} {place:Nat->Option (Nat×Nat)}:∀ (l:List (Nat×SV)) (cs gR :List SV),ZY place cs l=some gR ->KJ E L cs->(∀ q∈l,q.2.wf E L)->KJ E L gR
 | [],cs,gR,h,hw,_=>by simp only[ZY,AY] at h;subst h;exact hw
 |(i,v)::r,cs,gR,h,hw,hl=>by
  simp only[ZY] at h
  split at h
  ·cases h
  ·split at h
   ·exact rU r _ _ h (AJI _ hw (PR (hl (i,v) (by simp)))) (fun q hq=>hl q (by simp [hq]))
   ·cases h
theorem ALZ {E:Env} {z:List SV} (h:KJ E L z) (n size:Nat):KJ E L (fresh z n size):=by
 refine BP.2 fun v hv=> ?_
 unfold fresh at hv
 obtain⟨i,_,rfl⟩:=C0.1 hv
 simp only[List.getD]
 cases hz:z[i%size]? with
 |none=>exact trivial
 |some u=>exact BP.1 h u (YL hz)
theorem rV {o:Oper} {ρ:Operand->SV} {t:TypeId} {len:Nat} {parts:Array (Nat×Operand)} (EB:o.op= .buildSlice t len parts) {AL:Bool} {bs:Nat} (B4:∀ n e,AQ n=some e->look L n=some e) {v:SV} {C2:CW}
  (h:NT P AQ t len (parts.toList.map fun q=>(q.1,ρ q.2)) AL bs pr=some (v,C2)):EJ TB P o ρ L v C2:=by
 unfold NT at h
 split at h
 rotate_left
 ·cases h
 rename_i e hu
 split at h
 rotate_left
 ·cases h
 rename_i q z a hq hz hty
 split at h
 rotate_left
 ·cases h
 rename_i hc
 obtain⟨hzl,dF,YO,hna,DC⟩:=hc
 split at h
 rotate_left
 ·cases h
 rename_i cs hf
 split at h
 rotate_left
 ·cases h
 rename_i xs u hp
 simp only[pr,AY,C3] at h
 obtain⟨rfl,rfl⟩:=h
 have KZ:look L bs=some .KI:=B4 _ _ (by have:=CM DC 0 (by omega);simpa using this)
 refine BI fun c w E hh hw=> ?_
 obtain⟨G,hG⟩:=hh
 have yX:=AJH _ _ _ _ hp
 obtain⟨G',k1,k2,k3,k4,_⟩:=hG.known B4 yX
 have AZP:KJ E L cs:=rU _ _ _ hf (ALZ (j9 E hz) _ _) (by
  intro q' O5
  obtain⟨y,_,rfl⟩:=C0.1 O5
  exact hw y.2)
 obtain⟨l1,l2,l3⟩:=hO _ _ _ _ hp AZP k3
 have j_:look (AI L u) bs=some .KI:=by
  rw[k4 bs];exact KZ
  intro hx
  obtain⟨q',O5,he⟩:=C0.1 hx
  obtain⟨t',ys,e',hl,hoe,_⟩:=yX q' O5
  have:=B4 _ _ hl
  rw[he,KZ] at this;cases this;cases hoe
 obtain⟨f1,f2,f3⟩:=Hd.fin k1 j_ (w' :=w.alloc (.cells (AK E cs).toArray e)) (ty:=e) rfl ⟨rfl,rfl,rfl⟩ (a:=a) (xs:=xs) (cap:=len) AL (by simp [AT,l2]) (by omega) l3
 rw[BG]
 refine⟨w.alloc (.cells (AK E cs).toArray e),_,_, ?_,.inl rfl,f1,fun n hn=>f2 n (k2 n hn),rfl,f3⟩
 obtain⟨zv,hzr,hzc⟩:=S0 (E:=E) (P:=P) w hz
 simp only[execOp,EB,SV.den,Env.EE,Nm.ad,T8,I9,l1]
 refine CL ?_
 have QG:=W1 (E:=E) _ _ _ _ hna hf
 rw[n7 hzl] at QG
 have OD:(List.map (fun q=>(q.1,q.2.den E)) (List.map (fun y=>(y.1,ρ y.2)) parts.toList))=(parts.map fun (i,x)=>(i,(ρ x).den E)).toList:=by
  rw[S8,fW];rfl
 rw[OD] at QG
 simp only[Array.toArray_toList] at QG
 have h24:¬(len*q.size>2 ^ 24):=by
  have:(2:Nat) ^ 24=16777216:=rfl
  omega
 simp only[Instr.buildSlice,Sem.run_bind,run_underlying hu,Result.andThen,sizeOf,typeInfo]
 by_cases h0:len*q.size=0
 ·have hr:Array.range 0= #[]:=by decide
  rw[h0,hr] at QG
  simp [hq,h0,hr,newRow]
  simp at QG
  simp [QG]
 ·simp [hq,h24,h0,hzr,hzc,newRow]
  simp at QG
  simp [QG]
theorem TG {o:Oper} {ρ:Operand->SV} {E:Env} {w:World} {t e:TypeId} {len:Nat} {parts:Array (Nat×Operand)} (EB:o.op= .buildSlice t len parts) {q:TypeInfo} {z cs:List SV} (hu:P.underlying t=some (.slice e)) (hq:P.info? e=some q) (hz:MX P e=some z)
  (hzl:z.length=q.size) (YO:len*q.size<=16777216) (hna:TC (parts.toList.map fun q=>(q.1,ρ q.2))=true) (hf:ZY (fun i=>some (i*q.size,q.size)) (fresh z (len*q.size) q.size) (parts.toList.map fun q=>(q.1,ρ q.2))=some cs):
  (execOp (fun x=>(ρ x).den E) o).run P w= .ok (.value (.slice (some ⟨w.heap.size,0,none⟩) len len)) (w.alloc (.cells (AK E cs).toArray e)):=by
 obtain⟨zv,hzr,hzc⟩:=S0 (E:=E) (P:=P) w hz
 simp only[execOp,EB]
 refine CL ?_
 have QG:=W1 (E:=E) _ _ _ _ hna hf
 rw[n7 hzl] at QG
 have OD:(List.map (fun q=>(q.1,q.2.den E)) (List.map (fun y=>(y.1,ρ y.2)) parts.toList))=(parts.map fun (i,x)=>(i,(ρ x).den E)).toList:=by
  rw[S8,fW];rfl
 rw[OD] at QG
 simp only[Array.toArray_toList] at QG
 have h24:¬(len*q.size>2 ^ 24):=by
  have:(2:Nat) ^ 24=16777216:=rfl
  omega
 simp only[Instr.buildSlice,Sem.run_bind,run_underlying hu,Result.andThen,sizeOf,typeInfo]
 by_cases h0:len*q.size=0
 ·have hr:Array.range 0= #[]:=by decide
  rw[h0,hr] at QG
  simp [hq,h0,hr,newRow]
  simp at QG
  simp [QG]
 ·simp [hq,h24,h0,hzr,hzc,newRow]
  simp at QG
  simp [QG]
theorem AS.AH3 {c:DN TB} {G:Nat->Prop} {w w' :World} {E:Env} (h:AS c G w E L) {bs:Nat} (hl:look L bs=some .KI) (hr:Rest w w') (hs:w.heap.size<=w'.heap.size) {m:Nm} {l:List Nat} {t:Ty} {xss:List (List t.T)}
  (hw:∀ b,b<w.heap.size->b∉l->w'.heap[b]? =w.heap[b]?) (VK:∀ b∈l,H5 E L b) (hd:∀ (E' :Env) (L' :AJ),FB c G w' E' L' m l t xss none):
  AS c G w' (E.RQ bs m l) (C5 L (bs,.deep t xss none))/\(∀ n,Al L n->(E.RQ bs m l).nm n=E.nm n/\Al (C5 L (bs,.deep t xss none)) n)/\Al (C5 L (bs,.deep t xss none)) bs/\(E.RQ bs m l).nm bs=m:=by
 have dT:∀ b,(AW.deep t xss none).ow (E.RQ bs m l) bs b↔b∈l:=fun b=>by rw[AW.FE,(E.EI _ _ _).2]
 refine⟨h.SQ (AP hl) hr hs (fun hx=>absurd hx (EF hl)) (fun k hk=>E.L4 _ _ hk) rfl (fun b hb hn=>hw b hb (fun hx=>hn ((dT b).2 hx)))
  (fun b hb=>by have:=(hd E L).all b ((dT b).1 hb);exact⟨this.2.1,this.1⟩) (fun k f _ hf b hb he=>VK b ((dT b).1 he) k f hf hb) trivial ?_, ?_,⟨_,by rw[AZ (AP hl),AA rfl],rfl⟩,(E.EI _ _ _).1⟩
 ·intro t' xs' q he
  cases he
  rw[(E.EI _ _ _).1,(E.EI _ _ _).2]
  exact hd _ _
 ·intro n hn
  have RR:n≠bs:=fun he=>EF (he ▸ hl) hn
  exact⟨(E.L4 _ _ RR).1,BM rfl n hn⟩
theorem S2 {c:DN TB} {G:Nat->Prop} {w:World} {E:Env} (h:AS c G w E L):H5 E L w.heap.size:=by
 intro n e he hb
 have:=h.f_ he hb
 omega
theorem hP {c:DN TB} {G:Nat->Prop} {w:World} {E:Env} (h:AS c G w E L) {i b:Nat} {e:AW} (hi:look L i=some e) (hb:e.ow E i b):H5 E (C5 L (i,.dead)) b:=by
 intro n f hf PN
 rw[AZ (AP hi)] at hf
 by_cases hn:n=i
 ·subst hn
  simp only[GA,AY] at hf;subst hf
  rcases PN with PN|⟨PN,_⟩|⟨PN,_⟩ <;> cases PN
 ·rw[AB hn] at hf
  exact h.inj n i f e b hn hf hi PN hb
theorem H5.kill {E:Env} {b:Nat} (h:H5 E L b) {i:Nat} (hi:i<L.length):H5 E (C5 L (i,.dead)) b:=by
 intro n f hf PN
 rw[AZ hi] at hf
 by_cases hn:n=i
 ·simp only[hn,GA,AY] at hf;subst hf
  rcases PN with PN|⟨PN,_⟩|⟨PN,_⟩ <;> cases PN
 ·rw[AB hn] at hf
  exact h n f hf PN
theorem AM0 {o:Oper} {ρ:Operand->SV} {t:TypeId} {l cp:Operand} (EB:o.op= .makeSlice t l cp) {bs:Nat} (B4:∀ n e,AQ n=some e->look L n=some e) {v:SV} {C2:CW}
  (h:wE P AQ t (ρ l) (ρ cp) bs pr=some (v,C2)):EJ TB P o ρ L v C2:=by
 unfold wE at h
 split at h
 rotate_left
 ·cases h
 rename_i e hu
 split at h
 rotate_left
 ·cases h
 rename_i q a k n k' m hq hz hty hl hcp
 split at h
 rotate_left
 ·cases h
 rename_i hc
 obtain⟨mU,hqb,DC⟩:=hc
 split at h
 rotate_left
 ·cases h
 rename_i hn
 obtain⟨h0,h1,h2⟩:=hn
 simp only[pr,AY,C3] at h
 obtain⟨rfl,rfl⟩:=h
 have KZ:look L bs=some .KI:=B4 _ _ (by have:=CM DC 0 (by omega);simpa using this)
 refine BI fun c w E hh hw=> ?_
 obtain⟨G,hG⟩:=hh
 have AUD:I64 m:=by
  have:(1:Int)<=q.bytes:=by omega
  have:m*1<=m*q.bytes:=AAT this (by omega)
  exact⟨by omega,by omega⟩
 have IX:=run_makeSlice (E:=E) (k:=k) (k' :=k') w hu hq hz (by rw[mU];rfl) h0 h1 h2 AUD
 have hold:¬c.Old w.heap.size:=fun hx=>by have:=hx.1;have:=hG.size;omega
 have hGn:¬G w.heap.size:=fun hx=>by have:=hG.tV _ hx;omega
 have CD:∀ (o:Obj) (b:Nat),b<w.heap.size->(w.alloc o).heap[b]? =w.heap[b]? :=by
  intro o b hb
  show (w.heap.push o)[b]? =_
  rw[x6,AB (by omega)]
 have QH:∀ (o:Obj),(w.alloc o).heap[w.heap.size]? =some o:=by
  intro o
  show (w.heap.push o)[w.heap.size]? =_
  simp
 obtain⟨g1,g2,g3,g4⟩:=hG.AH3 (w' :=w.alloc (.cells ((Array.range (m.toNat*([SV.KX]:List SV).length)).map fun i=>(AK E [SV.KX]).toArray[i%(AK E [SV.KX]).toArray.size]!) e)) KZ ⟨rfl,rfl,rfl⟩ (by show _<=(w.heap.push _).size;simp) (m:=⟨w.heap.size,0,false,n.toNat,m.toNat,none⟩) (l:=[w.heap.size]) (t:=a) (xss:=List.replicate n.toNat [])
  (fun b hb _=>CD _ b hb) (by intro b hb;simp only[F6] at hb;subst hb;exact S2 hG)
  (by
   intro E' L'
   refine⟨by simp,rfl,by simp, ?_,.inr ⟨rfl,by simp,by simp;omega,_,e,fun _=>⟨0,0,true,0,0,none⟩,QH _,by simp, ?_, ?_, ?_,fun _ _ he=>by cases he⟩⟩
   ·intro b hb
    simp only[F6] at hb;subst hb
    exact⟨hGn,hold,_,_,_,QH _⟩
   ·intro i hi
    simp only[ZP] at hi
    rw[Array.getElem?_map,Array.getElem?_range,AA (by simp;omega)]
    have:i%(AK E [SV.KX]).toArray.size=0:=Nat.mod_one i
    simp only[ZT,this]
    rfl
   ·intro i xs hi _
    rw[qQ] at hi
    split at hi
    ·simp only[AY] at hi;subst hi
     exact⟨⟨rfl,trivial,.inl ⟨rfl,rfl,rfl⟩⟩,fun hx=>by cases hx⟩
    ·cases hi
   ·intro i j _ _ _ _ _ hx;cases hx)
 refine⟨_,_,_, ?_,.inl rfl,⟨G,g1⟩,g2,rfl,g3⟩
 simp only[execOp,EB,hl,hcp,SV.den]
 rw[g4]
 exact CL IX
theorem AJJ {o:Oper} {ρ:Operand->SV} {t:TypeId} {len:Nat} {parts:Array (Nat×Operand)} (EB:o.op= .buildSlice t len parts) {bs:Nat} (B4:∀ n e,AQ n=some e->look L n=some e) {v:SV} {C2:CW}
  (h:mO P AQ t len (parts.toList.map fun q=>(q.1,ρ q.2)) bs pr=some (v,C2)):EJ TB P o ρ L v C2:=by
 unfold mO at h
 split at h
 rotate_left
 ·cases h
 rename_i e hu
 split at h
 rotate_left
 ·rename_i q a hq hz hty OD
  split at h
  rotate_left
  ·cases h
  rename_i hc
  obtain⟨mU,rfl,DC⟩:=hc
  simp only[pr,AY,C3] at h
  obtain⟨rfl,rfl⟩:=h
  have KZ:look L bs=some .KI:=B4 _ _ (by have:=CM DC 0 (by omega);simpa using this)
  refine BI fun c w E hh hw=> ?_
  obtain⟨G,hG⟩:=hh
  have IX:=TG (E:=E) (w:=w) (cs:=[.KX]) EB hu hq hz (by rw[mU];rfl) (by rw[mU];omega) (by rw[OD];rfl) (by rw[OD,mU];rfl)
  have hold:¬c.Old w.heap.size:=fun hx=>by have:=hx.1;have:=hG.size;omega
  have hGn:¬G w.heap.size:=fun hx=>by have:=hG.tV _ hx;omega
  have QH:∀ (o:Obj),(w.alloc o).heap[w.heap.size]? =some o:=by
   intro o
   show (w.heap.push o)[w.heap.size]? =_
   simp
  have CD:∀ (o:Obj) (b:Nat),b<w.heap.size->(w.alloc o).heap[b]? =w.heap[b]? :=by
   intro o b hb
   show (w.heap.push o)[b]? =_
   rw[x6,AB (by omega)]
  obtain⟨g1,g2,g3,g4⟩:=hG.AH3 (w' :=w.alloc (.cells (AK E [SV.KX]).toArray e)) KZ ⟨rfl,rfl,rfl⟩ (by show _<=(w.heap.push _).size;simp) (m:=⟨w.heap.size,0,false,1,1,none⟩) (l:=[w.heap.size]) (t:=a) (xss:=[[]])
   (fun b hb _=>CD _ b hb) (by intro b hb;simp only[F6] at hb;subst hb;exact S2 hG)
   (by
    intro E' L'
    refine⟨rfl,rfl,by simp, ?_,.inr ⟨rfl,by simp,by simp,_,e,fun _=>⟨0,0,true,0,0,none⟩,QH _,by simp [AK], ?_, ?_, ?_,fun _ _ he=>by cases he⟩⟩
    ·intro b hb
     simp only[F6] at hb;subst hb
     exact⟨hGn,hold,_,_,_,QH _⟩
    ·intro i hi
     simp only[HW] at hi
     have:i=0:=by omega
     subst this
     rfl
    ·intro i xs hi _
     cases i with
     |succ i=>simp at hi
     |zero=>
      simp only[O1,AY] at hi;subst hi
      exact⟨⟨rfl,trivial,.inl ⟨rfl,rfl,rfl⟩⟩,fun hx=>by cases hx⟩
    ·intro i j _ _ _ _ _ hx;cases hx)
  refine⟨_,_,_,IX,.inl ?_,⟨G,g1⟩,g2,rfl,g3⟩
  simp only[SV.den];rw[g4];rfl
 ·cases h
 rename_i q a j hq hz hty OD
 split at h
 rotate_left
 ·cases h
 rename_i t' ys hj
 split at h
 rotate_left
 ·cases h
 rename_i he
 subst he
 split at h
 rotate_left
 ·cases h
 rename_i hc
 obtain⟨mU,rfl,DC⟩:=hc
 simp only[pr,AY,C3] at h
 obtain⟨rfl,rfl⟩:=h
 have KZ:look L bs=some .KI:=B4 _ _ (by have:=CM DC 0 (by omega);simpa using this)
 have YQ :=B4 _ _ hj
 refine BI fun c w E hh hw=> ?_
 obtain⟨G,hG⟩:=hh
 have IX:=TG (E:=E) (w:=w) (cs:=[.MB j]) EB hu hq hz (by rw[mU];rfl) (by rw[mU];omega) (by rw[OD];rfl) (by rw[OD,mU];rfl)
 have hold:¬c.Old w.heap.size:=fun hx=>by have:=hx.1;have:=hG.size;omega
 have hGn:¬G w.heap.size:=fun hx=>by have:=hG.tV _ hx;omega
 have V1:=hG.kill (AP YQ)
 have hjb:j≠bs:=by rintro rfl;rw[YQ] at KZ;cases KZ
 have j_:look (C5 L (j,.dead)) bs=some .KI:=by rw[AZ (AP YQ),AB (fun he=>hjb he.symm)];exact KZ
 have CO:=hG.KY j _ YQ
 have hjo:(E.nm j).nil=false->(AW.row t' ys).ow E j (E.nm j).B5:=fun hn=> .inl (by simp [AW.own,hn])
 have QH:∀ (o:Obj),(w.alloc o).heap[w.heap.size]? =some o:=by
  intro o
  show (w.heap.push o)[w.heap.size]? =_
  simp
 have CD:∀ (o:Obj) (b:Nat),b<w.heap.size->(w.alloc o).heap[b]? =w.heap[b]? :=by
  intro o b hb
  show (w.heap.push o)[b]? =_
  rw[x6,AB (by omega)]
 have C7:(E.nm j).nil=false->(E.nm j).B5<w.heap.size:=fun hn=>hG.f_ YQ (hjo hn)
 obtain⟨g1,g2,g3,g4⟩:=V1.AH3 (w' :=w.alloc (.cells (AK E [SV.MB j]).toArray e)) j_ ⟨rfl,rfl,rfl⟩ (by show _<=(w.heap.push _).size;simp) (m:=⟨w.heap.size,0,false,1,1,none⟩) (l:=mS (E.nm j) [w.heap.size]) (t:=t') (xss:=[ys])
  (fun b hb _=>CD _ b hb)
  (by
   intro b hb
   rcases K6.1 hb with hb|⟨hn,rfl⟩
   ·simp only[F6] at hb;subst hb;exact S2 V1
   ·exact hP hG YQ (hjo hn))
  (by
   intro E' L'
   have ND:=CO.inner
   refine⟨rfl,rfl, ?_, ?_,.inr ⟨rfl,K6.2 (.inl (by simp)),by simp,_,e,fun _=>E.nm j,QH _,by simp [AK], ?_, ?_, ?_,fun _ _ he=>by cases he⟩⟩
   ·unfold mS
    split
    ·simp
    ·rename_i hn
     have:=C7 (by simpa using hn)
     simp;omega
   ·intro b hb
    rcases K6.1 hb with hb|⟨hn,rfl⟩
    ·simp only[F6] at hb;subst hb
     exact⟨hGn,hold,_,_,_,QH _⟩
    ·obtain⟨q1,q2, -⟩:=hG.O3 YQ (hjo hn)
     obtain⟨-, -,TE⟩:=hG.KY _ _ YQ
     rcases TE with ⟨vS,_⟩|⟨_,_,_,_,arr,ty,q3,_⟩
     ·rw[hn] at vS;cases vS
     ·exact⟨q1,q2,arr,ty,_,by rw[CD _ _ (C7 hn)];exact q3⟩
   ·intro i hi
    simp only[HW] at hi
    have:i=0:=by omega
    subst this
    rfl
   ·intro i xs hi _
    cases i with
    |succ i=>simp at hi
    |zero=>
     simp only[O1,AY] at hi
     subst hi
     refine⟨ND.mono (fun x vs hx=>Rp.mono (fun b hb=>CD _ b (hG.tV b hb)) (fun _ h=>h) _ x vs hx) (fun hn=>CD _ _ (C7 hn)),fun hn=>⟨K6.2 (.inr ⟨hn,rfl⟩), ?_⟩⟩
     have:=C7 hn
     show (E.nm j).B5≠w.heap.size
     omega
   ·intro i i' hi J_ hii
    simp at hi J_
    omega)
 refine⟨_,_,_,IX,.inl ?_,⟨G,g1⟩,fun n hn=> ?_,rfl,g3⟩
 ·simp only[SV.den];rw[g4];rfl
 ·obtain⟨q1,q2⟩:=g2 n (BM rfl n hn)
  exact⟨q1,q2⟩
theorem uM {o:Oper} {ρ:Operand->SV} {t:TypeId} {l cp:Operand} (EB:o.op= .makeSlice t l cp) {AL:Bool} {bs:Nat} (B4:∀ n e,AQ n=some e->look L n=some e) {v:SV} {C2:CW}
  (h:PQ P AQ t (ρ l) (ρ cp) AL bs pr=some (v,C2)):EJ TB P o ρ L v C2:=by
 unfold PQ at h
 split at h
 rotate_left
 ·cases h
 rename_i e hu
 split at h
 rotate_left
 ·cases h
 rename_i q z a k n k' m hq hz hty hl hcp
 split at h
 rotate_left
 ·cases h
 rename_i zv nes u0 hpz
 split at h
 rotate_left
 ·cases h
 rename_i hc
 obtain⟨hzl,dF,hqb,DC⟩:=hc
 split at h
 rotate_left
 ·cases h
 rename_i hn
 obtain⟨h0,h1,h2⟩:=hn
 simp only[pr,AY,C3] at h
 obtain⟨rfl,rfl⟩:=h
 have KZ:look L bs=some .KI:=B4 _ _ (by have:=CM DC 0 (by omega);simpa using this)
 refine BI fun c w E hh hw=> ?_
 obtain⟨G,hG⟩:=hh
 have AUD:I64 m:=by
  have:(1:Int)<=q.bytes:=by omega
  have:m*1<=m*q.bytes:=AAT this (by omega)
  exact⟨by omega,by omega⟩
 have hrp:Rp G w a zv (AK E z):=by
  obtain⟨c1,e1,_,_,hd⟩:=IV E _ _ _ _ _ _ hpz
  rw[G5] at e1;subst e1
  rw[hd]
  refine Rp.mk _ _ _ fun k e he=> ?_
  obtain⟨g1,_⟩:=VN _ _ _ _ _ _ hpz
  rcases g1 k false e he with rfl|⟨t,s,ys,ne,uk,hs,CJ,hsc,JB,rfl⟩
  ·trivial
  have hnf:DY E nes k=ne.nm E:=by simp [DY,CJ]
  rw[hnf]
  exact mE (L:=L) hs (by simp) (BP.1 (j9 E hz) s hsc) (fun i t ys h=>by simp [H9] at h) (fun i t ys e _ h=>by simp [H9] at h)
 have TE:RowsIn (Rp G w a) a.sz ((Array.range (m.toNat*z.length)).map fun i=>(AK E z).toArray[i%(AK E z).toArray.size]!) 0 (List.replicate n.toNat zv):=by
  intro i x hx
  rw[qQ] at hx
  split at hx
  ·rename_i hi
   simp only[AY] at hx;subst hx
   have hzs:z.length=a.sz:=by omega
   have C7:(i+1)*a.sz<=m.toNat*a.sz:=qS _ (by omega)
   rw[ZU] at C7
   have:BH ((Array.range (m.toNat*z.length)).map fun i=>(AK E z).toArray[i%(AK E z).toArray.size]!) (0+i*a.sz) a.sz=AK E z:=by
    apply T9
    intro j
    rw[B9]
    split
    ·rename_i hj
     rw[I7,Array.getElem?_map,Array.getElem?_range,AA (by rw[hzs];omega)]
     have e1:(AK E z).toArray.size=a.sz:=by simp [AT,hzs]
     simp only[ZT,e1]
     have AUE:(i*a.sz+j)%a.sz=j:=by rw[fY,Nat.mul_add_mod,YM hj]
     have pD:j<(AK E z).length:=by rw[AT,hzs];exact hj
     rw[AUE,NB pD]
     simp [pD]
    ·rw[SO (by rw[AT];omega)]
   rw[this];exact hrp
  ·cases hx
 have hlen:(List.replicate n.toNat zv).length=n.toNat:=by simp
 obtain⟨f1,f2,f3⟩:=Hd.fin hG KZ (w' :=w.alloc (.cells ((Array.range (m.toNat*z.length)).map fun i=>(AK E z).toArray[i%(AK E z).toArray.size]!) e)) (ty:=e) rfl ⟨rfl,rfl,rfl⟩ (a:=a) (xs:=List.replicate n.toNat zv) (cap:=m.toNat) AL
  (by simp;rw[hzl,dF]) (by rw[hlen];omega) TE
 refine⟨_,_,_, ?_,.inl rfl,f1,f2,rfl,f3⟩
 simp only[execOp,EB,hl,hcp,SV.den,Env.EE,Nm.ad,T8,I9,hlen]
 exact CL (run_makeSlice (E:=E) w hu hq hz hzl h0 h1 h2 AUD)
theorem AJK {o:Oper} {ρ:Operand->SV} {t:TypeId} (EB:o.op= .alloc t) {AL:Bool} {bs:Nat} (B4:∀ n e,AQ n=some e->look L n=some e) {v:SV} {C2:CW}
  (h:mN P AQ t AL bs pr=some (v,C2)):EJ TB P o ρ L v C2:=by
 unfold mN at h
 split at h
 rotate_left
 ·cases h
 rename_i z hz
 split at h
 rotate_left
 ·cases h
 rename_i DC
 have KZ:look L bs=some .KI:=B4 _ _ (by have:=CM DC 0 (by omega);simpa using this)
 have IX:∀ (E:Env) (w:World),(execOp (fun x=>(ρ x).den E) o).run P w= .ok (.value (.pointer (some ⟨w.heap.size,0,none⟩))) (w.alloc (.cells (AK E z).toArray t)):=by
  intro E w
  obtain⟨zv,hzr,hzc⟩:=S0 (E:=E) (P:=P) w hz
  simp only[execOp,EB]
  refine CL ?_
  simp only[Instr.alloc,Sem.run_bind,hzr,Result.andThen]
  simp [rO,hzc]
 split at h
 ·rename_i len e _
  split at h
  rotate_left
  ·cases h
  rename_i a q hty hq
  split at h
  rotate_left
  ·cases h
  rename_i hc
  obtain⟨dF,yY,hlen⟩:=hc
  split at h
  rotate_left
  ·cases h
  rename_i xs u hp
  simp only[pr,AY,C3] at h
  obtain⟨rfl,rfl⟩:=h
  refine BI fun c w E hh hw=> ?_
  obtain⟨G,hG⟩:=hh
  obtain⟨l1,l2,l3⟩:=hO (L:=L) (c:=c) (G:=G) (w:=w) (E:=E) _ _ _ _ hp (j9 E hz) (gB .dS)
  obtain⟨f1,f2,f3⟩:=Hd.fin hG KZ (w' :=w.alloc (.cells (AK E z).toArray t)) (ty:=t) rfl ⟨rfl,rfl,rfl⟩ (a:=a) (xs:=xs) (cap:=len) AL (by simp [AT,l2]) (by omega) l3
  refine⟨_,_,_,IX E w,.inl ?_,f1,f2,rfl,⟨f3,by rw[Env.EE];show 0<xs.length;omega,by rw[Env.EE]⟩⟩
  simp only[SV.den,Env.EE]
  simp
 ·split at h
  rotate_left
  ·cases h
  simp only[pr,AY,C3] at h
  obtain⟨rfl,rfl⟩:=h
  refine BI fun c w E hh hw=> ?_
  obtain⟨G,hG⟩:=hh
  have hwz:∀ (E' :Env) (L' :AJ),KJ E' L' z/\AK E' z=AK E z:=by
   intro E' L'
   have:∀ (E1:Env) (L1:AJ) (l:List Value),KJ E1 L1 (l.map RN)/\AK E1 (l.map RN)=l:=fun E1 L1 l=>
    ⟨BP.2 fun v hv=>by obtain⟨u,_,rfl⟩:=C0.1 hv;exact wK E1 u,UK l⟩
   unfold MX at hz
   split at hz
   ·split at hz
    ·simp only[AY] at hz
     subst hz
     exact⟨(this _ _ _).1,by rw[(this E' L' _).2,(this E L _).2]⟩
    ·cases hz
   ·cases hz
  obtain⟨k1,k2⟩:=hG.mT KZ (w' :=w.alloc (.cells (AK E z).toArray t)) (ob:= .cells (AK E z).toArray t (0,0)) rfl ⟨rfl,rfl,rfl⟩ (e:= .box z) (m:=⟨w.heap.size,0,false,0,0,none⟩) rfl ⟨rfl,rfl,rfl⟩
   (fun DC hold hG CD=>⟨rfl,rfl,hG,hold,⟨t,by rw[(hwz (E.set bs ⟨w.heap.size,0,false,0,0,none⟩) L).2,Nm.AH1 _ rfl rfl];exact DC⟩,(hwz _ _).1⟩)
  refine⟨_,_,_,IX E w,.inl ?_,⟨G,k1⟩,k2,rfl, ?_⟩
  ·simp only[SV.den,Env.EE]
  ·exact⟨.box z,by show look (C5 L (bs,.box z)) bs=_;rw[AZ (AP KZ),AA rfl],rfl⟩
theorem AQI {o:Oper} {ρ:Operand->SV} {t:TypeId} {x:Operand} (EB:o.op= .box t x) {bs:Nat} (B4:∀ n e,AQ n=some e->look L n=some e) {v:SV} {C2:CW}
  (h:AJ6 AQ (ρ x) bs pr=some (v,C2)):EJ TB P o ρ L v C2:=by
 unfold AJ6 at h
 split at h
 rotate_left
 ·cases h
 rename_i hc
 obtain⟨hr,DC⟩:=hc
 have KZ:look L bs=some .KI:=B4 _ _ (by have:=CM DC 0 (by omega);simpa using this)
 simp only[pr,AY,C3] at h
 obtain⟨rfl,rfl⟩:=h
 refine BI fun c w E hh hw=> ?_
 obtain⟨G,hG⟩:=hh
 have QA:=gQ (E:=E) (ρ x) hr
 have K8:∀ m:Nm,KJ (E.set bs m) (C5 L (bs,.box (BD (ρ x)))) (BD (ρ x))/\AK (E.set bs m) (BD (ρ x))=AK E (BD (ρ x)):=by
  intro m
  exact KK (fun n hn=>BM rfl n hn) (fun n hn=>E.GO m (fun he=>EF (he ▸ KZ) hn)) _ (PR (hw x))
 obtain⟨k1,k2⟩:=hG.mT KZ (w' :=w.alloc (.cells (AK E (BD (ρ x))).toArray t)) (ob:= .cells (AK E (BD (ρ x))).toArray t (0,0)) rfl ⟨rfl,rfl,rfl⟩ (e:= .box (BD (ρ x))) (m:=⟨w.heap.size,0,false,0,0,none⟩) rfl ⟨rfl,rfl,rfl⟩
  (fun DC hold hG CD=>⟨rfl,rfl,hG,hold,⟨t,by rw[(K8 _).2,Nm.AH1 _ rfl rfl];exact DC⟩,(K8 _).1⟩)
 refine⟨w.alloc (.cells (AK E (BD (ρ x))).toArray t),_,.value (.pointer (some ⟨w.heap.size,0,none⟩)), ?_,.inl ?_,⟨G,k1⟩,k2,rfl, ?_⟩
 ·simp only[execOp,EB]
  refine CL ?_
  simp [Instr.box,rO,QA]
 ·simp only[SV.den,Env.EE]
 ·exact⟨.box (BD (ρ x)),by show look (C5 L (bs,.box (BD (ρ x)))) bs=_;rw[AZ (AP KZ),AA rfl],rfl⟩
end
theorem wL:∀ (vs cs:List SV) (off:Nat),off+vs.length<=cs.length->DJ cs off vs=cs.take off++vs++cs.drop (off+vs.length)
 | [],cs,off,h=>by simp [DJ]
 |v::r,cs,off,h=>by
  simp only[N3] at h
  rw[DJ,wL r _ _ (by rw[ER];omega)]
  have e1:(cs.set off v).take (off+1)=cs.take off++ [v]:=by
   rw[List.take_add_one,List.getElem?_set_self (by omega),List.take_set_of_le (ED _)]
   rfl
  rw[e1,List.drop_set_of_lt (by omega),N3,show off+1+r.length=off+(r.length+1) from by omega]
  simp
theorem AS.AX3 {c:DN TB} {G:Nat->Prop} {w:World} {E:Env} {L:AJ} (h:AS c G w E L) {i j:Nat} {cs:List SV} (hi:look L i=some (.box cs)) (hj:look L j=some .KI) (off n:Nat) (hn:off+n<=cs.length):
  AS c G w (E.set j { B5:=(E.nm i).B5,off:=(E.nm i).off+off,nil:=false,len:=0,cap:=0,UA:=none,pp:=⟨(E.nm i).pp.pre++AK E (cs.take off),AK E (cs.drop (off+n))++(E.nm i).pp.post⟩ }) (C5 (C5 L (i,.dead)) (j,.box ((cs.drop off).take n))):=by
 obtain⟨h1,h2,h3,h4,⟨ty,h5⟩,h6⟩:=h.KY i _ hi
 have jD:j≠i:=by rintro rfl;rw[hi] at hj;cases hj
 have hk:=h.kill (AP hi)
 have yV:look (C5 L (i,.dead)) j=some .KI:=by rw[AZ (AP hi),AB jD];exact hj
 have NS:∀ k,Al L k->k≠j:=fun k hk he=>EF hj (he ▸ hk)
 have CD:∀ l,KJ E L l->∀ m:Nm,KJ (E.set j m) (C5 (C5 L (i,.dead)) (j,.box ((cs.drop off).take n))) l/\AK (E.set j m) l=AK E l:=fun l hl m=>
  KK (fun k hk=>BM rfl k (BM rfl k hk)) (fun k hk=>E.GO m (NS k hk)) l hl
 have V4:=BP.2 (fun v hv=>BP.1 h6 v (vK (vJ hv)):∀ v∈(cs.drop off).take n,v.wf E L)
 refine hk.change (i:=j) (e' := .box ((cs.drop off).take n)) (w' :=w) (AP yV) (.refl _) (ED _) (fun hx=>absurd hx (EF yV)) rfl (fun _ _ _=>rfl) ?_ ?_ ?_
 ·intro b hb
  simp only[AW.own,AY] at hb
  subst hb
  exact⟨h4,h3⟩
 ·intro k f hkj hf b hb he
  simp only[AW.own,AY] at he
  rw[AZ (AP hi)] at hf
  by_cases gA:k=i
  ·subst gA;simp only[GA,AY] at hf;subst hf;rcases hb with hb|⟨hb,_⟩|⟨hb,_⟩ <;> cases hb
  ·rw[AB gA] at hf
   exact h.inj k i f (.box cs) b gA hf hi hb (.inl (by simp [AW.own,he]))
 ·intro _
  refine⟨rfl,by simp [h2,AT];omega,h3,h4,⟨ty, ?_⟩,(CD _ V4 _).1⟩
  rw[(CD _ V4 _).2,h5]
  congr 2
  simp only[Nm.arr]
  congr 1
  have e:cs=cs.take off++((cs.drop off).take n++cs.drop (off+n)):=by
   rw[<-List.drop_drop,vI,vI]
  conv=>lhs;rw[e]
  simp only[FW,I6]
theorem AS.AZQ {c:DN TB} {G:Nat->Prop} {w:World} {E:Env} {L:AJ} (h:AS c G w E L) {i j:Nat} {cs gR :List SV} (jD:i≠j) (hi:i<L.length) (hj:look L j=some (.box gR)) (off:Nat) (hn:off+gR.length<=cs.length)
  (hb:(E.nm j).B5=(E.nm i).B5) (SX:(E.nm i).nil=false) (ho:(E.nm i).off=(E.nm i).pp.pre.length)
  (AZR:(E.nm j).pp.pre=(E.nm i).pp.pre++AK E (cs.take off)) (AX4:(E.nm j).pp.post=AK E (cs.drop (off+gR.length))++(E.nm i).pp.post) (hcs:KJ E L cs):
  AS c G w E (C5 (C5 L (j,.dead)) (i,.box (DJ cs off gR))):=by
 obtain⟨h1,h2,h3,h4,⟨ty,h5⟩,h6⟩:=h.KY j _ hj
 have hk:=h.kill (AP hj)
 have UD:E.set i (E.nm i)=E:=by
  refine KL (fun k=> ?_) rfl (fun _=>rfl)
  by_cases hk:k=i
  ·subst hk;rw[Env.EE]
  ·exact E.GO _ hk
 have:=hk.change (i:=i) (e' := .box (DJ cs off gR)) (m:=E.nm i) (w' :=w) (by rw[FK];exact hi) (.refl _) (ED _) (fun _=>rfl) rfl (fun _ _ _=>rfl) ?_ ?_ ?_
 ·rw[UD] at this;exact this
 ·intro b RZ
  simp only[AW.own,AY] at RZ
  subst RZ
  rw[<-hb]
  exact⟨h4,h3⟩
 ·intro k f gA hf b RZ he
  simp only[AW.own,AY] at he
  rw[AZ (AP hj)] at hf
  by_cases hkj:k=j
  ·subst hkj;simp only[GA,AY] at hf;subst hf;rcases RZ with RZ |⟨RZ,_⟩|⟨RZ,_⟩ <;> cases RZ
  ·rw[AB hkj] at hf
   exact h.inj k j f (.box gR) b hkj hf hj RZ (.inl (by simp [AW.own,hb,he]))
 ·intro _
  rw[UD]
  refine⟨SX,ho,by rw[<-hb];exact h3,by rw[<-hb];exact h4,⟨ty, ?_⟩, ?_⟩
  ·rw[<-hb,h5]
   congr 2
   simp only[Nm.arr]
   rw[wL _ _ _ hn,AZR,AX4]
   simp only[FW,I6]
  ·refine (KK (fun k hk=>BM rfl k (BM rfl k hk)) (fun _ _=>rfl) _ ?_).1
   refine BP.2 fun u hu=> ?_
   rcases hD hu with hu|hu
   ·exact BP.1 hcs u hu
   ·exact BP.1 h6 u hu
theorem AM1 {P:Program} {fi:FnI} {base:Nat} {AQ:Nat->Option AW} {args:List SV} {v:SV} {C2:CW} (h:wA fi base AQ args (fun v u=>some (v,u))=some (v,C2)) {f:FuncId} (hc:CallsV P TB f fi)
  {L:AJ} (B4:∀ n e,AQ n=some e->look L n=some e) {c:DN TB} {w:World} {E:Env} (hh:Hd c w E L) (hw:KJ E L args):
  Calls P f (AK E args).toArray w (fun e w' =>∃ E',e= .returned (v.den E')/\Hd c w' E' (AI L C2)/\(∀ n,Al L n->E'.nm n=E.nm n/\Al (AI L C2) n)/\E'.ds=E.ds/\v.wf E' (AI L C2)):=by
 unfold wA at h
 split at h
 ·exact rM h hc B4 hh hw
 rename_i p i off n cs hf
 have hfp:MY AQ fi.ps args 0=some (p,i,off,n,cs):=by
  split at hf
  ·exact hf
  ·cases hf
 obtain⟨-,hap,hbx⟩:=n5 _ _ _ hfp
 rw[Nat.sub_zero] at hap
 split at h
 rotate_left
 ·cases h
 rename_i hck
 obtain⟨hn,DC⟩:=hck
 generalize hj:base+(cnts fi.rs+UC fi.os)=j at h DC
 have hjr:=B4 _ _ (CM DC 0 (by omega))
 rw[L3] at hjr
 have hbi:=B4 _ _ hbx
 obtain⟨G,hG⟩:=hh
 obtain⟨h1,h2,h3,h4, -,h6⟩:=hG.KY i _ hbi
 have hcv:=hG.AX3 hbi hjr off n hn
 generalize hm:({ B5:=(E.nm i).B5,off:=(E.nm i).off+off,nil:=false,len:=0,cap:=0,UA:=none,pp:=⟨(E.nm i).pp.pre++AK E (cs.take off),AK E (cs.drop (off+n))++(E.nm i).pp.post⟩ }:Nm)=m at hcv
 have jD:j≠i:=by rintro rfl;rw[hbi] at hjr;cases hjr
 have NS:∀ k,Al L k->k≠j:=fun k hk he=>EF hjr (he ▸ hk)
 have yQ:∀ k,Al L k->Al (C5 (C5 L (i,.dead)) (j,.box ((cs.drop off).take n))) k:=fun k hk=>BM rfl k (BM rfl k hk)
 have CD:∀ l,KJ E L l->KJ (E.set j m) (C5 (C5 L (i,.dead)) (j,.box ((cs.drop off).take n))) l/\AK (E.set j m) l=AK E l:=fun l hl=>
  KK yQ (fun k hk=>E.GO m (NS k hk)) l hl
 have hjL:j<(C5 L (i,AW.dead)).length:=by rw[FK];exact AP hjr
 have hj2:look (C5 (C5 L (i,.dead)) (j,.box ((cs.drop off).take n))) j=some (.box ((cs.drop off).take n)):=by rw[AZ hjL,AA rfl]
 have hi2:look (C5 (C5 L (i,.dead)) (j,.box ((cs.drop off).take n))) i=some .dead:=by rw[AZ hjL,AB (fun he=>jD he.symm),AZ (AP hbi),AA rfl]
 rw[V0,AAQ] at h
 obtain⟨⟨v0,u⟩,AGU,h⟩:=h
 simp only at h
 split at h
 rotate_left
 ·cases h
 rename_i gR hlb
 split at h
 rotate_left
 ·cases h
 rename_i hlen
 simp only[AY,C3] at h
 obtain⟨rfl,rfl⟩:=h
 have MZ:KJ (E.set j m) (C5 (C5 L (i,.dead)) (j,.box ((cs.drop off).take n))) (args.set p (.loc j 0)):=by
  refine BP.2 fun x hx=> ?_
  rcases List.mem_or_eq_of_mem_set hx with hx|rfl
  ·exact BP.1 (CD _ hw).1 x hx
  ·exact⟨_,hj2,rfl⟩
 have gY:AK (E.set j m) (args.set p (.loc j 0))=AK E args:=by
  rw[ZW]
  rw[(CD _ hw).2]
  apply T9
  intro k
  rw[qW]
  split
  ·rename_i hpk
   subst hpk
   rw[FJ,hap]
   have C7:p<(AK E args).length:=by rw[AT];exact (uA.1 hap).1
   rw[AA C7,ZT]
   simp only[SV.den,Env.EE,←hm,L3]
  ·rfl
 have hr:=rM AGU hc (L:=C5 (C5 L (i,.dead)) (j,.box ((cs.drop off).take n))) (fun k e he=>by
  split at he
  ·cases he
  ·rename_i gA
   split at he
   ·rename_i hkj
    subst hkj
    simp only[AY] at he
    subst he
    exact hj2
   ·rename_i hkj
    rw[AZ hjL,AB hkj,AZ (AP hbi),AB gA]
    exact B4 _ _ he) ⟨G,hcv⟩ MZ
 rw[gY] at hr
 refine hr.mono ?_
 rintro e w' ⟨E',he,⟨G',hH⟩,hnm,hds,hv⟩
 have hj3:look (AI (C5 (C5 L (i,.dead)) (j,.box ((cs.drop off).take n))) u) j=some (.box gR):=rN j u (C5 (C5 L (i,.dead)) (j,.box ((cs.drop off).take n))) none (fun _ h=>by cases h) (by rw[FK];exact hjL) hlb
 have AUF:∀ k,Al L k->Al (AI (C5 (C5 L (i,.dead)) (j,.box ((cs.drop off).take n))) u) k:=fun k hk=>(hnm k (yQ k hk)).2
 have AUG:∀ k,Al L k->E'.nm k=E.nm k:=fun k hk=>by rw[(hnm k (yQ k hk)).1,E.GO m (NS k hk)]
 have hnj:E'.nm j=m:=by rw[(hnm j ⟨_,hj2,rfl⟩).1,Env.EE]
 have RR:E'.nm i=E.nm i:=AUG i ⟨_,hbi,rfl⟩
 have hcs:∀ l,(∀ x∈l,x∈cs)->KJ E' (AI (C5 (C5 L (i,.dead)) (j,.box ((cs.drop off).take n))) u) l/\AK E' l=AK E l:=fun l hl=>
  KK AUF AUG l (BP.2 fun x hx=>BP.1 h6 x (hl x hx))
 have AX5:=hH.AZQ (i:=i) (j:=j) (cs:=cs) (fun he=>jD he.symm) (AP (AUF i ⟨_,hbi,rfl⟩).choose_spec.1) hj3 off (by rw[hlen];exact hn)
  (by rw[hnj,RR,←hm]) (by rw[RR];exact h1) (by rw[RR];exact h2)
  (by rw[hnj,RR,(hcs _ (fun x hx=>vJ hx)).2,←hm]) (by rw[hnj,RR,hlen,(hcs _ (fun x hx=>vK hx)).2,←hm]) (hcs cs fun _ h=>h).1
 have eu:AI L ([(i,.dead),(j,.box ((cs.drop off).take n))]++(u++ [(j,.dead),(i,.box (DJ cs off gR))]))=C5 (C5 (AI (C5 (C5 L (i,.dead)) (j,.box ((cs.drop off).take n))) u) (j,.dead)) (i,.box (DJ cs off gR)):=by
  rw[BG,BG]
  rfl
 rw[eu]
 refine⟨E',he,⟨G',AX5⟩,fun k hk=>⟨AUG k hk,BM rfl k (BM rfl k (AUF k hk))⟩,hds, ?_⟩
 exact (W2 (fun k hk=>BM rfl k (BM rfl k hk)) (fun _ _=>rfl) v0 hv).1
theorem AM2 {P:Program} {d:Bool} {fi:FnI} {base:Nat} {AQ:Nat->Option AW} {args:List SV} {v:SV} {C2:CW} (h:AGV d fi base AQ args (fun v u=>some (v,u))=some (v,C2)) {f:FuncId} (hc:CallsV P TB f fi)
  {L:AJ} (B4:∀ n e,AQ n=some e->look L n=some e) {c:DN TB} {w:World} {E:Env} (hh:Hd c w E L) (hw:KJ E L args):
  Calls P f (AK E args).toArray w (fun e w' =>∃ E',e= .returned (v.den E')/\Hd c w' E' (AI L C2)/\(∀ n,Al L n->E'.nm n=E.nm n/\Al (AI L C2) n)/\E'.ds=E.ds/\v.wf E' (AI L C2)):=by
 cases d
 ·exact AM1 h hc B4 hh hw
 ·exact ALL h hc B4 hh hw
end Go.V3
namespace Go.V3
open Go
variable {TB:Tb}
section
variable {P:Program} {AQ:Nat->Option AW} {L:AJ}
def Rd {α:Type} (R:α->List Value->Prop) (sz:Nat) (w:World) (m:Nm) (xs:List α):Prop:=
 m.len=xs.length/\m.len<=m.cap/\(xs=[]\/(m.nil=false/\∃ arr ty fz,w.heap[m.B5]? =some (.cells arr ty fz)/\RowsIn R sz arr m.off xs))
theorem AF5 {α:Type} {R:α->List Value->Prop} {sz:Nat} {w:World} {m:Nm} {xs:List α} (h:Rd R sz w m xs) {lo n:Nat} (hl:lo+n<=m.len):
  Rd R sz w (if m.cap=lo then { B5:=m.B5,off:=m.off,nil:=m.nil,len:=n,cap:=m.cap-lo,UA:=m.UA,fz:=m.fz } else { B5:=m.B5,off:=m.off+lo*sz,nil:=m.nil,len:=n,cap:=m.cap-lo,UA:=l_ m.UA (lo*sz),fz:=m.fz }) (BX xs lo n):=by
 obtain⟨h1,h0,h2⟩:=h
 have hs:o_ R sz (fun _=>True) w m xs:=⟨h1,h0,h2.imp id fun ⟨a,b⟩=>⟨a,trivial,b⟩⟩
 obtain⟨k1,k0,k2⟩:=jP hs hl
 exact⟨k1,k0,k2.imp id fun ⟨a,_,b⟩=>⟨a,b⟩⟩
theorem rW {α:Type} {R:α->List Value->Prop} {sz:Nat} {c:DN TB} {G:Nat->Prop} {w:World} {m:Nm} {xs:List α} (h:Own R sz c G w m xs):Rd R sz w m xs:=by
 have hc:=cT h
 obtain⟨h1,h2,h3⟩:=h
 refine⟨h1,hc, ?_⟩
 rcases h3 with ⟨_,h4,_⟩|⟨h4,h5,h6,h7,arr,ty,h8,h9,uG⟩
 ·exact .inl h4
 ·exact .inr ⟨h4,arr,ty,_,h8,uG⟩
theorem AQJ {α:Type} {R:α->List Value->Prop} {sz:Nat} {c:DN TB} {G:Nat->Prop} {w:World} {m:Nm} {xs:List α} (h:Own R sz c G w m xs) {n:Nat} (hn:n<=xs.length):Own R sz c G w (m.cut n) (BX xs 0 n):=by
 obtain⟨h1,h2,h3⟩:=h
 have hl:(BX xs 0 n).length=n:=by unfold BX;simp;omega
 refine⟨hl.symm,h2, ?_⟩
 rcases h3 with ⟨h4,rfl,h6⟩|⟨h4,h5,h6,h7,arr,ty,h8,h9,uG⟩
 ·exact .inl ⟨h4,by simp [BX],h6⟩
 ·refine .inr ⟨h4,h5,h6,by show _<=m.cap;omega,arr,ty,h8,h9,fun k x hk=>uG k x ?_⟩
  unfold BX at hk
  rw[List.drop_zero,jG] at hk
  split at hk
  ·exact hk
  ·cases hk
theorem AF6 {α:Type} {R:α->List Value->Prop} {sz:Nat} {G:Nat->Prop} {w:World} {m:Nm} {xs:List α} (h:o_ R sz G w m xs):Rd R sz w m xs:=
 ⟨h.1,h.2.1,h.2.2.imp id fun ⟨a,_,b⟩=>⟨a,b⟩⟩
theorem ABV {md:PM} {a:Ty} {v:SV} {xs:List a.T} {ne:NE} {u:CW} (h:MD md AQ a v=some (xs,ne,u)) (rG:md≠ .own) (H8:UN AQ v=false) {E:Env} (hv:v.wf E L) {G:Nat->Prop} {w:World}
  (h1:∀ i t ys,AQ i=some (.shr t ys)\/AQ i=some (.row t ys)->Rd (Rp G w t) t.sz w (E.nm i) ys):Rd (Rp G w a) a.sz w (ne.nm E) xs:=by
 unfold MD at h
 repeat' split at h
 all_goals first|(cases h;done)|skip
 all_goals (simp only[AY,C3] at h;obtain⟨rfl,rfl,rfl⟩:=h)
 all_goals first|exact absurd rfl rG|skip
 ·exact⟨rfl,ED _,.inl rfl⟩
 ·rename_i hl he _ _;subst he;exact h1 _ _ _ (.inl hl)
 ·rename_i hl he _;subst he;exact h1 _ _ _ (.inr hl)
 ·rename_i hl he _;subst he;exact h1 _ _ _ (.inr hl)
 ·rename_i hl he _;simp [UN,hl] at H8
 ·rename_i hl he _;simp [UN,hl] at H8
 ·rename_i hl he _;simp [UN,hl] at H8
 ·rename_i hl he _;simp [UN,hl] at H8
 ·rename_i hz _ _ _ hl he _ _;subst he;subst hz;exact AF5 (h1 _ _ _ (.inl hl)) hv.2
 ·rename_i hz _ _ _ hl he _;subst he;subst hz;exact AF5 (h1 _ _ _ (.inr hl)) hv.2
 ·rename_i hz _ _ _ hl he _;subst he;subst hz;exact AF5 (h1 _ _ _ (.inr hl)) hv.2
theorem AJL {G:Nat->Prop} {w:World} {a:Ty} {arr:Array Value} {off:Nat} {xs:List a.T} (h:RowsIn (Rp G w a) a.sz arr off xs) (hx:xs≠[]):off+xs.length*a.sz<=arr.size:=by
 have C7:xs.length-1<xs.length:=by
  cases xs with
  |nil=>exact absurd rfl hx
  |cons _ _=>simp
 have:=h (xs.length-1) _ (NB C7)
 have h2:=n8 this.length (AEI a)
 have e:(xs.length-1)*a.sz+a.sz=xs.length*a.sz:=by
  rw[<-Nat.succ_mul];congr 1;omega
 omega
theorem rX {G:Nat->Prop} {w:World} {a:Ty} {m:Nm} {xs:List a.T} (h:Rd (Rp G w a) a.sz w m xs):∃ cells:List Value,cells.length=xs.length*a.sz∧
  (∀ w' :World,w'.heap=w.heap->(Builtin.firstCells a.sz xs.length (.slice m.ad m.len m.cap)).run P w' = .ok cells.toArray w')∧
  (∀ (arr:Array Value) (o:Nat),BH arr o (xs.length*a.sz)=cells->RowsIn (Rp G w a) a.sz arr o xs)/\Flat cells:=by
 obtain⟨h1,h0,h2⟩:=h
 rcases h2 with rfl|⟨hn,arr,ty,fz,h3,h4⟩
 ·refine⟨[],by simp,fun w' _=> ?_,fun arr o _ i x hx=>by simp at hx,fun v hv=>by cases hv⟩
  cases had:m.ad with
  |none=>rfl
  |some p=>
   have:=run_loadCells_list (P:=P) w' p [] (fun j v hj=>by simp at hj)
   show (loadCells p (0*a.sz)).run P w' =_
   rw[Nat.zero_mul];exact this
 ·by_cases hx:xs=[]
  ·subst hx
   refine⟨[],by simp,fun w' _=> ?_,fun arr o _ i x hx=>by simp at hx,fun v hv=>by cases hv⟩
   cases had:m.ad with
   |none=>rfl
   |some p=>
    have:=run_loadCells_list (P:=P) w' p [] (fun j v hj=>by simp at hj)
    show (loadCells p (0*a.sz)).run P w' =_
    rw[Nat.zero_mul];exact this
  ·have hs:=AJL h4 hx
   refine⟨BH arr m.off (xs.length*a.sz),by unfold BH;simp;omega,fun w' hw' => ?_,fun W3 o he=>h4.ABI he, ?_⟩
   ·rw[<-h1]
    exact TF hn (by rw[hw'];exact h3) (by rw[h1];exact hs)
   ·intro v hv
    obtain⟨j,hj,rfl⟩:=qT hv
    have pD:j<xs.length*a.sz:=by unfold BH at hj;simp at hj;omega
    have YO:=AEI a
    have hq:j / a.sz<xs.length:=Nat.div_lt_of_lt_mul (by rw[fY];exact pD)
    have hr:=h4 (j / a.sz) _ (NB hq)
    refine Rp.AGW a _ _ hr _ ?_
    have AUE:=Nat.div_add_mod j a.sz
    rw[fY] at AUE
    have hml:=P9 j YO
    have:(BH arr (m.off+j / a.sz*a.sz) a.sz)[j%a.sz]? =(BH arr m.off (xs.length*a.sz))[j]? :=by
     rw[B9,B9,AA hml,AA pD]
     congr 1;omega
    rw[NB hj] at this
    exact YL this
theorem dG {c:DN TB} {G:Nat->Prop} {w:World} {E:Env} {bs:Nat} {a:Ty} {xs:List a.T} (AL:Bool) (hb:bs<L.length) (h:AS c G w E (C5 L (bs,.row a xs))):
  Hd c w E (AI L (fin AL bs a xs))/\(∀ n,Al (C5 L (bs,.row a xs)) n->Al (AI L (fin AL bs a xs)) n)/\Al (AI L (fin AL bs a xs)) bs:=by
 have B4:look (C5 L (bs,.row a xs)) bs=some (.row a xs):=by rw[AZ hb,AA rfl]
 cases AL with
 |true=>exact⟨⟨G,h⟩,fun _ hn=>hn,⟨_,B4,rfl⟩⟩
 |false=>exact⟨⟨_,h.freeze B4⟩,fun n hn=>BM rfl n hn,BM rfl bs ⟨_,B4,rfl⟩⟩
set_option maxHeartbeats 1000000 in
theorem AF7 {o:Oper} {ρ:Operand->SV} {args:Array Operand} {ts:Array TypeId} (EB:o.op= .call { callee:= .builtin .append,args:=args,argTypes:=ts }) {x y:SV} (MZ:args.toList.map ρ=[x,y])
  {AL:Bool} {bs:Nat} (B4:∀ n e,AQ n=some e->look L n=some e) (H8:UN AQ y=false) {v:SV} {C2:CW} (h:dD P AQ ts.toList x y AL bs pr=some (v,C2)):EJ TB P o ρ L v C2:=by
 unfold dD at h
 split at h
 rotate_left
 ·cases h
 rename_i t0 t1 hts
 split at h
 rotate_left
 ·cases h
 rename_i e e1 hu hu1
 split at h
 rotate_left
 ·cases h
 rename_i q z a hq hz hty
 split at h
 rotate_left
 ·cases h
 rename_i hc
 obtain⟨hzl,dF,hqb,DC⟩:=hc
 split at h
 rotate_left
 ·cases h
 rename_i xs ne1 u1 ys ne u2 pS hp2
 split at h
 rotate_left
 ·cases h
 rename_i VU
 split at h
 rotate_left
 ·cases h
 rename_i hby
 simp only[pr,AY,C3] at h
 obtain⟨rfl,rfl⟩:=h
 have KZ:look L bs=some .KI:=B4 _ _ (by have:=CM DC 0 (by omega);simpa using this)
 obtain⟨zv,hzv⟩:∃ zv,q.zero=some zv:=by
  unfold MX at hz
  rw[hq] at hz
  simp only at hz
  split at hz
  ·exact⟨_,by assumption⟩
  ·cases hz
 have hzc:zv.cells.size=a.sz:=by
  unfold MX at hz
  rw[hq] at hz
  simp only[hzv,AY] at hz
  have:z.length=zv.cells.size:=by rw[<-hz];simp
  omega
 have pE:ts[0]? =some t0:=by rw[<-gM,hts];rfl
 have pF:ts[1]? =some t1:=by rw[<-gM,hts];rfl
 refine BI fun c w E hh hw=> ?_
 obtain⟨G,hG⟩:=hh
 have U8:∀ u∈[x,y],u.wf E L:=by
  rw[<-MZ]
  intro u hu
  obtain⟨k,_,rfl⟩:=C0.1 hu
  exact hw k
 have rG:PM.Z0≠ .own:=by simp
 have yX:∀ q∈u2,∃ t ys e,AQ q.1=some e/\YP e t ys/\q.2= .shr t ys:=by
  intro q O5
  rcases mD hp2 with rfl|⟨i,t',ys',e',hl,hoe,_,_,rfl⟩|hx
  ·cases O5
  ·rw[F6] at O5;subst O5;exact⟨t',ys',e',hl,hoe,rfl⟩
  ·exact absurd hx rG
 obtain⟨G1,k1,k2,k3,k4,k5⟩:=hG.known B4 yX
 have AUH:∀ i t zs,AQ i=some (.shr t zs)\/AQ i=some (.row t zs)->Rd (Rp G1 w t) t.sz w (E.nm i) zs:=by
  intro i t zs hl
  rcases hl with hl|hl
  ·exact AF6 (k3.shr i t zs hl)
  ·have:=hG.KY i _ (B4 _ _ hl)
   have h2:=rW this
   exact⟨h2.1,h2.2.1,h2.2.2.imp id fun ⟨p1,arr,ty,fz,p2,p3⟩=>⟨p1,arr,ty,fz,p2,p3.imp fun x vs hx=>Rp.mono (fun _ _=>rfl) k5 t x vs hx⟩⟩
 have AX6:Rd (Rp G1 w a) a.sz w (ne.nm E) ys:=ABV hp2 rG H8 (U8 y (by simp)) AUH
 have hy:=mC hp2 E
 have j_:look (AI L u2) bs=some .KI:=by
  rw[k4 bs];exact KZ
  intro hx
  obtain⟨q',O5,he⟩:=C0.1 hx
  obtain⟨t',ys',e',hl,hoe,_⟩:=yX q' O5
  have:=B4 _ _ hl
  rw[he,KZ] at this;cases this;cases hoe
 have n9:∀ (w' :World) (r:Value) (X:Value),x.den E=X->(Builtin.append_ ts o.type #[X,.slice (ne.nm E).ad (ne.nm E).len (ne.nm E).cap]).run P w= .ok r w' ->(execOp (fun x=>(ρ x).den E) o).run P w= .ok (.value r) w' :=by
  intro w' r X hX hr
  have hU :(args.map fun x=>(ρ x).den E)= #[X,.slice (ne.nm E).ad (ne.nm E).len (ne.nm E).cap]:=by
   apply YC
   have:(args.toList.map ρ).map (SV.den E)=[X,.slice (ne.nm E).ad (ne.nm E).len (ne.nm E).cap]:=by rw[MZ];simp [hX,hy]
   rw[S8] at this
   rw[fW]
   exact this
  simp only[execOp,EB,resolve,invoke,Sem.run_bind,Sem.run_pure,Result.andThen,hU,builtin,hr]
 obtain⟨news,n1,n2,n3,n4⟩:=rX (P:=P) AX6
 have UP:=AX6.1
 have AH4:∀ (L2:AJ) (od:Option Addr),AS c G1 w E L2->look L2 bs=some .KI->xs++ys=[]->AI L (u2++u1++fin AL bs a (xs++ys))=AI L2 (fin AL bs a (xs++ys))->(∀ n,Al L n->Al L2 n)→
   (execOp (fun x=>(ρ x).den E) o).run P w= .ok (.value (.slice od 0 0)) w→
   ∃ (w' :World) (E' :Env) (nx:Next),(execOp (fun x=>(ρ x).den E) o).run P w= .ok nx w' /\(nx= .value ((SV.MB bs).den E')\/(nx= .skip/\(SV.MB bs)=AV))∧
   Hd c w' E' (AI L (u2++u1++fin AL bs a (xs++ys)))/\(∀ n,Al L n->E'.nm n=E.nm n/\Al (AI L (u2++u1++fin AL bs a (xs++ys))) n)/\E'.ds=E.ds/\(SV.MB bs).wf E' (AI L (u2++u1++fin AL bs a (xs++ys))):=by
  intro L2 od hH hr SX yX NS IX
  rw[yX,SX]
  have h1:=hH.change (i:=bs) (e' := .row a []) (m:=⟨0,0,true,0,0,od⟩) (w' :=w) (AP hr) (.refl _) (ED _) (fun hx=>absurd hx (EF hr)) rfl (fun _ _ _=>rfl) (fun b hb=>by cases hb) (fun _ _ _ _ _ _ hb=>by cases hb)
   (fun _=>⟨rfl,trivial,.inl ⟨rfl,rfl,rfl⟩⟩)
  obtain⟨f1,f2,f3⟩:=dG AL (AP hr) h1
  refine⟨w,E.set bs ⟨0,0,true,0,0,od⟩,_,IX,.inl ?_,f1,fun n hn=>⟨E.GO _ (fun he=>EF (he ▸ KZ) hn),f2 n (BM rfl n (NS n hn))⟩,rfl,f3⟩
  simp [SV.den,Env.EE,Nm.ad]
 have ABW:∀ (L2:AJ) (m:Nm),AS c G1 w E L2->look L2 bs=some .KI->Rd (Rp G1 w a) a.sz w m xs->x.den E= .slice m.ad m.len m.cap->m.cap<m.len+(ne.nm E).len->AI L (u2++u1++fin AL bs a (xs++ys))=AI L2 (fin AL bs a (xs++ys))->(∀ n,Al L n->Al L2 n)→
   ∃ (w' :World) (E' :Env) (nx:Next),(execOp (fun x=>(ρ x).den E) o).run P w= .ok nx w' /\(nx= .value ((SV.MB bs).den E')\/(nx= .skip/\(SV.MB bs)=AV))∧
   Hd c w' E' (AI L (u2++u1++fin AL bs a (xs++ys)))/\(∀ n,Al L n->E'.nm n=E.nm n/\Al (AI L (u2++u1++fin AL bs a (xs++ys))) n)/\E'.ds=E.ds/\(SV.MB bs).wf E' (AI L (u2++u1++fin AL bs a (xs++ys))):=by
  intro L2 m hH hr yZ hx rY yX NS
  rw[yX]
  obtain⟨olds,o1,o2,o3,o4⟩:=rX (P:=P) yZ
  obtain⟨c',hc',IX⟩:=run_append_grow (P:=P) (w:=w) (ty:=o.type) (a:=m.ad) (b:=(ne.nm E).ad) (len:=m.len) (cap:=m.cap) (n:=(ne.nm E).len) (c:=(ne.nm E).cap) (news:=news) (olds:=olds) pE pF hu hu1 hq hzv hqb
   (by rw[dF];have:=n2 w.drew rfl;rw[UP];rw[UP] at this;exact this)
   (by rw[dF];have:=o2 w.drew rfl;rw[yZ.1];rw[yZ.1] at this;exact this) rY (by rw[yZ.1,UP];exact hby)
  have YO:(olds.toArray++news.toArray++Builtin.zeroCells zv.cells (c' -(m.len+(ne.nm E).len))).size=c' *a.sz:=by
   have hzs:(Builtin.zeroCells zv.cells (c' -(m.len+(ne.nm E).len))).size=(c' -(m.len+(ne.nm E).len))*a.sz:=by
    simp [Builtin.zeroCells,hzc]
   simp only[Array.size_append,hzs,List.size_toArray,o1,n1]
   rw[<-yZ.1,←UP,←ZU,←ZU]
   congr 1;omega
  have TE:RowsIn (Rp G1 w a) a.sz (olds.toArray++news.toArray++Builtin.zeroCells zv.cells (c' -(m.len+(ne.nm E).len))) 0 (xs++ys):=by
   refine RowsIn.append (o3 _ _ ?_) ?_
   rotate_left
   rw[I7]
   refine n3 _ _ ?_
   rotate_left
   ·apply T9
    intro j
    rw[B9]
    split
    ·rw[I7,AAP (by simp;omega),AAP (by simp;omega)];simp
    ·rw[SO (by omega)]
   ·apply T9
    intro j
    rw[B9]
    split
    ·rw[AAP (by simp;omega),Array.getElem?_append_right (by simp;omega)]
     simp only[List.size_toArray,o1,qR]
     congr 1;omega
    ·rw[SO (by omega)]
  obtain⟨h1,h2⟩:=hH.mT hr (w' :=w.drew.alloc (.cells (olds.toArray++news.toArray++Builtin.zeroCells zv.cells (c' -(m.len+(ne.nm E).len))) e)) (ob:= .cells (olds.toArray++news.toArray++Builtin.zeroCells zv.cells (c' -(m.len+(ne.nm E).len))) e (0,0)) rfl ⟨rfl,rfl,rfl⟩ (e:= .row a (xs++ys)) (m:=⟨w.heap.size,0,false,(xs++ys).length,c',none⟩) rfl ⟨rfl,rfl,rfl⟩
   (fun DC hold hG CD=>⟨rfl,trivial,.inr ⟨rfl,hG,hold,by have:=yZ.1;simp;omega,_,e,DC,by rw[YO];show 0+c' *a.sz<=_;omega,TE.imp fun x vs hx=>Rp.mono CD (fun _ h=>h) a x vs hx⟩⟩)
  obtain⟨f1,f2,f3⟩:=dG AL (AP hr) h1
  refine⟨_,_,_,n9 _ _ _ hx IX,.inl ?_,f1,fun n hn=>⟨E.GO _ (fun he=>EF (he ▸ KZ) hn),f2 n (BM rfl n (NS n hn))⟩,rfl,f3⟩
  have hlen:m.len+(ne.nm E).len=(xs++ys).length:=by rw[yZ.1,UP];simp
  simp [SV.den,Env.EE,Nm.ad,hlen]
 rcases AB6 pS with ⟨rfl,rfl,rfl,rfl⟩|⟨i,zs,nn,hl,rfl,hxs,AZS⟩
 ·
  have hxd:SV.KX.den E= .slice none 0 0:=rfl
  have wM:AI L (u2++ []++fin AL bs a ([]++ys))=AI (AI L u2) (fin AL bs a ([]++ys)):=by simp [BG]
  by_cases hn:ys=[]
  ·have jF:(ne.nm E).len=0:=by rw[UP,hn];rfl
   refine AH4 (AI L u2) none k1 j_ (by simp [hn]) wM k2 ?_
   refine n9 w _ _ hxd ?_
   have:=HZ (P:=P) (w:=w) (w' :=w) (ty:=o.type) (a:=none) (b:=(ne.nm E).ad) (len:=0) (cap:=0) (n:=(ne.nm E).len) (c:=(ne.nm E).cap) (news:=news) pE pF hu hu1 hq
    (by rw[dF];have:=n2 w rfl;rw[UP];rw[UP] at this;exact this) (by omega) rfl
   rw[jF] at this
   rw[jF];exact this
  ·refine ABW (AI L u2) ⟨0,0,true,0,0,none⟩ k1 j_ ⟨rfl,ED _,.inl rfl⟩ (by rw[hxd];rfl) ?_ wM k2
   have:0<ys.length:=by
    cases ys with
    |nil=>exact absurd rfl hn
    |cons _ _=>simp
   show 0<0+(ne.nm E).len
   omega
 ·
  have AZT:i∉u2.map (·.1):=by
   intro hx
   obtain⟨q',O5,he⟩:=C0.1 hx
   have:=J9.1 VU (i,.dead) (by simp)
   have:=J9.1 this q' O5
   simp [he] at this
  have hli:look (AI L u2) i=some (.row a zs):=by rw[k4 i AZT];exact B4 _ _ hl
  have AST:=k1.KY i _ hli
  obtain⟨vS,AZU⟩:=AZS E L (U8 x (by simp)) AST.1
  have CO:=AQJ AST vS
  rw[<-hxs] at CO
  have yZ:=rW CO
  have hxd:x.den E= .slice ((E.nm i).cut nn).ad ((E.nm i).cut nn).len ((E.nm i).cut nn).cap:=AZU
  have V1:=k1.kill (AP hli)
  have hib:i≠bs:=by
   intro he;rw[he,j_] at hli;cases hli
  have y5:look (C5 (AI L u2) (i,.dead)) bs=some .KI:=by rw[AZ (AP hli),AB (fun he=>hib he.symm)];exact j_
  have wM:AI L (u2++ [(i,.dead)]++fin AL bs a (xs++ys))=AI (C5 (AI L u2) (i,.dead)) (fin AL bs a (xs++ys)):=by rw[BG,BG];rfl
  have yQ:∀ n,Al L n->Al (C5 (AI L u2) (i,.dead)) n:=fun n hn=>BM rfl n (k2 n hn)
  by_cases rY:((E.nm i).cut nn).cap<((E.nm i).cut nn).len+(ne.nm E).len
  ·exact ABW _ ((E.nm i).cut nn) V1 y5 yZ hxd rY wM yQ
  ·obtain⟨p1,p2,p3⟩:=CO
   rcases p3 with ⟨p4,p5,p6⟩|⟨p4,p5,p6,p7,arr,ty,p8,p9,p10⟩
   ·
    have AX7:((E.nm i).cut nn).len=0:=by rw[p1,p5];rfl
    have jF:(ne.nm E).len=0:=by omega
    have hyn:ys=[]:=by
     cases ys with
     |nil=>rfl
     |cons _ _=>simp at UP;omega
    refine AH4 _ (E.nm i).UA V1 y5 (by simp [p5,hyn]) wM yQ ?_
    refine n9 w _ _ hxd ?_
    have hnw:news=[]:=by
     have:ys.length=0:=by rw[hyn];rfl
     exact List.length_eq_zero_iff.1 (by rw[n1,this,Nat.zero_mul])
    have:=HZ (P:=P) (w:=w) (w' :=w) (ty:=o.type) (a:=(E.nm i).UA) (b:=(ne.nm E).ad) (len:=0) (cap:=0) (n:=(ne.nm E).len) (c:=(ne.nm E).cap) (news:=news) pE pF hu hu1 hq
     (by rw[dF];have:=n2 w rfl;rw[UP];rw[UP] at this;exact this) (by omega) (by rw[hnw];split <;> rfl)
    rw[jF] at this
    have had:((E.nm i).cut nn).ad=(E.nm i).UA:=by unfold Nm.ad;rw[AA p4];rfl
    rw[had,AX7,p6,jF];exact this
   ·
    have AJM:((E.nm i).cut nn).len+(ne.nm E).len<=((E.nm i).cut nn).cap:=by omega
    have hmul:(xs.length+ys.length)*a.sz<=((E.nm i).cut nn).cap*a.sz:=qS _ (by omega)
    rw[ZU] at hmul
    obtain⟨w',s1,s2,s3,s4,s5⟩:=JZ (P:=P) (off:=((E.nm i).cut nn).off+((E.nm i).cut nn).len*a.sz) news w arr 0 (fun j hj=>((E.nm i).cut nn).x8 hj) p8 n4 (by rw[n1,p1];omega)
    rw[L3] at s4
    have IX:=HZ (P:=P) (w:=w) (w' :=w') (ty:=o.type) (a:=((E.nm i).cut nn).ad) (b:=(ne.nm E).ad) (len:=((E.nm i).cut nn).len) (cap:=((E.nm i).cut nn).cap) (n:=(ne.nm E).len) (c:=(ne.nm E).cap) (news:=news) pE pF hu hu1 hq
     (by rw[dF];have:=n2 w rfl;rw[UP];rw[UP] at this;exact this) AJM (by
      simp only[Nm.ad,p4,T8,I9]
      rw[dF,G_];exact s1)
    have hGs:∀ b,G1 b->w'.heap[b]? =w.heap[b]? :=fun b hb=>s5 b (fun he=>p5 (he ▸ hb))
    have TE:RowsIn (Rp G1 w' a) a.sz (pV arr (((E.nm i).cut nn).off+((E.nm i).cut nn).len*a.sz) news) ((E.nm i).cut nn).off (xs++ys):=by
     refine RowsIn.imp (R:=Rp G1 w a) ?_ (fun x vs hx=>Rp.mono hGs (fun _ h=>h) a x vs hx)
     refine RowsIn.append (p10.ABI ?_) (n3 _ _ ?_)
     ·rw[p1,YF];omega
     ·rw[p1,←n1,Z8];omega
    have h1:=V1.change (i:=bs) (e' := .row a (xs++ys)) (m:={ B5:=((E.nm i).cut nn).B5,off:=((E.nm i).cut nn).off,nil:=false,len:=(xs++ys).length,cap:=((E.nm i).cut nn).cap,UA:=none,fz:=(E.nm i).fz }) (w' :=w') (AP y5) s2 (by omega) (fun hx=>absurd hx (EF y5)) rfl
     (fun b _ hb=>s5 b (fun he=>hb (by simp [AW.own,he])))
     (fun b hb=>by simp only[AW.own,T8,I9,AY] at hb;subst hb;exact⟨p6,p5⟩)
     (by
      intro k f hk hf b hb he
      simp only[AW.own,T8,I9,AY] at he
      rw[AZ (AP hli)] at hf
      by_cases gA:k=i
      ·subst gA;simp only[GA,AY] at hf;subst hf;rcases hb with hb|⟨hb,_⟩|⟨hb,_⟩ <;> cases hb
      ·rw[AB gA] at hf
       refine k1.inj k i f _ b gA hf hli hb (.inl ?_)
       have p4' :(E.nm i).nil=false:=p4
       have uH :(E.nm i).B5=b:=he
       simp [AW.own,p4',uH])
     (fun _=>⟨rfl,trivial,.inr ⟨rfl,p5,p6,by simp;omega,pV arr (((E.nm i).cut nn).off+((E.nm i).cut nn).len*a.sz) news,ty,by rw[QE];exact s4,by rw[QE];exact p9,TE⟩⟩)
    obtain⟨f1,f2,f3⟩:=dG AL (AP y5) h1
    rw[wM]
    refine⟨w',_,_,n9 _ _ _ hxd IX,.inl ?_,f1,fun n hn=>⟨E.GO _ (fun he=>EF (he ▸ KZ) hn),f2 n (BM rfl n (yQ n hn))⟩,rfl,f3⟩
    have hlen:((E.nm i).cut nn).len+(ne.nm E).len=(xs++ys).length:=by rw[p1,UP];simp
    simp [SV.den,Env.EE,Nm.ad,hlen,p4]
def dH (m:Nm):Value:= .slice m.ad m.len m.cap
theorem AF8 {a:Ty} {v:SV} {xs:List (List a.T)} {u:CW} (h:ABL AQ a v=some (xs,u)):(v= .KX/\xs=[]/\u=[])\/∃ i,v= .MB i/\AQ i=some (.deep a xs none)/\u=[(i,.dead)]:=by
 unfold ABL at h
 split at h
 ·simp only[AY,C3] at h
  obtain⟨rfl,rfl⟩:=h
  exact .inl ⟨rfl,rfl,rfl⟩
 ·split at h
  rotate_left
  ·cases h
  rename_i t xss hl
  split at h
  rotate_left
  ·cases h
  rename_i he
  subst he
  simp only[AY,C3] at h
  obtain⟨rfl,rfl⟩:=h
  exact .inr ⟨_,rfl,hl,rfl⟩
 ·cases h
structure AM3 (P:Program) (c:DN TB) (G:Nat->Prop) (w:World) (m:Nm) (l:List Nat) (a:Ty) (xs:List (List a.T)) (hs:Nat->Nm):Prop where
 rd:∀ w' :World,w'.heap=w.heap->(Builtin.firstCells 1 xs.length (.slice m.ad m.len m.cap)).run P w' = .ok ((List.range xs.length).map fun k=>dH (hs k)).toArray w'
 gT:∀ k v,xs[k]? =some v->FF (Rp G w a) a.sz w (hs k) v/\((hs k).nil=false->(hs k).B5∈l/\(m.nil=false->(hs k).B5≠m.B5))
 dis:∀ k k',k<xs.length->k' <xs.length->k≠k' ->(hs k).nil=false->(hs k').nil=false->(hs k).B5≠(hs k').B5
theorem FB.rZ {c:DN TB} {G:Nat->Prop} {w:World} {E:Env} {m:Nm} {l:List Nat} {a:Ty} {xs:List (List a.T)} (d:FB c G w E L m l a xs none):∃ hs,AM3 P c G w m l a xs hs∧
  (m.nil=false->∃ arr ty,w.heap[m.B5]? =some (.cells arr ty (0,0))/\arr.size=m.cap/\xs.length<=m.cap/\m.B5∈l/\∀ k,k<xs.length->arr[k]? =some (dH (hs k))):=by
 have K7:∀ k' j,(none:Option (Nat×Nat))≠some (k',j):=fun _ _ he=>by cases he
 rcases d.cs with ⟨h1,h2,h3⟩|⟨h1,h2,h3,arr,ty,hs,h4,h5,h6,h7,h8,h9⟩
 ·subst h2
  refine⟨fun _=>⟨0,0,true,0,0,none⟩,⟨fun w' hw=> ?_,fun k v hk=>by simp at hk,fun k k' hk=>by simp at hk⟩,fun hn=>by rw[h1] at hn;cases hn⟩
  cases m.ad with
  |none=>rfl
  |some p=>
   have:=run_loadCells_list (P:=P) w' p [] (fun j v hj=>by simp at hj)
   exact this
 ·refine⟨hs,⟨fun w' hw=> ?_,fun k v hk=> ?_,fun k k' hk MC HK=>h8 k k' hk MC HK (K7 _) (K7 _)⟩,fun _=>⟨arr,ty,h4,h5,h3,h2,h6⟩⟩
  ·have hm:m.len=xs.length:=d.len
   have hr:=TF (P:=P) (w:=w') (size:=1) h1 (by rw[hw];exact h4) (by rw[d.off];omega)
   rw[hm] at hr ⊢
   rw[hr]
   congr 2
   apply T9
   intro j
   rw[B9,d.off]
   by_cases hj:j<xs.length
   ·rw[AA (by omega),I7,h6 j hj]
    simp [hj,dH]
   ·rw[AB (by omega),SO (by simp;omega)]
  ·obtain⟨q1,q2⟩:=h7 k v hk (K7 k)
   exact⟨q1,fun hx=>⟨(q2 hx).1,fun _=>(q2 hx).2⟩⟩
theorem FB.join {c:DN TB} {G:Nat->Prop} {w w' :World} {E' :Env} {L' :AJ} {a:Ty} {xs ys:List (List a.T)} {hx hy:Nat->Nm} {mx my m:Nm} {lx ly l:List Nat} (kx:AM3 P c G w mx lx a xs hx) (ky:AM3 P c G w my ly a ys hy)
  (h1:m.len=(xs++ys).length) (h2:m.off=0) (h3:m.nil=false) (h4:m.B5∈l) (h5:(xs++ys).length<=m.cap) (H8:l.Nodup) (Z7:∀ b∈l,¬G b/\¬c.Old b/\∃ arr ty fz,w'.heap[b]? =some (.cells arr ty fz))
  {arr:Array Value} {ty:TypeId} (ha:w'.heap[m.B5]? =some (.cells arr ty (0,0))) (YO:arr.size=m.cap)
  (hc:∀ k,k<(xs++ys).length->arr[k]? =some (dH (if k<xs.length then hx k else hy (k-xs.length))))
  (hsx:∀ b∈lx,b∈l) (hsy:∀ b∈ly,b∈l) (VU:∀ b∈lx,b∉ly) (hmx:m.B5∈lx->mx.nil=false/\m.B5=mx.B5) (hmy:m.B5∉ly)
  (hw:∀ b,b∈lx\/b∈ly->b≠m.B5->w'.heap[b]? =w.heap[b]?) (hG:∀ b,G b->w'.heap[b]? =w.heap[b]?):FB c G w' E' L' m l a (xs++ys) none:=by
 have CJ:∀ k v,xs[k]? =some v->(hx k).nil=false->(hx k).B5≠m.B5:=by
  intro k v hk hn he
  obtain⟨q1,q2⟩:=(kx.gT k v hk).2 hn
  obtain⟨r1,r2⟩:=hmx (he ▸ q1)
  exact q2 r1 (he.trans r2)
 have AM4:∀ k v,ys[k]? =some v->(hy k).nil=false->(hy k).B5≠m.B5:=by
  intro k v hk hn he
  exact hmy (he ▸ ((ky.gT k v hk).2 hn).1)
 refine⟨h1,h2,H8,Z7,.inr ⟨h3,h4,h5,arr,ty,fun k=>if k<xs.length then hx k else hy (k-xs.length),ha,YO,hc, ?_, ?_,fun _ _ he=>by cases he⟩⟩
 ·intro k v hk _
  dsimp only
  by_cases jE:k<xs.length
  ·rw[AA jE]
   rw[T6 jE] at hk
   obtain⟨q1,q2⟩:=kx.gT k v hk
   exact⟨q1.mono (fun x vs hx=>Rp.mono hG (fun _ h=>h) a x vs hx) (fun hn=>hw _ (.inl (q2 hn).1) (CJ k v hk hn)),fun hn=>⟨hsx _ (q2 hn).1,CJ k v hk hn⟩⟩
  ·rw[AB jE]
   rw[T5 (by omega)] at hk
   obtain⟨q1,q2⟩:=ky.gT _ v hk
   exact⟨q1.mono (fun x vs hx=>Rp.mono hG (fun _ h=>h) a x vs hx) (fun hn=>hw _ (.inr (q2 hn).1) (AM4 _ v hk hn)),fun hn=>⟨hsy _ (q2 hn).1,AM4 _ v hk hn⟩⟩
 ·intro i j hi hj jD _ _ RR hnj
  dsimp only at RR hnj ⊢
  rw[I5] at hi hj
  by_cases hix:i<xs.length
  ·rw[AA hix] at RR ⊢
   by_cases hjx:j<xs.length
   ·rw[AA hjx] at hnj ⊢
    exact kx.dis i j hix hjx jD RR hnj
   ·rw[AB hjx] at hnj ⊢
    intro he
    have q1:=((kx.gT i _ (NB hix)).2 RR).1
    have q2:=((ky.gT (j-xs.length) _ (NB (by omega))).2 hnj).1
    exact VU _ q1 (he ▸ q2)
  ·rw[AB hix] at RR ⊢
   have q2:=((ky.gT (i-xs.length) _ (NB (by omega))).2 RR).1
   by_cases hjx:j<xs.length
   ·rw[AA hjx] at hnj ⊢
    intro he
    have q1:=((kx.gT j _ (NB hjx)).2 hnj).1
    exact VU _ q1 (he ▸ q2)
   ·rw[AB hjx] at hnj ⊢
    exact ky.dis _ _ (by omega) (by omega) (by omega) RR hnj
set_option maxHeartbeats 1000000 in
theorem n_ {o:Oper} {ρ:Operand->SV} {args:Array Operand} {ts:Array TypeId} (EB:o.op= .call { callee:= .builtin .append,args:=args,argTypes:=ts }) {x y:SV} (MZ:args.toList.map ρ=[x,y])
  {bs:Nat} (B4:∀ n e,AQ n=some e->look L n=some e) {v:SV} {C2:CW} (h:SW P AQ ts.toList x y true bs pr=some (v,C2)):EJ TB P o ρ L v C2:=by
 unfold SW at h
 split at h
 rotate_left
 ·cases h
 rename_i t0 t1 hts
 split at h
 rotate_left
 ·cases h
 rename_i e e1 hu hu1
 split at h
 rotate_left
 ·cases h
 rename_i q a hq hz hty
 split at h
 rotate_left
 ·cases h
 rename_i hc
 obtain⟨mU,hqb,DC⟩:=hc
 split at h
 rotate_left
 ·cases h
 rename_i xs u1 ys u2 pS hp2
 split at h
 rotate_left
 ·cases h
 rename_i VU
 split at h
 rotate_left
 ·cases h
 rename_i hby
 simp only[pr,AQA,G5,AY,C3] at h
 obtain⟨rfl,rfl⟩:=h
 have KZ:look L bs=some .KI:=B4 _ _ (by have:=CM DC 0 (by omega);simpa using this)
 obtain⟨zv,hzv,hzl⟩:∃ zv,q.zero=some zv/\zv.cells.toList.map RN=[.KX]:=by
  unfold MX at hz
  rw[hq] at hz
  simp only at hz
  split at hz
  ·simp only[AY] at hz
   exact⟨_,by assumption,hz⟩
  ·cases hz
 have hzc:zv.cells= #[.slice none 0 0]:=by
  have:=UK (E:=⟨fun _=>⟨0,0,true,0,0,none⟩,fun _=>undef⟩) zv.cells.toList
  rw[hzl] at this
  apply YC
  exact this.symm
 have pE:ts[0]? =some t0:=by rw[<-gM,hts];rfl
 have pF:ts[1]? =some t1:=by rw[<-gM,hts];rfl
 refine BI fun c w E hh hw=> ?_
 obtain⟨G,hG⟩:=hh
 have side:∀ (v:SV) (zs:List (List a.T)) (u:CW),ABL AQ a v=some (zs,u)->∃ (m:Nm) (l:List Nat),v.den E= .slice m.ad m.len m.cap/\FB c G w E L m l a zs none∧
   ((u=[]/\l=[]/\m.nil=true)\/∃ i,look L i=some (.deep a zs none)/\u=[(i,.dead)]/\l=E.ins.l i):=by
  intro v zs u hv
  rcases AF8 hv with ⟨rfl,rfl,rfl⟩|⟨i,rfl,hl,rfl⟩
  ·exact⟨⟨0,0,true,0,0,none⟩,[],rfl,⟨rfl,rfl,dR,(fun b hb=>(by cases hb)),.inl ⟨rfl,rfl,rfl⟩⟩,.inl ⟨rfl,rfl,rfl⟩⟩
  ·exact⟨E.nm i,E.ins.l i,rfl,hG.dp i _ _ _ (B4 _ _ hl),.inr ⟨i,B4 _ _ hl,rfl,rfl⟩⟩
 obtain⟨mx,lx,hxd,dx,sx⟩:=side x xs u1 pS
 obtain⟨my,ly,hyd,dy,sy⟩:=side y ys u2 hp2
 obtain⟨hx,kx,ax⟩:=dx.rZ (P:=P)
 obtain⟨hy,ky,ay⟩:=dy.rZ (P:=P)
 obtain⟨hH,j_,NS,AM5,AM6,hxy⟩:AS c G w E (AI L (u1++u2))/\look (AI L (u1++u2)) bs=some .KI/\(∀ n,Al L n->Al (AI L (u1++u2)) n)/\(∀ b∈lx,H5 E (AI L (u1++u2)) b)/\(∀ b∈ly,H5 E (AI L (u1++u2)) b)/\(∀ b∈lx,b∉ly):=by
  have r_:∀ (L:AJ),AS c G w E L->∀ (i:Nat) (zs:List (List a.T)),look L i=some (.deep a zs none)->look L bs=some .KI->AS c G w E (AI L [(i,.dead)])/\look (AI L [(i,.dead)]) bs=some .KI/\(∀ n,Al L n->Al (AI L [(i,.dead)]) n)/\(∀ b∈E.ins.l i,H5 E (AI L [(i,.dead)]) b):=by
   intro L hG i zs hi hb
   have hib:bs≠i:=by rintro rfl;rw[hi] at hb;cases hb
   refine⟨hG.kill (AP hi), ?_,fun n hn=>BM rfl n hn,fun b hbm=>hP hG hi (AW.FE.2 hbm)⟩
   show look (C5 L (i,.dead)) bs=_
   rw[AZ (AP hi),AB hib];exact hb
  rcases sx with ⟨rfl,rfl,_⟩|⟨i,hi,rfl,rfl⟩
  ·rcases sy with ⟨rfl,rfl,_⟩|⟨j,hj,rfl,rfl⟩
   ·exact⟨hG,KZ,fun _ h=>h,(fun b hb=>(by cases hb)),(fun b hb=>(by cases hb)),(fun b hb=>(by cases hb))⟩
   ·obtain⟨k1,k2,k3,k4⟩:=r_ L hG j _ hj KZ
    exact⟨k1,k2,k3,(fun b hb=>(by cases hb)),k4,(fun b hb=>(by cases hb))⟩
  ·obtain⟨k1,k2,k3,k4⟩:=r_ L hG i _ hi KZ
   rcases sy with ⟨rfl,rfl,_⟩|⟨j,hj,rfl,rfl⟩
   ·exact⟨k1,k2,k3,k4,(fun b hb=>(by cases hb)),(fun b _ hb=>(by cases hb))⟩
   ·have jD:i≠j:=by
     rintro rfl
     have:=J9.1 VU (i,.dead) (by simp)
     simp at this
    have yV:look (AI L [(i,.dead)]) j=some (.deep a ys none):=by
     show look (C5 L (i,.dead)) j=_
     rw[AZ (AP hi),AB (fun he=>jD he.symm)];exact hj
    obtain⟨q1,q2,q3,q4⟩:=r_ _ k1 j _ yV k2
    rw[<-BG] at q1 q2 q3 q4
    refine⟨q1,q2,fun n hn=>q3 n (k3 n hn), ?_,q4,fun b hb RZ =>hG.inj i j _ _ b jD hi hj (AW.FE.2 hb) (AW.FE.2 RZ)⟩
    intro b hb
    rw[BG]
    exact (k4 b hb).kill (AP yV)
 have n9:∀ (w' :World) (r:Value),(Builtin.append_ ts o.type #[.slice mx.ad mx.len mx.cap,.slice my.ad my.len my.cap]).run P w= .ok r w' ->(execOp (fun x=>(ρ x).den E) o).run P w= .ok (.value r) w' :=by
  intro w' r hr
  have hU :(args.map fun x=>(ρ x).den E)= #[.slice mx.ad mx.len mx.cap,.slice my.ad my.len my.cap]:=by
   apply YC
   have:(args.toList.map ρ).map (SV.den E)=[.slice mx.ad mx.len mx.cap,.slice my.ad my.len my.cap]:=by rw[MZ];simp [hxd,hyd]
   rw[S8] at this
   rw[fW]
   exact this
  simp only[execOp,EB,resolve,invoke,Sem.run_bind,Sem.run_pure,Result.andThen,hU,builtin,hr]
 have rS:=dx.len
 have jF:=dy.len
 have AF9:∀ (w' :World) (m:Nm) (l:List Nat),Rest w w' ->w.heap.size<=w'.heap.size->(∀ b,b<w.heap.size->b∉l->w'.heap[b]? =w.heap[b]?)->(∀ b∈l,H5 E (AI L (u1++u2)) b)->(∀ (E' :Env) (L' :AJ),FB c G w' E' L' m l a (xs++ys) none)→
   (Builtin.append_ ts o.type #[.slice mx.ad mx.len mx.cap,.slice my.ad my.len my.cap]).run P w= .ok (.slice m.ad m.len m.cap) w' →
   ∃ (w' :World) (E' :Env) (nx:Next),(execOp (fun x=>(ρ x).den E) o).run P w= .ok nx w' /\(nx= .value ((SV.MB bs).den E')\/(nx= .skip/\(SV.MB bs)=AV))∧
   Hd c w' E' (AI L (u1++u2++ [(bs,.deep a (xs++ys) none)]))/\(∀ n,Al L n->E'.nm n=E.nm n/\Al (AI L (u1++u2++ [(bs,.deep a (xs++ys) none)])) n)/\E'.ds=E.ds/\(SV.MB bs).wf E' (AI L (u1++u2++ [(bs,.deep a (xs++ys) none)])):=by
  intro w' m l r1 r2 r3 r4 r5 r6
  obtain⟨g1,g2,g3,g4⟩:=hH.AH3 j_ r1 r2 r3 r4 r5
  have eu:AI L (u1++u2++ [(bs,.deep a (xs++ys) none)])=C5 (AI L (u1++u2)) (bs,.deep a (xs++ys) none):=by rw[BG];rfl
  rw[eu]
  refine⟨w',_,_,n9 _ _ r6,.inl ?_,⟨G,g1⟩,fun n hn=>g2 n (NS n hn),rfl,g3⟩
  simp only[SV.den];rw[g4]
 by_cases rY:mx.cap<mx.len+my.len
 ·
  obtain⟨c',hc',IX⟩:=run_append_grow (P:=P) (w:=w) (ty:=o.type) (a:=mx.ad) (b:=my.ad) (len:=mx.len) (cap:=mx.cap) (n:=my.len) (c:=my.cap) pE pF hu hu1 hq hzv hqb
   (by rw[mU,jF,←jF];have:=ky.rd w.drew rfl;rw[<-jF] at this;exact this)
   (by rw[mU,rS,←rS];have:=kx.rd w.drew rfl;rw[<-rS] at this;exact this) rY (by rw[rS,jF];exact hby)
  have hold:¬c.Old w.heap.size:=fun hx=>by have:=hx.1;have:=hG.size;omega
  have hGn:¬G w.heap.size:=fun hx=>by have:=hG.tV _ hx;omega
  have CD:∀ (ob:Obj) (b:Nat),b<w.heap.size->((w.drew).alloc ob).heap[b]? =w.heap[b]? :=by
   intro ob b hb
   show (w.heap.push ob)[b]? =_
   rw[x6,AB (by omega)]
  have QH:∀ (ob:Obj),((w.drew).alloc ob).heap[w.heap.size]? =some ob:=by
   intro ob
   show (w.heap.push ob)[w.heap.size]? =_
   simp
  have y6:∀ b∈lx,b<w.heap.size:=fun b hb=>by obtain⟨_,_,_,_,_,h⟩:=dx.all b hb;exact RP h
  have y7:∀ b∈ly,b<w.heap.size:=fun b hb=>by obtain⟨_,_,_,_,_,h⟩:=dy.all b hb;exact RP h
  refine AF9 _ ⟨w.heap.size,0,false,mx.len+my.len,c',none⟩ (w.heap.size::(lx++ly)) ?_ ?_ ?_ ?_ ?_ IX
  ·exact⟨rfl,rfl,rfl⟩
  ·show _<=(w.heap.push _).size;simp
  ·exact fun b hb _=>CD _ b hb
  ·intro b hb
   rcases F7.1 hb with rfl|hb
   ·exact S2 hH
   ·rcases EV.1 hb with hb|hb
    ·exact AM5 b hb
    ·exact AM6 b hb
  ·intro E' L'
   refine FB.join kx ky (by simp [rS,jF]) rfl rfl (by simp) (by simp [<-rS,←jF];exact hc') ?_ ?_ (QH _) ?_ ?_ (fun b hb=>by simp [hb]) (fun b hb=>by simp [hb]) hxy (fun hm=> ?_) (fun hm=> ?_) (fun b hb _=>CD _ b (hb.elim (y6 b) (y7 b))) (fun b hb=>CD _ b (hG.tV b hb))
   ·refine T_.2 ⟨fun hm=> ?_,PL.2 ⟨dx.nd,dy.nd,fun b hb b' RZ he=>hxy b hb (he ▸ RZ)⟩⟩
    rcases EV.1 hm with hm|hm
    ·have:=y6 _ hm;omega
    ·have:=y7 _ hm;omega
   ·intro b hb
    rcases F7.1 hb with rfl|hb
    ·exact⟨hGn,hold,_,_,_,QH _⟩
    ·rcases EV.1 hb with hb|hb
     ·obtain⟨q1,q2,arr,ty,fz,q3⟩:=dx.all b hb
      exact⟨q1,q2,arr,ty,fz,by rw[CD _ b (y6 b hb)];exact q3⟩
     ·obtain⟨q1,q2,arr,ty,fz,q3⟩:=dy.all b hb
      exact⟨q1,q2,arr,ty,fz,by rw[CD _ b (y7 b hb)];exact q3⟩
   ·simp [Builtin.zeroCells,hzc]
    omega
   ·intro k hk
    rw[I5] at hk
    rw[AAP (by simp;omega)]
    by_cases jE:k<xs.length
    ·rw[AA jE,AAP (by simp;omega)]
     simp [List.getElem?_range (show k<mx.len by omega)]
    ·rw[AB jE,Array.getElem?_append_right (by simp;omega)]
     have N9:k-xs.length<my.len:=by omega
     simp [rS,List.getElem?_range N9]
   ·have:=y6 _ hm;simp at this
   ·have:=y7 _ hm;simp at this
 ·
  cases UQ:mx.nil with
  |true=>
   rcases dx.cs with ⟨_,h2,h3⟩|⟨h1,_⟩
   rotate_left
   ·rw[UQ] at h1;cases h1
   have hx0:mx.len=0:=by rw[rS,h2];rfl
   have hy0:my.len=0:=by omega
   have hys:ys=[]:=by
    cases ys with
    |nil=>rfl
    |cons _ _=>simp at jF;omega
   have y8:mx.ad=mx.UA:=by simp [Nm.ad,UQ]
   have IX:=HZ (P:=P) (w:=w) (w' :=w) (ty:=o.type) (a:=mx.UA) (b:=my.ad) (len:=0) (cap:=0) (n:=my.len) (c:=my.cap) (news:=[]) pE pF hu hu1 hq
    (by rw[mU];have:=ky.rd w rfl;rw[<-jF,hy0] at this;rw[hy0];exact this) (by omega) (by split <;> rfl)
   refine AF9 w ⟨0,0,true,0,0,mx.UA⟩ [] (.refl _) (ED _) (fun _ _ _=>rfl) (fun b hb=>(by cases hb)) (fun E' L' =>⟨by simp [h2,hys],rfl,dR,(fun b hb=>(by cases hb)),.inl ⟨rfl,by simp [h2,hys],rfl⟩⟩) ?_
   rw[y8,hx0,h3,IX,hy0]
   rfl
  |false=>
   obtain⟨arr,ty,p1,p2,p3,p4,p5⟩:=ax UQ
   have hnl:((List.range ys.length).map fun k=>dH (hy k)).length=ys.length:=by simp
   obtain⟨w',s1,s2,s3,s4,s5⟩:=OC (P:=P) (off:=mx.len) ((List.range ys.length).map fun k=>dH (hy k)) w arr 0 p1 (by
     intro u hu
     obtain⟨k,_,rfl⟩:=C0.1 hu
     exact⟨fun c h=>(by cases h),fun c h=>(by cases h)⟩) (by rw[hnl];omega)
   rw[L3] at s4
   have y8:mx.ad=some ⟨mx.B5,0,none⟩:=by simp [Nm.ad,UQ,dx.off]
   have IX:=HZ (P:=P) (w:=w) (w' :=w') (ty:=o.type) (a:=mx.ad) (b:=my.ad) (len:=mx.len) (cap:=mx.cap) (n:=my.len) (c:=my.cap) (news:=(List.range ys.length).map fun k=>dH (hy k)) pE pF hu hu1 hq
    (by rw[mU];have:=ky.rd w rfl;rw[<-jF] at this ⊢;exact this) (by omega) (by
     rw[y8]
     simp only
     rw[mU,G_,I7,Nat.mul_one];exact s1)
   have hmy:mx.B5∉ly:=hxy _ p4
   refine AF9 w' ⟨mx.B5,0,false,mx.len+my.len,mx.cap,none⟩ (lx++ly) s2 (by omega) (fun b _ hb=>s5 b (fun he=>hb (by rw[he];simp [p4]))) ?_ ?_ ?_
   ·intro b hb
    rcases EV.1 hb with hb|hb
    ·exact AM5 b hb
    ·exact AM6 b hb
   ·intro E' L'
    refine FB.join kx ky (by simp [rS,jF]) rfl rfl (by simp [p4]) (by simp [<-rS,←jF];omega) (PL.2 ⟨dx.nd,dy.nd,fun b hb b' RZ he=>hxy b hb (he ▸ RZ)⟩) ?_ s4 (by rw[QE];exact p2) ?_ (fun b hb=>by simp [hb]) (fun b hb=>by simp [hb]) hxy (fun _=>⟨UQ,rfl⟩) hmy (fun b _ hb=>s5 b hb) (fun b hb=>s5 b (fun he=>(dx.all _ p4).1 (he ▸ hb)))
    ·intro b hb
     by_cases hbm:b=mx.B5
     ·subst hbm
      exact⟨(dx.all _ p4).1,(dx.all _ p4).2.1,_,_,_,s4⟩
     ·rw[s5 b hbm]
      rcases EV.1 hb with hb|hb
      ·exact dx.all b hb
      ·exact dy.all b hb
    ·intro k hk
     rw[I5] at hk
     rw[JC,hnl]
     by_cases jE:k<xs.length
     ·rw[AB (by omega),AA jE];exact p5 k jE
     ·rw[AA (by omega),AB jE]
      have:k-xs.length<ys.length:=by omega
      rw[rS]
      simp [this]
   ·rw[IX,y8]
    rfl
theorem EJ.AZV {o:Oper} {ρ:Operand->SV} {bs:Nat} {a:Ty} {xs:List (List a.T)} {C2:CW} (h:EJ TB P o ρ L (.MB bs) C2) (hl:look (AI L C2) bs=some (.deep a xs none)):
  EJ TB P o ρ L (.MB bs) (C2++ [(bs,.shr (.slice a) xs)]):=by
 intro c w E hh hw ac next Q ha hn
 refine h c w E hh hw ac next Q ha fun E' w' k1 k2 k3 k4=> ?_
 obtain⟨G,hG⟩:=k1
 have C7:=AP hl
 have e:AI L (C2++ [(bs,.shr (.slice a) xs)])=C5 (AI L C2) (bs,.shr (.slice a) xs):=by rw[BG];rfl
 refine hn E' w' (by rw[e];exact⟨_,hG.yG hl⟩) (fun n hn' =>⟨(k2 n hn').1,by rw[e];exact BM rfl n (k2 n hn').2⟩) k3 (by rw[e];exact BM rfl bs k4)
theorem AFA {o:Oper} {ρ:Operand->SV} {args:Array Operand} {ts:Array TypeId} (EB:o.op= .call { callee:= .builtin .append,args:=args,argTypes:=ts }) {x y:SV} (MZ:args.toList.map ρ=[x,y])
  {AL:Bool} {bs:Nat} (B4:∀ n e,AQ n=some e->look L n=some e) {v:SV} {C2:CW} (h:SW P AQ ts.toList x y AL bs pr=some (v,C2)):EJ TB P o ρ L v C2:=by
 cases AL with
 |true=>exact n_ EB MZ B4 h
 |false=>
  have key:∃ (a:Ty) (xs:List (List a.T)) (u0:CW),SW P AQ ts.toList x y true bs pr=some (.MB bs,u0++ [(bs,.deep a xs none)])/\v= .MB bs/\C2=u0++ [(bs,.deep a xs none)]++ [(bs,.shr (.slice a) xs)]/\H6 AQ bs 1=true:=by
   unfold SW at h ⊢
   split at h
   rotate_left
   ·cases h
   rename_i t0 t1 hts
   split at h
   rotate_left
   ·cases h
   rename_i e e1 hu hu1
   split at h
   rotate_left
   ·cases h
   rename_i q a hq hz hty
   split at h
   rotate_left
   ·cases h
   rename_i hc
   split at h
   rotate_left
   ·cases h
   rename_i xs u1 ys u2 pS hp2
   split at h
   rotate_left
   ·cases h
   rename_i VU
   split at h
   rotate_left
   ·cases h
   rename_i hby
   simp only[pr,AQA,AY,C3] at h
   obtain⟨rfl,rfl⟩:=h
   refine⟨a,xs++ys,u1++u2, ?_,rfl,rfl,hc.2.2⟩
   simp only[hc,hby,pr,AQA,G5,and_self,GA,ne_eq,not_false_eq_true]
  obtain⟨a,xs,u0,h1,rfl,rfl,DC⟩:=key
  have KZ:look L bs=some .KI:=B4 _ _ (by have:=CM DC 0 (by omega);simpa using this)
  refine (n_ EB MZ B4 h1).AZV ?_
  rw[BG]
  show look (C5 (AI L u0) (bs,.deep a xs none)) bs=_
  rw[AZ (by rw[NQ];exact AP KZ),AA rfl]
end
end Go.V3
namespace Go.V3
open Go
variable {TB:Tb}
section
variable {P:Program} {AQ:Nat->Option AW} {L:AJ}
theorem AS.ASU {c:DN TB} {G:Nat->Prop} {w w' :World} {E:Env} {L:AJ} (h:AS c G w E L) {bs:Nat} (hl:look L bs=some .KI) (hr:Rest w w') (hs:w.heap.size<=w'.heap.size) {m:Nm} {t1 t2:Ty} {xs:List (List t1.T×List t2.T)}
  (hw:∀ b,b<w.heap.size->b∉m.ins.l->w'.heap[b]? =w.heap[b]?) (VK:∀ b∈m.ins.l,H5 E L b) (hd:EX c G w' m t1 t2 xs):
  AS c G w' (E.set bs m) (C5 L (bs,.tree t1 t2 xs))/\(∀ n,Al L n->(E.set bs m).nm n=E.nm n/\Al (C5 L (bs,.tree t1 t2 xs)) n)/\Al (C5 L (bs,.tree t1 t2 xs)) bs/\(E.set bs m).nm bs=m:=by
 have dT:∀ b,(AW.tree t1 t2 xs).ow (E.set bs m) bs b↔b∈m.ins.l:=fun b=>by rw[AW.cV,Env.EE]
 refine⟨h.SQ (AP hl) hr hs (fun hx=>absurd hx (EF hl)) (fun k hk=>⟨E.GO _ hk,rfl⟩) rfl (fun b hb hn=>hw b hb (fun hx=>hn ((dT b).2 hx)))
  (fun b hb=>by have:=hd.all b ((dT b).1 hb);exact⟨this.2.1,this.1⟩) (fun k f _ hf b hb he=>VK b ((dT b).1 he) k f hf hb) (by rw[Env.EE];exact hd) (fun t' xs' q he=>by cases he), ?_,⟨_,by rw[AZ (AP hl),AA rfl],rfl⟩,Env.EE _ _ _⟩
 intro n hn
 have RR:n≠bs:=fun he=>EF (he ▸ hl) hn
 exact⟨E.GO _ RR,BM rfl n hn⟩
theorem y9 {t:Ty} {v:SV} {ys:List t.T} {u:CW} (h:jY AQ t v=some (ys,u)):(v= .KX/\ys=[]/\u=[])\/∃ i,v= .MB i/\AQ i=some (.row t ys)/\u=[(i,.dead)]:=by
 unfold jY at h
 split at h
 ·simp only[AY,C3] at h
  obtain⟨rfl,rfl⟩:=h
  exact .inl ⟨rfl,rfl,rfl⟩
 ·split at h
  rotate_left
  ·cases h
  rename_i t' xss hl
  split at h
  rotate_left
  ·cases h
  rename_i he
  subst he
  simp only[AY,C3] at h
  obtain⟨rfl,rfl⟩:=h
  exact .inr ⟨_,rfl,hl,rfl⟩
 ·cases h
theorem AFB {a b:Ty} {v:SV} {xs:List (List a.T×List b.T)} {u:CW} (h:ABK AQ a b v=some (xs,u)):(v= .KX/\xs=[]/\u=[])\/∃ i,v= .MB i/\AQ i=some (.tree a b xs)/\u=[(i,.dead)]:=by
 unfold ABK at h
 split at h
 ·simp only[AY,C3] at h
  obtain⟨rfl,rfl⟩:=h
  exact .inl ⟨rfl,rfl,rfl⟩
 ·split at h
  rotate_left
  ·cases h
  rename_i t1 t2 xss hl
  split at h
  rotate_left
  ·cases h
  rename_i he
  obtain⟨rfl,rfl⟩:=he
  simp only[AY,C3] at h
  obtain⟨rfl,rfl⟩:=h
  exact .inr ⟨_,rfl,hl,rfl⟩
 ·cases h
structure ASV (c:DN TB) (G:Nat->Prop) (w:World) (E:Env) (L:AJ) (t:Ty) (v:SV) (ys:List t.T) (u:CW) (m:Nm) (l:List Nat):Prop where
 den:v.den E= .slice m.ad m.len m.cap
 gT:FF (Rp G w t) t.sz w m ys
 mem:m.nil=false->m.B5∈l
 one:∀ b∈l,b=m.B5/\m.nil=false
 nd:l.Nodup
 all:∀ b∈l,¬G b/\¬c.Old b/\∃ arr ty fz,w.heap[b]? =some (.cells arr ty fz)
 src:(u=[]/\l=[])\/∃ i,look L i=some (.row t ys)/\u=[(i,.dead)]/\∀ b∈l,(AW.row t ys).ow E i b
theorem ASW {c:DN TB} {G:Nat->Prop} {w:World} {E:Env} {L:AJ} (hG:AS c G w E L) (B4:∀ n e,AQ n=some e->look L n=some e) {t:Ty} {v:SV} {ys:List t.T} {u:CW} (h:jY AQ t v=some (ys,u)):
  ∃ m l,ASV c G w E L t v ys u m l:=by
 rcases y9 h with ⟨rfl,rfl,rfl⟩|⟨i,rfl,hl,rfl⟩
 ·exact⟨⟨0,0,true,0,0,none⟩,[],rfl,⟨rfl,trivial,.inl ⟨rfl,rfl,rfl⟩⟩,(fun hx=>by cases hx),(fun b hb=>by cases hb),dR,(fun b hb=>by cases hb),.inl ⟨rfl,rfl⟩⟩
 ·have hi:=B4 _ _ hl
  obtain⟨h1,h2,h3⟩:=hG.KY i _ hi
  cases hn:(E.nm i).nil with
  |true=>
   rcases h3 with h3|⟨h4,_⟩
   rotate_left
   ·rw[hn] at h4;cases h4
   exact⟨E.nm i,[],rfl,⟨h1,trivial,.inl h3⟩,(fun hx=>by rw[hn] at hx;cases hx),(fun b hb=>by cases hb),dR,(fun b hb=>by cases hb),.inr ⟨i,hi,rfl,fun b hb=>by cases hb⟩⟩
  |false=>
   rcases h3 with ⟨h4,_⟩|⟨h4,h5,h6,h7,arr,ty,h8,h9,uG⟩
   ·rw[hn] at h4;cases h4
   refine⟨E.nm i,[(E.nm i).B5],rfl,⟨h1,trivial,.inr ⟨h4,h7,arr,ty,h8,h9,uG⟩⟩,(fun _=>by simp),(fun b hb=>⟨by simpa using hb,hn⟩),by simp, ?_,.inr ⟨i,hi,rfl, ?_⟩⟩
   ·intro b hb
    simp only[F6] at hb;subst hb
    exact⟨h5,h6,arr,ty,_,h8⟩
   ·intro b hb
    simp only[F6] at hb;subst hb
    exact .inl (by simp [AW.own,hn])
theorem AH5 {c:DN TB} {G:Nat->Prop} {w:World} {E:Env} {L:AJ} (hG:AS c G w E L) {bs:Nat} (KZ:look L bs=some .KI) {u1 u2:CW} {l1 l2:List Nat} {e1 e2:AW}
  (s1:(u1=[]/\l1=[])\/∃ i,look L i=some e1/\e1.G6=false/\u1=[(i,.dead)]/\∀ b∈l1,e1.ow E i b)
  (s2:(u2=[]/\l2=[])\/∃ i,look L i=some e2/\e2.G6=false/\u2=[(i,.dead)]/\∀ b∈l2,e2.ow E i b) (VU:u1.all (fun q=>u2.all (fun r=> !(r.1==q.1)))=true):
  AS c G w E (AI L (u1++u2))/\look (AI L (u1++u2)) bs=some .KI/\(∀ n,Al L n->Al (AI L (u1++u2)) n)/\(∀ b∈l1,H5 E (AI L (u1++u2)) b)/\(∀ b∈l2,H5 E (AI L (u1++u2)) b)/\(∀ b∈l1,b∉l2):=by
 have r_:∀ (L:AJ) (l:List Nat) (e:AW),AS c G w E L->∀ (i:Nat),look L i=some e->e.G6=false->look L bs=some .KI->(∀ b∈l,e.ow E i b)->AS c G w E (AI L [(i,.dead)])/\look (AI L [(i,.dead)]) bs=some .KI/\(∀ n,Al L n->Al (AI L [(i,.dead)]) n)/\(∀ b∈l,H5 E (AI L [(i,.dead)]) b):=by
  intro L l e hG i hi hr hb ho
  have hib:bs≠i:=by rintro rfl;rw[hi] at hb;cases hb;cases hr
  refine⟨hG.kill (AP hi), ?_,fun n hn=>BM rfl n hn,fun b hbm=>hP hG hi (ho b hbm)⟩
  show look (C5 L (i,.dead)) bs=_
  rw[AZ (AP hi),AB hib];exact hb
 rcases s1 with ⟨rfl,rfl⟩|⟨i,hi,hir,rfl,hio⟩
 ·rcases s2 with ⟨rfl,rfl⟩|⟨j,hj,hjr,rfl,hjo⟩
  ·exact⟨hG,KZ,fun _ h=>h,(fun b hb=>(by cases hb)),(fun b hb=>(by cases hb)),(fun b hb=>(by cases hb))⟩
  ·obtain⟨k1,k2,k3,k4⟩:=r_ L l2 e2 hG j hj hjr KZ hjo
   exact⟨k1,k2,k3,(fun b hb=>(by cases hb)),k4,(fun b hb=>(by cases hb))⟩
 ·obtain⟨k1,k2,k3,k4⟩:=r_ L l1 e1 hG i hi hir KZ hio
  rcases s2 with ⟨rfl,rfl⟩|⟨j,hj,hjr,rfl,hjo⟩
  ·exact⟨k1,k2,k3,k4,(fun b hb=>(by cases hb)),(fun b _ hb=>(by cases hb))⟩
  ·have jD:i≠j:=by
    rintro rfl
    have:=J9.1 VU (i,.dead) (by simp)
    simp at this
   have yV:look (AI L [(i,.dead)]) j=some e2:=by
    show look (C5 L (i,.dead)) j=_
    rw[AZ (AP hi),AB (fun he=>jD he.symm)];exact hj
   obtain⟨q1,q2,q3,q4⟩:=r_ _ l2 e2 k1 j yV hjr k2 hjo
   rw[<-BG] at q1 q2 q3 q4
   refine⟨q1,q2,fun n hn=>q3 n (k3 n hn), ?_,q4,fun b hb RZ =>hG.inj i j _ _ b jD hi hj (hio b hb) (hjo b RZ)⟩
   intro b hb
   rw[BG]
   exact (k4 b hb).kill (AP yV)
theorem AJN {o:Oper} {ρ:Operand->SV} {t:TypeId} {len:Nat} {parts:Array (Nat×Operand)} (EB:o.op= .buildSlice t len parts) {bs:Nat} (B4:∀ n e,AQ n=some e->look L n=some e) {v:SV} {C2:CW}
  (h:mP P AQ t len (parts.toList.map fun q=>(q.1,ρ q.2)) bs pr=some (v,C2)):EJ TB P o ρ L v C2:=by
 unfold mP at h
 split at h
 rotate_left
 ·cases h
 rename_i e hu
 split at h
 rotate_left
 ·cases h
 rename_i q a b v1 v2 hq hz hty OD
 split at h
 rotate_left
 ·cases h
 rename_i y1 u1 y2 u2 pS hp2
 split at h
 rotate_left
 ·cases h
 rename_i hc
 obtain⟨mU,rfl,DC,VU⟩:=hc
 simp only[pr,AY,C3] at h
 obtain⟨rfl,rfl⟩:=h
 have KZ:look L bs=some .KI:=B4 _ _ (by have:=CM DC 0 (by omega);simpa using this)
 refine BI fun c w E hh hw=> ?_
 obtain⟨G,hG⟩:=hh
 obtain⟨m1,l1,r1⟩:=ASW hG B4 pS
 obtain⟨m2,l2,r2⟩:=ASW hG B4 hp2
 have IX:=TG (E:=E) (w:=w) (cs:=[v1,v2]) EB hu hq hz (by rw[mU];rfl) (by rw[mU];omega) (by rw[OD];rfl) (by rw[OD,mU];rfl)
 have conv:∀ {t:Ty} {v:SV} {ys:List t.T} {u:CW} {m:Nm} {l:List Nat},ASV c G w E L t v ys u m l->(u=[]/\l=[])\/∃ i,look L i=some (.row t ys)/\(AW.row t ys).G6=false/\u=[(i,.dead)]/\∀ b∈l,(AW.row t ys).ow E i b:=by
  intro t v ys u m l r
  rcases r.src with hx|⟨i,h1,h2,h3⟩
  ·exact .inl hx
  ·exact .inr ⟨i,h1,rfl,h2,h3⟩
 obtain⟨hH,j_,NS,AJ5,AQ6,h12⟩:=AH5 hG KZ (conv r1) (conv r2) VU
 have hold:¬c.Old w.heap.size:=fun hx=>by have:=hx.1;have:=hG.size;omega
 have hGn:¬G w.heap.size:=fun hx=>by have:=hG.tV _ hx;omega
 have QH:∀ (o:Obj),(w.alloc o).heap[w.heap.size]? =some o:=by
  intro o
  show (w.heap.push o)[w.heap.size]? =_
  simp
 have CD:∀ (o:Obj) (b:Nat),b<w.heap.size->(w.alloc o).heap[b]? =w.heap[b]? :=by
  intro o b hb
  show (w.heap.push o)[b]? =_
  rw[x6,AB (by omega)]
 have AQK:∀ b∈l1,b<w.heap.size:=fun b hb=>by obtain⟨_,_,_,_,_,h⟩:=r1.all b hb;exact RP h
 have AEJ:∀ b∈l2,b<w.heap.size:=fun b hb=>by obtain⟨_,_,_,_,_,h⟩:=r2.all b hb;exact RP h
 have AX8:∀ {t:Ty} {m:Nm} {ys:List t.T} {l:List Nat} (ob:Obj),FF (Rp G w t) t.sz w m ys->(m.nil=false->m.B5∈l)->(∀ b∈l,b<w.heap.size)->FF (Rp G (w.alloc ob) t) t.sz (w.alloc ob) m ys:=by
  intro t m ys l ob hi hm hl
  exact hi.mono (fun x vs hx=>Rp.mono (fun b hb=>CD ob b (hG.tV b hb)) (fun _ h=>h) t x vs hx) (fun hn=>CD ob _ (hl _ (hm hn)))
 obtain⟨g1,g2,g3,g4⟩:=hH.ASU (w' :=w.alloc (.cells (AK E [v1,v2]).toArray e)) j_ ⟨rfl,rfl,rfl⟩ (by show _<=(w.heap.push _).size;simp)
  (m:={ B5:=w.heap.size,off:=0,nil:=false,len:=1,cap:=1,UA:=none,ins:=⟨w.heap.size::(l1++l2)⟩,hd:=⟨fun k=>if k=0 then m1.h0 else m2.h0⟩ }) (t1:=a) (t2:=b) (xs:=[(y1,y2)])
  (fun b hb _=>CD _ b hb)
  (by
   intro b hb
   rcases F7.1 hb with rfl|hb
   ·exact S2 hH
   ·rcases EV.1 hb with hb|hb
    ·exact AJ5 b hb
    ·exact AQ6 b hb)
  (by
   refine⟨rfl,rfl, ?_, ?_,.inr ⟨rfl,by simp,by simp,_,e,QH _,by simp [AK], ?_, ?_, ?_, ?_⟩⟩
   ·refine T_.2 ⟨fun hm=> ?_,PL.2 ⟨r1.nd,r2.nd,fun b hb b' RZ he=>h12 b hb (he ▸ RZ)⟩⟩
    rcases EV.1 hm with hm|hm
    ·have:=AQK _ hm;omega
    ·have:=AEJ _ hm;omega
   ·intro b hb
    rcases F7.1 hb with rfl|hb
    ·exact⟨hGn,hold,_,_,_,QH _⟩
    ·rcases EV.1 hb with hb|hb
     ·obtain⟨q1,q2,arr,ty,fz,q3⟩:=r1.all b hb
      exact⟨q1,q2,arr,ty,fz,by rw[CD _ b (AQK b hb)];exact q3⟩
     ·obtain⟨q1,q2,arr,ty,fz,q3⟩:=r2.all b hb
      exact⟨q1,q2,arr,ty,fz,by rw[CD _ b (AEJ b hb)];exact q3⟩
   ·intro k hk
    simp only[HW] at hk
    match k with
    |0=>simp only[AK,r1.den];rfl
    |1=>simp only[AK,r2.den];rfl
    |k+2=>omega
   ·intro k x hk
    cases k with
    |succ k=>simp at hk
    |zero=>
     simp only[O1,AY] at hk;subst hk
     exact⟨AX8 _ r1.gT r1.mem AQK,AX8 _ r2.gT r2.mem AEJ⟩
   ·intro k hk
    simp only[HW] at hk
    match k with
    |0=>
     intro hn
     have hm:m1.B5∈l1:=r1.mem hn
     exact⟨S7 _ (EV.2 (.inl hm)),fun he=>by have:=AQK _ hm;have uH :m1.B5=w.heap.size:=he;omega⟩
    |1=>
     intro hn
     have hm:m2.B5∈l2:=r2.mem hn
     exact⟨S7 _ (EV.2 (.inr hm)),fun he=>by have:=AEJ _ hm;have uH :m2.B5=w.heap.size:=he;omega⟩
    |k+2=>omega
   ·intro k k' hk MC HK
    simp only[HW] at hk MC
    match k,k' with
    |0,0=>exact absurd rfl HK
    |1,1=>exact absurd rfl HK
    |0,1=>
     intro hn hn' he
     have uH :m1.B5=m2.B5:=he
     exact h12 _ (r1.mem hn) (uH ▸ r2.mem hn')
    |1,0=>
     intro hn hn' he
     have uH :m2.B5=m1.B5:=he
     exact h12 _ (r1.mem hn') (uH ▸ r2.mem hn)
    |k+2,_=>omega
    |_,k' +2=>omega)
 have eu:AI L (u1++u2++ [(bs,.tree a b [(y1,y2)])])=C5 (AI L (u1++u2)) (bs,.tree a b [(y1,y2)]):=by rw[BG];rfl
 rw[eu]
 refine⟨_,_,_,IX,.inl ?_,⟨G,g1⟩,fun n hn=>g2 n (NS n hn),rfl,g3⟩
 simp only[SV.den];rw[g4];rfl
theorem EX.rZ {c:DN TB} {G:Nat->Prop} {w:World} {m:Nm} {a b:Ty} {xs:List (List a.T×List b.T)} (d:EX c G w m a b xs):
  (∀ k x,xs[k]? =some x->FF (Rp G w a) a.sz w (m.hn (k*2)) x.1/\FF (Rp G w b) b.sz w (m.hn (k*2+1)) x.2)∧
  (∀ k,k<xs.length*2->(m.hn k).nil=false->(m.hn k).B5∈m.ins.l/\(m.hn k).B5≠m.B5/\m.nil=false)∧
  (∀ k k',k<xs.length*2->k' <xs.length*2->k≠k' ->(m.hn k).nil=false->(m.hn k').nil=false->(m.hn k).B5≠(m.hn k').B5)∧
  (∀ w' :World,w'.heap=w.heap->(Builtin.firstCells 2 xs.length (.slice m.ad m.len m.cap)).run P w' = .ok ((List.range (xs.length*2)).map fun k=>dH (m.hn k)).toArray w'):=by
 rcases d.cs with ⟨h1,h2,h3⟩|⟨h1,h2,h3,arr,ty,h4,h5,h6,h7,h8,h9⟩
 ·subst h2
  refine⟨fun k x hk=>by simp at hk,fun k hk=>by simp at hk,fun k k' hk=>by simp at hk,fun w' hw=> ?_⟩
  cases m.ad with
  |none=>rfl
  |some p=>
   have:=run_loadCells_list (P:=P) w' p [] (fun j v hj=>by simp at hj)
   exact this
 ·refine⟨h7,fun k hk hn=>⟨(h8 k hk hn).1,(h8 k hk hn).2,h1⟩,h9,fun w' hw=> ?_⟩
  have hm:m.len=xs.length:=d.len
  have hr:=TF (P:=P) (w:=w') (size:=2) h1 (by rw[hw];exact h4) (by rw[d.off];omega)
  rw[hm] at hr ⊢
  rw[hr]
  congr 2
  apply T9
  intro j
  rw[B9,d.off]
  by_cases hj:j<xs.length*2
  ·rw[AA (by omega),I7,h6 j hj]
   simp [hj,dH]
  ·rw[AB (by omega),SO (by simp;omega)]
theorem EX.join (P:Program) {c:DN TB} {G:Nat->Prop} {w w' :World} {a b:Ty} {xs ys:List (List a.T×List b.T)} {mx my m:Nm} (dx:EX c G w mx a b xs) (dy:EX c G w my a b ys)
  (hh:∀ k,m.hn k=if k<xs.length*2 then mx.hn k else my.hn (k-xs.length*2))
  (h1:m.len=(xs++ys).length) (h2:m.off=0) (h3:m.nil=false) (h4:m.B5∈m.ins.l) (h5:(xs++ys).length<=m.cap) (H8:m.ins.l.Nodup) (Z7:∀ b∈m.ins.l,¬G b/\¬c.Old b/\∃ arr ty fz,w'.heap[b]? =some (.cells arr ty fz))
  {arr:Array Value} {ty:TypeId} (ha:w'.heap[m.B5]? =some (.cells arr ty (0,0))) (YO:arr.size=m.cap*2)
  (hc:∀ k,k<(xs++ys).length*2->arr[k]? =some (dH (m.hn k)))
  (hsx:∀ b∈mx.ins.l,b∈m.ins.l) (hsy:∀ b∈my.ins.l,b∈m.ins.l) (VU:∀ b∈mx.ins.l,b∉my.ins.l) (hmx:m.B5∈mx.ins.l->m.B5=mx.B5) (hmy:m.B5∉my.ins.l)
  (hw:∀ b,b∈mx.ins.l\/b∈my.ins.l->b≠m.B5->w'.heap[b]? =w.heap[b]?) (hG:∀ b,G b->w'.heap[b]? =w.heap[b]?):EX c G w' m a b (xs++ys):=by
 obtain⟨x1,x2,x3,_⟩:=dx.rZ (P:=P)
 obtain⟨y1,y2,y3,_⟩:=dy.rZ (P:=P)
 have CJ:∀ k,k<xs.length*2->(mx.hn k).nil=false->(mx.hn k).B5≠m.B5:=by
  intro k hk hn he
  obtain⟨q1,q2,q3⟩:=x2 k hk hn
  exact q2 (he.trans (hmx (he ▸ q1)))
 have AM4:∀ k,k<ys.length*2->(my.hn k).nil=false->(my.hn k).B5≠m.B5:=by
  intro k hk hn he
  exact hmy (he ▸ (y2 k hk hn).1)
 have hix:∀ (t:Ty) (k:Nat) (v:List t.T),k<xs.length*2->FF (Rp G w t) t.sz w (mx.hn k) v->FF (Rp G w' t) t.sz w' (mx.hn k) v:=fun t k v hk hi=>
  hi.mono (fun x vs hx=>Rp.mono hG (fun _ h=>h) t x vs hx) (fun hn=>hw _ (.inl (x2 k hk hn).1) (CJ k hk hn))
 have hiy:∀ (t:Ty) (k:Nat) (v:List t.T),k<ys.length*2->FF (Rp G w t) t.sz w (my.hn k) v->FF (Rp G w' t) t.sz w' (my.hn k) v:=fun t k v hk hi=>
  hi.mono (fun x vs hx=>Rp.mono hG (fun _ h=>h) t x vs hx) (fun hn=>hw _ (.inr (y2 k hk hn).1) (AM4 k hk hn))
 refine⟨h1,h2,H8,Z7,.inr ⟨h3,h4,h5,arr,ty,ha,YO,hc, ?_, ?_, ?_⟩⟩
 ·intro k x hk
  rw[hh,hh]
  by_cases jE:k<xs.length
  ·rw[T6 jE] at hk
   obtain⟨q1,q2⟩:=x1 k x hk
   rw[AA (by omega),AA (by omega)]
   exact⟨hix a _ _ (by omega) q1,hix b _ _ (by omega) q2⟩
  ·rw[T5 (by omega)] at hk
   have C7:=(uA.1 hk).1
   obtain⟨q1,q2⟩:=y1 _ x hk
   rw[AB (by omega),AB (by omega),show k*2-xs.length*2=(k-xs.length)*2 by omega,show k*2+1-xs.length*2=(k-xs.length)*2+1 by omega]
   exact⟨hiy a _ _ (by omega) q1,hiy b _ _ (by omega) q2⟩
 ·intro k hk
  rw[I5] at hk
  rw[hh]
  by_cases jE:k<xs.length*2
  ·rw[AA jE]
   exact fun hn=>⟨hsx _ (x2 k jE hn).1,CJ k jE hn⟩
  ·rw[AB jE]
   exact fun hn=>⟨hsy _ (y2 _ (by omega) hn).1,AM4 _ (by omega) hn⟩
 ·intro i j hi hj jD
  rw[I5] at hi hj
  rw[hh,hh]
  by_cases hix:i<xs.length*2
  ·rw[AA hix]
   by_cases hjx:j<xs.length*2
   ·rw[AA hjx];exact x3 i j hix hjx jD
   ·rw[AB hjx]
    intro RR hnj he
    exact VU _ (x2 i hix RR).1 (he ▸ (y2 _ (by omega) hnj).1)
  ·rw[AB hix]
   by_cases hjx:j<xs.length*2
   ·rw[AA hjx]
    intro RR hnj he
    exact VU _ (x2 j hjx hnj).1 (he ▸ (y2 _ (by omega) RR).1)
   ·rw[AB hjx];exact y3 _ _ (by omega) (by omega) (by omega)
set_option maxHeartbeats 1000000 in
theorem AFC {o:Oper} {ρ:Operand->SV} {args:Array Operand} {ts:Array TypeId} (EB:o.op= .call { callee:= .builtin .append,args:=args,argTypes:=ts }) {x y:SV} (MZ:args.toList.map ρ=[x,y])
  {bs:Nat} (B4:∀ n e,AQ n=some e->look L n=some e) {v:SV} {C2:CW} (h:dC P AQ ts.toList x y bs pr=some (v,C2)):EJ TB P o ρ L v C2:=by
 unfold dC at h
 split at h
 rotate_left
 ·cases h
 rename_i t0 t1 hts
 split at h
 rotate_left
 ·cases h
 rename_i e e1 hu hu1
 split at h
 rotate_left
 ·cases h
 rename_i q a b hq hz hty
 split at h
 rotate_left
 ·cases h
 rename_i hc
 obtain⟨mU,hqb,DC⟩:=hc
 split at h
 rotate_left
 ·cases h
 rename_i xs u1 ys u2 pS hp2
 split at h
 rotate_left
 ·cases h
 rename_i VU
 split at h
 rotate_left
 ·cases h
 rename_i hby
 simp only[pr,AY,C3] at h
 obtain⟨rfl,rfl⟩:=h
 have KZ:look L bs=some .KI:=B4 _ _ (by have:=CM DC 0 (by omega);simpa using this)
 obtain⟨zv,hzv,hzl⟩:∃ zv,q.zero=some zv/\zv.cells.toList.map RN=[.KX,.KX]:=by
  unfold MX at hz
  rw[hq] at hz
  simp only at hz
  split at hz
  ·simp only[AY] at hz
   exact⟨_,by assumption,hz⟩
  ·cases hz
 have hzc:zv.cells= #[.slice none 0 0,.slice none 0 0]:=by
  have:=UK (E:=⟨fun _=>⟨0,0,true,0,0,none⟩,fun _=>undef⟩) zv.cells.toList
  rw[hzl] at this
  apply YC
  exact this.symm
 have pE:ts[0]? =some t0:=by rw[<-gM,hts];rfl
 have pF:ts[1]? =some t1:=by rw[<-gM,hts];rfl
 refine BI fun c w E hh hw=> ?_
 obtain⟨G,hG⟩:=hh
 have side:∀ (v:SV) (zs:List (List a.T×List b.T)) (u:CW),ABK AQ a b v=some (zs,u)->∃ (m:Nm),v.den E= .slice m.ad m.len m.cap/\EX c G w m a b zs∧
   ((u=[]/\m.ins.l=[])\/∃ i,look L i=some (.tree a b zs)/\(AW.tree a b zs).G6=false/\u=[(i,.dead)]/\∀ z∈m.ins.l,(AW.tree a b zs).ow E i z):=by
  intro v zs u hv
  rcases AFB hv with ⟨rfl,rfl,rfl⟩|⟨i,rfl,hl,rfl⟩
  ·exact⟨⟨0,0,true,0,0,none⟩,rfl,⟨rfl,rfl,dR,(fun b hb=>(by cases hb)),.inl ⟨rfl,rfl,rfl⟩⟩,.inl ⟨rfl,rfl⟩⟩
  ·exact⟨E.nm i,rfl,hG.KY i _ (B4 _ _ hl),.inr ⟨i,B4 _ _ hl,rfl,rfl,fun z hz=>AW.cV.2 hz⟩⟩
 obtain⟨mx,hxd,dx,sx⟩:=side x xs u1 pS
 obtain⟨my,hyd,dy,sy⟩:=side y ys u2 hp2
 obtain⟨_,_,_,rx⟩:=dx.rZ (P:=P)
 obtain⟨_,_,_,ry⟩:=dy.rZ (P:=P)
 obtain⟨hH,j_,NS,AM5,AM6,hxy⟩:=AH5 hG KZ sx sy VU
 have n9:∀ (w' :World) (r:Value),(Builtin.append_ ts o.type #[.slice mx.ad mx.len mx.cap,.slice my.ad my.len my.cap]).run P w= .ok r w' ->(execOp (fun x=>(ρ x).den E) o).run P w= .ok (.value r) w' :=by
  intro w' r hr
  have hU :(args.map fun x=>(ρ x).den E)= #[.slice mx.ad mx.len mx.cap,.slice my.ad my.len my.cap]:=by
   apply YC
   have:(args.toList.map ρ).map (SV.den E)=[.slice mx.ad mx.len mx.cap,.slice my.ad my.len my.cap]:=by rw[MZ];simp [hxd,hyd]
   rw[S8] at this
   rw[fW]
   exact this
  simp only[execOp,EB,resolve,invoke,Sem.run_bind,Sem.run_pure,Result.andThen,hU,builtin,hr]
 have rS:=dx.len
 have jF:=dy.len
 have AF9:∀ (w' :World) (m:Nm),Rest w w' ->w.heap.size<=w'.heap.size->(∀ z,z<w.heap.size->z∉m.ins.l->w'.heap[z]? =w.heap[z]?)->(∀ z∈m.ins.l,H5 E (AI L (u1++u2)) z)->EX c G w' m a b (xs++ys)→
   (Builtin.append_ ts o.type #[.slice mx.ad mx.len mx.cap,.slice my.ad my.len my.cap]).run P w= .ok (.slice m.ad m.len m.cap) w' →
   ∃ (w' :World) (E' :Env) (nx:Next),(execOp (fun x=>(ρ x).den E) o).run P w= .ok nx w' /\(nx= .value ((SV.MB bs).den E')\/(nx= .skip/\(SV.MB bs)=AV))∧
   Hd c w' E' (AI L (u1++u2++ [(bs,.tree a b (xs++ys))]))/\(∀ n,Al L n->E'.nm n=E.nm n/\Al (AI L (u1++u2++ [(bs,.tree a b (xs++ys))])) n)/\E'.ds=E.ds/\(SV.MB bs).wf E' (AI L (u1++u2++ [(bs,.tree a b (xs++ys))])):=by
  intro w' m r1 r2 r3 r4 r5 r6
  obtain⟨g1,g2,g3,g4⟩:=hH.ASU j_ r1 r2 r3 r4 r5
  have eu:AI L (u1++u2++ [(bs,.tree a b (xs++ys))])=C5 (AI L (u1++u2)) (bs,.tree a b (xs++ys)):=by rw[BG];rfl
  rw[eu]
  refine⟨w',_,_,n9 _ _ r6,.inl ?_,⟨G,g1⟩,fun n hn=>g2 n (NS n hn),rfl,g3⟩
  simp only[SV.den];rw[g4]
 by_cases rY:mx.cap<mx.len+my.len
 ·
  obtain⟨c',hc',IX⟩:=run_append_grow (P:=P) (w:=w) (ty:=o.type) (a:=mx.ad) (b:=my.ad) (len:=mx.len) (cap:=mx.cap) (n:=my.len) (c:=my.cap) pE pF hu hu1 hq hzv hqb
   (by rw[mU];have:=ry w.drew rfl;rw[<-jF] at this;exact this)
   (by rw[mU];have:=rx w.drew rfl;rw[<-rS] at this;exact this) rY (by rw[rS,jF];exact hby)
  have hold:¬c.Old w.heap.size:=fun hx=>by have:=hx.1;have:=hG.size;omega
  have hGn:¬G w.heap.size:=fun hx=>by have:=hG.tV _ hx;omega
  have CD:∀ (ob:Obj) (z:Nat),z<w.heap.size->((w.drew).alloc ob).heap[z]? =w.heap[z]? :=by
   intro ob z hz
   show (w.heap.push ob)[z]? =_
   rw[x6,AB (by omega)]
  have QH:∀ (ob:Obj),((w.drew).alloc ob).heap[w.heap.size]? =some ob:=by
   intro ob
   show (w.heap.push ob)[w.heap.size]? =_
   simp
  have y6:∀ z∈mx.ins.l,z<w.heap.size:=fun z hz=>by obtain⟨_,_,_,_,_,h⟩:=dx.all z hz;exact RP h
  have y7:∀ z∈my.ins.l,z<w.heap.size:=fun z hz=>by obtain⟨_,_,_,_,_,h⟩:=dy.all z hz;exact RP h
  have hhn:∀ k,(Nm.hn { B5:=w.heap.size,off:=0,nil:=false,len:=mx.len+my.len,cap:=c',UA:=none,ins:=⟨w.heap.size::(mx.ins.l++my.ins.l)⟩,hd:=⟨fun k=>if k<xs.length*2 then mx.hd.l k else my.hd.l (k-xs.length*2)⟩ } k)=if k<xs.length*2 then mx.hn k else my.hn (k-xs.length*2):=by
   intro k
   show (if k<xs.length*2 then mx.hd.l k else my.hd.l (k-xs.length*2)).nm=_
   split <;> rfl
  refine AF9 _ { B5:=w.heap.size,off:=0,nil:=false,len:=mx.len+my.len,cap:=c',UA:=none,ins:=⟨w.heap.size::(mx.ins.l++my.ins.l)⟩,hd:=⟨fun k=>if k<xs.length*2 then mx.hd.l k else my.hd.l (k-xs.length*2)⟩ } ?_ ?_ ?_ ?_ ?_ IX
  ·exact⟨rfl,rfl,rfl⟩
  ·show _<=(w.heap.push _).size;simp
  ·exact fun z hz _=>CD _ z hz
  ·intro z hz
   rcases F7.1 hz with rfl|hz
   ·exact S2 hH
   ·rcases EV.1 hz with hz|hz
    ·exact AM5 z hz
    ·exact AM6 z hz
  ·refine EX.join P dx dy hhn (by simp [rS,jF]) rfl rfl (by simp) (by simp [<-rS,←jF];exact hc') ?_ ?_ (QH _) ?_ ?_ (fun z hz=>by simp [hz]) (fun z hz=>by simp [hz]) hxy (fun hm=> ?_) (fun hm=> ?_) (fun z hz _=>CD _ z (hz.elim (y6 z) (y7 z))) (fun z hz=>CD _ z (hG.tV z hz))
   ·refine T_.2 ⟨fun hm=> ?_,PL.2 ⟨dx.nd,dy.nd,fun z hz z' hz' he=>hxy z hz (he ▸ hz')⟩⟩
    rcases EV.1 hm with hm|hm
    ·have:=y6 _ hm;omega
    ·have:=y7 _ hm;omega
   ·intro z hz
    rcases F7.1 hz with rfl|hz
    ·exact⟨hGn,hold,_,_,_,QH _⟩
    ·rcases EV.1 hz with hz|hz
     ·obtain⟨q1,q2,arr,ty,fz,q3⟩:=dx.all z hz
      exact⟨q1,q2,arr,ty,fz,by rw[CD _ z (y6 z hz)];exact q3⟩
     ·obtain⟨q1,q2,arr,ty,fz,q3⟩:=dy.all z hz
      exact⟨q1,q2,arr,ty,fz,by rw[CD _ z (y7 z hz)];exact q3⟩
   ·simp [Builtin.zeroCells,hzc]
    omega
   ·intro k hk
    rw[I5] at hk
    rw[hhn,AAP (by simp;omega)]
    by_cases jE:k<xs.length*2
    ·rw[AA jE,AAP (by simp;omega)]
     simp [List.getElem?_range (show k<mx.len*2 by omega)]
    ·rw[AB jE,Array.getElem?_append_right (by simp;omega)]
     have N9:k-xs.length*2<my.len*2:=by omega
     simp [rS,List.getElem?_range N9]
   ·have:=y6 _ hm;simp at this
   ·have:=y7 _ hm;simp at this
 ·
  rcases dx.cs with ⟨UQ,h2,h3⟩|⟨UQ,p4,p3,arr,ty,p1,p2,p5,_,_,_⟩
  ·have hx0:mx.len=0:=by rw[rS,h2];rfl
   have hy0:my.len=0:=by omega
   have hys:ys=[]:=by
    cases ys with
    |nil=>rfl
    |cons _ _=>simp at jF;omega
   have y8:mx.ad=mx.UA:=by simp [Nm.ad,UQ]
   have IX:=HZ (P:=P) (w:=w) (w' :=w) (ty:=o.type) (a:=mx.UA) (b:=my.ad) (len:=0) (cap:=0) (n:=my.len) (c:=my.cap) (news:=[]) pE pF hu hu1 hq
    (by rw[mU];have:=ry w rfl;rw[<-jF,hy0] at this;rw[hy0];exact this) (by omega) (by split <;> rfl)
   refine AF9 w ⟨0,0,true,0,0,mx.UA⟩ (.refl _) (ED _) (fun _ _ _=>rfl) (fun z hz=>(by cases hz)) ⟨by simp [h2,hys],rfl,dR,(fun z hz=>(by cases hz)),.inl ⟨rfl,by simp [h2,hys],rfl⟩⟩ ?_
   rw[y8,hx0,h3,IX,hy0]
   rfl
  ·have hnl:((List.range (ys.length*2)).map fun k=>dH (my.hn k)).length=ys.length*2:=by simp
   obtain⟨w',s1,s2,s3,s4,s5⟩:=OC (P:=P) (off:=mx.len*2) ((List.range (ys.length*2)).map fun k=>dH (my.hn k)) w arr 0 p1 (by
     intro u hu
     obtain⟨k,_,rfl⟩:=C0.1 hu
     exact⟨fun c h=>(by cases h),fun c h=>(by cases h)⟩) (by rw[hnl];omega)
   rw[L3] at s4
   have y8:mx.ad=some ⟨mx.B5,0,none⟩:=by simp [Nm.ad,UQ,dx.off]
   have IX:=HZ (P:=P) (w:=w) (w' :=w') (ty:=o.type) (a:=mx.ad) (b:=my.ad) (len:=mx.len) (cap:=mx.cap) (n:=my.len) (c:=my.cap) (news:=(List.range (ys.length*2)).map fun k=>dH (my.hn k)) pE pF hu hu1 hq
    (by rw[mU];have:=ry w rfl;rw[<-jF] at this ⊢;exact this) (by omega) (by
     rw[y8]
     simp only
     rw[mU,G_,I7];exact s1)
   have hmy:mx.B5∉my.ins.l:=hxy _ p4
   have hhn:∀ k,(Nm.hn { B5:=mx.B5,off:=0,nil:=false,len:=mx.len+my.len,cap:=mx.cap,UA:=none,ins:=⟨mx.ins.l++my.ins.l⟩,hd:=⟨fun k=>if k<xs.length*2 then mx.hd.l k else my.hd.l (k-xs.length*2)⟩ } k)=if k<xs.length*2 then mx.hn k else my.hn (k-xs.length*2):=by
    intro k
    show (if k<xs.length*2 then mx.hd.l k else my.hd.l (k-xs.length*2)).nm=_
    split <;> rfl
   refine AF9 w' { B5:=mx.B5,off:=0,nil:=false,len:=mx.len+my.len,cap:=mx.cap,UA:=none,ins:=⟨mx.ins.l++my.ins.l⟩,hd:=⟨fun k=>if k<xs.length*2 then mx.hd.l k else my.hd.l (k-xs.length*2)⟩ } s2 (by omega) (fun z _ hz=>s5 z (fun he=>hz (by rw[he];simp [p4]))) ?_ ?_ ?_
   ·intro z hz
    rcases EV.1 hz with hz|hz
    ·exact AM5 z hz
    ·exact AM6 z hz
   ·refine EX.join P dx dy hhn (by simp [rS,jF]) rfl rfl (by simp [p4]) (by simp [<-rS,←jF];omega) (PL.2 ⟨dx.nd,dy.nd,fun z hz z' hz' he=>hxy z hz (he ▸ hz')⟩) ?_ s4 (by rw[QE];exact p2) ?_ (fun z hz=>by simp [hz]) (fun z hz=>by simp [hz]) hxy (fun _=>rfl) hmy (fun z _ hz=>s5 z hz) (fun z hz=>s5 z (fun he=>(dx.all _ p4).1 (he ▸ hz)))
    ·intro z hz
     by_cases hzm:z=mx.B5
     ·subst hzm
      exact⟨(dx.all _ p4).1,(dx.all _ p4).2.1,_,_,_,s4⟩
     ·rw[s5 z hzm]
      rcases EV.1 hz with hz|hz
      ·exact dx.all z hz
      ·exact dy.all z hz
    ·intro k hk
     rw[I5] at hk
     rw[hhn,JC,hnl]
     by_cases jE:k<xs.length*2
     ·rw[AB (by omega),AA jE];exact p5 k jE
     ·rw[AA (by omega),AB jE]
      have:k-xs.length*2<ys.length*2:=by omega
      rw[rS]
      simp [this]
   ·rw[IX,y8]
    rfl
end
end Go.V3
namespace Go.V3
open Go
variable {TB:Tb}
section
variable {P:Program} {AQ:Nat->Option AW} {L:AJ}
theorem VA {w:World} {t e:TypeId} {q:TypeInfo} {x:SV} {E:Env} {A:Option Addr} {len cap:Nat} {low high:Option SV} {h l:Option Int} {hn ln:Nat} (hu:P.underlying t=some (.slice e)) (hq:P.info? e=some q)
  (hx:x.den E= .slice A len cap) (hh:bnd high len=some (h,hn)) (hl:bnd low 0=some (l,ln)) (hb:Bd l h hn cap):
  (Instr.sliceAt t (x.den E) (low.map (SV.den E)) (high.map (SV.den E)) none).run P w= .ok (.slice (if cap=ln then A else l_ A (ln*q.size)) (hn-ln) (cap-ln)) w:=by
 simp only[Instr.sliceAt,hx,Sem.run_bind,run_underlying hu,Result.andThen]
 simp only[Instr.slice,Sem.run_bind,run_underlying hu,Result.andThen,rE (E:=E) w true hh hl rfl hb,sizeOf,typeInfo]
 simp [hq,l_]
theorem AFD {low high:Option SV} {n:Nat} {h l:Option Int} {hn ln cap:Nat} (hh:bnd high n=some (h,hn)) (hl:bnd low 0=some (l,ln)) (hb:Bd l h hn n) (hc:n<=cap):ln<=hn/\hn<=n/\Bd l h hn cap:=by
 obtain⟨b1,b2⟩:=hb
 have h2:ln<=hn:=by
  unfold bnd at hl
  cases low with
  |none=>simp only[AY,C3] at hl;obtain⟨rfl,rfl⟩:=hl;omega
  |some y=>
   simp only at hl
   split at hl
   ·simp only[AY,C3] at hl
    obtain⟨rfl,rfl⟩:=hl
    simp only at b2
    omega
   ·cases hl
 unfold bnd at hh
 cases high with
 |none=>simp only[AY,C3] at hh;obtain⟨rfl,rfl⟩:=hh;exact⟨h2,ED _,trivial,b2⟩
 |some y=>
  simp only at hh
  split at hh
  ·simp only[AY,C3] at hh
   obtain⟨rfl,rfl⟩:=hh
   simp only at b1
   exact⟨h2,by omega,⟨b1.1,by omega⟩,b2⟩
  ·cases hh
theorem AQL {α:Type} {R:α->List Value->Prop} {sz:Nat} {c:DN TB} {G:Nat->Prop} {w:World} {m:Nm} {xs:List α} (h:Own R sz c G w m xs) {lo n:Nat} (hl:lo+n<=m.len):
  Own R sz c G w (if m.cap=lo then ({ B5:=m.B5,off:=m.off,nil:=m.nil,len:=n,cap:=m.cap-lo,UA:=m.UA,fz:=m.fz }:Nm) else { B5:=m.B5,off:=m.off+lo*sz,nil:=m.nil,len:=n,cap:=m.cap-lo,UA:=l_ m.UA (lo*sz),fz:=m.fz }) (BX xs lo n):=by
 have dU:=cT h
 obtain⟨h1,h2,h3⟩:=h
 have hlen:(BX xs lo n).length=n:=by unfold BX;simp;omega
 rcases h3 with ⟨h4,rfl,h6⟩|⟨h4,h5,h6,h7,arr,ty,h8,h9,uG⟩
 ·have hlo:lo=0/\n=0:=by simp at h1;omega
  obtain⟨rfl,rfl⟩:=hlo
  rw[AA h6]
  exact⟨by simp [BX],trivial,.inl ⟨h4,by simp [BX],by simp [h6]⟩⟩
 ·by_cases hc:m.cap=lo
  ·have hn:n=0:=by omega
   subst hn
   rw[AA hc]
   exact⟨by simp [BX],trivial,.inr ⟨h4,h5,h6,by simp [BX],arr,ty,h8,by simp only[hc,Nat.sub_self,Nat.zero_mul];omega,by intro i x hx;simp [BX] at hx⟩⟩
  ·rw[AB hc]
   have hm:(m.cap-lo)*sz+lo*sz=m.cap*sz:=by rw[<-ZU];congr 1;omega
   refine⟨hlen.symm,trivial,.inr ⟨h4,h5,h6,by rw[hlen];show n<=m.cap-lo;omega,arr,ty,h8,by show m.off+lo*sz+(m.cap-lo)*sz<=_;omega,fun i x hx=> ?_⟩⟩
   simp only[BX] at hx
   rw[jG] at hx
   split at hx
   ·rw[ZQ] at hx
    have:=uG _ _ hx
    rw[ZU] at this
    rw[NI]
    exact this
   ·cases hx
theorem AJO {o:Oper} {ρ:Operand->SV} {t:TypeId} {x:Operand} {l h:Option Operand} (EB:o.op= .slice t x l h none) {AL:Bool} {bs:Nat} (B4:∀ n e,AQ n=some e->look L n=some e) {v:SV} {C2:CW}
  (hs:mQ P AQ t (ρ x) (l.map ρ) (h.map ρ) AL bs pr=some (v,C2)):EJ TB P o ρ L v C2:=by
 unfold mQ at hs
 split at hs
 rotate_left
 ·cases hs
 rename_i e hu
 split at hs
 rotate_left
 ·cases hs
 rename_i q i hq hx
 have AM7:∀ (E:Env) (y:Option Operand),y.map (fun x=>(ρ x).den E)=(y.map ρ).map (SV.den E):=fun E y=>by cases y <;> rfl
 split at hs
 ·rename_i a xs hl
  cases AL with
  |true=>
   simp only at hs
   split at hs
   rotate_left
   ·cases hs
   rename_i hc
   obtain⟨dF,DC⟩:=hc
   split at hs
   rotate_left
   ·cases hs
   rename_i hh hn ll ln hhb hlb
   split at hs
   rotate_left
   ·cases hs
   rename_i hb
   simp only[pr,AY,C3] at hs
   obtain⟨rfl,rfl⟩:=hs
   have KZ:look L bs=some .KI:=B4 _ _ (by have:=CM DC 0 (by omega);simpa using this)
   have hLi:=B4 _ _ hl
   refine BI fun c w E hH hw=> ?_
   obtain⟨G,hG⟩:=hH
   have uN:Own (Rp G w a) a.sz c G w (E.nm i) xs:=hG.KY i _ hLi
   have dU:=cT uN
   have hlen:=uN.1
   obtain⟨c1,c2,c3⟩:=AFD hhb hlb hb (cap:=(E.nm i).cap) (by omega)
   have JB:=AQL uN (lo:=ln) (n:=hn-ln) (by omega)
   have hib:i≠bs:=by intro he;rw[he,KZ] at hLi;cases hLi
   have V1:=hG.kill (AP hLi)
   have y5:look (C5 L (i,.dead)) bs=some .KI:=by rw[AZ (AP hLi),AB (fun he=>hib he.symm)];exact KZ
   have CO:∀ b,(AW.row a (BX xs ln (hn-ln))).own (if (E.nm i).cap=ln then ({ B5:=(E.nm i).B5,off:=(E.nm i).off,nil:=(E.nm i).nil,len:=hn-ln,cap:=(E.nm i).cap-ln,UA:=(E.nm i).UA,fz:=(E.nm i).fz }:Nm) else { B5:=(E.nm i).B5,off:=(E.nm i).off+ln*a.sz,nil:=(E.nm i).nil,len:=hn-ln,cap:=(E.nm i).cap-ln,UA:=l_ (E.nm i).UA (ln*a.sz),fz:=(E.nm i).fz })=some b->(AW.row a xs).own (E.nm i)=some b:=by
    intro b hb
    split at hb <;> exact hb
   have h1:=V1.change (i:=bs) (e' := .row a (BX xs ln (hn-ln))) (m:=_) (w' :=w) (AP y5) (.refl _) (ED _) (fun hx=>absurd hx (EF y5)) rfl (fun _ _ _=>rfl)
    (fun b hb=>by have:=hG.O3 hLi (.inl (CO b hb));exact⟨this.2.1,this.1⟩)
    (fun k f hk hf b hb he=>by
     rw[AZ (AP hLi)] at hf
     by_cases gA:k=i
     ·subst gA;simp only[GA,AY] at hf;subst hf;rcases hb with hb|⟨hb,_⟩|⟨hb,_⟩ <;> cases hb
     ·rw[AB gA] at hf
      exact hG.inj k i f _ b gA hf hLi hb (.inl (CO b he)))
    (fun _=>JB)
   refine⟨w,_,_, ?_,.inl rfl,⟨G,h1⟩,fun n hn=>⟨E.GO _ (fun he=>EF (he ▸ KZ) hn),BM rfl n (BM rfl n hn)⟩,rfl,⟨_,by show look (C5 (C5 L _) _) bs=_;rw[AZ (AP y5),AA rfl],rfl⟩⟩
   simp only[execOp,EB,Option.map_none,AM7]
   refine CL ?_
   rw[VA (E:=E) (x:=ρ x) (A:=(E.nm i).ad) (len:=xs.length) (cap:=(E.nm i).cap) hu hq (by rw[hx];simp [SV.den,hlen]) hhb hlb c3]
   simp only[SV.den,Env.EE]
   split
   ·rename_i hcl;simp [Nm.ad]
   ·simp only[Nm.ad,dF]
    split
    ·rfl
    ·simp [l_,G_]
  |false=>
  simp only at hs
  split at hs
  rotate_left
  ·cases hs
  rename_i dF
  split at hs
  rotate_left
  ·cases hs
  rename_i hh hn ll ln hhb hlb
  split at hs
  rotate_left
  ·cases hs
  rename_i hb
  simp only[pr,AY,C3] at hs
  obtain⟨rfl,rfl⟩:=hs
  refine BI fun c w E hH hw=> ?_
  obtain⟨G,hG⟩:=hH
  have uN:=hG.KY i _ (B4 _ _ hl)
  have dU:=cT uN
  have hlen:=uN.1
  obtain⟨c1,c2,c3⟩:=AFD hhb hlb hb (cap:=(E.nm i).cap) (by omega)
  have UO:=hw x
  rw[hx] at UO
  refine⟨w,E,_, ?_,.inl rfl,⟨G,hG⟩,fun n hn=>⟨rfl,hn⟩,rfl,⟨UO,by omega⟩⟩
  simp only[execOp,EB,Option.map_none,AM7]
  refine CL ?_
  rw[VA (E:=E) (x:=ρ x) (A:=(E.nm i).ad) (len:=xs.length) (cap:=(E.nm i).cap) hu hq (by rw[hx];simp [SV.den,hlen]) hhb hlb c3]
  simp [SV.den,dF]
 ·rename_i a xs hl
  split at hs
  rotate_left
  ·cases hs
  rename_i hc
  obtain⟨dF,DC⟩:=hc
  split at hs
  rotate_left
  ·cases hs
  rename_i hh hn ll ln hhb hlb
  split at hs
  rotate_left
  ·cases hs
  rename_i hb
  simp only[pr,AY,C3] at hs
  obtain⟨rfl,rfl⟩:=hs
  have KZ:look L bs=some .KI:=B4 _ _ (by have:=CM DC 0 (by omega);simpa using this)
  refine BI fun c w E hH hw=> ?_
  obtain⟨G,hG⟩:=hH
  have uN:o_ (Rp G w a) a.sz G w (E.nm i) xs:=hG.KY i _ (B4 _ _ hl)
  have hlen:=uN.1
  obtain⟨c1,c2,c3⟩:=AFD hhb hlb hb (cap:=(E.nm i).cap) (by have:=uN.2.1;omega)
  have JB:=jP uN (lo:=ln) (n:=hn-ln) (by omega)
  have h1:=hG.change (i:=bs) (e' := .shr a (BX xs ln (hn-ln))) (m:=_) (w' :=w) (AP KZ) (.refl _) (ED _) (fun hx=>absurd hx (EF KZ)) rfl (fun _ _ _=>rfl) (fun b hb=>by cases hb) (fun _ _ _ _ _ _ hb=>by cases hb) (fun _=>JB)
  refine⟨w,_,_, ?_,.inl rfl,⟨G,h1⟩,fun n hn=>⟨E.GO _ (fun he=>EF (he ▸ KZ) hn),BM rfl n hn⟩,rfl,⟨_,by show look (C5 L _) bs=_;rw[AZ (AP KZ),AA rfl],rfl⟩⟩
  simp only[execOp,EB,Option.map_none,AM7]
  refine CL ?_
  rw[VA (E:=E) (x:=ρ x) (A:=(E.nm i).ad) (len:=xs.length) (cap:=(E.nm i).cap) hu hq (by rw[hx];simp [SV.den,hlen]) hhb hlb c3]
  simp only[SV.den,Env.EE]
  split
  ·rename_i hcl;simp [Nm.ad]
  ·simp only[Nm.ad,dF]
   split
   ·rfl
   ·simp [l_,G_]
 ·cases hs
theorem K9 {w:World} {t e:TypeId} {q:TypeInfo} {x i:SV} {E:Env} {p:Addr} {len cap:Nat} {n:Int} (hu:P.underlying t=some (.slice e)) (hq:P.info? e=some q) (hx:x.den E= .slice (some p) len cap) (hi:idxOf i=some n)
  (h0:0<=n) (h1:n<len):(Instr.indexAt t (x.den E) (i.den E)).run P w= .ok (.pointer (some (p.add (n.toNat*q.size)))) w:=by
 obtain⟨k,hk⟩:=S1 (E:=E) hi
 rw[hk,hx]
 simp [Instr.indexAt,asIntOf,run_underlying hu,sizeOf,typeInfo,hq,h0,h1]
theorem sA {w:World} {t e:TypeId} {len:Nat} {q:TypeInfo} {x i:SV} {E:Env} {p:Addr} {n:Int} (hu:P.underlying t=some (.array len e)) (hq:P.info? e=some q) (hx:x.den E= .pointer (some p)) (hi:idxOf i=some n)
  (h0:0<=n) (h1:n<len):(Instr.indexAt t (x.den E) (i.den E)).run P w= .ok (.pointer (some (p.add (n.toNat*q.size)))) w:=by
 obtain⟨k,hk⟩:=S1 (E:=E) hi
 rw[hk,hx]
 simp [Instr.indexAt,asIntOf,run_underlying hu,sizeOf,typeInfo,hq,h0,h1,Instr.sureAddr]
theorem AJP {o:Oper} {ρ:Operand->SV} {t:TypeId} {x i:Operand} (EB:o.op= .indexAddr t x i) (B4:∀ n e,AQ n=some e->look L n=some e) {v:SV} {C2:CW}
  (hs:mR P AQ t (ρ x) (ρ i) pr=some (v,C2)):EJ TB P o ρ L v C2:=by
 have whole:∀ (j:Nat) (a:Ty) (xs:List a.T) (e:TypeId) (q:TypeInfo) (n:Int),P.underlying t=some (.slice e)->P.info? e=some q->idxOf (ρ i)=some n->ρ x= .MB j->(look L j=some (.row a xs)\/look L j=some (.shr a xs))->q.size=a.sz->0<=n/\n<(xs.length:Int)→
   EJ TB P o ρ L (.el j n.toNat a.sz 0) []:=by
  intro j a xs e q n hu hq hi hx hl dF hn
  refine BI fun c w E hH hw=> ?_
  obtain⟨G,hG⟩:=hH
  have UO:=hw x
  rw[hx] at UO
  have hrd:Rd (Rp G w a) a.sz w (E.nm j) xs:=by
   rcases hl with hl|hl
   ·exact rW (hG.KY j _ hl)
   ·exact AF6 (hG.KY j _ hl)
  have SX:(E.nm j).nil=false:=by
   rcases hrd.2.2 with h|h
   ·rw[h] at hn;simp at hn;omega
   ·exact h.1
  refine⟨w,E,_, ?_,.inl rfl,⟨G,hG⟩,fun n hn=>⟨rfl,hn⟩,rfl,⟨UO,by rw[hrd.1];omega,SX⟩⟩
  simp only[execOp,EB]
  refine CL ?_
  rw[K9 (p:=⟨(E.nm j).B5,(E.nm j).off,none⟩) hu hq (len:=(E.nm j).len) (cap:=(E.nm j).cap) (by rw[hx];simp [SV.den,Nm.ad,SX]) hi hn.1 (by rw[hrd.1];exact hn.2)]
  simp [SV.den,G_,dF]
 unfold mR at hs
 split at hs
 ·rename_i e n hu hi
  split at hs
  ·rename_i q j hq hx
   split at hs
   ·rename_i a xs hl
    split at hs
    rotate_left
    ·cases hs
    rename_i dF
    split at hs
    rotate_left
    ·cases hs
    rename_i hn
    simp only[pr,AY,C3] at hs
    obtain⟨rfl,rfl⟩:=hs
    exact whole j a xs e q n hu hq hi hx (.inl (B4 _ _ hl)) dF hn
   ·rename_i a xs hl
    split at hs
    rotate_left
    ·cases hs
    rename_i dF
    split at hs
    rotate_left
    ·cases hs
    rename_i hn
    simp only[pr,AY,C3] at hs
    obtain⟨rfl,rfl⟩:=hs
    exact whole j a xs e q n hu hq hi hx (.inr (B4 _ _ hl)) dF hn
   ·rename_i a xss hh hl
    split at hs
    rotate_left
    ·cases hs
    rename_i dF
    split at hs
    rotate_left
    ·cases hs
    rename_i hn
    simp only[pr,AY,C3] at hs
    obtain⟨rfl,rfl⟩:=hs
    refine BI fun c w E hH hw=> ?_
    obtain⟨G,hG⟩:=hH
    have UO:=hw x
    rw[hx] at UO
    have hd:=hG.dp j _ _ _ (B4 _ _ hl)
    have hlen:=hd.len
    have SX:(E.nm j).nil=false:=by
     rcases hd.cs with ⟨_,h2,_⟩|⟨h1,_⟩
     ·rw[h2] at hn;simp at hn;omega
     ·exact h1
    refine⟨w,E,_, ?_,.inl rfl,⟨G,hG⟩,fun n hn=>⟨rfl,hn⟩,rfl,⟨UO,by rw[hlen];omega,SX⟩⟩
    simp only[execOp,EB]
    refine CL ?_
    rw[K9 (p:=⟨(E.nm j).B5,(E.nm j).off,none⟩) hu hq (len:=(E.nm j).len) (cap:=(E.nm j).cap) (by rw[hx];simp [SV.den,Nm.ad,SX]) hi hn.1 (by rw[hlen];exact hn.2)]
    simp [SV.den,G_,dF]
   ·rename_i t1 t2 xs hl
    split at hs
    rotate_left
    ·cases hs
    rename_i dF
    split at hs
    rotate_left
    ·cases hs
    rename_i hn
    simp only[pr,AY,C3] at hs
    obtain⟨rfl,rfl⟩:=hs
    refine BI fun c w E hH hw=> ?_
    obtain⟨G,hG⟩:=hH
    have UO:=hw x
    rw[hx] at UO
    have hd:EX c G w (E.nm j) t1 t2 xs:=hG.KY j _ (B4 _ _ hl)
    have hlen:=hd.len
    have SX:(E.nm j).nil=false:=by
     rcases hd.cs with ⟨_,h2,_⟩|⟨h1,_⟩
     ·rw[h2] at hn;simp at hn;omega
     ·exact h1
    refine⟨w,E,_, ?_,.inl rfl,⟨G,hG⟩,fun n hn=>⟨rfl,hn⟩,rfl,⟨UO,by rw[hlen];omega,SX⟩⟩
    simp only[execOp,EB]
    refine CL ?_
    rw[K9 (p:=⟨(E.nm j).B5,(E.nm j).off,none⟩) hu hq (len:=(E.nm j).len) (cap:=(E.nm j).cap) (by rw[hx];simp [SV.den,Nm.ad,SX]) hi hn.1 (by rw[hlen];exact hn.2)]
    simp [SV.den,G_,dF]
   ·cases hs
  ·rename_i q i' k h' hq hx
   have inner:∀ (tt:Ty) (ys:List tt.T) (hh:Nat),hh<2->h' =hh->q.size=1->0<=n/\n<(ys.length:Int)→
     (∀ (c:DN TB) (w:World) (E:Env) (G:Nat->Prop),AS c G w E L->k<(E.nm i').len->FF (Rp G w tt) tt.sz w ((E.nm i').hn (k*2+hh)) ys)->EJ TB P o ρ L (.tel i' k hh n.toNat) []:=by
    intro tt ys hh hh2 he mU hn ND
    subst he
    refine BI fun c w E hH hw=> ?_
    obtain⟨G,hG⟩:=hH
    have UO:=hw x
    rw[hx] at UO
    obtain⟨NS,hk,vR⟩:=UO
    obtain⟨p1,_,p3⟩:=ND c w E G hG hk
    have SX:((E.nm i').hn (k*2+h')).nil=false:=by
     rcases p3 with ⟨_,p4,_⟩|⟨p4,_⟩
     ·rw[p4] at hn;simp at hn;omega
     ·exact p4
    refine⟨w,E,_, ?_,.inl rfl,⟨G,hG⟩,fun n hn=>⟨rfl,hn⟩,rfl,⟨NS,hk,vR,by rw[p1];omega⟩⟩
    simp only[execOp,EB]
    refine CL ?_
    rw[K9 (p:=⟨((E.nm i').hn (k*2+h')).B5,((E.nm i').hn (k*2+h')).off,none⟩) hu hq (len:=((E.nm i').hn (k*2+h')).len) (cap:=((E.nm i').hn (k*2+h')).cap) (by rw[hx];simp [SV.den,Nm.ad,SX]) hi hn.1 (by rw[p1];exact hn.2)]
    simp [SV.den,G_,mU]
   unfold AU7 at hs
   split at hs
   rotate_left
   ·cases hs
   rename_i t1 t2 xs hl
   have ASX:∀ (c:DN TB) (w:World) (E:Env) (G:Nat->Prop),AS c G w E L->k<(E.nm i').len→
     FF (Rp G w t1) t1.sz w ((E.nm i').hn (k*2)) (gd (.pair (.slice t1) (.slice t2)) xs k).1/\FF (Rp G w t2) t2.sz w ((E.nm i').hn (k*2+1)) (gd (.pair (.slice t1) (.slice t2)) xs k).2:=by
    intro c w E G hG hk
    have hd:EX c G w (E.nm i') t1 t2 xs:=hG.KY i' _ (B4 _ _ hl)
    rw[hd.len] at hk
    rcases hd.cs with ⟨_,h2,_⟩|⟨_,_,_,_,_,_,_,_,h7,_⟩
    ·rw[h2] at hk;simp at hk
    ·refine h7 k _ ?_
     unfold gd
     rw[qP,NB hk];rfl
   split at hs
   ·split at hs
    rotate_left
    ·cases hs
    rename_i dF
    split at hs
    rotate_left
    ·cases hs
    rename_i hn
    simp only[pr,AY,C3] at hs
    obtain⟨rfl,rfl⟩:=hs
    exact inner t1 _ 0 (by omega) rfl dF.1 hn fun c w E G hG hk=>(ASX c w E G hG hk).1
   ·split at hs
    rotate_left
    ·cases hs
    rename_i dF
    split at hs
    rotate_left
    ·cases hs
    rename_i hn
    simp only[pr,AY,C3] at hs
    obtain⟨rfl,rfl⟩:=hs
    exact inner t2 _ 1 (by omega) rfl dF.1 hn fun c w E G hG hk=>(ASX c w E G hG hk).2
   ·cases hs
  ·rename_i q j lo len sz hq hx
   split at hs
   rotate_left
   ·cases hs
   rename_i a xs hl
   split at hs
   rotate_left
   ·cases hs
   rename_i dF
   split at hs
   rotate_left
   ·cases hs
   rename_i hn
   simp only[pr,AY,C3] at hs
   obtain⟨rfl,rfl⟩:=hs
   refine BI fun c w E hH hw=> ?_
   obtain⟨G,hG⟩:=hH
   have UO:=hw x
   rw[hx] at UO
   obtain⟨NS,hle⟩:=UO
   have C7:lo+n.toNat<(E.nm j).len:=by omega
   have hrd:=rW (hG.KY j _ (B4 _ _ hl))
   have dU:=hrd.2.1
   have SX:(E.nm j).nil=false:=by
    rcases hrd.2.2 with h|h
    ·have:=hrd.1;rw[h] at this;simp at this;omega
    ·exact h.1
   refine⟨w,E,_, ?_,.inl rfl,⟨G,hG⟩,fun n hn=>⟨rfl,hn⟩,rfl,⟨NS,C7,SX⟩⟩
   simp only[execOp,EB]
   refine CL ?_
   have CJ:¬(E.nm j).cap=lo:=by omega
   rw[K9 (p:=⟨(E.nm j).B5,(E.nm j).off+lo*sz,none⟩) (len:=len) (cap:=(E.nm j).cap-lo) hu hq (by rw[hx];simp [SV.den,Nm.ad,SX,CJ,l_,G_]) hi hn.1 hn.2]
   simp [SV.den,G_,dF.1,ZU,NI]
  ·cases hs
 ·rename_i len e n hu hi
  split at hs
  ·rename_i q j k sz off hq hx
   split at hs
   ·rename_i a xs hl
    split at hs
    rotate_left
    ·cases hs
    rename_i dF
    obtain⟨q1,q2,q3,q4⟩:=dF
    split at hs
    rotate_left
    ·cases hs
    rename_i hn
    obtain⟨⟨n0,n1⟩,n2⟩:=hn
    simp only[pr,AY,C3] at hs
    obtain⟨rfl,rfl⟩:=hs
    refine BI fun c w E hH hw=> ?_
    obtain⟨G,hG⟩:=hH
    have UO:=hw x
    rw[hx] at UO
    obtain⟨NS,_,SX⟩:=UO
    have hlen:=(hG.KY j _ (B4 _ _ hl)).1
    refine⟨w,E,_, ?_,.inl rfl,⟨G,hG⟩,fun n hn=>⟨rfl,hn⟩,rfl,⟨NS,by omega,SX⟩⟩
    simp only[execOp,EB]
    refine CL ?_
    rw[sA (p:=⟨(E.nm j).B5,(E.nm j).off+(k*sz+off),none⟩) hu hq (by rw[hx];rfl) hi n0 n1]
    subst q3;subst q4
    simp [SV.den,G_,q1]
   ·cases hs
  ·cases hs
 ·cases hs
theorem AM8 {c:DN TB} {w:World} {E:Env} (hH:Hd c w E L) (B4:∀ n e,AQ n=some e->look L n=some e) {x:SV} {n:Nat} (h:ALO AQ x=some n):∃ a k,x.den E= .slice a n k:=by
 obtain⟨G,hG⟩:=hH
 unfold ALO at h
 split at h
 ·simp only[AY] at h;subst h;exact⟨_,_,rfl⟩
 ·split at h
  ·rename_i i _ t xs hl
   simp only[AY] at h;subst h
   have:=(hG.KY i _ (B4 _ _ hl)).1
   exact⟨(E.nm i).ad,(E.nm i).cap,by simp [SV.den,this]⟩
  ·rename_i i _ t xs hl
   simp only[AY] at h;subst h
   have:=(hG.KY i _ (B4 _ _ hl)).1
   exact⟨(E.nm i).ad,(E.nm i).cap,by simp [SV.den,this]⟩
  ·rename_i i _ t xs _ hl
   simp only[AY] at h;subst h
   have:=(hG.dp i _ _ _ (B4 _ _ hl)).len
   exact⟨(E.nm i).ad,(E.nm i).cap,by simp [SV.den,this]⟩
  ·rename_i i _ t1 t2 xs hl
   simp only[AY] at h;subst h
   have:=(hG.KY i _ (B4 _ _ hl)).len
   exact⟨(E.nm i).ad,(E.nm i).cap,by simp [SV.den,this]⟩
  ·cases h
 ·simp only[AY] at h;subst h;exact⟨_,_,rfl⟩
 ·cases h
def A3 (P:Program) (n:FuncId) (e:Xt):Prop:=
 ∃ fn, P.funcs[n]? = some fn ∧ fn.body = none ∧ (fn.name == "runtime.NumGoroutine") = false ∧ Extern.findNext fn = none ∧ Extern.find fn = some e.sem
def Cx.Ok (P:Program) (cx:Cx):Prop:=(∀ n fi,cx.fns n=some fi->CallsV P cx.tb n fi)/\∀ n e,lk cx.exts n=some e->A3 P n e
theorem AUI {E:Env} {P:Program} (w:World) {n:FuncId} {e:Xt} (hx:A3 P n e) (args:List SV):(xtE e args).ok fun v=>(callFunc n (AK E args).toArray).run P w= .ok (.value (v.den E)) w:=by
 obtain⟨fn,h1,h2,h3,h4,h5⟩:=hx
 have IX:∀ v:Value,(e.sem (AK E args).toArray).run P w= .ok v w->(callFunc n (AK E args).toArray).run P w= .ok (.value v) w:=by
  intro v hv
  have hp:(program:Sem Program).run P w= .ok P w:=rfl
  unfold callFunc
  simp only[Sem.run_bind,hp,Result.andThen,h1,h3,h2,Option.isNone_none,GA,T8,I9,h4,h5]
  have hm:(mark (.extern n)).run P w= .ok () w:=rfl
  rw[hm]
  simp only[hv]
  rfl
 unfold xtE
 split
 ·rename_i o i
  refine IS fun hb=>IX _ ?_
  obtain⟨b,rfl⟩:=Option.isSome_iff_exists.1 hb.1
  have uK:b<18446744073709551616:=hb.2
  show Result.ok (Value.int .u64 (b:Int)) w=_
  simp only[SV.den,oY,jI]
  rw[YM (by omega)]
 ·rename_i b
  refine IS fun hb=>IX _ ?_
  show Result.ok (Value.int .u64 (b:Int)) w=_
  simp only[SV.den,oY]
  rw[YM (by omega)]
 ·rename_i x
  refine BC (IX _ ?_)
  show Result.ok (Value.float .f64 ((x.toNat:Int).toNat)) w=_
  rfl
 ·exact ok_none
theorem AUJ {E:Env} {e:Xt} {args:List SV} {q:Option DP} {v:SV} (h:xtE e args=some (q,v)):v.wf E L:=by
 unfold xtE at h
 repeat' split at h
 all_goals first|(cases h;done)|(simp only[val,T0,AY,C3] at h;rw[<-h.2];trivial)
theorem sB {kk:IntKind} (n:Int) (v:Bool):∀ (xs:List (Int×Bool)) (es:List MapEntry) (i:Nat),es.map (fun e=>(e.key,e.val))=xs.map (fun q=>((.int .i64 q.1:Value),(.bool q.2:Value)))→
  (Instr.findNow (.int kk) (.int .i64 n) es i=some none/\K5 xs n=none/\VZ xs n v=xs++ [(n,v)])∨
  ∃ j b e,Instr.findNow (.int kk) (.int .i64 n) es i=some (some (i+j,.bool b))/\K5 xs n=some b/\es[j]? =some e/\e.key= .int .i64 n∧
   (es.modify j fun e=>{ e with key:= .int .i64 n,val:= .bool v }).map (fun e=>(e.key,e.val))=(VZ xs n v).map (fun q=>((.int .i64 q.1:Value),(.bool q.2:Value)))
 | [],[],_,_=> .inl ⟨rfl,rfl,rfl⟩
 | [],_::_,_,h=>by simp at h
 |_::_,[],_,h=>by simp at h
 |(a,b)::r,e::es,i,h=>by
  simp only[K0,jH,C3] at h
  obtain⟨⟨h1,h2⟩,h3⟩:=h
  have hs:Instr.sameNow (.int kk) (.int .i64 n) e.key=some (n==a):=by rw[h1];simp [Instr.sameNow]
  by_cases hna:n=a
  ·subst hna
   refine .inr ⟨0,b,e, ?_,by simp [K5],rfl,h1, ?_⟩
   ·simp [Instr.findNow,hs,h2]
   ·simp [VZ,h3]
  ·have hs' :Instr.sameNow (.int kk) (.int .i64 n) e.key=some false:=by rw[hs];simp [hna]
   rcases sB (kk:=kk) n v r es (i+1) h3 with ⟨k1,k2,k3⟩|⟨j,b',e',k1,k2,k3,k4,k5⟩
   ·refine .inl ⟨by simp [Instr.findNow,hs',k1],by simp [K5,hna,k2],by simp [VZ,hna,k3]⟩
   ·refine .inr ⟨j+1,b',e', ?_,by simp [K5,hna,k2],by simpa using k3,k4, ?_⟩
    ·simp only[Instr.findNow,hs',k1]
     congr 3;omega
    ·simp only[VZ,AB hna,List.modify_succ_cons,K0,k5,h1,h2]
theorem oA {t:TypeId} (h:yN P t=true):∃ k e kk,P.underlying t=some (.map k e)/\P.underlying k=some (.int kk)/\∀ w:World,(zeroValue e).run P w= .ok (.bool false) w:=by
 unfold yN at h
 split at h
 ·rename_i k e hu
  split at h
  ·rename_i kk q h1 h2
   split at h
   ·rename_i h3
    exact⟨k,e,kk,hu,h1,fun w=>by simp [zeroValue,typeInfo,h2,h3]⟩
   ·cases h
  ·cases h
 ·cases h
theorem h_ {w:World} {r:Nat} {es:Array MapEntry} {ck:Nat} (h:w.heap[r]? =some (.map es ck)):(getObj r).run P w= .ok (.map es ck) w:=by simp [getObj,Sem.run,h]
theorem run_checkKey {k:TypeId} {kk:IntKind} (hk:P.underlying k=some (.int kk)) (em:Bool) (v:Value) (w:World):(Instr.checkKey em 10000 k v).run P w= .ok () w:=by
 rw[show (10000:Nat)=9999+1 from rfl,Instr.checkKey]
 simp [run_underlying hk]
theorem ABX {o:Oper} {ρ:Operand->SV} {t:TypeId} (EB:o.op= .makeMap t none) {bs:Nat} (B4:∀ n e,AQ n=some e->look L n=some e) {v:SV} {C2:CW}
  (h:jZ AQ bs pr=some (v,C2)):EJ TB P o ρ L v C2:=by
 unfold jZ at h
 split at h
 rotate_left
 ·cases h
 rename_i DC
 have KZ:look L bs=some .KI:=B4 _ _ (by have:=CM DC 0 (by omega);simpa using this)
 simp only[pr,AY,C3] at h
 obtain⟨rfl,rfl⟩:=h
 refine BI fun c w E hh hw=> ?_
 obtain⟨G,hG⟩:=hh
 obtain⟨k1,k2⟩:=hG.mT KZ (w' :=w.alloc (.map #[] 0)) (ob:= .map #[] 0) rfl ⟨rfl,rfl,rfl⟩ (e:= .map []) (m:=⟨w.heap.size,0,false,0,0,none⟩) rfl ⟨rfl,rfl,rfl⟩
  (fun DC hold hG CD=>⟨rfl,rfl,hG,hold,_,_,DC,rfl⟩)
 refine⟨w.alloc (.map #[] 0),_,.value (.map (some w.heap.size)), ?_,.inl ?_,⟨G,k1⟩,k2,rfl, ?_⟩
 ·simp only[execOp,EB]
  refine CL ?_
  rfl
 ·simp only[SV.den,Env.EE]
 ·exact⟨.map [],by show look (C5 L (bs,.map [])) bs=_;rw[AZ (AP KZ),AA rfl],rfl⟩
theorem iA (s:ByteArray):(g_ s).length=s.size:=by
 unfold g_;simp
theorem wN {e:TypeId} (h:AQB P e=true):P.underlying e=some (.int .u8):=by
 unfold AQB at h
 split at h
 ·assumption
 ·cases h
theorem AM9 {G:Nat->Prop} {w:World} {xs:List Int} {cells:List Value} (hl:cells.length=xs.length) (h:RowsIn (Rp G w (.int .u8)) 1 cells.toArray 0 xs):cells=xs.map (Value.int .u8):=by
 apply T9
 intro j
 rw[List.getElem?_map]
 rcases GY j xs.length with hj|hj
 ·have h1:=h j xs[j] (NB hj)
  have h2:BH cells.toArray (0+j*1) 1=[.int .u8 xs[j]]:=h1
  have h3:(BH cells.toArray (0+j*1) 1)[0]? =some (.int .u8 xs[j]):=by rw[h2];rfl
  rw[B9,AA (by omega)] at h3
  rw[NB hj,ZT,←h3]
  simp
 ·rw[SO (by omega),SO hj];rfl
theorem AMA {o:Oper} {ρ:Operand->SV} {s d:TypeId} {x:Operand} (EB:o.op= .convert s d x) {kp:Bool} {bs:Nat} (B4:∀ n e,AQ n=some e->look L n=some e) {v:SV} {C2:CW}
  (h:AGZ P AQ s d (ρ x) kp bs pr=some (v,C2)):EJ TB P o ρ L v C2:=by
 have hr0:∀ E:Env,execOp (fun x=>(ρ x).den E) o=(do pure (Next.value (<-convert s d ((ρ x).den E))):Sem Next):=by
  intro E;simp only[execOp,EB]
 unfold AGZ at h
 split at h
 ·rename_i e hs hd
  split at h
  rotate_left
  ·cases h
  rename_i hu
  have hu:=wN hu
  split at h
  ·cases h
  rename_i H8
  split at h
  rotate_left
  ·cases h
  rename_i xs ne u hp
  simp only[pr,AY,C3] at h
  obtain⟨rfl,rfl⟩:=h
  refine BI fun c w E hh hw=> ?_
  obtain⟨G,hG⟩:=hh
  have hrd:Rd (Rp G w (.int .u8)) (Ty.int .u8).sz w (ne.nm E) xs:=by
   refine ABV hp (by simp) H8 (hw x) ?_
   rintro i t ys (hl|hl)
   ·exact AF6 (hG.KY i _ (B4 _ _ hl))
   ·exact rW (hG.KY i _ (B4 _ _ hl))
  obtain⟨cells,c1,c2,c3,_⟩:=rX (P:=P) hrd
  have YO:(Ty.int .u8).sz=1:=rfl
  rw[YO,Nat.mul_one] at c1
  have hc:cells=xs.map (Value.int .u8):=AM9 c1 (by
   refine c3 cells.toArray 0 ?_
   rw[YO,Nat.mul_one]
   unfold BH
   rw[List.drop_zero,List.take_of_length_le (by simp;omega)])
  have gY:=mC hp E
  have hlen:(ne.nm E).len=xs.length:=hrd.1
  refine⟨w,E,.value (.string (AWY xs)), ?_,.inl rfl,⟨G,hG⟩,fun n hn=>⟨rfl,hn⟩,rfl,trivial⟩
  rw[hr0]
  refine CL ?_
  rw[gY,run_convert_bytes_string w s d e _ _ _ hs hu hd]
  have hc2:=c2 w rfl
  cases had:(ne.nm E).ad with
  |none=>
   rw[had] at hc2
   have hxs:xs=[]:=by
    have:(Builtin.firstCells (Ty.int .u8).sz xs.length (.slice none (ne.nm E).len (ne.nm E).cap):Sem _)=pure #[]:=rfl
    rw[this] at hc2
    have hc3:cells.toArray= #[]:=by
     have:(Result.ok (#[]:Array Value) w)= .ok cells.toArray w:=hc2
     simp only[Result.ok.injEq] at this
     exact this.1.symm
    have:cells.length=0:=by have:=N5 Array.size hc3;simpa using this
    exact List.length_eq_zero_iff.1 (by omega)
   subst hxs
   rfl
  |some p=>
   rw[had] at hc2
   have hc4:(loadCells p (xs.length*1)).run P w= .ok cells.toArray w:=hc2
   rw[Nat.mul_one] at hc4
   rw[hlen]
   exact run_bytesToString w p xs.length _ xs (by rw[hc4,hc])
 ·rename_i e hs hd
  split at h
  rotate_left
  ·cases h
  rename_i hc
  simp only[G4] at hc
  obtain⟨hu,DC⟩:=hc
  have hu:=wN hu
  split at h
  rotate_left
  ·cases h
  rename_i t hx
  simp only[pr,AY,C3] at h
  obtain⟨rfl,rfl⟩:=h
  have KZ:look L bs=some .KI:=B4 _ _ (by have:=CM DC 0 (by omega);simpa using this)
  refine BI fun c w E hh hw=> ?_
  obtain⟨G,hG⟩:=hh
  have dU:t.size<=grownCap w t.size 0 e:=by
   unfold grownCap Question.cut;simp only;omega
  let m:Nm:={ B5:=w.heap.size,off:=0,nil:=false,len:=t.size,cap:=grownCap w t.size 0 e,UA:=none,fz:=⟨true⟩ }
  have TE:RowsIn (Rp G (Lib.bytesWorld w e t) (.int .u8)) (Ty.int .u8).sz (Lib.bytesCells w e t) 0 (g_ t):=by
   intro i y hy
   have hi:i<t.size:=by
    rw[<-iA t]
    rcases GY i (g_ t).length with h' |h'
    ·exact h'
    ·rw[SO h'] at hy;cases hy
   show BH _ (0+i*1) 1=[.int .u8 y]
   apply T9
   intro j
   rw[B9]
   cases j with
   |zero=>
    rw[AA (by omega)]
    unfold g_ at hy
    rw[List.getElem?_map] at hy
    unfold Lib.bytesCells
    rw[AAP (by simp;omega),Array.getElem?_map]
    simp only[I7,Nat.mul_one,L3,O1]
    rw[<-gM]
    cases hg:t.data.toList[i]? with
    |none=>rw[hg] at hy;cases hy
    |some b=>rw[hg] at hy;simp only[ZT,AY] at hy ⊢;rw[hy]
   |succ j=>rw[AB (by omega)];rfl
  have hcs:(Lib.bytesCells w e t).size=grownCap w t.size 0 e:=by
   unfold Lib.bytesCells
   rw[Array.size_append,Array.size_map,Array.size_replicate,ByteArray.size_data];omega
  have AX9:(Lib.bytesWorld w e t).heap=w.heap.push (.cells (Lib.bytesCells w e t) e ((Lib.bytesCells w e t).size,(Lib.bytesCells w e t).size+1)):=by
   apply Array.ext_getElem?
   intro k
   rw[x6]
   by_cases hk:k=w.heap.size
   ·rw[AA hk,hk];exact Lib.bytesWorld_at_new w e t
   ·rw[AB hk]
    rcases GY k w.heap.size with MC |MC
    ·exact Lib.bytesWorld_at_old w e t k MC
    ·rw[AAR MC,AAR (by rw[Lib.bytesWorld_size];omega)]
  obtain⟨k1,k2⟩:=hG.mT KZ (w' :=Lib.bytesWorld w e t) AX9 ⟨rfl,rfl,rfl⟩ (e:= .row (.int .u8) (g_ t)) (m:=m) rfl ⟨rfl,rfl,rfl⟩ (fun hb ho hg hs=>by
   refine⟨(iA t).symm,trivial,.inr ⟨rfl,hg,ho, ?_,Lib.bytesCells w e t,e,hb, ?_,TE⟩⟩
   ·rw[iA];exact dU
   ·show 0+grownCap w t.size 0 e*1<=_
    rw[hcs];omega)
  obtain⟨f1,f2,f3⟩:=dG kp (AP KZ) k1
  refine⟨Lib.bytesWorld w e t,E.set bs m,.value (.slice (some ⟨w.heap.size,0,none⟩) t.size (grownCap w t.size 0 e)), ?_,.inl ?_,f1,fun n hn=>⟨(k2 n hn).1,f2 n (k2 n hn).2⟩,rfl, ?_⟩
  ·rw[hr0,hx]
   refine CL ?_
   exact Lib.run_convert_string_bytes w s d e t hs hd hu
  ·simp only[SV.den,Env.EE];rfl
  ·exact f3
 ·cases h
theorem AQM {o:Oper} {ρ:Operand->SV} {t rt:TypeId} {x y:Operand} (EB:o.op= .binOp .quo t x y rt) {a b:Nat} (hx:ρ x= .NC a) (hy:ρ y= .NC b) {bs:Nat} (B4:∀ n e,AQ n=some e->look L n=some e) (DC:H6 AQ bs 1=true):
  EJ TB P o ρ L (.nf (FI .quo a b) bs) [(bs,.dead)]:=by
 have KZ:look L bs=some .KI:=B4 _ _ (by have:=CM DC 0 (by omega);simpa using this)
 refine BI fun c w E hh hw=> ?_
 obtain⟨G,hG⟩:=hh
 have NS:∀ (m:Nm) (n:Nat),Al L n->(E.set bs m).nm n=E.nm n/\Al (AI L [(bs,.dead)]) n:=fun m n hn=>⟨E.GO _ (fun he=>EF (he ▸ KZ) hn),BM rfl n hn⟩
 have nW:SV.wf E (AI L [(bs,.dead)]) (.nf (FI .quo a b) bs):=⟨.dead,by show look (C5 L (bs,.dead)) bs=_;rw[AZ (AP KZ),AA rfl],rfl⟩
 have hch:∀ (m:Nm) (w' :World),w'.heap=w.heap->Rest w w' ->AS c G w' (E.set bs m) (C5 L (bs,.dead)):=fun m w' hh hr=>
  hG.change (AP KZ) hr (by rw[hh];exact ED _) (fun ha=>absurd ha (EF KZ)) rfl (fun b _ _=>by rw[hh]) (fun b hb=>by cases hb) (fun _ _ _ _ _ _ hb=>by cases hb) (fun _=>trivial)
 have hr0:(execOp (fun x=>(ρ x).den E) o)=(do pure (Next.value (<-Op.floatArith .quo .f64 a b)):Sem Next):=by
  simp only[execOp,EB,hx,hy,SV.den];rfl
 cases hq:FI .quo a b with
 |some r=>
  rw[hq] at nW
  refine⟨w,E.set bs ⟨0,0,true,0,0,none⟩,.value (.float .f64 r), ?_,.inl rfl,⟨G,hch _ w rfl (.refl _)⟩,NS _,rfl,nW⟩
  rw[hr0]
  refine CL ?_
  simp only[FI] at hq
  simp [Op.floatArith,hq]
 |none=>
  rw[hq] at nW
  let T:=w.tape w.drawn (.nanBits .f64 a b)
  refine⟨{ w with drawn:=w.drawn+1 },E.set bs ⟨T,0,true,0,0,none⟩,.value (.float .f64 (UI T)), ?_,.inl ?_,⟨G,hch _ _ rfl ⟨rfl,rfl,rfl⟩⟩,NS _,rfl,nW⟩
  ·rw[hr0]
   refine CL ?_
   simp only[FI] at hq
   simp only[Op.floatArith,hq]
   rfl
  ·simp only[SV.den,Env.EE,Option.getD_none]
theorem AFE {o:Oper} {ρ:Operand->SV} {t:TypeId} {x i:Operand} {ok:Bool} (EB:o.op= .lookup t x i ok) (B4:∀ n e,AQ n=some e->look L n=some e) {v:SV} {C2:CW}
  (h:pX P AQ t (ρ x) (ρ i) ok pr=some (v,C2)):EJ TB P o ρ L v C2:=by
 unfold pX at h
 split at h
 rotate_left
 ·cases h
 rename_i j n hx hi
 split at h
 rotate_left
 ·cases h
 rename_i xs hl
 split at h
 rotate_left
 ·cases h
 rename_i hm
 obtain⟨k,e,kk,u1,u2,u3⟩:=oA hm
 obtain⟨V,hV⟩:∃ V:SV,V=(if ok=true then SV.tup [.bool ((K5 xs n).getD false),.bool (K5 xs n).isSome] else .bool ((K5 xs n).getD false)):=⟨_,rfl⟩
 have hv:v=V/\C2=[]:=by
  cases ok <;> (simp only[pr,AY,C3] at h;exact⟨by rw[hV];exact h.1.symm,h.2.symm⟩)
 clear h
 obtain⟨rfl,rfl⟩:=hv
 subst hV
 refine BI fun c w E hh hw=> ?_
 obtain⟨G,hG⟩:=hh
 obtain⟨-, -, -, -,es,ck,h5,h6⟩:=hG.KY j _ (B4 _ _ hl)
 refine⟨w,E,_, ?_,.inl rfl,⟨G,hG⟩,fun n hn=>⟨rfl,hn⟩,rfl,by cases ok <;> simp [SV.wf,KJ]⟩
 simp only[execOp,EB,hx,hi]
 refine CL ?_
 have AXA:∃ r:Option (Nat×Value),(Instr.findKey k (.int .i64 n) es.toList).run P w= .ok r w/\r.map (·.2)=(K5 xs n).map Value.bool:=by
  rcases sB (kk:=kk) n false xs es.toList 0 h6 with ⟨k1,k2,_⟩|⟨j',b,e',k1,k2,_⟩
  ·exact⟨none,by simp [Instr.findKey,run_underlying u2,k1],by simp [k2]⟩
  ·exact⟨some (0+j',.bool b),by simp [Instr.findKey,run_underlying u2,k1],by simp [k2]⟩
 obtain⟨r,hr1,pZ⟩:=AXA
 simp only[Instr.lookup,Sem.run_bind,run_underlying u1,Result.andThen,SV.den,h_ h5,Sem.run_pure,run_checkKey u2,hr1]
 cases r with
 |none=>
  have hg:K5 xs n=none:=by cases hx:K5 xs n with
   |none=>rfl
   |some b=>rw[hx] at pZ;cases pZ
  cases ok <;> simp [u3,hg,SV.den,AK]
 |some q=>
  obtain⟨q1,q2⟩:=q
  have hg:∃ b,K5 xs n=some b/\q2= .bool b:=by cases hx:K5 xs n with
   |none=>rw[hx] at pZ;cases pZ
   |some b=>rw[hx] at pZ;simp at pZ;exact⟨b,rfl,pZ⟩
  obtain⟨b,hg,rfl⟩:=hg
  cases ok <;> simp [hg,SV.den,AK]
theorem AFF {o:Oper} {ρ:Operand->SV} {t:TypeId} {x i y:Operand} (EB:o.op= .mapUpdate t x i y) (B4:∀ n e,AQ n=some e->look L n=some e) {v:SV} {C2:CW}
  (h:pY P AQ t (ρ x) (ρ i) (ρ y) pr=some (v,C2)):EJ TB P o ρ L v C2:=by
 unfold pY at h
 split at h
 rotate_left
 ·cases h
 rename_i j n b hx hi hb
 split at h
 rotate_left
 ·cases h
 rename_i xs hl
 split at h
 rotate_left
 ·cases h
 rename_i hm
 obtain⟨k,e,kk,u1,u2,u3⟩:=oA hm
 simp only[pr,AY,C3] at h
 obtain⟨rfl,rfl⟩:=h
 refine BI fun c w E hh hw=> ?_
 obtain⟨G,hG⟩:=hh
 have hL:=B4 _ _ hl
 obtain⟨e1,e2,e3,e4,es,ck,h5,h6⟩:=hG.KY j _ hL
 have hbd:(ρ y).den E= .bool b:=UJ hb
 have C7:=RP h5
 have key:∃ es' ck',(Instr.mapUpdate t (.map (some (E.nm j).B5)) (.int .i64 n) (.bool b)).run P w= .ok () { w with heap:=w.heap.setIfInBounds (E.nm j).B5 (.map es' ck') }/\AGM es' (VZ xs n b):=by
  rcases sB (kk:=kk) n b xs es.toList 0 h6 with ⟨k1,k2,k3⟩|⟨j',b',e',k1,k2,k3,k4,k5⟩
  ·refine⟨es.push { key:= .int .i64 n,val:= .bool b,born:=ck },ck+1, ?_, ?_⟩
   ·have hf:(Instr.findKey k (.int .i64 n) es.toList).run P w= .ok none w:=by simp [Instr.findKey,run_underlying u2,k1]
    simp only[Instr.mapUpdate,Sem.run_bind,run_underlying u1,Result.andThen,h_ h5,run_checkKey u2,hf]
    simp [setObj,Sem.run,h5]
   ·unfold AGM at h6 ⊢
    rw[Array.toList_push,ZS,h6,k3];simp
  ·refine⟨es.modify j' fun e=>{ e with key:= .int .i64 n,val:= .bool b },ck, ?_, ?_⟩
   ·have hf:(Instr.findKey k (.int .i64 n) es.toList).run P w= .ok (some (j',.bool b')) w:=by simp [Instr.findKey,run_underlying u2,k1]
    have hk:∀ o,(es[j']?).map (·.key)=some o->(Instr.keyThatStays o (.int .i64 n)).run P w= .ok (.int .i64 n) w:=by
     intro o ho
     have:es[j']? =some e' :=by simpa using k3
     rw[this] at ho
     simp only[ZT,AY] at ho
     subst ho
     rw[k4]
     simp [Instr.keyThatStays,Instr.sameBits]
    have MC :(es[j']?).map (·.key)=some (.int .i64 n):=by
     have:es[j']? =some e' :=by simpa using k3
     rw[this];simp [k4]
    simp only[Instr.mapUpdate,Sem.run_bind,run_underlying u1,Result.andThen,h_ h5,run_checkKey u2,hf,MC,jI,hk _ MC]
    simp [setObj,Sem.run,h5]
   ·unfold AGM
    rw[<-k5,Array.toList_modify]
 obtain⟨es',ck',r1,r2⟩:=key
 let w' :World:={ w with heap:=w.heap.setIfInBounds (E.nm j).B5 (.map es' ck') }
 have CD:∀ b,b≠(E.nm j).B5->w'.heap[b]? =w.heap[b]? :=fun b hb=>by
  show (w.heap.setIfInBounds _ _)[b]? =_
  rw[AAU,AB (fun h=>hb h.symm)]
 have DC:w'.heap[(E.nm j).B5]? =some (.map es' ck'):=by
  show (w.heap.setIfInBounds _ _)[_]? =_
  rw[AAU,AA rfl,AA C7]
 have k1:=hG.change (w' :=w') (AP hL) ⟨rfl,rfl,rfl⟩ (by simp [w']) (fun _=>rfl) (e' := .map (VZ xs n b)) (m:=E.nm j) rfl
  (fun b _ hb=>CD b (fun he=>hb (by simp [AW.own,he])))
  (fun b hb=>by simp only[AW.own,AY] at hb;subst hb;exact⟨e4,e3⟩)
  (fun k f hk hf b hb he=>hG.inj k j f _ b hk hf hL hb (.inl he))
  (fun _=>⟨e1,e2,e3,e4,es',ck',DC,r2⟩)
 have hE:E.set j (E.nm j)=E:=by
  refine KL (fun k=> ?_) rfl (fun _=>rfl)
  by_cases hk:k=j
  ·subst hk;rw[Env.EE]
  ·rw[Env.GO _ _ hk]
 rw[hE] at k1
 refine⟨w',E,.skip, ?_,.inr ⟨rfl,rfl⟩,⟨G,k1⟩,fun n hn=>⟨rfl,BM rfl n hn⟩,rfl,trivial⟩
 simp only[execOp,EB,hx,hi,hbd,SV.den]
 simp only[Sem.run_bind,r1,Result.andThen]
 rfl
theorem AH6 {cx:Cx} (hcx:cx.Ok P) {o:Oper} {ρ:Operand->SV} (B4:∀ n e,AQ n=some e->look L n=some e) {v:SV} {C2:CW} (h:ABM P cx AQ o.dst ρ pr o.op=some (v,C2)):EJ cx.tb P o ρ L v C2:=by
 generalize EB:o.op=op at h
 unfold ABM at h
 split at h
 ·split at h
  ·exact ALW EB (by assumption) h
  ·exact ALU EB B4 h
 ·exact AJG EB B4 h
 ·exact AJK EB B4 h
 ·exact AQI EB B4 h
 ·split at h
  ·exact AJJ EB B4 h
  ·split at h
   ·exact AJN EB B4 h
   ·exact rV EB B4 h
 ·split at h
  ·exact AM0 EB B4 h
  ·exact uM EB B4 h
 ·exact AJO EB B4 h
 ·exact AJP EB B4 h
 ·rename_i args ts
  split at h
  rotate_left
  ·cases h
  rename_i x t MZ hts
  split at h
  rotate_left
  ·cases h
  rename_i e n hu hn
  simp only[pr,AY,C3] at h
  obtain⟨rfl,rfl⟩:=h
  refine BI fun c w E hH hw=> ?_
  obtain⟨a,k,hx⟩:=AM8 hH B4 hn
  refine⟨w,E,.value ((SV.int .i64 n).den E), ?_,.inl rfl,hH,fun n hn=>⟨rfl,hn⟩,rfl,trivial⟩
  have AZW :ts= #[t]:=by apply YC;rw[hts]
  have hU :(args.map fun x=>(ρ x).den E)= #[.slice a n k]:=by
   apply YC
   have:(args.toList.map ρ).map (SV.den E)=[.slice a n k]:=by rw[MZ];simp [hx]
   rw[S8] at this
   rw[fW]
   exact this
  simp only[execOp,EB,resolve,invoke,Sem.run_bind,Sem.run_pure,Result.andThen,hU,AZW,builtin]
  simp [Builtin.len_,run_underlying hu,goInt,SV.den]
 ·rename_i args ts
  split at h
  ·rename_i x y MZ
   split at h
   ·split at h
    ·exact AFC EB MZ B4 h
    ·exact AFA EB MZ B4 h
   ·exact AF7 EB MZ B4 (by assumption) h
  ·cases h
 ·exact ABX EB B4 h
 ·exact AMA EB B4 h
 ·split at h
  rotate_left
  ·cases h
  rename_i a b hx hy
  split at h
  rotate_left
  ·cases h
  rename_i DC
  simp only[pr,AY,C3] at h
  obtain⟨rfl,rfl⟩:=h
  exact AQM EB hx hy B4 DC
 ·exact AFE EB B4 h
 ·exact AFF EB B4 h
 ·rename_i f args ts
  split at h
  rotate_left
  ·cases h
  rename_i n cs hf
  have hfd:=fun E=>ABD hf E
  split at h
  rotate_left
  ·split at h
   rotate_left
   ·cases h
   rename_i e he
   have fin:∀ q:Option DP,xtE e (args.toList.map ρ++cs)=some (q,v)->cnd q->C2=[]->EJ cx.tb P o ρ L v C2:=by
    rintro q hq hc rfl
    refine BI fun c w E hH hw=>⟨w,E,_, ?_,.inl rfl,hH,fun n hn=>⟨rfl,hn⟩,rfl,AUJ hq⟩
    rw[<-AUI (E:=E) w (hcx.2 n e he) (args.toList.map ρ++cs) q v hq hc]
    simp only[execOp,EB,resolve,invoke,Sem.run_bind,hfd,Deferred.ofValue,Sem.run_pure,Result.andThen]
    congr 2
    apply YC
    simp [EW,rA]
   split at h
   ·rename_i u hq
    simp only[pr,AY,C3] at h
    obtain⟨rfl,rfl⟩:=h
    exact fin none hq trivial rfl
   ·rename_i q u hq
    have:=q.d
    by_cases hp:q.p
    ·simp only[hp,GA,pr,AY,C3] at h
     obtain⟨rfl,rfl⟩:=h
     exact fin (some q) hq hp rfl
    ·simp [hp] at h
   ·cases h
  rename_i fi hfi
  intro c w E hH hw a next Q ha hn
  show o.upon P a next Q ((execOp a.eval o).run P w)
  have IX:(execOp (fun x=>(ρ x).den E) o).run P w= .ok (.enter n (AK E (args.toList.map ρ++cs)).toArray) w:=by
   rw[<-(hcx.1 n fi hfi).1]
   simp only[execOp,EB,resolve,invoke,Sem.run_bind,hfd,Deferred.ofValue,Sem.run_pure,Result.andThen]
   congr 2
   apply YC
   simp [EW,rA]
  rw[ha,IX]
  have oB:KJ E L (args.toList.map ρ++cs):=BP.2 fun v hv=>by
   rcases EV.1 hv with hv|hv
   ·obtain⟨x,_,rfl⟩:=C0.1 hv
    exact hw x
   ·exact BP.1 (AGP hf (hw f)) v hv
  refine (AM2 h (hcx.1 n fi hfi) B4 hH oB).mono ?_
  rintro e w' ⟨E',rfl,h1,h2,h3,h4⟩
  exact hn E' w' h1 h2 h3 h4
 ·cases h
theorem AMB {E:Env} {t:TypeId} {cs:List SV} {off:Nat} {q:Option DP} {v:SV} (h:AAY P t cs off=some (q,v)) (hw:KJ E L cs):v.wf E L:=by
 unfold AAY at h
 repeat' split at h
 all_goals first|(cases h;done)|skip
 ·simp only[val,AY,C3] at h;rw[<-h.2];exact U_ hw _ _
 ·rename_i hv
  simp only[val,AY,C3] at h;rw[<-h.2]
  exact BP.1 hw _ (YL hv)
theorem AQN {E:Env} {ρ:Operand->SV} {op:Op} {q:Option DP} {v:SV} (h:ZZ P ρ op=some (q,v)) (hl:∀ x,(ρ x).wf E L):v.wf E L:=by
 have A1I:∀ v:SV,(match v with| .int _ _| .u64 _| .bool _| .NJ _| .prop _ _| .str _| .NC _=>True|_=>False)->v.wf E L:=by
  intro v hv
  cases v <;> first|trivial|exact hv.elim
 cases op <;> simp only[ZZ] at h
 case move x=>simp only[val,AY,C3] at h;rw[<-h.2];exact hl x
 case assign x=>simp only[val,AY,C3] at h;rw[<-h.2];exact hl x
 case pick c a b=>
  split at h
  ·rename_i t _
   simp only[val,AY,C3] at h
   rw[<-h.2]
   cases t
   ·exact hl b
   ·exact hl a
  ·cases h
 case nilCheck x=>
  split at h
  ·rename_i i k sz off hx
   simp only[val,AY,C3] at h
   rw[<-h.2]
   have:=hl x
   rw[hx] at this
   exact this
  ·rename_i i off hx
   simp only[val,AY,C3] at h
   rw[<-h.2]
   have:=hl x
   rw[hx] at this
   exact this
  ·rename_i f cs hx
   simp only[val,AY,C3] at h
   rw[<-h.2]
   have:=hl x
   rw[hx] at this
   exact this
  ·cases h
 case makeFunc fn first captured=>
  split at h
  ·simp only[val,AY,C3] at h
   rw[<-h.2]
   exact BP.2 fun v hv=>by
    obtain⟨x,_,rfl⟩:=C0.1 hv
    exact hl x
  ·cases h
 case binOp op t x y _=>
  unfold AL5 APM x9 shE APJ APK APL nfE at h
  repeat' split at h
  all_goals first|(cases h;done)|(simp only[val,T0,AY,C3] at h;rw[<-h.2];trivial)
 case unOp op t x=>
  unfold unE at h
  repeat' split at h
  all_goals first|(cases h;done)|(simp only[val,AY,C3] at h;rw[<-h.2];trivial)
 case convert s d x=>
  unfold AGJ at h
  repeat' split at h
  all_goals first|(cases h;done)|(simp only[val,T0,AY,C3] at h;rw[<-h.2];trivial)
 case extract x i=>
  unfold jN at h
  repeat' split at h
  all_goals first|(cases h;done)|skip
  simp only[val,AY,C3] at h;rw[<-h.2]
  have:=hl x
  rw[‹ρ x=_›] at this
  exact BP.1 this _ (YL (by assumption))
 case field t x f=>
  unfold x_ at h
  repeat' split at h
  all_goals first|(cases h;done)|skip
  have:=hl x
  rw[‹ρ x=_›] at this
  exact AMB h this
 case build t parts=>
  have OD:∀ q∈(parts.toList.map fun q=>(q.1,ρ q.2)),q.2.wf E L:=by
   intro q hq
   obtain⟨y,_,rfl⟩:=C0.1 hq
   exact hl y.2
  unfold yA at h
  repeat' split at h
  all_goals first|(cases h;done)|skip
  all_goals
   rename_i hf
   simp only[val,AY,C3] at h;rw[<-h.2]
   exact rU _ _ _ hf (j9 E (by assumption)) OD
 case indexAddr t x i=>
  unfold WY at h
  repeat' split at h
  all_goals first|(cases h;done)|skip
  ·rename_i hx _ _ _
   simp only[T0,AY,C3] at h;rw[<-h.2]
   have:=hl x
   rw[‹ρ x=_›] at this
   exact this
  ·simp only[T0,AY,C3] at h;rw[<-h.2]
   trivial
 case fieldAddr t x f=>
  unfold WZ at h
  repeat' split at h
  all_goals first|(cases h;done)|skip
  all_goals
   simp only[val,AY,C3] at h;rw[<-h.2]
   have:=hl x
   rw[‹ρ x=_›] at this
   exact this
 case slice t x l hh m=>
  unfold yB at h
  repeat' split at h
  all_goals first|(cases h;done)|(simp only[T0,AY,C3] at h;rw[<-h.2];trivial)
 case index t x i=>
  unfold yC at h
  repeat' split at h
  all_goals first|(cases h;done)|(simp only[T0,AY,C3] at h;rw[<-h.2];trivial)
 case call c=>
  obtain⟨callee,args,ts⟩:=c
  cases callee with
  |builtin b=>
   dsimp only at h
   unfold jO APN at h
   repeat' split at h
   all_goals first|(cases h;done)|(simp only[val,T0,AY,C3] at h;rw[<-h.2];trivial)
  |_=>dsimp only at h;cases h
 all_goals cases h
theorem sC {o:Oper} {ρ:Operand->SV} (B4:∀ n e,AQ n=some e->look L n=some e) {x:Operand} (IX:∀ (E:Env) (w:World),(execOp (fun x=>(ρ x).den E) o).run P w= .ok (.value ((ρ x).den E)) w) {v:SV} {C2:CW}
  (h:j6 AQ (ρ x) pr=some (v,C2)):EJ TB P o ρ L v C2:=by
 have pass:ρ x=v->C2=[]->EJ TB P o ρ L v C2:=by
  rintro rfl rfl
  exact BI fun c w E hH hw=>⟨w,E,_,IX E w,.inl rfl,hH,fun n hn=>⟨rfl,hn⟩,rfl,hw x⟩
 unfold j6 at h
 split at h
 rotate_left
 ·simp only[pr,AY,C3] at h
  exact pass h.1 h.2.symm
 rename_i i hx
 split at h
 rotate_left
 ·simp only[pr,AY,C3] at h
  exact pass (hx.trans h.1) h.2.symm
 rename_i t xss hh hl
 split at h
 rotate_left
 ·cases h
 rename_i ys u hc
 simp only[pr,AY,C3] at h
 obtain⟨rfl,rfl⟩:=h
 refine BI fun c w E hH hw=> ?_
 obtain⟨G,hG⟩:=hH
 obtain⟨E1,c1,c2,c3,c4,c5,c6,c7⟩:=dE B4 hG hl hc
 have h2:=c1.yG c4
 have eu:AI L (u++ [(i,.shr (.slice t) ys)])=C5 (AI L u) (i,.shr (.slice t) ys):=by rw[BG];rfl
 rw[eu]
 refine⟨w,E1,_,IX E w,.inl ?_,⟨_,h2⟩,fun n hn=>⟨c2 n,BM rfl n (c5 n hn)⟩,c3, ?_⟩
 ·rw[hx];simp only[SV.den,c2]
 ·exact⟨_,by rw[AZ (AP c4),AA rfl],rfl⟩
theorem AFG {o:Oper} {ρ:Operand->SV} (B4:∀ n e,AQ n=some e->look L n=some e) {v:SV} {C2:CW} (h:P3 AQ ρ pr o.op=some (v,C2)):EJ TB P o ρ L v C2:=by
 generalize EB:o.op=op at h
 unfold P3 at h
 split at h
 ·rename_i x
  exact sC B4 (fun E w=>by simp only[execOp,EB];rfl) h
 ·rename_i x
  exact sC B4 (fun E w=>by simp only[execOp,EB];rfl) h
 ·cases h
theorem AQO {cx:Cx} (hcx:cx.Ok P) {o:Oper} {ρ:Operand->SV} (B4:∀ n e,AQ n=some e->look L n=some e) {v:SV} {C2:CW} (h:core P cx AQ o.dst ρ pr o.op=some (v,C2)):EJ cx.tb P o ρ L v C2:=by
 unfold core at h
 split at h
 ·exact AFG B4 h
 unfold core0 at h
 simp only[AGX] at h
 have fin:∀ (q:Option DP),ZZ P ρ o.op=some (q,v)->cnd q->EJ cx.tb P o ρ L v []:=by
  intro q hp hq
  refine BI fun c w E hH hw=> ?_
  exact⟨w,E,_,AIX (E:=E) w ρ o.op q v hp hq o rfl,.inl rfl,hH,fun n hn=>⟨rfl,hn⟩,rfl,AQN hp hw⟩
 cases hqq:(cx.keeps o.dst && Op.AH0 o.op) with
 |true=>
  rw[hqq] at h
  exact AH6 hcx B4 h
 |false=>
 rw[hqq] at h
 simp only at h
 split at h
 ·rename_i u hp
  simp only[pr,AY,C3] at h
  obtain⟨rfl,rfl⟩:=h
  exact fin _ hp trivial
 ·rename_i q u hp
  have:=q.d
  by_cases hq:q.p
  ·simp only[hq,GA,pr,AY,C3] at h
   obtain⟨rfl,rfl⟩:=h
   exact fin _ hp hq
  ·simp only[hq,I9] at h;cases h
 ·exact AH6 hcx B4 h
end
end Go.V3
namespace Go.V3
open Go
variable {TB:Tb}
def clean:SV->SV
 | .l5 _=>AV
 |v=>v
def evc (fr:List SV) (x:Operand):SV:=clean (ev fr x)
def wP:SV->Bool
 | .l5 _=>true
 |_=>false
def AH7 (fr:List SV) (op:Op):Bool:=op.operands.toList.all fun x=> !(wP (ev fr x))
def aA (all:List Oper) (o:Oper) (fr:List SV):Option Bool:=
 match o.guard with
 |none=>some true
 |some (j,want)=>(match all[j]? with
  |none=>none
  |some oj=>(match oj.dst with
   |none=>none
   |some t=>(match fr.getD t AV with
    | .NJ b=>some (b==want)
    | .raw (.tuple _)=>some false
    |_=>none)))
def AUK (all:List Oper) (k:Nat):Bool:=all.any fun o=>match o.guard with
 |some (j,_)=>j==k
 |none=>false
section
variable {α:Type}
def y_ (v:SV) (F:Bool->Option α):Option α:=
 match v with
 | .NJ b=>F b
 | .bool b=>if b=true then F true else F false
 | .prop p d=> @ite _ p d (F true) (F false)
 |_=>none
def aB (P:Program) (cx:Cx) (all:List Oper) (o:Oper) (k:Nat) (fr:List SV) (AQ:Nat->Option AW) (K:SV->CW->Option α):Option α:=
 match aA all o fr with
 |none=>none
 |some false=>K AV []
 |some true=>(match AH7 fr o.op with
  |false=>none
  |true=>core P cx AQ o.dst (evc fr) (match AUK all k with
   |true=>fun v u=>y_ v (fun b=>K (.NJ b) u)
   |false=>K) o.op)
def AMC (P:Program) (cx:Cx) (all:List Oper):List Oper->Nat->List SV->AJ->(List SV->AJ->Option α)->Option α
 | [],_,fr,L,K=>K fr L
 |o::r,k,fr,L,K=>aB P cx all o k fr (look L) (fun v u=>AMC P cx all r (k+1) (P_ fr o.dst v) (AI L u) K)
end
theorem oC {α:Type} {v:SV} {F:Bool->Option α} {a:α} (h:y_ v F=some a):∃ b,toB v=some b/\F b=some a:=by
 unfold y_ at h
 split at h
 ·exact⟨_,rfl,h⟩
 ·rename_i b;cases b
  ·exact⟨false,rfl,h⟩
  ·exact⟨true,rfl,h⟩
 ·rename_i p d
  by_cases hp:p
  ·simp only[hp,GA] at h;exact⟨true,by simp [toB,hp],h⟩
  ·simp only[hp,I9] at h;exact⟨false,by simp [toB,hp],h⟩
 ·cases h
theorem sD {α:Type} {P:Program} {cx:Cx} {all:List Oper} {o:Oper} {k:Nat} {fr:List SV} {AQ:Nat->Option AW} {K:SV->CW->Option α} {a:α} (h:aB P cx all o k fr AQ K=some a):
  ∃ v u,K v u=some a/\aB P cx all o k fr AQ pr=some (v,u):=by
 unfold aB at h ⊢
 split at h
 ·cases h
 ·exact⟨AV,[],h,rfl⟩
 ·split at h
  ·cases h
  ·cases hs:AUK all k with
   |false=>
    rw[hs] at h
    simp only at h ⊢
    rw[j7,AAQ] at h
    obtain⟨⟨v,u⟩,h1,h2⟩:=h
    exact⟨v,u,h2,h1⟩
   |true=>
    rw[hs] at h
    simp only at h ⊢
    rw[j7,AAQ] at h
    obtain⟨⟨v,u⟩,h1,h2⟩:=h
    obtain⟨b,hb,h3⟩:=oC h2
    refine⟨.NJ b,u,h3, ?_⟩
    rw[j7,h1]
    simp only[A9]
    cases v <;> simp only[toB,AY,reduceCtorEq] at hb
    ·subst hb;rename_i b;cases b <;> rfl
    ·subst hb;rfl
    ·subst hb
     rename_i p d
     by_cases hp:p <;> simp [y_,hp,pr]
def sE (E:Env) (L:AJ) (fr:List SV):Prop:=∀ t,(fr.getD t AV).wf E L\/fr.getD t AV= .l5 t
structure St (c:DN TB) (E:Env) (fr:List SV) (L:AJ) (a:Act) (w:World):Prop where
 pG:Sim E fr a
 hd:Hd c w E L
 wf:sE E L fr
def YR (L L' :AJ):Prop:=L'.length=L.length/\∀ (n v:Nat) (e:AW) (v' :Nat) (e' :AW),L[n]? =some (v,e)->L'[n]? =some (v',e')->v<=v' /\(v' =v->e' =e)
theorem YR.refl (L:AJ):YR L L:=⟨rfl,fun n v e v' e' h h' =>by rw[h] at h';simp only[AY,C3] at h';obtain⟨rfl,rfl⟩:=h';exact⟨ED _,fun _=>rfl⟩⟩
theorem YR.trans {A B C:AJ} (h:YR A B) (k:YR B C):YR A C:=by
 refine⟨k.1.trans h.1,fun n v e v' e' h1 h2=> ?_⟩
 have C7:n<A.length:=by
  rcases GY n A.length with h|h
  ·exact h
  ·rw[SO h] at h1;cases h1
 obtain⟨bv,be,hb⟩:∃ bv be,B[n]? =some (bv,be):=⟨_,_,NB (by rw[h.1];exact C7)⟩
 obtain⟨a1,a2⟩:=h.2 n v e _ _ h1 hb
 obtain⟨b1,b2⟩:=k.2 n _ _ v' e' hb h2
 refine⟨fX a1 b1,fun he=> ?_⟩
 have e1:bv=v:=by omega
 rw[b2 (by omega),a2 e1]
theorem YR.C5 (L:AJ) (q:Nat×AW):YR L (C5 L q):=by
 refine⟨FK _ _,fun n v e v' e' h1 h2=> ?_⟩
 unfold V3.C5 at h2
 split at h2
 ·rename_i v0 e0 hq
  rw[qW] at h2
  split at h2
  ·rename_i hn
   subst hn
   rw[h1] at hq
   simp only[AY,C3] at hq
   obtain⟨rfl,rfl⟩:=hq
   split at h2
   ·simp only[AY,C3] at h2
    exact⟨by omega,fun he=>by omega⟩
   ·cases h2
  ·rw[h1] at h2
   simp only[AY,C3] at h2
   obtain⟨rfl,rfl⟩:=h2
   exact⟨ED _,fun _=>rfl⟩
 ·rw[h1] at h2
  simp only[AY,C3] at h2
  obtain⟨rfl,rfl⟩:=h2
  exact⟨ED _,fun _=>rfl⟩
theorem YR.AI (L:AJ) (u:CW):YR L (AI L u):=by
 induction u generalizing L with
 |nil=>exact .refl _
 |cons q r ih=>exact (YR.C5 L q).trans (ih _)
structure Ext (W:List Nat) (E0:Env) (fr0:List SV) (L0:AJ) (E:Env) (fr:List SV) (L:AJ):Prop where
 nm:∀ n,Al L0 n->E.nm n=E0.nm n/\Al L n
 ds:∀ t,t∉W->E.ds t=E0.ds t
 pH:YR L0 L
 len:fr.length=fr0.length
 out:∀ t,t∉W->fr.getD t AV=fr0.getD t AV
theorem Ext.refl (W:List Nat) (E:Env) (fr:List SV) (L:AJ):Ext W E fr L E fr L:=⟨fun _ h=>⟨rfl,h⟩,fun _ _=>rfl,.refl _,rfl,fun _ _=>rfl⟩
theorem Ext.trans {W:List Nat} {E0 E1 E2:Env} {f0 f1 f2:List SV} {L0 L1 L2:AJ} (h:Ext W E0 f0 L0 E1 f1 L1) (k:Ext W E1 f1 L1 E2 f2 L2):Ext W E0 f0 L0 E2 f2 L2:=
 ⟨fun n hn=>by obtain⟨a,b⟩:=h.nm n hn;obtain⟨c,d⟩:=k.nm n b;exact⟨c.trans a,d⟩,fun t ht=>(k.ds t ht).trans (h.ds t ht),h.pH.trans k.pH,k.len.trans h.len,fun t ht=>(k.out t ht).trans (h.out t ht)⟩
theorem Ext.mono {W W' :List Nat} {E0 E1:Env} {f0 f1:List SV} {L0 L1:AJ} (h:Ext W E0 f0 L0 E1 f1 L1) (hs:∀ t,t∈W->t∈W'):Ext W' E0 f0 L0 E1 f1 L1:=
 ⟨h.nm,fun t ht=>h.ds t (fun hx=>ht (hs t hx)),h.pH,h.len,fun t ht=>h.out t (fun hx=>ht (hs t hx))⟩
theorem ES (fr:List SV) (t k:Nat) (v:SV):(fr.set t v).getD k AV=if t=k/\t<fr.length then v else fr.getD k AV:=by
 simp only[List.getD,qW]
 by_cases h:t=k
 ·subst h
  by_cases h2:t<fr.length
  ·simp [h2]
  ·simp [h2]
 ·simp [h]
theorem aC {E E' :Env} {L L' :AJ} {fr:List SV} (hf:sE E L fr) (hnm:∀ n,Al L n->E'.nm n=E.nm n/\Al L' n) (hds:E'.ds=E.ds):AK E' fr=AK E fr/\sE E' L' fr:=by
 have key:∀ t,(fr.getD t AV).den E' =(fr.getD t AV).den E/\((fr.getD t AV).wf E' L' \/fr.getD t AV= .l5 t):=by
  intro t
  rcases hf t with h|h
  ·obtain⟨h1,h2⟩:=W2 (fun n hn=>(hnm n hn).2) (fun n hn=>(hnm n hn).1) _ h
   exact⟨h2,.inl h1⟩
  ·exact⟨by rw[h];simp only[SV.den,hds],.inr h⟩
 refine⟨?_,fun t=>(key t).2⟩
 apply T9
 intro i
 rw[FJ,FJ]
 by_cases hi:i<fr.length
 ·have:=(key i).1
  simp only[List.getD,NB hi,jI] at this
  rw[NB hi]
  simp [this]
 ·rw[SO (by omega)];rfl
theorem sE.put {E:Env} {L:AJ} {fr:List SV} (h:sE E L fr) (d:Option Tmp) {v:SV} (hv:v.wf E L):sE E L (P_ fr d v):=by
 cases d with
 |none=>exact h
 |some d=>
  intro t
  simp only[P_,ES]
  split
  ·exact .inl hv
  ·exact h t
theorem kA (E:Env) (L:AJ):AV.wf E L:=trivial
theorem AXB {E:Env} {L:AJ} {fr:List SV} (h:sE E L fr) (x:Operand):(evc fr x).wf E L:=by
 unfold evc
 cases x with
 |tmp t=>
  show (clean (fr.getD t AV)).wf E L
  rcases h t with h|h
  ·cases hx:fr.getD t AV <;> first|(rw[hx] at h;exact h)|(rw[hx] at h;exact h.elim)
  ·rw[h];exact kA _ _
 |const v=>
  simp only[ev]
  split
  all_goals first|trivial|(split <;> trivial)
 |global g=>trivial
 |func f=>trivial
section
variable {P:Program} {ops:Array Oper} {Q:Exit->Act->World->Prop}
theorem AFH {E:Env} {fr:List SV} {a:Act} (hs:Sim E fr a) {j t:Nat} {oj:Oper} {b:Bool} (hj:ops.toList[j]? =some oj) (hd:oj.dst=some t) (hv:fr.getD t AV= .NJ b):yielded ops a.tmps j=some b:=by
 have YQ :ops[j]? =some oj:=by rw[<-gM];exact hj
 have ht:a.tmps[t]? =some (.bool b):=by
  rw[hs.1,qR,FJ]
  cases hx:fr[t]? with
  |none=>simp [List.getD,hx,AV] at hv
  |some v=>simp [List.getD,hx] at hv;simp [hv,SV.den]
 simp [yielded,YQ,hd,ht]
theorem ABY {E:Env} {fr:List SV} {a:Act} (hs:Sim E fr a) {j t:Nat} {oj:Oper} {vs:Array Value} (hj:ops.toList[j]? =some oj) (hd:oj.dst=some t) (hv:fr.getD t AV= .raw (.tuple vs)):yielded ops a.tmps j=none:=by
 have YQ :ops[j]? =some oj:=by rw[<-gM];exact hj
 unfold yielded
 rw[YQ]
 simp only[A9,hd,hs.1,qR,FJ]
 cases hx:fr[t]? with
 |none=>rfl
 |some v=>simp [List.getD,hx] at hv;simp [hv,SV.den]
theorem wQ {E:Env} {fr:List SV} {a:Act} (hs:Sim E fr a) {o:Oper} {b:Bool} (h:aA ops.toList o fr=some b):Region.wanted o (yielded ops a.tmps)=b:=by
 unfold aA at h
 unfold Region.wanted
 split at h
 ·rename_i hg
  simp only[AY] at h
  rw[hg];exact h
 ·rename_i j want hg
  rw[hg]
  simp only
  split at h
  ·cases h
  ·rename_i oj hj
   split at h
   ·cases h
   ·rename_i t hd
    split at h
    ·rename_i b' hv
     simp only[AY] at h
     rw[AFH hs hj hd hv,←h]
     cases b' <;> cases want <;> rfl
    ·rename_i vs hv
     simp only[AY] at h
     rw[ABY hs hj hd hv,←h];rfl
    ·cases h
theorem AH8 {cx:Cx} (hcx:cx.Ok P) {o:Oper} {i k:Nat} (ho:ops[i]? =some o) {c:DN cx.tb} {E:Env} {fr:List SV} {L:AJ} {a:Act} {w:World} (hst:St c E fr L a w) {AQ:Nat->Option AW} (B4:∀ n e,AQ n=some e->look L n=some e)
  {v:SV} {u:CW} (h:aB P cx ops.toList o k fr AQ pr=some (v,u)) {K:Act->World->Prop}
  (hK:∀ E' a' w',St c E' (P_ fr o.dst v) (AI L u) a' w' ->(∀ n,Al L n->E'.nm n=E.nm n/\Al (AI L u) n)->E'.ds=E.ds->K a' w'):wpOp P ops Q i K a w:=by
 unfold wpOp
 rw[ho]
 simp only
 unfold aB at h
 split at h
 ·cases h
 ·rename_i hg
  simp only[pr,AY,C3] at h
  obtain⟨rfl,rfl⟩:=h
  rw[wQ hst.pG hg]
  simp only[T8,I9]
  exact hK E _ w ⟨hst.pG.put o.dst AV,hst.hd,hst.wf.put o.dst (kA _ _)⟩ (fun n hn=>⟨rfl,hn⟩) rfl
 ·rename_i hg
  rw[wQ hst.pG hg]
  simp only[GA]
  refine .inl ?_
  split at h
  ·cases h
  rename_i hnu
  obtain⟨v0,AMD,hvv⟩:∃ v0,core P cx AQ o.dst (evc fr) pr o.op=some (v0,u)/\(∀ E:Env,v.den E=v0.den E)/\(∀ E L,v0.wf E L->v.wf E L):=by
   cases hs:AUK ops.toList k with
   |false=>rw[hs] at h;exact⟨v,h,fun _=>rfl,fun _ _ h=>h⟩
   |true=>
    rw[hs] at h
    simp only at h
    rw[j7,AAQ] at h
    obtain⟨⟨v0,u0⟩,h1,h2⟩:=h
    obtain⟨b,hb,h3⟩:=oC h2
    simp only[pr,AY,C3] at h3
    obtain⟨rfl,rfl⟩:=h3
    exact⟨v0,h1,fun E=>by rw[UJ hb];rfl,fun _ _ _=>trivial⟩
  have AZX:∀ cs b,o.op≠ .select cs b:=by
   intro cs b he
   rw[he] at AMD
   cases hfz:cx.AQ8 o.dst <;> (cases hkq:(cx.keeps o.dst && Op.AH0 (Op.select cs b)) <;> simp [core,core0,P3,hfz,ZZ,ABM,Op.AH0] at AMD hkq)
  obtain⟨G,hG⟩:=hst.hd
  refine AQO hcx B4 AMD c w E ⟨G,hG⟩ (fun x=>AXB hst.wf x) a _ Q ?_ ?_
  ·refine execOp_congr o AZX fun x hx=> ?_
   rw[S_ hst.pG x]
   have:=J9.1 hnu x (by simpa using hx)
   unfold evc
   cases hv:ev fr x <;> first|rfl|(rw[hv] at this;simp [wP] at this)
  ·intro E' w' hH hnm hds nW
   obtain⟨d1,d2⟩:=aC hst.wf hnm hds
   have hs' :Sim E' fr a:=⟨by rw[hst.pG.1,d1],hst.pG.2⟩
   refine hK E' _ w' ⟨?_,hH,d2.put o.dst (hvv.2 _ _ nW)⟩ hnm hds
   rw[<-hvv.1 E']
   exact hs'.put o.dst v
theorem AH9 {W:List Nat} {fr:List SV} {d:Option Tmp} {v:SV} (h:∀ t,d=some t->t∈W):∀ t,t∉W->(P_ fr d v).getD t AV=fr.getD t AV:=by
 intro t ht
 cases d with
 |none=>rfl
 |some d=>
  simp only[P_,ES]
  rw[AB]
  rintro⟨rfl,_⟩
  exact ht (h d rfl)
theorem oD (fr:List SV) (d:Option Tmp) (v:SV):(P_ fr d v).length=fr.length:=by cases d <;> simp [P_]
theorem ABZ {α:Type} {cx:Cx} (hcx:cx.Ok P) {W:List Nat} {c:DN cx.tb} {fr0:List SV} {L0:AJ} {E0:Env} {K:List SV->AJ->Option α} {r0:α}
  (hK:∀ E' fr' L' a' w',St c E' fr' L' a' w' ->Ext W E0 fr0 L0 E' fr' L' ->K fr' L' =some r0->Q .normal a' w'):
  ∀ (rest:List Oper) (k:Nat),ops.toList.drop k=rest->(∀ o∈rest,∀ d,o.dst=some d->d∈W)->∀ (E:Env) (fr:List SV) (L:AJ) (a:Act) (w:World),St c E fr L a w->Ext W E0 fr0 L0 E fr L→
   AMC P cx ops.toList rest k fr L K=some r0->wpOps P ops Q (List.range' k rest.length) a w
 | [],k,_,_,E,fr,L,a,w,hst,K8,hv=>hK E fr L a w hst K8 hv
 |o::rest,k,hd,hW,E,fr,L,a,w,hst,K8,hv=>by
  have RL:ops[k]? =some o:=by
   rw[<-gM]
   have:=N5 (fun l=>l[0]?) hd
   simpa [ZQ] using this
  have hd' :ops.toList.drop (k+1)=rest:=by
   have:=N5 (List.drop 1) hd
   simpa [List.drop_drop,Nat.add_comm] using this
  obtain⟨v,u,h1,h2⟩:=sD hv
  show wpOps P ops Q (k::List.range' (k+1) rest.length) a w
  rw[wpOps_cons]
  refine AH8 hcx RL hst (fun n e h=>h) h2 fun E' a' w' sF hnm hds=> ?_
  refine ABZ hcx hK rest (k+1) hd' (fun o' ho' =>hW o' (by simp [ho'])) E' _ _ a' w' sF (K8.trans ?_) h1
  exact⟨hnm,fun t _=>by rw[hds],YR.AI L u,oD _ _ _,AH9 fun t ht=>hW o (by simp) t ht⟩
end
end Go.V3
