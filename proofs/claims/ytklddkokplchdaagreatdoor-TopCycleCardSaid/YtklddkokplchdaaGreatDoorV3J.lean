import Derived.Test.YtklddkokplchdaaGreatDoorV3A
import Derived.Laws.BytesString
set_option linter.unusedVariables false
set_option linter.unusedSimpArgs false
namespace Go.V3
open Go
variable {TB:Tb}
structure U2 where
 live:List (Nat×CT)
 boxes:List (Nat×CT)
 rows:List (Nat×Ty)
 dead:List Nat
 lost:List Nat
 base:Nat
 pins:List (Nat×Nat×Nat):=[]
inductive Xt where
 |S3
 |a8
def Xt.sem:Xt->Array Value->Sem Value
 | .S3=>Extern.MathFloatBits.float64bits
 | .a8=>Extern.MathFloatBits.float64frombits
def xtE (e:Xt) (args:List SV):Pu:=
 match e,args with
 | .S3,[.nf o _]=>ZB (o.isSome=true/\o.getD 0<18446744073709551616) (.u64 (BitVec.ofNat 64 (o.getD 0)))
 | .S3,[.N9 b]=>ZB (b<18446744073709551616) (.u64 (BitVec.ofNat 64 b))
 | .a8,[.u64 x]=>val (.N9 x.toNat)
 |_,_=>none
structure Cx where
 nm:List (Nat×Nat×Nat)
 BN:List Nat
 fns:FuncId->Option FnI
 loops:List (Nat×U2)
 RH:List (Nat×U2)
 tb:Tb
 exts:List (Nat×Xt)
 lets:List Nat
 AKZ:List Nat:=[]
 AL0:List Nat:=[]
 opens:List (Nat×(Nat×Nat×Nat)):=[]
 dyns:List Nat:=[]
 fms:List (FuncId×List (Int×Nat)):=[]
 ovr:List (Nat×(FuncId×FnI)):=[]
def a9 {β α:Type} (x:β) (K:β->Option α):Option α:=K x
def AGS {α:Type} (b:Bool) (v:SV) (K:SV->Option α):Option α:=match b,v with
 |true,.u64 x=>a9 x fun x=>K (.u64 x)
 |true,.int k n=>a9 n fun n=>K (.int k n)
 |_,v=>K v
theorem AAE {α:Type} (b:Bool) (v:SV) (K:SV->Option α):AGS b v K=K v:=by
 unfold AGS a9;split <;> rfl
def Cx.AL1 (cx:Cx):Option Tmp->Bool
 |some d=>cx.lets.contains d
 |none=>false
def Cx.AAF (cx:Cx):Option Tmp->Bool
 |some d=> !cx.AL0.contains d
 |none=>true
def Cx.AL2 (cx:Cx):Option Tmp->Bool
 |some d=>cx.dyns.contains d
 |none=>false
def Cx.AGT (cx:Cx):Option Tmp->Bool
 |some d=>cx.AKZ.contains d
 |none=>false
def AJ3 (arr:Array Value) (k:Nat):Int:=match arr[k]? with
 |some (.int _ n)=>n
 |_=>0
def vA (k:IntKind):List Value->Bool
 | []=>true
 | .int k' _::r=>decide (k=k') && vA k r
 |_::_=>false
def lk {α:Type} (l:List (Nat×α)) (k:Nat):Option α:=
 match l with
 | []=>none
 |(a,b)::r=>if a=k then some b else lk r k
def Cx.rng (cx:Cx):Option Tmp->Nat×Nat
 |some d=>(match lk cx.nm d with
  |some q=>q
  |none=>(0,0))
 |none=>(0,0)
def Cx.base (cx:Cx) (d:Option Tmp):Nat:=(cx.rng d).1
def Cx.keeps (cx:Cx):Option Tmp->Bool
 |some d=>cx.BN.contains d
 |none=>false
def tyL:List (Option Ty)->Option Ty
 | []=>none
 | [x]=>x
 |x::r=>match x,tyL r with
  |some a,some b=>some (.pair a b)
  |_,_=>none
def hU (P:Program):Nat->TypeId->Option Ty
 |0,_=>none
 |n+1,t=>match P.underlying t with
  |some (.int k)=>some (match k with| .u64=> .u64|k=> .int k)
  |some .bool=>some .bool
  |some .string=>some .str
  |some (.float .f64)=>some .N9
  |some (.slice e)=>(match hU P n e with|some a=>some (.slice a)|none=>none)
  |some (.struct fs)=>tyL (fs.toList.map fun f=>hU P n f.type)
  |_=>none
def DA:Nat->Option AO:=fun _=>none
def PO:List (Int×Bool)->Int->Option Bool
 | [],_=>none
 |(a,b)::r,k=>if k=a then some b else PO r k
def hY:List (Int×Bool)->Int->Bool->List (Int×Bool)
 | [],k,v=>[(k,v)]
 |(a,b)::r,k,v=>if k=a then (k,v)::r else (a,b)::hY r k v
def qS (P:Program) (t:TypeId):Bool:=match P.underlying t with
 |some (.map k e)=>(match P.underlying k,P.info? e with
  |some (.int _),some q=>(match q.zero with
   |some (.bool false)=>true
   |_=>false)
  |_,_=>false)
 |_=>false
def fin (BN:Bool) (bs:Nat) (a:Ty) (xs:List a.T):BH:=(bs,.row a xs)::(match BN with
 |true=>[]
 |false=>[(bs,.shr a xs)])
section
variable (P:Program) (cx:Cx) (AI:Nat->Option AO) {α:Type}
def ZM (agg:Bool) (n:Nat) (a:Ty) (xs:List a.T) (k sz off bs:Nat) (K:SV->BH->Option α):Option α:=
 if sz=a.sz/\off+n<=a.sz/\EC AI bs a.EG=true then (match agg with
  |true=>K (.agg (((E3 a (gd a xs k) bs).drop off).take n)) (BL bs (A7 false a (gd a xs k)))
  |false=>(match (E3 a (gd a xs k) bs)[off]? with
   |some v=>K v (BL bs (A7 false a (gd a xs k)))
   |none=>none)) else none
def dY (i:Nat) (t:Ty) (xss:List (List t.T)) (h:Option (Nat×Nat)):Option (List (List t.T)×BH):=
 match h with
 |none=>some (xss,[])
 |some (k,j)=>(match AI j with
  |some (.row t' ys)=>if he:t' =t then some (xss.set k (D3 he ys),[(j,.dead),(i,.deep t (xss.set k (D3 he ys)) none)]) else none
  |_=>none)
def o9 (deep:Bool) (t:Ty) (xss:List (List t.T)) (h:Option (Nat×Nat)) (i k sz off bs:Nat) (K:SV->BH->Option α):Option α:=
 if sz=1/\off=0 then (match EC AI bs 1 && (deep||h.isNone) with
  |true=>(match dY AI i t xss h with
   |some (ys,u)=>K (.H9 bs) (u++ [(bs,.dead),(i,.deep t ys (some (k,bs))),(bs,.row t (ys.getD k []))])
   |none=>none)
  |false=>(match h with
   |some (k0,j)=>if k=k0 then K (.H9 j) [] else none
   |none=>none)) else none
def o_ (deep:Bool) (t:TypeId) (x:SV) (bs:Nat) (K:SV->BH->Option α):Option α:=
 match P.info? t,P.underlying t with
 |some q,some _=>(match x with
  | .loc i off=>(match AI i with
   |some (.box cs)=>(match FI P t with
    |true=>if off+q.size<=cs.length then K (.agg ((cs.drop off).take q.size)) [] else none
    |false=>(match cs[off]? with
     |some v=>K v []
     |none=>none))
   |some (.ptr j)=>(match FI P t with
    |true=>none
    |false=>if off=0 then K (.loc j 0) [] else none)
   |_=>none)
  | .el i k sz off=>(match AI i with
   |some (.row a xs)=>ZM AI (FI P t) q.size a xs k sz off bs K
   |some (.shr a xs)=>ZM AI (FI P t) q.size a xs k sz off bs K
   |some (.deep a xss h)=>(match FI P t with
    |true=>none
    |false=>o9 AI deep a xss h i k sz off bs K)
   |some (.tree _ _ _)=>(match FI P t with
    |true=>none
    |false=>if sz=2/\off<2 then K (.tsl i k off) [] else none)
   |_=>none)
  |_=>none)
 |_,_=>none
def loadT (t:TypeId) (g off:Nat) (K:SV->BH->Option α):Option α:=
 match lk cx.tb g,P.underlying t,P.info? t with
 |some arr,some (.int k),some _=>(match k with
  | .u64=>none
  |k=>if vA k arr.toList=true then (if off<arr.size then K (.int k (AJ3 arr off)) [] else none) else none)
 |_,_,_=>none
def kA:SV->Bool
 | .agg _=>false
 | .oO _=>false
 | .raw (.agg _)=>false
 | .raw (.tuple _)=>false
 | .dJ _=>false
 |_=>true
def AE1:SV->Bool
 | .H9 _=>false
 | .nf _ _=>false
 |_=>true
def AHT (cs:List SV) (off n:Nat):Bool:=(cs.take off).all AE1 && (cs.drop (off+n)).all AE1
def jK (n:Nat) (a:Ty) (xs:List a.T) (i k sz off:Nat) (v:SV) (K:SV->BH->Option α):Option α:=
 if sz=a.sz/\off+n<=a.sz/\(AZ v).length=n/\I7 v=false then
  (if off=0/\n=a.sz then (match CU .XD AI a (AZ v) with
   |some (y,[],_,u)=>(match u.all (fun q=> !(q.1==i)) with
    |true=>K AQ (u++ [(i,.row a (xs.set k y))])
    |false=>none)
   |_=>none)
  else if a.EG=0 then (match CU .S0 DA a (B5 (E3 a (gd a xs k) 0) off (AZ v)) with
   |some (y,[],_,_)=>K AQ [(i,.row a (xs.set k y))]
   |_=>none)
  else (match AHT (E3 a (gd a xs k) 0) off n with
   |true=>(match CU .XD AI a (B5 (E3 a (gd a xs k) 0) off (AZ v)) with
    |some (y,[],_,u)=>(match u.all (fun q=> !(q.1==i)) with
     |true=>K AQ (u++ [(i,.row a (xs.set k y))])
     |false=>none)
    |_=>none)
   |false=>none))
 else none
def T7 (a:Ty):Nat->List SV->Option (List a.T×BH)
 |0,[]=>some ([],[])
 |0,_::_=>none
 |n+1,cs=>match CU .XD AI a cs with
  |some (x,r,_,u)=>(match T7 a n r with
   |some (xs,u')=>some (x::xs,u++u')
   |none=>none)
  |none=>none
def a_ (n len:Nat) (a:Ty) (xs:List a.T) (i k off:Nat) (v:SV) (K:SV->BH->Option α):Option α:=
 if k=0/\off=0/\a.EG=0/\(AZ v).length=n/\(AZ v).all kA=true/\I7 v=false then
  (match T7 DA a len (AZ v) with
  |some (ys,_)=>if xs.length=len then K AQ [(i,.row a ys)] else none
  |none=>none)
 else none
def qT (n:Nat) (t:Ty) (xss:List (List t.T)) (h:Option (Nat×Nat)) (i k sz off:Nat) (v:SV) (K:SV->BH->Option α):Option α:=
 if n=1/\sz=1/\off=0 then (match v with
  | .H9 j=>(match AI j with
   |some (.row t' ys)=>if he:t' =t then (match h with
    |none=>K AQ [(j,.dead),(i,.deep t (xss.set k (D3 he ys)) none)]
    |some (k0,_)=>if k=k0 then K AQ [(j,.dead),(i,.deep t (xss.set k (D3 he ys)) none)] else none) else none
   |_=>none)
  |_=>none) else none
def AJ4 (q1:TypeInfo) (i k q:Nat) (n:Int) (K:SV->BH->Option α):Option α:=match AI i with
 |some (.tree t1 t2 xs)=>(match q with
  |0=>if q1.size=1/\t1.sz=1 then (if 0<=n/\n<((gd (.pair (.slice t1) (.slice t2)) xs k).1.length:Int) then K (.tel i k 0 n.toNat) [] else none) else none
  |1=>if q1.size=1/\t2.sz=1 then (if 0<=n/\n<((gd (.pair (.slice t1) (.slice t2)) xs k).2.length:Int) then K (.tel i k 1 n.toNat) [] else none) else none
  |_=>none)
 |_=>none
def storeT (n:Nat) (i k q j:Nat) (v:SV) (K:SV->BH->Option α):Option α:=match AI i with
 |some (.tree t1 t2 xs)=>if n=1/\I7 v=false/\kA v=true then (match q with
  |0=>(match CU .S0 DA t1 [v] with
   |some (y,[],_,_)=>if t1.EG=0/\t1.sz=1 then K AQ [(i,.tree t1 t2 (xs.set k ((gd (.pair (.slice t1) (.slice t2)) xs k).1.set j y,(gd (.pair (.slice t1) (.slice t2)) xs k).2)))] else none
   |_=>none)
  |1=>(match CU .S0 DA t2 [v] with
   |some (y,[],_,_)=>if t2.EG=0/\t2.sz=1 then K AQ [(i,.tree t1 t2 (xs.set k ((gd (.pair (.slice t1) (.slice t2)) xs k).1,(gd (.pair (.slice t1) (.slice t2)) xs k).2.set j y)))] else none
   |_=>none)
  |_=>none) else none
 |_=>none
def dZ (t:TypeId) (x v:SV) (K:SV->BH->Option α):Option α:=
 match P.info? t with
 |some q=>(match x with
  | .loc i off=>(match AI i with
   |some (.box cs)=>if (AZ v).length=q.size/\(AZ v).all kA=true/\I7 v=false/\off+(AZ v).length<=cs.length then K AQ [(i,.box (B5 cs off (AZ v)))] else none
   |_=>none)
  | .el i k sz off=>(match AI i with
   |some (.row a xs)=>(match P.underlying t with
    |some (.array len _)=>a_ q.size len a xs i k off v K
    |_=>jK AI q.size a xs i k sz off v K)
   |some (.deep a xss h)=>qT AI q.size a xss h i k sz off v K
   |_=>none)
  | .tel i k h j=>storeT AI q.size i k h j v K
  |_=>none)
 |none=>none
def d_ (t:TypeId) (BN:Bool) (bs:Nat) (K:SV->BH->Option α):Option α:=
 match H2 P t with
 |some z=>if EC AI bs 1=true then (match P.underlying t with
  |some (.array len e)=>(match hU P 8 e,P.info? e with
   |some a,some q=>if q.size=a.sz/\a.EG=0/\0<len then (match T7 DA a len z with
    |some (xs,_)=>K (.el bs 0 a.sz 0) (fin BN bs a xs)
    |none=>none) else none
   |_,_=>none)
  |_=>if ML (z.map fun v=>(0,v))=true then K (.loc bs 0) [(bs,.box z)] else none) else none
 |none=>none
def AC0 (x:SV) (bs:Nat) (K:SV->BH->Option α):Option α:=
 if I7 x=false/\EC AI bs 1=true then K (.loc bs 0) [(bs,.box (AZ x))] else none
def JV (t:TypeId) (len:Nat) (parts:List (Nat×SV)) (BN:Bool) (bs:Nat) (K:SV->BH->Option α):Option α:=
 match P.underlying t with
 |some (.slice e)=>(match P.info? e,H2 P e,hU P 8 e with
  |some q,some z,some a=>
   if z.length=q.size/\q.size=a.sz/\len*q.size<=16777216/\ML parts=true/\EC AI bs 1=true then
    (match T4 (fun i=>some (i*q.size,q.size)) (fresh z (len*q.size) q.size) parts with
    |some cs=>(match T7 AI a len cs with
     |some (xs,u)=>K (.H9 bs) (u++fin BN bs a xs)
     |none=>none)
    |none=>none)
   else none
  |_,_,_=>none)
 |_=>none
def LV (t:TypeId) (l c:SV) (BN:Bool) (bs:Nat) (K:SV->BH->Option α):Option α:=
 match P.underlying t with
 |some (.slice e)=>(match P.info? e,H2 P e,hU P 8 e,l,c with
  |some q,some z,some a,.int _ n,.int _ m=>(match CU .S0 DA a z with
   |some (zv,[],_,_)=>
    if z.length=q.size/\q.size=a.sz/\q.bytes≠0/\EC AI bs 1=true then
     (if 0<=n/\n<=m/\m*q.bytes<=140737488355328 then K (.H9 bs) (fin BN bs a (List.replicate n.toNat zv)) else none)
    else none
   |_=>none)
  |_,_,_,_,_=>none)
 |_=>none
def AE2 (t:TypeId):Bool:=match P.underlying t with
 |some (.slice e)=>(match P.underlying e with
  |some (.slice _)=>true
  |_=>false)
 |_=>false
def pA (t:TypeId) (l c:SV) (bs:Nat) (K:SV->BH->Option α):Option α:=
 match P.underlying t with
 |some (.slice e)=>(match P.info? e,H2 P e,hU P 8 e,l,c with
  |some q,some [.GS],some (.slice a),.int _ n,.int _ m=>
   if q.size=1/\q.bytes≠0/\EC AI bs 1=true then
    (if 0<=n/\n<=m/\m*q.bytes<=140737488355328 then K (.H9 bs) [(bs,.deep a (List.replicate n.toNat []) none)] else none)
   else none
  |_,_,_,_,_=>none)
 |_=>none
def eA (t:TypeId) (len:Nat) (parts:List (Nat×SV)) (bs:Nat) (K:SV->BH->Option α):Option α:=
 match P.underlying t with
 |some (.slice e)=>(match P.info? e,H2 P e,hU P 8 e,parts with
  |some q,some [.GS],some (.slice a),[(0,.H9 j)]=>(match AI j with
   |some (.row t' ys)=>if he:t' =a then
    (if q.size=1/\len=1/\EC AI bs 1=true then K (.H9 bs) [(j,.dead),(bs,.deep a [D3 he ys] none)] else none) else none
   |_=>none)
  |some q,some [.GS],some (.slice a),[(0,.GS)]=>if q.size=1/\len=1/\EC AI bs 1=true then K (.H9 bs) [(bs,.deep a [[]] none)] else none
  |_,_,_,_=>none)
 |_=>none
def AJ5 (t:TypeId):Bool:=match P.underlying t with
 |some (.slice e)=>(match hU P 8 e with
  |some (.pair (.slice _) (.slice _))=>true
  |_=>false)
 |_=>false
def bA (t:Ty):SV->Option (List t.T×BH)
 | .GS=>some ([],[])
 | .H9 i=>(match AI i with
  |some (.row t' ys)=>if he:t' =t then some (D3 he ys,[(i,.dead)]) else none
  |_=>none)
 |_=>none
def eB (t:TypeId) (len:Nat) (parts:List (Nat×SV)) (bs:Nat) (K:SV->BH->Option α):Option α:=
 match P.underlying t with
 |some (.slice e)=>(match P.info? e,H2 P e,hU P 8 e,parts with
  |some q,some [.GS,.GS],some (.pair (.slice a) (.slice b)),[(0,.agg [v1,v2])]=>(match bA AI a v1,bA AI b v2 with
   |some (y1,u1),some (y2,u2)=>if q.size=2/\len=1/\EC AI bs 1=true/\u1.all (fun q=>u2.all (fun r=> !(r.1==q.1)))=true then K (.H9 bs) (u1++u2++ [(bs,.tree a b [(y1,y2)])]) else none
   |_,_=>none)
  |_,_,_,_=>none)
 |_=>none
def vB (a b:Ty):SV->Option (List (List a.T×List b.T)×BH)
 | .GS=>some ([],[])
 | .H9 i=>(match AI i with
  |some (.tree t1 t2 xs)=>if he:t1=a/\t2=b then some (he.1 ▸ he.2 ▸ xs,[(i,.dead)]) else none
  |_=>none)
 |_=>none
def AGU:SV->Bool
 | .H9 i=>(match AI i with
  |some (.tree _ _ _)=>true
  |_=>false)
 |_=>false
def XK (ts:List TypeId) (x y:SV) (bs:Nat) (K:SV->BH->Option α):Option α:=
 match ts with
 | [t0,t1]=>(match P.underlying t0,P.underlying t1 with
  |some (.slice e),some (.slice _)=>(match P.info? e,H2 P e,hU P 8 e with
   |some q,some [.GS,.GS],some (.pair (.slice a) (.slice b))=>
    if q.size=2/\q.bytes≠0/\EC AI bs 1=true then
     (match vB AI a b x,vB AI a b y with
     |some (xs,u1),some (ys,u2)=>(match u1.all (fun q=>u2.all (fun r=> !(r.1==q.1))) with
      |true=>if (xs.length+ys.length)*q.bytes<=140737488355328 then K (.H9 bs) (u1++u2++ [(bs,.tree a b (xs++ys))]) else none
      |false=>none)
     |_,_=>none)
    else none
   |_,_,_=>none)
  |_,_=>none)
 |_=>none
def PY:SV->Bool
 | .H9 i=>(match AI i with
  |some (.deep _ _ _)=>true
  |some (.tree _ _ _)=>true
  |_=>false)
 |_=>false
def vC (a:Ty):SV->Option (List (List a.T)×BH)
 | .GS=>some ([],[])
 | .H9 i=>(match AI i with
  |some (.deep t xss none)=>if he:t=a then some (D3 (ZA Ty.slice he) xss,[(i,.dead)]) else none
  |_=>none)
 |_=>none
def AGV (BN:Bool) (bs:Nat) (a:Ty) (xss:List (List a.T)):BH:=match BN with
 |true=>[]
 |false=>[(bs,.shr (.slice a) xss)]
def NT (ts:List TypeId) (x y:SV) (BN:Bool) (bs:Nat) (K:SV->BH->Option α):Option α:=
 match ts with
 | [t0,t1]=>(match P.underlying t0,P.underlying t1 with
  |some (.slice e),some (.slice _)=>(match P.info? e,H2 P e,hU P 8 e with
   |some q,some [.GS],some (.slice a)=>
    if q.size=1/\q.bytes≠0/\EC AI bs 1=true then
     (match vC AI a x,vC AI a y with
     |some (xs,u1),some (ys,u2)=>(match u1.all (fun q=>u2.all (fun r=> !(r.1==q.1))) with
      |true=>if (xs.length+ys.length)*q.bytes<=140737488355328 then K (.H9 bs) (u1++u2++ [(bs,.deep a (xs++ys) none)]++AGV BN bs a (xs++ys)) else none
      |false=>none)
     |_,_=>none)
    else none
   |_,_,_=>none)
  |_,_=>none)
 |_=>none
def AE3 :SV->Option Nat
 | .GS=>some 0
 | .H9 i=>(match AI i with
  |some (.row _ xs)=>some xs.length
  |some (.shr _ xs)=>some xs.length
  |some (.deep _ xss _)=>some xss.length
  |some (.tree _ _ xs)=>some xs.length
  |_=>none)
 | .sub _ _ n _=>some n
 |_=>none
def XL (ts:List TypeId) (x y:SV) (BN:Bool) (bs:Nat) (K:SV->BH->Option α):Option α:=
 match ts with
 | [t0,t1]=>(match P.underlying t0,P.underlying t1 with
  |some (.slice e),some (.slice _)=>(match P.info? e,H2 P e,hU P 8 e with
   |some q,some z,some a=>
    if z.length=q.size/\q.size=a.sz/\q.bytes≠0/\EC AI bs 1=true then
     (match S1 AI a x,IW .S0 AI a y with
     |some (xs,_,u1),some (ys,ne,u2)=>
      (match u1.all (fun q=>u2.all (fun r=> !(r.1==q.1))) with
      |true=>if (xs.length+ys.length)*q.bytes<=140737488355328 then K (.H9 bs) (u2++u1++fin BN bs a (xs++ys)) else none
      |false=>none)
     |_,_=>none)
    else none
   |_,_,_=>none)
  |_,_=>none)
 |_=>none
def eC (t:TypeId) (x:SV) (low high:Option SV) (BN:Bool) (bs:Nat) (K:SV->BH->Option α):Option α:=
 match P.underlying t with
 |some (.slice e)=>(match P.info? e,x with
  |some q,.H9 i=>(match AI i with
   |some (.row a xs)=>(match BN with
    |false=>if q.size=a.sz then (match oR high xs.length,oR low 0 with
     |some (h,hn),some (l,ln)=>if Bd l h hn xs.length then K (.sub i ln (hn-ln) a.sz) [] else none
     |_,_=>none) else none
    |true=>if q.size=a.sz/\EC AI bs 1=true then (match oR high xs.length,oR low 0 with
     |some (h,hn),some (l,ln)=>if Bd l h hn xs.length then K (.H9 bs) [(i,.dead),(bs,.row a (DQ xs ln (hn-ln)))] else none
     |_,_=>none) else none)
   |some (.shr a xs)=>if q.size=a.sz/\EC AI bs 1=true then (match oR high xs.length,oR low 0 with
    |some (h,hn),some (l,ln)=>if Bd l h hn xs.length then K (.H9 bs) [(bs,.shr a (DQ xs ln (hn-ln)))] else none
    |_,_=>none) else none
   |_=>none)
  |_,_=>none)
 |_=>none
def eD (t:TypeId) (x i:SV) (K:SV->BH->Option α):Option α:=
 match P.underlying t,idxOf i with
 |some (.slice e),some n=>(match P.info? e,x with
  |some q,.H9 j=>(match AI j with
   |some (.row a xs)=>if q.size=a.sz then (if 0<=n/\n<(xs.length:Int) then K (.el j n.toNat a.sz 0) [] else none) else none
   |some (.shr a xs)=>if q.size=a.sz then (if 0<=n/\n<(xs.length:Int) then K (.el j n.toNat a.sz 0) [] else none) else none
   |some (.deep _ xss _)=>if q.size=1 then (if 0<=n/\n<(xss.length:Int) then K (.el j n.toNat 1 0) [] else none) else none
   |some (.tree _ _ xs)=>if q.size=2 then (if 0<=n/\n<(xs.length:Int) then K (.el j n.toNat 2 0) [] else none) else none
   |_=>none)
  |some q,.tsl i k h=>AJ4 AI q i k h n K
  |some q,.sub j lo len sz=>(match AI j with
   |some (.row a _)=>if q.size=sz/\sz=a.sz then (if 0<=n/\n<(len:Int) then K (.el j (lo+n.toNat) sz 0) [] else none) else none
   |_=>none)
  |_,_=>none)
 |some (.array len e),some n=>(match P.info? e,x with
  |some q,.el j k sz off=>(match AI j with
   |some (.row a xs)=>if q.size=a.sz/\sz=a.sz/\k=0/\off=0 then (if (0<=n/\n<(len:Int))/\n<(xs.length:Int) then K (.el j n.toNat a.sz 0) [] else none) else none
   |_=>none)
  |_,_=>none)
 |_,_=>none
def bB (bs:Nat) (K:SV->BH->Option α):Option α:=
 if EC AI bs 1=true then K (.mpv bs) [(bs,.map [])] else none
def jL (t:TypeId) (x i:SV) (ok:Bool) (K:SV->BH->Option α):Option α:=
 match x,i with
 | .mpv j,.int .i64 n=>(match AI j with
  |some (.map xs)=>(match qS P t with
   |true=>(match ok with
    |true=>K (.oO [.bool ((PO xs n).getD false),.bool (PO xs n).isSome]) []
    |false=>K (.bool ((PO xs n).getD false)) [])
   |false=>none)
  |_=>none)
 |_,_=>none
def jM (t:TypeId) (x i v:SV) (K:SV->BH->Option α):Option α:=
 match x,i,uA v with
 | .mpv j,.int .i64 n,some b=>(match AI j with
  |some (.map xs)=>(match qS P t with
   |true=>K AQ [(j,.map (hY xs n b))]
   |false=>none)
  |_=>none)
 |_,_,_=>none
def AL3 (xs:List Int):ByteArray:=xs.foldl (fun r n=>r.push (UInt8.ofNat n.toNat)) ByteArray.empty
def ZN (s:ByteArray):List Int:=s.data.toList.map fun b=>(b.toNat:Int)
def AGW (P:Program) (e:TypeId):Bool:=match P.underlying e with
 |some (.int .u8)=>true
 |_=>false
def AAG (s d:TypeId) (x:SV) (kp:Bool) (bs:Nat) (K:SV->BH->Option α):Option α:=
 match P.underlying s,P.underlying d with
 |some (.slice e),some .string=>(match AGW P e with
  |true=>(match PY AI x with
   |true=>none
   |false=>(match IW .S0 AI (.int .u8) x with
    |some (xs,_,_)=>K (.str (AL3 xs)) []
    |none=>none))
  |false=>none)
 |some .string,some (.slice e)=>(match AGW P e && EC AI bs 1 with
  |true=>(match x with
   | .str t=>K (.H9 bs) (fin kp bs (.int .u8) (ZN t))
   |_=>none)
  |false=>none)
 |_,_=>none
def vD (dst:Option Tmp) (ρ:Operand->SV) (K:SV->BH->Option α):Op->Option α
 | .load t x=>(match ρ x with
  | .ptr (some ⟨g,off,none⟩)=>loadT P cx t g off K
  |v=>o_ P AI (cx.AAF dst) t v (cx.base dst) K)
 | .store t x y=>dZ P AI t (ρ x) (ρ y) K
 | .alloc t=>d_ P AI t (cx.keeps dst) (cx.base dst) K
 | .box _ x=>AC0 AI (ρ x) (cx.base dst) K
 | .buildSlice t len parts=>(match cx.keeps dst && (cx.AAF dst && AE2 P t) with
  |true=>eA P AI t len (parts.toList.map fun q=>(q.1,ρ q.2)) (cx.base dst) K
  |false=>(match cx.keeps dst && (cx.AAF dst && AJ5 P t) with
   |true=>eB P AI t len (parts.toList.map fun q=>(q.1,ρ q.2)) (cx.base dst) K
   |false=>JV P AI t len (parts.toList.map fun q=>(q.1,ρ q.2)) (cx.keeps dst) (cx.base dst) K))
 | .makeSlice t l c=>(match cx.keeps dst && (cx.AAF dst && AE2 P t) with
  |true=>pA P AI t (ρ l) (ρ c) (cx.base dst) K
  |false=>LV P AI t (ρ l) (ρ c) (cx.keeps dst) (cx.base dst) K)
 | .slice t x l h none=>eC P AI t (ρ x) (l.map ρ) (h.map ρ) (cx.keeps dst) (cx.base dst) K
 | .indexAddr t x i=>eD P AI t (ρ x) (ρ i) K
 | .call { callee:= .builtin .len,args,argTypes }=>(match args.toList.map ρ,argTypes.toList with
  | [x],[t]=>(match P.underlying t,AE3 AI x with
   |some (.slice _),some n=>K (.int .i64 n) []
   |_,_=>none)
  |_,_=>none)
 | .call { callee:= .builtin .append,args,argTypes }=>(match args.toList.map ρ with
  | [x,y]=>(match PY AI y with
   |true=>(match AGU AI y with
    |true=>XK P AI argTypes.toList x y (cx.base dst) K
    |false=>NT P AI argTypes.toList x y (cx.keeps dst) (cx.base dst) K)
   |false=>XL P AI argTypes.toList x y (cx.keeps dst) (cx.base dst) K)
  |_=>none)
 | .makeMap _ none=>bB AI (cx.base dst) K
 | .convert s d x=>AAG P AI s d (ρ x) (cx.keeps dst) (cx.base dst) K
 | .binOp .quo _ x y _=>(match ρ x,ρ y with
  | .N9 a,.N9 b=>(match EC AI (cx.base dst) 1 with
   |true=>K (.nf (D_ .quo a b) (cx.base dst)) [((cx.base dst),.dead)]
   |false=>none)
  |_,_=>none)
 | .lookup t x i ok=>jL P AI t (ρ x) (ρ i) ok K
 | .mapUpdate t x i v=>jM P AI t (ρ x) (ρ i) (ρ v) K
 | .call { callee:= .value f,args,.. }=>(match m7 (ρ f) with
  |some (n,cs)=>(match cx.fns n with
   |some fi=>fL (cx.AL2 dst) fi (cx.base dst) AI (args.toList.map ρ++cs) K
   |none=>(match lk cx.exts n with
    |some e=>(match xtE e (args.toList.map ρ++cs) with
     |some (none,v)=>K v []
     |some (some q,v)=> @ite _ q.p q.d (K v []) none
     |none=>none)
    |none=>none))
  |_=>none)
 |_=>none
def AGX (t:TypeId):Bool:=match P.underlying t with
 |some (.slice e)=>(match P.underlying e with
  |some (.pointer _)=>true
  |_=>false)
 |_=>false
def AE4:SV->Bool
 | .bsl _ _ _ _=>true
 |_=>false
def AL4:SV->Bool
 | .mpv j=>(match AI j with
  |some (.fmp _)=>true
  |_=>false)
 |_=>false
def Cx.ovd (cx:Cx):Option Tmp->Option (FuncId×FnI)
 |some d=>lk cx.ovr d
 |none=>none
def vE (dst:Option Tmp) (ρ:Operand->SV):Op->Bool
 | .buildSlice t _ _=>AGX P t
 | .slice _ x _ _ none=>AE4 (ρ x)
 | .indexAddr _ x _=>AE4 (ρ x)
 | .call { callee:= .builtin .len,args,.. }=>(match args.toList.map ρ with
  | [x]=>AE4 x
  |_=>false)
 | .call { callee:= .builtin .clear,.. }=>true
 | .lookup _ x _ _=>AL4 AI (ρ x)
 | .call { callee:= .value f,.. }=>(match m7 (ρ f) with
  |some (n,_)=>(lk cx.fms n).isSome||(cx.ovd dst).isSome
  |none=>false)
 | .binOp .eql _ _ y _=>(match ρ y with
  | .GS=>true
  |_=>false)
 |_=>false
def qU (t:TypeId) (len:Nat) (parts:List (Nat×SV)) (bs:Nat) (K:SV->BH->Option α):Option α:=
 match P.underlying t with
 |some (.slice e)=>(match P.info? e,H2 P e with
  |some q,some z=>
   if z.length=q.size/\q.size=1/\len*q.size<=16777216/\ML parts=true/\EC AI bs 1=true then
    (match T4 (fun i=>some (i*q.size,q.size)) (fresh z (len*q.size) q.size) parts with
    |some cs=>K (.bsl bs 0 len len) [(bs,.box cs)]
    |none=>none)
   else none
  |_,_=>none)
 |_=>none
def sliceB (t:TypeId) (x:SV) (low high:Option SV) (K:SV->BH->Option α):Option α:=
 match P.underlying t,x,low.isNone with
 |some (.slice e),.bsl i lo n c,true=>(match P.info? e with
  |some _=>(match c with
   |0=>none
   |c+1=>(match oR high n,oR low 0 with
    |some (h,hn),some (l,_)=>if Bd l h hn (c+1) then K (.bsl i lo hn (c+1)) [] else none
    |_,_=>none))
  |none=>none)
 |_,_,_=>none
def vF (i lo:Nat) (n:Int) (K:SV->BH->Option α):List Nat->Option α
 | []=>none
 |j::r=>if n=(j:Int) then K (.loc i (lo+j)) [] else vF i lo n K r
def qV (t:TypeId) (x y:SV) (K:SV->BH->Option α):Option α:=
 match P.underlying t,x,idxOf y with
 |some (.slice e),.bsl i lo n c,some k=>(match P.info? e with
  |some q=>if q.size=1 then (if 0<=k/\k<(n:Int) then vF i lo k K (List.range c) else none) else none
  |none=>none)
 |_,_,_=>none
def AE5 (P:Program) (t:TypeId):Bool:=match P.underlying t with
 |some (.map k e)=>(match P.underlying k,P.info? e with
  |some (.int _),some q=>(match q.zero with
   |some .nilFunc=>true
   |_=>false)
  |_,_=>false)
 |_=>false
def bC (n:Int) (K:SV->BH->Option α):List (Int×Nat)->Option α
 | []=>K (.oO [.raw .nilFunc,.HF false]) []
 |(k,f)::r=>if n=k then K (.oO [.raw (.func (.func f) #[] #[]),.HF true]) [] else bC n K r
def jN (t:TypeId) (x i:SV) (ok:Bool) (K:SV->BH->Option α):Option α:=
 match x,i,ok with
 | .mpv j,.int .i64 n,true=>(match AI j with
  |some (.fmp xs)=>(match AE5 P t with
   |true=>bC n K xs
   |false=>none)
  |_=>none)
 |_,_,_=>none
def clr {β:Type} (xs:List β) (lo n:Nat) (z:β):List β:=xs.take lo++List.replicate n z++xs.drop (lo+n)
def qW (ts:List TypeId) (xs:List SV) (K:SV->BH->Option α):Option α:=
 match ts,xs with
 | [t],[.sub i lo n sz]=>(match P.underlying t with
  |some (.slice e)=>(match P.info? e,H2 P e,AI i with
   |some q,some z,some (.row a ys)=>(match CU .S0 DA a z with
    |some (zv,[],_,_)=>if z.length=q.size/\q.size=a.sz/\sz=a.sz/\z.all kA=true then
      (if lo+n<=ys.length then K (.oO []) [(i,.row a (clr ys lo n zv))] else none)
     else none
    |_=>none)
   |_,_,_=>none)
  |_=>none)
 |_,_=>none
def AAH (t:TypeId) (x:SV) (K:SV->BH->Option α):Option α:=
 match P.underlying t,x with
 |some (.slice _),.H9 i=>(match AI i with
  |some (.row _ xs)=>if 0<xs.length then K (.HF false) [] else none
  |some (.shr _ xs)=>if 0<xs.length then K (.HF false) [] else none
  |_=>none)
 |_,_=>none
def m9 (dst:Option Tmp) (ρ:Operand->SV) (K:SV->BH->Option α):Op->Option α
 | .buildSlice t len parts=>qU P AI t len (parts.toList.map fun q=>(q.1,ρ q.2)) (cx.base dst) K
 | .slice t x l h none=>sliceB P t (ρ x) (l.map ρ) (h.map ρ) K
 | .indexAddr t x i=>qV P t (ρ x) (ρ i) K
 | .call { callee:= .builtin .len,args,argTypes }=>(match args.toList.map ρ,argTypes.toList with
  | [.bsl _ _ n _],[t]=>(match P.underlying t with
   |some (.slice _)=>K (.int .i64 n) []
   |_=>none)
  |_,_=>none)
 | .call { callee:= .builtin .clear,args,argTypes }=>qW P AI argTypes.toList (args.toList.map ρ) K
 | .lookup t x i ok=>jN P AI t (ρ x) (ρ i) ok K
 | .call { callee:= .value f,args,.. }=>(match cx.ovd dst with
  |some (m,fi)=>(match m7 (ρ f) with
   |some (n,cs)=>if m=n then fL (cx.AL2 dst) fi (cx.base dst) AI (args.toList.map ρ++cs) K else none
   |none=>none)
  |none=>(match m7 (ρ f),args.toList with
  |some (n,[]),[]=>(match lk cx.fms n with
   |some xs=>if EC AI (cx.base dst) 1=true then K (.mpv (cx.base dst)) [(cx.base dst,.fmp xs)] else none
   |none=>none)
  |_,_=>none))
 | .binOp .eql t x _ _=>AAH P AI t (ρ x) K
 |_=>none
def bD (v:SV) (K:SV->BH->Option α):Option α:=
 match v with
 | .H9 i=>(match AI i with
  |some (.deep t xss h)=>(match dY AI i t xss h with
   |some (ys,u)=>K (.H9 i) (u++ [(i,.shr (.slice t) ys)])
   |none=>none)
  |_=>K (.H9 i) [])
 |v=>K v []
def MA (ρ:Operand->SV) (K:SV->BH->Option α):Op->Option α
 | .move x=>bD AI (ρ x) K
 | .assign x=>bD AI (ρ x) K
 |_=>none
def Op.AAI:Op->Bool
 | .binOp .quo _ _ _ _=>true
 |_=>false
def core0 (dst:Option Tmp) (ρ:Operand->SV) (K:SV->BH->Option α) (op:Op):Option α:=
 match (match cx.keeps dst && Op.AAI op with
  |true=>none
  |false=>VE P ρ op) with
 |some (none,v)=>AGS (cx.AL1 dst) v fun v=>K v []
 |some (some q,v)=> @ite _ q.p q.d (AGS (cx.AL1 dst) v fun v=>K v []) none
 |none=>(match vE P cx AI dst ρ op with
  |true=>m9 P cx AI dst ρ K op
  |false=>vD P cx AI dst ρ K op)
def core (dst:Option Tmp) (ρ:Operand->SV) (K:SV->BH->Option α) (op:Op):Option α:=
 match cx.AGT dst with
 |true=>MA AI ρ K op
 |false=>core0 P cx AI dst ρ K op
end
section
variable {P:Program} {cx:Cx} {AI:Nat->Option AO} {α:Type}
def pr (v:SV) (u:BH):Option (SV×BH):=some (v,u)
theorem yQ (agg:Bool) (n:Nat) (a:Ty) (xs:List a.T) (k sz off bs:Nat) (K:SV->BH->Option α):
  ZM AI agg n a xs k sz off bs K=(ZM AI agg n a xs k sz off bs pr).bind (fun q=>K q.1 q.2):=by
 unfold ZM
 split
 ·cases agg
  ·simp only;split <;> rfl
  ·rfl
 ·rfl
theorem AC1 (deep:Bool) (t:Ty) (xss:List (List t.T)) (h:Option (Nat×Nat)) (i k sz off bs:Nat) (K:SV->BH->Option α):
  o9 AI deep t xss h i k sz off bs K=(o9 AI deep t xss h i k sz off bs pr).bind (fun q=>K q.1 q.2):=by
 unfold o9
 repeat' split
 all_goals rfl
theorem AC2 (deep:Bool) (t:TypeId) (x:SV) (bs:Nat) (K:SV->BH->Option α):o_ P AI deep t x bs K=(o_ P AI deep t x bs pr).bind (fun q=>K q.1 q.2):=by
 unfold o_
 repeat' split
 all_goals first|rfl|exact yQ _ _ _ _ _ _ _ _ _|exact AC1 _ _ _ _ _ _ _ _ _ _
theorem yR (t:TypeId) (x v:SV) (K:SV->BH->Option α):dZ P AI t x v K=(dZ P AI t x v pr).bind (fun q=>K q.1 q.2):=by
 unfold dZ jK a_ qT storeT
 repeat' split
 all_goals rfl
theorem yS (t:TypeId) (BN:Bool) (bs:Nat) (K:SV->BH->Option α):d_ P AI t BN bs K=(d_ P AI t BN bs pr).bind (fun q=>K q.1 q.2):=by
 unfold d_
 repeat' split
 all_goals rfl
theorem AE6 (x:SV) (bs:Nat) (K:SV->BH->Option α):AC0 AI x bs K=(AC0 AI x bs pr).bind (fun q=>K q.1 q.2):=by
 unfold AC0;split <;> rfl
theorem hZ (t:TypeId) (len:Nat) (parts:List (Nat×SV)) (BN:Bool) (bs:Nat) (K:SV->BH->Option α):JV P AI t len parts BN bs K=(JV P AI t len parts BN bs pr).bind (fun q=>K q.1 q.2):=by
 unfold JV
 repeat' split
 all_goals rfl
theorem kB (t:TypeId) (l c:SV) (BN:Bool) (bs:Nat) (K:SV->BH->Option α):LV P AI t l c BN bs K=(LV P AI t l c BN bs pr).bind (fun q=>K q.1 q.2):=by
 unfold LV
 repeat' split
 all_goals rfl
theorem vG (ts:List TypeId) (x y:SV) (BN:Bool) (bs:Nat) (K:SV->BH->Option α):XL P AI ts x y BN bs K=(XL P AI ts x y BN bs pr).bind (fun q=>K q.1 q.2):=by
 unfold XL
 repeat' split
 all_goals rfl
theorem AC3 (t:TypeId) (l c:SV) (bs:Nat) (K:SV->BH->Option α):pA P AI t l c bs K=(pA P AI t l c bs pr).bind (fun q=>K q.1 q.2):=by
 unfold pA
 repeat' split
 all_goals rfl
theorem yT (t:TypeId) (len:Nat) (parts:List (Nat×SV)) (bs:Nat) (K:SV->BH->Option α):eB P AI t len parts bs K=(eB P AI t len parts bs pr).bind (fun q=>K q.1 q.2):=by
 unfold eB
 repeat' split
 all_goals rfl
theorem vH (ts:List TypeId) (x y:SV) (bs:Nat) (K:SV->BH->Option α):XK P AI ts x y bs K=(XK P AI ts x y bs pr).bind (fun q=>K q.1 q.2):=by
 unfold XK
 repeat' split
 all_goals rfl
theorem yU (t:TypeId) (len:Nat) (parts:List (Nat×SV)) (bs:Nat) (K:SV->BH->Option α):eA P AI t len parts bs K=(eA P AI t len parts bs pr).bind (fun q=>K q.1 q.2):=by
 unfold eA
 repeat' split
 all_goals rfl
theorem vI (ts:List TypeId) (x y:SV) (BN:Bool) (bs:Nat) (K:SV->BH->Option α):NT P AI ts x y BN bs K=(NT P AI ts x y BN bs pr).bind (fun q=>K q.1 q.2):=by
 unfold NT
 repeat' split
 all_goals rfl
theorem vJ (ρ:Operand->SV) (K:SV->BH->Option α) (op:Op):MA AI ρ K op=(MA AI ρ pr op).bind (fun q=>K q.1 q.2):=by
 unfold MA bD
 repeat' split
 all_goals rfl
theorem yV (t:TypeId) (x:SV) (low high:Option SV) (BN:Bool) (bs:Nat) (K:SV->BH->Option α):eC P AI t x low high BN bs K=(eC P AI t x low high BN bs pr).bind (fun q=>K q.1 q.2):=by
 unfold eC
 repeat' split
 all_goals rfl
theorem yW (t:TypeId) (x i:SV) (K:SV->BH->Option α):eD P AI t x i K=(eD P AI t x i pr).bind (fun q=>K q.1 q.2):=by
 unfold eD AJ4
 repeat' split
 all_goals rfl
theorem RI (fi:FnI) (base:Nat) (args:List SV) (K:SV->BH->Option α):fI fi base AI args K=(fI fi base AI args pr).bind (fun q=>K q.1 q.2):=by
 unfold fI
 split
 ·rfl
 ·split
  ·rfl
  ·split
   ·rfl
   ·split
    ·rw[AFZ];rfl
    ·rfl
theorem AC4 (fi:FnI) (base:Nat) (args:List SV) (K:SV->BH->Option α):o7 fi base AI args K=(o7 fi base AI args pr).bind (fun q=>K q.1 q.2):=by
 unfold o7
 split
 ·exact RI _ _ _ _
 ·split
  ·rw[RI]
   conv=>rhs;arg 1;rw[RI]
   rw[AFZ]
   congr 1
   funext q
   split
   ·split <;> rfl
   ·rfl
  ·rfl
theorem AC5 (fi:FnI) (base:Nat) (args:List SV) (K:SV->BH->Option α):oW fi base AI args K=(oW fi base AI args pr).bind (fun q=>K q.1 q.2):=by
 unfold oW
 split
 ·rfl
 ·split
  ·rfl
  ·split
   ·rfl
   ·split
    ·rw[AFZ]
     congr 1
     funext r
     cases fH (fi.rs++fi.os) r with
     |true=>rfl
     |false=>exact RI _ _ _ _
    ·rfl
theorem AC6 (fi:FnI) (base:Nat) (args:List SV) (K:SV->BH->Option α):o8 fi base AI args K=(o8 fi base AI args pr).bind (fun q=>K q.1 q.2):=by
 unfold o8
 split
 ·rfl
 ·split
  ·rfl
  ·split
   ·rfl
   ·split
    ·rw[AFZ]
     congr 1
     funext r
     split <;> rfl
    ·rfl
theorem pB (d:Bool) (fi:FnI) (base:Nat) (args:List SV) (K:SV->BH->Option α):fL d fi base AI args K=(fL d fi base AI args pr).bind (fun q=>K q.1 q.2):=by
 cases d
 ·unfold fL
  simp only
  split
  ·exact AC4 _ _ _ _
  ·exact AC6 _ _ _ _
 ·exact AC5 _ _ _ _
theorem AE7 (dst:Option Tmp) (ρ:Operand->SV) (K:SV->BH->Option α) (op:Op):vD P cx AI dst ρ K op=(vD P cx AI dst ρ pr op).bind (fun q=>K q.1 q.2):=by
 unfold vD
 split
 ·split
  ·unfold loadT
   repeat' split
   all_goals rfl
  ·exact AC2 _ _ _ _ _
 ·exact yR _ _ _ _
 ·exact yS _ _ _ _
 ·exact AE6 _ _ _
 ·split
  ·exact yU _ _ _ _ _
  ·split
   ·exact yT _ _ _ _ _
   ·exact hZ _ _ _ _ _ _
 ·split
  ·exact AC3 _ _ _ _ _
  ·exact kB _ _ _ _ _ _
 ·exact yV _ _ _ _ _ _ _
 ·exact yW _ _ _ _
 ·repeat' split
  all_goals rfl
 ·split
  ·split
   ·split
    ·exact vH _ _ _ _ _
    ·exact vI _ _ _ _ _ _
   ·exact vG _ _ _ _ _ _
  ·rfl
 ·unfold bB
  split <;> rfl
 ·unfold AAG
  repeat' split
  all_goals rfl
 ·repeat' split
  all_goals rfl
 ·unfold jL
  repeat' split
  all_goals rfl
 ·unfold jM
  repeat' split
  all_goals rfl
 ·split
  ·split
   ·exact pB _ _ _ _ _
   ·split
    ·split
     ·rfl
     ·rename_i q v _
      have:=q.d
      by_cases hp:q.p <;> simp [hp,pr]
     ·rfl
    ·rfl
  ·rfl
 ·rfl
theorem vK (i lo:Nat) (n:Int) (K:SV->BH->Option α):∀ l:List Nat,vF i lo n K l=(vF i lo n pr l).bind (fun q=>K q.1 q.2)
 | []=>rfl
 |j::r=>by
  rw[vF,vF]
  split
  ·rfl
  ·exact vK i lo n K r
theorem pC (n:Int) (K:SV->BH->Option α):∀ l:List (Int×Nat),bC n K l=(bC n pr l).bind (fun q=>K q.1 q.2)
 | []=>rfl
 |(k,f)::r=>by
  rw[bC,bC]
  split
  ·rfl
  ·exact pC n K r
theorem AE8 (dst:Option Tmp) (ρ:Operand->SV) (K:SV->BH->Option α) (op:Op):m9 P cx AI dst ρ K op=(m9 P cx AI dst ρ pr op).bind (fun q=>K q.1 q.2):=by
 unfold m9
 split
 ·unfold qU
  repeat' split
  all_goals rfl
 ·unfold sliceB
  repeat' split
  all_goals rfl
 ·unfold qV
  repeat' split
  all_goals first|rfl|exact vK _ _ _ _ _
 ·repeat' split
  all_goals rfl
 ·unfold qW
  repeat' split
  all_goals rfl
 ·unfold jN
  repeat' split
  all_goals first|rfl|exact pC _ _ _
 ·repeat' split
  all_goals first|rfl|exact pB _ _ _ _ _
 ·unfold AAH
  repeat' split
  all_goals rfl
 ·rfl
theorem bE (dst:Option Tmp) (ρ:Operand->SV) (K:SV->BH->Option α) (op:Op):core P cx AI dst ρ K op=(core P cx AI dst ρ pr op).bind (fun q=>K q.1 q.2):=by
 unfold core
 split
 ·exact vJ _ _ _
 unfold core0
 simp only[AAE]
 split
 ·rfl
 ·rename_i q v _
  have:=q.d
  by_cases hp:q.p <;> simp [hp,pr]
 ·split
  ·exact AE8 _ _ _ _
  ·exact AE7 _ _ _ _
end
end Go.V3
namespace Go.V3
open Go
variable {TB:Tb}
theorem Own.inner {α:Type} {R:α->List Value->Prop} {sz:Nat} {c:B4 TB} {G:Nat->Prop} {w:World} {m:Nm} {xs:List α} (h:Own R sz c G w m xs):DC R sz w m xs:=by
 obtain⟨h1,h2,h3⟩:=h
 exact⟨h1,h2,h3.imp id fun ⟨a,_,_,d,e⟩=>⟨a,d,e⟩⟩
def eF (m:Nm) (l:List Nat):List Nat:=if m.nil=true then l else m.A_::l
theorem IE {m:Nm} {l:List Nat} {b:Nat}:b∈eF m l↔b∈l\/(m.nil=false/\b=m.A_):=by
 unfold eF
 cases hm:m.nil with
 |true=>simp
 |false=>simp [or_comm]
section
variable {P:Program} {L:AE}
theorem C8.put {c:B4 TB} {G:Nat->Prop} {w w' :World} {E E' :Env} {L' :AE} {m:Nm} {l:List Nat} {t:Ty} {xss:List (List t.T)} {h:Option (Nat×Nat)} (d:C8 c G w E L m l t xss h)
  {k:Nat} (hh:∀ k' j',h=some (k',j')->k' =k) (hk:k<xss.length) {nb:Nm} {ys:List t.T} (XG:DC (Rp G w t) t.sz w nb ys)
  (yX:nb.nil=false->nb.A_∉l/\¬G nb.A_/\¬c.Old nb.A_) (hw:∀ b,b≠m.A_->w'.heap[b]? =w.heap[b]?)
  (AJ6:∀ arr ty,m.nil=false->w.heap[m.A_]? =some (.cells arr ty (0,0))->k<arr.size->∃ xQ,w'.heap[m.A_]? =some (.cells (arr.setIfInBounds k (.slice nb.ad nb.len nb.cap)) xQ (0,0))):
  C8 c G w' E' L' m (eF nb l) t (xss.set k ys) none:=by
 obtain⟨d1,d2,d3,d4,d5⟩:=d
 rcases d5 with ⟨h1,h2,h3⟩|⟨h1,h2,h3,arr,ty,hs,h4,h5,h6,h7,h8,h9⟩
 ·rw[h2] at hk;simp at hk
 obtain⟨xQ,k4⟩:=AJ6 arr ty h1 h4 (by omega)
 have hG:∀ b,G b->w'.heap[b]? =w.heap[b]? :=fun b hb=>hw b (fun he=>(d4 _ h2).1 (he ▸ hb))
 have pD:∀ (x:t.T) (vs:List Value),Rp G w t x vs->Rp G w' t x vs:=fun x vs hx=>Rp.mono hG (fun _ h=>h) t x vs hx
 have KF:nb.nil=false->nb.A_≠m.A_:=fun hn he=>(yX hn).1 (he ▸ h2)
 have JM:(eF nb l).Nodup:=by
  unfold eF
  split
  ·exact d3
  ·rename_i hn
   exact hJ.2 ⟨(yX (by simpa using hn)).1,d3⟩
 have IF:∀ k',k' ≠k->∀ j,h≠some (k',j):=fun k' h_ j he=>h_ (hh k' j he)
 refine⟨by rw[SR];exact d1,d2,JM, ?_,.inr ⟨h1,IE.2 (.inl h2),by rw[SR];exact h3,_,xQ,fun k' =>if k' =k then nb else hs k',k4,by rw[Array.size_setIfInBounds];exact h5, ?_, ?_, ?_, ?_⟩⟩
 ·intro b hb
  rcases IE.1 hb with hb|⟨hn,rfl⟩
  ·obtain⟨q1,q2,q3⟩:=d4 b hb
   refine⟨q1,q2, ?_⟩
   by_cases hbm:b=m.A_
   ·subst hbm;exact⟨_,_,_,k4⟩
   ·rw[hw b hbm];exact q3
  ·obtain⟨q1,q2,q3⟩:=yX hn
   refine⟨q2,q3, ?_⟩
   obtain⟨p1,p2,p3⟩:=XG
   rcases p3 with ⟨p4,_⟩|⟨_,_,UZ,AR3,p6,_⟩
   ·rw[hn] at p4;cases p4
   ·rw[hw _ (KF hn)];exact⟨_,_,_,p6⟩
 ·intro k' OA
  rw[SR] at OA
  dsimp only
  rw[xV]
  by_cases h_:k' =k
  ·subst h_
   rw[BQ rfl,BQ (by omega),BQ rfl]
  ·rw[BC (fun he=>h_ he.symm),BC h_]
   exact h6 k' OA
 ·intro k' xs OA _
  rw[xY] at OA
  dsimp only
  by_cases h_:k' =k
  ·subst h_
   rw[BQ rfl,BQ hk] at OA
   simp only[AR] at OA;subst OA
   rw[BQ rfl]
   exact⟨XG.mono pD (fun hn=>hw _ (KF hn)),fun hn=>⟨IE.2 (.inr ⟨hn,rfl⟩),KF hn⟩⟩
  ·rw[BC (fun he=>h_ he.symm)] at OA
   rw[BC h_]
   obtain⟨q1,q2⟩:=h7 k' xs OA (IF k' h_)
   exact⟨q1.mono pD (fun hn=>hw _ (q2 hn).2),fun hn=>⟨IE.2 (.inl (q2 hn).1),(q2 hn).2⟩⟩
 ·intro a b ha hb hab _ _ qX yY
  rw[SR] at ha hb
  dsimp only at qX yY ⊢
  have key:∀ k',k' <xss.length->k' ≠k->(hs k').nil=false->(hs k').A_∈l:=fun k' OA h_ hn=>((h7 k' _ (KA OA) (IF k' h_)).2 hn).1
  by_cases hak:a=k
  ·have tN:b≠k:=fun he=>hab (hak.trans he.symm)
   rw[BQ hak] at qX
   rw[BC tN] at yY
   rw[BQ hak,BC tN]
   intro he
   exact (yX qX).1 (he ▸ key b hb tN yY)
  ·rw[BC hak] at qX
   rw[BC hak]
   by_cases tN:b=k
   ·rw[BQ tN] at yY
    rw[BQ tN]
    intro he
    exact (yX yY).1 (he ▸ key a ha hak qX)
   ·rw[BC tN] at yY
    rw[BC tN]
    exact h8 a b ha hb hab (IF a hak) (IF b tN) qX yY
 ·intro k' j he;cases he
theorem AK.AL5 {c:B4 TB} {G:Nat->Prop} {w w' :World} {E:Env} (hH:AK c G w E L) {i j k:Nat} {t:Ty} {xss:List (List t.T)} {ys:List t.T} {h:Option (Nat×Nat)} (hi:look L i=some (.deep t xss h)) (hj:look L j=some (.row t ys))
  (hh:∀ k' j',h=some (k',j')->k' =k) (hk:k<xss.length) (hr:Rest w w') (hs:w'.heap.size=w.heap.size) (hw:∀ b,b≠(E.nm i).A_->w'.heap[b]? =w.heap[b]?)
  (AJ6:∀ arr ty,(E.nm i).nil=false->w.heap[(E.nm i).A_]? =some (.cells arr ty (0,0))->k<arr.size->∃ xQ,w'.heap[(E.nm i).A_]? =some (.cells (arr.setIfInBounds k (.slice (E.nm j).ad (E.nm j).len (E.nm j).cap)) xQ (0,0))):
  AK c G w' (E.M7 i (E.nm i) (eF (E.nm j) (E.ins.l i))) (AD L [(j,.dead),(i,.deep t (xss.set k ys) none)]):=by
 have dM:i≠j:=by
  rintro rfl;rw[hi] at hj;cases hj
 have RJ:=hH.kill (AJ hj)
 have A8:=fun n=>AT (q:=(j,AO.dead)) (AJ hj) n
 have hi1:look (BS L (j,.dead)) i=some (.deep t xss h):=by rw[A8,BC dM];exact hi
 have hd:=hH.dp i t xss h hi
 have DV:=hH.F0 j _ hj
 have hjb:∀ b,((E.nm j).nil=false/\b=(E.nm j).A_)->(AO.row t ys).ow E j b:=by
  rintro b ⟨hn,rfl⟩
  exact .inl (by simp [AO.own,hn])
 have yX:(E.nm j).nil=false->(E.nm j).A_∉E.ins.l i/\¬G (E.nm j).A_/\¬c.Old (E.nm j).A_:=by
  intro hn
  have h1:=hjb _ ⟨hn,rfl⟩
  have h2:=hH.KE hj h1
  exact⟨fun hx=>hH.inj i j _ _ _ dM hi hj (AO.C9.2 hx) h1,h2.1,h2.2.1⟩
 have AE9:C8 c G w' (E.M7 i (E.nm i) (eF (E.nm j) (E.ins.l i))) (BS (BS L (j,.dead)) (i,.deep t (xss.set k ys) none)) (E.nm i) (eF (E.nm j) (E.ins.l i)) t (xss.set k ys) none:=
  hd.put hh hk DV.inner yX hw AJ6
 have U_:∀ b,(AO.deep t (xss.set k ys) none).ow (E.M7 i (E.nm i) (eF (E.nm j) (E.ins.l i))) i b↔b∈eF (E.nm j) (E.ins.l i):=by
  intro b
  rw[AO.C9,(E.CQ _ _ _).2]
 have hmi:∀ b,b<w.heap.size->b∉eF (E.nm j) (E.ins.l i)->w'.heap[b]? =w.heap[b]? :=by
  intro b hb hn
  refine hw b (fun he=> ?_)
  rcases hd.cs with ⟨h1,h2,_⟩|⟨_,h2,_⟩
  ·rw[h2] at hk;simp at hk
  ·exact hn (IE.2 (.inl (he ▸ h2)))
 exact RJ.NR (AJ hi1) hr (by omega) (fun _=>(E.CQ _ _ _).1) (fun k hk=>E.IS _ _ hk) rfl (fun b hb hn=>hmi b hb (fun hx=>hn ((U_ b).2 hx)))
  (fun b hb=>by
   rcases IE.1 ((U_ b).1 hb) with hx|hx
   ·have:=hH.KE hi (AO.C9.2 hx);exact⟨this.2.1,this.1⟩
   ·have:=hH.KE hj (hjb b hx);exact⟨this.2.1,this.1⟩)
  (fun k f hk hf b hb he=>by
   rw[A8] at hf
   by_cases hkj:k=j
   ·subst hkj
    simp only[GJ,AR] at hf;subst hf
    rcases hb with hb|⟨hb,_⟩|⟨hb,_⟩ <;> cases hb
   ·rw[BC hkj] at hf
    rcases IE.1 ((U_ b).1 he) with hx|hx
    ·exact hH.inj k i f _ b hk hf hi hb (AO.C9.2 hx)
    ·exact hH.inj k j f _ b hkj hf hj hb (hjb b hx))
  trivial
  (fun t' xs' q he=>by
   cases he
   rw[(E.CQ _ _ _).1,(E.CQ _ _ _).2]
   exact AE9)
theorem XM {AI:Nat->Option AO} (A8:∀ n e,AI n=some e->look L n=some e) {c:B4 TB} {G:Nat->Prop} {w:World} {E:Env} (hH:AK c G w E L) {i:Nat} {t:Ty} {xss ys:List (List t.T)} {h:Option (Nat×Nat)} {u:BH} (hi:AI i=some (.deep t xss h))
  (hc:dY AI i t xss h=some (ys,u)):∃ E',AK c G w E' (AD L u)/\(∀ n,E'.nm n=E.nm n)/\E'.ds=E.ds/\look (AD L u) i=some (.deep t ys none)/\(∀ n,Al L n->Al (AD L u) n)/\(∀ n,look L n=some .HP->look (AD L u) n=some .HP)/\ys.length=xss.length:=by
 have u7 :=A8 _ _ hi
 unfold dY at hc
 split at hc
 ·simp only[AR,BP] at hc
  obtain⟨rfl,rfl⟩:=hc
  exact⟨E,hH,fun _=>rfl,rfl,u7,fun _ h=>h,fun _ h=>h,rfl⟩
 ·rename_i k j
  split at hc
  rotate_left
  ·cases hc
  rename_i t' zs hl
  split at hc
  rotate_left
  ·cases hc
  rename_i he
  subst he
  simp only[AR,BP] at hc
  obtain⟨rfl,rfl⟩:=hc
  have hj:=A8 _ _ hl
  have hd:=hH.dp i _ xss _ u7
  have dM:i≠j:=by
   rintro rfl;rw[u7] at hj;cases hj
  have fin:∀ l' :List Nat,AK c G w (E.M7 i (E.nm i) l') (AD L [(j,.dead),(i,.deep t' (xss.set k zs) none)])->∃ E',AK c G w E' (AD L [(j,.dead),(i,.deep t' (xss.set k (D3 rfl zs)) none)])/\(∀ n,E'.nm n=E.nm n)/\E'.ds=E.ds/\look (AD L [(j,.dead),(i,.deep t' (xss.set k (D3 rfl zs)) none)]) i=some (.deep t' (xss.set k (D3 rfl zs)) none)/\(∀ n,Al L n->Al (AD L [(j,.dead),(i,.deep t' (xss.set k (D3 rfl zs)) none)]) n)/\(∀ n,look L n=some .HP->look (AD L [(j,.dead),(i,.deep t' (xss.set k (D3 rfl zs)) none)]) n=some .HP)/\(xss.set k (D3 rfl zs)).length=xss.length:=by
   intro l' h1
   have AGY:=fun n=>AT (q:=(j,AO.dead)) (AJ hj) n
   have hi1:look (BS L (j,.dead)) i=some (.deep t' xss (some (k,j))):=by rw[AGY,BC dM];exact u7
   have AL6:=fun n=>AT (q:=(i,AO.deep t' (xss.set k zs) none)) (AJ hi1) n
   refine⟨_,h1,fun n=> ?_,rfl, ?_,fun n hn=> ?_,fun n hn=> ?_,by simp⟩
   ·by_cases hn:n=i
    ·subst hn;exact (E.CQ _ _ _).1
    ·exact (E.IS _ _ hn).1
   ·exact (AL6 i).trans (BQ rfl)
   ·exact A1 rfl n (A1 rfl n hn)
   ·show look (BS (BS L (j,.dead)) _) n=_
    have h1:n≠i:=by rintro rfl;rw[u7] at hn;cases hn
    have h2:n≠j:=by rintro rfl;rw[hj] at hn;cases hn
    exact ((AL6 n).trans (BC h1)).trans (((AGY n).trans (BC h2)).trans hn)
  by_cases hk:k<xss.length
  ·refine fin _ (hH.AL5 u7 hj (fun k' j' he=>by cases he;rfl) hk (.refl _) rfl (fun _ _=>rfl) (fun arr ty hn ha hka=>⟨ty, ?_⟩))
   rcases hd.cs with ⟨h1,_⟩|⟨h1,h2,h3,UZ,xQ,hs,h4,h5,h6,h7,h8,h9⟩
   ·rw[hn] at h1;cases h1
   rw[h4] at ha
   simp only[AR,Obj.cells.injEq] at ha
   obtain⟨rfl,rfl,_⟩:=ha
   have hx:=h6 k hk
   rw[(h9 k j rfl hk).1] at hx
   rw[h4]
   congr 2
   apply ADA
   intro q
   rw[xV]
   split
   ·rename_i hq;subst hq;first|exact hx|(rw[BQ hka];exact hx)
   ·rfl
  ·
   have RJ:=hH.kill (AJ hj)
   have AGY:=fun n=>AT (q:=(j,AO.dead)) (AJ hj) n
   have hi1:look (BS L (j,.dead)) i=some (.deep t' xss (some (k,j))):=by rw[AGY,BC dM];exact u7
   have RK:xss.set k zs=xss:=List.set_eq_of_length_le (by omega)
   refine fin (E.ins.l i) ?_
   rw[RK]
   have U_:∀ b,(AO.deep t' xss none).ow (E.M7 i (E.nm i) (E.ins.l i)) i b↔b∈E.ins.l i:=fun b=>by rw[AO.C9,(E.CQ _ _ _).2]
   refine RJ.NR (AJ hi1) (.refl _) (HE _) (fun _=>(E.CQ _ _ _).1) (fun k hk=>E.IS _ _ hk) rfl (fun _ _ _=>rfl)
    (fun b hb=>by have:=hH.KE u7 (AO.C9.2 ((U_ b).1 hb));exact⟨this.2.1,this.1⟩)
    (fun n f hn hf b hb he=>RJ.inj n i f _ b hn hf hi1 hb (AO.C9.2 ((U_ b).1 he))) trivial ?_
   intro t'' xs' q he
   cases he
   rw[(E.CQ _ _ _).1,(E.CQ _ _ _).2]
   obtain⟨d1,d2,d3,d4,d5⟩:=hd
   refine⟨d1,d2,d3,d4,d5.imp id ?_⟩
   rintro⟨h1,h2,h3,UZ,xQ,hs,h4,h5,h6,h7,h8,h9⟩
   have IF:∀ k',k' <xss.length->∀ j',some (k,j)≠some (k',j'):=fun k' OA j' he=>by
    simp only[AR,BP] at he;omega
   refine⟨h1,h2,h3,UZ,xQ,hs,h4,h5,h6,fun k' xs OA _=> ?_,fun a b ha hb hab _ _=>h8 a b ha hb hab (IF a ha) (IF b hb),fun k' j' he=>by cases he⟩
   have CP:k' <xss.length:=by
    rcases GR k' xss.length with h' |h'
    ·exact h'
    ·rw[N8 h'] at OA;cases OA
   exact h7 k' xs OA (IF k' CP)
theorem AK.AHU {c:B4 TB} {G:Nat->Prop} {w:World} {E:Env} (hH:AK c G w E L) {i k bs:Nat} {t:Ty} {xss:List (List t.T)} (hi:look L i=some (.deep t xss none)) (hb:look L bs=some .HP) (hn:(E.nm i).nil=false) (hk:k<xss.length):
  ∃ E',AK c G w E' (AD L [(bs,.dead),(i,.deep t xss (some (k,bs))),(bs,.row t (xss.getD k []))])/\(∀ n,n≠bs->E'.nm n=E.nm n)/\E'.ds=E.ds∧
   ∃ arr ty,w.heap[(E.nm i).A_]? =some (.cells arr ty (0,0))/\arr[k]? =some (.slice (E'.nm bs).ad (E'.nm bs).len (E'.nm bs).cap):=by
 have hib:i≠bs:=by rintro rfl;rw[hi] at hb;cases hb
 have hd:=hH.dp i _ xss _ hi
 obtain⟨d1,d2,d3,d4,d5⟩:=hd
 rcases d5 with ⟨h1,_⟩|⟨h1,h2,h3,arr,ty,hs,h4,h5,h6,h7,h8,h9⟩
 ·rw[hn] at h1;cases h1
 have IF:∀ k' j,(none:Option (Nat×Nat))≠some (k',j):=fun _ _ he=>by cases he
 have s1:=hH.change (i:=bs) (e' := .dead) (m:=hs k) (w' :=w) (AJ hb) (.refl _) (HE _) (fun hx=>absurd hx (CJ hb)) rfl (fun _ _ _=>rfl) (fun b hb=>by cases hb) (fun _ _ _ _ _ _ hb=>by cases hb) (fun _=>trivial)
 have hl1:=fun n=>AT (q:=(bs,AO.dead)) (AJ hb) n
 have hi1:look (BS L (bs,.dead)) i=some (.deep t xss none):=by rw[hl1,BC hib];exact hi
 have ABX:Al (BS L (bs,.dead)) bs:=⟨.dead,by rw[hl1,BQ rfl],rfl⟩
 let l' :List Nat:=if (hs k).nil=true then E.ins.l i else (E.ins.l i).erase (hs k).A_
 have X0:∀ b∈l',b∈E.ins.l i:=by
  intro b hb
  show b∈E.ins.l i
  simp only[l'] at hb
  split at hb
  ·exact hb
  ·exact List.mem_of_mem_erase hb
 have VH:∀ b∈E.ins.l i,((hs k).nil=false->b≠(hs k).A_)->b∈l' :=by
  intro b hb KF
  simp only[l']
  split
  ·exact hb
  ·rename_i hx
   exact (List.mem_erase_of_ne (KF (by simpa using hx))).2 hb
 have ANK:(hs k).nil=false->(hs k).A_∉l' :=by
  intro hx hm
  simp only[l',hx,XU,Q_] at hm
  exact (d3.mem_erase_iff.1 hm).1 rfl
 obtain⟨XG,AGZ⟩:=h7 k _ (KA hk) (IF k)
 have hEi:(E.set bs (hs k)).nm i=E.nm i:=E.DR _ hib
 let E2:Env:=(E.set bs (hs k)).M7 i (E.nm i) l'
 have hE2:∀ n,n≠bs->E2.nm n=E.nm n:=by
  intro n yX
  by_cases M8:n=i
  ·subst M8;exact (Env.CQ _ _ _ _).1
  ·exact ((Env.IS _ _ _ M8).1).trans (E.DR _ yX)
 have AH0:E2.nm bs=hs k:=((Env.IS _ _ _ (fun he=>hib he.symm)).1).trans (E.B6 _ _)
 have AL7:E2.ins.l i=l' :=(Env.CQ _ _ _ _).2
 have AL8:E2.nm i=E.nm i:=(Env.CQ _ _ _ _).1
 have U_:∀ b,(AO.deep t xss (some (k,bs))).ow E2 i b↔b∈l' :=fun b=>by rw[AO.C9,AL7]
 have AE9:C8 c G w E2 (BS (BS L (bs,.dead)) (i,.deep t xss (some (k,bs)))) (E2.nm i) (E2.ins.l i) t xss (some (k,bs)):=by
  rw[AL8,AL7]
  refine⟨d1,d2, ?_,fun b hb=>d4 b (X0 b hb),.inr ⟨h1,VH _ h2 (fun hx he=>(AGZ hx).2 he.symm),h3,arr,ty,hs,h4,h5,h6, ?_, ?_, ?_⟩⟩
  ·simp only[l']
   split
   ·exact d3
   ·exact d3.erase _
  ·intro k' xs OA hj
   have h_:k' ≠k:=by rintro rfl;exact hj bs rfl
   have CP:k' <xss.length:=by
    rcases GR k' xss.length with h' |h'
    ·exact h'
    ·rw[N8 h'] at OA;cases OA
   obtain⟨q1,q2⟩:=h7 k' xs OA (IF k')
   exact⟨q1,fun hx=>⟨VH _ (q2 hx).1 (fun hy=>h8 k' k CP hk h_ (IF _) (IF _) hx hy),(q2 hx).2⟩⟩
  ·intro a b ha hb hab _ _
   exact h8 a b ha hb hab (IF _) (IF _)
  ·intro k' j he _
   simp only[AR,BP] at he
   obtain⟨rfl,rfl⟩:=he
   exact⟨AH0.symm,A1 rfl _ ABX⟩
 have s2:AK c G w E2 (BS (BS L (bs,.dead)) (i,.deep t xss (some (k,bs)))):=by
  refine s1.NR (AJ hi1) (.refl _) (HE _) (fun _=>by rw[AL8,hEi]) (fun n M8=>Env.IS _ _ _ M8) rfl (fun _ _ _=>rfl)
   (fun b hb=>by have:=d4 b (X0 b ((U_ b).1 hb));exact⟨this.2.1,this.1⟩)
   (fun n f M8 hf b hb he=>s1.inj n i f _ b M8 hf hi1 hb (AO.C9.2 (X0 b ((U_ b).1 he)))) trivial ?_
  intro t'' xs' q he
  cases he
  exact AE9
 have j4:=fun n=>AT (q:=(i,AO.deep t xss (some (k,bs)))) (AJ hi1) n
 have hb2:look (BS (BS L (bs,.dead)) (i,.deep t xss (some (k,bs)))) bs=some .dead:=by rw[j4,BC (fun he=>hib he.symm),hl1,BQ rfl]
 have hi2:look (BS (BS L (bs,.dead)) (i,.deep t xss (some (k,bs)))) i=some (.deep t xss (some (k,bs))):=by rw[j4,BQ rfl]
 have RK:E2.set bs (hs k)=E2:=by
  refine GW (fun n=> ?_) rfl (fun _=>rfl)
  by_cases yX:n=bs
  ·subst yX;rw[Env.B6,AH0]
  ·exact Env.DR _ _ yX
 have hgk:xss.getD k []=xss[k]:=by simp [List.getD,KA hk]
 have s3:=s2.change (i:=bs) (e' := .row t (xss.getD k [])) (m:=hs k) (w' :=w) (AJ hb2) (.refl _) (HE _) (fun _=>AH0.symm) rfl (fun _ _ _=>rfl)
  (fun b hb=>by
   simp only[AO.own] at hb
   split at hb
   ·cases hb
   ·rename_i hx
    simp only[AR] at hb;subst hb
    have:=d4 _ (AGZ (by simpa using hx)).1
    exact⟨this.2.1,this.1⟩)
  (fun n f yX hf b hb he=>by
   simp only[AO.own] at he
   split at he
   ·cases he
   rename_i hx
   have hx:(hs k).nil=false:=by simpa using hx
   simp only[AR] at he;subst he
   by_cases M8:n=i
   ·subst M8
    rw[hi2] at hf
    simp only[AR] at hf;subst hf
    exact ANK hx ((U_ _).1 hb)
   ·rw[j4,BC M8,hl1,BC yX] at hf
    have W_ :f.ow E n (hs k).A_:=by
     refine (AO.XF ?_).1 hb
     exact⟨hE2 n yX,(Env.IS _ _ _ M8).2⟩
    exact hH.inj n i f _ _ M8 hf hi W_ (AO.C9.2 (AGZ hx).1))
  (fun _=>by
   rw[hgk]
   obtain⟨p1,p2,p3⟩:=XG
   refine⟨p1,p2,p3.imp id ?_⟩
   rintro⟨p4,p5,p6⟩
   have:=d4 _ (AGZ p4).1
   exact⟨p4,this.1,this.2.1,p5,p6⟩)
 rw[RK] at s3
 exact⟨E2,s3,hE2,rfl,arr,ty,h4,by rw[AH0];exact h6 k hk⟩
end
end Go.V3
namespace Go.V3
open Go
variable {TB:Tb}
def BX (TB:Tb) (P:Program) (o:Oper) (ρ:Operand->SV) (L:AE) (v:SV) (BF:BH):Prop:=
 ∀ (c:B4 TB) (w:World) (E:Env),Hd c w E L->(∀ x,(ρ x).wf E L)->∀ (a:Act) (next:Act->World->Prop) (Q:Exit->Act->World->Prop),execOp a.eval o=execOp (fun x=>(ρ x).den E) o→
  (∀ E' w',Hd c w' E' (AD L BF)->(∀ n,Al L n->E'.nm n=E.nm n/\Al (AD L BF) n)->E'.ds=E.ds->v.wf E' (AD L BF)->next (a.put o.dst (v.den E')) w')->o.wp P a w next Q
theorem AU {P:Program} {o:Oper} {ρ:Operand->SV} {L:AE} {v:SV} {BF:BH}
  (h:∀ (c:B4 TB) (w:World) (E:Env),Hd c w E L->(∀ x,(ρ x).wf E L)->∃ (w' :World) (E' :Env) (nx:Next),(execOp (fun x=>(ρ x).den E) o).run P w= .ok nx w' /\(nx= .value (v.den E')\/(nx= .skip/\v=AQ))∧
   Hd c w' E' (AD L BF)/\(∀ n,Al L n->E'.nm n=E.nm n/\Al (AD L BF) n)/\E'.ds=E.ds/\v.wf E' (AD L BF)):BX TB P o ρ L v BF:=by
 intro c w E hh hw a next Q ha hn
 obtain⟨w',E',nx,h1,h2,h3,h4,h5,h6⟩:=h c w E hh hw
 show o.upon P a next Q ((execOp a.eval o).run P w)
 rw[ha,h1]
 rcases h2 with rfl|⟨rfl,rfl⟩
 ·exact hn E' w' h3 h4 h5 h6
 ·exact hn E' w' h3 h4 h5 h6
section
variable {P:Program} {AI:Nat->Option AO} {L:AE}
theorem VP (E:Env) (cs:List SV) (off n:Nat):AH E ((cs.drop off).take n)=A4 (AH E cs).toArray off n:=by
 unfold A4
 simp [CX,List.map_take,List.map_drop]
theorem QI {E:Env} {cs:List SV} (h:GV E L cs) (off n:Nat):GV E L ((cs.drop off).take n):=
 A3.2 fun v hv=>A3.1 h v (AFV (AFU hv))
theorem bF {w:World} {b off:Nat} {t:TypeId} {q:TypeInfo} {d:TypeDesc} {arr:Array Value} {ty:TypeId} {fz:Nat×Nat} (hq:P.info? t=some q) (hd:P.underlying t=some d) (ha:FI P t=true)
  (h:w.heap[b]? =some (.cells arr ty fz)) (hn:off+q.size<=arr.size):(Instr.loadAt t (.pointer (some ⟨b,off,none⟩))).run P w= .ok (.agg (A4 arr off q.size).toArray) w:=by
 have:=run_loadCells (P:=P) w h hn
 simp [Instr.loadAt,Instr.sureAddr,loadVar,H_ w hd,ha,sizeOf,typeInfo,hq,this]
theorem GY {w:World} {b off:Nat} {t:TypeId} {d:TypeDesc} {arr:Array Value} {ty:TypeId} {fz:Nat×Nat} {x:Value} (hd:P.underlying t=some d) (ha:FI P t=false)
  (h:w.heap[b]? =some (.cells arr ty fz)) (hx:arr[off]? =some x):(Instr.loadAt t (.pointer (some ⟨b,off,none⟩))).run P w= .ok x w:=by
 have:w.cell? ⟨b,off,none⟩=some x:=by simp [World.cell?,h,hx]
 simp [Instr.loadAt,Instr.sureAddr,loadVar,H_ w hd,ha,this]
theorem Nm.kC (m:Nm) (l:List Value):(m.arr l).size=m.pp.pre.length+l.length+m.pp.post.length:=by simp [Nm.arr];omega
theorem Nm.qY {m:Nm} (l:List Value) (h1:m.pp.pre=[]) (h2:m.pp.post=[]):m.arr l=l.toArray:=by simp [Nm.arr,h1,h2]
theorem Nm.qZ (m:Nm) {l:List Value} {k:Nat} (hk:k<l.length):(m.arr l)[m.pp.pre.length+k]? =l[k]? :=by
 simp only[Nm.arr,g_]
 rw[hD,OG (by omega),QE (by omega)]
 congr 1;omega
theorem Nm.pE (m:Nm) {l:List Value} {off n:Nat} (h:off+n<=l.length):A4 (m.arr l) (m.pp.pre.length+off) n=A4 l.toArray off n:=by
 apply Q8
 intro i
 unfold A4
 rw[hC,hC]
 split
 ·rename_i hi
  have h1:=m.qZ (l:=l) (k:=off+i) (by omega)
  rw[Y8,Y8]
  rw[<-I6] at h1
  simpa using h1
 ·rfl
theorem Nm.AH1 (m:Nm) {l:List Value} {k:Nat} (hk:k<l.length) (v:Value):(m.arr l).setIfInBounds (m.pp.pre.length+k) v=m.arr (l.set k v):=by
 simp only[Nm.arr,List.setIfInBounds_toArray]
 rw[hD,List.set_append_right _ _ (by omega),List.set_append_left _ _ (by omega),hD]
 congr 4;omega
theorem AJ7 {a:Ty} {xs:List a.T} {k:Nat} (h:k<xs.length):xs[k]? =some (gd a xs k):=by
 rw[gd,KA h]
 simp [List.getD,KA h]
theorem vL (arr:Array Value) (p sz off n:Nat) (h:off+n<=sz):((A4 arr p sz).drop off).take n=A4 arr (p+off) n:=by
 apply Q8
 intro j
 rw[hC,BE]
 split
 ·rw[Y8,BE,BQ (by omega),I6]
 ·rfl
theorem fO {arr:Array Value} {p n:Nat} (h:(A4 arr p n).length=n) (hn:0<n):p+n<=arr.size:=by
 unfold A4 at h
 simp at h
 omega
theorem AAJ {c:B4 TB} {G:Nat->Prop} {w:World} {E:Env} (hG:AK c G w E L) {i k:Nat} {a:Ty} {xs:List a.T} (hl:look L i=some (.row a xs)\/look L i=some (.shr a xs)) (hk:k<(E.nm i).len) (hn:(E.nm i).nil=false):
  k<xs.length/\∃ arr ty fz,w.heap[(E.nm i).A_]? =some (.cells arr ty fz)/\Rp G w a (gd a xs k) (A4 arr ((E.nm i).off+k*a.sz) a.sz)/\(E.nm i).off+k*a.sz+a.sz<=arr.size:=by
 have fin:∀ (arr:Array Value) (ty:TypeId) (fz:Nat×Nat),k<xs.length->w.heap[(E.nm i).A_]? =some (.cells arr ty fz)->RowsIn (Rp G w a) a.sz arr (E.nm i).off xs→
   k<xs.length/\∃ arr ty fz,w.heap[(E.nm i).A_]? =some (.cells arr ty fz)/\Rp G w a (gd a xs k) (A4 arr ((E.nm i).off+k*a.sz) a.sz)/\(E.nm i).off+k*a.sz+a.sz<=arr.size:=by
  intro arr ty fz aI h1 h2
  have h3:=h2 k _ (AJ7 aI)
  exact⟨aI,arr,ty,fz,h1,h3,fO h3.length (yD a)⟩
 rcases hl with hl|hl
 ·obtain⟨h1,h2,h3⟩:=hG.F0 i _ hl
  rcases h3 with ⟨h4,_⟩|⟨_,_,_,_,arr,ty,h5,_,h6⟩
  ·rw[hn] at h4;cases h4
  ·exact fin arr ty _ (by omega) h5 h6
 ·obtain⟨h1,_,h3⟩:=hG.F0 i _ hl
  rcases h3 with rfl|⟨_,_,arr,ty,fz,h5,h6⟩
  ·simp at h1;omega
  ·exact fin arr ty fz (by omega) h5 h6
theorem pF {o:Oper} {ρ:Operand->SV} {t:TypeId} {x:Operand} (CD:o.op= .load t x) {q:TypeInfo} {d:TypeDesc} (hq:P.info? t=some q) (hd:P.underlying t=some d) {i k sz off bs:Nat} (hx:ρ x= .el i k sz off)
  {a:Ty} {xs:List a.T} (hl:look L i=some (.row a xs)\/look L i=some (.shr a xs)) (A8:∀ n e,AI n=some e->look L n=some e) {v:SV} {BF:BH}
  (h:ZM AI (FI P t) q.size a xs k sz off bs pr=some (v,BF)):BX TB P o ρ L v BF:=by
 unfold ZM at h
 split at h
 rotate_left
 ·cases h
 rename_i hc
 obtain⟨rfl,ZD,BV⟩:=hc
 refine AU fun c w E hh hw=> ?_
 obtain⟨G,hG⟩:=hh
 have NL:=hw x
 rw[hx] at NL
 obtain⟨I8,hk,hn⟩:=NL
 obtain⟨aI,arr,ty,fz,h1,h2,h3⟩:=AAJ hG hl hk hn
 obtain⟨ms,h4,h5⟩:=h2.out
 have o0:=fun j hj=>A8 _ _ (BI BV j hj)
 obtain⟨k1,k2⟩:=hG.aR (A7 false a (gd a xs k)) (n:=bs) (ms:=ms) (fun j hj=>o0 j (by rw[AW] at hj;exact hj)) (by
   intro j e he
   have:=h5 j e he
   cases e <;> first|exact this|exact this.elim)
  (by rw[dW];simp) (by rw[dW];simp)
 rw[AW] at k1 k2
 have hnm:∀ n,Al L n->(E.put bs a.EG ms).nm n=E.nm n/\Al (AD L (BL bs (A7 false a (gd a xs k)))) n:=by
  intro n hn
  have hb:¬(bs<=n/\n<bs+a.EG):=by
   intro hx
   have:=o0 (n-bs) (by omega)
   have e:bs+(n-bs)=n:=by omega
   rw[e] at this
   exact CJ this hn
  refine⟨Env.PX _ _ _ _ (by omega), ?_⟩
  obtain⟨e,oT,he2⟩:=hn
  exact⟨e,by rw[k2,BC hb];exact oT,he2⟩
 have fG:GV (E.put bs a.EG ms) (AD L (BL bs (A7 false a (gd a xs k)))) (E3 a (gd a xs k) bs):=by
  refine j3 _ _ _ fun j hj=> ?_
  have CP:j<(A7 false a (gd a xs k)).length:=by rw[AW];exact hj
  refine⟨(A7 false a (gd a xs k))[j], ?_,RA (KA CP)⟩
  rw[k2,BQ ⟨by omega,by omega⟩]
  have e:bs+j-bs=j:=by omega
  rw[e,KA CP]
 have VL:AH (E.put bs a.EG ms) (E3 a (gd a xs k) bs)=A4 arr ((E.nm i).off+k*a.sz) a.sz:=by
  rw[h4,SZ]
  exact E5 _ _ fun j hj=>Env.ZH _ _ _ _ hj
 have AHV:(E.nm i).off+(k*a.sz+off)=(E.nm i).off+k*a.sz+off:=by omega
 split at h
 ·rename_i RL
  simp only[pr,AR,BP] at h
  obtain⟨rfl,rfl⟩:=h
  refine⟨w,E.put bs a.EG ms,_, ?_,.inl rfl,⟨G,k1⟩,hnm,rfl,QI fG _ _⟩
  simp only[execOp,CD,hx,SV.den]
  refine BB ?_
  rw[AHV,bF hq hd RL h1 (by omega),VP,VL]
  rw[<-vL arr _ a.sz off q.size ZD]
  unfold A4
  simp
 ·rename_i RL
  split at h
  ·rename_i u hu
   simp only[pr,AR,BP] at h
   obtain⟨rfl,rfl⟩:=h
   refine⟨w,E.put bs a.EG ms,_, ?_,.inl rfl,⟨G,k1⟩,hnm,rfl,A3.1 fG u (UY hu)⟩
   simp only[execOp,CD,hx,SV.den]
   refine BB ?_
   have CP:off<a.sz:=by
    rcases GR off (E3 a (gd a xs k) bs).length with h' |h'
    ·rwa [CW] at h'
    ·rw[N8 h'] at hu;cases hu
   have MM:arr[(E.nm i).off+k*a.sz+off]? =some (u.den (E.put bs a.EG ms)):=by
    have:=ZA (fun l=>l[off]?) VL
    simp only[C5,hu,XW,BE,BQ CP] at this
    exact this.symm
   rw[AHV]
   exact GY hd RL h1 MM
  ·cases h
theorem AEA {o:Oper} {ρ:Operand->SV} {t:TypeId} {x:Operand} (CD:o.op= .load t x) {d:TypeDesc} (hd:P.underlying t=some d) (RL:FI P t=false) {i k sz off bs:Nat} (hx:ρ x= .el i k sz off)
  {a:Ty} {xss:List (List a.T)} {h' :Option (Nat×Nat)} (hl:AI i=some (.deep a xss h')) (A8:∀ n e,AI n=some e->look L n=some e) {v:SV} {BF:BH}
  {deep:Bool} (h:o9 AI deep a xss h' i k sz off bs pr=some (v,BF)):BX TB P o ρ L v BF:=by
 unfold o9 at h
 split at h
 rotate_left
 ·cases h
 rename_i hc
 obtain⟨rfl,rfl⟩:=hc
 split at h
 ·rename_i BV
  have BV:=(PG _ _ ▸ BV:EC AI bs 1=true/\_).1
  split at h
  rotate_left
  ·cases h
  rename_i ys u hcl
  simp only[pr,AR,BP] at h
  obtain⟨rfl,rfl⟩:=h
  have HG:look L bs=some .HP:=A8 _ _ (by have:=BI BV 0 (by omega);simpa using this)
  refine AU fun c w E hh hw=> ?_
  obtain⟨G,hG⟩:=hh
  have NL:=hw x
  rw[hx] at NL
  obtain⟨I8,hk,hn⟩:=NL
  have hlen:=(hG.dp i _ _ _ (A8 _ _ hl)).len
  obtain⟨E1,c1,c2,c3,c4,c5,c6,c7⟩:=XM A8 hG hl hcl
  obtain⟨E2,t1,t2,t3,arr,ty,t4,t5⟩:=c1.AHU c4 (c6 bs HG) (by rw[c2];exact hn) (by omega:k<ys.length)
  rw[<-A0] at t1
  have yZ:=(hG.dp i _ _ _ (A8 _ _ hl)).off
  have CP:=AJ HG
  have q_:∀ n,Al L n->Al (AD L (u++ [(bs,.dead),(i,.deep a ys (some (k,bs))),(bs,.row a (ys.getD k []))])) n:=by
   intro n hn
   rw[A0]
   exact A1 rfl n (A1 rfl n (A1 rfl n (c5 n hn)))
  refine⟨w,E2,_, ?_,.inl rfl,⟨G,t1⟩,fun n hn=>⟨?_,q_ n hn⟩,t3.trans c3, ?_⟩
  ·simp only[execOp,CD,hx,SV.den]
   refine BB ?_
   have e:(E.nm i).off+(k*1+0)=k:=by omega
   rw[e]
   rw[c2] at t4
   exact GY hd RL t4 t5
  ·rw[t2 n (fun he=>CJ (he ▸ HG) hn),c2]
  ·refine⟨.row a (ys.getD k []), ?_,rfl⟩
   rw[A0]
   show look (BS (BS (BS (AD L u) (bs,.dead)) (i,.deep a ys (some (k,bs)))) (bs,.row a (ys.getD k []))) bs=_
   rw[AT (by rw[DG,DG,JT];exact CP),BQ rfl]
 ·split at h
  rotate_left
  ·cases h
  rename_i k0 j _
  split at h
  rotate_left
  ·cases h
  rename_i h_
  subst h_
  simp only[pr,AR,BP] at h
  obtain⟨rfl,rfl⟩:=h
  refine AU fun c w E hh hw=> ?_
  obtain⟨G,hG⟩:=hh
  have NL:=hw x
  rw[hx] at NL
  obtain⟨I8,hk,hn⟩:=NL
  obtain⟨d1,d2,d3,d4,d5⟩:=hG.dp i _ _ _ (A8 _ _ hl)
  rcases d5 with ⟨h1,_⟩|⟨h1,h2,h3,arr,ty,hs,h4,h5,h6,h7,h8,h9⟩
  ·rw[hn] at h1;cases h1
  have hkl:k<xss.length:=by omega
  obtain⟨q1,q2⟩:=h9 k j rfl hkl
  refine⟨w,E,_, ?_,.inl rfl,⟨G,hG⟩,fun n hn=>⟨rfl,hn⟩,rfl,q2⟩
  simp only[execOp,CD,hx,SV.den]
  refine BB ?_
  have e:(E.nm i).off+(k*1+0)=k:=by omega
  rw[e,←q1]
  exact GY hd RL h4 (h6 k hkl)
theorem AC7 {o:Oper} {ρ:Operand->SV} {t:TypeId} {x:Operand} (CD:o.op= .load t x) {d:TypeDesc} (hd:P.underlying t=some d) (RL:FI P t=false) {i k off:Nat} (hx:ρ x= .el i k 2 off) {t1 t2:Ty} {xs:List (List t1.T×List t2.T)}
  (hl:AI i=some (.tree t1 t2 xs)) (A8:∀ n e,AI n=some e->look L n=some e) (yZ:off<2):BX TB P o ρ L (.tsl i k off) []:=by
 refine AU fun c w E hh hw=> ?_
 have hh' :=hh
 obtain⟨G,hG⟩:=hh
 have htr:C0 c G w (E.nm i) t1 t2 xs:=hG.F0 i _ (A8 _ _ hl)
 have NL:=hw x
 rw[hx] at NL
 obtain⟨I8,hk,hn⟩:=NL
 rcases htr.cs with ⟨h1,_⟩|⟨h1,h2,h3,arr,ty,h4,h5,h6,h7,h8,h9⟩
 ·rw[hn] at h1;cases h1
 have OA :=hk
 rw[htr.len] at hk
 have hg:=h6 (k*2+off) (by omega)
 refine⟨w,E,_, ?_,.inl rfl,hh',fun n hn=>⟨rfl,hn⟩,rfl,⟨I8,OA,yZ⟩⟩
 simp only[execOp,CD,hx,SV.den]
 refine BB ?_
 rw[htr.off,KB]
 exact GY hd RL h4 hg
theorem AEB {o:Oper} {ρ:Operand->SV} {t:TypeId} {x:Operand} (CD:o.op= .load t x) {bs:Nat} (A8:∀ n e,AI n=some e->look L n=some e) {v:SV} {BF:BH}
  {deep:Bool} (h:o_ P AI deep t (ρ x) bs pr=some (v,BF)):BX TB P o ρ L v BF:=by
 unfold o_ at h
 split at h
 rotate_left
 ·cases h
 rename_i q d hq hd
 split at h
 ·rename_i i off hx
  split at h
  ·rename_i cs hl
   have u4:∀ (c:B4 TB) (w:World) (E:Env),Hd c w E L->(E.nm i).off=(E.nm i).pp.pre.length/\(∃ ty,w.heap[(E.nm i).A_]? =some (.cells ((E.nm i).arr (AH E cs)) ty (0,0)))/\GV E L cs:=by
    rintro c w E ⟨G,hG⟩
    obtain⟨h1,h2,h3,h4,h5,h6⟩:=hG.F0 i _ (A8 _ _ hl)
    exact⟨h2,h5,h6⟩
   split at h
   ·rename_i RL
    split at h
    ·rename_i ZD
     simp only[pr,AR,BP] at h
     obtain⟨rfl,rfl⟩:=h
     refine AU fun c w E hh hw=> ?_
     obtain⟨h2,⟨ty,h5⟩,h6⟩:=u4 c w E hh
     refine⟨w,E,_, ?_,.inl rfl,hh,fun n hn=>⟨rfl,hn⟩,rfl,QI h6 _ _⟩
     simp only[execOp,CD,hx,SV.den]
     refine BB ?_
     rw[h2,bF hq hd RL h5 (by rw[Nm.kC,AL];omega),Nm.pE _ (by rw[AL];omega),VP]
    ·cases h
   ·rename_i RL
    split at h
    ·rename_i u hu
     simp only[pr,AR,BP] at h
     obtain⟨rfl,rfl⟩:=h
     refine AU fun c w E hh hw=> ?_
     obtain⟨h2,⟨ty,h5⟩,h6⟩:=u4 c w E hh
     refine⟨w,E,_, ?_,.inl rfl,hh,fun n hn=>⟨rfl,hn⟩,rfl,A3.1 h6 u (UY hu)⟩
     simp only[execOp,CD,hx,SV.den]
     refine BB ?_
     rw[h2]
     exact GY hd RL h5 (by rw[Nm.qZ _ (by rw[AL];exact (qC.1 hu).1)];simp [C5,hu])
    ·cases h
  ·rename_i j hl
   split at h
   ·cases h
   ·rename_i RL
    split at h
    rotate_left
    ·cases h
    rename_i h0
    subst h0
    simp only[pr,AR,BP] at h
    obtain⟨rfl,rfl⟩:=h
    refine AU fun c w E hh hw=> ?_
    have hh' :=hh
    obtain⟨G,hG⟩:=hh
    obtain⟨q1,⟨arr,ty,fz,q2,q3⟩,q4⟩:=hG.F0 i _ (A8 _ _ hl)
    refine⟨w,E,_, ?_,.inl rfl,hh',fun n hn=>⟨rfl,hn⟩,rfl,q4⟩
    simp only[execOp,CD,hx,SV.den]
    refine BB ?_
    rw[JK,JK]
    exact GY hd RL (by rw[hG.old _ q1];exact q2) q3
  ·cases h
 ·rename_i i k sz off hx
  split at h
  ·rename_i a xs hl
   exact pF CD hq hd hx (.inl (A8 _ _ hl)) A8 h
  ·rename_i a xs hl
   exact pF CD hq hd hx (.inr (A8 _ _ hl)) A8 h
  ·rename_i a xss hh hl
   split at h
   ·cases h
   ·rename_i RL
    exact AEA CD hd RL hx hl A8 h
  ·rename_i t1 t2 xs hl
   split at h
   ·cases h
   ·rename_i RL
    split at h
    rotate_left
    ·cases h
    rename_i hc
    obtain⟨rfl,yZ⟩:=hc
    simp only[pr,AR,BP] at h
    obtain⟨rfl,rfl⟩:=h
    exact AC7 CD hd RL hx hl A8 yZ
  ·cases h
 ·cases h
theorem pG {k:IntKind}:∀ {l:List Value} {i:Nat},vA k l=true->i<l.length->∃ n,l[i]? =some (.int k n)
 | [],i,_,h=>by simp at h
 | .int k' n::r,0,h,_=>by
  simp only[vA,PG,OH] at h
  exact⟨n,by rw[h.1];rfl⟩
 | .int k' n::r,i+1,h,hi=>by
  simp only[vA,PG] at h
  simpa using pG h.2 (by simpa using hi)
theorem AEC {α:Type}:∀ {l:List (Nat×α)} {k:Nat} {x:α},lk l k=some x->(k,x)∈l
 | [],_,_,h=>by cases h
 |(a,b)::r,k,x,h=>by
  simp only[lk] at h
  split at h
  ·rename_i he
   simp only[AR] at h
   subst he h;simp
  ·exact m0 _ (AEC h)
theorem AED {cx:Cx} {o:Oper} {ρ:Operand->SV} {t:TypeId} {x:Operand} (CD:o.op= .load t x) {g off:Nat} (hx:ρ x= .ptr (some ⟨g,off,none⟩)) {v:SV} {BF:BH}
  (h:loadT P cx t g off pr=some (v,BF)):BX cx.tb P o ρ L v BF:=by
 unfold loadT at h
 split at h
 rotate_left
 ·cases h
 rename_i arr k q hl hu hq
 split at h
 ·cases h
 rename_i hk
 split at h
 rotate_left
 ·cases h
 rename_i hi
 split at h
 rotate_left
 ·cases h
 rename_i yZ
 simp only[pr,AR,BP] at h
 obtain⟨rfl,rfl⟩:=h
 obtain⟨n,hn⟩:=pG (i:=off) hi (by simpa using yZ)
 refine AU fun c w E hh hw=> ?_
 obtain⟨G,hG⟩:=hh
 obtain⟨o1,ty,fz,o2⟩:=hG.tab _ (AEC hl)
 have hb:w.heap[g]? =some (.cells arr ty fz):=by rw[hG.old g o1];exact o2
 have MM:arr[off]? =some (.int k n):=by rw[<-XT];exact hn
 have RL:FI P t=false:=by unfold FI;rw[hu]
 refine⟨w,E,_, ?_,.inl rfl,⟨G,hG⟩,fun n hn=>⟨rfl,hn⟩,rfl,trivial⟩
 simp only[execOp,CD,hx,SV.den]
 refine BB ?_
 rw[GY hu RL hb MM]
 simp [AJ3,MM]
theorem jO {E:Env} {vs:List SV} (h:vs.all kA=true):Flat (AH E vs):=by
 induction vs with
 |nil=>intro v hv;cases hv
 |cons x r ih=>
  simp only[x0,PG] at h
  intro v hv
  rcases MK.1 hv with rfl|hv
  ·cases x with
   |raw u=>cases u <;> simp_all [kA,SV.den]
   |_=>simp_all [kA,SV.den]
  ·exact ih h.2 v hv
theorem S4 (E:Env) (vs:List SV):∀ (cs:List SV) (off:Nat),(AH E (B5 cs off vs)).toArray=ZL (AH E cs).toArray off (AH E vs):=by
 induction vs with
 |nil=>intros;rfl
 |cons v r ih=>
  intro cs off
  simp only[B5,AH,ZL]
  rw[ih,VD]
  simp
theorem y5 (E:Env) (m:Nm) (vs:List SV):∀ (cs:List SV) (off:Nat),off+vs.length<=cs.length->m.arr (AH E (B5 cs off vs))=ZL (m.arr (AH E cs)) (m.pp.pre.length+off) (AH E vs):=by
 induction vs with
 |nil=>intros;rfl
 |cons v r ih=>
  intro cs off h
  simp only[hI] at h
  simp only[B5,AH,ZL]
  rw[ih _ _ (by rw[SR];omega),VD,Nm.AH1 _ (by rw[AL];omega),I6]
theorem ZO {vs:List SV}:∀ {cs:List SV} {off:Nat} {v:SV},v∈B5 cs off vs->v∈cs\/v∈vs:=by
 induction vs with
 |nil=>intro cs off v h;exact .inl h
 |cons x r ih=>
  intro cs off v h
  rcases ih h with h|h
  ·rcases List.mem_or_eq_of_mem_set h with h|h
   ·exact .inl h
   ·exact .inr (by simp [h])
  ·exact .inr (by simp [h])
theorem LW {E:Env} {v:SV} (h:v.wf E L):GV E L (AZ v):=by
 cases v with
 |agg cs=>exact h
 |_=>exact⟨h,trivial⟩
theorem MR {w w' :World} {t:TypeId} {q:TypeInfo} (hq:P.info? t=some q) {b off:Nat} {v:SV} {E:Env} (hr:I7 v=false) (hl:(AZ v).length=q.size)
  (hst:(storeCells ⟨b,off,none⟩ (AH E (AZ v)) 0).run P w= .ok () w'):(Instr.storeAt t (.pointer (some ⟨b,off,none⟩)) (v.den E)).run P w= .ok () w' :=by
 have MM:=ZE (E:=E) v hr
 simp only[Instr.storeAt,Instr.sureAddr,storeVar,sizeOf,typeInfo,Sem.run_bind,Sem.run_pure,Result.andThen]
 simp [hq,MM,AL,hl,hst]
theorem AK.setRow {c:B4 TB} {G:Nat->Prop} {w w' :World} {E:Env} {L:AE} (h:AK c G w E L) {i:Nat} {a:Ty} {xs ys:List a.T} (hl:look L i=some (.row a xs)) (hn:(E.nm i).nil=false) (hlen:ys.length=xs.length)
  (hr:Rest w w') (hs:w'.heap.size=w.heap.size) (hw:∀ j,j≠(E.nm i).A_->w'.heap[j]? =w.heap[j]?)
  (XZ:∀ arr ty,w.heap[(E.nm i).A_]? =some (.cells arr ty ((E.nm i).fr arr.size))->(E.nm i).off+(E.nm i).cap*a.sz<=arr.size->RowsIn (Rp G w a) a.sz arr (E.nm i).off xs->∃ UZ,w'.heap[(E.nm i).A_]? =some (.cells UZ ty ((E.nm i).fr arr.size))/\UZ.size=arr.size/\RowsIn (Rp G w a) a.sz UZ (E.nm i).off ys):
  AK c G w' E (BS L (i,.row a ys)):=by
 have DV:=h.F0 i _ hl
 obtain⟨h1,h2,h3⟩:=DV
 rcases h3 with ⟨h4,_⟩|⟨_,h5,h6,h7,arr,ty,h8,h9,tJ⟩
 ·rw[hn] at h4;cases h4
 obtain⟨UZ,k1,k2,k3⟩:=XZ arr ty h8 h9 tJ
 have RK:E.set i (E.nm i)=E:=by
  refine GW (fun k=> ?_) rfl (fun _=>rfl)
  by_cases hk:k=i
  ·subst hk;rw[Env.B6]
  ·exact E.DR _ hk
 have hGb:∀ b,G b->w'.heap[b]? =w.heap[b]? :=fun b hb=>hw b (fun he=>h5 (he ▸ hb))
 have:=h.change (i:=i) (e' := .row a ys) (m:=E.nm i) (w' :=w') (AJ hl) hr (by omega) (fun _=>rfl) rfl
  (fun b _ hb=>hw b (fun he=>hb (by simp [AO.own,hn,he])))
  (fun b hb=>by simp only[AO.own,hn,XU,Q_,AR] at hb;subst hb;exact⟨h6,h5⟩)
  (fun k f hk hf b hb he=>h.inj k i f (.row a xs) b hk hf hl hb (.inl (by simpa [AO.own,hn] using he)))
  (fun _=>⟨by rw[h1,hlen],h2,.inr ⟨hn,h5,h6,by rw[hlen];exact h7,UZ,ty,by rw[k2];exact k1,by rw[k2];exact h9,k3.imp fun x vs hx=>Rp.mono hGb (fun _ h=>h) a x vs hx⟩⟩)
 rw[RK] at this
 exact this
theorem ZP {E:Env} {c:B4 TB} {G:Nat->Prop} {w:World} {a:Ty}:∀ (n:Nat) (cs:List SV) (xs:List a.T) (u:BH),T7 AI a n cs=some (xs,u)->GV E L cs->aU .XD AI E c G w [] u []→
  xs.length=n/\cs.length=n*a.sz/\RowsIn (Rp G w a) a.sz (AH E cs).toArray 0 xs:=by
 intro n
 induction n with
 |zero=>
  intro cs xs u h _ _
  cases cs with
  |nil=>simp only[T7,AR,BP] at h;obtain⟨rfl,rfl⟩:=h;exact⟨rfl,by simp,fun i x hx=>by simp at hx⟩
  |cons v r=>simp [T7] at h
 |succ n ih=>
  intro cs xs u h hw hk
  simp only[T7] at h
  split at h
  rotate_left
  ·cases h
  rename_i x r nes u1 hp
  split at h
  rotate_left
  ·cases h
  rename_i xs' u2 hq
  simp only[AR,BP] at h
  obtain⟨rfl,rfl⟩:=h
  obtain⟨c1,rfl,l1,_,hd⟩:=E8 E _ _ _ _ _ _ hp
  have hw1:GV E L c1:=A3.2 fun v hv=>A3.1 hw v (DU.2 (.inl hv))
  have hw2:GV E L r:=A3.2 fun v hv=>A3.1 hw v (DU.2 (.inr hv))
  obtain⟨i1,i2,i3⟩:=ih _ _ _ hq hw2 (hk.sub (by simp) (by simp;intros;simp [*]) (by simp))
  have pD:Rp G w a x (AH E c1):=by
   rw[hd]
   refine Rp.mk _ _ _ fun k e he=> ?_
   obtain⟨g1,_⟩:=OB _ _ _ _ _ _ hp
   rcases g1 k false e he with rfl|⟨t,ys,ne,hs,KF,rfl⟩|⟨t,s,ys,ne,uk,hs,KF,tM,X0,rfl⟩
   ·trivial
   ·have uQ:BU E nes k=ne.nm E:=by simp [BU,KF]
    rw[uQ]
    exact hs.ok hk.shr
   have uQ:BU E nes k=ne.nm E:=by simp [BU,KF]
   rw[uQ]
   refine XE hs (by simp) (A3.1 hw s tM) hk.shr ?_
   intro i t' zs e' hnn hl xR hx
   refine hk.XD i t' zs e' hl xR (.inr ?_)
   rcases hx with hx|hx
   ·cases hx
   ·exact DU.2 (.inl (X0 _ hx))
  refine⟨by simp [i1],by simp [l1,i2];rw[Q9];omega, ?_⟩
  intro i y hy
  cases i with
  |zero=>
   simp only[U9,AR] at hy
   subst hy
   have:A4 (AH E (c1++r)).toArray (0+0*a.sz) a.sz=AH E c1:=by
    unfold A4
    rw[DO]
    simp [AL,l1]
   rw[this];exact pD
  |succ i=>
   simp only[mY] at hy
   have:=i3 i y hy
   have e:A4 (AH E (c1++r)).toArray (0+(i+1)*a.sz) a.sz=A4 (AH E r).toArray (0+i*a.sz) a.sz:=by
    unfold A4
    rw[DO]
    simp only[KB]
    have:(i+1)*a.sz=(AH E c1).length+i*a.sz:=by rw[AL,l1,Q9];omega
    rw[this]
    simp
   rw[e];exact this
theorem X_ {E:Env} {c:B4 TB} {G:Nat->Prop} {w:World} {u:BH} (md:PM):aU md DA E c G w [] u []:=
 ⟨fun i t ys h=>by simp [DA] at h,fun i t ys e h=>by simp [DA] at h,fun i t ys h=>by simp [DA] at h,fun i t ys h=>by simp [DA] at h,fun i t1 t2 ys h=>by simp [DA] at h,fun i cs h=>by simp [DA] at h⟩
theorem y6:∀ (t:Ty) (x:t.T) (j:Nat) (e:AO),(A7 false t x)[j]? =some e->(∃ (a:Ty) (xs:List a.T),e= .shr a xs)\/e= .dead:=by
 intro t
 induction t with
 |pair a b PH PI=>
  intro x j e he
  simp only[A7] at he
  by_cases hk:j<(A7 false a x.1).length
  ·rw[QE hk] at he;exact PH _ _ _ he
  ·rw[OG (by omega)] at he;exact PI _ _ _ he
 |slice a=>
  intro x j e he
  cases j with
  |zero=>simp only[A7,U9,AR] at he;exact .inl ⟨_,_,he.symm⟩
  |succ j=>simp [A7] at he
 |sl a=>
  intro x j e he
  cases j with
  |zero=>simp only[A7,U9,AR] at he;exact .inl ⟨_,_,he.symm⟩
  |succ j=>simp [A7] at he
 |nf=>
  intro x j e he
  cases j with
  |zero=>simp only[A7,U9,AR] at he;exact .inr he.symm
  |succ j=>simp [A7] at he
 |_=>intro x j e he;simp [A7] at he
theorem pH {c:B4 TB} {G1:Nat->Prop} {w:World} {E:Env} {a:Ty} {cs:List SV} {z:a.T} {nes:List NE} {u:BH} (hp:CU .XD AI a cs=some (z,[],nes,u))
  (t9:D0 c G1 w ⟨a,true,false,false⟩ z (BU E nes)):Rp G1 w a z (AH E cs):=by
 obtain⟨c1,e1,_,_,hd⟩:=E8 E _ _ _ _ _ _ hp
 rw[Y_] at e1;subst e1
 rw[hd]
 refine Rp.mk _ _ _ fun k e he=> ?_
 have:=t9.1 k e he
 simp only[CT.pn,KB] at this
 rcases y6 a z k e he with ⟨a',xs,rfl⟩|rfl
 ·exact this
 ·trivial
theorem kD:∀ (l cs:List SV) (off p:Nat),(B5 cs off l)[p]? =if off<=p/\p<off+l.length/\p<cs.length then l[p-off]? else cs[p]?
 | [],cs,off,p=>by simp only[B5,List.length_nil];rw[BC (by omega)]
 |v::r,cs,off,p=>by
  simp only[B5,hI]
  rw[kD r,SR]
  by_cases h:off=p
  ·subst h
   by_cases h2:off<cs.length
   ·rw[BC (by omega),BQ (by omega),AD6 h2];simp
   ·rw[BC (by omega),BC (by omega),N8 (by simp;omega),N8 (by omega)]
  ·rw[AD8 h]
   by_cases h2:off+1<=p/\p<off+1+r.length/\p<cs.length
   ·rw[BQ h2,BQ (by omega),show p-off=(p-(off+1))+1 by omega];simp
   ·rw[BC h2,BC (by omega)]
theorem AH2 {E:Env} {L:AE}:∀ (a:Ty) (x:a.T) (n:Nat) (v:SV),v∈E3 a x n->AE1 v=true->v.wf E L:=by
 intro a
 induction a with
 |pair a b PH PI=>
  intro x n v hv hn
  rcases DU.1 hv with hv|hv
  ·exact PH _ _ _ hv hn
  ·exact PI _ _ _ hv hn
 |slice a=>intro x n v hv hn;simp only[E3,LA] at hv;subst hv;cases hn
 |sl a=>intro x n v hv hn;simp only[E3,LA] at hv;subst hv;cases hn
 |nf=>intro x n v hv hn;simp only[E3,LA] at hv;subst hv;cases hn
 |_=>intro x n v hv hn;simp only[E3,LA] at hv;subst hv;trivial
theorem AEE {E:Env}:∀ (a:Ty) (x:a.T) (n p:Nat) (v:SV) (hs:Nat->Nm),(E3 a x n)[p]? =some v->AE1 v=true->(enc a x hs)[p]? =some (v.den E):=by
 intro a
 induction a with
 |pair a b PH PI=>
  intro x n p v hs hv hn
  have hl:(enc a x.1 hs).length=(E3 a x.1 n).length:=by rw[CW,yC]
  simp only[E3,enc] at hv ⊢
  rcases GR p (E3 a x.1 n).length with hp|hp
  ·rw[QE hp] at hv
   rw[QE (by omega)]
   exact PH _ _ _ _ _ hv hn
  ·rw[OG hp] at hv
   rw[OG (by omega),hl]
   exact PI _ _ _ _ _ hv hn
 |slice a=>
  intro x n p v hs hv hn
  cases p with
  |zero=>simp only[E3,U9,AR] at hv;subst hv;cases hn
  |succ p=>simp [E3] at hv
 |sl a=>
  intro x n p v hs hv hn
  cases p with
  |zero=>simp only[E3,U9,AR] at hv;subst hv;cases hn
  |succ p=>simp [E3] at hv
 |nf=>
  intro x n p v hs hv hn
  cases p with
  |zero=>simp only[E3,U9,AR] at hv;subst hv;cases hn
  |succ p=>simp [E3] at hv
 |_=>
  intro x n p v hs hv hn
  cases p with
  |zero=>simp only[E3,U9,AR] at hv;subst hv;rfl
  |succ p=>simp [E3] at hv
theorem y7 {o:Oper} {ρ:Operand->SV} {t:TypeId} {x y:Operand} (CD:o.op= .store t x y) {q:TypeInfo} (hq:P.info? t=some q) {i k sz off:Nat} (hx:ρ x= .el i k sz off)
  {a:Ty} {xs:List a.T} (hl:AI i=some (.row a xs)) (A8:∀ n e,AI n=some e->look L n=some e) {v:SV} {BF:BH}
  (h:jK AI q.size a xs i k sz off (ρ y) pr=some (v,BF)):BX TB P o ρ L v BF:=by
 unfold jK at h
 split at h
 rotate_left
 ·cases h
 rename_i hc
 obtain⟨rfl,ZD,hlen,AEF⟩:=hc
 have step:∀ (c:B4 TB) (w:World) (E:Env) (G:Nat->Prop) (L' :AE),AK c G w E L' ->look L' i=some (.row a xs)->(∀ x,(ρ x).wf E L)->∀ (z:a.T) (cells:List Value),Rp G w a z cells->Flat (AH E (AZ (ρ y)))→
   (∀ (arr:Array Value) (ty:TypeId) (fz:Nat×Nat),w.heap[(E.nm i).A_]? =some (.cells arr ty fz)->Rp G w a (gd a xs k) (A4 arr ((E.nm i).off+k*a.sz) a.sz)->ZL arr ((E.nm i).off+k*a.sz+off) (AH E (AZ (ρ y)))=ZL arr ((E.nm i).off+k*a.sz) cells)→
   ∃ w',(execOp (fun x=>(ρ x).den E) o).run P w= .ok .skip w' /\AK c G w' E (BS L' (i,.row a (xs.set k z))):=by
  intro c w E G L' hG uT hw z cells hz vM hsp
  have NL:=hw x
  rw[hx] at NL
  obtain⟨I8,hk,hn⟩:=NL
  obtain⟨aI,arr,ty0,fz,h1,h2,h3⟩:=AAJ hG (.inl uT) hk hn
  obtain⟨e1,e2,e3⟩:=hG.F0 i _ uT
  rcases e3 with ⟨h4,_⟩|⟨_,h5,h6,h7,y8,ty,h8,h9,tJ⟩
  ·rw[hn] at h4;cases h4
  rw[h8] at h1
  simp only[AR,Obj.cells.injEq] at h1
  obtain⟨rfl,rfl,rfl⟩:=h1
  have AC8:(E.nm i).off+(k*a.sz+off)=(E.nm i).off+k*a.sz+off:=by omega
  obtain⟨w',s1,s2,s3,s4,s5⟩:=E_ (P:=P) (off:=(E.nm i).off+k*a.sz+off) (AH E (AZ (ρ y))) w y8 0 (fun j hj=>(E.nm i).jT hj) h8 vM (by rw[AL,hlen];omega)
  rw[JK,hsp y8 ty _ h8 h2] at s4
  refine⟨w', ?_, ?_⟩
  ·simp only[execOp,CD,hx,SV.den,Sem.run_bind]
   rw[AC8,MR hq AEF hlen s1]
   rfl
  ·refine hG.setRow uT hn (by simp) s2 s3 s5 ?_
   intro AL9 ty3 q1 q2 q3
   rw[h8] at q1
   simp only[AR,Obj.cells.injEq] at q1
   obtain⟨rfl,rfl,_⟩:=q1
   refine⟨_,s4,I_ _ _ _, ?_⟩
   refine q3.set hz hz.length aI ?_
   have:=qE a.sz h7
   omega
 split at h
 ·rename_i AJ8
  obtain⟨rfl,hn⟩:=AJ8
  split at h
  rotate_left
  ·cases h
  rename_i z nes u hp
  split at h
  rotate_left
  ·cases h
  rename_i hu
  simp only[pr,AR,BP] at h
  obtain⟨rfl,rfl⟩:=h
  refine AU fun c w E hh hw=> ?_
  obtain⟨G,hG⟩:=hh
  have hct:FU .XD AI [⟨a,true,false,false⟩] [.agg (AZ (ρ y))]=some ⟨HT.mk ⟨a,true,false,false⟩ [] z (),nes++ [],u++ [],[]++ [],nes.filterMap NE.name++ []⟩:=by
   simp [FU,KH,hp]
  obtain⟨G1,G2,t1,t2,t3,t4,t5,t6,t7,t8,t9,t10,t11⟩:=hG.take (md:= .XD) (by simp) A8 hct (by simp [okA]) ⟨LW (hw y),trivial⟩
  have AJ9:=t4 rfl
  rw[AJ9] at t9
  simp only[IC.BF,Y_,ABL] at t1 t6 t7
  have M8:i∉u.map (·.1):=by
   intro hx
   obtain⟨q',VJ,he⟩:=DB.1 hx
   have:=Q7.1 hu q' VJ
   simp [he] at this
  have hli:look (AD L u) i=some (.row a xs):=by
   rw[t7 i (by simp) M8];exact A8 _ _ hl
  have pD:Rp G1 w a z (AH E (AZ (ρ y))):=pH hp (by have:=t9.1;rw[Y_] at this;exact this)
  obtain⟨w',s1,s2⟩:=step c w E G1 (AD L u) t1 hli hw z _ pD pD.AAD (fun arr ty fz _ _=>by rw[JK])
  have eu:AD L (u++ [(i,.row a (xs.set k z))])=BS (AD L u) (i,.row a (xs.set k z)):=by rw[A0];rfl
  rw[eu]
  exact⟨w',E,_,s1,.inr ⟨rfl,rfl⟩,⟨G1,s2⟩,fun n hn=>⟨rfl,A1 rfl n (t6 n hn)⟩,rfl,trivial⟩
 ·split at h
  rotate_left
  ·split at h
   rotate_left
   ·cases h
   rename_i VM
   split at h
   rotate_left
   ·cases h
   rename_i z nes u hp
   split at h
   rotate_left
   ·cases h
   rename_i hu
   simp only[pr,AR,BP] at h
   obtain⟨rfl,rfl⟩:=h
   refine AU fun c w E hh hw=> ?_
   obtain⟨G,hG⟩:=hh
   have hct:FU .XD AI [⟨a,true,false,false⟩] [.agg (B5 (E3 a (gd a xs k) 0) off (AZ (ρ y)))]=some ⟨HT.mk ⟨a,true,false,false⟩ [] z (),nes++ [],u++ [],[]++ [],nes.filterMap NE.name++ []⟩:=by
    simp [FU,KH,hp]
   simp only[AHT,PG,Q7] at VM
   have fG:GV E L (B5 (E3 a (gd a xs k) 0) off (AZ (ρ y))):=by
    refine A3.2 fun u hu=> ?_
    obtain⟨p,hp⟩:=AD7.1 hu
    rw[kD,hlen,CW] at hp
    split at hp
    ·exact A3.1 (LW (hw y)) u (UY hp)
    ·rename_i hpo
     refine AH2 a _ _ u (UY hp) ?_
     have hlp:p<a.sz:=by
      have:=(qC.1 hp).1
      rwa [CW] at this
     rcases GR p off with h1|h1
     ·refine VM.1 _ (AD7.2 ⟨p, ?_⟩)
      rw[hC,BQ h1,hp]
     ·refine VM.2 _ (AD7.2 ⟨p-(off+q.size), ?_⟩)
      rw[Y8,←hp]
      congr 1;omega
   obtain⟨G1,G2,t1,t2,t3,t4,t5,t6,t7,t8,t9,t10,t11⟩:=hG.take (md:= .XD) (by simp) A8 hct (by simp [okA]) ⟨fG,trivial⟩
   have AJ9:=t4 rfl
   rw[AJ9] at t9
   simp only[IC.BF,Y_,ABL] at t1 t6 t7
   have M8:i∉u.map (·.1):=by
    intro hx
    obtain⟨q',VJ,he⟩:=DB.1 hx
    have:=Q7.1 hu q' VJ
    simp [he] at this
   have hli:look (AD L u) i=some (.row a xs):=by
    rw[t7 i (by simp) M8];exact A8 _ _ hl
   have pD:Rp G1 w a z (AH E (B5 (E3 a (gd a xs k) 0) off (AZ (ρ y)))):=pH hp (by have:=t9.1;rw[Y_] at this;exact this)
   have vM:Flat (AH E (AZ (ρ y))):=by
    have hf:=pD.AAD
    intro u hu
    have hs:=S4 E (AZ (ρ y)) (E3 a (gd a xs k) 0) off
    obtain⟨j,hj,rfl⟩:=ABG hu
    refine hf _ ?_
    have y9:j<q.size:=by rw[AL,hlen] at hj;exact hj
    have:(ZL (AH E (E3 a (gd a xs k) 0)).toArray off (AH E (AZ (ρ y))))[off+j]? =(AH E (AZ (ρ y)))[j]? :=by
     rw[GX,BQ ⟨by omega,by omega,by simp [AL,CW];omega⟩]
     congr 1;omega
    rw[<-hs,g_,KA hj] at this
    exact UY this
   obtain⟨w',s1,s2⟩:=step c w E G1 (AD L u) t1 hli hw z _ pD vM (by
    intro arr ty fz h1 h2
    apply ADA
    intro j
    rw[GX,GX,AL,AL,hlen,X7,CW]
    have hse:∀ m:Nat,(AH E (B5 (E3 a (gd a xs k) 0) off (AZ (ρ y))))[m]? =(ZL (AH E (E3 a (gd a xs k) 0)).toArray off (AH E (AZ (ρ y))))[m]? :=by
     intro m;rw[<-S4];simp
    have hold:∀ p,p<a.sz->p<off\/off+q.size<=p->(AH E (E3 a (gd a xs k) 0))[p]? =arr[(E.nm i).off+k*a.sz+p]? :=by
     intro p hp hpo
     obtain⟨ms,h4,_⟩:=h2.out
     have hlp:p<(E3 a (gd a xs k) 0).length:=by rw[CW];exact hp
     have hv:=KA hlp
     have hnv:AE1 (E3 a (gd a xs k) 0)[p]=true:=by
      rcases hpo with hpo|hpo
      ·refine VM.1 _ (AD7.2 ⟨p, ?_⟩)
       rw[hC,BQ hpo,hv]
      ·refine VM.2 _ (AD7.2 ⟨p-(off+q.size), ?_⟩)
       rw[Y8,←hv]
       congr 1;omega
     have e1:=AEE (E:=E) a _ 0 p _ ms hv hnv
     rw[<-h4,BE,BQ hp] at e1
     rw[CX,ABI,hv,e1]
     rfl
    by_cases tQ:((E.nm i).off+k*a.sz)+off<=j/\j<((E.nm i).off+k*a.sz)+off+q.size/\j<arr.size
    ·rw[BQ tQ,BQ (by omega),hse,GX,AL,hlen,BQ ⟨by omega,by omega,by simp [AL,CW];omega⟩]
     congr 1;omega
    ·rw[BC tQ]
     by_cases y9:((E.nm i).off+k*a.sz)<=j/\j<((E.nm i).off+k*a.sz)+a.sz/\j<arr.size
     ·have e1:((AH E (E3 a (gd a xs k) 0)).toArray)[j-((E.nm i).off+k*a.sz)]? =arr[j]? :=by
       rw[g_,hold _ (by omega) (by omega)]
       congr 1;omega
      rw[BQ y9,hse,GX,AL,hlen,BC (by omega),e1]
     ·rw[BC y9])
   have eu:AD L (u++ [(i,.row a (xs.set k z))])=BS (AD L u) (i,.row a (xs.set k z)):=by rw[A0];rfl
   rw[eu]
   exact⟨w',E,_,s1,.inr ⟨rfl,rfl⟩,⟨G1,s2⟩,fun n hn=>⟨rfl,A1 rfl n (t6 n hn)⟩,rfl,trivial⟩
  rename_i AH3
  split at h
  rotate_left
  ·cases h
  rename_i z nes u hp
  simp only[pr,AR,BP] at h
  obtain⟨rfl,rfl⟩:=h
  refine AU fun c w E hh hw=> ?_
  obtain⟨G,hG⟩:=hh
  obtain⟨c1,e1,hc1,_,hd⟩:=E8 E _ _ _ _ _ _ hp
  rw[Y_] at e1;subst e1
  have pD:Rp G w a z (AH E (B5 (E3 a (gd a xs k) 0) off (AZ (ρ y)))):=by
   rw[hd]
   refine Rp.mk _ _ _ fun k e he=> ?_
   have:(A7 false a z).length=0:=by rw[AW];exact AH3
   rw[N8 (by omega)] at he;cases he
  have vM:Flat (AH E (AZ (ρ y))):=by
   have hf:=pD.AAD
   intro u hu
   have hs:=S4 E (AZ (ρ y)) (E3 a (gd a xs k) 0) off
   obtain⟨j,hj,rfl⟩:=ABG hu
   refine hf _ ?_
   have y9:j<q.size:=by rw[AL,hlen] at hj;exact hj
   have:(ZL (AH E (E3 a (gd a xs k) 0)).toArray off (AH E (AZ (ρ y))))[off+j]? =(AH E (AZ (ρ y)))[j]? :=by
    rw[GX,BQ ⟨by omega,by omega,by simp [AL,CW];omega⟩]
    congr 1;omega
   rw[<-hs,g_,KA hj] at this
   exact UY this
  obtain⟨w',s1,s2⟩:=step c w E G L hG (A8 _ _ hl) hw z _ pD vM (by
   intro arr ty fz h1 h2
   apply ADA
   intro j
   rw[GX,GX,AL,AL,hlen,X7,CW]
   have hse:∀ m:Nat,(AH E (B5 (E3 a (gd a xs k) 0) off (AZ (ρ y))))[m]? =(ZL (AH E (E3 a (gd a xs k) 0)).toArray off (AH E (AZ (ρ y))))[m]? :=by
    intro m;rw[<-S4];simp
   have hold:AH E (E3 a (gd a xs k) 0)=A4 arr (((E.nm i).off+k*a.sz)) a.sz:=by
    obtain⟨ms,h4,_⟩:=h2.out
    rw[h4,SZ]
    exact E5 _ _ fun j hj=>by omega
   by_cases tQ:((E.nm i).off+k*a.sz)+off<=j/\j<((E.nm i).off+k*a.sz)+off+q.size/\j<arr.size
   ·rw[BQ tQ,BQ (by omega),hse,GX,AL,hlen,BQ ⟨by omega,by omega,by simp [AL,CW];omega⟩]
    congr 1;omega
   ·rw[BC tQ]
    by_cases y9:((E.nm i).off+k*a.sz)<=j/\j<((E.nm i).off+k*a.sz)+a.sz/\j<arr.size
    ·have e1:((AH E (E3 a (gd a xs k) 0)).toArray)[j-((E.nm i).off+k*a.sz)]? =arr[j]? :=by
      rw[g_,hold,BE,BQ (by omega)]
      congr 1;omega
     rw[BQ y9,hse,GX,AL,hlen,BC (by omega),e1]
    ·rw[BC y9])
  exact⟨w',E,_,s1,.inr ⟨rfl,rfl⟩,⟨G,s2⟩,fun n hn=>⟨rfl,A1 rfl n hn⟩,rfl,trivial⟩
theorem vN {o:Oper} {ρ:Operand->SV} {t:TypeId} {x y:Operand} (CD:o.op= .store t x y) {q:TypeInfo} (hq:P.info? t=some q) {i k sz off len:Nat} (hx:ρ x= .el i k sz off)
  {a:Ty} {xs:List a.T} (hl:AI i=some (.row a xs)) (A8:∀ n e,AI n=some e->look L n=some e) {v:SV} {BF:BH}
  (h:a_ q.size len a xs i k off (ρ y) pr=some (v,BF)):BX TB P o ρ L v BF:=by
 unfold a_ at h
 split at h
 rotate_left
 ·cases h
 rename_i hc
 obtain⟨rfl,rfl,AH3,hlen,hfl,AEF⟩:=hc
 split at h
 rotate_left
 ·cases h
 rename_i ys u hp
 split at h
 rotate_left
 ·cases h
 rename_i iA
 simp only[pr,AR,BP] at h
 obtain⟨rfl,rfl⟩:=h
 refine AU fun c w E hh hw=> ?_
 obtain⟨G,hG⟩:=hh
 obtain⟨l1,l2,l3⟩:=ZP (c:=c) (G:=G) (w:=w) (E:=E) (L:=L) len (AZ (ρ y)) ys u hp (LW (hw y)) (X_ .XD)
 have uT :=A8 _ _ hl
 have NL:=hw x
 rw[hx] at NL
 obtain⟨I8,hk,hn⟩:=NL
 obtain⟨e1,e2,e3⟩:=hG.F0 i _ uT
 rcases e3 with ⟨h4,_⟩|⟨_,h5,h6,h7,y8,ty,h8,h9,tJ⟩
 ·rw[hn] at h4;cases h4
 have AC8:(E.nm i).off+(0*sz+0)=(E.nm i).off:=by omega
 have ZD:(E.nm i).off+len*a.sz<=y8.size:=by
  have:=qE a.sz h7
  rw[iA] at this;omega
 obtain⟨w',s1,s2,s3,s4,s5⟩:=E_ (P:=P) (off:=(E.nm i).off) (AH E (AZ (ρ y))) w y8 0 (fun j hj=>(E.nm i).jT hj) h8 (jO hfl) (by rw[AL,l2];omega)
 rw[JK] at s4
 have hst:AK c G w' E (BS L (i,.row a ys)):=by
  refine hG.setRow uT hn (by omega) s2 s3 s5 ?_
  intro AL9 ty3 q1 q2 q3
  rw[h8] at q1
  simp only[AR,Obj.cells.injEq] at q1
  obtain⟨rfl,rfl,_⟩:=q1
  refine⟨_,s4,I_ _ _ _, ?_⟩
  intro j z hz
  have hj:j<len:=by
   rw[<-l1]
   rcases GR j ys.length with h|h
   ·exact h
   ·rw[N8 h] at hz;cases hz
  have hr:=l3 j z hz
  have hb:(j+1)*a.sz<=len*a.sz:=qE _ hj
  rw[Q9,Nat.one_mul] at hb
  have e:A4 (ZL y8 (E.nm i).off (AH E (AZ (ρ y)))) ((E.nm i).off+j*a.sz) a.sz=A4 (AH E (AZ (ρ y))).toArray (0+j*a.sz) a.sz:=by
   apply Q8
   intro m
   rw[BE,BE]
   by_cases hm:m<a.sz
   ·rw[GX,AL,l2]
    simp only[hm,GJ]
    rw[BQ ⟨by omega,by omega,by omega⟩]
    rw[g_]
    congr 1;omega
   ·simp [hm]
  rw[e]
  exact hr
 refine⟨w',E,.skip, ?_,.inr ⟨rfl,rfl⟩,⟨G,hst⟩,fun n hn=>⟨rfl,A1 rfl n hn⟩,rfl,trivial⟩
 simp only[execOp,CD,hx,SV.den,Sem.run_bind]
 rw[AC8,MR hq AEF hlen s1]
 rfl
theorem AC9 {o:Oper} {ρ:Operand->SV} {t:TypeId} {x y:Operand} (CD:o.op= .store t x y) {q:TypeInfo} (hq:P.info? t=some q) {i k sz off:Nat} (hx:ρ x= .el i k sz off)
  {a:Ty} {xss:List (List a.T)} {h' :Option (Nat×Nat)} (hl:AI i=some (.deep a xss h')) (A8:∀ n e,AI n=some e->look L n=some e) {v:SV} {BF:BH}
  (h:qT AI q.size a xss h' i k sz off (ρ y) pr=some (v,BF)):BX TB P o ρ L v BF:=by
 unfold qT at h
 split at h
 rotate_left
 ·cases h
 rename_i hc
 obtain⟨yI,rfl,rfl⟩:=hc
 split at h
 rotate_left
 ·cases h
 rename_i j hy
 split at h
 rotate_left
 ·cases h
 rename_i t' ys hj
 split at h
 rotate_left
 ·cases h
 rename_i he
 subst he
 have u7 :=A8 _ _ hl
 have hj' :=A8 _ _ hj
 obtain⟨hh,rfl,rfl⟩:(∀ k' j',h' =some (k',j')->k' =k)/\v=AQ/\BF=[(j,.dead),(i,.deep t' (xss.set k ys) none)]:=by
  split at h
  ·simp only[pr,AR,BP] at h
   exact⟨fun k' j' he=>(by cases he),h.1.symm,h.2.symm⟩
  ·rename_i k0 j0
   split at h
   rotate_left
   ·cases h
   rename_i h_
   simp only[pr,AR,BP] at h
   exact⟨fun k' j' he=>(by simp only[AR,BP] at he;omega),h.1.symm,h.2.symm⟩
 refine AU fun c w E hH hw=> ?_
 obtain⟨G,hG⟩:=hH
 have NL:=hw x
 rw[hx] at NL
 obtain⟨I8,hk,hn⟩:=NL
 have hd:=hG.dp i _ _ _ u7
 have hlen:=hd.len
 have yZ:=hd.off
 obtain⟨arr,ty,ABV,ZD⟩:∃ arr ty,w.heap[(E.nm i).A_]? =some (.cells arr ty (0,0))/\k<arr.size:=by
  rcases hd.cs with ⟨h1,_⟩|⟨h1,h2,h3,arr,ty,hs,h4,h5,_⟩
  ·rw[hn] at h1;cases h1
  ·exact⟨arr,ty,h4,by omega⟩
 have hcv:AH E (AZ (ρ y))=[.slice (E.nm j).ad (E.nm j).len (E.nm j).cap]:=by rw[hy];rfl
 obtain⟨w',s1,s2,s3,s4,s5⟩:=KJ (P:=P) (off:=k) (AH E (AZ (ρ y))) w arr 0 ABV (by
   rw[hcv]
   intro u hu
   simp only[LA] at hu;subst hu
   exact⟨fun c h=>(by cases h),fun c h=>(by cases h)⟩) (by rw[hcv];simp;omega)
 rw[hcv,JK] at s4
 simp only[ZL] at s4
 have h1:=hG.AL5 (w' :=w') u7 hj' hh (by omega) s2 s3 s5 (fun y8 ty2 _ ha _=>by
  rw[ABV] at ha
  simp only[AR,Obj.cells.injEq] at ha
  obtain⟨rfl,rfl,_⟩:=ha
  exact⟨_,s4⟩)
 refine⟨w',_,.skip, ?_,.inr ⟨rfl,rfl⟩,⟨G,h1⟩,fun n hn=>⟨?_,A1 rfl n (A1 rfl n hn)⟩,rfl,trivial⟩
 ·simp only[execOp,CD,hx,SV.den,Sem.run_bind]
  have e:(E.nm i).off+(k*1+0)=k:=by omega
  rw[e,MR hq (by rw[hy];rfl) (by rw[hy,yI];rfl) s1]
  rfl
 ·by_cases M8:n=i
  ·subst M8;exact (E.CQ _ _ _).1
  ·exact (E.IS _ _ M8).1
set_option maxHeartbeats 1000000 in
theorem ACA {o:Oper} {ρ:Operand->SV} {t:TypeId} {x y:Operand} (CD:o.op= .store t x y) {q:TypeInfo} (hq:P.info? t=some q) {i k hh j:Nat} (hx:ρ x= .tel i k hh j) (A8:∀ n e,AI n=some e->look L n=some e) {v:SV} {BF:BH}
  (h:storeT AI q.size i k hh j (ρ y) pr=some (v,BF)):BX TB P o ρ L v BF:=by
 unfold storeT at h
 split at h
 rotate_left
 ·cases h
 rename_i t1 t2 xs hl
 split at h
 rotate_left
 ·cases h
 rename_i hc
 obtain⟨yI,AEF,hfl⟩:=hc
 have hcv:AZ (ρ y)=[ρ y]:=by
  cases hy:ρ y <;> first|rfl|(rw[hy] at hfl;cases hfl)
 have step:∀ (tt:Ty) (z:tt.T) (nes:List NE) (u:BH) (x' :List t1.T×List t2.T),tt.EG=0->tt.sz=1->CU .S0 DA tt [ρ y]=some (z,[],nes,u)->hh<2→
   (∀ (G:Nat->Prop) (w w' :World) (mm:Nm),(∀ k x,xs[k]? =some x->DC (Rp G w t1) t1.sz w (mm.hn (k*2)) x.1/\DC (Rp G w t2) t2.sz w (mm.hn (k*2+1)) x.2)->k<xs.length→
    (∀ (ys:List tt.T),DC (Rp G w tt) tt.sz w (mm.hn (k*2+hh)) ys->DC (Rp G w' tt) tt.sz w' (mm.hn (k*2+hh)) (ys.set j z))→
    (∀ (k' e:Nat) (t' :Ty) (ys:List t'.T),k' <xs.length->e<2->k' *2+e≠k*2+hh->DC (Rp G w t') t'.sz w (mm.hn (k' *2+e)) ys->DC (Rp G w' t') t'.sz w' (mm.hn (k' *2+e)) ys)→
    DC (Rp G w' t1) t1.sz w' (mm.hn (k*2)) x'.1/\DC (Rp G w' t2) t2.sz w' (mm.hn (k*2+1)) x'.2)→
   (∀ (G:Nat->Prop) (w:World) (mm:Nm),(∀ k x,xs[k]? =some x->DC (Rp G w t1) t1.sz w (mm.hn (k*2)) x.1/\DC (Rp G w t2) t2.sz w (mm.hn (k*2+1)) x.2)->k<xs.length->∃ ys:List tt.T,DC (Rp G w tt) tt.sz w (mm.hn (k*2+hh)) ys)→
   BX TB P o ρ L AQ [(i,.tree t1 t2 (xs.set k x'))]:=by
  intro tt z nes u x' AH3 ZD hp hhh BV ANL
  refine AU fun c w E hhd hw=> ?_
  obtain⟨G,hG⟩:=hhd
  have htr:C0 c G w (E.nm i) t1 t2 xs:=hG.F0 i _ (A8 _ _ hl)
  have NL:=hw x
  rw[hx] at NL
  obtain⟨I8,hk,_,hj⟩:=NL
  rw[htr.len] at hk
  rcases htr.cs with ⟨h1,h1',_⟩|⟨h1,h2,h3,ANM,ty0,h4,h5,h6,h7,h8,h9⟩
  ·rw[h1'] at hk;simp at hk
  obtain⟨ys0,XG⟩:=ANL G w (E.nm i) h7 hk
  have AR4:=XG
  obtain⟨p1,_,p3⟩:=XG
  rcases p3 with ⟨_,p4,_⟩|⟨p4,p5,arr,ty,p6,p7,p8⟩
  ·rw[p1,p4] at hj;simp at hj
  obtain⟨c1,e1,hc1,_,hd⟩:=E8 E _ _ _ _ _ _ hp
  rw[Y_] at e1;subst e1
  have hbm:=h8 (k*2+hh) (by omega) p4
  have hbG:¬G ((E.nm i).hn (k*2+hh)).A_:=(htr.all _ hbm.1).1
  obtain⟨w',s1,s2,s3,s4,s5⟩:=E_ (P:=P) (off:=((E.nm i).hn (k*2+hh)).off+j) (AH E (AZ (ρ y))) w arr 0 (fun j hj=>((E.nm i).hn (k*2+hh)).jT hj) p6 (by rw[hcv];exact jO (by simp [hfl]))
   (by rw[AL,hcv,ABF];rw[p1] at hj;rw[ZD] at p7;omega)
  rw[JK] at s4
  have hGs:∀ b,G b->w'.heap[b]? =w.heap[b]? :=fun b hb=>s5 b (fun he=>hbG (he ▸ hb))
  have pD:Rp G w' tt z (AH E [ρ y]):=by
   rw[hd]
   refine Rp.mk _ _ _ fun k e he=> ?_
   have:(A7 false tt z).length=0:=by rw[AW];exact AH3
   rw[N8 (by omega)] at he;cases he
  have RK:∀ (ys:List tt.T),DC (Rp G w tt) tt.sz w ((E.nm i).hn (k*2+hh)) ys->DC (Rp G w' tt) tt.sz w' ((E.nm i).hn (k*2+hh)) (ys.set j z):=by
   intro ys hi
   obtain⟨r1,_,r3⟩:=hi
   rcases r3 with ⟨r4,_⟩|⟨r4,r5,UZ,xQ,r6,r7,r8⟩
   ·rw[p4] at r4;cases r4
   rw[p6] at r6
   simp only[AR,Obj.cells.injEq] at r6
   obtain⟨rfl,rfl,_⟩:=r6
   refine⟨by rw[SR];exact r1,trivial,.inr ⟨r4,by rw[SR];exact r5,_,_,by rw[I_];exact s4,by rw[I_];exact r7, ?_⟩⟩
   have pI:j<ys.length:=by rw[<-r1];exact hj
   have:=(r8.imp (R' :=Rp G w' tt) fun x vs hx=>Rp.mono hGs (fun _ h=>h) tt x vs hx).set (k:=j) pD (by rw[pD.length]) pI (by
    have:=qE tt.sz r5
    omega)
   rw[ZD,x5] at this
   rw[hcv,ZD]
   exact this
  have y_:∀ (k' e:Nat) (t' :Ty) (ys:List t'.T),k' <xs.length->e<2->k' *2+e≠k*2+hh->DC (Rp G w t') t'.sz w ((E.nm i).hn (k' *2+e)) ys->DC (Rp G w' t') t'.sz w' ((E.nm i).hn (k' *2+e)) ys:=by
   intro k' e t' ys OA he KF hi
   refine hi.mono (fun x vs hx=>Rp.mono hGs (fun _ h=>h) t' x vs hx) fun hn=>s5 _ ?_
   exact h9 _ _ (by omega) (by omega) KF hn p4
  have U_:∀ b (xx:List (List t1.T×List t2.T)),(AO.tree t1 t2 xx).ow E i b↔b∈(E.nm i).ins.l:=fun b xx=>AO.XC
  have kE:AK c G w' E (BS L (i,.tree t1 t2 (xs.set k x'))):=by
   refine hG.NR (AJ (A8 _ _ hl)) s2 (by omega) (fun _=>rfl) (fun _ _=>⟨rfl,rfl⟩) rfl (fun b _ aS=>s5 b (fun he=>aS ((U_ b _).2 (he ▸ hbm.1))))
    (fun b hb=>⟨(htr.all b ((U_ b _).1 hb)).2.1,(htr.all b ((U_ b _).1 hb)).1⟩) (fun k' f OA hf b hb he=>hG.inj k' i f _ b OA hf (A8 _ _ hl) hb ((U_ b xs).2 ((U_ b _).1 he))) ?_ (fun t' xs' q he=>by cases he)
   refine⟨by rw[SR];exact htr.len,htr.off,htr.nd,fun b hb=> ?_,.inr ⟨h1,h2,by rw[SR];exact h3,ANM,ty0,by rw[s5 _ hbm.2.symm];exact h4,h5,by rw[SR];exact h6, ?_,by rw[SR];exact h8,by rw[SR];exact h9⟩⟩
   ·obtain⟨b1,b2,aa,tyy,fz,b3⟩:=htr.all b hb
    refine⟨b1,b2, ?_⟩
    by_cases hbe:b=((E.nm i).hn (k*2+hh)).A_
    ·rw[hbe];exact⟨_,_,_,s4⟩
    ·rw[s5 b hbe];exact⟨aa,tyy,fz,b3⟩
   ·intro k' xx OA
    rw[xY] at OA
    by_cases h_:k=k'
    ·subst h_
     rw[BQ rfl,BQ hk] at OA
     simp only[AR] at OA
     subst OA
     exact BV G w w' (E.nm i) h7 hk RK y_
    ·rw[BC h_] at OA
     have CP:=(qC.1 OA).1
     obtain⟨i1,i2⟩:=h7 k' xx OA
     exact⟨y_ k' 0 t1 _ CP (by omega) (by omega) i1,y_ k' 1 t2 _ CP (by omega) (by omega) i2⟩
  refine⟨w',E,.skip, ?_,.inr ⟨rfl,rfl⟩,⟨G,kE⟩,fun n hn=>⟨rfl,A1 rfl n hn⟩,rfl,trivial⟩
  simp only[execOp,CD,hx,SV.den,Sem.run_bind]
  rw[MR hq AEF (by rw[hcv,yI];rfl) s1]
  rfl
 have hgd:∀ (hk:k<xs.length),xs[k]? =some (gd (.pair (.slice t1) (.slice t2)) xs k):=by
  intro hk
  unfold gd
  rw[List.getD_eq_getElem?_getD,KA hk];rfl
 split at h
 ·split at h
  rotate_left
  ·cases h
  rename_i z nes u hp
  split at h
  rotate_left
  ·cases h
  rename_i uO
  simp only[pr,AR,BP] at h
  obtain⟨rfl,rfl⟩:=h
  refine step t1 z nes u _ uO.1 uO.2 hp (by omega) ?_ ?_
  ·intro G w w' mm h7 hk RK y_
   obtain⟨i1,i2⟩:=h7 k _ (hgd hk)
   exact⟨RK _ i1,y_ k 1 t2 _ hk (by omega) (by omega) i2⟩
  ·intro G w mm h7 hk
   exact⟨_,(h7 k _ (hgd hk)).1⟩
 ·split at h
  rotate_left
  ·cases h
  rename_i z nes u hp
  split at h
  rotate_left
  ·cases h
  rename_i uO
  simp only[pr,AR,BP] at h
  obtain⟨rfl,rfl⟩:=h
  refine step t2 z nes u _ uO.1 uO.2 hp (by omega) ?_ ?_
  ·intro G w w' mm h7 hk RK y_
   obtain⟨i1,i2⟩:=h7 k _ (hgd hk)
   exact⟨y_ k 0 t1 _ hk (by omega) (by omega) i1,RK _ i2⟩
  ·intro G w mm h7 hk
   exact⟨_,(h7 k _ (hgd hk)).2⟩
 ·cases h
theorem ACB {o:Oper} {ρ:Operand->SV} {t:TypeId} {x y:Operand} (CD:o.op= .store t x y) (A8:∀ n e,AI n=some e->look L n=some e) {v:SV} {BF:BH}
  (h:dZ P AI t (ρ x) (ρ y) pr=some (v,BF)):BX TB P o ρ L v BF:=by
 unfold dZ at h
 split at h
 rotate_left
 ·cases h
 rename_i q hq
 split at h
 ·rename_i i off hx
  split at h
  rotate_left
  ·cases h
  rename_i cs hl
  split at h
  rotate_left
  ·cases h
  rename_i hc
  obtain⟨c1,c2,c3,c4⟩:=hc
  simp only[pr,AR,BP] at h
  obtain⟨rfl,rfl⟩:=h
  refine AU fun c w E hh hw=> ?_
  obtain⟨G,hG⟩:=hh
  obtain⟨h1,h2,h3,h4,⟨ty,h5⟩,h6⟩:=hG.F0 i _ (A8 _ _ hl)
  obtain⟨w',s1,s2,s3,s4,s5⟩:=KJ (P:=P) (off:=(E.nm i).pp.pre.length+off) (AH E (AZ (ρ y))) w _ 0 h5 (jO c2) (by rw[Nm.kC,AL,AL];omega)
  rw[JK,←y5 E (E.nm i) _ cs off c4] at s4
  have RK:E.set i (E.nm i)=E:=by
   refine GW (fun k=> ?_) rfl (fun _=>rfl)
   by_cases hk:k=i
   ·subst hk;rw[Env.B6]
   ·exact E.DR _ hk
  have fG:GV E (BS L (i,.box (B5 cs off (AZ (ρ y))))) (B5 cs off (AZ (ρ y))):=by
   refine A3.2 fun u hu=> ?_
   refine (QG (fun n hn=>A1 rfl n hn) (fun _ _=>rfl) u ?_).1
   rcases ZO hu with hu|hu
   ·exact A3.1 h6 u hu
   ·exact A3.1 (LW (hw y)) u hu
  have:=hG.change (i:=i) (e' := .box (B5 cs off (AZ (ρ y)))) (m:=E.nm i) (w' :=w') (AJ (A8 _ _ hl)) s2 (by omega) (fun _=>rfl) rfl
   (fun b _ hb=>s5 b (fun he=>hb (by simp [AO.own,he])))
   (fun b hb=>by simp only[AO.own,AR] at hb;subst hb;exact⟨h4,h3⟩)
   (fun k f hk hf b hb he=>hG.inj k i f (.box cs) b hk hf (A8 _ _ hl) hb (.inl (by simpa [AO.own] using he)))
   (fun _=>by rw[RK];exact⟨h1,h2,h3,h4,⟨ty,s4⟩,fG⟩)
  rw[RK] at this
  refine⟨w',E,.skip, ?_,.inr ⟨rfl,rfl⟩,⟨G,this⟩,fun n hn=>⟨rfl,A1 rfl n hn⟩,rfl,trivial⟩
  simp only[execOp,CD,hx,SV.den,Sem.run_bind]
  rw[h2,MR hq c3 c1 s1]
  rfl
 ·rename_i i k sz off hx
  split at h
  ·rename_i a xs hl
   split at h
   ·exact vN CD hq hx hl A8 h
   ·exact y7 CD hq hx hl A8 h
  ·rename_i a xss hh hl
   exact AC9 CD hq hx hl A8 h
  ·cases h
 ·rename_i i k hh j hx
  exact ACA CD hq hx A8 h
 ·cases h
end
end Go.V3
namespace Go.V3
open Go
variable {TB:Tb}
section
variable {P:Program} {AI:Nat->Option AO} {L:AE}
theorem AK.VQ {c:B4 TB} {G:Nat->Prop} {w w' :World} {E:Env} (h:AK c G w E L) {bs:Nat} (hl:look L bs=some .HP) {ob:Obj} (hw:w'.heap=w.heap.push ob) (hr:Rest w w') {e:AO} {m:Nm} (KF:e.EA=false)
  (hm:m.A_=w.heap.size/\m.off=0/\m.nil=false) (XZ:w'.heap[w.heap.size]? =some ob->¬c.Old w.heap.size->¬G w.heap.size->(∀ b,G b->w'.heap[b]? =w.heap[b]?)->T5 c G w' (E.set bs m) (BS L (bs,e)) m e) (hd:e.LQ=false:=by rfl) (ht:e.JL=false:=by rfl):
  AK c G w' (E.set bs m) (BS L (bs,e))/\(∀ n,Al L n->(E.set bs m).nm n=E.nm n/\Al (BS L (bs,e)) n):=by
 have BV:w'.heap[w.heap.size]? =some ob:=by rw[hw];simp
 have BJ:∀ b,b<w.heap.size->w'.heap[b]? =w.heap[b]? :=by
  intro b hb
  rw[hw,jQ,BC (by omega)]
 have hold:¬c.Old w.heap.size:=fun hx=>by have:=hx.1;have:=h.size;omega
 have hG:¬G w.heap.size:=fun hx=>by have:=h.jY _ hx;omega
 have hbo:∀ b,e.own m=some b->b=w.heap.size:=by
  intro b hb
  cases e with
  |box cs=>simp only[AO.own,AR] at hb;rw[<-hb];exact hm.1
  |row t xs=>simp only[AO.own,hm.2.2,XU,Q_,AR] at hb;rw[<-hb];exact hm.1
  |map xs=>simp only[AO.own,AR] at hb;rw[<-hb];exact hm.1
  |fmp xs=>simp only[AO.own,AR] at hb;rw[<-hb];exact hm.1
  |_=>cases hb
 refine⟨h.change (AJ hl) hr (by rw[hw];simp) (fun hx=>absurd hx (CJ hl)) KF (fun b hb _=>BJ b hb) (fun b hb=>by rw[hbo b hb];exact⟨hold,hG⟩) ?_ ?_ hd ht, ?_⟩
 ·intro k f _ hf b hb he
  have:=h.X8 hf hb
  rw[hbo b he] at this
  omega
 ·intro _
  exact XZ BV hold hG (fun b hb=>BJ b (h.jY b hb))
 ·intro n hn
  have M8:n≠bs:=fun he=>CJ (he ▸ hl) hn
  exact⟨E.DR m M8,A1 KF n hn⟩
theorem Hd.fin {c:B4 TB} {G:Nat->Prop} {w w' :World} {E:Env} (h:AK c G w E L) {bs:Nat} (hl:look L bs=some .HP) {arr:Array Value} {ty:TypeId} (hw:w'.heap=w.heap.push (.cells arr ty (0,0))) (hr:Rest w w') {a:Ty} {xs:List a.T} {cap:Nat} (BN:Bool)
  (ZD:arr.size=cap*a.sz) (hle:xs.length<=cap) (aZ:RowsIn (Rp G w a) a.sz arr 0 xs):
  Hd c w' (E.set bs ⟨w.heap.size,0,false,xs.length,cap,none⟩) (AD L (fin BN bs a xs))/\(∀ n,Al L n->(E.set bs ⟨w.heap.size,0,false,xs.length,cap,none⟩).nm n=E.nm n/\Al (AD L (fin BN bs a xs)) n)/\Al (AD L (fin BN bs a xs)) bs:=by
 obtain⟨h1,h2⟩:=h.VQ hl hw hr (e:= .row a xs) (m:=⟨w.heap.size,0,false,xs.length,cap,none⟩) rfl ⟨rfl,rfl,rfl⟩
  (fun BV hold hG BJ=>⟨rfl,trivial,.inr ⟨rfl,hG,hold,hle,arr,ty,BV,by show 0+cap*a.sz<=arr.size;omega,aZ.imp fun x vs hx=>Rp.mono BJ (fun _ h=>h) a x vs hx⟩⟩)
 have A8:look (BS L (bs,.row a xs)) bs=some (.row a xs):=by rw[AT (AJ hl),BQ rfl]
 cases BN with
 |true=>exact⟨⟨G,h1⟩,h2,⟨_,A8,rfl⟩⟩
 |false=>
  have h3:=h1.freeze A8
  refine⟨⟨_,h3⟩,fun n hn=>⟨(h2 n hn).1,A1 rfl n (h2 n hn).2⟩,A1 rfl bs ⟨_,A8,rfl⟩⟩
theorem AK.known {c:B4 TB} {G:Nat->Prop} {w:World} {E:Env} (h:AK c G w E L) (A8:∀ n e,AI n=some e->look L n=some e) {u:BH} (hu:∀ q∈u,∃ t ys e,AI q.1=some e/\U0 e t ys/\q.2= .shr t ys):
  ∃ G',AK c G' w E (AD L u)/\(∀ n,Al L n->Al (AD L u) n)/\aU .XD AI E c G' w [] u []/\(∀ n,n∉u.map (·.1)->look (AD L u) n=look L n)/\(∀ b,G b->G' b):=by
 obtain⟨G1,h1,hg1,ha1,hk1,yI⟩:=h.qN u (fun q hq=>by
  obtain⟨t,ys,e0,hl,ho0,e⟩:=hu q hq
  exact⟨t,ys,.inl ⟨e0,A8 _ _ hl,ho0⟩,e⟩)
 refine⟨G1,h1,ha1,⟨?_, ?_,fun i t ys _ hx=>by simp at hx,fun i t ys _ hx=>by simp at hx,fun i t1 t2 ys _ hx=>by simp at hx,fun i cs _ hx=>by simp at hx⟩, ?_,hg1⟩
 ·intro i t ys hl
  rcases hk1 i _ (A8 _ _ hl) with hx|⟨_,_,hx,_⟩
  ·exact h1.F0 i _ hx
  ·cases hx
 ·rintro i t ys e0 hl ho0 (⟨hx,_⟩|hx)
  ·cases hx
  ·exact h1.F0 i _ (yI _ hx)
 ·intro n hn
  cases hl:look L n with
  |some e=>
   rcases hk1 n e hl with hx|⟨t,ys,_,_,hx⟩
   ·exact hx
   ·exact absurd (DB.2 ⟨_,hx,rfl⟩) hn
  |none=>
   have hge:L.length<=n:=by
    rcases GR n L.length with h' |h'
    ·unfold look at hl;rw[KA h'] at hl;cases hl
    ·exact h'
   unfold look
   rw[N8 (by rw[JT];exact hge)]
theorem m_ {a:Ty} {cs:List SV} {x:a.T} {r:List SV} {nes:List NE} {u:BH} (h:CU .XD AI a cs=some (x,r,nes,u)):∀ q∈u,∃ t ys e,AI q.1=some e/\U0 e t ys/\q.2= .shr t ys:=by
 intro q hq
 obtain⟨_,g2⟩:=OB _ _ _ _ _ _ h
 obtain⟨k,t,s,xs,ne,uk,hs,KF,hqk⟩:=g2 q hq
 rcases dT hs with rfl|⟨i,t',ys,e',hl,xR,_,_,rfl⟩|hx
 ·cases hqk
 ·rw[LA] at hqk;subst hqk;exact⟨t',ys,e',hl,xR,rfl⟩
 ·cases hx
theorem ACC {a:Ty}:∀ (n:Nat) (cs:List SV) (xs:List a.T) (u:BH),T7 AI a n cs=some (xs,u)->∀ q∈u,∃ t ys e,AI q.1=some e/\U0 e t ys/\q.2= .shr t ys:=by
 intro n
 induction n with
 |zero=>
  intro cs xs u h
  cases cs with
  |nil=>simp only[T7,AR,BP] at h;obtain⟨rfl,rfl⟩:=h;intro q hq;cases hq
  |cons v r=>simp [T7] at h
 |succ n ih=>
  intro cs xs u h
  simp only[T7] at h
  split at h
  rotate_left
  ·cases h
  rename_i x r nes u1 hp
  split at h
  rotate_left
  ·cases h
  rename_i xs' u2 hq
  simp only[AR,BP] at h
  obtain⟨rfl,rfl⟩:=h
  intro q VJ
  rcases DU.1 VJ with VJ |VJ
  ·exact m_ hp q VJ
  ·exact ih _ _ _ hq q VJ
theorem pJ (E:Env) (v:Value):(M6 v).wf E L:=by
 cases v with
 |int k n=>cases k <;> first|trivial|(simp only[M6];split <;> trivial)
 |float k n=>cases k <;> trivial
 |slice a l c=>simp only[M6];split <;> trivial
 |_=>trivial
theorem RM (E:Env) {t:TypeId} {z:List SV} (h:H2 P t=some z):GV E L z:=by
 unfold H2 at h
 split at h
 ·split at h
  ·simp only[AR] at h
   subst h
   refine A3.2 fun v hv=> ?_
   obtain⟨u,_,rfl⟩:=DB.1 hv
   exact pJ E u
  ·cases h
 ·cases h
theorem ACD {E:Env} {cs vs:List SV} (off:Nat) (h1:GV E L cs) (h2:GV E L vs):GV E L (B5 cs off vs):=
 A3.2 fun u hu=>(ZO hu).elim (A3.1 h1 u) (A3.1 h2 u)
theorem bG {E:Env} {place:Nat->Option (Nat×Nat)}:∀ (l:List (Nat×SV)) (cs ZF :List SV),T4 place cs l=some ZF ->GV E L cs->(∀ q∈l,q.2.wf E L)->GV E L ZF
 | [],cs,ZF,h,hw,_=>by simp only[T4,AR] at h;subst h;exact hw
 |(i,v)::r,cs,ZF,h,hw,hl=>by
  simp only[T4] at h
  split at h
  ·cases h
  ·split at h
   ·exact bG r _ _ h (ACD _ hw (LW (hl (i,v) (by simp)))) (fun q hq=>hl q (by simp [hq]))
   ·cases h
theorem vO {E:Env} {z:List SV} (h:GV E L z) (n size:Nat):GV E L (fresh z n size):=by
 refine A3.2 fun v hv=> ?_
 unfold fresh at hv
 obtain⟨i,_,rfl⟩:=DB.1 hv
 simp only[List.getD]
 cases hz:z[i%size]? with
 |none=>exact trivial
 |some u=>exact A3.1 h u (UY hz)
theorem kF {o:Oper} {ρ:Operand->SV} {t:TypeId} {len:Nat} {parts:Array (Nat×Operand)} (CD:o.op= .buildSlice t len parts) {BN:Bool} {bs:Nat} (A8:∀ n e,AI n=some e->look L n=some e) {v:SV} {BF:BH}
  (h:JV P AI t len (parts.toList.map fun q=>(q.1,ρ q.2)) BN bs pr=some (v,BF)):BX TB P o ρ L v BF:=by
 unfold JV at h
 split at h
 rotate_left
 ·cases h
 rename_i e hu
 split at h
 rotate_left
 ·cases h
 rename_i q z a hq hz hty
 split at h
 rotate_left
 ·cases h
 rename_i hc
 obtain⟨zA,VA,ZD,qX,BV⟩:=hc
 split at h
 rotate_left
 ·cases h
 rename_i cs hf
 split at h
 rotate_left
 ·cases h
 rename_i xs u hp
 simp only[pr,AR,BP] at h
 obtain⟨rfl,rfl⟩:=h
 have HG:look L bs=some .HP:=A8 _ _ (by have:=BI BV 0 (by omega);simpa using this)
 refine AU fun c w E hh hw=> ?_
 obtain⟨G,hG⟩:=hh
 have kG:=ACC _ _ _ _ hp
 obtain⟨G',k1,k2,k3,k4,_⟩:=hG.known A8 kG
 have AJA:GV E L cs:=bG _ _ _ hf (vO (RM E hz) _ _) (by
  intro q' VJ
  obtain⟨y,_,rfl⟩:=DB.1 VJ
  exact hw y.2)
 obtain⟨l1,l2,l3⟩:=ZP _ _ _ _ hp AJA k3
 have bH:look (AD L u) bs=some .HP:=by
  rw[k4 bs];exact HG
  intro hx
  obtain⟨q',VJ,he⟩:=DB.1 hx
  obtain⟨t',ys,e',hl,xR,_⟩:=kG q' VJ
  have:=A8 _ _ hl
  rw[he,HG] at this;cases this;cases xR
 obtain⟨f1,f2,f3⟩:=Hd.fin k1 bH (w' :=w.alloc (.cells (AH E cs).toArray e)) (ty:=e) rfl ⟨rfl,rfl,rfl⟩ (a:=a) (xs:=xs) (cap:=len) BN (by simp [AL,l2]) (by omega) l3
 rw[A0]
 refine⟨w.alloc (.cells (AH E cs).toArray e),_,_, ?_,.inl rfl,f1,fun n hn=>f2 n (k2 n hn),rfl,f3⟩
 obtain⟨zv,hzr,qL⟩:=LP (E:=E) (P:=P) w hz
 simp only[execOp,CD,SV.den,Env.B6,Nm.ad,XU,Q_,l1]
 refine BB ?_
 have MS:=SY (E:=E) _ _ _ _ qX hf
 rw[fN zA] at MS
 have KK:(List.map (fun q=>(q.1,q.2.den E)) (List.map (fun y=>(y.1,ρ y.2)) parts.toList))=(parts.map fun (i,x)=>(i,(ρ x).den E)).toList:=by
  rw[PL,dN];rfl
 rw[KK] at MS
 simp only[AIK] at MS
 have h24:¬(len*q.size>2 ^ 24):=by
  have:(2:Nat) ^ 24=16777216:=rfl
  omega
 simp only[Instr.buildSlice,Sem.run_bind,run_underlying hu,Result.andThen,sizeOf,typeInfo]
 by_cases h0:len*q.size=0
 ·have hr:Array.range 0= #[]:=by decide
  rw[h0,hr] at MS
  simp [hq,h0,hr,newRow]
  simp at MS
  simp [MS]
 ·simp [hq,h24,h0,hzr,qL,newRow]
  simp at MS
  simp [MS]
theorem KL {o:Oper} {ρ:Operand->SV} {E:Env} {w:World} {t e:TypeId} {len:Nat} {parts:Array (Nat×Operand)} (CD:o.op= .buildSlice t len parts) {q:TypeInfo} {z cs:List SV} (hu:P.underlying t=some (.slice e)) (hq:P.info? e=some q) (hz:H2 P e=some z)
  (zA:z.length=q.size) (ZD:len*q.size<=16777216) (qX:ML (parts.toList.map fun q=>(q.1,ρ q.2))=true) (hf:T4 (fun i=>some (i*q.size,q.size)) (fresh z (len*q.size) q.size) (parts.toList.map fun q=>(q.1,ρ q.2))=some cs):
  (execOp (fun x=>(ρ x).den E) o).run P w= .ok (.value (.slice (some ⟨w.heap.size,0,none⟩) len len)) (w.alloc (.cells (AH E cs).toArray e)):=by
 obtain⟨zv,hzr,qL⟩:=LP (E:=E) (P:=P) w hz
 simp only[execOp,CD]
 refine BB ?_
 have MS:=SY (E:=E) _ _ _ _ qX hf
 rw[fN zA] at MS
 have KK:(List.map (fun q=>(q.1,q.2.den E)) (List.map (fun y=>(y.1,ρ y.2)) parts.toList))=(parts.map fun (i,x)=>(i,(ρ x).den E)).toList:=by
  rw[PL,dN];rfl
 rw[KK] at MS
 simp only[AIK] at MS
 have h24:¬(len*q.size>2 ^ 24):=by
  have:(2:Nat) ^ 24=16777216:=rfl
  omega
 simp only[Instr.buildSlice,Sem.run_bind,run_underlying hu,Result.andThen,sizeOf,typeInfo]
 by_cases h0:len*q.size=0
 ·have hr:Array.range 0= #[]:=by decide
  rw[h0,hr] at MS
  simp [hq,h0,hr,newRow]
  simp at MS
  simp [MS]
 ·simp [hq,h24,h0,hzr,qL,newRow]
  simp at MS
  simp [MS]
theorem AK.AAK {c:B4 TB} {G:Nat->Prop} {w w' :World} {E:Env} (h:AK c G w E L) {bs:Nat} (hl:look L bs=some .HP) (hr:Rest w w') (hs:w.heap.size<=w'.heap.size) {m:Nm} {l:List Nat} {t:Ty} {xss:List (List t.T)}
  (hw:∀ b,b<w.heap.size->b∉l->w'.heap[b]? =w.heap[b]?) (aS:∀ b∈l,FT E L b) (hd:∀ (E' :Env) (L' :AE),C8 c G w' E' L' m l t xss none):
  AK c G w' (E.M7 bs m l) (BS L (bs,.deep t xss none))/\(∀ n,Al L n->(E.M7 bs m l).nm n=E.nm n/\Al (BS L (bs,.deep t xss none)) n)/\Al (BS L (bs,.deep t xss none)) bs/\(E.M7 bs m l).nm bs=m:=by
 have U_:∀ b,(AO.deep t xss none).ow (E.M7 bs m l) bs b↔b∈l:=fun b=>by rw[AO.C9,(E.CQ _ _ _).2]
 refine⟨h.NR (AJ hl) hr hs (fun hx=>absurd hx (CJ hl)) (fun k hk=>E.IS _ _ hk) rfl (fun b hb hn=>hw b hb (fun hx=>hn ((U_ b).2 hx)))
  (fun b hb=>by have:=(hd E L).all b ((U_ b).1 hb);exact⟨this.2.1,this.1⟩) (fun k f _ hf b hb he=>aS b ((U_ b).1 he) k f hf hb) trivial ?_, ?_,⟨_,by rw[AT (AJ hl),BQ rfl],rfl⟩,(E.CQ _ _ _).1⟩
 ·intro t' xs' q he
  cases he
  rw[(E.CQ _ _ _).1,(E.CQ _ _ _).2]
  exact hd _ _
 ·intro n hn
  have M8:n≠bs:=fun he=>CJ (he ▸ hl) hn
  exact⟨(E.IS _ _ M8).1,A1 rfl n hn⟩
theorem OC {c:B4 TB} {G:Nat->Prop} {w:World} {E:Env} (h:AK c G w E L):FT E L w.heap.size:=by
 intro n e he hb
 have:=h.X8 he hb
 omega
theorem ZQ {c:B4 TB} {G:Nat->Prop} {w:World} {E:Env} (h:AK c G w E L) {i b:Nat} {e:AO} (hi:look L i=some e) (hb:e.ow E i b):FT E (BS L (i,.dead)) b:=by
 intro n f hf LS
 rw[AT (AJ hi)] at hf
 by_cases hn:n=i
 ·subst hn
  simp only[GJ,AR] at hf;subst hf
  rcases LS with LS|⟨LS,_⟩|⟨LS,_⟩ <;> cases LS
 ·rw[BC hn] at hf
  exact h.inj n i f e b hn hf hi LS hb
theorem FT.kill {E:Env} {b:Nat} (h:FT E L b) {i:Nat} (hi:i<L.length):FT E (BS L (i,.dead)) b:=by
 intro n f hf LS
 rw[AT hi] at hf
 by_cases hn:n=i
 ·simp only[hn,GJ,AR] at hf;subst hf
  rcases LS with LS|⟨LS,_⟩|⟨LS,_⟩ <;> cases LS
 ·rw[BC hn] at hf
  exact h n f hf LS
theorem AEG {o:Oper} {ρ:Operand->SV} {t:TypeId} {l cp:Operand} (CD:o.op= .makeSlice t l cp) {bs:Nat} (A8:∀ n e,AI n=some e->look L n=some e) {v:SV} {BF:BH}
  (h:pA P AI t (ρ l) (ρ cp) bs pr=some (v,BF)):BX TB P o ρ L v BF:=by
 unfold pA at h
 split at h
 rotate_left
 ·cases h
 rename_i e hu
 split at h
 rotate_left
 ·cases h
 rename_i q a k n k' m hq hz hty hl hcp
 split at h
 rotate_left
 ·cases h
 rename_i hc
 obtain⟨eG,hqb,BV⟩:=hc
 split at h
 rotate_left
 ·cases h
 rename_i hn
 obtain⟨h0,h1,h2⟩:=hn
 simp only[pr,AR,BP] at h
 obtain⟨rfl,rfl⟩:=h
 have HG:look L bs=some .HP:=A8 _ _ (by have:=BI BV 0 (by omega);simpa using this)
 refine AU fun c w E hh hw=> ?_
 obtain⟨G,hG⟩:=hh
 have AJB:I64 m:=by
  have:(1:Int)<=q.bytes:=by omega
  have:m*1<=m*q.bytes:=Int.mul_le_mul_of_nonneg_left this (by omega)
  exact⟨by omega,by omega⟩
 have ET:=run_makeSlice (E:=E) (k:=k) (k' :=k') w hu hq hz (by rw[eG];rfl) h0 h1 h2 AJB
 have hold:¬c.Old w.heap.size:=fun hx=>by have:=hx.1;have:=hG.size;omega
 have hGn:¬G w.heap.size:=fun hx=>by have:=hG.jY _ hx;omega
 have BJ:∀ (o:Obj) (b:Nat),b<w.heap.size->(w.alloc o).heap[b]? =w.heap[b]? :=by
  intro o b hb
  show (w.heap.push o)[b]? =_
  rw[jQ,BC (by omega)]
 have MT:∀ (o:Obj),(w.alloc o).heap[w.heap.size]? =some o:=by
  intro o
  show (w.heap.push o)[w.heap.size]? =_
  simp
 obtain⟨g1,g2,g3,g4⟩:=hG.AAK (w' :=w.alloc (.cells ((Array.range (m.toNat*([SV.GS]:List SV).length)).map fun i=>(AH E [SV.GS]).toArray[i%(AH E [SV.GS]).toArray.size]!) e)) HG ⟨rfl,rfl,rfl⟩ (by show _<=(w.heap.push _).size;simp) (m:=⟨w.heap.size,0,false,n.toNat,m.toNat,none⟩) (l:=[w.heap.size]) (t:=a) (xss:=List.replicate n.toNat [])
  (fun b hb _=>BJ _ b hb) (by intro b hb;simp only[LA] at hb;subst hb;exact OC hG)
  (by
   intro E' L'
   refine⟨by simp,rfl,by simp, ?_,.inr ⟨rfl,by simp,by simp;omega,_,e,fun _=>⟨0,0,true,0,0,none⟩,MT _,by simp, ?_, ?_, ?_,fun _ _ he=>by cases he⟩⟩
   ·intro b hb
    simp only[LA] at hb;subst hb
    exact⟨hGn,hold,_,_,_,MT _⟩
   ·intro i hi
    simp only[List.length_replicate] at hi
    rw[AFY,ADC,BQ (by simp;omega)]
    have:i%(AH E [SV.GS]).toArray.size=0:=Nat.mod_one i
    simp only[XW,this]
    rfl
   ·intro i xs hi _
    rw[mZ] at hi
    split at hi
    ·simp only[AR] at hi;subst hi
     exact⟨⟨rfl,trivial,.inl ⟨rfl,rfl,rfl⟩⟩,fun hx=>by cases hx⟩
    ·cases hi
   ·intro i j _ _ _ _ _ hx;cases hx)
 refine⟨_,_,_, ?_,.inl rfl,⟨G,g1⟩,g2,rfl,g3⟩
 simp only[execOp,CD,hl,hcp,SV.den]
 rw[g4]
 exact BB ET
theorem ACE {o:Oper} {ρ:Operand->SV} {t:TypeId} {len:Nat} {parts:Array (Nat×Operand)} (CD:o.op= .buildSlice t len parts) {bs:Nat} (A8:∀ n e,AI n=some e->look L n=some e) {v:SV} {BF:BH}
  (h:eA P AI t len (parts.toList.map fun q=>(q.1,ρ q.2)) bs pr=some (v,BF)):BX TB P o ρ L v BF:=by
 unfold eA at h
 split at h
 rotate_left
 ·cases h
 rename_i e hu
 split at h
 rotate_left
 ·rename_i q a hq hz hty KK
  split at h
  rotate_left
  ·cases h
  rename_i hc
  obtain⟨eG,rfl,BV⟩:=hc
  simp only[pr,AR,BP] at h
  obtain⟨rfl,rfl⟩:=h
  have HG:look L bs=some .HP:=A8 _ _ (by have:=BI BV 0 (by omega);simpa using this)
  refine AU fun c w E hh hw=> ?_
  obtain⟨G,hG⟩:=hh
  have ET:=KL (E:=E) (w:=w) (cs:=[.GS]) CD hu hq hz (by rw[eG];rfl) (by rw[eG];omega) (by rw[KK];rfl) (by rw[KK,eG];rfl)
  have hold:¬c.Old w.heap.size:=fun hx=>by have:=hx.1;have:=hG.size;omega
  have hGn:¬G w.heap.size:=fun hx=>by have:=hG.jY _ hx;omega
  have MT:∀ (o:Obj),(w.alloc o).heap[w.heap.size]? =some o:=by
   intro o
   show (w.heap.push o)[w.heap.size]? =_
   simp
  have BJ:∀ (o:Obj) (b:Nat),b<w.heap.size->(w.alloc o).heap[b]? =w.heap[b]? :=by
   intro o b hb
   show (w.heap.push o)[b]? =_
   rw[jQ,BC (by omega)]
  obtain⟨g1,g2,g3,g4⟩:=hG.AAK (w' :=w.alloc (.cells (AH E [SV.GS]).toArray e)) HG ⟨rfl,rfl,rfl⟩ (by show _<=(w.heap.push _).size;simp) (m:=⟨w.heap.size,0,false,1,1,none⟩) (l:=[w.heap.size]) (t:=a) (xss:=[[]])
   (fun b hb _=>BJ _ b hb) (by intro b hb;simp only[LA] at hb;subst hb;exact OC hG)
   (by
    intro E' L'
    refine⟨rfl,rfl,by simp, ?_,.inr ⟨rfl,by simp,by simp,_,e,fun _=>⟨0,0,true,0,0,none⟩,MT _,by simp [AH], ?_, ?_, ?_,fun _ _ he=>by cases he⟩⟩
    ·intro b hb
     simp only[LA] at hb;subst hb
     exact⟨hGn,hold,_,_,_,MT _⟩
    ·intro i hi
     simp only[ABF] at hi
     have:i=0:=by omega
     subst this
     rfl
    ·intro i xs hi _
     cases i with
     |succ i=>simp at hi
     |zero=>
      simp only[U9,AR] at hi;subst hi
      exact⟨⟨rfl,trivial,.inl ⟨rfl,rfl,rfl⟩⟩,fun hx=>by cases hx⟩
    ·intro i j _ _ _ _ _ hx;cases hx)
  refine⟨_,_,_,ET,.inl ?_,⟨G,g1⟩,g2,rfl,g3⟩
  simp only[SV.den];rw[g4];rfl
 ·cases h
 rename_i q a j hq hz hty KK
 split at h
 rotate_left
 ·cases h
 rename_i t' ys hj
 split at h
 rotate_left
 ·cases h
 rename_i he
 subst he
 split at h
 rotate_left
 ·cases h
 rename_i hc
 obtain⟨eG,rfl,BV⟩:=hc
 simp only[pr,AR,BP] at h
 obtain⟨rfl,rfl⟩:=h
 have HG:look L bs=some .HP:=A8 _ _ (by have:=BI BV 0 (by omega);simpa using this)
 have hj' :=A8 _ _ hj
 refine AU fun c w E hh hw=> ?_
 obtain⟨G,hG⟩:=hh
 have ET:=KL (E:=E) (w:=w) (cs:=[.H9 j]) CD hu hq hz (by rw[eG];rfl) (by rw[eG];omega) (by rw[KK];rfl) (by rw[KK,eG];rfl)
 have hold:¬c.Old w.heap.size:=fun hx=>by have:=hx.1;have:=hG.size;omega
 have hGn:¬G w.heap.size:=fun hx=>by have:=hG.jY _ hx;omega
 have RJ:=hG.kill (AJ hj')
 have hjb:j≠bs:=by rintro rfl;rw[hj'] at HG;cases HG
 have bH:look (BS L (j,.dead)) bs=some .HP:=by rw[AT (AJ hj'),BC (fun he=>hjb he.symm)];exact HG
 have DV:=hG.F0 j _ hj'
 have hjo:(E.nm j).nil=false->(AO.row t' ys).ow E j (E.nm j).A_:=fun hn=> .inl (by simp [AO.own,hn])
 have MT:∀ (o:Obj),(w.alloc o).heap[w.heap.size]? =some o:=by
  intro o
  show (w.heap.push o)[w.heap.size]? =_
  simp
 have BJ:∀ (o:Obj) (b:Nat),b<w.heap.size->(w.alloc o).heap[b]? =w.heap[b]? :=by
  intro o b hb
  show (w.heap.push o)[b]? =_
  rw[jQ,BC (by omega)]
 have CP:(E.nm j).nil=false->(E.nm j).A_<w.heap.size:=fun hn=>hG.X8 hj' (hjo hn)
 obtain⟨g1,g2,g3,g4⟩:=RJ.AAK (w' :=w.alloc (.cells (AH E [SV.H9 j]).toArray e)) bH ⟨rfl,rfl,rfl⟩ (by show _<=(w.heap.push _).size;simp) (m:=⟨w.heap.size,0,false,1,1,none⟩) (l:=eF (E.nm j) [w.heap.size]) (t:=t') (xss:=[ys])
  (fun b hb _=>BJ _ b hb)
  (by
   intro b hb
   rcases IE.1 hb with hb|⟨hn,rfl⟩
   ·simp only[LA] at hb;subst hb;exact OC RJ
   ·exact ZQ hG hj' (hjo hn))
  (by
   intro E' L'
   have XG:=DV.inner
   refine⟨rfl,rfl, ?_, ?_,.inr ⟨rfl,IE.2 (.inl (by simp)),by simp,_,e,fun _=>E.nm j,MT _,by simp [AH], ?_, ?_, ?_,fun _ _ he=>by cases he⟩⟩
   ·unfold eF
    split
    ·simp
    ·rename_i hn
     have:=CP (by simpa using hn)
     simp;omega
   ·intro b hb
    rcases IE.1 hb with hb|⟨hn,rfl⟩
    ·simp only[LA] at hb;subst hb
     exact⟨hGn,hold,_,_,_,MT _⟩
    ·obtain⟨q1,q2, -⟩:=hG.KE hj' (hjo hn)
     obtain⟨-, -,aZ⟩:=hG.F0 _ _ hj'
     rcases aZ with ⟨hnn,_⟩|⟨_,_,_,_,arr,ty,q3,_⟩
     ·rw[hn] at hnn;cases hnn
     ·exact⟨q1,q2,arr,ty,_,by rw[BJ _ _ (CP hn)];exact q3⟩
   ·intro i hi
    simp only[ABF] at hi
    have:i=0:=by omega
    subst this
    rfl
   ·intro i xs hi _
    cases i with
    |succ i=>simp at hi
    |zero=>
     simp only[U9,AR] at hi
     subst hi
     refine⟨XG.mono (fun x vs hx=>Rp.mono (fun b hb=>BJ _ b (hG.jY b hb)) (fun _ h=>h) _ x vs hx) (fun hn=>BJ _ _ (CP hn)),fun hn=>⟨IE.2 (.inr ⟨hn,rfl⟩), ?_⟩⟩
     have:=CP hn
     show (E.nm j).A_≠w.heap.size
     omega
   ·intro i i' hi u7 hii
    simp at hi u7
    omega)
 refine⟨_,_,_,ET,.inl ?_,⟨G,g1⟩,fun n hn=> ?_,rfl,g3⟩
 ·simp only[SV.den];rw[g4];rfl
 ·obtain⟨q1,q2⟩:=g2 n (A1 rfl n hn)
  exact⟨q1,q2⟩
theorem nA {o:Oper} {ρ:Operand->SV} {t:TypeId} {l cp:Operand} (CD:o.op= .makeSlice t l cp) {BN:Bool} {bs:Nat} (A8:∀ n e,AI n=some e->look L n=some e) {v:SV} {BF:BH}
  (h:LV P AI t (ρ l) (ρ cp) BN bs pr=some (v,BF)):BX TB P o ρ L v BF:=by
 unfold LV at h
 split at h
 rotate_left
 ·cases h
 rename_i e hu
 split at h
 rotate_left
 ·cases h
 rename_i q z a k n k' m hq hz hty hl hcp
 split at h
 rotate_left
 ·cases h
 rename_i zv nes u0 hpz
 split at h
 rotate_left
 ·cases h
 rename_i hc
 obtain⟨zA,VA,hqb,BV⟩:=hc
 split at h
 rotate_left
 ·cases h
 rename_i hn
 obtain⟨h0,h1,h2⟩:=hn
 simp only[pr,AR,BP] at h
 obtain⟨rfl,rfl⟩:=h
 have HG:look L bs=some .HP:=A8 _ _ (by have:=BI BV 0 (by omega);simpa using this)
 refine AU fun c w E hh hw=> ?_
 obtain⟨G,hG⟩:=hh
 have AJB:I64 m:=by
  have:(1:Int)<=q.bytes:=by omega
  have:m*1<=m*q.bytes:=Int.mul_le_mul_of_nonneg_left this (by omega)
  exact⟨by omega,by omega⟩
 have pD:Rp G w a zv (AH E z):=by
  obtain⟨c1,e1,_,_,hd⟩:=E8 E _ _ _ _ _ _ hpz
  rw[Y_] at e1;subst e1
  rw[hd]
  refine Rp.mk _ _ _ fun k e he=> ?_
  obtain⟨g1,_⟩:=OB _ _ _ _ _ _ hpz
  rcases g1 k false e he with rfl|⟨t,ys,ne,hs,KF,rfl⟩|⟨t,s,ys,ne,uk,hs,KF,tM,X0,rfl⟩
  ·trivial
  ·have uQ:BU E nes k=ne.nm E:=by simp [BU,KF]
   rw[uQ]
   exact hs.ok (fun i t ys h=>by simp [DA] at h)
  have uQ:BU E nes k=ne.nm E:=by simp [BU,KF]
  rw[uQ]
  exact XE (L:=L) hs (by simp) (A3.1 (RM E hz) s tM) (fun i t ys h=>by simp [DA] at h) (fun i t ys e _ h=>by simp [DA] at h)
 have aZ:RowsIn (Rp G w a) a.sz ((Array.range (m.toNat*z.length)).map fun i=>(AH E z).toArray[i%(AH E z).toArray.size]!) 0 (List.replicate n.toNat zv):=by
  intro i x hx
  rw[mZ] at hx
  split at hx
  ·rename_i hi
   simp only[AR] at hx;subst hx
   have hzs:z.length=a.sz:=by omega
   have CP:(i+1)*a.sz<=m.toNat*a.sz:=qE _ (by omega)
   rw[Q9] at CP
   have:A4 ((Array.range (m.toNat*z.length)).map fun i=>(AH E z).toArray[i%(AH E z).toArray.size]!) (0+i*a.sz) a.sz=AH E z:=by
    apply Q8
    intro j
    rw[BE]
    split
    ·rename_i hj
     rw[KB,AFY,ADC,BQ (by rw[hzs];omega)]
     have e1:(AH E z).toArray.size=a.sz:=by simp [AL,hzs]
     simp only[XW,e1]
     have AJC:(i*a.sz+j)%a.sz=j:=by rw[Nat.mul_comm,Nat.mul_add_mod,AG0 hj]
     have pI:j<(AH E z).length:=by rw[AL,hzs];exact hj
     rw[AJC,KA pI]
     simp [pI]
    ·rw[N8 (by rw[AL];omega)]
   rw[this];exact pD
  ·cases hx
 have hlen:(List.replicate n.toNat zv).length=n.toNat:=by simp
 obtain⟨f1,f2,f3⟩:=Hd.fin hG HG (w' :=w.alloc (.cells ((Array.range (m.toNat*z.length)).map fun i=>(AH E z).toArray[i%(AH E z).toArray.size]!) e)) (ty:=e) rfl ⟨rfl,rfl,rfl⟩ (a:=a) (xs:=List.replicate n.toNat zv) (cap:=m.toNat) BN
  (by simp;rw[zA,VA]) (by rw[hlen];omega) aZ
 refine⟨_,_,_, ?_,.inl rfl,f1,f2,rfl,f3⟩
 simp only[execOp,CD,hl,hcp,SV.den,Env.B6,Nm.ad,XU,Q_,hlen]
 exact BB (run_makeSlice (E:=E) w hu hq hz zA h0 h1 h2 AJB)
theorem ACF {o:Oper} {ρ:Operand->SV} {t:TypeId} (CD:o.op= .alloc t) {BN:Bool} {bs:Nat} (A8:∀ n e,AI n=some e->look L n=some e) {v:SV} {BF:BH}
  (h:d_ P AI t BN bs pr=some (v,BF)):BX TB P o ρ L v BF:=by
 unfold d_ at h
 split at h
 rotate_left
 ·cases h
 rename_i z hz
 split at h
 rotate_left
 ·cases h
 rename_i BV
 have HG:look L bs=some .HP:=A8 _ _ (by have:=BI BV 0 (by omega);simpa using this)
 have ET:∀ (E:Env) (w:World),(execOp (fun x=>(ρ x).den E) o).run P w= .ok (.value (.pointer (some ⟨w.heap.size,0,none⟩))) (w.alloc (.cells (AH E z).toArray t)):=by
  intro E w
  obtain⟨zv,hzr,qL⟩:=LP (E:=E) (P:=P) w hz
  simp only[execOp,CD]
  refine BB ?_
  simp only[Instr.alloc,Sem.run_bind,hzr,Result.andThen]
  simp [j_,qL]
 split at h
 ·rename_i len e _
  split at h
  rotate_left
  ·cases h
  rename_i a q hty hq
  split at h
  rotate_left
  ·cases h
  rename_i hc
  obtain⟨VA,rA,hlen⟩:=hc
  split at h
  rotate_left
  ·cases h
  rename_i xs u hp
  simp only[pr,AR,BP] at h
  obtain⟨rfl,rfl⟩:=h
  refine AU fun c w E hh hw=> ?_
  obtain⟨G,hG⟩:=hh
  obtain⟨l1,l2,l3⟩:=ZP (L:=L) (c:=c) (G:=G) (w:=w) (E:=E) _ _ _ _ hp (RM E hz) (X_ .XD)
  obtain⟨f1,f2,f3⟩:=Hd.fin hG HG (w' :=w.alloc (.cells (AH E z).toArray t)) (ty:=t) rfl ⟨rfl,rfl,rfl⟩ (a:=a) (xs:=xs) (cap:=len) BN (by simp [AL,l2]) (by omega) l3
  refine⟨_,_,_,ET E w,.inl ?_,f1,f2,rfl,⟨f3,by rw[Env.B6];show 0<xs.length;omega,by rw[Env.B6]⟩⟩
  simp only[SV.den,Env.B6]
  simp
 ·split at h
  rotate_left
  ·cases h
  simp only[pr,AR,BP] at h
  obtain⟨rfl,rfl⟩:=h
  refine AU fun c w E hh hw=> ?_
  obtain⟨G,hG⟩:=hh
  have hwz:∀ (E' :Env) (L' :AE),GV E' L' z/\AH E' z=AH E z:=by
   intro E' L'
   have:∀ (E1:Env) (L1:AE) (l:List Value),GV E1 L1 (l.map M6)/\AH E1 (l.map M6)=l:=fun E1 L1 l=>
    ⟨A3.2 fun v hv=>by obtain⟨u,_,rfl⟩:=DB.1 hv;exact pJ E1 u,PW l⟩
   unfold H2 at hz
   split at hz
   ·split at hz
    ·simp only[AR] at hz
     subst hz
     exact⟨(this _ _ _).1,by rw[(this E' L' _).2,(this E L _).2]⟩
    ·cases hz
   ·cases hz
  obtain⟨k1,k2⟩:=hG.VQ HG (w' :=w.alloc (.cells (AH E z).toArray t)) (ob:= .cells (AH E z).toArray t (0,0)) rfl ⟨rfl,rfl,rfl⟩ (e:= .box z) (m:=⟨w.heap.size,0,false,0,0,none⟩) rfl ⟨rfl,rfl,rfl⟩
   (fun BV hold hG BJ=>⟨rfl,rfl,hG,hold,⟨t,by rw[(hwz (E.set bs ⟨w.heap.size,0,false,0,0,none⟩) L).2,Nm.qY _ rfl rfl];exact BV⟩,(hwz _ _).1⟩)
  refine⟨_,_,_,ET E w,.inl ?_,⟨G,k1⟩,k2,rfl, ?_⟩
  ·simp only[SV.den,Env.B6]
  ·exact⟨.box z,by show look (BS L (bs,.box z)) bs=_;rw[AT (AJ HG),BQ rfl],rfl⟩
theorem AH4 {o:Oper} {ρ:Operand->SV} {t:TypeId} {x:Operand} (CD:o.op= .box t x) {bs:Nat} (A8:∀ n e,AI n=some e->look L n=some e) {v:SV} {BF:BH}
  (h:AC0 AI (ρ x) bs pr=some (v,BF)):BX TB P o ρ L v BF:=by
 unfold AC0 at h
 split at h
 rotate_left
 ·cases h
 rename_i hc
 obtain⟨hr,BV⟩:=hc
 have HG:look L bs=some .HP:=A8 _ _ (by have:=BI BV 0 (by omega);simpa using this)
 simp only[pr,AR,BP] at h
 obtain⟨rfl,rfl⟩:=h
 refine AU fun c w E hh hw=> ?_
 obtain⟨G,hG⟩:=hh
 have MM:=ZE (E:=E) (ρ x) hr
 have I4:∀ m:Nm,GV (E.set bs m) (BS L (bs,.box (AZ (ρ x)))) (AZ (ρ x))/\AH (E.set bs m) (AZ (ρ x))=AH E (AZ (ρ x)):=by
  intro m
  exact EH (fun n hn=>A1 rfl n hn) (fun n hn=>E.DR m (fun he=>CJ (he ▸ HG) hn)) _ (LW (hw x))
 obtain⟨k1,k2⟩:=hG.VQ HG (w' :=w.alloc (.cells (AH E (AZ (ρ x))).toArray t)) (ob:= .cells (AH E (AZ (ρ x))).toArray t (0,0)) rfl ⟨rfl,rfl,rfl⟩ (e:= .box (AZ (ρ x))) (m:=⟨w.heap.size,0,false,0,0,none⟩) rfl ⟨rfl,rfl,rfl⟩
  (fun BV hold hG BJ=>⟨rfl,rfl,hG,hold,⟨t,by rw[(I4 _).2,Nm.qY _ rfl rfl];exact BV⟩,(I4 _).1⟩)
 refine⟨w.alloc (.cells (AH E (AZ (ρ x))).toArray t),_,.value (.pointer (some ⟨w.heap.size,0,none⟩)), ?_,.inl ?_,⟨G,k1⟩,k2,rfl, ?_⟩
 ·simp only[execOp,CD]
  refine BB ?_
  simp [Instr.box,j_,MM]
 ·simp only[SV.den,Env.B6]
 ·exact⟨.box (AZ (ρ x)),by show look (BS L (bs,.box (AZ (ρ x)))) bs=_;rw[AT (AJ HG),BQ rfl],rfl⟩
end
theorem pK:∀ (vs cs:List SV) (off:Nat),off+vs.length<=cs.length->B5 cs off vs=cs.take off++vs++cs.drop (off+vs.length)
 | [],cs,off,h=>by simp [B5]
 |v::r,cs,off,h=>by
  simp only[hI] at h
  rw[B5,pK r _ _ (by rw[SR];omega)]
  have e1:(cs.set off v).take (off+1)=cs.take off++ [v]:=by
   rw[List.take_add_one,AD6 (by omega),List.take_set_of_le (HE _)]
   rfl
  rw[e1,List.drop_set_of_lt (by omega),hI,show off+1+r.length=off+(r.length+1) from by omega]
  simp
theorem AK.ALA {c:B4 TB} {G:Nat->Prop} {w:World} {E:Env} {L:AE} (h:AK c G w E L) {i j:Nat} {cs:List SV} (hi:look L i=some (.box cs)) (hj:look L j=some .HP) (off n:Nat) (hn:off+n<=cs.length):
  AK c G w (E.set j { A_:=(E.nm i).A_,off:=(E.nm i).off+off,nil:=false,len:=0,cap:=0,PN:=none,pp:=⟨(E.nm i).pp.pre++AH E (cs.take off),AH E (cs.drop (off+n))++(E.nm i).pp.post⟩ }) (BS (BS L (i,.dead)) (j,.box ((cs.drop off).take n))):=by
 obtain⟨h1,h2,h3,h4,⟨ty,h5⟩,h6⟩:=h.F0 i _ hi
 have dM:j≠i:=by rintro rfl;rw[hi] at hj;cases hj
 have hk:=h.kill (AJ hi)
 have tQ:look (BS L (i,.dead)) j=some .HP:=by rw[AT (AJ hi),BC dM];exact hj
 have I8:∀ k,Al L k->k≠j:=fun k hk he=>CJ hj (he ▸ hk)
 have BJ:∀ l,GV E L l->∀ m:Nm,GV (E.set j m) (BS (BS L (i,.dead)) (j,.box ((cs.drop off).take n))) l/\AH (E.set j m) l=AH E l:=fun l hl m=>
  EH (fun k hk=>A1 rfl k (A1 rfl k hk)) (fun k hk=>E.DR m (I8 k hk)) l hl
 have AHW:=A3.2 (fun v hv=>A3.1 h6 v (AFV (AFU hv)):∀ v∈(cs.drop off).take n,v.wf E L)
 refine hk.change (i:=j) (e' := .box ((cs.drop off).take n)) (w' :=w) (AJ tQ) (.refl _) (HE _) (fun hx=>absurd hx (CJ tQ)) rfl (fun _ _ _=>rfl) ?_ ?_ ?_
 ·intro b hb
  simp only[AO.own,AR] at hb
  subst hb
  exact⟨h4,h3⟩
 ·intro k f hkj hf b hb he
  simp only[AO.own,AR] at he
  rw[AT (AJ hi)] at hf
  by_cases X9:k=i
  ·subst X9;simp only[GJ,AR] at hf;subst hf;rcases hb with hb|⟨hb,_⟩|⟨hb,_⟩ <;> cases hb
  ·rw[BC X9] at hf
   exact h.inj k i f (.box cs) b X9 hf hi hb (.inl (by simp [AO.own,he]))
 ·intro _
  refine⟨rfl,by simp [h2,AL];omega,h3,h4,⟨ty, ?_⟩,(BJ _ AHW _).1⟩
  rw[(BJ _ AHW _).2,h5]
  congr 2
  simp only[Nm.arr]
  congr 1
  have e:cs=cs.take off++((cs.drop off).take n++cs.drop (off+n)):=by
   rw[<-List.drop_drop,List.take_append_drop,List.take_append_drop]
  conv=>lhs;rw[e]
  simp only[DO,hD]
theorem AK.ANN {c:B4 TB} {G:Nat->Prop} {w:World} {E:Env} {L:AE} (h:AK c G w E L) {i j:Nat} {cs ZF :List SV} (dM:i≠j) (hi:i<L.length) (hj:look L j=some (.box ZF)) (off:Nat) (hn:off+ZF.length<=cs.length)
  (hb:(E.nm j).A_=(E.nm i).A_) (ON:(E.nm i).nil=false) (ho:(E.nm i).off=(E.nm i).pp.pre.length)
  (ANO:(E.nm j).pp.pre=(E.nm i).pp.pre++AH E (cs.take off)) (ALB:(E.nm j).pp.post=AH E (cs.drop (off+ZF.length))++(E.nm i).pp.post) (oU:GV E L cs):
  AK c G w E (BS (BS L (j,.dead)) (i,.box (B5 cs off ZF))):=by
 obtain⟨h1,h2,h3,h4,⟨ty,h5⟩,h6⟩:=h.F0 j _ hj
 have hk:=h.kill (AJ hj)
 have RK:E.set i (E.nm i)=E:=by
  refine GW (fun k=> ?_) rfl (fun _=>rfl)
  by_cases hk:k=i
  ·subst hk;rw[Env.B6]
  ·exact E.DR _ hk
 have:=hk.change (i:=i) (e' := .box (B5 cs off ZF)) (m:=E.nm i) (w' :=w) (by rw[DG];exact hi) (.refl _) (HE _) (fun _=>rfl) rfl (fun _ _ _=>rfl) ?_ ?_ ?_
 ·rw[RK] at this;exact this
 ·intro b W_
  simp only[AO.own,AR] at W_
  subst W_
  rw[<-hb]
  exact⟨h4,h3⟩
 ·intro k f X9 hf b W_ he
  simp only[AO.own,AR] at he
  rw[AT (AJ hj)] at hf
  by_cases hkj:k=j
  ·subst hkj;simp only[GJ,AR] at hf;subst hf;rcases W_ with W_ |⟨W_,_⟩|⟨W_,_⟩ <;> cases W_
  ·rw[BC hkj] at hf
   exact h.inj k j f (.box ZF) b hkj hf hj W_ (.inl (by simp [AO.own,hb,he]))
 ·intro _
  rw[RK]
  refine⟨ON,ho,by rw[<-hb];exact h3,by rw[<-hb];exact h4,⟨ty, ?_⟩, ?_⟩
  ·rw[<-hb,h5]
   congr 2
   simp only[Nm.arr]
   rw[pK _ _ _ hn,ANO,ALB]
   simp only[DO,hD]
  ·refine (EH (fun k hk=>A1 rfl k (A1 rfl k hk)) (fun _ _=>rfl) _ ?_).1
   refine A3.2 fun u hu=> ?_
   rcases ZO hu with hu|hu
   ·exact A3.1 oU u hu
   ·exact A3.1 h6 u hu
theorem AEH {P:Program} {fi:FnI} {base:Nat} {AI:Nat->Option AO} {args:List SV} {v:SV} {BF:BH} (h:o7 fi base AI args (fun v u=>some (v,u))=some (v,BF)) {f:FuncId} (hc:CallsV P TB f fi)
  {L:AE} (A8:∀ n e,AI n=some e->look L n=some e) {c:B4 TB} {w:World} {E:Env} (hh:Hd c w E L) (hw:GV E L args):
  Calls P f (AH E args).toArray w (fun e w' =>∃ E',e= .returned (v.den E')/\Hd c w' E' (AD L BF)/\(∀ n,Al L n->E'.nm n=E.nm n/\Al (AD L BF) n)/\E'.ds=E.ds/\v.wf E' (AD L BF)):=by
 unfold o7 at h
 split at h
 ·exact j9 h hc A8 hh hw
 rename_i p i off n cs hf
 have hfp:I9 AI fi.ps args 0=some (p,i,off,n,cs):=by
  split at hf
  ·exact hf
  ·cases hf
 obtain⟨-,hap,hbx⟩:=fK _ _ _ hfp
 rw[Nat.sub_zero] at hap
 split at h
 rotate_left
 ·cases h
 rename_i uZ
 obtain⟨hn,BV⟩:=uZ
 generalize hj:base+(cnts fi.rs+OL fi.os)=j at h BV
 have hjr:=A8 _ _ (BI BV 0 (by omega))
 rw[JK] at hjr
 have hbi:=A8 _ _ hbx
 obtain⟨G,hG⟩:=hh
 obtain⟨h1,h2,h3,h4, -,h6⟩:=hG.F0 i _ hbi
 have hcv:=hG.ALA hbi hjr off n hn
 generalize hm:({ A_:=(E.nm i).A_,off:=(E.nm i).off+off,nil:=false,len:=0,cap:=0,PN:=none,pp:=⟨(E.nm i).pp.pre++AH E (cs.take off),AH E (cs.drop (off+n))++(E.nm i).pp.post⟩ }:Nm)=m at hcv
 have dM:j≠i:=by rintro rfl;rw[hbi] at hjr;cases hjr
 have I8:∀ k,Al L k->k≠j:=fun k hk he=>CJ hjr (he ▸ hk)
 have q_:∀ k,Al L k->Al (BS (BS L (i,.dead)) (j,.box ((cs.drop off).take n))) k:=fun k hk=>A1 rfl k (A1 rfl k hk)
 have BJ:∀ l,GV E L l->GV (E.set j m) (BS (BS L (i,.dead)) (j,.box ((cs.drop off).take n))) l/\AH (E.set j m) l=AH E l:=fun l hl=>
  EH q_ (fun k hk=>E.DR m (I8 k hk)) l hl
 have hjL:j<(BS L (i,AO.dead)).length:=by rw[DG];exact AJ hjr
 have y9:look (BS (BS L (i,.dead)) (j,.box ((cs.drop off).take n))) j=some (.box ((cs.drop off).take n)):=by rw[AT hjL,BQ rfl]
 have hi2:look (BS (BS L (i,.dead)) (j,.box ((cs.drop off).take n))) i=some .dead:=by rw[AT hjL,BC (fun he=>dM he.symm),AT (AJ hbi),BQ rfl]
 rw[RI,tV] at h
 obtain⟨⟨v0,u⟩,AAC,h⟩:=h
 simp only at h
 split at h
 rotate_left
 ·cases h
 rename_i ZF hlb
 split at h
 rotate_left
 ·cases h
 rename_i hlen
 simp only[AR,BP] at h
 obtain⟨rfl,rfl⟩:=h
 have EN:GV (E.set j m) (BS (BS L (i,.dead)) (j,.box ((cs.drop off).take n))) (args.set p (.loc j 0)):=by
  refine A3.2 fun x hx=> ?_
  rcases List.mem_or_eq_of_mem_set hx with hx|rfl
  ·exact A3.1 (BJ _ hw).1 x hx
  ·exact⟨_,y9,rfl⟩
 have VL:AH (E.set j m) (args.set p (.loc j 0))=AH E args:=by
  rw[VD]
  rw[(BJ _ hw).2]
  apply Q8
  intro k
  rw[xY]
  split
  ·rename_i hpk
   subst hpk
   rw[C5,hap]
   have CP:p<(AH E args).length:=by rw[AL];exact (qC.1 hap).1
   rw[BQ CP,XW]
   simp only[SV.den,Env.B6,←hm,JK]
  ·rfl
 have hr:=j9 AAC hc (L:=BS (BS L (i,.dead)) (j,.box ((cs.drop off).take n))) (fun k e he=>by
  split at he
  ·cases he
  ·rename_i X9
   split at he
   ·rename_i hkj
    subst hkj
    simp only[AR] at he
    subst he
    exact y9
   ·rename_i hkj
    rw[AT hjL,BC hkj,AT (AJ hbi),BC X9]
    exact A8 _ _ he) ⟨G,hcv⟩ EN
 rw[VL] at hr
 refine hr.mono ?_
 rintro e w' ⟨E',he,⟨G',hH⟩,hnm,hds,hv⟩
 have hj3:look (AD (BS (BS L (i,.dead)) (j,.box ((cs.drop off).take n))) u) j=some (.box ZF):=ZK j u (BS (BS L (i,.dead)) (j,.box ((cs.drop off).take n))) none (fun _ h=>by cases h) (by rw[DG];exact hjL) hlb
 have AJD:∀ k,Al L k->Al (AD (BS (BS L (i,.dead)) (j,.box ((cs.drop off).take n))) u) k:=fun k hk=>(hnm k (q_ k hk)).2
 have AJE:∀ k,Al L k->E'.nm k=E.nm k:=fun k hk=>by rw[(hnm k (q_ k hk)).1,E.DR m (I8 k hk)]
 have vP:E'.nm j=m:=by rw[(hnm j ⟨_,y9,rfl⟩).1,Env.B6]
 have M8:E'.nm i=E.nm i:=AJE i ⟨_,hbi,rfl⟩
 have oU:∀ l,(∀ x∈l,x∈cs)->GV E' (AD (BS (BS L (i,.dead)) (j,.box ((cs.drop off).take n))) u) l/\AH E' l=AH E l:=fun l hl=>
  EH AJD AJE l (A3.2 fun x hx=>A3.1 h6 x (hl x hx))
 have ALC:=hH.ANN (i:=i) (j:=j) (cs:=cs) (fun he=>dM he.symm) (AJ (AJD i ⟨_,hbi,rfl⟩).choose_spec.1) hj3 off (by rw[hlen];exact hn)
  (by rw[vP,M8,←hm]) (by rw[M8];exact h1) (by rw[M8];exact h2)
  (by rw[vP,M8,(oU _ (fun x hx=>AFU hx)).2,←hm]) (by rw[vP,M8,hlen,(oU _ (fun x hx=>AFV hx)).2,←hm]) (oU cs fun _ h=>h).1
 have eu:AD L ([(i,.dead),(j,.box ((cs.drop off).take n))]++(u++ [(j,.dead),(i,.box (B5 cs off ZF))]))=BS (BS (AD (BS (BS L (i,.dead)) (j,.box ((cs.drop off).take n))) u) (j,.dead)) (i,.box (B5 cs off ZF)):=by
  rw[A0,A0]
  rfl
 rw[eu]
 refine⟨E',he,⟨G',ALC⟩,fun k hk=>⟨AJE k hk,A1 rfl k (A1 rfl k (AJD k hk))⟩,hds, ?_⟩
 exact (QG (fun k hk=>A1 rfl k (A1 rfl k hk)) (fun _ _=>rfl) v0 hv).1
theorem AEI {P:Program} {d:Bool} {fi:FnI} {base:Nat} {AI:Nat->Option AO} {args:List SV} {v:SV} {BF:BH} (h:fL d fi base AI args (fun v u=>some (v,u))=some (v,BF)) {f:FuncId} (hc:CallsV P TB f fi)
  {L:AE} (A8:∀ n e,AI n=some e->look L n=some e) {c:B4 TB} {w:World} {E:Env} (hh:Hd c w E L) (hw:GV E L args):
  Calls P f (AH E args).toArray w (fun e w' =>∃ E',e= .returned (v.den E')/\Hd c w' E' (AD L BF)/\(∀ n,Al L n->E'.nm n=E.nm n/\Al (AD L BF) n)/\E'.ds=E.ds/\v.wf E' (AD L BF)):=by
 cases d
 ·unfold fL at h
  simp only at h
  split at h
  ·exact AEH h hc A8 hh hw
  ·exact AE0 h hc A8 hh hw
 ·exact ADZ h hc A8 hh hw
end Go.V3
namespace Go.V3
open Go
variable {TB:Tb}
section
variable {P:Program} {AI:Nat->Option AO} {L:AE}
def Rd {α:Type} (R:α->List Value->Prop) (sz:Nat) (w:World) (m:Nm) (xs:List α):Prop:=
 m.len=xs.length/\m.len<=m.cap/\(xs=[]\/(m.nil=false/\∃ arr ty fz,w.heap[m.A_]? =some (.cells arr ty fz)/\RowsIn R sz arr m.off xs))
theorem zB {α:Type} {R:α->List Value->Prop} {sz:Nat} {w:World} {m:Nm} {xs:List α} (h:Rd R sz w m xs) {lo n:Nat} (hl:lo+n<=m.len):
  Rd R sz w (if m.cap=lo then { A_:=m.A_,off:=m.off,nil:=m.nil,len:=n,cap:=m.cap-lo,PN:=m.PN,fz:=m.fz } else { A_:=m.A_,off:=m.off+lo*sz,nil:=m.nil,len:=n,cap:=m.cap-lo,PN:=XX m.PN (lo*sz),fz:=m.fz }) (DQ xs lo n):=by
 obtain⟨h1,h0,h2⟩:=h
 have hs:dK R sz (fun _=>True) w m xs:=⟨h1,h0,h2.imp id fun ⟨a,b⟩=>⟨a,trivial,b⟩⟩
 obtain⟨k1,k0,k2⟩:=aP hs hl
 exact⟨k1,k0,k2.imp id fun ⟨a,_,b⟩=>⟨a,b⟩⟩
theorem eH {α:Type} {R:α->List Value->Prop} {sz:Nat} {c:B4 TB} {G:Nat->Prop} {w:World} {m:Nm} {xs:List α} (h:Own R sz c G w m xs):Rd R sz w m xs:=by
 have hc:=XA h
 obtain⟨h1,h2,h3⟩:=h
 refine⟨h1,hc, ?_⟩
 rcases h3 with ⟨_,h4,_⟩|⟨h4,h5,h6,h7,arr,ty,h8,h9,tJ⟩
 ·exact .inl h4
 ·exact .inr ⟨h4,arr,ty,_,h8,tJ⟩
theorem AH5 {α:Type} {R:α->List Value->Prop} {sz:Nat} {c:B4 TB} {G:Nat->Prop} {w:World} {m:Nm} {xs:List α} (h:Own R sz c G w m xs) {n:Nat} (hn:n<=xs.length):Own R sz c G w (m.cut n) (DQ xs 0 n):=by
 obtain⟨h1,h2,h3⟩:=h
 have hl:(DQ xs 0 n).length=n:=by unfold DQ;simp;omega
 refine⟨hl.symm,h2, ?_⟩
 rcases h3 with ⟨h4,rfl,h6⟩|⟨h4,h5,h6,h7,arr,ty,h8,h9,tJ⟩
 ·exact .inl ⟨h4,by simp [DQ],h6⟩
 ·refine .inr ⟨h4,h5,h6,by show _<=m.cap;omega,arr,ty,h8,h9,fun k x hk=>tJ k x ?_⟩
  unfold DQ at hk
  rw[AA1,hC] at hk
  split at hk
  ·exact hk
  ·cases hk
theorem rB {α:Type} {R:α->List Value->Prop} {sz:Nat} {G:Nat->Prop} {w:World} {m:Nm} {xs:List α} (h:dK R sz G w m xs):Rd R sz w m xs:=
 ⟨h.1,h.2.1,h.2.2.imp id fun ⟨a,_,b⟩=>⟨a,b⟩⟩
theorem vQ {md:PM} {a:Ty} {v:SV} {xs:List a.T} {ne:NE} {u:BH} (h:IW md AI a v=some (xs,ne,u)) (hP:md≠ .own) (JM:PY AI v=false) {E:Env} (hv:v.wf E L) {G:Nat->Prop} {w:World}
  (h1:∀ i t ys,AI i=some (.shr t ys)\/AI i=some (.row t ys)->Rd (Rp G w t) t.sz w (E.nm i) ys):Rd (Rp G w a) a.sz w (ne.nm E) xs:=by
 unfold IW at h
 repeat' split at h
 all_goals first|(cases h;done)|skip
 all_goals (simp only[AR,BP] at h;obtain⟨rfl,rfl,rfl⟩:=h)
 all_goals first|exact absurd rfl hP|skip
 ·exact⟨rfl,HE _,.inl rfl⟩
 ·rename_i hl he _ _;subst he;exact h1 _ _ _ (.inl hl)
 ·rename_i hl he _;subst he;exact h1 _ _ _ (.inr hl)
 ·rename_i hl he _;subst he;exact h1 _ _ _ (.inr hl)
 ·rename_i hl he _;simp [PY,hl] at JM
 ·rename_i hl he _;simp [PY,hl] at JM
 ·rename_i hl he _;simp [PY,hl] at JM
 ·rename_i hl he _;simp [PY,hl] at JM
 ·rename_i hz _ _ _ hl he _ _;subst he;subst hz;exact zB (h1 _ _ _ (.inl hl)) hv.2
 ·rename_i hz _ _ _ hl he _;subst he;subst hz;exact zB (h1 _ _ _ (.inr hl)) hv.2
 ·rename_i hz _ _ _ hl he _;subst he;subst hz;exact zB (h1 _ _ _ (.inr hl)) hv.2
theorem ACG {G:Nat->Prop} {w:World} {a:Ty} {arr:Array Value} {off:Nat} {xs:List a.T} (h:RowsIn (Rp G w a) a.sz arr off xs) (hx:xs≠[]):off+xs.length*a.sz<=arr.size:=by
 have CP:xs.length-1<xs.length:=by
  cases xs with
  |nil=>exact absurd rfl hx
  |cons _ _=>simp
 have:=h (xs.length-1) _ (KA CP)
 have h2:=fO this.length (yD a)
 have e:(xs.length-1)*a.sz+a.sz=xs.length*a.sz:=by
  rw[<-Nat.succ_mul];congr 1;omega
 omega
theorem kH {G:Nat->Prop} {w:World} {a:Ty} {m:Nm} {xs:List a.T} (h:Rd (Rp G w a) a.sz w m xs):∃ cells:List Value,cells.length=xs.length*a.sz∧
  (∀ w' :World,w'.heap=w.heap->(Builtin.firstCells a.sz xs.length (.slice m.ad m.len m.cap)).run P w' = .ok cells.toArray w')∧
  (∀ (arr:Array Value) (o:Nat),A4 arr o (xs.length*a.sz)=cells->RowsIn (Rp G w a) a.sz arr o xs)/\Flat cells:=by
 obtain⟨h1,h0,h2⟩:=h
 rcases h2 with rfl|⟨hn,arr,ty,fz,h3,h4⟩
 ·refine⟨[],by simp,fun w' _=> ?_,fun arr o _ i x hx=>by simp at hx,fun v hv=>by cases hv⟩
  cases had:m.ad with
  |none=>rfl
  |some p=>
   have:=run_loadCells_list (P:=P) w' p [] (fun j v hj=>by simp at hj)
   show (loadCells p (0*a.sz)).run P w' =_
   rw[t_];exact this
 ·by_cases hx:xs=[]
  ·subst hx
   refine⟨[],by simp,fun w' _=> ?_,fun arr o _ i x hx=>by simp at hx,fun v hv=>by cases hv⟩
   cases had:m.ad with
   |none=>rfl
   |some p=>
    have:=run_loadCells_list (P:=P) w' p [] (fun j v hj=>by simp at hj)
    show (loadCells p (0*a.sz)).run P w' =_
    rw[t_];exact this
  ·have hs:=ACG h4 hx
   refine⟨A4 arr m.off (xs.length*a.sz),by unfold A4;simp;omega,fun w' hw' => ?_,fun UZ o he=>h4.u_ he, ?_⟩
   ·rw[<-h1]
    exact OM hn (by rw[hw'];exact h3) (by rw[h1];exact hs)
   ·intro v hv
    obtain⟨j,hj,rfl⟩:=ABG hv
    have pI:j<xs.length*a.sz:=by unfold A4 at hj;simp at hj;omega
    have ZD:=yD a
    have hq:j / a.sz<xs.length:=Nat.div_lt_of_lt_mul (by rw[Nat.mul_comm];exact pI)
    have hr:=h4 (j / a.sz) _ (KA hq)
    refine Rp.AAD a _ _ hr _ ?_
    have AJC:=Nat.div_add_mod j a.sz
    rw[Nat.mul_comm] at AJC
    have hml:=Nat.mod_lt j ZD
    have:(A4 arr (m.off+j / a.sz*a.sz) a.sz)[j%a.sz]? =(A4 arr m.off (xs.length*a.sz))[j]? :=by
     rw[BE,BE,BQ hml,BQ pI]
     congr 1;omega
    rw[KA hj] at this
    exact UY this
theorem XN {c:B4 TB} {G:Nat->Prop} {w:World} {E:Env} {bs:Nat} {a:Ty} {xs:List a.T} (BN:Bool) (hb:bs<L.length) (h:AK c G w E (BS L (bs,.row a xs))):
  Hd c w E (AD L (fin BN bs a xs))/\(∀ n,Al (BS L (bs,.row a xs)) n->Al (AD L (fin BN bs a xs)) n)/\Al (AD L (fin BN bs a xs)) bs:=by
 have A8:look (BS L (bs,.row a xs)) bs=some (.row a xs):=by rw[AT hb,BQ rfl]
 cases BN with
 |true=>exact⟨⟨G,h⟩,fun _ hn=>hn,⟨_,A8,rfl⟩⟩
 |false=>exact⟨⟨_,h.freeze A8⟩,fun n hn=>A1 rfl n hn,A1 rfl bs ⟨_,A8,rfl⟩⟩
set_option maxHeartbeats 1000000 in
theorem zC {o:Oper} {ρ:Operand->SV} {args:Array Operand} {ts:Array TypeId} (CD:o.op= .call { callee:= .builtin .append,args:=args,argTypes:=ts }) {x y:SV} (EN:args.toList.map ρ=[x,y])
  {BN:Bool} {bs:Nat} (A8:∀ n e,AI n=some e->look L n=some e) (JM:PY AI y=false) {v:SV} {BF:BH} (h:XL P AI ts.toList x y BN bs pr=some (v,BF)):BX TB P o ρ L v BF:=by
 unfold XL at h
 split at h
 rotate_left
 ·cases h
 rename_i t0 t1 zD
 split at h
 rotate_left
 ·cases h
 rename_i e e1 hu tP
 split at h
 rotate_left
 ·cases h
 rename_i q z a hq hz hty
 split at h
 rotate_left
 ·cases h
 rename_i hc
 obtain⟨zA,VA,hqb,BV⟩:=hc
 split at h
 rotate_left
 ·cases h
 rename_i xs ne1 u1 ys ne u2 mW tL
 split at h
 rotate_left
 ·cases h
 rename_i RE
 split at h
 rotate_left
 ·cases h
 rename_i hby
 simp only[pr,AR,BP] at h
 obtain⟨rfl,rfl⟩:=h
 have HG:look L bs=some .HP:=A8 _ _ (by have:=BI BV 0 (by omega);simpa using this)
 obtain⟨zv,hzv⟩:∃ zv,q.zero=some zv:=by
  unfold H2 at hz
  rw[hq] at hz
  simp only at hz
  split at hz
  ·exact⟨_,by assumption⟩
  ·cases hz
 have qL:zv.cells.size=a.sz:=by
  unfold H2 at hz
  rw[hq] at hz
  simp only[hzv,AR] at hz
  have:z.length=zv.cells.size:=by rw[<-hz];simp
  omega
 have iB:ts[0]? =some t0:=by rw[<-XT,zD];rfl
 have iC:ts[1]? =some t1:=by rw[<-XT,zD];rfl
 refine AU fun c w E hh hw=> ?_
 obtain⟨G,hG⟩:=hh
 have uN:∀ u∈[x,y],u.wf E L:=by
  rw[<-EN]
  intro u hu
  obtain⟨k,_,rfl⟩:=DB.1 hu
  exact hw k
 have hP:PM.S0≠ .own:=by simp
 have kG:∀ q∈u2,∃ t ys e,AI q.1=some e/\U0 e t ys/\q.2= .shr t ys:=by
  intro q VJ
  rcases dT tL with rfl|⟨i,t',ys',e',hl,xR,_,_,rfl⟩|hx
  ·cases VJ
  ·rw[LA] at VJ;subst VJ;exact⟨t',ys',e',hl,xR,rfl⟩
  ·exact absurd hx hP
 obtain⟨G1,k1,k2,k3,k4,k5⟩:=hG.known A8 kG
 have AJF:∀ i t zs,AI i=some (.shr t zs)\/AI i=some (.row t zs)->Rd (Rp G1 w t) t.sz w (E.nm i) zs:=by
  intro i t zs hl
  rcases hl with hl|hl
  ·exact rB (k3.shr i t zs hl)
  ·have:=hG.F0 i _ (A8 _ _ hl)
   have h2:=eH this
   exact⟨h2.1,h2.2.1,h2.2.2.imp id fun ⟨p1,arr,ty,fz,p2,p3⟩=>⟨p1,arr,ty,fz,p2,p3.imp fun x vs hx=>Rp.mono (fun _ _=>rfl) k5 t x vs hx⟩⟩
 have ALD:Rd (Rp G1 w a) a.sz w (ne.nm E) ys:=vQ tL hP JM (uN y (by simp)) AJF
 have hy:=dS tL E
 have bH:look (AD L u2) bs=some .HP:=by
  rw[k4 bs];exact HG
  intro hx
  obtain⟨q',VJ,he⟩:=DB.1 hx
  obtain⟨t',ys',e',hl,xR,_⟩:=kG q' VJ
  have:=A8 _ _ hl
  rw[he,HG] at this;cases this;cases xR
 have fP:∀ (w' :World) (r:Value) (X:Value),x.den E=X->(Builtin.append_ ts o.type #[X,.slice (ne.nm E).ad (ne.nm E).len (ne.nm E).cap]).run P w= .ok r w' ->(execOp (fun x=>(ρ x).den E) o).run P w= .ok (.value r) w' :=by
  intro w' r X hX hr
  have KM :(args.map fun x=>(ρ x).den E)= #[X,.slice (ne.nm E).ad (ne.nm E).len (ne.nm E).cap]:=by
   apply SS
   have:(args.toList.map ρ).map (SV.den E)=[X,.slice (ne.nm E).ad (ne.nm E).len (ne.nm E).cap]:=by rw[EN];simp [hX,hy]
   rw[PL] at this
   rw[dN]
   exact this
  simp only[execOp,CD,resolve,invoke,Sem.run_bind,Sem.run_pure,Result.andThen,KM,builtin,hr]
 obtain⟨news,n1,n2,n3,n4⟩:=kH (P:=P) ALD
 have PZ:=ALD.1
 have AAL:∀ (L2:AE) (od:Option Addr),AK c G1 w E L2->look L2 bs=some .HP->xs++ys=[]->AD L (u2++u1++fin BN bs a (xs++ys))=AD L2 (fin BN bs a (xs++ys))->(∀ n,Al L n->Al L2 n)→
   (execOp (fun x=>(ρ x).den E) o).run P w= .ok (.value (.slice od 0 0)) w→
   ∃ (w' :World) (E' :Env) (nx:Next),(execOp (fun x=>(ρ x).den E) o).run P w= .ok nx w' /\(nx= .value ((SV.H9 bs).den E')\/(nx= .skip/\(SV.H9 bs)=AQ))∧
   Hd c w' E' (AD L (u2++u1++fin BN bs a (xs++ys)))/\(∀ n,Al L n->E'.nm n=E.nm n/\Al (AD L (u2++u1++fin BN bs a (xs++ys))) n)/\E'.ds=E.ds/\(SV.H9 bs).wf E' (AD L (u2++u1++fin BN bs a (xs++ys))):=by
  intro L2 od hH hr ON kG I8 ET
  rw[kG,ON]
  have h1:=hH.change (i:=bs) (e' := .row a []) (m:=⟨0,0,true,0,0,od⟩) (w' :=w) (AJ hr) (.refl _) (HE _) (fun hx=>absurd hx (CJ hr)) rfl (fun _ _ _=>rfl) (fun b hb=>by cases hb) (fun _ _ _ _ _ _ hb=>by cases hb)
   (fun _=>⟨rfl,trivial,.inl ⟨rfl,rfl,rfl⟩⟩)
  obtain⟨f1,f2,f3⟩:=XN BN (AJ hr) h1
  refine⟨w,E.set bs ⟨0,0,true,0,0,od⟩,_,ET,.inl ?_,f1,fun n hn=>⟨E.DR _ (fun he=>CJ (he ▸ HG) hn),f2 n (A1 rfl n (I8 n hn))⟩,rfl,f3⟩
  simp [SV.den,Env.B6,Nm.ad]
 have vR:∀ (L2:AE) (m:Nm),AK c G1 w E L2->look L2 bs=some .HP->Rd (Rp G1 w a) a.sz w m xs->x.den E= .slice m.ad m.len m.cap->m.cap<m.len+(ne.nm E).len->AD L (u2++u1++fin BN bs a (xs++ys))=AD L2 (fin BN bs a (xs++ys))->(∀ n,Al L n->Al L2 n)→
   ∃ (w' :World) (E' :Env) (nx:Next),(execOp (fun x=>(ρ x).den E) o).run P w= .ok nx w' /\(nx= .value ((SV.H9 bs).den E')\/(nx= .skip/\(SV.H9 bs)=AQ))∧
   Hd c w' E' (AD L (u2++u1++fin BN bs a (xs++ys)))/\(∀ n,Al L n->E'.nm n=E.nm n/\Al (AD L (u2++u1++fin BN bs a (xs++ys))) n)/\E'.ds=E.ds/\(SV.H9 bs).wf E' (AD L (u2++u1++fin BN bs a (xs++ys))):=by
  intro L2 m hH hr rC hx kI kG I8
  rw[kG]
  obtain⟨olds,o1,o2,o3,o4⟩:=kH (P:=P) rC
  obtain⟨c',hc',ET⟩:=run_append_grow (P:=P) (w:=w) (ty:=o.type) (a:=m.ad) (b:=(ne.nm E).ad) (len:=m.len) (cap:=m.cap) (n:=(ne.nm E).len) (c:=(ne.nm E).cap) (news:=news) (olds:=olds) iB iC hu tP hq hzv hqb
   (by rw[VA];have:=n2 w.drew rfl;rw[PZ];rw[PZ] at this;exact this)
   (by rw[VA];have:=o2 w.drew rfl;rw[rC.1];rw[rC.1] at this;exact this) kI (by rw[rC.1,PZ];exact hby)
  have ZD:(olds.toArray++news.toArray++Builtin.zeroCells zv.cells (c' -(m.len+(ne.nm E).len))).size=c' *a.sz:=by
   have hzs:(Builtin.zeroCells zv.cells (c' -(m.len+(ne.nm E).len))).size=(c' -(m.len+(ne.nm E).len))*a.sz:=by
    simp [Builtin.zeroCells,qL]
   simp only[Array.size_append,hzs,List.size_toArray,o1,n1]
   rw[<-rC.1,←PZ,←Q9,←Q9]
   congr 1;omega
  have aZ:RowsIn (Rp G1 w a) a.sz (olds.toArray++news.toArray++Builtin.zeroCells zv.cells (c' -(m.len+(ne.nm E).len))) 0 (xs++ys):=by
   refine RowsIn.append (o3 _ _ ?_) ?_
   rotate_left
   rw[KB]
   refine n3 _ _ ?_
   rotate_left
   ·apply Q8
    intro j
    rw[BE]
    split
    ·rw[KB,tT (by simp;omega),tT (by simp;omega)];simp
    ·rw[N8 (by omega)]
   ·apply Q8
    intro j
    rw[BE]
    split
    ·rw[tT (by simp;omega),AIH (by simp;omega)]
     simp only[List.size_toArray,o1,g_]
     congr 1;omega
    ·rw[N8 (by omega)]
  obtain⟨h1,h2⟩:=hH.VQ hr (w' :=w.drew.alloc (.cells (olds.toArray++news.toArray++Builtin.zeroCells zv.cells (c' -(m.len+(ne.nm E).len))) e)) (ob:= .cells (olds.toArray++news.toArray++Builtin.zeroCells zv.cells (c' -(m.len+(ne.nm E).len))) e (0,0)) rfl ⟨rfl,rfl,rfl⟩ (e:= .row a (xs++ys)) (m:=⟨w.heap.size,0,false,(xs++ys).length,c',none⟩) rfl ⟨rfl,rfl,rfl⟩
   (fun BV hold hG BJ=>⟨rfl,trivial,.inr ⟨rfl,hG,hold,by have:=rC.1;simp;omega,_,e,BV,by rw[ZD];show 0+c' *a.sz<=_;omega,aZ.imp fun x vs hx=>Rp.mono BJ (fun _ h=>h) a x vs hx⟩⟩)
  obtain⟨f1,f2,f3⟩:=XN BN (AJ hr) h1
  refine⟨_,_,_,fP _ _ _ hx ET,.inl ?_,f1,fun n hn=>⟨E.DR _ (fun he=>CJ (he ▸ HG) hn),f2 n (A1 rfl n (I8 n hn))⟩,rfl,f3⟩
  have hlen:m.len+(ne.nm E).len=(xs++ys).length:=by rw[rC.1,PZ];simp
  simp [SV.den,Env.B6,Nm.ad,hlen]
 rcases uJ mW with ⟨rfl,rfl,rfl,rfl⟩|⟨i,zs,nn,hl,rfl,xS,ANP⟩
 ·
  have hxd:SV.GS.den E= .slice none 0 0:=rfl
  have pL:AD L (u2++ []++fin BN bs a ([]++ys))=AD (AD L u2) (fin BN bs a ([]++ys)):=by simp [A0]
  by_cases hn:ys=[]
  ·have eI:(ne.nm E).len=0:=by rw[PZ,hn];rfl
   refine AAL (AD L u2) none k1 bH (by simp [hn]) pL k2 ?_
   refine fP w _ _ hxd ?_
   have:=FJ (P:=P) (w:=w) (w' :=w) (ty:=o.type) (a:=none) (b:=(ne.nm E).ad) (len:=0) (cap:=0) (n:=(ne.nm E).len) (c:=(ne.nm E).cap) (news:=news) iB iC hu tP hq
    (by rw[VA];have:=n2 w rfl;rw[PZ];rw[PZ] at this;exact this) (by omega) rfl
   rw[eI] at this
   rw[eI];exact this
  ·refine vR (AD L u2) ⟨0,0,true,0,0,none⟩ k1 bH ⟨rfl,HE _,.inl rfl⟩ (by rw[hxd];rfl) ?_ pL k2
   have:0<ys.length:=by
    cases ys with
    |nil=>exact absurd rfl hn
    |cons _ _=>simp
   show 0<0+(ne.nm E).len
   omega
 ·
  have ANQ:i∉u2.map (·.1):=by
   intro hx
   obtain⟨q',VJ,he⟩:=DB.1 hx
   have:=Q7.1 RE (i,.dead) (by simp)
   have:=Q7.1 this q' VJ
   simp [he] at this
  have hli:look (AD L u2) i=some (.row a zs):=by rw[k4 i ANQ];exact A8 _ _ hl
  have AHX:=k1.F0 i _ hli
  obtain⟨hnn,ANR⟩:=ANP E L (uN x (by simp)) AHX.1
  have DV:=AH5 AHX hnn
  rw[<-xS] at DV
  have rC:=eH DV
  have hxd:x.den E= .slice ((E.nm i).cut nn).ad ((E.nm i).cut nn).len ((E.nm i).cut nn).cap:=ANR
  have RJ:=k1.kill (AJ hli)
  have hib:i≠bs:=by
   intro he;rw[he,bH] at hli;cases hli
  have rD:look (BS (AD L u2) (i,.dead)) bs=some .HP:=by rw[AT (AJ hli),BC (fun he=>hib he.symm)];exact bH
  have pL:AD L (u2++ [(i,.dead)]++fin BN bs a (xs++ys))=AD (BS (AD L u2) (i,.dead)) (fin BN bs a (xs++ys)):=by rw[A0,A0];rfl
  have q_:∀ n,Al L n->Al (BS (AD L u2) (i,.dead)) n:=fun n hn=>A1 rfl n (k2 n hn)
  by_cases kI:((E.nm i).cut nn).cap<((E.nm i).cut nn).len+(ne.nm E).len
  ·exact vR _ ((E.nm i).cut nn) RJ rD rC hxd kI pL q_
  ·obtain⟨p1,p2,p3⟩:=DV
   rcases p3 with ⟨p4,p5,p6⟩|⟨p4,p5,p6,p7,arr,ty,p8,p9,p10⟩
   ·
    have ALE:((E.nm i).cut nn).len=0:=by rw[p1,p5];rfl
    have eI:(ne.nm E).len=0:=by omega
    have hyn:ys=[]:=by
     cases ys with
     |nil=>rfl
     |cons _ _=>simp at PZ;omega
    refine AAL _ (E.nm i).PN RJ rD (by simp [p5,hyn]) pL q_ ?_
    refine fP w _ _ hxd ?_
    have hnw:news=[]:=by
     have:ys.length=0:=by rw[hyn];rfl
     exact AII.1 (by rw[n1,this,t_])
    have:=FJ (P:=P) (w:=w) (w' :=w) (ty:=o.type) (a:=(E.nm i).PN) (b:=(ne.nm E).ad) (len:=0) (cap:=0) (n:=(ne.nm E).len) (c:=(ne.nm E).cap) (news:=news) iB iC hu tP hq
     (by rw[VA];have:=n2 w rfl;rw[PZ];rw[PZ] at this;exact this) (by omega) (by rw[hnw];split <;> rfl)
    rw[eI] at this
    have had:((E.nm i).cut nn).ad=(E.nm i).PN:=by unfold Nm.ad;rw[BQ p4];rfl
    rw[had,ALE,p6,eI];exact this
   ·
    have ANS:((E.nm i).cut nn).len+(ne.nm E).len<=((E.nm i).cut nn).cap:=by omega
    have hmul:(xs.length+ys.length)*a.sz<=((E.nm i).cut nn).cap*a.sz:=qE _ (by omega)
    rw[Q9] at hmul
    obtain⟨w',s1,s2,s3,s4,s5⟩:=E_ (P:=P) (off:=((E.nm i).cut nn).off+((E.nm i).cut nn).len*a.sz) news w arr 0 (fun j hj=>((E.nm i).cut nn).jT hj) p8 n4 (by rw[n1,p1];omega)
    rw[JK] at s4
    have ET:=FJ (P:=P) (w:=w) (w' :=w') (ty:=o.type) (a:=((E.nm i).cut nn).ad) (b:=(ne.nm E).ad) (len:=((E.nm i).cut nn).len) (cap:=((E.nm i).cut nn).cap) (n:=(ne.nm E).len) (c:=(ne.nm E).cap) (news:=news) iB iC hu tP hq
     (by rw[VA];have:=n2 w rfl;rw[PZ];rw[PZ] at this;exact this) ANS (by
      simp only[Nm.ad,p4,XU,Q_]
      rw[VA,DJ];exact s1)
    have hGs:∀ b,G1 b->w'.heap[b]? =w.heap[b]? :=fun b hb=>s5 b (fun he=>p5 (he ▸ hb))
    have aZ:RowsIn (Rp G1 w' a) a.sz (ZL arr (((E.nm i).cut nn).off+((E.nm i).cut nn).len*a.sz) news) ((E.nm i).cut nn).off (xs++ys):=by
     refine RowsIn.imp (R:=Rp G1 w a) ?_ (fun x vs hx=>Rp.mono hGs (fun _ h=>h) a x vs hx)
     refine RowsIn.append (p10.u_ ?_) (n3 _ _ ?_)
     ·rw[p1,T6];omega
     ·rw[p1,←n1,VO];omega
    have h1:=RJ.change (i:=bs) (e' := .row a (xs++ys)) (m:={ A_:=((E.nm i).cut nn).A_,off:=((E.nm i).cut nn).off,nil:=false,len:=(xs++ys).length,cap:=((E.nm i).cut nn).cap,PN:=none,fz:=(E.nm i).fz }) (w' :=w') (AJ rD) s2 (by omega) (fun hx=>absurd hx (CJ rD)) rfl
     (fun b _ hb=>s5 b (fun he=>hb (by simp [AO.own,he])))
     (fun b hb=>by simp only[AO.own,XU,Q_,AR] at hb;subst hb;exact⟨p6,p5⟩)
     (by
      intro k f hk hf b hb he
      simp only[AO.own,XU,Q_,AR] at he
      rw[AT (AJ hli)] at hf
      by_cases X9:k=i
      ·subst X9;simp only[GJ,AR] at hf;subst hf;rcases hb with hb|⟨hb,_⟩|⟨hb,_⟩ <;> cases hb
      ·rw[BC X9] at hf
       refine k1.inj k i f _ b X9 hf hli hb (.inl ?_)
       have p4' :(E.nm i).nil=false:=p4
       have he' :(E.nm i).A_=b:=he
       simp [AO.own,p4',he'])
     (fun _=>⟨rfl,trivial,.inr ⟨rfl,p5,p6,by simp;omega,ZL arr (((E.nm i).cut nn).off+((E.nm i).cut nn).len*a.sz) news,ty,by rw[I_];exact s4,by rw[I_];exact p9,aZ⟩⟩)
    obtain⟨f1,f2,f3⟩:=XN BN (AJ rD) h1
    rw[pL]
    refine⟨w',_,_,fP _ _ _ hxd ET,.inl ?_,f1,fun n hn=>⟨E.DR _ (fun he=>CJ (he ▸ HG) hn),f2 n (A1 rfl n (q_ n hn))⟩,rfl,f3⟩
    have hlen:((E.nm i).cut nn).len+(ne.nm E).len=(xs++ys).length:=by rw[p1,PZ];simp
    simp [SV.den,Env.B6,Nm.ad,hlen,p4]
def hdr (m:Nm):Value:= .slice m.ad m.len m.cap
theorem zE {a:Ty} {v:SV} {xs:List (List a.T)} {u:BH} (h:vC AI a v=some (xs,u)):(v= .GS/\xs=[]/\u=[])\/∃ i,v= .H9 i/\AI i=some (.deep a xs none)/\u=[(i,.dead)]:=by
 unfold vC at h
 split at h
 ·simp only[AR,BP] at h
  obtain⟨rfl,rfl⟩:=h
  exact .inl ⟨rfl,rfl,rfl⟩
 ·split at h
  rotate_left
  ·cases h
  rename_i t xss hl
  split at h
  rotate_left
  ·cases h
  rename_i he
  subst he
  simp only[AR,BP] at h
  obtain⟨rfl,rfl⟩:=h
  exact .inr ⟨_,rfl,hl,rfl⟩
 ·cases h
structure AEJ (P:Program) (c:B4 TB) (G:Nat->Prop) (w:World) (m:Nm) (l:List Nat) (a:Ty) (xs:List (List a.T)) (hs:Nat->Nm):Prop where
 rd:∀ w' :World,w'.heap=w.heap->(Builtin.firstCells 1 xs.length (.slice m.ad m.len m.cap)).run P w' = .ok ((List.range xs.length).map fun k=>hdr (hs k)).toArray w'
 inn:∀ k v,xs[k]? =some v->DC (Rp G w a) a.sz w (hs k) v/\((hs k).nil=false->(hs k).A_∈l/\(m.nil=false->(hs k).A_≠m.A_))
 dis:∀ k k',k<xs.length->k' <xs.length->k≠k' ->(hs k).nil=false->(hs k').nil=false->(hs k).A_≠(hs k').A_
theorem C8.kJ {c:B4 TB} {G:Nat->Prop} {w:World} {E:Env} {m:Nm} {l:List Nat} {a:Ty} {xs:List (List a.T)} (d:C8 c G w E L m l a xs none):∃ hs,AEJ P c G w m l a xs hs∧
  (m.nil=false->∃ arr ty,w.heap[m.A_]? =some (.cells arr ty (0,0))/\arr.size=m.cap/\xs.length<=m.cap/\m.A_∈l/\∀ k,k<xs.length->arr[k]? =some (hdr (hs k))):=by
 have IF:∀ k' j,(none:Option (Nat×Nat))≠some (k',j):=fun _ _ he=>by cases he
 rcases d.cs with ⟨h1,h2,h3⟩|⟨h1,h2,h3,arr,ty,hs,h4,h5,h6,h7,h8,h9⟩
 ·subst h2
  refine⟨fun _=>⟨0,0,true,0,0,none⟩,⟨fun w' hw=> ?_,fun k v hk=>by simp at hk,fun k k' hk=>by simp at hk⟩,fun hn=>by rw[h1] at hn;cases hn⟩
  cases m.ad with
  |none=>rfl
  |some p=>
   have:=run_loadCells_list (P:=P) w' p [] (fun j v hj=>by simp at hj)
   exact this
 ·refine⟨hs,⟨fun w' hw=> ?_,fun k v hk=> ?_,fun k k' hk OA h_=>h8 k k' hk OA h_ (IF _) (IF _)⟩,fun _=>⟨arr,ty,h4,h5,h3,h2,h6⟩⟩
  ·have hm:m.len=xs.length:=d.len
   have hr:=OM (P:=P) (w:=w') (size:=1) h1 (by rw[hw];exact h4) (by rw[d.off];omega)
   rw[hm] at hr ⊢
   rw[hr]
   congr 2
   apply Q8
   intro j
   rw[BE,d.off]
   by_cases hj:j<xs.length
   ·rw[BQ (by omega),KB,h6 j hj]
    simp [hj,hdr]
   ·rw[BC (by omega),N8 (by simp;omega)]
  ·obtain⟨q1,q2⟩:=h7 k v hk (IF k)
   exact⟨q1,fun hx=>⟨(q2 hx).1,fun _=>(q2 hx).2⟩⟩
theorem C8.join {c:B4 TB} {G:Nat->Prop} {w w' :World} {E' :Env} {L' :AE} {a:Ty} {xs ys:List (List a.T)} {hx hy:Nat->Nm} {mx my m:Nm} {lx ly l:List Nat} (kx:AEJ P c G w mx lx a xs hx) (ky:AEJ P c G w my ly a ys hy)
  (h1:m.len=(xs++ys).length) (h2:m.off=0) (h3:m.nil=false) (h4:m.A_∈l) (h5:(xs++ys).length<=m.cap) (JM:l.Nodup) (hR:∀ b∈l,¬G b/\¬c.Old b/\∃ arr ty fz,w'.heap[b]? =some (.cells arr ty fz))
  {arr:Array Value} {ty:TypeId} (ha:w'.heap[m.A_]? =some (.cells arr ty (0,0))) (ZD:arr.size=m.cap)
  (hc:∀ k,k<(xs++ys).length->arr[k]? =some (hdr (if k<xs.length then hx k else hy (k-xs.length))))
  (hsx:∀ b∈lx,b∈l) (hsy:∀ b∈ly,b∈l) (RE:∀ b∈lx,b∉ly) (hmx:m.A_∈lx->mx.nil=false/\m.A_=mx.A_) (hmy:m.A_∉ly)
  (hw:∀ b,b∈lx\/b∈ly->b≠m.A_->w'.heap[b]? =w.heap[b]?) (hG:∀ b,G b->w'.heap[b]? =w.heap[b]?):C8 c G w' E' L' m l a (xs++ys) none:=by
 have KF:∀ k v,xs[k]? =some v->(hx k).nil=false->(hx k).A_≠m.A_:=by
  intro k v hk hn he
  obtain⟨q1,q2⟩:=(kx.inn k v hk).2 hn
  obtain⟨r1,r2⟩:=hmx (he ▸ q1)
  exact q2 r1 (he.trans r2)
 have AEK:∀ k v,ys[k]? =some v->(hy k).nil=false->(hy k).A_≠m.A_:=by
  intro k v hk hn he
  exact hmy (he ▸ ((ky.inn k v hk).2 hn).1)
 refine⟨h1,h2,JM,hR,.inr ⟨h3,h4,h5,arr,ty,fun k=>if k<xs.length then hx k else hy (k-xs.length),ha,ZD,hc, ?_, ?_,fun _ _ he=>by cases he⟩⟩
 ·intro k v hk _
  dsimp only
  by_cases aI:k<xs.length
  ·rw[BQ aI]
   rw[QE aI] at hk
   obtain⟨q1,q2⟩:=kx.inn k v hk
   exact⟨q1.mono (fun x vs hx=>Rp.mono hG (fun _ h=>h) a x vs hx) (fun hn=>hw _ (.inl (q2 hn).1) (KF k v hk hn)),fun hn=>⟨hsx _ (q2 hn).1,KF k v hk hn⟩⟩
  ·rw[BC aI]
   rw[OG (by omega)] at hk
   obtain⟨q1,q2⟩:=ky.inn _ v hk
   exact⟨q1.mono (fun x vs hx=>Rp.mono hG (fun _ h=>h) a x vs hx) (fun hn=>hw _ (.inr (q2 hn).1) (AEK _ v hk hn)),fun hn=>⟨hsy _ (q2 hn).1,AEK _ v hk hn⟩⟩
 ·intro i j hi hj dM _ _ M8 vP
  dsimp only at M8 vP ⊢
  rw[qF] at hi hj
  by_cases hix:i<xs.length
  ·rw[BQ hix] at M8 ⊢
   by_cases zF:j<xs.length
   ·rw[BQ zF] at vP ⊢
    exact kx.dis i j hix zF dM M8 vP
   ·rw[BC zF] at vP ⊢
    intro he
    have q1:=((kx.inn i _ (KA hix)).2 M8).1
    have q2:=((ky.inn (j-xs.length) _ (KA (by omega))).2 vP).1
    exact RE _ q1 (he ▸ q2)
  ·rw[BC hix] at M8 ⊢
   have q2:=((ky.inn (i-xs.length) _ (KA (by omega))).2 M8).1
   by_cases zF:j<xs.length
   ·rw[BQ zF] at vP ⊢
    intro he
    have q1:=((kx.inn j _ (KA zF)).2 vP).1
    exact RE _ q1 (he ▸ q2)
   ·rw[BC zF] at vP ⊢
    exact ky.dis _ _ (by omega) (by omega) (by omega) M8 vP
set_option maxHeartbeats 1000000 in
theorem fQ {o:Oper} {ρ:Operand->SV} {args:Array Operand} {ts:Array TypeId} (CD:o.op= .call { callee:= .builtin .append,args:=args,argTypes:=ts }) {x y:SV} (EN:args.toList.map ρ=[x,y])
  {bs:Nat} (A8:∀ n e,AI n=some e->look L n=some e) {v:SV} {BF:BH} (h:NT P AI ts.toList x y true bs pr=some (v,BF)):BX TB P o ρ L v BF:=by
 unfold NT at h
 split at h
 rotate_left
 ·cases h
 rename_i t0 t1 zD
 split at h
 rotate_left
 ·cases h
 rename_i e e1 hu tP
 split at h
 rotate_left
 ·cases h
 rename_i q a hq hz hty
 split at h
 rotate_left
 ·cases h
 rename_i hc
 obtain⟨eG,hqb,BV⟩:=hc
 split at h
 rotate_left
 ·cases h
 rename_i xs u1 ys u2 mW tL
 split at h
 rotate_left
 ·cases h
 rename_i RE
 split at h
 rotate_left
 ·cases h
 rename_i hby
 simp only[pr,AGV,Y_,AR,BP] at h
 obtain⟨rfl,rfl⟩:=h
 have HG:look L bs=some .HP:=A8 _ _ (by have:=BI BV 0 (by omega);simpa using this)
 obtain⟨zv,hzv,zA⟩:∃ zv,q.zero=some zv/\zv.cells.toList.map M6=[.GS]:=by
  unfold H2 at hz
  rw[hq] at hz
  simp only at hz
  split at hz
  ·simp only[AR] at hz
   exact⟨_,by assumption,hz⟩
  ·cases hz
 have qL:zv.cells= #[.slice none 0 0]:=by
  have:=PW (E:=⟨fun _=>⟨0,0,true,0,0,none⟩,fun _=>undef⟩) zv.cells.toList
  rw[zA] at this
  apply SS
  exact this.symm
 have iB:ts[0]? =some t0:=by rw[<-XT,zD];rfl
 have iC:ts[1]? =some t1:=by rw[<-XT,zD];rfl
 refine AU fun c w E hh hw=> ?_
 obtain⟨G,hG⟩:=hh
 have side:∀ (v:SV) (zs:List (List a.T)) (u:BH),vC AI a v=some (zs,u)->∃ (m:Nm) (l:List Nat),v.den E= .slice m.ad m.len m.cap/\C8 c G w E L m l a zs none∧
   ((u=[]/\l=[]/\m.nil=true)\/∃ i,look L i=some (.deep a zs none)/\u=[(i,.dead)]/\l=E.ins.l i):=by
  intro v zs u hv
  rcases zE hv with ⟨rfl,rfl,rfl⟩|⟨i,rfl,hl,rfl⟩
  ·exact⟨⟨0,0,true,0,0,none⟩,[],rfl,⟨rfl,rfl,jS,(fun b hb=>(by cases hb)),.inl ⟨rfl,rfl,rfl⟩⟩,.inl ⟨rfl,rfl,rfl⟩⟩
  ·exact⟨E.nm i,E.ins.l i,rfl,hG.dp i _ _ _ (A8 _ _ hl),.inr ⟨i,A8 _ _ hl,rfl,rfl⟩⟩
 obtain⟨mx,lx,hxd,dx,sx⟩:=side x xs u1 mW
 obtain⟨my,ly,hyd,dy,sy⟩:=side y ys u2 tL
 obtain⟨hx,kx,ax⟩:=dx.kJ (P:=P)
 obtain⟨hy,ky,ay⟩:=dy.kJ (P:=P)
 obtain⟨hH,bH,I8,AEL,AEM,hxy⟩:AK c G w E (AD L (u1++u2))/\look (AD L (u1++u2)) bs=some .HP/\(∀ n,Al L n->Al (AD L (u1++u2)) n)/\(∀ b∈lx,FT E (AD L (u1++u2)) b)/\(∀ b∈ly,FT E (AD L (u1++u2)) b)/\(∀ b∈lx,b∉ly):=by
  have kK:∀ (L:AE),AK c G w E L->∀ (i:Nat) (zs:List (List a.T)),look L i=some (.deep a zs none)->look L bs=some .HP->AK c G w E (AD L [(i,.dead)])/\look (AD L [(i,.dead)]) bs=some .HP/\(∀ n,Al L n->Al (AD L [(i,.dead)]) n)/\(∀ b∈E.ins.l i,FT E (AD L [(i,.dead)]) b):=by
   intro L hG i zs hi hb
   have hib:bs≠i:=by rintro rfl;rw[hi] at hb;cases hb
   refine⟨hG.kill (AJ hi), ?_,fun n hn=>A1 rfl n hn,fun b hbm=>ZQ hG hi (AO.C9.2 hbm)⟩
   show look (BS L (i,.dead)) bs=_
   rw[AT (AJ hi),BC hib];exact hb
  rcases sx with ⟨rfl,rfl,_⟩|⟨i,hi,rfl,rfl⟩
  ·rcases sy with ⟨rfl,rfl,_⟩|⟨j,hj,rfl,rfl⟩
   ·exact⟨hG,HG,fun _ h=>h,(fun b hb=>(by cases hb)),(fun b hb=>(by cases hb)),(fun b hb=>(by cases hb))⟩
   ·obtain⟨k1,k2,k3,k4⟩:=kK L hG j _ hj HG
    exact⟨k1,k2,k3,(fun b hb=>(by cases hb)),k4,(fun b hb=>(by cases hb))⟩
  ·obtain⟨k1,k2,k3,k4⟩:=kK L hG i _ hi HG
   rcases sy with ⟨rfl,rfl,_⟩|⟨j,hj,rfl,rfl⟩
   ·exact⟨k1,k2,k3,k4,(fun b hb=>(by cases hb)),(fun b _ hb=>(by cases hb))⟩
   ·have dM:i≠j:=by
     rintro rfl
     have:=Q7.1 RE (i,.dead) (by simp)
     simp at this
    have tQ:look (AD L [(i,.dead)]) j=some (.deep a ys none):=by
     show look (BS L (i,.dead)) j=_
     rw[AT (AJ hi),BC (fun he=>dM he.symm)];exact hj
    obtain⟨q1,q2,q3,q4⟩:=kK _ k1 j _ tQ k2
    rw[<-A0] at q1 q2 q3 q4
    refine⟨q1,q2,fun n hn=>q3 n (k3 n hn), ?_,q4,fun b hb W_ =>hG.inj i j _ _ b dM hi hj (AO.C9.2 hb) (AO.C9.2 W_)⟩
    intro b hb
    rw[A0]
    exact (k4 b hb).kill (AJ tQ)
 have fP:∀ (w' :World) (r:Value),(Builtin.append_ ts o.type #[.slice mx.ad mx.len mx.cap,.slice my.ad my.len my.cap]).run P w= .ok r w' ->(execOp (fun x=>(ρ x).den E) o).run P w= .ok (.value r) w' :=by
  intro w' r hr
  have KM :(args.map fun x=>(ρ x).den E)= #[.slice mx.ad mx.len mx.cap,.slice my.ad my.len my.cap]:=by
   apply SS
   have:(args.toList.map ρ).map (SV.den E)=[.slice mx.ad mx.len mx.cap,.slice my.ad my.len my.cap]:=by rw[EN];simp [hxd,hyd]
   rw[PL] at this
   rw[dN]
   exact this
  simp only[execOp,CD,resolve,invoke,Sem.run_bind,Sem.run_pure,Result.andThen,KM,builtin,hr]
 have iA:=dx.len
 have eI:=dy.len
 have zG:∀ (w' :World) (m:Nm) (l:List Nat),Rest w w' ->w.heap.size<=w'.heap.size->(∀ b,b<w.heap.size->b∉l->w'.heap[b]? =w.heap[b]?)->(∀ b∈l,FT E (AD L (u1++u2)) b)->(∀ (E' :Env) (L' :AE),C8 c G w' E' L' m l a (xs++ys) none)→
   (Builtin.append_ ts o.type #[.slice mx.ad mx.len mx.cap,.slice my.ad my.len my.cap]).run P w= .ok (.slice m.ad m.len m.cap) w' →
   ∃ (w' :World) (E' :Env) (nx:Next),(execOp (fun x=>(ρ x).den E) o).run P w= .ok nx w' /\(nx= .value ((SV.H9 bs).den E')\/(nx= .skip/\(SV.H9 bs)=AQ))∧
   Hd c w' E' (AD L (u1++u2++ [(bs,.deep a (xs++ys) none)]))/\(∀ n,Al L n->E'.nm n=E.nm n/\Al (AD L (u1++u2++ [(bs,.deep a (xs++ys) none)])) n)/\E'.ds=E.ds/\(SV.H9 bs).wf E' (AD L (u1++u2++ [(bs,.deep a (xs++ys) none)])):=by
  intro w' m l r1 r2 r3 r4 r5 r6
  obtain⟨g1,g2,g3,g4⟩:=hH.AAK bH r1 r2 r3 r4 r5
  have eu:AD L (u1++u2++ [(bs,.deep a (xs++ys) none)])=BS (AD L (u1++u2)) (bs,.deep a (xs++ys) none):=by rw[A0];rfl
  rw[eu]
  refine⟨w',_,_,fP _ _ r6,.inl ?_,⟨G,g1⟩,fun n hn=>g2 n (I8 n hn),rfl,g3⟩
  simp only[SV.den];rw[g4]
 by_cases kI:mx.cap<mx.len+my.len
 ·
  obtain⟨c',hc',ET⟩:=run_append_grow (P:=P) (w:=w) (ty:=o.type) (a:=mx.ad) (b:=my.ad) (len:=mx.len) (cap:=mx.cap) (n:=my.len) (c:=my.cap) iB iC hu tP hq hzv hqb
   (by rw[eG,eI,←eI];have:=ky.rd w.drew rfl;rw[<-eI] at this;exact this)
   (by rw[eG,iA,←iA];have:=kx.rd w.drew rfl;rw[<-iA] at this;exact this) kI (by rw[iA,eI];exact hby)
  have hold:¬c.Old w.heap.size:=fun hx=>by have:=hx.1;have:=hG.size;omega
  have hGn:¬G w.heap.size:=fun hx=>by have:=hG.jY _ hx;omega
  have BJ:∀ (ob:Obj) (b:Nat),b<w.heap.size->((w.drew).alloc ob).heap[b]? =w.heap[b]? :=by
   intro ob b hb
   show (w.heap.push ob)[b]? =_
   rw[jQ,BC (by omega)]
  have MT:∀ (ob:Obj),((w.drew).alloc ob).heap[w.heap.size]? =some ob:=by
   intro ob
   show (w.heap.push ob)[w.heap.size]? =_
   simp
  have rE:∀ b∈lx,b<w.heap.size:=fun b hb=>by obtain⟨_,_,_,_,_,h⟩:=dx.all b hb;exact LR h
  have rF:∀ b∈ly,b<w.heap.size:=fun b hb=>by obtain⟨_,_,_,_,_,h⟩:=dy.all b hb;exact LR h
  refine zG _ ⟨w.heap.size,0,false,mx.len+my.len,c',none⟩ (w.heap.size::(lx++ly)) ?_ ?_ ?_ ?_ ?_ ET
  ·exact⟨rfl,rfl,rfl⟩
  ·show _<=(w.heap.push _).size;simp
  ·exact fun b hb _=>BJ _ b hb
  ·intro b hb
   rcases MK.1 hb with rfl|hb
   ·exact OC hH
   ·rcases DU.1 hb with hb|hb
    ·exact AEL b hb
    ·exact AEM b hb
  ·intro E' L'
   refine C8.join kx ky (by simp [iA,eI]) rfl rfl (by simp) (by simp [<-iA,←eI];exact hc') ?_ ?_ (MT _) ?_ ?_ (fun b hb=>by simp [hb]) (fun b hb=>by simp [hb]) hxy (fun hm=> ?_) (fun hm=> ?_) (fun b hb _=>BJ _ b (hb.elim (rE b) (rF b))) (fun b hb=>BJ _ b (hG.jY b hb))
   ·refine hJ.2 ⟨fun hm=> ?_,SQ.2 ⟨dx.nd,dy.nd,fun b hb b' W_ he=>hxy b hb (he ▸ W_)⟩⟩
    rcases DU.1 hm with hm|hm
    ·have:=rE _ hm;omega
    ·have:=rF _ hm;omega
   ·intro b hb
    rcases MK.1 hb with rfl|hb
    ·exact⟨hGn,hold,_,_,_,MT _⟩
    ·rcases DU.1 hb with hb|hb
     ·obtain⟨q1,q2,arr,ty,fz,q3⟩:=dx.all b hb
      exact⟨q1,q2,arr,ty,fz,by rw[BJ _ b (rE b hb)];exact q3⟩
     ·obtain⟨q1,q2,arr,ty,fz,q3⟩:=dy.all b hb
      exact⟨q1,q2,arr,ty,fz,by rw[BJ _ b (rF b hb)];exact q3⟩
   ·simp [Builtin.zeroCells,qL]
    omega
   ·intro k hk
    rw[qF] at hk
    rw[tT (by simp;omega)]
    by_cases aI:k<xs.length
    ·rw[BQ aI,tT (by simp;omega)]
     simp [AFW (show k<mx.len by omega)]
    ·rw[BC aI,AIH (by simp;omega)]
     have PJ:k-xs.length<my.len:=by omega
     simp [iA,AFW PJ]
   ·have:=rE _ hm;simp at this
   ·have:=rF _ hm;simp at this
 ·
  cases hnx:mx.nil with
  |true=>
   rcases dx.cs with ⟨_,h2,h3⟩|⟨h1,_⟩
   rotate_left
   ·rw[hnx] at h1;cases h1
   have hx0:mx.len=0:=by rw[iA,h2];rfl
   have hy0:my.len=0:=by omega
   have hys:ys=[]:=by
    cases ys with
    |nil=>rfl
    |cons _ _=>simp at eI;omega
   have rG:mx.ad=mx.PN:=by simp [Nm.ad,hnx]
   have ET:=FJ (P:=P) (w:=w) (w' :=w) (ty:=o.type) (a:=mx.PN) (b:=my.ad) (len:=0) (cap:=0) (n:=my.len) (c:=my.cap) (news:=[]) iB iC hu tP hq
    (by rw[eG];have:=ky.rd w rfl;rw[<-eI,hy0] at this;rw[hy0];exact this) (by omega) (by split <;> rfl)
   refine zG w ⟨0,0,true,0,0,mx.PN⟩ [] (.refl _) (HE _) (fun _ _ _=>rfl) (fun b hb=>(by cases hb)) (fun E' L' =>⟨by simp [h2,hys],rfl,jS,(fun b hb=>(by cases hb)),.inl ⟨rfl,by simp [h2,hys],rfl⟩⟩) ?_
   rw[rG,hx0,h3,ET,hy0]
   rfl
  |false=>
   obtain⟨arr,ty,p1,p2,p3,p4,p5⟩:=ax hnx
   have hnl:((List.range ys.length).map fun k=>hdr (hy k)).length=ys.length:=by simp
   obtain⟨w',s1,s2,s3,s4,s5⟩:=KJ (P:=P) (off:=mx.len) ((List.range ys.length).map fun k=>hdr (hy k)) w arr 0 p1 (by
     intro u hu
     obtain⟨k,_,rfl⟩:=DB.1 hu
     exact⟨fun c h=>(by cases h),fun c h=>(by cases h)⟩) (by rw[hnl];omega)
   rw[JK] at s4
   have rG:mx.ad=some ⟨mx.A_,0,none⟩:=by simp [Nm.ad,hnx,dx.off]
   have ET:=FJ (P:=P) (w:=w) (w' :=w') (ty:=o.type) (a:=mx.ad) (b:=my.ad) (len:=mx.len) (cap:=mx.cap) (n:=my.len) (c:=my.cap) (news:=(List.range ys.length).map fun k=>hdr (hy k)) iB iC hu tP hq
    (by rw[eG];have:=ky.rd w rfl;rw[<-eI] at this ⊢;exact this) (by omega) (by
     rw[rG]
     simp only
     rw[eG,DJ,KB,x5];exact s1)
   have hmy:mx.A_∉ly:=hxy _ p4
   refine zG w' ⟨mx.A_,0,false,mx.len+my.len,mx.cap,none⟩ (lx++ly) s2 (by omega) (fun b _ hb=>s5 b (fun he=>hb (by rw[he];simp [p4]))) ?_ ?_ ?_
   ·intro b hb
    rcases DU.1 hb with hb|hb
    ·exact AEL b hb
    ·exact AEM b hb
   ·intro E' L'
    refine C8.join kx ky (by simp [iA,eI]) rfl rfl (by simp [p4]) (by simp [<-iA,←eI];omega) (SQ.2 ⟨dx.nd,dy.nd,fun b hb b' W_ he=>hxy b hb (he ▸ W_)⟩) ?_ s4 (by rw[I_];exact p2) ?_ (fun b hb=>by simp [hb]) (fun b hb=>by simp [hb]) hxy (fun _=>⟨hnx,rfl⟩) hmy (fun b _ hb=>s5 b hb) (fun b hb=>s5 b (fun he=>(dx.all _ p4).1 (he ▸ hb)))
    ·intro b hb
     by_cases hbm:b=mx.A_
     ·subst hbm
      exact⟨(dx.all _ p4).1,(dx.all _ p4).2.1,_,_,_,s4⟩
     ·rw[s5 b hbm]
      rcases DU.1 hb with hb|hb
      ·exact dx.all b hb
      ·exact dy.all b hb
    ·intro k hk
     rw[qF] at hk
     rw[GX,hnl]
     by_cases aI:k<xs.length
     ·rw[BC (by omega),BQ aI];exact p5 k aI
     ·rw[BQ (by omega),BC aI]
      have:k-xs.length<ys.length:=by omega
      rw[iA]
      simp [this]
   ·rw[ET,rG]
    rfl
theorem BX.ANT {o:Oper} {ρ:Operand->SV} {bs:Nat} {a:Ty} {xs:List (List a.T)} {BF:BH} (h:BX TB P o ρ L (.H9 bs) BF) (hl:look (AD L BF) bs=some (.deep a xs none)):
  BX TB P o ρ L (.H9 bs) (BF++ [(bs,.shr (.slice a) xs)]):=by
 intro c w E hh hw ac next Q ha hn
 refine h c w E hh hw ac next Q ha fun E' w' k1 k2 k3 k4=> ?_
 obtain⟨G,hG⟩:=k1
 have CP:=AJ hl
 have e:AD L (BF++ [(bs,.shr (.slice a) xs)])=BS (AD L BF) (bs,.shr (.slice a) xs):=by rw[A0];rfl
 refine hn E' w' (by rw[e];exact⟨_,hG.qM hl⟩) (fun n hn' =>⟨(k2 n hn').1,by rw[e];exact A1 rfl n (k2 n hn').2⟩) k3 (by rw[e];exact A1 rfl bs k4)
theorem zH {o:Oper} {ρ:Operand->SV} {args:Array Operand} {ts:Array TypeId} (CD:o.op= .call { callee:= .builtin .append,args:=args,argTypes:=ts }) {x y:SV} (EN:args.toList.map ρ=[x,y])
  {BN:Bool} {bs:Nat} (A8:∀ n e,AI n=some e->look L n=some e) {v:SV} {BF:BH} (h:NT P AI ts.toList x y BN bs pr=some (v,BF)):BX TB P o ρ L v BF:=by
 cases BN with
 |true=>exact fQ CD EN A8 h
 |false=>
  have key:∃ (a:Ty) (xs:List (List a.T)) (u0:BH),NT P AI ts.toList x y true bs pr=some (.H9 bs,u0++ [(bs,.deep a xs none)])/\v= .H9 bs/\BF=u0++ [(bs,.deep a xs none)]++ [(bs,.shr (.slice a) xs)]/\EC AI bs 1=true:=by
   unfold NT at h ⊢
   split at h
   rotate_left
   ·cases h
   rename_i t0 t1 zD
   split at h
   rotate_left
   ·cases h
   rename_i e e1 hu tP
   split at h
   rotate_left
   ·cases h
   rename_i q a hq hz hty
   split at h
   rotate_left
   ·cases h
   rename_i hc
   split at h
   rotate_left
   ·cases h
   rename_i xs u1 ys u2 mW tL
   split at h
   rotate_left
   ·cases h
   rename_i RE
   split at h
   rotate_left
   ·cases h
   rename_i hby
   simp only[pr,AGV,AR,BP] at h
   obtain⟨rfl,rfl⟩:=h
   refine⟨a,xs++ys,u1++u2, ?_,rfl,rfl,hc.2.2⟩
   simp only[hc,hby,pr,AGV,Y_,and_self,GJ,ne_eq,not_false_eq_true]
  obtain⟨a,xs,u0,h1,rfl,rfl,BV⟩:=key
  have HG:look L bs=some .HP:=A8 _ _ (by have:=BI BV 0 (by omega);simpa using this)
  refine (fQ CD EN A8 h1).ANT ?_
  rw[A0]
  show look (BS (AD L u0) (bs,.deep a xs none)) bs=_
  rw[AT (by rw[JT];exact AJ HG),BQ rfl]
end
end Go.V3
namespace Go.V3
open Go
variable {TB:Tb}
section
variable {P:Program} {AI:Nat->Option AO} {L:AE}
theorem AK.AHY {c:B4 TB} {G:Nat->Prop} {w w' :World} {E:Env} {L:AE} (h:AK c G w E L) {bs:Nat} (hl:look L bs=some .HP) (hr:Rest w w') (hs:w.heap.size<=w'.heap.size) {m:Nm} {t1 t2:Ty} {xs:List (List t1.T×List t2.T)}
  (hw:∀ b,b<w.heap.size->b∉m.ins.l->w'.heap[b]? =w.heap[b]?) (aS:∀ b∈m.ins.l,FT E L b) (hd:C0 c G w' m t1 t2 xs):
  AK c G w' (E.set bs m) (BS L (bs,.tree t1 t2 xs))/\(∀ n,Al L n->(E.set bs m).nm n=E.nm n/\Al (BS L (bs,.tree t1 t2 xs)) n)/\Al (BS L (bs,.tree t1 t2 xs)) bs/\(E.set bs m).nm bs=m:=by
 have U_:∀ b,(AO.tree t1 t2 xs).ow (E.set bs m) bs b↔b∈m.ins.l:=fun b=>by rw[AO.XC,Env.B6]
 refine⟨h.NR (AJ hl) hr hs (fun hx=>absurd hx (CJ hl)) (fun k hk=>⟨E.DR _ hk,rfl⟩) rfl (fun b hb hn=>hw b hb (fun hx=>hn ((U_ b).2 hx)))
  (fun b hb=>by have:=hd.all b ((U_ b).1 hb);exact⟨this.2.1,this.1⟩) (fun k f _ hf b hb he=>aS b ((U_ b).1 he) k f hf hb) (by rw[Env.B6];exact hd) (fun t' xs' q he=>by cases he), ?_,⟨_,by rw[AT (AJ hl),BQ rfl],rfl⟩,Env.B6 _ _ _⟩
 intro n hn
 have M8:n≠bs:=fun he=>CJ (he ▸ hl) hn
 exact⟨E.DR _ M8,A1 rfl n hn⟩
theorem rH {t:Ty} {v:SV} {ys:List t.T} {u:BH} (h:bA AI t v=some (ys,u)):(v= .GS/\ys=[]/\u=[])\/∃ i,v= .H9 i/\AI i=some (.row t ys)/\u=[(i,.dead)]:=by
 unfold bA at h
 split at h
 ·simp only[AR,BP] at h
  obtain⟨rfl,rfl⟩:=h
  exact .inl ⟨rfl,rfl,rfl⟩
 ·split at h
  rotate_left
  ·cases h
  rename_i t' xss hl
  split at h
  rotate_left
  ·cases h
  rename_i he
  subst he
  simp only[AR,BP] at h
  obtain⟨rfl,rfl⟩:=h
  exact .inr ⟨_,rfl,hl,rfl⟩
 ·cases h
theorem zI {a b:Ty} {v:SV} {xs:List (List a.T×List b.T)} {u:BH} (h:vB AI a b v=some (xs,u)):(v= .GS/\xs=[]/\u=[])\/∃ i,v= .H9 i/\AI i=some (.tree a b xs)/\u=[(i,.dead)]:=by
 unfold vB at h
 split at h
 ·simp only[AR,BP] at h
  obtain⟨rfl,rfl⟩:=h
  exact .inl ⟨rfl,rfl,rfl⟩
 ·split at h
  rotate_left
  ·cases h
  rename_i t1 t2 xss hl
  split at h
  rotate_left
  ·cases h
  rename_i he
  obtain⟨rfl,rfl⟩:=he
  simp only[AR,BP] at h
  obtain⟨rfl,rfl⟩:=h
  exact .inr ⟨_,rfl,hl,rfl⟩
 ·cases h
structure AHZ (c:B4 TB) (G:Nat->Prop) (w:World) (E:Env) (L:AE) (t:Ty) (v:SV) (ys:List t.T) (u:BH) (m:Nm) (l:List Nat):Prop where
 den:v.den E= .slice m.ad m.len m.cap
 inn:DC (Rp G w t) t.sz w m ys
 mem:m.nil=false->m.A_∈l
 one:∀ b∈l,b=m.A_/\m.nil=false
 nd:l.Nodup
 all:∀ b∈l,¬G b/\¬c.Old b/\∃ arr ty fz,w.heap[b]? =some (.cells arr ty fz)
 src:(u=[]/\l=[])\/∃ i,look L i=some (.row t ys)/\u=[(i,.dead)]/\∀ b∈l,(AO.row t ys).ow E i b
theorem AI0 {c:B4 TB} {G:Nat->Prop} {w:World} {E:Env} {L:AE} (hG:AK c G w E L) (A8:∀ n e,AI n=some e->look L n=some e) {t:Ty} {v:SV} {ys:List t.T} {u:BH} (h:bA AI t v=some (ys,u)):
  ∃ m l,AHZ c G w E L t v ys u m l:=by
 rcases rH h with ⟨rfl,rfl,rfl⟩|⟨i,rfl,hl,rfl⟩
 ·exact⟨⟨0,0,true,0,0,none⟩,[],rfl,⟨rfl,trivial,.inl ⟨rfl,rfl,rfl⟩⟩,(fun hx=>by cases hx),(fun b hb=>by cases hb),jS,(fun b hb=>by cases hb),.inl ⟨rfl,rfl⟩⟩
 ·have hi:=A8 _ _ hl
  obtain⟨h1,h2,h3⟩:=hG.F0 i _ hi
  cases hn:(E.nm i).nil with
  |true=>
   rcases h3 with h3|⟨h4,_⟩
   rotate_left
   ·rw[hn] at h4;cases h4
   exact⟨E.nm i,[],rfl,⟨h1,trivial,.inl h3⟩,(fun hx=>by rw[hn] at hx;cases hx),(fun b hb=>by cases hb),jS,(fun b hb=>by cases hb),.inr ⟨i,hi,rfl,fun b hb=>by cases hb⟩⟩
  |false=>
   rcases h3 with ⟨h4,_⟩|⟨h4,h5,h6,h7,arr,ty,h8,h9,tJ⟩
   ·rw[hn] at h4;cases h4
   refine⟨E.nm i,[(E.nm i).A_],rfl,⟨h1,trivial,.inr ⟨h4,h7,arr,ty,h8,h9,tJ⟩⟩,(fun _=>by simp),(fun b hb=>⟨by simpa using hb,hn⟩),by simp, ?_,.inr ⟨i,hi,rfl, ?_⟩⟩
   ·intro b hb
    simp only[LA] at hb;subst hb
    exact⟨h5,h6,arr,ty,_,h8⟩
   ·intro b hb
    simp only[LA] at hb;subst hb
    exact .inl (by simp [AO.own,hn])
theorem AAM {c:B4 TB} {G:Nat->Prop} {w:World} {E:Env} {L:AE} (hG:AK c G w E L) {bs:Nat} (HG:look L bs=some .HP) {u1 u2:BH} {l1 l2:List Nat} {e1 e2:AO}
  (s1:(u1=[]/\l1=[])\/∃ i,look L i=some e1/\e1.EA=false/\u1=[(i,.dead)]/\∀ b∈l1,e1.ow E i b)
  (s2:(u2=[]/\l2=[])\/∃ i,look L i=some e2/\e2.EA=false/\u2=[(i,.dead)]/\∀ b∈l2,e2.ow E i b) (RE:u1.all (fun q=>u2.all (fun r=> !(r.1==q.1)))=true):
  AK c G w E (AD L (u1++u2))/\look (AD L (u1++u2)) bs=some .HP/\(∀ n,Al L n->Al (AD L (u1++u2)) n)/\(∀ b∈l1,FT E (AD L (u1++u2)) b)/\(∀ b∈l2,FT E (AD L (u1++u2)) b)/\(∀ b∈l1,b∉l2):=by
 have kK:∀ (L:AE) (l:List Nat) (e:AO),AK c G w E L->∀ (i:Nat),look L i=some e->e.EA=false->look L bs=some .HP->(∀ b∈l,e.ow E i b)->AK c G w E (AD L [(i,.dead)])/\look (AD L [(i,.dead)]) bs=some .HP/\(∀ n,Al L n->Al (AD L [(i,.dead)]) n)/\(∀ b∈l,FT E (AD L [(i,.dead)]) b):=by
  intro L l e hG i hi hr hb ho
  have hib:bs≠i:=by rintro rfl;rw[hi] at hb;cases hb;cases hr
  refine⟨hG.kill (AJ hi), ?_,fun n hn=>A1 rfl n hn,fun b hbm=>ZQ hG hi (ho b hbm)⟩
  show look (BS L (i,.dead)) bs=_
  rw[AT (AJ hi),BC hib];exact hb
 rcases s1 with ⟨rfl,rfl⟩|⟨i,hi,hir,rfl,hio⟩
 ·rcases s2 with ⟨rfl,rfl⟩|⟨j,hj,hjr,rfl,hjo⟩
  ·exact⟨hG,HG,fun _ h=>h,(fun b hb=>(by cases hb)),(fun b hb=>(by cases hb)),(fun b hb=>(by cases hb))⟩
  ·obtain⟨k1,k2,k3,k4⟩:=kK L l2 e2 hG j hj hjr HG hjo
   exact⟨k1,k2,k3,(fun b hb=>(by cases hb)),k4,(fun b hb=>(by cases hb))⟩
 ·obtain⟨k1,k2,k3,k4⟩:=kK L l1 e1 hG i hi hir HG hio
  rcases s2 with ⟨rfl,rfl⟩|⟨j,hj,hjr,rfl,hjo⟩
  ·exact⟨k1,k2,k3,k4,(fun b hb=>(by cases hb)),(fun b _ hb=>(by cases hb))⟩
  ·have dM:i≠j:=by
    rintro rfl
    have:=Q7.1 RE (i,.dead) (by simp)
    simp at this
   have tQ:look (AD L [(i,.dead)]) j=some e2:=by
    show look (BS L (i,.dead)) j=_
    rw[AT (AJ hi),BC (fun he=>dM he.symm)];exact hj
   obtain⟨q1,q2,q3,q4⟩:=kK _ l2 e2 k1 j tQ hjr k2 hjo
   rw[<-A0] at q1 q2 q3 q4
   refine⟨q1,q2,fun n hn=>q3 n (k3 n hn), ?_,q4,fun b hb W_ =>hG.inj i j _ _ b dM hi hj (hio b hb) (hjo b W_)⟩
   intro b hb
   rw[A0]
   exact (k4 b hb).kill (AJ tQ)
theorem ACH {o:Oper} {ρ:Operand->SV} {t:TypeId} {len:Nat} {parts:Array (Nat×Operand)} (CD:o.op= .buildSlice t len parts) {bs:Nat} (A8:∀ n e,AI n=some e->look L n=some e) {v:SV} {BF:BH}
  (h:eB P AI t len (parts.toList.map fun q=>(q.1,ρ q.2)) bs pr=some (v,BF)):BX TB P o ρ L v BF:=by
 unfold eB at h
 split at h
 rotate_left
 ·cases h
 rename_i e hu
 split at h
 rotate_left
 ·cases h
 rename_i q a b v1 v2 hq hz hty KK
 split at h
 rotate_left
 ·cases h
 rename_i y1 u1 y2 u2 mW tL
 split at h
 rotate_left
 ·cases h
 rename_i hc
 obtain⟨eG,rfl,BV,RE⟩:=hc
 simp only[pr,AR,BP] at h
 obtain⟨rfl,rfl⟩:=h
 have HG:look L bs=some .HP:=A8 _ _ (by have:=BI BV 0 (by omega);simpa using this)
 refine AU fun c w E hh hw=> ?_
 obtain⟨G,hG⟩:=hh
 obtain⟨m1,l1,r1⟩:=AI0 hG A8 mW
 obtain⟨m2,l2,r2⟩:=AI0 hG A8 tL
 have ET:=KL (E:=E) (w:=w) (cs:=[v1,v2]) CD hu hq hz (by rw[eG];rfl) (by rw[eG];omega) (by rw[KK];rfl) (by rw[KK,eG];rfl)
 have conv:∀ {t:Ty} {v:SV} {ys:List t.T} {u:BH} {m:Nm} {l:List Nat},AHZ c G w E L t v ys u m l->(u=[]/\l=[])\/∃ i,look L i=some (.row t ys)/\(AO.row t ys).EA=false/\u=[(i,.dead)]/\∀ b∈l,(AO.row t ys).ow E i b:=by
  intro t v ys u m l r
  rcases r.src with hx|⟨i,h1,h2,h3⟩
  ·exact .inl hx
  ·exact .inr ⟨i,h1,rfl,h2,h3⟩
 obtain⟨hH,bH,I8,ABZ,AGR,h12⟩:=AAM hG HG (conv r1) (conv r2) RE
 have hold:¬c.Old w.heap.size:=fun hx=>by have:=hx.1;have:=hG.size;omega
 have hGn:¬G w.heap.size:=fun hx=>by have:=hG.jY _ hx;omega
 have MT:∀ (o:Obj),(w.alloc o).heap[w.heap.size]? =some o:=by
  intro o
  show (w.heap.push o)[w.heap.size]? =_
  simp
 have BJ:∀ (o:Obj) (b:Nat),b<w.heap.size->(w.alloc o).heap[b]? =w.heap[b]? :=by
  intro o b hb
  show (w.heap.push o)[b]? =_
  rw[jQ,BC (by omega)]
 have AH6:∀ b∈l1,b<w.heap.size:=fun b hb=>by obtain⟨_,_,_,_,_,h⟩:=r1.all b hb;exact LR h
 have yE:∀ b∈l2,b<w.heap.size:=fun b hb=>by obtain⟨_,_,_,_,_,h⟩:=r2.all b hb;exact LR h
 have ALF:∀ {t:Ty} {m:Nm} {ys:List t.T} {l:List Nat} (ob:Obj),DC (Rp G w t) t.sz w m ys->(m.nil=false->m.A_∈l)->(∀ b∈l,b<w.heap.size)->DC (Rp G (w.alloc ob) t) t.sz (w.alloc ob) m ys:=by
  intro t m ys l ob hi hm hl
  exact hi.mono (fun x vs hx=>Rp.mono (fun b hb=>BJ ob b (hG.jY b hb)) (fun _ h=>h) t x vs hx) (fun hn=>BJ ob _ (hl _ (hm hn)))
 obtain⟨g1,g2,g3,g4⟩:=hH.AHY (w' :=w.alloc (.cells (AH E [v1,v2]).toArray e)) bH ⟨rfl,rfl,rfl⟩ (by show _<=(w.heap.push _).size;simp)
  (m:={ A_:=w.heap.size,off:=0,nil:=false,len:=1,cap:=1,PN:=none,ins:=⟨w.heap.size::(l1++l2)⟩,hd:=⟨fun k=>if k=0 then m1.h0 else m2.h0⟩ }) (t1:=a) (t2:=b) (xs:=[(y1,y2)])
  (fun b hb _=>BJ _ b hb)
  (by
   intro b hb
   rcases MK.1 hb with rfl|hb
   ·exact OC hH
   ·rcases DU.1 hb with hb|hb
    ·exact ABZ b hb
    ·exact AGR b hb)
  (by
   refine⟨rfl,rfl, ?_, ?_,.inr ⟨rfl,by simp,by simp,_,e,MT _,by simp [AH], ?_, ?_, ?_, ?_⟩⟩
   ·refine hJ.2 ⟨fun hm=> ?_,SQ.2 ⟨r1.nd,r2.nd,fun b hb b' W_ he=>h12 b hb (he ▸ W_)⟩⟩
    rcases DU.1 hm with hm|hm
    ·have:=AH6 _ hm;omega
    ·have:=yE _ hm;omega
   ·intro b hb
    rcases MK.1 hb with rfl|hb
    ·exact⟨hGn,hold,_,_,_,MT _⟩
    ·rcases DU.1 hb with hb|hb
     ·obtain⟨q1,q2,arr,ty,fz,q3⟩:=r1.all b hb
      exact⟨q1,q2,arr,ty,fz,by rw[BJ _ b (AH6 b hb)];exact q3⟩
     ·obtain⟨q1,q2,arr,ty,fz,q3⟩:=r2.all b hb
      exact⟨q1,q2,arr,ty,fz,by rw[BJ _ b (yE b hb)];exact q3⟩
   ·intro k hk
    simp only[ABF] at hk
    match k with
    |0=>simp only[AH,r1.den];rfl
    |1=>simp only[AH,r2.den];rfl
    |k+2=>omega
   ·intro k x hk
    cases k with
    |succ k=>simp at hk
    |zero=>
     simp only[U9,AR] at hk;subst hk
     exact⟨ALF _ r1.inn r1.mem AH6,ALF _ r2.inn r2.mem yE⟩
   ·intro k hk
    simp only[ABF] at hk
    match k with
    |0=>
     intro hn
     have hm:m1.A_∈l1:=r1.mem hn
     exact⟨m0 _ (DU.2 (.inl hm)),fun he=>by have:=AH6 _ hm;have he' :m1.A_=w.heap.size:=he;omega⟩
    |1=>
     intro hn
     have hm:m2.A_∈l2:=r2.mem hn
     exact⟨m0 _ (DU.2 (.inr hm)),fun he=>by have:=yE _ hm;have he' :m2.A_=w.heap.size:=he;omega⟩
    |k+2=>omega
   ·intro k k' hk OA h_
    simp only[ABF] at hk OA
    match k,k' with
    |0,0=>exact absurd rfl h_
    |1,1=>exact absurd rfl h_
    |0,1=>
     intro hn hn' he
     have he' :m1.A_=m2.A_:=he
     exact h12 _ (r1.mem hn) (he' ▸ r2.mem hn')
    |1,0=>
     intro hn hn' he
     have he' :m2.A_=m1.A_:=he
     exact h12 _ (r1.mem hn') (he' ▸ r2.mem hn)
    |k+2,_=>omega
    |_,k' +2=>omega)
 have eu:AD L (u1++u2++ [(bs,.tree a b [(y1,y2)])])=BS (AD L (u1++u2)) (bs,.tree a b [(y1,y2)]):=by rw[A0];rfl
 rw[eu]
 refine⟨_,_,_,ET,.inl ?_,⟨G,g1⟩,fun n hn=>g2 n (I8 n hn),rfl,g3⟩
 simp only[SV.den];rw[g4];rfl
theorem C0.kJ {c:B4 TB} {G:Nat->Prop} {w:World} {m:Nm} {a b:Ty} {xs:List (List a.T×List b.T)} (d:C0 c G w m a b xs):
  (∀ k x,xs[k]? =some x->DC (Rp G w a) a.sz w (m.hn (k*2)) x.1/\DC (Rp G w b) b.sz w (m.hn (k*2+1)) x.2)∧
  (∀ k,k<xs.length*2->(m.hn k).nil=false->(m.hn k).A_∈m.ins.l/\(m.hn k).A_≠m.A_/\m.nil=false)∧
  (∀ k k',k<xs.length*2->k' <xs.length*2->k≠k' ->(m.hn k).nil=false->(m.hn k').nil=false->(m.hn k).A_≠(m.hn k').A_)∧
  (∀ w' :World,w'.heap=w.heap->(Builtin.firstCells 2 xs.length (.slice m.ad m.len m.cap)).run P w' = .ok ((List.range (xs.length*2)).map fun k=>hdr (m.hn k)).toArray w'):=by
 rcases d.cs with ⟨h1,h2,h3⟩|⟨h1,h2,h3,arr,ty,h4,h5,h6,h7,h8,h9⟩
 ·subst h2
  refine⟨fun k x hk=>by simp at hk,fun k hk=>by simp at hk,fun k k' hk=>by simp at hk,fun w' hw=> ?_⟩
  cases m.ad with
  |none=>rfl
  |some p=>
   have:=run_loadCells_list (P:=P) w' p [] (fun j v hj=>by simp at hj)
   exact this
 ·refine⟨h7,fun k hk hn=>⟨(h8 k hk hn).1,(h8 k hk hn).2,h1⟩,h9,fun w' hw=> ?_⟩
  have hm:m.len=xs.length:=d.len
  have hr:=OM (P:=P) (w:=w') (size:=2) h1 (by rw[hw];exact h4) (by rw[d.off];omega)
  rw[hm] at hr ⊢
  rw[hr]
  congr 2
  apply Q8
  intro j
  rw[BE,d.off]
  by_cases hj:j<xs.length*2
  ·rw[BQ (by omega),KB,h6 j hj]
   simp [hj,hdr]
  ·rw[BC (by omega),N8 (by simp;omega)]
theorem C0.join (P:Program) {c:B4 TB} {G:Nat->Prop} {w w' :World} {a b:Ty} {xs ys:List (List a.T×List b.T)} {mx my m:Nm} (dx:C0 c G w mx a b xs) (dy:C0 c G w my a b ys)
  (hh:∀ k,m.hn k=if k<xs.length*2 then mx.hn k else my.hn (k-xs.length*2))
  (h1:m.len=(xs++ys).length) (h2:m.off=0) (h3:m.nil=false) (h4:m.A_∈m.ins.l) (h5:(xs++ys).length<=m.cap) (JM:m.ins.l.Nodup) (hR:∀ b∈m.ins.l,¬G b/\¬c.Old b/\∃ arr ty fz,w'.heap[b]? =some (.cells arr ty fz))
  {arr:Array Value} {ty:TypeId} (ha:w'.heap[m.A_]? =some (.cells arr ty (0,0))) (ZD:arr.size=m.cap*2)
  (hc:∀ k,k<(xs++ys).length*2->arr[k]? =some (hdr (m.hn k)))
  (hsx:∀ b∈mx.ins.l,b∈m.ins.l) (hsy:∀ b∈my.ins.l,b∈m.ins.l) (RE:∀ b∈mx.ins.l,b∉my.ins.l) (hmx:m.A_∈mx.ins.l->m.A_=mx.A_) (hmy:m.A_∉my.ins.l)
  (hw:∀ b,b∈mx.ins.l\/b∈my.ins.l->b≠m.A_->w'.heap[b]? =w.heap[b]?) (hG:∀ b,G b->w'.heap[b]? =w.heap[b]?):C0 c G w' m a b (xs++ys):=by
 obtain⟨x1,x2,x3,_⟩:=dx.kJ (P:=P)
 obtain⟨y1,y2,y3,_⟩:=dy.kJ (P:=P)
 have KF:∀ k,k<xs.length*2->(mx.hn k).nil=false->(mx.hn k).A_≠m.A_:=by
  intro k hk hn he
  obtain⟨q1,q2,q3⟩:=x2 k hk hn
  exact q2 (he.trans (hmx (he ▸ q1)))
 have AEK:∀ k,k<ys.length*2->(my.hn k).nil=false->(my.hn k).A_≠m.A_:=by
  intro k hk hn he
  exact hmy (he ▸ (y2 k hk hn).1)
 have hix:∀ (t:Ty) (k:Nat) (v:List t.T),k<xs.length*2->DC (Rp G w t) t.sz w (mx.hn k) v->DC (Rp G w' t) t.sz w' (mx.hn k) v:=fun t k v hk hi=>
  hi.mono (fun x vs hx=>Rp.mono hG (fun _ h=>h) t x vs hx) (fun hn=>hw _ (.inl (x2 k hk hn).1) (KF k hk hn))
 have hiy:∀ (t:Ty) (k:Nat) (v:List t.T),k<ys.length*2->DC (Rp G w t) t.sz w (my.hn k) v->DC (Rp G w' t) t.sz w' (my.hn k) v:=fun t k v hk hi=>
  hi.mono (fun x vs hx=>Rp.mono hG (fun _ h=>h) t x vs hx) (fun hn=>hw _ (.inr (y2 k hk hn).1) (AEK k hk hn))
 refine⟨h1,h2,JM,hR,.inr ⟨h3,h4,h5,arr,ty,ha,ZD,hc, ?_, ?_, ?_⟩⟩
 ·intro k x hk
  rw[hh,hh]
  by_cases aI:k<xs.length
  ·rw[QE aI] at hk
   obtain⟨q1,q2⟩:=x1 k x hk
   rw[BQ (by omega),BQ (by omega)]
   exact⟨hix a _ _ (by omega) q1,hix b _ _ (by omega) q2⟩
  ·rw[OG (by omega)] at hk
   have CP:=(qC.1 hk).1
   obtain⟨q1,q2⟩:=y1 _ x hk
   rw[BC (by omega),BC (by omega),show k*2-xs.length*2=(k-xs.length)*2 by omega,show k*2+1-xs.length*2=(k-xs.length)*2+1 by omega]
   exact⟨hiy a _ _ (by omega) q1,hiy b _ _ (by omega) q2⟩
 ·intro k hk
  rw[qF] at hk
  rw[hh]
  by_cases aI:k<xs.length*2
  ·rw[BQ aI]
   exact fun hn=>⟨hsx _ (x2 k aI hn).1,KF k aI hn⟩
  ·rw[BC aI]
   exact fun hn=>⟨hsy _ (y2 _ (by omega) hn).1,AEK _ (by omega) hn⟩
 ·intro i j hi hj dM
  rw[qF] at hi hj
  rw[hh,hh]
  by_cases hix:i<xs.length*2
  ·rw[BQ hix]
   by_cases zF:j<xs.length*2
   ·rw[BQ zF];exact x3 i j hix zF dM
   ·rw[BC zF]
    intro M8 vP he
    exact RE _ (x2 i hix M8).1 (he ▸ (y2 _ (by omega) vP).1)
  ·rw[BC hix]
   by_cases zF:j<xs.length*2
   ·rw[BQ zF]
    intro M8 vP he
    exact RE _ (x2 j zF vP).1 (he ▸ (y2 _ (by omega) M8).1)
   ·rw[BC zF];exact y3 _ _ (by omega) (by omega) (by omega)
set_option maxHeartbeats 1000000 in
theorem zJ {o:Oper} {ρ:Operand->SV} {args:Array Operand} {ts:Array TypeId} (CD:o.op= .call { callee:= .builtin .append,args:=args,argTypes:=ts }) {x y:SV} (EN:args.toList.map ρ=[x,y])
  {bs:Nat} (A8:∀ n e,AI n=some e->look L n=some e) {v:SV} {BF:BH} (h:XK P AI ts.toList x y bs pr=some (v,BF)):BX TB P o ρ L v BF:=by
 unfold XK at h
 split at h
 rotate_left
 ·cases h
 rename_i t0 t1 zD
 split at h
 rotate_left
 ·cases h
 rename_i e e1 hu tP
 split at h
 rotate_left
 ·cases h
 rename_i q a b hq hz hty
 split at h
 rotate_left
 ·cases h
 rename_i hc
 obtain⟨eG,hqb,BV⟩:=hc
 split at h
 rotate_left
 ·cases h
 rename_i xs u1 ys u2 mW tL
 split at h
 rotate_left
 ·cases h
 rename_i RE
 split at h
 rotate_left
 ·cases h
 rename_i hby
 simp only[pr,AR,BP] at h
 obtain⟨rfl,rfl⟩:=h
 have HG:look L bs=some .HP:=A8 _ _ (by have:=BI BV 0 (by omega);simpa using this)
 obtain⟨zv,hzv,zA⟩:∃ zv,q.zero=some zv/\zv.cells.toList.map M6=[.GS,.GS]:=by
  unfold H2 at hz
  rw[hq] at hz
  simp only at hz
  split at hz
  ·simp only[AR] at hz
   exact⟨_,by assumption,hz⟩
  ·cases hz
 have qL:zv.cells= #[.slice none 0 0,.slice none 0 0]:=by
  have:=PW (E:=⟨fun _=>⟨0,0,true,0,0,none⟩,fun _=>undef⟩) zv.cells.toList
  rw[zA] at this
  apply SS
  exact this.symm
 have iB:ts[0]? =some t0:=by rw[<-XT,zD];rfl
 have iC:ts[1]? =some t1:=by rw[<-XT,zD];rfl
 refine AU fun c w E hh hw=> ?_
 obtain⟨G,hG⟩:=hh
 have side:∀ (v:SV) (zs:List (List a.T×List b.T)) (u:BH),vB AI a b v=some (zs,u)->∃ (m:Nm),v.den E= .slice m.ad m.len m.cap/\C0 c G w m a b zs∧
   ((u=[]/\m.ins.l=[])\/∃ i,look L i=some (.tree a b zs)/\(AO.tree a b zs).EA=false/\u=[(i,.dead)]/\∀ z∈m.ins.l,(AO.tree a b zs).ow E i z):=by
  intro v zs u hv
  rcases zI hv with ⟨rfl,rfl,rfl⟩|⟨i,rfl,hl,rfl⟩
  ·exact⟨⟨0,0,true,0,0,none⟩,rfl,⟨rfl,rfl,jS,(fun b hb=>(by cases hb)),.inl ⟨rfl,rfl,rfl⟩⟩,.inl ⟨rfl,rfl⟩⟩
  ·exact⟨E.nm i,rfl,hG.F0 i _ (A8 _ _ hl),.inr ⟨i,A8 _ _ hl,rfl,rfl,fun z hz=>AO.XC.2 hz⟩⟩
 obtain⟨mx,hxd,dx,sx⟩:=side x xs u1 mW
 obtain⟨my,hyd,dy,sy⟩:=side y ys u2 tL
 obtain⟨_,_,_,rx⟩:=dx.kJ (P:=P)
 obtain⟨_,_,_,ry⟩:=dy.kJ (P:=P)
 obtain⟨hH,bH,I8,AEL,AEM,hxy⟩:=AAM hG HG sx sy RE
 have fP:∀ (w' :World) (r:Value),(Builtin.append_ ts o.type #[.slice mx.ad mx.len mx.cap,.slice my.ad my.len my.cap]).run P w= .ok r w' ->(execOp (fun x=>(ρ x).den E) o).run P w= .ok (.value r) w' :=by
  intro w' r hr
  have KM :(args.map fun x=>(ρ x).den E)= #[.slice mx.ad mx.len mx.cap,.slice my.ad my.len my.cap]:=by
   apply SS
   have:(args.toList.map ρ).map (SV.den E)=[.slice mx.ad mx.len mx.cap,.slice my.ad my.len my.cap]:=by rw[EN];simp [hxd,hyd]
   rw[PL] at this
   rw[dN]
   exact this
  simp only[execOp,CD,resolve,invoke,Sem.run_bind,Sem.run_pure,Result.andThen,KM,builtin,hr]
 have iA:=dx.len
 have eI:=dy.len
 have zG:∀ (w' :World) (m:Nm),Rest w w' ->w.heap.size<=w'.heap.size->(∀ z,z<w.heap.size->z∉m.ins.l->w'.heap[z]? =w.heap[z]?)->(∀ z∈m.ins.l,FT E (AD L (u1++u2)) z)->C0 c G w' m a b (xs++ys)→
   (Builtin.append_ ts o.type #[.slice mx.ad mx.len mx.cap,.slice my.ad my.len my.cap]).run P w= .ok (.slice m.ad m.len m.cap) w' →
   ∃ (w' :World) (E' :Env) (nx:Next),(execOp (fun x=>(ρ x).den E) o).run P w= .ok nx w' /\(nx= .value ((SV.H9 bs).den E')\/(nx= .skip/\(SV.H9 bs)=AQ))∧
   Hd c w' E' (AD L (u1++u2++ [(bs,.tree a b (xs++ys))]))/\(∀ n,Al L n->E'.nm n=E.nm n/\Al (AD L (u1++u2++ [(bs,.tree a b (xs++ys))])) n)/\E'.ds=E.ds/\(SV.H9 bs).wf E' (AD L (u1++u2++ [(bs,.tree a b (xs++ys))])):=by
  intro w' m r1 r2 r3 r4 r5 r6
  obtain⟨g1,g2,g3,g4⟩:=hH.AHY bH r1 r2 r3 r4 r5
  have eu:AD L (u1++u2++ [(bs,.tree a b (xs++ys))])=BS (AD L (u1++u2)) (bs,.tree a b (xs++ys)):=by rw[A0];rfl
  rw[eu]
  refine⟨w',_,_,fP _ _ r6,.inl ?_,⟨G,g1⟩,fun n hn=>g2 n (I8 n hn),rfl,g3⟩
  simp only[SV.den];rw[g4]
 by_cases kI:mx.cap<mx.len+my.len
 ·
  obtain⟨c',hc',ET⟩:=run_append_grow (P:=P) (w:=w) (ty:=o.type) (a:=mx.ad) (b:=my.ad) (len:=mx.len) (cap:=mx.cap) (n:=my.len) (c:=my.cap) iB iC hu tP hq hzv hqb
   (by rw[eG];have:=ry w.drew rfl;rw[<-eI] at this;exact this)
   (by rw[eG];have:=rx w.drew rfl;rw[<-iA] at this;exact this) kI (by rw[iA,eI];exact hby)
  have hold:¬c.Old w.heap.size:=fun hx=>by have:=hx.1;have:=hG.size;omega
  have hGn:¬G w.heap.size:=fun hx=>by have:=hG.jY _ hx;omega
  have BJ:∀ (ob:Obj) (z:Nat),z<w.heap.size->((w.drew).alloc ob).heap[z]? =w.heap[z]? :=by
   intro ob z hz
   show (w.heap.push ob)[z]? =_
   rw[jQ,BC (by omega)]
  have MT:∀ (ob:Obj),((w.drew).alloc ob).heap[w.heap.size]? =some ob:=by
   intro ob
   show (w.heap.push ob)[w.heap.size]? =_
   simp
  have rE:∀ z∈mx.ins.l,z<w.heap.size:=fun z hz=>by obtain⟨_,_,_,_,_,h⟩:=dx.all z hz;exact LR h
  have rF:∀ z∈my.ins.l,z<w.heap.size:=fun z hz=>by obtain⟨_,_,_,_,_,h⟩:=dy.all z hz;exact LR h
  have hhn:∀ k,(Nm.hn { A_:=w.heap.size,off:=0,nil:=false,len:=mx.len+my.len,cap:=c',PN:=none,ins:=⟨w.heap.size::(mx.ins.l++my.ins.l)⟩,hd:=⟨fun k=>if k<xs.length*2 then mx.hd.l k else my.hd.l (k-xs.length*2)⟩ } k)=if k<xs.length*2 then mx.hn k else my.hn (k-xs.length*2):=by
   intro k
   show (if k<xs.length*2 then mx.hd.l k else my.hd.l (k-xs.length*2)).nm=_
   split <;> rfl
  refine zG _ { A_:=w.heap.size,off:=0,nil:=false,len:=mx.len+my.len,cap:=c',PN:=none,ins:=⟨w.heap.size::(mx.ins.l++my.ins.l)⟩,hd:=⟨fun k=>if k<xs.length*2 then mx.hd.l k else my.hd.l (k-xs.length*2)⟩ } ?_ ?_ ?_ ?_ ?_ ET
  ·exact⟨rfl,rfl,rfl⟩
  ·show _<=(w.heap.push _).size;simp
  ·exact fun z hz _=>BJ _ z hz
  ·intro z hz
   rcases MK.1 hz with rfl|hz
   ·exact OC hH
   ·rcases DU.1 hz with hz|hz
    ·exact AEL z hz
    ·exact AEM z hz
  ·refine C0.join P dx dy hhn (by simp [iA,eI]) rfl rfl (by simp) (by simp [<-iA,←eI];exact hc') ?_ ?_ (MT _) ?_ ?_ (fun z hz=>by simp [hz]) (fun z hz=>by simp [hz]) hxy (fun hm=> ?_) (fun hm=> ?_) (fun z hz _=>BJ _ z (hz.elim (rE z) (rF z))) (fun z hz=>BJ _ z (hG.jY z hz))
   ·refine hJ.2 ⟨fun hm=> ?_,SQ.2 ⟨dx.nd,dy.nd,fun z hz z' hz' he=>hxy z hz (he ▸ hz')⟩⟩
    rcases DU.1 hm with hm|hm
    ·have:=rE _ hm;omega
    ·have:=rF _ hm;omega
   ·intro z hz
    rcases MK.1 hz with rfl|hz
    ·exact⟨hGn,hold,_,_,_,MT _⟩
    ·rcases DU.1 hz with hz|hz
     ·obtain⟨q1,q2,arr,ty,fz,q3⟩:=dx.all z hz
      exact⟨q1,q2,arr,ty,fz,by rw[BJ _ z (rE z hz)];exact q3⟩
     ·obtain⟨q1,q2,arr,ty,fz,q3⟩:=dy.all z hz
      exact⟨q1,q2,arr,ty,fz,by rw[BJ _ z (rF z hz)];exact q3⟩
   ·simp [Builtin.zeroCells,qL]
    omega
   ·intro k hk
    rw[qF] at hk
    rw[hhn,tT (by simp;omega)]
    by_cases aI:k<xs.length*2
    ·rw[BQ aI,tT (by simp;omega)]
     simp [AFW (show k<mx.len*2 by omega)]
    ·rw[BC aI,AIH (by simp;omega)]
     have PJ:k-xs.length*2<my.len*2:=by omega
     simp [iA,AFW PJ]
   ·have:=rE _ hm;simp at this
   ·have:=rF _ hm;simp at this
 ·
  rcases dx.cs with ⟨hnx,h2,h3⟩|⟨hnx,p4,p3,arr,ty,p1,p2,p5,_,_,_⟩
  ·have hx0:mx.len=0:=by rw[iA,h2];rfl
   have hy0:my.len=0:=by omega
   have hys:ys=[]:=by
    cases ys with
    |nil=>rfl
    |cons _ _=>simp at eI;omega
   have rG:mx.ad=mx.PN:=by simp [Nm.ad,hnx]
   have ET:=FJ (P:=P) (w:=w) (w' :=w) (ty:=o.type) (a:=mx.PN) (b:=my.ad) (len:=0) (cap:=0) (n:=my.len) (c:=my.cap) (news:=[]) iB iC hu tP hq
    (by rw[eG];have:=ry w rfl;rw[<-eI,hy0] at this;rw[hy0];exact this) (by omega) (by split <;> rfl)
   refine zG w ⟨0,0,true,0,0,mx.PN⟩ (.refl _) (HE _) (fun _ _ _=>rfl) (fun z hz=>(by cases hz)) ⟨by simp [h2,hys],rfl,jS,(fun z hz=>(by cases hz)),.inl ⟨rfl,by simp [h2,hys],rfl⟩⟩ ?_
   rw[rG,hx0,h3,ET,hy0]
   rfl
  ·have hnl:((List.range (ys.length*2)).map fun k=>hdr (my.hn k)).length=ys.length*2:=by simp
   obtain⟨w',s1,s2,s3,s4,s5⟩:=KJ (P:=P) (off:=mx.len*2) ((List.range (ys.length*2)).map fun k=>hdr (my.hn k)) w arr 0 p1 (by
     intro u hu
     obtain⟨k,_,rfl⟩:=DB.1 hu
     exact⟨fun c h=>(by cases h),fun c h=>(by cases h)⟩) (by rw[hnl];omega)
   rw[JK] at s4
   have rG:mx.ad=some ⟨mx.A_,0,none⟩:=by simp [Nm.ad,hnx,dx.off]
   have ET:=FJ (P:=P) (w:=w) (w' :=w') (ty:=o.type) (a:=mx.ad) (b:=my.ad) (len:=mx.len) (cap:=mx.cap) (n:=my.len) (c:=my.cap) (news:=(List.range (ys.length*2)).map fun k=>hdr (my.hn k)) iB iC hu tP hq
    (by rw[eG];have:=ry w rfl;rw[<-eI] at this ⊢;exact this) (by omega) (by
     rw[rG]
     simp only
     rw[eG,DJ,KB];exact s1)
   have hmy:mx.A_∉my.ins.l:=hxy _ p4
   have hhn:∀ k,(Nm.hn { A_:=mx.A_,off:=0,nil:=false,len:=mx.len+my.len,cap:=mx.cap,PN:=none,ins:=⟨mx.ins.l++my.ins.l⟩,hd:=⟨fun k=>if k<xs.length*2 then mx.hd.l k else my.hd.l (k-xs.length*2)⟩ } k)=if k<xs.length*2 then mx.hn k else my.hn (k-xs.length*2):=by
    intro k
    show (if k<xs.length*2 then mx.hd.l k else my.hd.l (k-xs.length*2)).nm=_
    split <;> rfl
   refine zG w' { A_:=mx.A_,off:=0,nil:=false,len:=mx.len+my.len,cap:=mx.cap,PN:=none,ins:=⟨mx.ins.l++my.ins.l⟩,hd:=⟨fun k=>if k<xs.length*2 then mx.hd.l k else my.hd.l (k-xs.length*2)⟩ } s2 (by omega) (fun z _ hz=>s5 z (fun he=>hz (by rw[he];simp [p4]))) ?_ ?_ ?_
   ·intro z hz
    rcases DU.1 hz with hz|hz
    ·exact AEL z hz
    ·exact AEM z hz
   ·refine C0.join P dx dy hhn (by simp [iA,eI]) rfl rfl (by simp [p4]) (by simp [<-iA,←eI];omega) (SQ.2 ⟨dx.nd,dy.nd,fun z hz z' hz' he=>hxy z hz (he ▸ hz')⟩) ?_ s4 (by rw[I_];exact p2) ?_ (fun z hz=>by simp [hz]) (fun z hz=>by simp [hz]) hxy (fun _=>rfl) hmy (fun z _ hz=>s5 z hz) (fun z hz=>s5 z (fun he=>(dx.all _ p4).1 (he ▸ hz)))
    ·intro z hz
     by_cases hzm:z=mx.A_
     ·subst hzm
      exact⟨(dx.all _ p4).1,(dx.all _ p4).2.1,_,_,_,s4⟩
     ·rw[s5 z hzm]
      rcases DU.1 hz with hz|hz
      ·exact dx.all z hz
      ·exact dy.all z hz
    ·intro k hk
     rw[qF] at hk
     rw[hhn,GX,hnl]
     by_cases aI:k<xs.length*2
     ·rw[BC (by omega),BQ aI];exact p5 k aI
     ·rw[BQ (by omega),BC aI]
      have:k-xs.length*2<ys.length*2:=by omega
      rw[iA]
      simp [this]
   ·rw[ET,rG]
    rfl
end
end Go.V3
namespace Go.V3
open Go
variable {TB:Tb}
section
variable {P:Program} {AI:Nat->Option AO} {L:AE}
theorem kL:∀ (xs ys:List Value) (arr:Array Value) (off:Nat),ZL arr off (xs++ys)=ZL (ZL arr off xs) (off+xs.length) ys
 | [],ys,arr,off=>rfl
 |v::r,ys,arr,off=>by
  rw[ADB,ZL,ZL,kL r ys]
  congr 1
  rw[hI];omega
theorem AEN {β:Type} {xs:List β} {lo n:Nat} {z:β} (h:lo<xs.length):clr (xs.set lo z) (lo+1) n z=clr xs lo (n+1) z:=by
 unfold clr
 have e1:(xs.set lo z).take (lo+1)=xs.take lo++ [z]:=by
  rw[List.take_add_one,List.take_set_of_le (HE _)]
  simp [h]
 have e2:(xs.set lo z).drop (lo+1+n)=xs.drop (lo+(n+1)):=by
  rw[List.drop_set_of_lt (by omega)];congr 1;omega
 rw[e1,e2,AFX]
 simp
theorem RowsIn.fill {α:Type} {R:α->List Value->Prop} {sz off:Nat} {z:α} {zs:List Value} (hz:R z zs) (hl:zs.length=sz):∀ (n lo:Nat) (arr:Array Value) (xs:List α),RowsIn R sz arr off xs->lo+n<=xs.length->off+xs.length*sz<=arr.size→
  RowsIn R sz (ZL arr (off+lo*sz) (List.replicate n zs).flatten) off (clr xs lo n z)
 |0,lo,arr,xs,h,hn,ha=>by
  have:clr xs lo 0 z=xs:=by simp [clr]
  rw[this];exact h
 |n+1,lo,arr,xs,h,hn,ha=>by
  rw[AFX,List.flatten_cons,kL,hl,←AEN (by omega)]
  have h1:=h.set (k:=lo) hz hl (by omega) ha
  have:=RowsIn.fill hz hl n (lo+1) (ZL arr (off+lo*sz) zs) (xs.set lo z) h1 (by rw[SR];omega) (by rw[SR,I_];exact ha)
  rw[Q9,Nat.one_mul,←I6] at this
  exact this
theorem AAN {zs:List Value}:∀ (n i:Nat),i<n*zs.length->(List.replicate n zs).flatten[i]? =zs[i%zs.length]?
 |0,i,h=>by simp at h
 |n+1,i,h=>by
  rw[AFX,List.flatten_cons]
  by_cases hi:i<zs.length
  ·rw[QE hi,AG0 hi]
  ·rw[OG (by omega),AAN n _ (by rw[Q9] at h;omega),←Nat.mod_eq_sub_mod (by omega)]
theorem rI (zs:List Value):∀ n,(List.replicate n zs).flatten.length=n*zs.length
 |0=>by simp
 |n+1=>by rw[AFX,List.flatten_cons,qF,rI zs n,Q9];omega
theorem rJ (zs:List Value) (n:Nat):(Builtin.zeroCells zs.toArray n).toList=(List.replicate n zs).flatten:=by
 apply Q8
 intro i
 unfold Builtin.zeroCells
 have hs:zs.toArray.size=zs.length:=by simp
 rw[hs]
 by_cases hi:i<n*zs.length
 ·rw[AAN n i hi,XT,AFY,ADC,BQ hi]
  have hz:0<zs.length:=by
   rcases ADF zs.length with h|h
   ·rw[h] at hi;omega
   ·exact h
  have hm:i%zs.length<zs.length:=Nat.mod_lt _ hz
  simp [hm]
 ·rw[N8 (by simp;omega),N8 (by rw[rI];omega)]
theorem MB {w:World} {t e:TypeId} {q:TypeInfo} {x:SV} {E:Env} {A:Option Addr} {len cap:Nat} {low high:Option SV} {h l:Option Int} {hn ln:Nat} (hu:P.underlying t=some (.slice e)) (hq:P.info? e=some q)
  (hx:x.den E= .slice A len cap) (hh:oR high len=some (h,hn)) (hl:oR low 0=some (l,ln)) (hb:Bd l h hn cap):
  (Instr.sliceAt t (x.den E) (low.map (SV.den E)) (high.map (SV.den E)) none).run P w= .ok (.slice (if cap=ln then A else XX A (ln*q.size)) (hn-ln) (cap-ln)) w:=by
 simp only[Instr.sliceAt,hx,Sem.run_bind,run_underlying hu,Result.andThen]
 simp only[Instr.slice,Sem.run_bind,run_underlying hu,Result.andThen,jX (E:=E) w true hh hl rfl hb,sizeOf,typeInfo]
 simp [hq,XX]
theorem F4 {w:World} {t e:TypeId} {q:TypeInfo} {x i:SV} {E:Env} {p:Addr} {len cap:Nat} {n:Int} (hu:P.underlying t=some (.slice e)) (hq:P.info? e=some q) (hx:x.den E= .slice (some p) len cap) (hi:idxOf i=some n)
  (h0:0<=n) (h1:n<len):(Instr.indexAt t (x.den E) (i.den E)).run P w= .ok (.pointer (some (p.add (n.toNat*q.size)))) w:=by
 obtain⟨k,hk⟩:=N_ (E:=E) hi
 rw[hk,hx]
 simp [Instr.indexAt,asIntOf,run_underlying hu,sizeOf,typeInfo,hq,h0,h1]
theorem ACI {o:Oper} {ρ:Operand->SV} {t:TypeId} {len:Nat} {parts:Array (Nat×Operand)} (CD:o.op= .buildSlice t len parts) {bs:Nat} (A8:∀ n e,AI n=some e->look L n=some e) {v:SV} {BF:BH}
  (h:qU P AI t len (parts.toList.map fun q=>(q.1,ρ q.2)) bs pr=some (v,BF)):BX TB P o ρ L v BF:=by
 unfold qU at h
 split at h
 rotate_left
 ·cases h
 rename_i e hu
 split at h
 rotate_left
 ·cases h
 rename_i q z hq hz
 split at h
 rotate_left
 ·cases h
 rename_i hc
 obtain⟨zA,yI,ZD,qX,BV⟩:=hc
 split at h
 rotate_left
 ·cases h
 rename_i cs hf
 simp only[pr,AR,BP] at h
 obtain⟨rfl,rfl⟩:=h
 have HG:look L bs=some .HP:=A8 _ _ (by have:=BI BV 0 (by omega);simpa using this)
 refine AU fun c w E hh hw=> ?_
 obtain⟨G,hG⟩:=hh
 have AJA:GV E L cs:=bG _ _ _ hf (vO (RM E hz) _ _) (by
  intro q' VJ
  obtain⟨y,_,rfl⟩:=DB.1 VJ
  exact hw y.2)
 have I4:∀ m:Nm,GV (E.set bs m) (BS L (bs,.box cs)) cs/\AH (E.set bs m) cs=AH E cs:=by
  intro m
  exact EH (fun n hn=>A1 rfl n hn) (fun n hn=>E.DR m (fun he=>CJ (he ▸ HG) hn)) _ AJA
 obtain⟨k1,k2⟩:=hG.VQ HG (w' :=w.alloc (.cells (AH E cs).toArray e)) (ob:= .cells (AH E cs).toArray e (0,0)) rfl ⟨rfl,rfl,rfl⟩ (e:= .box cs) (m:=⟨w.heap.size,0,false,0,0,none⟩) rfl ⟨rfl,rfl,rfl⟩
  (fun BV hold hG BJ=>⟨rfl,rfl,hG,hold,⟨e,by rw[(I4 _).2,Nm.qY _ rfl rfl];exact BV⟩,(I4 _).1⟩)
 refine⟨w.alloc (.cells (AH E cs).toArray e),_,.value (.slice (some ⟨w.heap.size,0,none⟩) len len),KL CD hu hq hz zA ZD qX hf,.inl ?_,⟨G,k1⟩,k2,rfl, ?_⟩
 ·simp only[SV.den,Env.B6]
 ·exact⟨.box cs,by show look (BS L (bs,.box cs)) bs=_;rw[AT (AJ HG),BQ rfl],rfl⟩
theorem ACJ {o:Oper} {ρ:Operand->SV} {t:TypeId} {x:Operand} {l h:Option Operand} (CD:o.op= .slice t x l h none) {v:SV} {BF:BH}
  (hs:sliceB P t (ρ x) (l.map ρ) (h.map ρ) pr=some (v,BF)):BX TB P o ρ L v BF:=by
 unfold sliceB at hs
 split at hs
 rotate_left
 ·cases hs
 rename_i e i lo n c hu hx hln
 have hl:l.map ρ=none:=by simpa using hln
 have uT :l=none:=by simpa using hl
 subst uT
 split at hs
 rotate_left
 ·cases hs
 rename_i q hq
 split at hs
 ·cases hs
 rename_i c
 split at hs
 rotate_left
 ·cases hs
 rename_i hh hn ll ln hhb hlb
 have hll:ll=none/\ln=0:=by
  simp only[tX,oR,AR,BP] at hlb
  exact⟨hlb.1.symm,hlb.2.symm⟩
 obtain⟨rfl,rfl⟩:=hll
 split at hs
 rotate_left
 ·cases hs
 rename_i hb
 simp only[pr,AR,BP] at hs
 obtain⟨rfl,rfl⟩:=hs
 refine AU fun cf w E hH hw=> ?_
 have NL:=hw x
 rw[hx] at NL
 have AEO:∀ (y:Option Operand),y.map (fun x=>(ρ x).den E)=(y.map ρ).map (SV.den E):=fun y=>by cases y <;> rfl
 refine⟨w,E,_, ?_,.inl rfl,hH,fun n hn=>⟨rfl,hn⟩,rfl,NL⟩
 simp only[execOp,CD,AEO]
 refine BB ?_
 have:=MB (P:=P) (w:=w) (E:=E) (x:=ρ x) (A:=some ⟨(E.nm i).A_,(E.nm i).off+lo,none⟩) (len:=n) (cap:=c+1) (low:=none) (high:=h.map ρ) hu hq (by rw[hx];rfl) hhb rfl hb
 rw[tX] at this
 rw[tX,tX,this]
 rw[BC (by omega)]
 simp [XX,SV.den,DJ]
theorem AAO {o:Oper} {ρ:Operand->SV} {t:TypeId} {x y:Operand} (CD:o.op= .indexAddr t x y) {e:TypeId} (hu:P.underlying t=some (.slice e)) {q:TypeInfo} (hq:P.info? e=some q) (yI:q.size=1) {i lo n c:Nat} (hx:ρ x= .bsl i lo n c) {k:Int} (hy:idxOf (ρ y)=some k) (hk:0<=k/\k<(n:Int)) {v:SV} {BF:BH}:
  ∀ l:List Nat,vF i lo k pr l=some (v,BF)->BX TB P o ρ L v BF
 | [],h=>by cases h
 |j::r,h=>by
  rw[vF] at h
  split at h
  ·rename_i hj
   simp only[pr,AR,BP] at h
   obtain⟨rfl,rfl⟩:=h
   refine AU fun cf w E hH hw=> ?_
   have NL:=hw x
   rw[hx] at NL
   refine⟨w,E,_, ?_,.inl rfl,hH,fun n hn=>⟨rfl,hn⟩,rfl,NL⟩
   simp only[execOp,CD]
   refine BB ?_
   rw[F4 (p:=⟨(E.nm i).A_,(E.nm i).off+lo,none⟩) hu hq (len:=n) (cap:=c) (by rw[hx];rfl) hy hk.1 hk.2]
   have:k.toNat=j:=by omega
   simp [SV.den,DJ,yI,this,I6]
  ·exact AAO CD hu hq yI hx hy hk r h
theorem ACK {o:Oper} {ρ:Operand->SV} {t:TypeId} {x y:Operand} (CD:o.op= .indexAddr t x y) {v:SV} {BF:BH}
  (h:qV P t (ρ x) (ρ y) pr=some (v,BF)):BX TB P o ρ L v BF:=by
 unfold qV at h
 split at h
 rotate_left
 ·cases h
 rename_i e i lo n c k hu hx hk
 split at h
 rotate_left
 ·cases h
 rename_i q hq
 split at h
 rotate_left
 ·cases h
 rename_i yI
 split at h
 rotate_left
 ·cases h
 rename_i hkn
 exact AAO CD hu hq yI hx hk hkn _ h
theorem zK {t:TypeId} (h:AE5 P t=true):∃ k e kk,P.underlying t=some (.map k e)/\P.underlying k=some (.int kk)/\∀ w:World,(zeroValue e).run P w= .ok .nilFunc w:=by
 unfold AE5 at h
 split at h
 ·rename_i k e hu
  split at h
  ·rename_i kk q h1 h2
   split at h
   ·rename_i h3
    exact⟨k,e,kk,hu,h1,fun w=>by simp [zeroValue,typeInfo,h2,h3]⟩
   ·cases h
  ·cases h
 ·cases h
theorem kM {kk:IntKind} (n:Int) {v:SV} {BF:BH} (E:Env):∀ (xs:List (Int×Nat)) (es:List MapEntry) (i:Nat),es.map (fun e=>(e.key,e.val))=xs.map (fun q=>((.int .i64 q.1:Value),(.func (.func q.2) #[] #[]:Value)))->bC n pr xs=some (v,BF)→
  BF=[]/\((Instr.findNow (.int kk) (.int .i64 n) es i=some none/\v= .oO [.raw .nilFunc,.HF false])\/∃ j f,Instr.findNow (.int kk) (.int .i64 n) es i=some (some (j,.func (.func f) #[] #[]))/\v= .oO [.raw (.func (.func f) #[] #[]),.HF true])
 | [],es,i,h,hl=>by
  simp only[ABL,ADD] at h
  subst h
  simp only[bC,pr,AR,BP] at hl
  exact⟨hl.2.symm,.inl ⟨rfl,hl.1.symm⟩⟩
 |(k,f)::r,es,i,h,hl=>by
  cases es with
  |nil=>simp at h
  |cons e es=>
   simp only[OI,XV,BP] at h
   obtain⟨⟨h1,h2⟩,h3⟩:=h
   rw[bC] at hl
   by_cases hk:n=k
   ·rw[BQ hk] at hl
    simp only[pr,AR,BP] at hl
    refine⟨hl.2.symm,.inr ⟨i,f, ?_,hl.1.symm⟩⟩
    simp [Instr.findNow,Instr.sameNow,h1,h2,hk]
   ·rw[BC hk] at hl
    obtain⟨q1,q2⟩:=kM (kk:=kk) n E r es (i+1) h3 hl
    refine⟨q1, ?_⟩
    have e1:Instr.findNow (.int kk) (.int .i64 n) (e::es) i=Instr.findNow (.int kk) (.int .i64 n) es (i+1):=by
     have hb:(n==k)=false:=by simp [hk]
     simp [Instr.findNow,Instr.sameNow,h1,hb]
    rw[e1]
    exact q2
theorem VR {w:World} {r:Nat} {es:Array MapEntry} {ck:Nat} (h:w.heap[r]? =some (.map es ck)):(getObj r).run P w= .ok (.map es ck) w:=by simp [getObj,Sem.run,h]
theorem QJ {k:TypeId} {kk:IntKind} (hk:P.underlying k=some (.int kk)) (em:Bool) (v:Value) (w:World):(Instr.checkKey em 10000 k v).run P w= .ok () w:=by
 rw[show (10000:Nat)=9999+1 from rfl,Instr.checkKey]
 simp [run_underlying hk]
theorem zL {o:Oper} {ρ:Operand->SV} {t:TypeId} {x i:Operand} {ok:Bool} (CD:o.op= .lookup t x i ok) (A8:∀ n e,AI n=some e->look L n=some e) {v:SV} {BF:BH}
  (h:jN P AI t (ρ x) (ρ i) ok pr=some (v,BF)):BX TB P o ρ L v BF:=by
 unfold jN at h
 split at h
 rotate_left
 ·cases h
 rename_i j n hx hi
 split at h
 rotate_left
 ·cases h
 rename_i xs hl
 split at h
 rotate_left
 ·cases h
 rename_i hm
 obtain⟨k,e,kk,u1,u2,u3⟩:=zK hm
 have kG:BF=[]:=(kM (kk:=kk) n ⟨fun _=>⟨0,0,true,0,0,none⟩,fun _=>undef⟩ xs (xs.map fun q=>({ key:= .int .i64 q.1,val:= .func (.func q.2) #[] #[],born:=0 }:MapEntry)) 0 (by simp) h).1
 subst kG
 refine AU fun c w E hh hw=> ?_
 obtain⟨G,hG⟩:=hh
 obtain⟨-, -, -, -,es,ck,h5,h6⟩:=hG.F0 j _ (A8 _ _ hl)
 obtain⟨_,hf⟩:=kM (kk:=kk) n E xs es.toList 0 h6 h
 refine⟨w,E,_, ?_,.inl rfl,⟨G,hG⟩,fun n hn=>⟨rfl,hn⟩,rfl, ?_⟩
 ·simp only[execOp,CD,hx,hi]
  refine BB ?_
  rcases hf with ⟨k1,rfl⟩|⟨j',f,k1,rfl⟩
  ·have vS:(Instr.findKey k (.int .i64 n) es.toList).run P w= .ok none w:=by simp [Instr.findKey,run_underlying u2,k1]
   simp only[Instr.lookup,Sem.run_bind,run_underlying u1,Result.andThen,SV.den,VR h5,Sem.run_pure,QJ u2,vS]
   simp [u3,SV.den,AH]
  ·have vS:(Instr.findKey k (.int .i64 n) es.toList).run P w= .ok (some (j',.func (.func f) #[] #[])) w:=by simp [Instr.findKey,run_underlying u2,k1]
   simp only[Instr.lookup,Sem.run_bind,run_underlying u1,Result.andThen,SV.den,VR h5,Sem.run_pure,QJ u2,vS]
   simp [SV.den,AH]
 ·rcases hf with ⟨_,rfl⟩|⟨_,_,_,rfl⟩ <;> exact⟨trivial,trivial,trivial⟩
def AJG (P:Program) (n:FuncId) (xs:List (Int×Nat)):Prop:=CalleeRuns P n/\∀ w:World,Calls P n #[] w (fun e w' =>∃ es ck,e= .returned (.map (some w.heap.size))/\w'.heap=w.heap.push (.map es ck)/\Rest w w' /\uI es xs)
theorem AH7 {E:Env} {G:Nat->Prop} {w:World} {a:Ty} {t:TypeId} {z:List SV} {zv:a.T} {nes:List NE} {u:BH} (hz:H2 P t=some z) (hp:CU .S0 DA a z=some (zv,[],nes,u)):Rp G w a zv (AH E z):=by
 obtain⟨c1,e1,_,_,hd⟩:=E8 E _ _ _ _ _ _ hp
 rw[Y_] at e1;subst e1
 rw[hd]
 refine Rp.mk _ _ _ fun k e he=> ?_
 obtain⟨g1,_⟩:=OB _ _ _ _ _ _ hp
 rcases g1 k false e he with rfl|⟨t,ys,ne,hs,KF,rfl⟩|⟨t,s,ys,ne,uk,hs,KF,tM,X0,rfl⟩
 ·trivial
 ·have uQ:BU E nes k=ne.nm E:=by simp [BU,KF]
  rw[uQ]
  exact hs.ok (fun i t ys h=>by simp [DA] at h)
 have uQ:BU E nes k=ne.nm E:=by simp [BU,KF]
 rw[uQ]
 exact XE (L:=([]:AE)) hs (by simp) (A3.1 (RM E hz) s tM) (fun i t ys h=>by simp [DA] at h) (fun i t ys e _ h=>by simp [DA] at h)
theorem ACL {o:Oper} {ρ:Operand->SV} {args:Array Operand} {ats:Array TypeId} {ty:TypeId} (CD:∀ (E:Env) (w:World),(execOp (fun x=>(ρ x).den E) o).run P w=(do pure (Next.value (<-Builtin.clear_ ats ty (args.map fun x=>(ρ x).den E))):Sem Next).run P w) (A8:∀ n e,AI n=some e->look L n=some e) {v:SV} {BF:BH}
  (h:qW P AI ats.toList (args.toList.map ρ) pr=some (v,BF)):BX TB P o ρ L v BF:=by
 unfold qW at h
 split at h
 rotate_left
 ·cases h
 rename_i t i lo n sz zD xS
 split at h
 rotate_left
 ·cases h
 rename_i e hu
 split at h
 rotate_left
 ·cases h
 rename_i q z a ys hq hz hl
 split at h
 rotate_left
 ·cases h
 rename_i zv nes u hp
 split at h
 rotate_left
 ·cases h
 rename_i hc
 obtain⟨zA,VA,ZD,hfl⟩:=hc
 split at h
 rotate_left
 ·cases h
 rename_i hn
 simp only[pr,AR,BP] at h
 obtain⟨rfl,rfl⟩:=h
 have ACN :ats= #[t]:=by apply SS;rw[zD]
 refine AU fun c w E hh hw=> ?_
 obtain⟨G,hG⟩:=hh
 have hL:=A8 _ _ hl
 obtain⟨x,EN,hx⟩:∃ x,args.toList=[x]/\ρ x= .sub i lo n sz:=by
  cases ha:args.toList with
  |nil=>rw[ha] at xS;simp at xS
  |cons x r=>
   rw[ha] at xS
   simp only[OI,XV,ADD] at xS
   exact⟨x,by rw[xS.2],xS.1⟩
 have KM :(args.map fun x=>(ρ x).den E)= #[(ρ x).den E]:=by
  apply SS
  rw[dN,EN];rfl
 have pD:Rp G w a zv (AH E z):=AH7 hz hp
 obtain⟨e1,e2,e3⟩:=hG.F0 i _ hL
 obtain⟨zw,hzr,qL⟩:=LP (E:=E) (P:=P) w hz
 rcases ADF n with rfl|ZJ
 ·have ANU:clr ys lo 0 zv=ys:=by simp [clr]
  refine⟨w,E,.value (.tuple #[]), ?_,.inl rfl,⟨G, ?_⟩,fun n hn=>⟨rfl,A1 rfl n hn⟩,rfl,trivial⟩
  ·rw[CD,ACN,KM,hx]
   refine BB ?_
   simp only[SV.den]
   cases (if (E.nm i).cap=lo then (E.nm i).ad else XX (E.nm i).ad (lo*sz)) <;> simp [Builtin.clear_,run_underlying hu]
  ·rw[ANU]
   have k1:=hG.change (w' :=w) (AJ hL) (.refl _) (HE _) (fun _=>rfl) (e' := .row a ys) (m:=E.nm i) rfl (fun b _ hb=>rfl)
    (fun b hb=>by have:=hG.KE hL (.inl hb);exact⟨this.2.1,this.1⟩)
    (fun k f hk hf b hb he=>hG.inj k i f _ b hk hf hL hb (.inl he)) (fun _=>hG.F0 i _ hL)
   have hE:E.set i (E.nm i)=E:=by
    refine GW (fun k=> ?_) rfl (fun _=>rfl)
    by_cases hk:k=i
    ·subst hk;rw[Env.B6]
    ·rw[Env.DR _ _ hk]
   rw[hE] at k1
   exact k1
 ·rcases e3 with ⟨h4,h5,_⟩|⟨hn4,h5,h6,h7,arr,ty,h8,h9,tJ⟩
  ·rw[h5] at hn;simp at hn;omega
  have hS:(E.nm i).cap≠lo:=by omega
  have hmul:ys.length*a.sz<=(E.nm i).cap*a.sz:=qE _ h7
  have ALG:(lo+n)*a.sz<=ys.length*a.sz:=qE _ hn
  rw[Q9] at ALG
  have AI1:(AH E z).length=a.sz:=by rw[AL,zA,VA]
  obtain⟨w',s1,s2,s3,s4,s5⟩:=E_ (P:=P) (b:=(E.nm i).A_) (off:=(E.nm i).off+lo*a.sz) (List.replicate n (AH E z)).flatten w arr 0 (fun j hj=>(E.nm i).jT hj) h8
   (by
    intro v hv
    obtain⟨l,uT,hv⟩:=List.mem_flatten.1 hv
    rw[List.eq_of_mem_replicate uT] at hv
    exact jO hfl v hv)
   (by rw[rI,AI1];omega)
  rw[JK] at s4
  refine⟨w',E,.value (.tuple #[]), ?_,.inl rfl,⟨G, ?_⟩,fun n hn=>⟨rfl,A1 rfl n hn⟩,rfl,trivial⟩
  ·rw[CD,ACN,KM,hx]
   refine BB ?_
   obtain⟨m,rfl⟩:∃ m,n=m+1:=⟨n-1,by omega⟩
   simp only[SV.den,BC hS,Nm.ad,hn4,XU,Q_,XX,XW,DJ,ZD]
   simp [Builtin.clear_,run_underlying hu,hzr,qL,rJ,s1]
  ·refine hG.setRow hL hn4 (by unfold clr;simp;omega) s2 s3 s5 ?_
   intro AL9 ty3 q1 q2 q3
   rw[h8] at q1
   simp only[AR,Obj.cells.injEq] at q1
   obtain⟨rfl,rfl,_⟩:=q1
   exact⟨_,s4,I_ _ _ _,q3.fill pD AI1 n lo _ _ hn (by omega)⟩
theorem AEP {o:Oper} {ρ:Operand->SV} {t rt:TypeId} {x y:Operand} (CD:o.op= .binOp .eql t x y rt) (hy:ρ y= .GS) (A8:∀ n e,AI n=some e->look L n=some e) {v:SV} {BF:BH}
  (h:AAH P AI t (ρ x) pr=some (v,BF)):BX TB P o ρ L v BF:=by
 unfold AAH at h
 split at h
 rotate_left
 ·cases h
 rename_i e i hu hx
 have key:∀ (a:Ty) (xs:List a.T),(look L i=some (.row a xs)\/look L i=some (.shr a xs))->0<xs.length->BX TB P o ρ L (.HF false) []:=by
  intro a xs hl ZJ
  refine AU fun c w E hH hw=> ?_
  obtain⟨G,hG⟩:=hH
  have hrd:Rd (Rp G w a) a.sz w (E.nm i) xs:=by
   rcases hl with hl|hl
   ·exact eH (hG.F0 i _ hl)
   ·exact rB (hG.F0 i _ hl)
  have ON:(E.nm i).nil=false:=by
   rcases hrd.2.2 with h|h
   ·rw[h] at ZJ;simp at ZJ
   ·exact h.1
  refine⟨w,E,_, ?_,.inl rfl,⟨G,hG⟩,fun n hn=>⟨rfl,hn⟩,rfl,trivial⟩
  simp only[execOp,CD,hx,hy,SV.den]
  have hg:=fF (P:=P) w .eql t x y (a:= .slice (E.nm i).ad (E.nm i).len (E.nm i).cap) (.slice none 0 0) (fun c h=>by cases h) (by intro h;cases h)
  have hb:(binOp .eql t (.slice (E.nm i).ad (E.nm i).len (E.nm i).cap) (.slice none 0 0)).run P w= .ok (.bool false) w:=by
   simp only[binOp]
   simp [XY (w:=w) hu,Nm.ad,ON]
  simp only[Sem.run_bind,hg,Result.andThen,hb]
  rfl
 split at h
 ·rename_i a xs hl
  split at h
  ·rename_i ZJ
   simp only[pr,AR,BP] at h
   obtain⟨rfl,rfl⟩:=h
   exact key a xs (.inl (A8 _ _ hl)) ZJ
  ·cases h
 ·rename_i a xs hl
  split at h
  ·rename_i ZJ
   simp only[pr,AR,BP] at h
   obtain⟨rfl,rfl⟩:=h
   exact key a xs (.inr (A8 _ _ hl)) ZJ
  ·cases h
 ·cases h
end
end Go.V3
