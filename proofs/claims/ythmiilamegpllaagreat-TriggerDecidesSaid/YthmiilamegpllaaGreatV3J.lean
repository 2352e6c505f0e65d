import Derived.Test.YthmiilamegpllaaGreatV3A
import Derived.Laws.BytesString
import Derived.Lib.ConvBytes
import Derived.Orders
set_option linter.unusedVariables false
set_option linter.unusedSimpArgs false
namespace Go.V3
open Go
variable {TB:Tb}
structure bG where
 live:List (Nat×CT)
 boxes:List (Nat×CT)
 rows:List (Nat×Ty)
 dead:List Nat
 lost:List Nat
 base:Nat
 pins:List (Nat×Nat×Nat):=[]
inductive Xt where
 |U3
 |nJ
def Xt.sem:Xt->Array Value->Sem Value
 | .U3=>Extern.MathFloatBits.float64bits
 | .nJ=>Extern.MathFloatBits.float64frombits
def xtE (e:Xt) (args:List SV):Pu:=
 match e,args with
 | .U3,[.nf o _]=>UZ (o.isSome=true/\o.getD 0<18446744073709551616) (.u64 (BitVec.ofNat 64 (o.getD 0)))
 | .U3,[.QT b]=>UZ (b<18446744073709551616) (.u64 (BitVec.ofNat 64 b))
 | .nJ,[.u64 x]=>val (.QT x.toNat)
 |_,_=>none
structure Cx where
 nm:List (Nat×Nat×Nat)
 CK:List Nat
 fns:FuncId->Option FnI
 loops:List (Nat×bG)
 aQ:List (Nat×bG)
 tb:Tb
 exts:List (Nat×Xt)
 lets:List Nat
 A31:List Nat:=[]
 A32:List Nat:=[]
 opens:List (Nat×(Nat×Nat×Nat)):=[]
 A09:List Nat:=[]
def qF {β α:Type} (x:β) (K:β->Option α):Option α:=K x
def AW8 {α:Type} (b:Bool) (v:SV) (K:SV->Option α):Option α:=match b,v with
 |true,.u64 x=>qF x fun x=>K (.u64 x)
 |true,.int k n=>qF n fun n=>K (.int k n)
 |_,v=>K v
theorem AMA {α:Type} (b:Bool) (v:SV) (K:SV->Option α):AW8 b v K=K v:=by
 unfold AW8 qF;split <;> rfl
def Cx.A33 (cx:Cx):Option Tmp->Bool
 |some d=>cx.lets.contains d
 |none=>false
def Cx.AMB (cx:Cx):Option Tmp->Bool
 |some d=> !cx.A32.contains d
 |none=>true
def Cx.A5S (cx:Cx):Option Tmp->Bool
 |some d=>cx.A09.contains d
 |none=>false
def Cx.AW9 (cx:Cx):Option Tmp->Bool
 |some d=>cx.A31.contains d
 |none=>false
def A34 (arr:Array Value) (k:Nat):Int:=match arr[k]? with
 |some (.int _ n)=>n
 |_=>0
def AG6 (k:IntKind):List Value->Bool
 | []=>true
 | .int k' _::r=>decide (k=k') && AG6 k r
 |_::_=>false
def lk {α:Type} (l:List (Nat×α)) (k:Nat):Option α:=
 match l with
 | []=>none
 |(a,b)::r=>if a=k then some b else lk r k
def Cx.IZ (cx:Cx):Option Tmp->Nat×Nat
 |some d=>(match lk cx.nm d with
  |some q=>q
  |none=>(0,0))
 |none=>(0,0)
def Cx.base (cx:Cx) (d:Option Tmp):Nat:=(cx.IZ d).1
def Cx.keeps (cx:Cx):Option Tmp->Bool
 |some d=>cx.CK.contains d
 |none=>false
def tyL:List (Option Ty)->Option Ty
 | []=>none
 | [x]=>x
 |x::r=>match x,tyL r with
  |some a,some b=>some (.pair a b)
  |_,_=>none
def tN (P:Program):Nat->TypeId->Option Ty
 |0,_=>none
 |n+1,t=>match P.underlying t with
  |some (.int k)=>some (match k with| .u64=> .u64|k=> .int k)
  |some .bool=>some .bool
  |some .string=>some .str
  |some (.float .f64)=>some .QT
  |some (.slice e)=>(match tN P n e with|some a=>some (.slice a)|none=>none)
  |some (.struct fs)=>tyL (fs.toList.map fun f=>tN P n f.type)
  |_=>none
def JM:Nat->Option AX:=fun _=>none
def MS:List (Int×Bool)->Int->Option Bool
 | [],_=>none
 |(a,b)::r,k=>if k=a then some b else MS r k
def X6:List (Int×Bool)->Int->Bool->List (Int×Bool)
 | [],k,v=>[(k,v)]
 |(a,b)::r,k,v=>if k=a then (k,v)::r else (a,b)::X6 r k v
def ACU (P:Program) (t:TypeId):Bool:=match P.underlying t with
 |some (.map k e)=>(match P.underlying k,P.info? e with
  |some (.int _),some q=>(match q.zero with
   |some (.bool false)=>true
   |_=>false)
  |_,_=>false)
 |_=>false
def fin (CK:Bool) (bs:Nat) (a:Ty) (xs:List a.T):C7:=(bs,.row a xs)::(match CK with
 |true=>[]
 |false=>[(bs,.shr a xs)])
section
variable (P:Program) (cx:Cx) (AR:Nat->Option AX) {α:Type}
def lF (agg:Bool) (n:Nat) (a:Ty) (xs:List a.T) (k sz off bs:Nat) (K:SV->C7->Option α):Option α:=
 if sz=a.sz/\off+n<=a.sz/\JI AR bs a.HW=true then (match agg with
  |true=>K (.agg (((IY a (gd a xs k) bs).drop off).take n)) (CW bs (B_ false a (gd a xs k)))
  |false=>(match (IY a (gd a xs k) bs)[off]? with
   |some v=>K v (CW bs (B_ false a (gd a xs k)))
   |none=>none)) else none
def qG (i:Nat) (t:Ty) (xss:List (List t.T)) (h:Option (Nat×Nat)):Option (List (List t.T)×C7):=
 match h with
 |none=>some (xss,[])
 |some (k,j)=>(match AR j with
  |some (.row t' ys)=>if he:t' =t then some (xss.set k (H6 he ys),[(j,.dead),(i,.deep t (xss.set k (H6 he ys)) none)]) else none
  |_=>none)
def AAV (deep:Bool) (t:Ty) (xss:List (List t.T)) (h:Option (Nat×Nat)) (i k sz off bs:Nat) (K:SV->C7->Option α):Option α:=
 if sz=1/\off=0 then (match JI AR bs 1 && (deep||h.isNone) with
  |true=>(match qG AR i t xss h with
   |some (ys,u)=>K (.NV bs) (u++ [(bs,.dead),(i,.deep t ys (some (k,bs))),(bs,.row t (ys.getD k []))])
   |none=>none)
  |false=>(match h with
   |some (k0,j)=>if k=k0 then K (.NV j) [] else none
   |none=>none)) else none
def AAW (deep:Bool) (t:TypeId) (x:SV) (bs:Nat) (K:SV->C7->Option α):Option α:=
 match P.info? t,P.underlying t with
 |some q,some _=>(match x with
  | .loc i off=>(match AR i with
   |some (.box cs)=>(match IE P t with
    |true=>if off+q.size<=cs.length then K (.agg ((cs.drop off).take q.size)) [] else none
    |false=>(match cs[off]? with
     |some v=>K v []
     |none=>none))
   |some (.ptr j)=>(match IE P t with
    |true=>none
    |false=>if off=0 then K (.loc j 0) [] else none)
   |_=>none)
  | .el i k sz off=>(match AR i with
   |some (.row a xs)=>lF AR (IE P t) q.size a xs k sz off bs K
   |some (.shr a xs)=>lF AR (IE P t) q.size a xs k sz off bs K
   |some (.deep a xss h)=>(match IE P t with
    |true=>none
    |false=>AAV AR deep a xss h i k sz off bs K)
   |some (.tree _ _ _)=>(match IE P t with
    |true=>none
    |false=>if sz=2/\off<2 then K (.tsl i k off) [] else none)
   |_=>none)
  |_=>none)
 |_,_=>none
def loadT (t:TypeId) (g off:Nat) (K:SV->C7->Option α):Option α:=
 match lk cx.tb g,P.underlying t,P.info? t with
 |some arr,some (.int k),some _=>(match k with
  | .u64=>none
  |k=>if AG6 k arr.toList=true then (if off<arr.size then K (.int k (A34 arr off)) [] else none) else none)
 |_,_,_=>none
def AAX:SV->Bool
 | .agg _=>false
 | .tup _=>false
 | .raw (.agg _)=>false
 | .raw (.tuple _)=>false
 | .pO _=>false
 |_=>true
def ARL:SV->Bool
 | .NV _=>false
 | .nf _ _=>false
 |_=>true
def AYN (cs:List SV) (off n:Nat):Bool:=(cs.take off).all ARL && (cs.drop (off+n)).all ARL
def uM (n:Nat) (a:Ty) (xs:List a.T) (i k sz off:Nat) (v:SV) (K:SV->C7->Option α):Option α:=
 if sz=a.sz/\off+n<=a.sz/\(BL v).length=n/\OG v=false then
  (if off=0/\n=a.sz then (match GC .iG AR a (BL v) with
   |some (y,[],_,u)=>(match u.all (fun q=> !(q.1==i)) with
    |true=>K AW (u++ [(i,.row a (xs.set k y))])
    |false=>none)
   |_=>none)
  else if a.HW=0 then (match GC .cY JM a (D_ (IY a (gd a xs k) 0) off (BL v)) with
   |some (y,[],_,_)=>K AW [(i,.row a (xs.set k y))]
   |_=>none)
  else (match AYN (IY a (gd a xs k) 0) off n with
   |true=>(match GC .iG AR a (D_ (IY a (gd a xs k) 0) off (BL v)) with
    |some (y,[],_,u)=>(match u.all (fun q=> !(q.1==i)) with
     |true=>K AW (u++ [(i,.row a (xs.set k y))])
     |false=>none)
    |_=>none)
   |false=>none))
 else none
def aR (a:Ty):Nat->List SV->Option (List a.T×C7)
 |0,[]=>some ([],[])
 |0,_::_=>none
 |n+1,cs=>match GC .iG AR a cs with
  |some (x,r,_,u)=>(match aR a n r with
   |some (xs,u')=>some (x::xs,u++u')
   |none=>none)
  |none=>none
def nK (n len:Nat) (a:Ty) (xs:List a.T) (i k off:Nat) (v:SV) (K:SV->C7->Option α):Option α:=
 if k=0/\off=0/\a.HW=0/\(BL v).length=n/\(BL v).all AAX=true/\OG v=false then
  (match aR JM a len (BL v) with
  |some (ys,_)=>if xs.length=len then K AW [(i,.row a ys)] else none
  |none=>none)
 else none
def ACV (n:Nat) (t:Ty) (xss:List (List t.T)) (h:Option (Nat×Nat)) (i k sz off:Nat) (v:SV) (K:SV->C7->Option α):Option α:=
 if n=1/\sz=1/\off=0 then (match v with
  | .NV j=>(match AR j with
   |some (.row t' ys)=>if he:t' =t then (match h with
    |none=>K AW [(j,.dead),(i,.deep t (xss.set k (H6 he ys)) none)]
    |some (k0,_)=>if k=k0 then K AW [(j,.dead),(i,.deep t (xss.set k (H6 he ys)) none)] else none) else none
   |_=>none)
  |_=>none) else none
def A0A (q1:TypeInfo) (i k q:Nat) (n:Int) (K:SV->C7->Option α):Option α:=match AR i with
 |some (.tree t1 t2 xs)=>(match q with
  |0=>if q1.size=1/\t1.sz=1 then (if 0<=n/\n<((gd (.pair (.slice t1) (.slice t2)) xs k).1.length:Int) then K (.tel i k 0 n.toNat) [] else none) else none
  |1=>if q1.size=1/\t2.sz=1 then (if 0<=n/\n<((gd (.pair (.slice t1) (.slice t2)) xs k).2.length:Int) then K (.tel i k 1 n.toNat) [] else none) else none
  |_=>none)
 |_=>none
def storeT (n:Nat) (i k q j:Nat) (v:SV) (K:SV->C7->Option α):Option α:=match AR i with
 |some (.tree t1 t2 xs)=>if n=1/\OG v=false/\AAX v=true then (match q with
  |0=>(match GC .cY JM t1 [v] with
   |some (y,[],_,_)=>if t1.HW=0/\t1.sz=1 then K AW [(i,.tree t1 t2 (xs.set k ((gd (.pair (.slice t1) (.slice t2)) xs k).1.set j y,(gd (.pair (.slice t1) (.slice t2)) xs k).2)))] else none
   |_=>none)
  |1=>(match GC .cY JM t2 [v] with
   |some (y,[],_,_)=>if t2.HW=0/\t2.sz=1 then K AW [(i,.tree t1 t2 (xs.set k ((gd (.pair (.slice t1) (.slice t2)) xs k).1,(gd (.pair (.slice t1) (.slice t2)) xs k).2.set j y)))] else none
   |_=>none)
  |_=>none) else none
 |_=>none
def qH (t:TypeId) (x v:SV) (K:SV->C7->Option α):Option α:=
 match P.info? t with
 |some q=>(match x with
  | .loc i off=>(match AR i with
   |some (.box cs)=>if (BL v).length=q.size/\(BL v).all AAX=true/\OG v=false/\off+(BL v).length<=cs.length then K AW [(i,.box (D_ cs off (BL v)))] else none
   |_=>none)
  | .el i k sz off=>(match AR i with
   |some (.row a xs)=>(match P.underlying t with
    |some (.array len _)=>nK q.size len a xs i k off v K
    |_=>uM AR q.size a xs i k sz off v K)
   |some (.deep a xss h)=>ACV AR q.size a xss h i k sz off v K
   |_=>none)
  | .tel i k h j=>storeT AR q.size i k h j v K
  |_=>none)
 |none=>none
def qI (t:TypeId) (CK:Bool) (bs:Nat) (K:SV->C7->Option α):Option α:=
 match OH P t with
 |some z=>if JI AR bs 1=true then (match P.underlying t with
  |some (.array len e)=>(match tN P 8 e,P.info? e with
   |some a,some q=>if q.size=a.sz/\a.HW=0/\0<len then (match aR JM a len z with
    |some (xs,_)=>K (.el bs 0 a.sz 0) (fin CK bs a xs)
    |none=>none) else none
   |_,_=>none)
  |_=>if VJ (z.map fun v=>(0,v))=true then K (.loc bs 0) [(bs,.box z)] else none) else none
 |none=>none
def AOM (x:SV) (bs:Nat) (K:SV->C7->Option α):Option α:=
 if OG x=false/\JI AR bs 1=true then K (.loc bs 0) [(bs,.box (BL x))] else none
def PC (t:TypeId) (len:Nat) (parts:List (Nat×SV)) (CK:Bool) (bs:Nat) (K:SV->C7->Option α):Option α:=
 match P.underlying t with
 |some (.slice e)=>(match P.info? e,OH P e,tN P 8 e with
  |some q,some z,some a=>
   if z.length=q.size/\q.size=a.sz/\len*q.size<=16777216/\VJ parts=true/\JI AR bs 1=true then
    (match cW (fun i=>some (i*q.size,q.size)) (fresh z (len*q.size) q.size) parts with
    |some cs=>(match aR AR a len cs with
     |some (xs,u)=>K (.NV bs) (u++fin CK bs a xs)
     |none=>none)
    |none=>none)
   else none
  |_,_,_=>none)
 |_=>none
def RJ (t:TypeId) (l c:SV) (CK:Bool) (bs:Nat) (K:SV->C7->Option α):Option α:=
 match P.underlying t with
 |some (.slice e)=>(match P.info? e,OH P e,tN P 8 e,l,c with
  |some q,some z,some a,.int _ n,.int _ m=>(match GC .cY JM a z with
   |some (zv,[],_,_)=>
    if z.length=q.size/\q.size=a.sz/\q.bytes≠0/\JI AR bs 1=true then
     (if 0<=n/\n<=m/\m*q.bytes<=140737488355328 then K (.NV bs) (fin CK bs a (List.replicate n.toNat zv)) else none)
    else none
   |_=>none)
  |_,_,_,_,_=>none)
 |_=>none
def ARM (t:TypeId):Bool:=match P.underlying t with
 |some (.slice e)=>(match P.underlying e with
  |some (.slice _)=>true
  |_=>false)
 |_=>false
def AAY (t:TypeId) (l c:SV) (bs:Nat) (K:SV->C7->Option α):Option α:=
 match P.underlying t with
 |some (.slice e)=>(match P.info? e,OH P e,tN P 8 e,l,c with
  |some q,some [.MJ],some (.slice a),.int _ n,.int _ m=>
   if q.size=1/\q.bytes≠0/\JI AR bs 1=true then
    (if 0<=n/\n<=m/\m*q.bytes<=140737488355328 then K (.NV bs) [(bs,.deep a (List.replicate n.toNat []) none)] else none)
   else none
  |_,_,_,_,_=>none)
 |_=>none
def qJ (t:TypeId) (len:Nat) (parts:List (Nat×SV)) (bs:Nat) (K:SV->C7->Option α):Option α:=
 match P.underlying t with
 |some (.slice e)=>(match P.info? e,OH P e,tN P 8 e,parts with
  |some q,some [.MJ],some (.slice a),[(0,.NV j)]=>(match AR j with
   |some (.row t' ys)=>if he:t' =a then
    (if q.size=1/\len=1/\JI AR bs 1=true then K (.NV bs) [(j,.dead),(bs,.deep a [H6 he ys] none)] else none) else none
   |_=>none)
  |some q,some [.MJ],some (.slice a),[(0,.MJ)]=>if q.size=1/\len=1/\JI AR bs 1=true then K (.NV bs) [(bs,.deep a [[]] none)] else none
  |_,_,_,_=>none)
 |_=>none
def A0B (t:TypeId):Bool:=match P.underlying t with
 |some (.slice e)=>(match tN P 8 e with
  |some (.pair (.slice _) (.slice _))=>true
  |_=>false)
 |_=>false
def nL (t:Ty):SV->Option (List t.T×C7)
 | .MJ=>some ([],[])
 | .NV i=>(match AR i with
  |some (.row t' ys)=>if he:t' =t then some (H6 he ys,[(i,.dead)]) else none
  |_=>none)
 |_=>none
def qK (t:TypeId) (len:Nat) (parts:List (Nat×SV)) (bs:Nat) (K:SV->C7->Option α):Option α:=
 match P.underlying t with
 |some (.slice e)=>(match P.info? e,OH P e,tN P 8 e,parts with
  |some q,some [.MJ,.MJ],some (.pair (.slice a) (.slice b)),[(0,.agg [v1,v2])]=>(match nL AR a v1,nL AR b v2 with
   |some (y1,u1),some (y2,u2)=>if q.size=2/\len=1/\JI AR bs 1=true/\u1.all (fun q=>u2.all (fun r=> !(r.1==q.1)))=true then K (.NV bs) (u1++u2++ [(bs,.tree a b [(y1,y2)])]) else none
   |_,_=>none)
  |_,_,_,_=>none)
 |_=>none
def AG7 (a b:Ty):SV->Option (List (List a.T×List b.T)×C7)
 | .MJ=>some ([],[])
 | .NV i=>(match AR i with
  |some (.tree t1 t2 xs)=>if he:t1=a/\t2=b then some (he.1 ▸ he.2 ▸ xs,[(i,.dead)]) else none
  |_=>none)
 |_=>none
def AWA:SV->Bool
 | .NV i=>(match AR i with
  |some (.tree _ _ _)=>true
  |_=>false)
 |_=>false
def gU (ts:List TypeId) (x y:SV) (bs:Nat) (K:SV->C7->Option α):Option α:=
 match ts with
 | [t0,t1]=>(match P.underlying t0,P.underlying t1 with
  |some (.slice e),some (.slice _)=>(match P.info? e,OH P e,tN P 8 e with
   |some q,some [.MJ,.MJ],some (.pair (.slice a) (.slice b))=>
    if q.size=2/\q.bytes≠0/\JI AR bs 1=true then
     (match AG7 AR a b x,AG7 AR a b y with
     |some (xs,u1),some (ys,u2)=>(match u1.all (fun q=>u2.all (fun r=> !(r.1==q.1))) with
      |true=>if (xs.length+ys.length)*q.bytes<=140737488355328 then K (.NV bs) (u1++u2++ [(bs,.tree a b (xs++ys))]) else none
      |false=>none)
     |_,_=>none)
    else none
   |_,_,_=>none)
  |_,_=>none)
 |_=>none
def WV:SV->Bool
 | .NV i=>(match AR i with
  |some (.deep _ _ _)=>true
  |some (.tree _ _ _)=>true
  |_=>false)
 |_=>false
def AG8 (a:Ty):SV->Option (List (List a.T)×C7)
 | .MJ=>some ([],[])
 | .NV i=>(match AR i with
  |some (.deep t xss none)=>if he:t=a then some (H6 (PR Ty.slice he) xss,[(i,.dead)]) else none
  |_=>none)
 |_=>none
def AWB (CK:Bool) (bs:Nat) (a:Ty) (xss:List (List a.T)):C7:=match CK with
 |true=>[]
 |false=>[(bs,.shr (.slice a) xss)]
def U4 (ts:List TypeId) (x y:SV) (CK:Bool) (bs:Nat) (K:SV->C7->Option α):Option α:=
 match ts with
 | [t0,t1]=>(match P.underlying t0,P.underlying t1 with
  |some (.slice e),some (.slice _)=>(match P.info? e,OH P e,tN P 8 e with
   |some q,some [.MJ],some (.slice a)=>
    if q.size=1/\q.bytes≠0/\JI AR bs 1=true then
     (match AG8 AR a x,AG8 AR a y with
     |some (xs,u1),some (ys,u2)=>(match u1.all (fun q=>u2.all (fun r=> !(r.1==q.1))) with
      |true=>if (xs.length+ys.length)*q.bytes<=140737488355328 then K (.NV bs) (u1++u2++ [(bs,.deep a (xs++ys) none)]++AWB CK bs a (xs++ys)) else none
      |false=>none)
     |_,_=>none)
    else none
   |_,_,_=>none)
  |_,_=>none)
 |_=>none
def ARN :SV->Option Nat
 | .MJ=>some 0
 | .NV i=>(match AR i with
  |some (.row _ xs)=>some xs.length
  |some (.shr _ xs)=>some xs.length
  |some (.deep _ xss _)=>some xss.length
  |some (.tree _ _ xs)=>some xs.length
  |_=>none)
 | .sub _ _ n _=>some n
 |_=>none
def gV (ts:List TypeId) (x y:SV) (CK:Bool) (bs:Nat) (K:SV->C7->Option α):Option α:=
 match ts with
 | [t0,t1]=>(match P.underlying t0,P.underlying t1 with
  |some (.slice e),some (.slice _)=>(match P.info? e,OH P e,tN P 8 e with
   |some q,some z,some a=>
    if z.length=q.size/\q.size=a.sz/\q.bytes≠0/\JI AR bs 1=true then
     (match ZB AR a x,NX .cY AR a y with
     |some (xs,_,u1),some (ys,ne,u2)=>
      (match u1.all (fun q=>u2.all (fun r=> !(r.1==q.1))) with
      |true=>if (xs.length+ys.length)*q.bytes<=140737488355328 then K (.NV bs) (u2++u1++fin CK bs a (xs++ys)) else none
      |false=>none)
     |_,_=>none)
    else none
   |_,_,_=>none)
  |_,_=>none)
 |_=>none
def qL (t:TypeId) (x:SV) (low high:Option SV) (CK:Bool) (bs:Nat) (K:SV->C7->Option α):Option α:=
 match P.underlying t with
 |some (.slice e)=>(match P.info? e,x with
  |some q,.NV i=>(match AR i with
   |some (.row a xs)=>(match CK with
    |false=>if q.size=a.sz then (match bnd high xs.length,bnd low 0 with
     |some (h,hn),some (l,ln)=>if Bd l h hn xs.length then K (.sub i ln (hn-ln) a.sz) [] else none
     |_,_=>none) else none
    |true=>if q.size=a.sz/\JI AR bs 1=true then (match bnd high xs.length,bnd low 0 with
     |some (h,hn),some (l,ln)=>if Bd l h hn xs.length then K (.NV bs) [(i,.dead),(bs,.row a (B9 xs ln (hn-ln)))] else none
     |_,_=>none) else none)
   |some (.shr a xs)=>if q.size=a.sz/\JI AR bs 1=true then (match bnd high xs.length,bnd low 0 with
    |some (h,hn),some (l,ln)=>if Bd l h hn xs.length then K (.NV bs) [(bs,.shr a (B9 xs ln (hn-ln)))] else none
    |_,_=>none) else none
   |_=>none)
  |_,_=>none)
 |_=>none
def qM (t:TypeId) (x i:SV) (K:SV->C7->Option α):Option α:=
 match P.underlying t,idxOf i with
 |some (.slice e),some n=>(match P.info? e,x with
  |some q,.NV j=>(match AR j with
   |some (.row a xs)=>if q.size=a.sz then (if 0<=n/\n<(xs.length:Int) then K (.el j n.toNat a.sz 0) [] else none) else none
   |some (.shr a xs)=>if q.size=a.sz then (if 0<=n/\n<(xs.length:Int) then K (.el j n.toNat a.sz 0) [] else none) else none
   |some (.deep _ xss _)=>if q.size=1 then (if 0<=n/\n<(xss.length:Int) then K (.el j n.toNat 1 0) [] else none) else none
   |some (.tree _ _ xs)=>if q.size=2 then (if 0<=n/\n<(xs.length:Int) then K (.el j n.toNat 2 0) [] else none) else none
   |_=>none)
  |some q,.tsl i k h=>A0A AR q i k h n K
  |some q,.sub j lo len sz=>(match AR j with
   |some (.row a _)=>if q.size=sz/\sz=a.sz then (if 0<=n/\n<(len:Int) then K (.el j (lo+n.toNat) sz 0) [] else none) else none
   |_=>none)
  |_,_=>none)
 |some (.array len e),some n=>(match P.info? e,x with
  |some q,.el j k sz off=>(match AR j with
   |some (.row a xs)=>if q.size=a.sz/\sz=a.sz/\k=0/\off=0 then (if (0<=n/\n<(len:Int))/\n<(xs.length:Int) then K (.el j n.toNat a.sz 0) [] else none) else none
   |_=>none)
  |_,_=>none)
 |_,_=>none
def nM (bs:Nat) (K:SV->C7->Option α):Option α:=
 if JI AR bs 1=true then K (.mpv bs) [(bs,.map [])] else none
def uN (t:TypeId) (x i:SV) (ok:Bool) (K:SV->C7->Option α):Option α:=
 match x,i with
 | .mpv j,.int .i64 n=>(match AR j with
  |some (.map xs)=>(match ACU P t with
   |true=>(match ok with
    |true=>K (.tup [.bool ((MS xs n).getD false),.bool (MS xs n).isSome]) []
    |false=>K (.bool ((MS xs n).getD false)) [])
   |false=>none)
  |_=>none)
 |_,_=>none
def uO (t:TypeId) (x i v:SV) (K:SV->C7->Option α):Option α:=
 match x,i,toB v with
 | .mpv j,.int .i64 n,some b=>(match AR j with
  |some (.map xs)=>(match ACU P t with
   |true=>K AW [(j,.map (X6 xs n b))]
   |false=>none)
  |_=>none)
 |_,_,_=>none
def A35 (xs:List Int):ByteArray:=xs.foldl (fun r n=>r.push (UInt8.ofNat n.toNat)) ByteArray.empty
def lG (s:ByteArray):List Int:=s.data.toList.map fun b=>(b.toNat:Int)
def AWC (P:Program) (e:TypeId):Bool:=match P.underlying e with
 |some (.int .u8)=>true
 |_=>false
def AMC (s d:TypeId) (x:SV) (kp:Bool) (bs:Nat) (K:SV->C7->Option α):Option α:=
 match P.underlying s,P.underlying d with
 |some (.slice e),some .string=>(match AWC P e with
  |true=>(match WV AR x with
   |true=>none
   |false=>(match NX .cY AR (.int .u8) x with
    |some (xs,_,_)=>K (.str (A35 xs)) []
    |none=>none))
  |false=>none)
 |some .string,some (.slice e)=>(match AWC P e && JI AR bs 1 with
  |true=>(match x with
   | .str t=>K (.NV bs) (fin kp bs (.int .u8) (lG t))
   |_=>none)
  |false=>none)
 |_,_=>none
def AG9 (dst:Option Tmp) (ρ:Operand->SV) (K:SV->C7->Option α):Op->Option α
 | .load t x=>(match ρ x with
  | .ptr (some ⟨g,off,none⟩)=>loadT P cx t g off K
  |v=>AAW P AR (cx.AMB dst) t v (cx.base dst) K)
 | .store t x y=>qH P AR t (ρ x) (ρ y) K
 | .alloc t=>qI P AR t (cx.keeps dst) (cx.base dst) K
 | .box _ x=>AOM AR (ρ x) (cx.base dst) K
 | .buildSlice t len parts=>(match cx.keeps dst && (cx.AMB dst && ARM P t) with
  |true=>qJ P AR t len (parts.toList.map fun q=>(q.1,ρ q.2)) (cx.base dst) K
  |false=>(match cx.keeps dst && (cx.AMB dst && A0B P t) with
   |true=>qK P AR t len (parts.toList.map fun q=>(q.1,ρ q.2)) (cx.base dst) K
   |false=>PC P AR t len (parts.toList.map fun q=>(q.1,ρ q.2)) (cx.keeps dst) (cx.base dst) K))
 | .makeSlice t l c=>(match cx.keeps dst && (cx.AMB dst && ARM P t) with
  |true=>AAY P AR t (ρ l) (ρ c) (cx.base dst) K
  |false=>RJ P AR t (ρ l) (ρ c) (cx.keeps dst) (cx.base dst) K)
 | .slice t x l h none=>qL P AR t (ρ x) (l.map ρ) (h.map ρ) (cx.keeps dst) (cx.base dst) K
 | .indexAddr t x i=>qM P AR t (ρ x) (ρ i) K
 | .call { callee:= .builtin .len,args,argTypes }=>(match args.toList.map ρ,argTypes.toList with
  | [x],[t]=>(match P.underlying t,ARN AR x with
   |some (.slice _),some n=>K (.int .i64 n) []
   |_,_=>none)
  |_,_=>none)
 | .call { callee:= .builtin .append,args,argTypes }=>(match args.toList.map ρ with
  | [x,y]=>(match WV AR y with
   |true=>(match AWA AR y with
    |true=>gU P AR argTypes.toList x y (cx.base dst) K
    |false=>U4 P AR argTypes.toList x y (cx.keeps dst) (cx.base dst) K)
   |false=>gV P AR argTypes.toList x y (cx.keeps dst) (cx.base dst) K)
  |_=>none)
 | .makeMap _ none=>nM AR (cx.base dst) K
 | .convert s d x=>AMC P AR s d (ρ x) (cx.keeps dst) (cx.base dst) K
 | .binOp .quo _ x y _=>(match ρ x,ρ y with
  | .QT a,.QT b=>(match JI AR (cx.base dst) 1 with
   |true=>K (.nf (GL .quo a b) (cx.base dst)) [((cx.base dst),.dead)]
   |false=>none)
  |_,_=>none)
 | .lookup t x i ok=>uN P AR t (ρ x) (ρ i) ok K
 | .mapUpdate t x i v=>uO P AR t (ρ x) (ρ i) (ρ v) K
 | .call { callee:= .value f,args,.. }=>(match AOG (ρ f) with
  |some (n,cs)=>(match cx.fns n with
   |some fi=>AM8 (cx.A5S dst) fi (cx.base dst) AR (args.toList.map ρ++cs) K
   |none=>(match lk cx.exts n with
    |some e=>(match xtE e (args.toList.map ρ++cs) with
     |some (none,v)=>K v []
     |some (some q,v)=> @ite _ q.p q.d (K v []) none
     |none=>none)
    |none=>none))
  |_=>none)
 |_=>none
def nN (v:SV) (K:SV->C7->Option α):Option α:=
 match v with
 | .NV i=>(match AR i with
  |some (.deep t xss h)=>(match qG AR i t xss h with
   |some (ys,u)=>K (.NV i) (u++ [(i,.shr (.slice t) ys)])
   |none=>none)
  |_=>K (.NV i) [])
 |v=>K v []
def RZ (ρ:Operand->SV) (K:SV->C7->Option α):Op->Option α
 | .move x=>nN AR (ρ x) K
 | .assign x=>nN AR (ρ x) K
 |_=>none
def Op.AMD:Op->Bool
 | .binOp .quo _ _ _ _=>true
 |_=>false
def core0 (dst:Option Tmp) (ρ:Operand->SV) (K:SV->C7->Option α) (op:Op):Option α:=
 match (match cx.keeps dst && Op.AMD op with
  |true=>none
  |false=>cX P ρ op) with
 |some (none,v)=>AW8 (cx.A33 dst) v fun v=>K v []
 |some (some q,v)=> @ite _ q.p q.d (AW8 (cx.A33 dst) v fun v=>K v []) none
 |none=>AG9 P cx AR dst ρ K op
def core (dst:Option Tmp) (ρ:Operand->SV) (K:SV->C7->Option α) (op:Op):Option α:=
 match cx.AW9 dst with
 |true=>RZ AR ρ K op
 |false=>core0 P cx AR dst ρ K op
end
section
variable {P:Program} {cx:Cx} {AR:Nat->Option AX} {α:Type}
def pr (v:SV) (u:C7):Option (SV×C7):=some (v,u)
theorem AJE (agg:Bool) (n:Nat) (a:Ty) (xs:List a.T) (k sz off bs:Nat) (K:SV->C7->Option α):
  lF AR agg n a xs k sz off bs K=(lF AR agg n a xs k sz off bs pr).bind (fun q=>K q.1 q.2):=by
 unfold lF
 split
 ·cases agg
  ·simp only;split <;> rfl
  ·rfl
 ·rfl
theorem AON (deep:Bool) (t:Ty) (xss:List (List t.T)) (h:Option (Nat×Nat)) (i k sz off bs:Nat) (K:SV->C7->Option α):
  AAV AR deep t xss h i k sz off bs K=(AAV AR deep t xss h i k sz off bs pr).bind (fun q=>K q.1 q.2):=by
 unfold AAV
 repeat' split
 all_goals rfl
theorem AOO (deep:Bool) (t:TypeId) (x:SV) (bs:Nat) (K:SV->C7->Option α):AAW P AR deep t x bs K=(AAW P AR deep t x bs pr).bind (fun q=>K q.1 q.2):=by
 unfold AAW
 repeat' split
 all_goals first|rfl|exact AJE _ _ _ _ _ _ _ _ _|exact AON _ _ _ _ _ _ _ _ _ _
theorem AJF (t:TypeId) (x v:SV) (K:SV->C7->Option α):qH P AR t x v K=(qH P AR t x v pr).bind (fun q=>K q.1 q.2):=by
 unfold qH uM nK ACV storeT
 repeat' split
 all_goals rfl
theorem AJG (t:TypeId) (CK:Bool) (bs:Nat) (K:SV->C7->Option α):qI P AR t CK bs K=(qI P AR t CK bs pr).bind (fun q=>K q.1 q.2):=by
 unfold qI
 repeat' split
 all_goals rfl
theorem ARO (x:SV) (bs:Nat) (K:SV->C7->Option α):AOM AR x bs K=(AOM AR x bs pr).bind (fun q=>K q.1 q.2):=by
 unfold AOM;split <;> rfl
theorem tO (t:TypeId) (len:Nat) (parts:List (Nat×SV)) (CK:Bool) (bs:Nat) (K:SV->C7->Option α):PC P AR t len parts CK bs K=(PC P AR t len parts CK bs pr).bind (fun q=>K q.1 q.2):=by
 unfold PC
 repeat' split
 all_goals rfl
theorem wM (t:TypeId) (l c:SV) (CK:Bool) (bs:Nat) (K:SV->C7->Option α):RJ P AR t l c CK bs K=(RJ P AR t l c CK bs pr).bind (fun q=>K q.1 q.2):=by
 unfold RJ
 repeat' split
 all_goals rfl
theorem AGA (ts:List TypeId) (x y:SV) (CK:Bool) (bs:Nat) (K:SV->C7->Option α):gV P AR ts x y CK bs K=(gV P AR ts x y CK bs pr).bind (fun q=>K q.1 q.2):=by
 unfold gV
 repeat' split
 all_goals rfl
theorem AOP (t:TypeId) (l c:SV) (bs:Nat) (K:SV->C7->Option α):AAY P AR t l c bs K=(AAY P AR t l c bs pr).bind (fun q=>K q.1 q.2):=by
 unfold AAY
 repeat' split
 all_goals rfl
theorem AJH (t:TypeId) (len:Nat) (parts:List (Nat×SV)) (bs:Nat) (K:SV->C7->Option α):qK P AR t len parts bs K=(qK P AR t len parts bs pr).bind (fun q=>K q.1 q.2):=by
 unfold qK
 repeat' split
 all_goals rfl
theorem AGB (ts:List TypeId) (x y:SV) (bs:Nat) (K:SV->C7->Option α):gU P AR ts x y bs K=(gU P AR ts x y bs pr).bind (fun q=>K q.1 q.2):=by
 unfold gU
 repeat' split
 all_goals rfl
theorem AJI (t:TypeId) (len:Nat) (parts:List (Nat×SV)) (bs:Nat) (K:SV->C7->Option α):qJ P AR t len parts bs K=(qJ P AR t len parts bs pr).bind (fun q=>K q.1 q.2):=by
 unfold qJ
 repeat' split
 all_goals rfl
theorem AGC (ts:List TypeId) (x y:SV) (CK:Bool) (bs:Nat) (K:SV->C7->Option α):U4 P AR ts x y CK bs K=(U4 P AR ts x y CK bs pr).bind (fun q=>K q.1 q.2):=by
 unfold U4
 repeat' split
 all_goals rfl
theorem AGD (ρ:Operand->SV) (K:SV->C7->Option α) (op:Op):RZ AR ρ K op=(RZ AR ρ pr op).bind (fun q=>K q.1 q.2):=by
 unfold RZ nN
 repeat' split
 all_goals rfl
theorem AJJ (t:TypeId) (x:SV) (low high:Option SV) (CK:Bool) (bs:Nat) (K:SV->C7->Option α):qL P AR t x low high CK bs K=(qL P AR t x low high CK bs pr).bind (fun q=>K q.1 q.2):=by
 unfold qL
 repeat' split
 all_goals rfl
theorem AJK (t:TypeId) (x i:SV) (K:SV->C7->Option α):qM P AR t x i K=(qM P AR t x i pr).bind (fun q=>K q.1 q.2):=by
 unfold qM A0A
 repeat' split
 all_goals rfl
theorem X7 (fi:FnI) (base:Nat) (args:List SV) (K:SV->C7->Option α):sC fi base AR args K=(sC fi base AR args pr).bind (fun q=>K q.1 q.2):=by
 unfold sC
 split
 ·rfl
 ·split
  ·rfl
  ·split
   ·rfl
   ·split
    ·rw[Option.bind_assoc];rfl
    ·rfl
theorem AOQ (fi:FnI) (base:Nat) (args:List SV) (K:SV->C7->Option α):AAU fi base AR args K=(AAU fi base AR args pr).bind (fun q=>K q.1 q.2):=by
 unfold AAU
 split
 ·exact X7 _ _ _ _
 ·split
  ·rw[X7]
   conv=>rhs;arg 1;rw[X7]
   rw[Option.bind_assoc]
   congr 1
   funext q
   split
   ·split <;> rfl
   ·rfl
  ·rfl
theorem AOR (fi:FnI) (base:Nat) (args:List SV) (K:SV->C7->Option α):AAO fi base AR args K=(AAO fi base AR args pr).bind (fun q=>K q.1 q.2):=by
 unfold AAO
 split
 ·rfl
 ·split
  ·rfl
  ·split
   ·rfl
   ·split
    ·rw[Option.bind_assoc]
     congr 1
     funext r
     cases aO (fi.rs++fi.os) r with
     |true=>rfl
     |false=>exact X7 _ _ _ _
    ·rfl
theorem AOS (d:Bool) (fi:FnI) (base:Nat) (args:List SV) (K:SV->C7->Option α):AM8 d fi base AR args K=(AM8 d fi base AR args pr).bind (fun q=>K q.1 q.2):=by
 cases d
 ·exact AOQ _ _ _ _
 ·exact AOR _ _ _ _
theorem ARP (dst:Option Tmp) (ρ:Operand->SV) (K:SV->C7->Option α) (op:Op):AG9 P cx AR dst ρ K op=(AG9 P cx AR dst ρ pr op).bind (fun q=>K q.1 q.2):=by
 unfold AG9
 split
 ·split
  ·unfold loadT
   repeat' split
   all_goals rfl
  ·exact AOO _ _ _ _ _
 ·exact AJF _ _ _ _
 ·exact AJG _ _ _ _
 ·exact ARO _ _ _
 ·split
  ·exact AJI _ _ _ _ _
  ·split
   ·exact AJH _ _ _ _ _
   ·exact tO _ _ _ _ _ _
 ·split
  ·exact AOP _ _ _ _ _
  ·exact wM _ _ _ _ _ _
 ·exact AJJ _ _ _ _ _ _ _
 ·exact AJK _ _ _ _
 ·repeat' split
  all_goals rfl
 ·split
  ·split
   ·split
    ·exact AGB _ _ _ _ _
    ·exact AGC _ _ _ _ _ _
   ·exact AGA _ _ _ _ _ _
  ·rfl
 ·unfold nM
  split <;> rfl
 ·unfold AMC
  repeat' split
  all_goals rfl
 ·repeat' split
  all_goals rfl
 ·unfold uN
  repeat' split
  all_goals rfl
 ·unfold uO
  repeat' split
  all_goals rfl
 ·split
  ·split
   ·exact AOS _ _ _ _ _
   ·split
    ·split
     ·rfl
     ·rename_i q v _
      have:=q.d
      by_cases hp:q.p <;> simp [hp,pr]
     ·rfl
    ·rfl
  ·rfl
 ·rfl
theorem nO (dst:Option Tmp) (ρ:Operand->SV) (K:SV->C7->Option α) (op:Op):core P cx AR dst ρ K op=(core P cx AR dst ρ pr op).bind (fun q=>K q.1 q.2):=by
 unfold core
 split
 ·exact AGD _ _ _
 unfold core0
 simp only[AMA]
 split
 ·rfl
 ·rename_i q v _
  have:=q.d
  by_cases hp:q.p <;> simp [hp,pr]
 ·exact ARP _ _ _ _
end
end Go.V3
namespace Go.V3
open Go
variable {TB:Tb}
theorem Own.inner {α:Type} {R:α->List Value->Prop} {sz:Nat} {c:EC TB} {G:Nat->Prop} {w:World} {m:Nm} {xs:List α} (h:Own R sz c G w m xs):GG R sz w m xs:=by
 obtain⟨h1,h2,h3⟩:=h
 exact⟨h1,h2,h3.imp id fun ⟨a,_,_,d,e⟩=>⟨a,d,e⟩⟩
def qN (m:Nm) (l:List Nat):List Nat:=if m.nil=true then l else m.CE::l
theorem MT {m:Nm} {l:List Nat} {b:Nat}:b∈qN m l↔b∈l\/(m.nil=false/\b=m.CE):=by
 unfold qN
 cases hm:m.nil with
 |true=>simp
 |false=>simp [or_comm]
section
variable {P:Program} {L:AL}
theorem GD.put {c:EC TB} {G:Nat->Prop} {w w' :World} {E E' :Env} {L' :AL} {m:Nm} {l:List Nat} {t:Ty} {xss:List (List t.T)} {h:Option (Nat×Nat)} (d:GD c G w E L m l t xss h)
  {k:Nat} (hh:∀ k' j',h=some (k',j')->k' =k) (hk:k<xss.length) {nb:Nm} {ys:List t.T} (OU:GG (Rp G w t) t.sz w nb ys)
  (hnb:nb.nil=false->nb.CE∉l/\¬G nb.CE/\¬c.Old nb.CE) (hw:∀ b,b≠m.CE->w'.heap[b]? =w.heap[b]?)
  (A0C:∀ arr ty,m.nil=false->w.heap[m.CE]? =some (.cells arr ty (0,0))->k<arr.size->∃ ty',w'.heap[m.CE]? =some (.cells (arr.setIfInBounds k (.slice nb.ad nb.len nb.cap)) ty' (0,0))):
  GD c G w' E' L' m (qN nb l) t (xss.set k ys) none:=by
 obtain⟨d1,d2,d3,d4,d5⟩:=d
 rcases d5 with ⟨h1,h2,h3⟩|⟨h1,h2,h3,arr,ty,hs,h4,h5,h6,h7,h8,h9⟩
 ·rw[h2] at hk;simp at hk
 obtain⟨ty',k4⟩:=A0C arr ty h1 h4 (by omega)
 have hG:∀ b,G b->w'.heap[b]? =w.heap[b]? :=fun b hb=>hw b (fun he=>(d4 _ h2).1 (he ▸ hb))
 have hrp:∀ (x:t.T) (vs:List Value),Rp G w t x vs->Rp G w' t x vs:=fun x vs hx=>Rp.mono hG (fun _ h=>h) t x vs hx
 have CU:nb.nil=false->nb.CE≠m.CE:=fun hn he=>(hnb hn).1 (he ▸ h2)
 have JE:(qN nb l).Nodup:=by
  unfold qN
  split
  ·exact d3
  ·rename_i hn
   exact WD.2 ⟨(hnb (by simpa using hn)).1,d3⟩
 have MU:∀ k',k' ≠k->∀ j,h≠some (k',j):=fun k' I0 j he=>I0 (hh k' j he)
 refine⟨by rw[EW];exact d1,d2,JE, ?_,.inr ⟨h1,MT.2 (.inl h2),by rw[EW];exact h3,_,ty',fun k' =>if k' =k then nb else hs k',k4,by rw[Array.size_setIfInBounds];exact h5, ?_, ?_, ?_, ?_⟩⟩
 ·intro b hb
  rcases MT.1 hb with hb|⟨hn,rfl⟩
  ·obtain⟨q1,q2,q3⟩:=d4 b hb
   refine⟨q1,q2, ?_⟩
   by_cases hbm:b=m.CE
   ·subst hbm;exact⟨_,_,_,k4⟩
   ·rw[hw b hbm];exact q3
  ·obtain⟨q1,q2,q3⟩:=hnb hn
   refine⟨q2,q3, ?_⟩
   obtain⟨p1,p2,p3⟩:=OU
   rcases p3 with ⟨p4,_⟩|⟨_,_,ZA,A7N,p6,_⟩
   ·rw[hn] at p4;cases p4
   ·rw[hw _ (CU hn)];exact⟨_,_,_,p6⟩
 ·intro k' NW
  rw[EW] at NW
  dsimp only
  rw[AF1]
  by_cases I0:k' =k
  ·subst I0
   rw[AA rfl,AA (by omega),AA rfl]
  ·rw[AD (fun he=>I0 he.symm),AD I0]
   exact h6 k' NW
 ·intro k' xs NW _
  rw[vL] at NW
  dsimp only
  by_cases I0:k' =k
  ·subst I0
   rw[AA rfl,AA hk] at NW
   simp only[BA] at NW;subst NW
   rw[AA rfl]
   exact⟨OU.mono hrp (fun hn=>hw _ (CU hn)),fun hn=>⟨MT.2 (.inr ⟨hn,rfl⟩),CU hn⟩⟩
  ·rw[AD (fun he=>I0 he.symm)] at NW
   rw[AD I0]
   obtain⟨q1,q2⟩:=h7 k' xs NW (MU k' I0)
   exact⟨q1.mono hrp (fun hn=>hw _ (q2 hn).2),fun hn=>⟨MT.2 (.inl (q2 hn).1),(q2 hn).2⟩⟩
 ·intro a b ha hb hab _ _ hna AJL
  rw[EW] at ha hb
  dsimp only at hna AJL ⊢
  have key:∀ k',k' <xss.length->k' ≠k->(hs k').nil=false->(hs k').CE∈l:=fun k' NW I0 hn=>((h7 k' _ (OT NW) (MU k' I0)).2 hn).1
  by_cases hak:a=k
  ·have hbk:b≠k:=fun he=>hab (hak.trans he.symm)
   rw[AA hak] at hna
   rw[AD hbk] at AJL
   rw[AA hak,AD hbk]
   intro he
   exact (hnb hna).1 (he ▸ key b hb hbk AJL)
  ·rw[AD hak] at hna
   rw[AD hak]
   by_cases hbk:b=k
   ·rw[AA hbk] at AJL
    rw[AA hbk]
    intro he
    exact (hnb AJL).1 (he ▸ key a ha hak hna)
   ·rw[AD hbk] at AJL
    rw[AD hbk]
    exact h8 a b ha hb hab (MU a hak) (MU b hbk) hna AJL
 ·intro k' j he;cases he
theorem AS.A36 {c:EC TB} {G:Nat->Prop} {w w' :World} {E:Env} (hH:AS c G w E L) {i j k:Nat} {t:Ty} {xss:List (List t.T)} {ys:List t.T} {h:Option (Nat×Nat)} (hi:look L i=some (.deep t xss h)) (hj:look L j=some (.row t ys))
  (hh:∀ k' j',h=some (k',j')->k' =k) (hk:k<xss.length) (hr:Rest w w') (hs:w'.heap.size=w.heap.size) (hw:∀ b,b≠(E.nm i).CE->w'.heap[b]? =w.heap[b]?)
  (A0C:∀ arr ty,(E.nm i).nil=false->w.heap[(E.nm i).CE]? =some (.cells arr ty (0,0))->k<arr.size->∃ ty',w'.heap[(E.nm i).CE]? =some (.cells (arr.setIfInBounds k (.slice (E.nm j).ad (E.nm j).len (E.nm j).cap)) ty' (0,0))):
  AS c G w' (E.T4 i (E.nm i) (qN (E.nm j) (E.ins.l i))) (AK L [(j,.dead),(i,.deep t (xss.set k ys) none)]):=by
 have mK:i≠j:=by
  rintro rfl;rw[hi] at hj;cases hj
 have X8:=hH.kill (AQ hj)
 have CD:=fun n=>BC (q:=(j,AX.dead)) (AQ hj) n
 have hi1:look (DK L (j,.dead)) i=some (.deep t xss h):=by rw[CD,AD mK];exact hi
 have hd:=hH.dp i t xss h hi
 have C1:=hH.MK j _ hj
 have hjb:∀ b,((E.nm j).nil=false/\b=(E.nm j).CE)->(AX.row t ys).ow E j b:=by
  rintro b ⟨hn,rfl⟩
  exact .inl (by simp [AX.own,hn])
 have hnb:(E.nm j).nil=false->(E.nm j).CE∉E.ins.l i/\¬G (E.nm j).CE/\¬c.Old (E.nm j).CE:=by
  intro hn
  have h1:=hjb _ ⟨hn,rfl⟩
  have h2:=hH.QU hj h1
  exact⟨fun hx=>hH.inj i j _ _ _ mK hi hj (AX.GF.2 hx) h1,h2.1,h2.2.1⟩
 have ARQ:GD c G w' (E.T4 i (E.nm i) (qN (E.nm j) (E.ins.l i))) (DK (DK L (j,.dead)) (i,.deep t (xss.set k ys) none)) (E.nm i) (qN (E.nm j) (E.ins.l i)) t (xss.set k ys) none:=
  hd.put hh hk C1.inner hnb hw A0C
 have iH:∀ b,(AX.deep t (xss.set k ys) none).ow (E.T4 i (E.nm i) (qN (E.nm j) (E.ins.l i))) i b↔b∈qN (E.nm j) (E.ins.l i):=by
  intro b
  rw[AX.GF,(E.E8 _ _ _).2]
 have hmi:∀ b,b<w.heap.size->b∉qN (E.nm j) (E.ins.l i)->w'.heap[b]? =w.heap[b]? :=by
  intro b hb hn
  refine hw b (fun he=> ?_)
  rcases hd.cs with ⟨h1,h2,_⟩|⟨_,h2,_⟩
  ·rw[h2] at hk;simp at hk
  ·exact hn (MT.2 (.inl (he ▸ h2)))
 exact X8.U0 (AQ hi1) hr (by omega) (fun _=>(E.E8 _ _ _).1) (fun k hk=>E.NQ _ _ hk) rfl (fun b hb hn=>hmi b hb (fun hx=>hn ((iH b).2 hx)))
  (fun b hb=>by
   rcases MT.1 ((iH b).1 hb) with hx|hx
   ·have:=hH.QU hi (AX.GF.2 hx);exact⟨this.2.1,this.1⟩
   ·have:=hH.QU hj (hjb b hx);exact⟨this.2.1,this.1⟩)
  (fun k f hk hf b hb he=>by
   rw[CD] at hf
   by_cases hkj:k=j
   ·subst hkj
    simp only[HJ,BA] at hf;subst hf
    rcases hb with hb|⟨hb,_⟩|⟨hb,_⟩ <;> cases hb
   ·rw[AD hkj] at hf
    rcases MT.1 ((iH b).1 he) with hx|hx
    ·exact hH.inj k i f _ b hk hf hi hb (AX.GF.2 hx)
    ·exact hH.inj k j f _ b hkj hf hj hb (hjb b hx))
  trivial
  (fun t' xs' q he=>by
   cases he
   rw[(E.E8 _ _ _).1,(E.E8 _ _ _).2]
   exact ARQ)
theorem gW {AR:Nat->Option AX} (CD:∀ n e,AR n=some e->look L n=some e) {c:EC TB} {G:Nat->Prop} {w:World} {E:Env} (hH:AS c G w E L) {i:Nat} {t:Ty} {xss ys:List (List t.T)} {h:Option (Nat×Nat)} {u:C7} (hi:AR i=some (.deep t xss h))
  (hc:qG AR i t xss h=some (ys,u)):∃ E',AS c G w E' (AK L u)/\(∀ n,E'.nm n=E.nm n)/\E'.ds=E.ds/\look (AK L u) i=some (.deep t ys none)/\(∀ n,Al L n->Al (AK L u) n)/\(∀ n,look L n=some .L5->look (AK L u) n=some .L5)/\ys.length=xss.length:=by
 have LQ :=CD _ _ hi
 unfold qG at hc
 split at hc
 ·simp only[BA,DH] at hc
  obtain⟨rfl,rfl⟩:=hc
  exact⟨E,hH,fun _=>rfl,rfl,LQ,fun _ h=>h,fun _ h=>h,rfl⟩
 ·rename_i k j
  split at hc
  rotate_left
  ·cases hc
  rename_i t' zs hl
  split at hc
  rotate_left
  ·cases hc
  rename_i he
  subst he
  simp only[BA,DH] at hc
  obtain⟨rfl,rfl⟩:=hc
  have hj:=CD _ _ hl
  have hd:=hH.dp i _ xss _ LQ
  have mK:i≠j:=by
   rintro rfl;rw[LQ] at hj;cases hj
  have fin:∀ l' :List Nat,AS c G w (E.T4 i (E.nm i) l') (AK L [(j,.dead),(i,.deep t' (xss.set k zs) none)])->∃ E',AS c G w E' (AK L [(j,.dead),(i,.deep t' (xss.set k (H6 rfl zs)) none)])/\(∀ n,E'.nm n=E.nm n)/\E'.ds=E.ds/\look (AK L [(j,.dead),(i,.deep t' (xss.set k (H6 rfl zs)) none)]) i=some (.deep t' (xss.set k (H6 rfl zs)) none)/\(∀ n,Al L n->Al (AK L [(j,.dead),(i,.deep t' (xss.set k (H6 rfl zs)) none)]) n)/\(∀ n,look L n=some .L5->look (AK L [(j,.dead),(i,.deep t' (xss.set k (H6 rfl zs)) none)]) n=some .L5)/\(xss.set k (H6 rfl zs)).length=xss.length:=by
   intro l' h1
   have AWD:=fun n=>BC (q:=(j,AX.dead)) (AQ hj) n
   have hi1:look (DK L (j,.dead)) i=some (.deep t' xss (some (k,j))):=by rw[AWD,AD mK];exact LQ
   have A37:=fun n=>BC (q:=(i,AX.deep t' (xss.set k zs) none)) (AQ hi1) n
   refine⟨_,h1,fun n=> ?_,rfl, ?_,fun n hn=> ?_,fun n hn=> ?_,by simp⟩
   ·by_cases hn:n=i
    ·subst hn;exact (E.E8 _ _ _).1
    ·exact (E.NQ _ _ hn).1
   ·exact (A37 i).trans (AA rfl)
   ·exact BZ rfl n (BZ rfl n hn)
   ·show look (DK (DK L (j,.dead)) _) n=_
    have h1:n≠i:=by rintro rfl;rw[LQ] at hn;cases hn
    have h2:n≠j:=by rintro rfl;rw[hj] at hn;cases hn
    exact ((A37 n).trans (AD h1)).trans (((AWD n).trans (AD h2)).trans hn)
  by_cases hk:k<xss.length
  ·refine fin _ (hH.A36 LQ hj (fun k' j' he=>by cases he;rfl) hk (.refl _) rfl (fun _ _=>rfl) (fun arr ty hn ha hka=>⟨ty, ?_⟩))
   rcases hd.cs with ⟨h1,_⟩|⟨h1,h2,h3,ZA,ty',hs,h4,h5,h6,h7,h8,h9⟩
   ·rw[hn] at h1;cases h1
   rw[h4] at ha
   simp only[BA,Obj.cells.injEq] at ha
   obtain⟨rfl,rfl,_⟩:=ha
   have hx:=h6 k hk
   rw[(h9 k j rfl hk).1] at hx
   rw[h4]
   congr 2
   apply ALP
   intro q
   rw[AF1]
   split
   ·rename_i hq;subst hq;first|exact hx|(rw[AA hka];exact hx)
   ·rfl
  ·
   have X8:=hH.kill (AQ hj)
   have AWD:=fun n=>BC (q:=(j,AX.dead)) (AQ hj) n
   have hi1:look (DK L (j,.dead)) i=some (.deep t' xss (some (k,j))):=by rw[AWD,AD mK];exact LQ
   have WI:xss.set k zs=xss:=ALC (by omega)
   refine fin (E.ins.l i) ?_
   rw[WI]
   have iH:∀ b,(AX.deep t' xss none).ow (E.T4 i (E.nm i) (E.ins.l i)) i b↔b∈E.ins.l i:=fun b=>by rw[AX.GF,(E.E8 _ _ _).2]
   refine X8.U0 (AQ hi1) (.refl _) (EY _) (fun _=>(E.E8 _ _ _).1) (fun k hk=>E.NQ _ _ hk) rfl (fun _ _ _=>rfl)
    (fun b hb=>by have:=hH.QU LQ (AX.GF.2 ((iH b).1 hb));exact⟨this.2.1,this.1⟩)
    (fun n f hn hf b hb he=>X8.inj n i f _ b hn hf hi1 hb (AX.GF.2 ((iH b).1 he))) trivial ?_
   intro t'' xs' q he
   cases he
   rw[(E.E8 _ _ _).1,(E.E8 _ _ _).2]
   obtain⟨d1,d2,d3,d4,d5⟩:=hd
   refine⟨d1,d2,d3,d4,d5.imp id ?_⟩
   rintro⟨h1,h2,h3,ZA,ty',hs,h4,h5,h6,h7,h8,h9⟩
   have MU:∀ k',k' <xss.length->∀ j',some (k,j)≠some (k',j'):=fun k' NW j' he=>by
    simp only[BA,DH] at he;omega
   refine⟨h1,h2,h3,ZA,ty',hs,h4,h5,h6,fun k' xs NW _=> ?_,fun a b ha hb hab _ _=>h8 a b ha hb hab (MU a ha) (MU b hb),fun k' j' he=>by cases he⟩
   have DO:k' <xss.length:=by
    rcases IA k' xss.length with h' |h'
    ·exact h'
    ·rw[UX h'] at NW;cases NW
   exact h7 k' xs NW (MU k' DO)
theorem AS.AYO {c:EC TB} {G:Nat->Prop} {w:World} {E:Env} (hH:AS c G w E L) {i k bs:Nat} {t:Ty} {xss:List (List t.T)} (hi:look L i=some (.deep t xss none)) (hb:look L bs=some .L5) (hn:(E.nm i).nil=false) (hk:k<xss.length):
  ∃ E',AS c G w E' (AK L [(bs,.dead),(i,.deep t xss (some (k,bs))),(bs,.row t (xss.getD k []))])/\(∀ n,n≠bs->E'.nm n=E.nm n)/\E'.ds=E.ds∧
   ∃ arr ty,w.heap[(E.nm i).CE]? =some (.cells arr ty (0,0))/\arr[k]? =some (.slice (E'.nm bs).ad (E'.nm bs).len (E'.nm bs).cap):=by
 have hib:i≠bs:=by rintro rfl;rw[hi] at hb;cases hb
 have hd:=hH.dp i _ xss _ hi
 obtain⟨d1,d2,d3,d4,d5⟩:=hd
 rcases d5 with ⟨h1,_⟩|⟨h1,h2,h3,arr,ty,hs,h4,h5,h6,h7,h8,h9⟩
 ·rw[hn] at h1;cases h1
 have MU:∀ k' j,(none:Option (Nat×Nat))≠some (k',j):=fun _ _ he=>by cases he
 have s1:=hH.change (i:=bs) (e' := .dead) (m:=hs k) (w' :=w) (AQ hb) (.refl _) (EY _) (fun hx=>absurd hx (E3 hb)) rfl (fun _ _ _=>rfl) (fun b hb=>by cases hb) (fun _ _ _ _ _ _ hb=>by cases hb) (fun _=>trivial)
 have hl1:=fun n=>BC (q:=(bs,AX.dead)) (AQ hb) n
 have hi1:look (DK L (bs,.dead)) i=some (.deep t xss none):=by rw[hl1,AD hib];exact hi
 have AOI:Al (DK L (bs,.dead)) bs:=⟨.dead,by rw[hl1,AA rfl],rfl⟩
 let l' :List Nat:=if (hs k).nil=true then E.ins.l i else (E.ins.l i).erase (hs k).CE
 have KP:∀ b∈l',b∈E.ins.l i:=by
  intro b hb
  show b∈E.ins.l i
  simp only[l'] at hb
  split at hb
  ·exact hb
  ·exact List.mem_of_mem_erase hb
 have dA:∀ b∈E.ins.l i,((hs k).nil=false->b≠(hs k).CE)->b∈l' :=by
  intro b hb CU
  simp only[l']
  split
  ·exact hb
  ·rename_i hx
   exact (List.mem_erase_of_ne (CU (by simpa using hx))).2 hb
 have ARR:(hs k).nil=false->(hs k).CE∉l' :=by
  intro hx hm
  simp only[l',hx,VF,KA] at hm
  exact (d3.mem_erase_iff.1 hm).1 rfl
 obtain⟨OU,AWE⟩:=h7 k _ (OT hk) (MU k)
 have hEi:(E.set bs (hs k)).nm i=E.nm i:=E.HY _ hib
 let E2:Env:=(E.set bs (hs k)).T4 i (E.nm i) l'
 have hE2:∀ n,n≠bs->E2.nm n=E.nm n:=by
  intro n hnb
  by_cases T5:n=i
  ·subst T5;exact (Env.E8 _ _ _ _).1
  ·exact ((Env.NQ _ _ _ T5).1).trans (E.HY _ hnb)
 have AWF:E2.nm bs=hs k:=((Env.NQ _ _ _ (fun he=>hib he.symm)).1).trans (E.EZ _ _)
 have A38:E2.ins.l i=l' :=(Env.E8 _ _ _ _).2
 have A39:E2.nm i=E.nm i:=(Env.E8 _ _ _ _).1
 have iH:∀ b,(AX.deep t xss (some (k,bs))).ow E2 i b↔b∈l' :=fun b=>by rw[AX.GF,A38]
 have ARQ:GD c G w E2 (DK (DK L (bs,.dead)) (i,.deep t xss (some (k,bs)))) (E2.nm i) (E2.ins.l i) t xss (some (k,bs)):=by
  rw[A39,A38]
  refine⟨d1,d2, ?_,fun b hb=>d4 b (KP b hb),.inr ⟨h1,dA _ h2 (fun hx he=>(AWE hx).2 he.symm),h3,arr,ty,hs,h4,h5,h6, ?_, ?_, ?_⟩⟩
  ·simp only[l']
   split
   ·exact d3
   ·exact d3.erase _
  ·intro k' xs NW hj
   have I0:k' ≠k:=by rintro rfl;exact hj bs rfl
   have DO:k' <xss.length:=by
    rcases IA k' xss.length with h' |h'
    ·exact h'
    ·rw[UX h'] at NW;cases NW
   obtain⟨q1,q2⟩:=h7 k' xs NW (MU k')
   exact⟨q1,fun hx=>⟨dA _ (q2 hx).1 (fun hy=>h8 k' k DO hk I0 (MU _) (MU _) hx hy),(q2 hx).2⟩⟩
  ·intro a b ha hb hab _ _
   exact h8 a b ha hb hab (MU _) (MU _)
  ·intro k' j he _
   simp only[BA,DH] at he
   obtain⟨rfl,rfl⟩:=he
   exact⟨AWF.symm,BZ rfl _ AOI⟩
 have s2:AS c G w E2 (DK (DK L (bs,.dead)) (i,.deep t xss (some (k,bs)))):=by
  refine s1.U0 (AQ hi1) (.refl _) (EY _) (fun _=>by rw[A39,hEi]) (fun n T5=>Env.NQ _ _ _ T5) rfl (fun _ _ _=>rfl)
   (fun b hb=>by have:=d4 b (KP b ((iH b).1 hb));exact⟨this.2.1,this.1⟩)
   (fun n f T5 hf b hb he=>s1.inj n i f _ b T5 hf hi1 hb (AX.GF.2 (KP b ((iH b).1 he)))) trivial ?_
  intro t'' xs' q he
  cases he
  exact ARQ
 have lB:=fun n=>BC (q:=(i,AX.deep t xss (some (k,bs)))) (AQ hi1) n
 have uJ:look (DK (DK L (bs,.dead)) (i,.deep t xss (some (k,bs)))) bs=some .dead:=by rw[lB,AD (fun he=>hib he.symm),hl1,AA rfl]
 have hi2:look (DK (DK L (bs,.dead)) (i,.deep t xss (some (k,bs)))) i=some (.deep t xss (some (k,bs))):=by rw[lB,AA rfl]
 have WI:E2.set bs (hs k)=E2:=by
  refine L9 (fun n=> ?_) rfl (fun _=>rfl)
  by_cases hnb:n=bs
  ·subst hnb;rw[Env.EZ,AWF]
  ·exact Env.HY _ _ hnb
 have hgk:xss.getD k []=xss[k]:=by simp [List.getD,OT hk]
 have s3:=s2.change (i:=bs) (e' := .row t (xss.getD k [])) (m:=hs k) (w' :=w) (AQ uJ) (.refl _) (EY _) (fun _=>AWF.symm) rfl (fun _ _ _=>rfl)
  (fun b hb=>by
   simp only[AX.own] at hb
   split at hb
   ·cases hb
   ·rename_i hx
    simp only[BA] at hb;subst hb
    have:=d4 _ (AWE (by simpa using hx)).1
    exact⟨this.2.1,this.1⟩)
  (fun n f hnb hf b hb he=>by
   simp only[AX.own] at he
   split at he
   ·cases he
   rename_i hx
   have hx:(hs k).nil=false:=by simpa using hx
   simp only[BA] at he;subst he
   by_cases T5:n=i
   ·subst T5
    rw[hi2] at hf
    simp only[BA] at hf;subst hf
    exact ARR hx ((iH _).1 hb)
   ·rw[lB,AD T5,hl1,AD hnb] at hf
    have UA :f.ow E n (hs k).CE:=by
     refine (AX.gO ?_).1 hb
     exact⟨hE2 n hnb,(Env.NQ _ _ _ T5).2⟩
    exact hH.inj n i f _ _ T5 hf hi UA (AX.GF.2 (AWE hx).1))
  (fun _=>by
   rw[hgk]
   obtain⟨p1,p2,p3⟩:=OU
   refine⟨p1,p2,p3.imp id ?_⟩
   rintro⟨p4,p5,p6⟩
   have:=d4 _ (AWE p4).1
   exact⟨p4,this.1,this.2.1,p5,p6⟩)
 rw[WI] at s3
 exact⟨E2,s3,hE2,rfl,arr,ty,h4,by rw[AWF];exact h6 k hk⟩
end
end Go.V3
namespace Go.V3
open Go
variable {TB:Tb}
def E9 (TB:Tb) (P:Program) (o:Oper) (ρ:Operand->SV) (L:AL) (v:SV) (DG:C7):Prop:=
 ∀ (c:EC TB) (w:World) (E:Env),Hd c w E L->(∀ x,(ρ x).wf E L)->∀ (a:Act) (next:Act->World->Prop) (Q:Exit->Act->World->Prop),execOp a.eval o=execOp (fun x=>(ρ x).den E) o→
  (∀ E' w',Hd c w' E' (AK L DG)->(∀ n,Al L n->E'.nm n=E.nm n/\Al (AK L DG) n)->E'.ds=E.ds->v.wf E' (AK L DG)->next (a.put o.dst (v.den E')) w')->o.wp P a w next Q
theorem BS {P:Program} {o:Oper} {ρ:Operand->SV} {L:AL} {v:SV} {DG:C7}
  (h:∀ (c:EC TB) (w:World) (E:Env),Hd c w E L->(∀ x,(ρ x).wf E L)->∃ (w' :World) (E' :Env) (nx:Next),(execOp (fun x=>(ρ x).den E) o).run P w= .ok nx w' /\(nx= .value (v.den E')\/(nx= .skip/\v=AW))∧
   Hd c w' E' (AK L DG)/\(∀ n,Al L n->E'.nm n=E.nm n/\Al (AK L DG) n)/\E'.ds=E.ds/\v.wf E' (AK L DG)):E9 TB P o ρ L v DG:=by
 intro c w E hh hw a next Q ha hn
 obtain⟨w',E',nx,h1,h2,h3,h4,h5,h6⟩:=h c w E hh hw
 show o.upon P a next Q ((execOp a.eval o).run P w)
 rw[ha,h1]
 rcases h2 with rfl|⟨rfl,rfl⟩
 ·exact hn E' w' h3 h4 h5 h6
 ·exact hn E' w' h3 h4 h5 h6
section
variable {P:Program} {AR:Nat->Option AX} {L:AL}
theorem dF (E:Env) (cs:List SV) (off n:Nat):AN E ((cs.drop off).take n)=BR (AN E cs).toArray off n:=by
 unfold BR
 simp [FO,List.map_take,List.map_drop]
theorem XG {E:Env} {cs:List SV} (h:L7 E L cs) (off n:Nat):L7 E L ((cs.drop off).take n):=
 B0.2 fun v hv=>B0.1 h v (AAA (AA9 hv))
theorem nP {w:World} {b off:Nat} {t:TypeId} {q:TypeInfo} {d:TypeDesc} {arr:Array Value} {ty:TypeId} {fz:Nat×Nat} (hq:P.info? t=some q) (hd:P.underlying t=some d) (ha:IE P t=true)
  (h:w.heap[b]? =some (.cells arr ty fz)) (hn:off+q.size<=arr.size):(Instr.loadAt t (.pointer (some ⟨b,off,none⟩))).run P w= .ok (.agg (BR arr off q.size).toArray) w:=by
 have:=run_loadCells (P:=P) w h hn
 simp [Instr.loadAt,Instr.sureAddr,loadVar,O3 w hd,ha,sizeOf,typeInfo,hq,this]
theorem KR {w:World} {b off:Nat} {t:TypeId} {d:TypeDesc} {arr:Array Value} {ty:TypeId} {fz:Nat×Nat} {x:Value} (hd:P.underlying t=some d) (ha:IE P t=false)
  (h:w.heap[b]? =some (.cells arr ty fz)) (hx:arr[off]? =some x):(Instr.loadAt t (.pointer (some ⟨b,off,none⟩))).run P w= .ok x w:=by
 have:w.cell? ⟨b,off,none⟩=some x:=by simp [World.cell?,h,hx]
 simp [Instr.loadAt,Instr.sureAddr,loadVar,O3 w hd,ha,this]
theorem Nm.wN (m:Nm) (l:List Value):(m.arr l).size=m.pp.pre.length+l.length+m.pp.post.length:=by simp [Nm.arr];omega
theorem Nm.AME {m:Nm} (l:List Value) (h1:m.pp.pre=[]) (h2:m.pp.post=[]):m.arr l=l.toArray:=by simp [Nm.arr,h1,h2]
theorem Nm.ACW (m:Nm) {l:List Value} {k:Nat} (hk:k<l.length):(m.arr l)[m.pp.pre.length+k]? =l[k]? :=by
 simp only[Nm.arr,vH]
 rw[J_,V_ (by omega),WA (by omega)]
 congr 1;omega
theorem Nm.AAZ (m:Nm) {l:List Value} {off n:Nat} (h:off+n<=l.length):BR (m.arr l) (m.pp.pre.length+off) n=BR l.toArray off n:=by
 apply WC
 intro i
 unfold BR
 rw[mR,mR]
 split
 ·rename_i hi
  have h1:=m.ACW (l:=l) (k:=off+i) (by omega)
  rw[cP,cP]
  rw[<-O1] at h1
  simpa using h1
 ·rfl
theorem Nm.AWG (m:Nm) {l:List Value} {k:Nat} (hk:k<l.length) (v:Value):(m.arr l).setIfInBounds (m.pp.pre.length+k) v=m.arr (l.set k v):=by
 simp only[Nm.arr,List.setIfInBounds_toArray]
 rw[J_,List.set_append_right _ _ (by omega),List.set_append_left _ _ (by omega),J_]
 congr 4;omega
theorem A0D {a:Ty} {xs:List a.T} {k:Nat} (h:k<xs.length):xs[k]? =some (gd a xs k):=by
 rw[gd,OT h]
 simp [List.getD,OT h]
theorem AGE (arr:Array Value) (p sz off n:Nat) (h:off+n<=sz):((BR arr p sz).drop off).take n=BR arr (p+off) n:=by
 apply WC
 intro j
 rw[mR,CJ]
 split
 ·rw[cP,CJ,AA (by omega),O1]
 ·rfl
theorem sH {arr:Array Value} {p n:Nat} (h:(BR arr p n).length=n) (hn:0<n):p+n<=arr.size:=by
 unfold BR at h
 simp at h
 omega
theorem AMF {c:EC TB} {G:Nat->Prop} {w:World} {E:Env} (hG:AS c G w E L) {i k:Nat} {a:Ty} {xs:List a.T} (hl:look L i=some (.row a xs)\/look L i=some (.shr a xs)) (hk:k<(E.nm i).len) (hn:(E.nm i).nil=false):
  k<xs.length/\∃ arr ty fz,w.heap[(E.nm i).CE]? =some (.cells arr ty fz)/\Rp G w a (gd a xs k) (BR arr ((E.nm i).off+k*a.sz) a.sz)/\(E.nm i).off+k*a.sz+a.sz<=arr.size:=by
 have fin:∀ (arr:Array Value) (ty:TypeId) (fz:Nat×Nat),k<xs.length->w.heap[(E.nm i).CE]? =some (.cells arr ty fz)->RowsIn (Rp G w a) a.sz arr (E.nm i).off xs→
   k<xs.length/\∃ arr ty fz,w.heap[(E.nm i).CE]? =some (.cells arr ty fz)/\Rp G w a (gd a xs k) (BR arr ((E.nm i).off+k*a.sz) a.sz)/\(E.nm i).off+k*a.sz+a.sz<=arr.size:=by
  intro arr ty fz mL h1 h2
  have h3:=h2 k _ (A0D mL)
  exact⟨mL,arr,ty,fz,h1,h3,sH h3.length (AJ5 a)⟩
 rcases hl with hl|hl
 ·obtain⟨h1,h2,h3⟩:=hG.MK i _ hl
  rcases h3 with ⟨h4,_⟩|⟨_,_,_,_,arr,ty,h5,_,h6⟩
  ·rw[hn] at h4;cases h4
  ·exact fin arr ty _ (by omega) h5 h6
 ·obtain⟨h1,_,h3⟩:=hG.MK i _ hl
  rcases h3 with rfl|⟨_,_,arr,ty,fz,h5,h6⟩
  ·simp at h1;omega
  ·exact fin arr ty fz (by omega) h5 h6
theorem AB0 {o:Oper} {ρ:Operand->SV} {t:TypeId} {x:Operand} (EP:o.op= .load t x) {q:TypeInfo} {d:TypeDesc} (hq:P.info? t=some q) (hd:P.underlying t=some d) {i k sz off bs:Nat} (hx:ρ x= .el i k sz off)
  {a:Ty} {xs:List a.T} (hl:look L i=some (.row a xs)\/look L i=some (.shr a xs)) (CD:∀ n e,AR n=some e->look L n=some e) {v:SV} {DG:C7}
  (h:lF AR (IE P t) q.size a xs k sz off bs pr=some (v,DG)):E9 TB P o ρ L v DG:=by
 unfold lF at h
 split at h
 rotate_left
 ·cases h
 rename_i hc
 obtain⟨rfl,bD,DZ⟩:=hc
 refine BS fun c w E hh hw=> ?_
 obtain⟨G,hG⟩:=hh
 have WW:=hw x
 rw[hx] at WW
 obtain⟨PB,hk,hn⟩:=WW
 obtain⟨mL,arr,ty,fz,h1,h2,h3⟩:=AMF hG hl hk hn
 obtain⟨ms,h4,h5⟩:=h2.out
 have AAT:=fun j hj=>CD _ _ (CZ DZ j hj)
 obtain⟨k1,k2⟩:=hG.nD (B_ false a (gd a xs k)) (n:=bs) (ms:=ms) (fun j hj=>AAT j (by rw[BI] at hj;exact hj)) (by
   intro j e he
   have:=h5 j e he
   cases e <;> first|exact this|exact this.elim)
  (by rw[gP];simp) (by rw[gP];simp)
 rw[BI] at k1 k2
 have hnm:∀ n,Al L n->(E.put bs a.HW ms).nm n=E.nm n/\Al (AK L (CW bs (B_ false a (gd a xs k)))) n:=by
  intro n hn
  have hb:¬(bs<=n/\n<bs+a.HW):=by
   intro hx
   have:=AAT (n-bs) (by omega)
   have e:bs+(n-bs)=n:=by omega
   rw[e] at this
   exact E3 this hn
  refine⟨Env.WT _ _ _ _ (by omega), ?_⟩
  obtain⟨e,wG,he2⟩:=hn
  exact⟨e,by rw[k2,AD hb];exact wG,he2⟩
 have sA:L7 (E.put bs a.HW ms) (AK L (CW bs (B_ false a (gd a xs k)))) (IY a (gd a xs k) bs):=by
  refine wF _ _ _ fun j hj=> ?_
  have DO:j<(B_ false a (gd a xs k)).length:=by rw[BI];exact hj
  refine⟨(B_ false a (gd a xs k))[j], ?_,XZ (OT DO)⟩
  rw[k2,AA ⟨by omega,by omega⟩]
  have e:bs+j-bs=j:=by omega
  rw[e,OT DO]
 have lE:AN (E.put bs a.HW ms) (IY a (gd a xs k) bs)=BR arr ((E.nm i).off+k*a.sz) a.sz:=by
  rw[h4,WS]
  exact IB _ _ fun j hj=>Env.lA _ _ _ _ hj
 have AYP:(E.nm i).off+(k*a.sz+off)=(E.nm i).off+k*a.sz+off:=by omega
 split at h
 ·rename_i X9
  simp only[pr,BA,DH] at h
  obtain⟨rfl,rfl⟩:=h
  refine⟨w,E.put bs a.HW ms,_, ?_,.inl rfl,⟨G,k1⟩,hnm,rfl,XG sA _ _⟩
  simp only[execOp,EP,hx,SV.den]
  refine CX ?_
  rw[AYP,nP hq hd X9 h1 (by omega),dF,lE]
  rw[<-AGE arr _ a.sz off q.size bD]
  unfold BR
  simp
 ·rename_i X9
  split at h
  ·rename_i u hu
   simp only[pr,BA,DH] at h
   obtain⟨rfl,rfl⟩:=h
   refine⟨w,E.put bs a.HW ms,_, ?_,.inl rfl,⟨G,k1⟩,hnm,rfl,B0.1 sA u (aZ hu)⟩
   simp only[execOp,EP,hx,SV.den]
   refine CX ?_
   have DO:off<a.sz:=by
    rcases IA off (IY a (gd a xs k) bs).length with h' |h'
    ·rwa [FA] at h'
    ·rw[UX h'] at hu;cases hu
   have SG:arr[(E.nm i).off+k*a.sz+off]? =some (u.den (E.put bs a.HW ms)):=by
    have:=PR (fun l=>l[off]?) lE
    simp only[GM,hu,cR,CJ,AA DO] at this
    exact this.symm
   rw[AYP]
   exact KR hd X9 h1 SG
  ·cases h
theorem ARS {o:Oper} {ρ:Operand->SV} {t:TypeId} {x:Operand} (EP:o.op= .load t x) {d:TypeDesc} (hd:P.underlying t=some d) (X9:IE P t=false) {i k sz off bs:Nat} (hx:ρ x= .el i k sz off)
  {a:Ty} {xss:List (List a.T)} {h' :Option (Nat×Nat)} (hl:AR i=some (.deep a xss h')) (CD:∀ n e,AR n=some e->look L n=some e) {v:SV} {DG:C7}
  {deep:Bool} (h:AAV AR deep a xss h' i k sz off bs pr=some (v,DG)):E9 TB P o ρ L v DG:=by
 unfold AAV at h
 split at h
 rotate_left
 ·cases h
 rename_i hc
 obtain⟨rfl,rfl⟩:=hc
 split at h
 ·rename_i DZ
  have DZ:=(ID _ _ ▸ DZ:JI AR bs 1=true/\_).1
  split at h
  rotate_left
  ·cases h
  rename_i ys u hcl
  simp only[pr,BA,DH] at h
  obtain⟨rfl,rfl⟩:=h
  have ML:look L bs=some .L5:=CD _ _ (by have:=CZ DZ 0 (by omega);simpa using this)
  refine BS fun c w E hh hw=> ?_
  obtain⟨G,hG⟩:=hh
  have WW:=hw x
  rw[hx] at WW
  obtain⟨PB,hk,hn⟩:=WW
  have hlen:=(hG.dp i _ _ _ (CD _ _ hl)).len
  obtain⟨E1,c1,c2,c3,c4,c5,c6,c7⟩:=gW CD hG hl hcl
  obtain⟨E2,t1,t2,t3,arr,ty,t4,t5⟩:=c1.AYO c4 (c6 bs ML) (by rw[c2];exact hn) (by omega:k<ys.length)
  rw[<-BQ] at t1
  have AJM:=(hG.dp i _ _ _ (CD _ _ hl)).off
  have DO:=AQ ML
  have ACX:∀ n,Al L n->Al (AK L (u++ [(bs,.dead),(i,.deep a ys (some (k,bs))),(bs,.row a (ys.getD k []))])) n:=by
   intro n hn
   rw[BQ]
   exact BZ rfl n (BZ rfl n (BZ rfl n (c5 n hn)))
  refine⟨w,E2,_, ?_,.inl rfl,⟨G,t1⟩,fun n hn=>⟨?_,ACX n hn⟩,t3.trans c3, ?_⟩
  ·simp only[execOp,EP,hx,SV.den]
   refine CX ?_
   have e:(E.nm i).off+(k*1+0)=k:=by omega
   rw[e]
   rw[c2] at t4
   exact KR hd X9 t4 t5
  ·rw[t2 n (fun he=>E3 (he ▸ ML) hn),c2]
  ·refine⟨.row a (ys.getD k []), ?_,rfl⟩
   rw[BQ]
   show look (DK (DK (DK (AK L u) (bs,.dead)) (i,.deep a ys (some (k,bs)))) (bs,.row a (ys.getD k []))) bs=_
   rw[BC (by rw[GN,GN,O_];exact DO),AA rfl]
 ·split at h
  rotate_left
  ·cases h
  rename_i k0 j _
  split at h
  rotate_left
  ·cases h
  rename_i I0
  subst I0
  simp only[pr,BA,DH] at h
  obtain⟨rfl,rfl⟩:=h
  refine BS fun c w E hh hw=> ?_
  obtain⟨G,hG⟩:=hh
  have WW:=hw x
  rw[hx] at WW
  obtain⟨PB,hk,hn⟩:=WW
  obtain⟨d1,d2,d3,d4,d5⟩:=hG.dp i _ _ _ (CD _ _ hl)
  rcases d5 with ⟨h1,_⟩|⟨h1,h2,h3,arr,ty,hs,h4,h5,h6,h7,h8,h9⟩
  ·rw[hn] at h1;cases h1
  have hkl:k<xss.length:=by omega
  obtain⟨q1,q2⟩:=h9 k j rfl hkl
  refine⟨w,E,_, ?_,.inl rfl,⟨G,hG⟩,fun n hn=>⟨rfl,hn⟩,rfl,q2⟩
  simp only[execOp,EP,hx,SV.den]
  refine CX ?_
  have e:(E.nm i).off+(k*1+0)=k:=by omega
  rw[e,←q1]
  exact KR hd X9 h4 (h6 k hkl)
theorem AOT {o:Oper} {ρ:Operand->SV} {t:TypeId} {x:Operand} (EP:o.op= .load t x) {d:TypeDesc} (hd:P.underlying t=some d) (X9:IE P t=false) {i k off:Nat} (hx:ρ x= .el i k 2 off) {t1 t2:Ty} {xs:List (List t1.T×List t2.T)}
  (hl:AR i=some (.tree t1 t2 xs)) (CD:∀ n e,AR n=some e->look L n=some e) (AJM:off<2):E9 TB P o ρ L (.tsl i k off) []:=by
 refine BS fun c w E hh hw=> ?_
 have hh' :=hh
 obtain⟨G,hG⟩:=hh
 have htr:FP c G w (E.nm i) t1 t2 xs:=hG.MK i _ (CD _ _ hl)
 have WW:=hw x
 rw[hx] at WW
 obtain⟨PB,hk,hn⟩:=WW
 rcases htr.cs with ⟨h1,_⟩|⟨h1,h2,h3,arr,ty,h4,h5,h6,h7,h8,h9⟩
 ·rw[hn] at h1;cases h1
 have NW :=hk
 rw[htr.len] at hk
 have hg:=h6 (k*2+off) (by omega)
 refine⟨w,E,_, ?_,.inl rfl,hh',fun n hn=>⟨rfl,hn⟩,rfl,⟨PB,NW,AJM⟩⟩
 simp only[execOp,EP,hx,SV.den]
 refine CX ?_
 rw[htr.off,KK]
 exact KR hd X9 h4 hg
theorem ART {o:Oper} {ρ:Operand->SV} {t:TypeId} {x:Operand} (EP:o.op= .load t x) {bs:Nat} (CD:∀ n e,AR n=some e->look L n=some e) {v:SV} {DG:C7}
  {deep:Bool} (h:AAW P AR deep t (ρ x) bs pr=some (v,DG)):E9 TB P o ρ L v DG:=by
 unfold AAW at h
 split at h
 rotate_left
 ·cases h
 rename_i q d hq hd
 split at h
 ·rename_i i off hx
  split at h
  ·rename_i cs hl
   have AG3:∀ (c:EC TB) (w:World) (E:Env),Hd c w E L->(E.nm i).off=(E.nm i).pp.pre.length/\(∃ ty,w.heap[(E.nm i).CE]? =some (.cells ((E.nm i).arr (AN E cs)) ty (0,0)))/\L7 E L cs:=by
    rintro c w E ⟨G,hG⟩
    obtain⟨h1,h2,h3,h4,h5,h6⟩:=hG.MK i _ (CD _ _ hl)
    exact⟨h2,h5,h6⟩
   split at h
   ·rename_i X9
    split at h
    ·rename_i bD
     simp only[pr,BA,DH] at h
     obtain⟨rfl,rfl⟩:=h
     refine BS fun c w E hh hw=> ?_
     obtain⟨h2,⟨ty,h5⟩,h6⟩:=AG3 c w E hh
     refine⟨w,E,_, ?_,.inl rfl,hh,fun n hn=>⟨rfl,hn⟩,rfl,XG h6 _ _⟩
     simp only[execOp,EP,hx,SV.den]
     refine CX ?_
     rw[h2,nP hq hd X9 h5 (by rw[Nm.wN,AT];omega),Nm.AAZ _ (by rw[AT];omega),dF]
    ·cases h
   ·rename_i X9
    split at h
    ·rename_i u hu
     simp only[pr,BA,DH] at h
     obtain⟨rfl,rfl⟩:=h
     refine BS fun c w E hh hw=> ?_
     obtain⟨h2,⟨ty,h5⟩,h6⟩:=AG3 c w E hh
     refine⟨w,E,_, ?_,.inl rfl,hh,fun n hn=>⟨rfl,hn⟩,rfl,B0.1 h6 u (aZ hu)⟩
     simp only[execOp,EP,hx,SV.den]
     refine CX ?_
     rw[h2]
     exact KR hd X9 h5 (by rw[Nm.ACW _ (by rw[AT];exact (zB.1 hu).1)];simp [GM,hu])
    ·cases h
  ·rename_i j hl
   split at h
   ·cases h
   ·rename_i X9
    split at h
    rotate_left
    ·cases h
    rename_i h0
    subst h0
    simp only[pr,BA,DH] at h
    obtain⟨rfl,rfl⟩:=h
    refine BS fun c w E hh hw=> ?_
    have hh' :=hh
    obtain⟨G,hG⟩:=hh
    obtain⟨q1,⟨arr,ty,fz,q2,q3⟩,q4⟩:=hG.MK i _ (CD _ _ hl)
    refine⟨w,E,_, ?_,.inl rfl,hh',fun n hn=>⟨rfl,hn⟩,rfl,q4⟩
    simp only[execOp,EP,hx,SV.den]
    refine CX ?_
    rw[NP,NP]
    exact KR hd X9 (by rw[hG.old _ q1];exact q2) q3
  ·cases h
 ·rename_i i k sz off hx
  split at h
  ·rename_i a xs hl
   exact AB0 EP hq hd hx (.inl (CD _ _ hl)) CD h
  ·rename_i a xs hl
   exact AB0 EP hq hd hx (.inr (CD _ _ hl)) CD h
  ·rename_i a xss hh hl
   split at h
   ·cases h
   ·rename_i X9
    exact ARS EP hd X9 hx hl CD h
  ·rename_i t1 t2 xs hl
   split at h
   ·cases h
   ·rename_i X9
    split at h
    rotate_left
    ·cases h
    rename_i hc
    obtain⟨rfl,AJM⟩:=hc
    simp only[pr,BA,DH] at h
    obtain⟨rfl,rfl⟩:=h
    exact AOT EP hd X9 hx hl CD AJM
  ·cases h
 ·cases h
theorem AB1 {k:IntKind}:∀ {l:List Value} {i:Nat},AG6 k l=true->i<l.length->∃ n,l[i]? =some (.int k n)
 | [],i,_,h=>by simp at h
 | .int k' n::r,0,h,_=>by
  simp only[AG6,ID,JL] at h
  exact⟨n,by rw[h.1];rfl⟩
 | .int k' n::r,i+1,h,hi=>by
  simp only[AG6,ID] at h
  simpa using AB1 h.2 (by simpa using hi)
theorem ARU {α:Type}:∀ {l:List (Nat×α)} {k:Nat} {x:α},lk l k=some x->(k,x)∈l
 | [],_,_,h=>by cases h
 |(a,b)::r,k,x,h=>by
  simp only[lk] at h
  split at h
  ·rename_i he
   simp only[BA] at h
   subst he h;simp
  ·exact UY _ (ARU h)
theorem ARV {cx:Cx} {o:Oper} {ρ:Operand->SV} {t:TypeId} {x:Operand} (EP:o.op= .load t x) {g off:Nat} (hx:ρ x= .ptr (some ⟨g,off,none⟩)) {v:SV} {DG:C7}
  (h:loadT P cx t g off pr=some (v,DG)):E9 cx.tb P o ρ L v DG:=by
 unfold loadT at h
 split at h
 rotate_left
 ·cases h
 rename_i arr k q hl hu hq
 split at h
 ·cases h
 rename_i hk
 split at h
 rotate_left
 ·cases h
 rename_i hi
 split at h
 rotate_left
 ·cases h
 rename_i AJM
 simp only[pr,BA,DH] at h
 obtain⟨rfl,rfl⟩:=h
 obtain⟨n,hn⟩:=AB1 (i:=off) hi (by simpa using AJM)
 refine BS fun c w E hh hw=> ?_
 obtain⟨G,hG⟩:=hh
 obtain⟨o1,ty,fz,o2⟩:=hG.tab _ (ARU hl)
 have hb:w.heap[g]? =some (.cells arr ty fz):=by rw[hG.old g o1];exact o2
 have SG:arr[off]? =some (.int k n):=by rw[<-kX];exact hn
 have X9:IE P t=false:=by unfold IE;rw[hu]
 refine⟨w,E,_, ?_,.inl rfl,⟨G,hG⟩,fun n hn=>⟨rfl,hn⟩,rfl,trivial⟩
 simp only[execOp,EP,hx,SV.den]
 refine CX ?_
 rw[KR hu X9 hb SG]
 simp [A34,SG]
theorem ACY {E:Env} {vs:List SV} (h:vs.all AAX=true):Flat (AN E vs):=by
 induction vs with
 |nil=>intro v hv;cases hv
 |cons x r ih=>
  simp only[vV,ID] at h
  intro v hv
  rcases GA.1 hv with rfl|hv
  ·cases x with
   |raw u=>cases u <;> simp_all [AAX,SV.den]
   |_=>simp_all [AAX,SV.den]
  ·exact ih h.2 v hv
theorem ZE (E:Env) (vs:List SV):∀ (cs:List SV) (off:Nat),(AN E (D_ cs off vs)).toArray=uL (AN E cs).toArray off (AN E vs):=by
 induction vs with
 |nil=>intros;rfl
 |cons v r ih=>
  intro cs off
  simp only[D_,AN,uL]
  rw[ih,cU]
  simp
theorem AJN (E:Env) (m:Nm) (vs:List SV):∀ (cs:List SV) (off:Nat),off+vs.length<=cs.length->m.arr (AN E (D_ cs off vs))=uL (m.arr (AN E cs)) (m.pp.pre.length+off) (AN E vs):=by
 induction vs with
 |nil=>intros;rfl
 |cons v r ih=>
  intro cs off h
  simp only[O0] at h
  simp only[D_,AN,uL]
  rw[ih _ _ (by rw[EW];omega),cU,Nm.AWG _ (by rw[AT];omega),O1]
theorem lH {vs:List SV}:∀ {cs:List SV} {off:Nat} {v:SV},v∈D_ cs off vs->v∈cs\/v∈vs:=by
 induction vs with
 |nil=>intro cs off v h;exact .inl h
 |cons x r ih=>
  intro cs off v h
  rcases ih h with h|h
  ·rcases ALA h with h|h
   ·exact .inl h
   ·exact .inr (by simp [h])
  ·exact .inr (by simp [h])
theorem RK {E:Env} {v:SV} (h:v.wf E L):L7 E L (BL v):=by
 cases v with
 |agg cs=>exact h
 |_=>exact⟨h,trivial⟩
theorem SL {w w' :World} {t:TypeId} {q:TypeInfo} (hq:P.info? t=some q) {b off:Nat} {v:SV} {E:Env} (hr:OG v=false) (hl:(BL v).length=q.size)
  (hst:(storeCells ⟨b,off,none⟩ (AN E (BL v)) 0).run P w= .ok () w'):(Instr.storeAt t (.pointer (some ⟨b,off,none⟩)) (v.den E)).run P w= .ok () w' :=by
 have SG:=kY (E:=E) v hr
 simp only[Instr.storeAt,Instr.sureAddr,storeVar,sizeOf,typeInfo,Sem.run_bind,Sem.run_pure,Result.andThen]
 simp [hq,SG,AT,hl,hst]
theorem AS.setRow {c:EC TB} {G:Nat->Prop} {w w' :World} {E:Env} {L:AL} (h:AS c G w E L) {i:Nat} {a:Ty} {xs ys:List a.T} (hl:look L i=some (.row a xs)) (hn:(E.nm i).nil=false) (hlen:ys.length=xs.length)
  (hr:Rest w w') (hs:w'.heap.size=w.heap.size) (hw:∀ j,j≠(E.nm i).CE->w'.heap[j]? =w.heap[j]?)
  (QV:∀ arr ty,w.heap[(E.nm i).CE]? =some (.cells arr ty ((E.nm i).fr arr.size))->(E.nm i).off+(E.nm i).cap*a.sz<=arr.size->RowsIn (Rp G w a) a.sz arr (E.nm i).off xs->∃ ZA,w'.heap[(E.nm i).CE]? =some (.cells ZA ty ((E.nm i).fr arr.size))/\ZA.size=arr.size/\RowsIn (Rp G w a) a.sz ZA (E.nm i).off ys):
  AS c G w' E (DK L (i,.row a ys)):=by
 have C1:=h.MK i _ hl
 obtain⟨h1,h2,h3⟩:=C1
 rcases h3 with ⟨h4,_⟩|⟨_,h5,h6,h7,arr,ty,h8,h9,zG⟩
 ·rw[hn] at h4;cases h4
 obtain⟨ZA,k1,k2,k3⟩:=QV arr ty h8 h9 zG
 have WI:E.set i (E.nm i)=E:=by
  refine L9 (fun k=> ?_) rfl (fun _=>rfl)
  by_cases hk:k=i
  ·subst hk;rw[Env.EZ]
  ·exact E.HY _ hk
 have hGb:∀ b,G b->w'.heap[b]? =w.heap[b]? :=fun b hb=>hw b (fun he=>h5 (he ▸ hb))
 have:=h.change (i:=i) (e' := .row a ys) (m:=E.nm i) (w' :=w') (AQ hl) hr (by omega) (fun _=>rfl) rfl
  (fun b _ hb=>hw b (fun he=>hb (by simp [AX.own,hn,he])))
  (fun b hb=>by simp only[AX.own,hn,VF,KA,BA] at hb;subst hb;exact⟨h6,h5⟩)
  (fun k f hk hf b hb he=>h.inj k i f (.row a xs) b hk hf hl hb (.inl (by simpa [AX.own,hn] using he)))
  (fun _=>⟨by rw[h1,hlen],h2,.inr ⟨hn,h5,h6,by rw[hlen];exact h7,ZA,ty,by rw[k2];exact k1,by rw[k2];exact h9,k3.imp fun x vs hx=>Rp.mono hGb (fun _ h=>h) a x vs hx⟩⟩)
 rw[WI] at this
 exact this
theorem lI {E:Env} {c:EC TB} {G:Nat->Prop} {w:World} {a:Ty}:∀ (n:Nat) (cs:List SV) (xs:List a.T) (u:C7),aR AR a n cs=some (xs,u)->L7 E L cs->nF .iG AR E c G w [] u []→
  xs.length=n/\cs.length=n*a.sz/\RowsIn (Rp G w a) a.sz (AN E cs).toArray 0 xs:=by
 intro n
 induction n with
 |zero=>
  intro cs xs u h _ _
  cases cs with
  |nil=>simp only[aR,BA,DH] at h;obtain⟨rfl,rfl⟩:=h;exact⟨rfl,by simp,fun i x hx=>by simp at hx⟩
  |cons v r=>simp [aR] at h
 |succ n ih=>
  intro cs xs u h hw hk
  simp only[aR] at h
  split at h
  rotate_left
  ·cases h
  rename_i x r nes u1 hp
  split at h
  rotate_left
  ·cases h
  rename_i xs' u2 hq
  simp only[BA,DH] at h
  obtain⟨rfl,rfl⟩:=h
  obtain⟨c1,rfl,l1,_,hd⟩:=KE E _ _ _ _ _ _ hp
  have hw1:L7 E L c1:=B0.2 fun v hv=>B0.1 hw v (FG.2 (.inl hv))
  have hw2:L7 E L r:=B0.2 fun v hv=>B0.1 hw v (FG.2 (.inr hv))
  obtain⟨i1,i2,i3⟩:=ih _ _ _ hq hw2 (hk.sub (by simp) (by simp;intros;simp [*]) (by simp))
  have hrp:Rp G w a x (AN E c1):=by
   rw[hd]
   refine Rp.mk _ _ _ fun k e he=> ?_
   obtain⟨g1,_⟩:=XX _ _ _ _ _ _ hp
   rcases g1 k false e he with rfl|⟨t,s,ys,ne,uk,hs,CU,hsc,KP,rfl⟩
   ·trivial
   have hnf:EM E nes k=ne.nm E:=by simp [EM,CU]
   rw[hnf]
   refine qA hs (by simp) (B0.1 hw s hsc) hk.shr ?_
   intro i t' zs e' hnn hl hoe hx
   refine hk.iG i t' zs e' hl hoe (.inr ?_)
   rcases hx with hx|hx
   ·cases hx
   ·exact FG.2 (.inl (KP _ hx))
  refine⟨by simp [i1],by simp [l1,i2];rw[cS];omega, ?_⟩
  intro i y hy
  cases i with
  |zero=>
   simp only[QP,BA] at hy
   subst hy
   have:BR (AN E (c1++r)).toArray (0+0*a.sz) a.sz=AN E c1:=by
    unfold BR
    rw[G4]
    simp [AT,l1]
   rw[this];exact hrp
  |succ i=>
   simp only[zC] at hy
   have:=i3 i y hy
   have e:BR (AN E (c1++r)).toArray (0+(i+1)*a.sz) a.sz=BR (AN E r).toArray (0+i*a.sz) a.sz:=by
    unfold BR
    rw[G4]
    simp only[KK]
    have:(i+1)*a.sz=(AN E c1).length+i*a.sz:=by rw[AT,l1,cS];omega
    rw[this]
    simp
   rw[e];exact this
theorem kK {E:Env} {c:EC TB} {G:Nat->Prop} {w:World} {u:C7} (md:PM):nF md JM E c G w [] u []:=
 ⟨fun i t ys h=>by simp [JM] at h,fun i t ys e h=>by simp [JM] at h,fun i t ys h=>by simp [JM] at h,fun i t ys h=>by simp [JM] at h,fun i t1 t2 ys h=>by simp [JM] at h,fun i cs h=>by simp [JM] at h⟩
theorem AJO:∀ (t:Ty) (x:t.T) (j:Nat) (e:AX),(B_ false t x)[j]? =some e->(∃ (a:Ty) (xs:List a.T),e= .shr a xs)\/e= .dead:=by
 intro t
 induction t with
 |pair a b V7 V8=>
  intro x j e he
  simp only[B_] at he
  by_cases hk:j<(B_ false a x.1).length
  ·rw[WA hk] at he;exact V7 _ _ _ he
  ·rw[V_ (by omega)] at he;exact V8 _ _ _ he
 |slice a=>
  intro x j e he
  cases j with
  |zero=>simp only[B_,QP,BA] at he;exact .inl ⟨_,_,he.symm⟩
  |succ j=>simp [B_] at he
 |nf=>
  intro x j e he
  cases j with
  |zero=>simp only[B_,QP,BA] at he;exact .inr he.symm
  |succ j=>simp [B_] at he
 |_=>intro x j e he;simp [B_] at he
theorem AB2 {c:EC TB} {G1:Nat->Prop} {w:World} {E:Env} {a:Ty} {cs:List SV} {z:a.T} {nes:List NE} {u:C7} (hp:GC .iG AR a cs=some (z,[],nes,u))
  (t9:HE c G1 w ⟨a,true,false,false⟩ z (EM E nes)):Rp G1 w a z (AN E cs):=by
 obtain⟨c1,e1,_,_,hd⟩:=KE E _ _ _ _ _ _ hp
 rw[HH] at e1;subst e1
 rw[hd]
 refine Rp.mk _ _ _ fun k e he=> ?_
 have:=t9.1 k e he
 simp only[CT.pn,KK] at this
 rcases AJO a z k e he with ⟨a',xs,rfl⟩|rfl
 ·exact this
 ·trivial
theorem wP:∀ (l cs:List SV) (off p:Nat),(D_ cs off l)[p]? =if off<=p/\p<off+l.length/\p<cs.length then l[p-off]? else cs[p]?
 | [],cs,off,p=>by simp only[D_,VG];rw[AD (by omega)]
 |v::r,cs,off,p=>by
  simp only[D_,O0]
  rw[wP r,EW]
  by_cases h:off=p
  ·subst h
   by_cases h2:off<cs.length
   ·rw[AD (by omega),AA (by omega),ALF h2];simp
   ·rw[AD (by omega),AD (by omega),UX (by simp;omega),UX (by omega)]
  ·rw[ALJ h]
   by_cases h2:off+1<=p/\p<off+1+r.length/\p<cs.length
   ·rw[AA h2,AA (by omega),show p-off=(p-(off+1))+1 by omega];simp
   ·rw[AD h2,AD (by omega)]
theorem AWH {E:Env} {L:AL}:∀ (a:Ty) (x:a.T) (n:Nat) (v:SV),v∈IY a x n->ARL v=true->v.wf E L:=by
 intro a
 induction a with
 |pair a b V7 V8=>
  intro x n v hv hn
  rcases FG.1 hv with hv|hv
  ·exact V7 _ _ _ hv hn
  ·exact V8 _ _ _ hv hn
 |slice a=>intro x n v hv hn;simp only[IY,HA] at hv;subst hv;cases hn
 |nf=>intro x n v hv hn;simp only[IY,HA] at hv;subst hv;cases hn
 |_=>intro x n v hv hn;simp only[IY,HA] at hv;subst hv;trivial
theorem ARW {E:Env}:∀ (a:Ty) (x:a.T) (n p:Nat) (v:SV) (hs:Nat->Nm),(IY a x n)[p]? =some v->ARL v=true->(enc a x hs)[p]? =some (v.den E):=by
 intro a
 induction a with
 |pair a b V7 V8=>
  intro x n p v hs hv hn
  have hl:(enc a x.1 hs).length=(IY a x.1 n).length:=by rw[FA,AJ4]
  simp only[IY,enc] at hv ⊢
  rcases IA p (IY a x.1 n).length with hp|hp
  ·rw[WA hp] at hv
   rw[WA (by omega)]
   exact V7 _ _ _ _ _ hv hn
  ·rw[V_ hp] at hv
   rw[V_ (by omega),hl]
   exact V8 _ _ _ _ _ hv hn
 |slice a=>
  intro x n p v hs hv hn
  cases p with
  |zero=>simp only[IY,QP,BA] at hv;subst hv;cases hn
  |succ p=>simp [IY] at hv
 |nf=>
  intro x n p v hs hv hn
  cases p with
  |zero=>simp only[IY,QP,BA] at hv;subst hv;cases hn
  |succ p=>simp [IY] at hv
 |_=>
  intro x n p v hs hv hn
  cases p with
  |zero=>simp only[IY,QP,BA] at hv;subst hv;rfl
  |succ p=>simp [IY] at hv
theorem AJP {o:Oper} {ρ:Operand->SV} {t:TypeId} {x y:Operand} (EP:o.op= .store t x y) {q:TypeInfo} (hq:P.info? t=some q) {i k sz off:Nat} (hx:ρ x= .el i k sz off)
  {a:Ty} {xs:List a.T} (hl:AR i=some (.row a xs)) (CD:∀ n e,AR n=some e->look L n=some e) {v:SV} {DG:C7}
  (h:uM AR q.size a xs i k sz off (ρ y) pr=some (v,DG)):E9 TB P o ρ L v DG:=by
 unfold uM at h
 split at h
 rotate_left
 ·cases h
 rename_i hc
 obtain⟨rfl,bD,hlen,ARX⟩:=hc
 have step:∀ (c:EC TB) (w:World) (E:Env) (G:Nat->Prop) (L' :AL),AS c G w E L' ->look L' i=some (.row a xs)->(∀ x,(ρ x).wf E L)->∀ (z:a.T) (cells:List Value),Rp G w a z cells->Flat (AN E (BL (ρ y)))→
   (∀ (arr:Array Value) (ty:TypeId) (fz:Nat×Nat),w.heap[(E.nm i).CE]? =some (.cells arr ty fz)->Rp G w a (gd a xs k) (BR arr ((E.nm i).off+k*a.sz) a.sz)->uL arr ((E.nm i).off+k*a.sz+off) (AN E (BL (ρ y)))=uL arr ((E.nm i).off+k*a.sz) cells)→
   ∃ w',(execOp (fun x=>(ρ x).den E) o).run P w= .ok .skip w' /\AS c G w' E (DK L' (i,.row a (xs.set k z))):=by
  intro c w E G L' hG hl' hw z cells hz AGF hsp
  have WW:=hw x
  rw[hx] at WW
  obtain⟨PB,hk,hn⟩:=WW
  obtain⟨mL,arr,ty0,fz,h1,h2,h3⟩:=AMF hG (.inl hl') hk hn
  obtain⟨e1,e2,e3⟩:=hG.MK i _ hl'
  rcases e3 with ⟨h4,_⟩|⟨_,h5,h6,h7,AJQ,ty,h8,h9,zG⟩
  ·rw[hn] at h4;cases h4
  rw[h8] at h1
  simp only[BA,Obj.cells.injEq] at h1
  obtain⟨rfl,rfl,rfl⟩:=h1
  have ACZ:(E.nm i).off+(k*a.sz+off)=(E.nm i).off+k*a.sz+off:=by omega
  obtain⟨w',s1,s2,s3,s4,s5⟩:=LC (P:=P) (off:=(E.nm i).off+k*a.sz+off) (AN E (BL (ρ y))) w AJQ 0 (fun j hj=>(E.nm i).ACF hj) h8 AGF (by rw[AT,hlen];omega)
  rw[NP,hsp AJQ ty _ h8 h2] at s4
  refine⟨w', ?_, ?_⟩
  ·simp only[execOp,EP,hx,SV.den,Sem.run_bind]
   rw[ACZ,SL hq ARX hlen s1]
   rfl
  ·refine hG.setRow hl' hn (by simp) s2 s3 s5 ?_
   intro A5T ty3 q1 q2 q3
   rw[h8] at q1
   simp only[BA,Obj.cells.injEq] at q1
   obtain⟨rfl,rfl,_⟩:=q1
   refine⟨_,s4,SK _ _ _, ?_⟩
   refine q3.set hz hz.length mL ?_
   have:=vI a.sz h7
   omega
 split at h
 ·rename_i A0E
  obtain⟨rfl,hn⟩:=A0E
  split at h
  rotate_left
  ·cases h
  rename_i z nes u hp
  split at h
  rotate_left
  ·cases h
  rename_i hu
  simp only[pr,BA,DH] at h
  obtain⟨rfl,rfl⟩:=h
  refine BS fun c w E hh hw=> ?_
  obtain⟨G,hG⟩:=hh
  have hct:KF .iG AR [⟨a,true,false,false⟩] [.agg (BL (ρ y))]=some ⟨HT.mk ⟨a,true,false,false⟩ [] z (),nes++ [],u++ [],[]++ [],nes.filterMap NE.name++ []⟩:=by
   simp [KF,PY,hp]
  obtain⟨G1,G2,t1,t2,t3,t4,t5,t6,t7,t8,t9,t10,t11⟩:=hG.take (md:= .iG) (by simp) CD hct (by simp [okA]) ⟨RK (hw y),trivial⟩
  have A0F:=t4 rfl
  rw[A0F] at t9
  simp only[MQ.DG,HH,vX] at t1 t6 t7
  have T5:i∉u.map (·.1):=by
   intro hx
   obtain⟨q',QW,he⟩:=DD.1 hx
   have:=LP.1 hu q' QW
   simp [he] at this
  have hli:look (AK L u) i=some (.row a xs):=by
   rw[t7 i (by simp) T5];exact CD _ _ hl
  have hrp:Rp G1 w a z (AN E (BL (ρ y))):=AB2 hp (by have:=t9.1;rw[HH] at this;exact this)
  obtain⟨w',s1,s2⟩:=step c w E G1 (AK L u) t1 hli hw z _ hrp hrp.AM9 (fun arr ty fz _ _=>by rw[NP])
  have eu:AK L (u++ [(i,.row a (xs.set k z))])=DK (AK L u) (i,.row a (xs.set k z)):=by rw[BQ];rfl
  rw[eu]
  exact⟨w',E,_,s1,.inr ⟨rfl,rfl⟩,⟨G1,s2⟩,fun n hn=>⟨rfl,BZ rfl n (t6 n hn)⟩,rfl,trivial⟩
 ·split at h
  rotate_left
  ·split at h
   rotate_left
   ·cases h
   rename_i dD
   split at h
   rotate_left
   ·cases h
   rename_i z nes u hp
   split at h
   rotate_left
   ·cases h
   rename_i hu
   simp only[pr,BA,DH] at h
   obtain⟨rfl,rfl⟩:=h
   refine BS fun c w E hh hw=> ?_
   obtain⟨G,hG⟩:=hh
   have hct:KF .iG AR [⟨a,true,false,false⟩] [.agg (D_ (IY a (gd a xs k) 0) off (BL (ρ y)))]=some ⟨HT.mk ⟨a,true,false,false⟩ [] z (),nes++ [],u++ [],[]++ [],nes.filterMap NE.name++ []⟩:=by
    simp [KF,PY,hp]
   simp only[AYN,ID,LP] at dD
   have sA:L7 E L (D_ (IY a (gd a xs k) 0) off (BL (ρ y))):=by
    refine B0.2 fun u hu=> ?_
    obtain⟨p,hp⟩:=AF6.1 hu
    rw[wP,hlen,FA] at hp
    split at hp
    ·exact B0.1 (RK (hw y)) u (aZ hp)
    ·rename_i hpo
     refine AWH a _ _ u (aZ hp) ?_
     have hlp:p<a.sz:=by
      have:=(zB.1 hp).1
      rwa [FA] at this
     rcases IA p off with h1|h1
     ·refine dD.1 _ (AF6.2 ⟨p, ?_⟩)
      rw[mR,AA h1,hp]
     ·refine dD.2 _ (AF6.2 ⟨p-(off+q.size), ?_⟩)
      rw[cP,←hp]
      congr 1;omega
   obtain⟨G1,G2,t1,t2,t3,t4,t5,t6,t7,t8,t9,t10,t11⟩:=hG.take (md:= .iG) (by simp) CD hct (by simp [okA]) ⟨sA,trivial⟩
   have A0F:=t4 rfl
   rw[A0F] at t9
   simp only[MQ.DG,HH,vX] at t1 t6 t7
   have T5:i∉u.map (·.1):=by
    intro hx
    obtain⟨q',QW,he⟩:=DD.1 hx
    have:=LP.1 hu q' QW
    simp [he] at this
   have hli:look (AK L u) i=some (.row a xs):=by
    rw[t7 i (by simp) T5];exact CD _ _ hl
   have hrp:Rp G1 w a z (AN E (D_ (IY a (gd a xs k) 0) off (BL (ρ y)))):=AB2 hp (by have:=t9.1;rw[HH] at this;exact this)
   have AGF:Flat (AN E (BL (ρ y))):=by
    have hf:=hrp.AM9
    intro u hu
    have hs:=ZE E (BL (ρ y)) (IY a (gd a xs k) 0) off
    obtain⟨j,hj,rfl⟩:=mP hu
    refine hf _ ?_
    have hj2:j<q.size:=by rw[AT,hlen] at hj;exact hj
    have:(uL (AN E (IY a (gd a xs k) 0)).toArray off (AN E (BL (ρ y))))[off+j]? =(AN E (BL (ρ y)))[j]? :=by
     rw[KQ,AA ⟨by omega,by omega,by simp [AT,FA];omega⟩]
     congr 1;omega
    rw[<-hs,vH,OT hj] at this
    exact aZ this
   obtain⟨w',s1,s2⟩:=step c w E G1 (AK L u) t1 hli hw z _ hrp AGF (by
    intro arr ty fz h1 h2
    apply ALP
    intro j
    rw[KQ,KQ,AT,AT,hlen,kH,FA]
    have hse:∀ m:Nat,(AN E (D_ (IY a (gd a xs k) 0) off (BL (ρ y))))[m]? =(uL (AN E (IY a (gd a xs k) 0)).toArray off (AN E (BL (ρ y))))[m]? :=by
     intro m;rw[<-ZE];simp
    have hold:∀ p,p<a.sz->p<off\/off+q.size<=p->(AN E (IY a (gd a xs k) 0))[p]? =arr[(E.nm i).off+k*a.sz+p]? :=by
     intro p hp hpo
     obtain⟨ms,h4,_⟩:=h2.out
     have hlp:p<(IY a (gd a xs k) 0).length:=by rw[FA];exact hp
     have hv:=OT hlp
     have hnv:ARL (IY a (gd a xs k) 0)[p]=true:=by
      rcases hpo with hpo|hpo
      ·refine dD.1 _ (AF6.2 ⟨p, ?_⟩)
       rw[mR,AA hpo,hv]
      ·refine dD.2 _ (AF6.2 ⟨p-(off+q.size), ?_⟩)
       rw[cP,←hv]
       congr 1;omega
     have e1:=ARW (E:=E) a _ 0 p _ ms hv hnv
     rw[<-h4,CJ,AA hp] at e1
     rw[FO,AFB,hv,e1]
     rfl
    by_cases hj1:((E.nm i).off+k*a.sz)+off<=j/\j<((E.nm i).off+k*a.sz)+off+q.size/\j<arr.size
    ·rw[AA hj1,AA (by omega),hse,KQ,AT,hlen,AA ⟨by omega,by omega,by simp [AT,FA];omega⟩]
     congr 1;omega
    ·rw[AD hj1]
     by_cases hj2:((E.nm i).off+k*a.sz)<=j/\j<((E.nm i).off+k*a.sz)+a.sz/\j<arr.size
     ·have e1:((AN E (IY a (gd a xs k) 0)).toArray)[j-((E.nm i).off+k*a.sz)]? =arr[j]? :=by
       rw[vH,hold _ (by omega) (by omega)]
       congr 1;omega
      rw[AA hj2,hse,KQ,AT,hlen,AD (by omega),e1]
     ·rw[AD hj2])
   have eu:AK L (u++ [(i,.row a (xs.set k z))])=DK (AK L u) (i,.row a (xs.set k z)):=by rw[BQ];rfl
   rw[eu]
   exact⟨w',E,_,s1,.inr ⟨rfl,rfl⟩,⟨G1,s2⟩,fun n hn=>⟨rfl,BZ rfl n (t6 n hn)⟩,rfl,trivial⟩
  rename_i AWI
  split at h
  rotate_left
  ·cases h
  rename_i z nes u hp
  simp only[pr,BA,DH] at h
  obtain⟨rfl,rfl⟩:=h
  refine BS fun c w E hh hw=> ?_
  obtain⟨G,hG⟩:=hh
  obtain⟨c1,e1,hc1,_,hd⟩:=KE E _ _ _ _ _ _ hp
  rw[HH] at e1;subst e1
  have hrp:Rp G w a z (AN E (D_ (IY a (gd a xs k) 0) off (BL (ρ y)))):=by
   rw[hd]
   refine Rp.mk _ _ _ fun k e he=> ?_
   have:(B_ false a z).length=0:=by rw[BI];exact AWI
   rw[UX (by omega)] at he;cases he
  have AGF:Flat (AN E (BL (ρ y))):=by
   have hf:=hrp.AM9
   intro u hu
   have hs:=ZE E (BL (ρ y)) (IY a (gd a xs k) 0) off
   obtain⟨j,hj,rfl⟩:=mP hu
   refine hf _ ?_
   have hj2:j<q.size:=by rw[AT,hlen] at hj;exact hj
   have:(uL (AN E (IY a (gd a xs k) 0)).toArray off (AN E (BL (ρ y))))[off+j]? =(AN E (BL (ρ y)))[j]? :=by
    rw[KQ,AA ⟨by omega,by omega,by simp [AT,FA];omega⟩]
    congr 1;omega
   rw[<-hs,vH,OT hj] at this
   exact aZ this
  obtain⟨w',s1,s2⟩:=step c w E G L hG (CD _ _ hl) hw z _ hrp AGF (by
   intro arr ty fz h1 h2
   apply ALP
   intro j
   rw[KQ,KQ,AT,AT,hlen,kH,FA]
   have hse:∀ m:Nat,(AN E (D_ (IY a (gd a xs k) 0) off (BL (ρ y))))[m]? =(uL (AN E (IY a (gd a xs k) 0)).toArray off (AN E (BL (ρ y))))[m]? :=by
    intro m;rw[<-ZE];simp
   have hold:AN E (IY a (gd a xs k) 0)=BR arr (((E.nm i).off+k*a.sz)) a.sz:=by
    obtain⟨ms,h4,_⟩:=h2.out
    rw[h4,WS]
    exact IB _ _ fun j hj=>by omega
   by_cases hj1:((E.nm i).off+k*a.sz)+off<=j/\j<((E.nm i).off+k*a.sz)+off+q.size/\j<arr.size
   ·rw[AA hj1,AA (by omega),hse,KQ,AT,hlen,AA ⟨by omega,by omega,by simp [AT,FA];omega⟩]
    congr 1;omega
   ·rw[AD hj1]
    by_cases hj2:((E.nm i).off+k*a.sz)<=j/\j<((E.nm i).off+k*a.sz)+a.sz/\j<arr.size
    ·have e1:((AN E (IY a (gd a xs k) 0)).toArray)[j-((E.nm i).off+k*a.sz)]? =arr[j]? :=by
      rw[vH,hold,CJ,AA (by omega)]
      congr 1;omega
     rw[AA hj2,hse,KQ,AT,hlen,AD (by omega),e1]
    ·rw[AD hj2])
  exact⟨w',E,_,s1,.inr ⟨rfl,rfl⟩,⟨G,s2⟩,fun n hn=>⟨rfl,BZ rfl n hn⟩,rfl,trivial⟩
theorem AGG {o:Oper} {ρ:Operand->SV} {t:TypeId} {x y:Operand} (EP:o.op= .store t x y) {q:TypeInfo} (hq:P.info? t=some q) {i k sz off len:Nat} (hx:ρ x= .el i k sz off)
  {a:Ty} {xs:List a.T} (hl:AR i=some (.row a xs)) (CD:∀ n e,AR n=some e->look L n=some e) {v:SV} {DG:C7}
  (h:nK q.size len a xs i k off (ρ y) pr=some (v,DG)):E9 TB P o ρ L v DG:=by
 unfold nK at h
 split at h
 rotate_left
 ·cases h
 rename_i hc
 obtain⟨rfl,rfl,AWI,hlen,tP,ARX⟩:=hc
 split at h
 rotate_left
 ·cases h
 rename_i ys u hp
 split at h
 rotate_left
 ·cases h
 rename_i wQ
 simp only[pr,BA,DH] at h
 obtain⟨rfl,rfl⟩:=h
 refine BS fun c w E hh hw=> ?_
 obtain⟨G,hG⟩:=hh
 obtain⟨l1,l2,l3⟩:=lI (c:=c) (G:=G) (w:=w) (E:=E) (L:=L) len (BL (ρ y)) ys u hp (RK (hw y)) (kK .iG)
 have hl' :=CD _ _ hl
 have WW:=hw x
 rw[hx] at WW
 obtain⟨PB,hk,hn⟩:=WW
 obtain⟨e1,e2,e3⟩:=hG.MK i _ hl'
 rcases e3 with ⟨h4,_⟩|⟨_,h5,h6,h7,AJQ,ty,h8,h9,zG⟩
 ·rw[hn] at h4;cases h4
 have ACZ:(E.nm i).off+(0*sz+0)=(E.nm i).off:=by omega
 have bD:(E.nm i).off+len*a.sz<=AJQ.size:=by
  have:=vI a.sz h7
  rw[wQ] at this;omega
 obtain⟨w',s1,s2,s3,s4,s5⟩:=LC (P:=P) (off:=(E.nm i).off) (AN E (BL (ρ y))) w AJQ 0 (fun j hj=>(E.nm i).ACF hj) h8 (ACY tP) (by rw[AT,l2];omega)
 rw[NP] at s4
 have hst:AS c G w' E (DK L (i,.row a ys)):=by
  refine hG.setRow hl' hn (by omega) s2 s3 s5 ?_
  intro A5T ty3 q1 q2 q3
  rw[h8] at q1
  simp only[BA,Obj.cells.injEq] at q1
  obtain⟨rfl,rfl,_⟩:=q1
  refine⟨_,s4,SK _ _ _, ?_⟩
  intro j z hz
  have hj:j<len:=by
   rw[<-l1]
   rcases IA j ys.length with h|h
   ·exact h
   ·rw[UX h] at hz;cases hz
  have hr:=l3 j z hz
  have hb:(j+1)*a.sz<=len*a.sz:=vI _ hj
  rw[cS,Nat.one_mul] at hb
  have e:BR (uL AJQ (E.nm i).off (AN E (BL (ρ y)))) ((E.nm i).off+j*a.sz) a.sz=BR (AN E (BL (ρ y))).toArray (0+j*a.sz) a.sz:=by
   apply WC
   intro m
   rw[CJ,CJ]
   by_cases hm:m<a.sz
   ·rw[KQ,AT,l2]
    simp only[hm,HJ]
    rw[AA ⟨by omega,by omega,by omega⟩]
    rw[vH]
    congr 1;omega
   ·simp [hm]
  rw[e]
  exact hr
 refine⟨w',E,.skip, ?_,.inr ⟨rfl,rfl⟩,⟨G,hst⟩,fun n hn=>⟨rfl,BZ rfl n hn⟩,rfl,trivial⟩
 simp only[execOp,EP,hx,SV.den,Sem.run_bind]
 rw[ACZ,SL hq ARX hlen s1]
 rfl
theorem AOU {o:Oper} {ρ:Operand->SV} {t:TypeId} {x y:Operand} (EP:o.op= .store t x y) {q:TypeInfo} (hq:P.info? t=some q) {i k sz off:Nat} (hx:ρ x= .el i k sz off)
  {a:Ty} {xss:List (List a.T)} {h' :Option (Nat×Nat)} (hl:AR i=some (.deep a xss h')) (CD:∀ n e,AR n=some e->look L n=some e) {v:SV} {DG:C7}
  (h:ACV AR q.size a xss h' i k sz off (ρ y) pr=some (v,DG)):E9 TB P o ρ L v DG:=by
 unfold ACV at h
 split at h
 rotate_left
 ·cases h
 rename_i hc
 obtain⟨hq1,rfl,rfl⟩:=hc
 split at h
 rotate_left
 ·cases h
 rename_i j hy
 split at h
 rotate_left
 ·cases h
 rename_i t' ys hj
 split at h
 rotate_left
 ·cases h
 rename_i he
 subst he
 have LQ :=CD _ _ hl
 have bH :=CD _ _ hj
 obtain⟨hh,rfl,rfl⟩:(∀ k' j',h' =some (k',j')->k' =k)/\v=AW/\DG=[(j,.dead),(i,.deep t' (xss.set k ys) none)]:=by
  split at h
  ·simp only[pr,BA,DH] at h
   exact⟨fun k' j' he=>(by cases he),h.1.symm,h.2.symm⟩
  ·rename_i k0 j0
   split at h
   rotate_left
   ·cases h
   rename_i I0
   simp only[pr,BA,DH] at h
   exact⟨fun k' j' he=>(by simp only[BA,DH] at he;omega),h.1.symm,h.2.symm⟩
 refine BS fun c w E hH hw=> ?_
 obtain⟨G,hG⟩:=hH
 have WW:=hw x
 rw[hx] at WW
 obtain⟨PB,hk,hn⟩:=WW
 have hd:=hG.dp i _ _ _ LQ
 have hlen:=hd.len
 have AJM:=hd.off
 obtain⟨arr,ty,AOF,bD⟩:∃ arr ty,w.heap[(E.nm i).CE]? =some (.cells arr ty (0,0))/\k<arr.size:=by
  rcases hd.cs with ⟨h1,_⟩|⟨h1,h2,h3,arr,ty,hs,h4,h5,_⟩
  ·rw[hn] at h1;cases h1
  ·exact⟨arr,ty,h4,by omega⟩
 have hcv:AN E (BL (ρ y))=[.slice (E.nm j).ad (E.nm j).len (E.nm j).cap]:=by rw[hy];rfl
 obtain⟨w',s1,s2,s3,s4,s5⟩:=PZ (P:=P) (off:=k) (AN E (BL (ρ y))) w arr 0 AOF (by
   rw[hcv]
   intro u hu
   simp only[HA] at hu;subst hu
   exact⟨fun c h=>(by cases h),fun c h=>(by cases h)⟩) (by rw[hcv];simp;omega)
 rw[hcv,NP] at s4
 simp only[uL] at s4
 have h1:=hG.A36 (w' :=w') LQ bH hh (by omega) s2 s3 s5 (fun AJQ ty2 _ ha _=>by
  rw[AOF] at ha
  simp only[BA,Obj.cells.injEq] at ha
  obtain⟨rfl,rfl,_⟩:=ha
  exact⟨_,s4⟩)
 refine⟨w',_,.skip, ?_,.inr ⟨rfl,rfl⟩,⟨G,h1⟩,fun n hn=>⟨?_,BZ rfl n (BZ rfl n hn)⟩,rfl,trivial⟩
 ·simp only[execOp,EP,hx,SV.den,Sem.run_bind]
  have e:(E.nm i).off+(k*1+0)=k:=by omega
  rw[e,SL hq (by rw[hy];rfl) (by rw[hy,hq1];rfl) s1]
  rfl
 ·by_cases T5:n=i
  ·subst T5;exact (E.E8 _ _ _).1
  ·exact (E.NQ _ _ T5).1
set_option maxHeartbeats 1000000 in
theorem AOV {o:Oper} {ρ:Operand->SV} {t:TypeId} {x y:Operand} (EP:o.op= .store t x y) {q:TypeInfo} (hq:P.info? t=some q) {i k hh j:Nat} (hx:ρ x= .tel i k hh j) (CD:∀ n e,AR n=some e->look L n=some e) {v:SV} {DG:C7}
  (h:storeT AR q.size i k hh j (ρ y) pr=some (v,DG)):E9 TB P o ρ L v DG:=by
 unfold storeT at h
 split at h
 rotate_left
 ·cases h
 rename_i t1 t2 xs hl
 split at h
 rotate_left
 ·cases h
 rename_i hc
 obtain⟨hq1,ARX,tP⟩:=hc
 have hcv:BL (ρ y)=[ρ y]:=by
  cases hy:ρ y <;> first|rfl|(rw[hy] at tP;cases tP)
 have step:∀ (tt:Ty) (z:tt.T) (nes:List NE) (u:C7) (x' :List t1.T×List t2.T),tt.HW=0->tt.sz=1->GC .cY JM tt [ρ y]=some (z,[],nes,u)->hh<2→
   (∀ (G:Nat->Prop) (w w' :World) (mm:Nm),(∀ k x,xs[k]? =some x->GG (Rp G w t1) t1.sz w (mm.hn (k*2)) x.1/\GG (Rp G w t2) t2.sz w (mm.hn (k*2+1)) x.2)->k<xs.length→
    (∀ (ys:List tt.T),GG (Rp G w tt) tt.sz w (mm.hn (k*2+hh)) ys->GG (Rp G w' tt) tt.sz w' (mm.hn (k*2+hh)) (ys.set j z))→
    (∀ (k' e:Nat) (t' :Ty) (ys:List t'.T),k' <xs.length->e<2->k' *2+e≠k*2+hh->GG (Rp G w t') t'.sz w (mm.hn (k' *2+e)) ys->GG (Rp G w' t') t'.sz w' (mm.hn (k' *2+e)) ys)→
    GG (Rp G w' t1) t1.sz w' (mm.hn (k*2)) x'.1/\GG (Rp G w' t2) t2.sz w' (mm.hn (k*2+1)) x'.2)→
   (∀ (G:Nat->Prop) (w:World) (mm:Nm),(∀ k x,xs[k]? =some x->GG (Rp G w t1) t1.sz w (mm.hn (k*2)) x.1/\GG (Rp G w t2) t2.sz w (mm.hn (k*2+1)) x.2)->k<xs.length->∃ ys:List tt.T,GG (Rp G w tt) tt.sz w (mm.hn (k*2+hh)) ys)→
   E9 TB P o ρ L AW [(i,.tree t1 t2 (xs.set k x'))]:=by
  intro tt z nes u x' AWI bD hp hhh DZ AGH
  refine BS fun c w E hhd hw=> ?_
  obtain⟨G,hG⟩:=hhd
  have htr:FP c G w (E.nm i) t1 t2 xs:=hG.MK i _ (CD _ _ hl)
  have WW:=hw x
  rw[hx] at WW
  obtain⟨PB,hk,_,hj⟩:=WW
  rw[htr.len] at hk
  rcases htr.cs with ⟨h1,h1',_⟩|⟨h1,h2,h3,A5U,ty0,h4,h5,h6,h7,h8,h9⟩
  ·rw[h1'] at hk;simp at hk
  obtain⟨ys0,OU⟩:=AGH G w (E.nm i) h7 hk
  have A7O:=OU
  obtain⟨p1,_,p3⟩:=OU
  rcases p3 with ⟨_,p4,_⟩|⟨p4,p5,arr,ty,p6,p7,p8⟩
  ·rw[p1,p4] at hj;simp at hj
  obtain⟨c1,e1,hc1,_,hd⟩:=KE E _ _ _ _ _ _ hp
  rw[HH] at e1;subst e1
  have hbm:=h8 (k*2+hh) (by omega) p4
  have hbG:¬G ((E.nm i).hn (k*2+hh)).CE:=(htr.all _ hbm.1).1
  obtain⟨w',s1,s2,s3,s4,s5⟩:=LC (P:=P) (off:=((E.nm i).hn (k*2+hh)).off+j) (AN E (BL (ρ y))) w arr 0 (fun j hj=>((E.nm i).hn (k*2+hh)).ACF hj) p6 (by rw[hcv];exact ACY (by simp [tP]))
   (by rw[AT,hcv,IC];rw[p1] at hj;rw[bD] at p7;omega)
  rw[NP] at s4
  have hGs:∀ b,G b->w'.heap[b]? =w.heap[b]? :=fun b hb=>s5 b (fun he=>hbG (he ▸ hb))
  have hrp:Rp G w' tt z (AN E [ρ y]):=by
   rw[hd]
   refine Rp.mk _ _ _ fun k e he=> ?_
   have:(B_ false tt z).length=0:=by rw[BI];exact AWI
   rw[UX (by omega)] at he;cases he
  have WI:∀ (ys:List tt.T),GG (Rp G w tt) tt.sz w ((E.nm i).hn (k*2+hh)) ys->GG (Rp G w' tt) tt.sz w' ((E.nm i).hn (k*2+hh)) (ys.set j z):=by
   intro ys hi
   obtain⟨r1,_,r3⟩:=hi
   rcases r3 with ⟨r4,_⟩|⟨r4,r5,ZA,ty',r6,r7,r8⟩
   ·rw[p4] at r4;cases r4
   rw[p6] at r6
   simp only[BA,Obj.cells.injEq] at r6
   obtain⟨rfl,rfl,_⟩:=r6
   refine⟨by rw[EW];exact r1,trivial,.inr ⟨r4,by rw[EW];exact r5,_,_,by rw[SK];exact s4,by rw[SK];exact r7, ?_⟩⟩
   have tQ:j<ys.length:=by rw[<-r1];exact hj
   have:=(r8.imp (R' :=Rp G w' tt) fun x vs hx=>Rp.mono hGs (fun _ h=>h) tt x vs hx).set (k:=j) hrp (by rw[hrp.length]) tQ (by
    have:=vI tt.sz r5
    omega)
   rw[bD,vZ] at this
   rw[hcv,bD]
   exact this
  have AJR:∀ (k' e:Nat) (t' :Ty) (ys:List t'.T),k' <xs.length->e<2->k' *2+e≠k*2+hh->GG (Rp G w t') t'.sz w ((E.nm i).hn (k' *2+e)) ys->GG (Rp G w' t') t'.sz w' ((E.nm i).hn (k' *2+e)) ys:=by
   intro k' e t' ys NW he CU hi
   refine hi.mono (fun x vs hx=>Rp.mono hGs (fun _ h=>h) t' x vs hx) fun hn=>s5 _ ?_
   exact h9 _ _ (by omega) (by omega) CU hn p4
  have iH:∀ b (xx:List (List t1.T×List t2.T)),(AX.tree t1 t2 xx).ow E i b↔b∈(E.nm i).ins.l:=fun b xx=>AX.gN
  have wR:AS c G w' E (DK L (i,.tree t1 t2 (xs.set k x'))):=by
   refine hG.U0 (AQ (CD _ _ hl)) s2 (by omega) (fun _=>rfl) (fun _ _=>⟨rfl,rfl⟩) rfl (fun b _ XU=>s5 b (fun he=>XU ((iH b _).2 (he ▸ hbm.1))))
    (fun b hb=>⟨(htr.all b ((iH b _).1 hb)).2.1,(htr.all b ((iH b _).1 hb)).1⟩) (fun k' f NW hf b hb he=>hG.inj k' i f _ b NW hf (CD _ _ hl) hb ((iH b xs).2 ((iH b _).1 he))) ?_ (fun t' xs' q he=>by cases he)
   refine⟨by rw[EW];exact htr.len,htr.off,htr.nd,fun b hb=> ?_,.inr ⟨h1,h2,by rw[EW];exact h3,A5U,ty0,by rw[s5 _ hbm.2.symm];exact h4,h5,by rw[EW];exact h6, ?_,by rw[EW];exact h8,by rw[EW];exact h9⟩⟩
   ·obtain⟨b1,b2,aa,tyy,fz,b3⟩:=htr.all b hb
    refine⟨b1,b2, ?_⟩
    by_cases hbe:b=((E.nm i).hn (k*2+hh)).CE
    ·rw[hbe];exact⟨_,_,_,s4⟩
    ·rw[s5 b hbe];exact⟨aa,tyy,fz,b3⟩
   ·intro k' xx NW
    rw[vL] at NW
    by_cases I0:k=k'
    ·subst I0
     rw[AA rfl,AA hk] at NW
     simp only[BA] at NW
     subst NW
     exact DZ G w w' (E.nm i) h7 hk WI AJR
    ·rw[AD I0] at NW
     have DO:=(zB.1 NW).1
     obtain⟨i1,i2⟩:=h7 k' xx NW
     exact⟨AJR k' 0 t1 _ DO (by omega) (by omega) i1,AJR k' 1 t2 _ DO (by omega) (by omega) i2⟩
  refine⟨w',E,.skip, ?_,.inr ⟨rfl,rfl⟩,⟨G,wR⟩,fun n hn=>⟨rfl,BZ rfl n hn⟩,rfl,trivial⟩
  simp only[execOp,EP,hx,SV.den,Sem.run_bind]
  rw[SL hq ARX (by rw[hcv,hq1];rfl) s1]
  rfl
 have hgd:∀ (hk:k<xs.length),xs[k]? =some (gd (.pair (.slice t1) (.slice t2)) xs k):=by
  intro hk
  unfold gd
  rw[vE,OT hk];rfl
 split at h
 ·split at h
  rotate_left
  ·cases h
  rename_i z nes u hp
  split at h
  rotate_left
  ·cases h
  rename_i hc2
  simp only[pr,BA,DH] at h
  obtain⟨rfl,rfl⟩:=h
  refine step t1 z nes u _ hc2.1 hc2.2 hp (by omega) ?_ ?_
  ·intro G w w' mm h7 hk WI AJR
   obtain⟨i1,i2⟩:=h7 k _ (hgd hk)
   exact⟨WI _ i1,AJR k 1 t2 _ hk (by omega) (by omega) i2⟩
  ·intro G w mm h7 hk
   exact⟨_,(h7 k _ (hgd hk)).1⟩
 ·split at h
  rotate_left
  ·cases h
  rename_i z nes u hp
  split at h
  rotate_left
  ·cases h
  rename_i hc2
  simp only[pr,BA,DH] at h
  obtain⟨rfl,rfl⟩:=h
  refine step t2 z nes u _ hc2.1 hc2.2 hp (by omega) ?_ ?_
  ·intro G w w' mm h7 hk WI AJR
   obtain⟨i1,i2⟩:=h7 k _ (hgd hk)
   exact⟨AJR k 0 t1 _ hk (by omega) (by omega) i1,WI _ i2⟩
  ·intro G w mm h7 hk
   exact⟨_,(h7 k _ (hgd hk)).2⟩
 ·cases h
theorem AOW {o:Oper} {ρ:Operand->SV} {t:TypeId} {x y:Operand} (EP:o.op= .store t x y) (CD:∀ n e,AR n=some e->look L n=some e) {v:SV} {DG:C7}
  (h:qH P AR t (ρ x) (ρ y) pr=some (v,DG)):E9 TB P o ρ L v DG:=by
 unfold qH at h
 split at h
 rotate_left
 ·cases h
 rename_i q hq
 split at h
 ·rename_i i off hx
  split at h
  rotate_left
  ·cases h
  rename_i cs hl
  split at h
  rotate_left
  ·cases h
  rename_i hc
  obtain⟨c1,c2,c3,c4⟩:=hc
  simp only[pr,BA,DH] at h
  obtain⟨rfl,rfl⟩:=h
  refine BS fun c w E hh hw=> ?_
  obtain⟨G,hG⟩:=hh
  obtain⟨h1,h2,h3,h4,⟨ty,h5⟩,h6⟩:=hG.MK i _ (CD _ _ hl)
  obtain⟨w',s1,s2,s3,s4,s5⟩:=PZ (P:=P) (off:=(E.nm i).pp.pre.length+off) (AN E (BL (ρ y))) w _ 0 h5 (ACY c2) (by rw[Nm.wN,AT,AT];omega)
  rw[NP,←AJN E (E.nm i) _ cs off c4] at s4
  have WI:E.set i (E.nm i)=E:=by
   refine L9 (fun k=> ?_) rfl (fun _=>rfl)
   by_cases hk:k=i
   ·subst hk;rw[Env.EZ]
   ·exact E.HY _ hk
  have sA:L7 E (DK L (i,.box (D_ cs off (BL (ρ y))))) (D_ cs off (BL (ρ y))):=by
   refine B0.2 fun u hu=> ?_
   refine (Y_ (fun n hn=>BZ rfl n hn) (fun _ _=>rfl) u ?_).1
   rcases lH hu with hu|hu
   ·exact B0.1 h6 u hu
   ·exact B0.1 (RK (hw y)) u hu
  have:=hG.change (i:=i) (e' := .box (D_ cs off (BL (ρ y)))) (m:=E.nm i) (w' :=w') (AQ (CD _ _ hl)) s2 (by omega) (fun _=>rfl) rfl
   (fun b _ hb=>s5 b (fun he=>hb (by simp [AX.own,he])))
   (fun b hb=>by simp only[AX.own,BA] at hb;subst hb;exact⟨h4,h3⟩)
   (fun k f hk hf b hb he=>hG.inj k i f (.box cs) b hk hf (CD _ _ hl) hb (.inl (by simpa [AX.own] using he)))
   (fun _=>by rw[WI];exact⟨h1,h2,h3,h4,⟨ty,s4⟩,sA⟩)
  rw[WI] at this
  refine⟨w',E,.skip, ?_,.inr ⟨rfl,rfl⟩,⟨G,this⟩,fun n hn=>⟨rfl,BZ rfl n hn⟩,rfl,trivial⟩
  simp only[execOp,EP,hx,SV.den,Sem.run_bind]
  rw[h2,SL hq c3 c1 s1]
  rfl
 ·rename_i i k sz off hx
  split at h
  ·rename_i a xs hl
   split at h
   ·exact AGG EP hq hx hl CD h
   ·exact AJP EP hq hx hl CD h
  ·rename_i a xss hh hl
   exact AOU EP hq hx hl CD h
  ·cases h
 ·rename_i i k hh j hx
  exact AOV EP hq hx CD h
 ·cases h
end
end Go.V3
namespace Go.V3
open Go
variable {TB:Tb}
section
variable {P:Program} {AR:Nat->Option AX} {L:AL}
theorem AS.qO {c:EC TB} {G:Nat->Prop} {w w' :World} {E:Env} (h:AS c G w E L) {bs:Nat} (hl:look L bs=some .L5) {ob:Obj} (hw:w'.heap=w.heap.push ob) (hr:Rest w w') {e:AX} {m:Nm} (CU:e.IF=false)
  (hm:m.CE=w.heap.size/\m.off=0/\m.nil=false) (QV:w'.heap[w.heap.size]? =some ob->¬c.Old w.heap.size->¬G w.heap.size->(∀ b,G b->w'.heap[b]? =w.heap[b]?)->aN c G w' (E.set bs m) (DK L (bs,e)) m e) (hd:e.T1=false:=by rfl) (ht:e.PV=false:=by rfl):
  AS c G w' (E.set bs m) (DK L (bs,e))/\(∀ n,Al L n->(E.set bs m).nm n=E.nm n/\Al (DK L (bs,e)) n):=by
 have DZ:w'.heap[w.heap.size]? =some ob:=by rw[hw];simp
 have CP:∀ b,b<w.heap.size->w'.heap[b]? =w.heap[b]? :=by
  intro b hb
  rw[hw,ACE,AD (by omega)]
 have hold:¬c.Old w.heap.size:=fun hx=>by have:=hx.1;have:=h.size;omega
 have hG:¬G w.heap.size:=fun hx=>by have:=h.y9 _ hx;omega
 have hbo:∀ b,e.own m=some b->b=w.heap.size:=by
  intro b hb
  cases e with
  |box cs=>simp only[AX.own,BA] at hb;rw[<-hb];exact hm.1
  |row t xs=>simp only[AX.own,hm.2.2,VF,KA,BA] at hb;rw[<-hb];exact hm.1
  |map xs=>simp only[AX.own,BA] at hb;rw[<-hb];exact hm.1
  |_=>cases hb
 refine⟨h.change (AQ hl) hr (by rw[hw];simp) (fun hx=>absurd hx (E3 hl)) CU (fun b hb _=>CP b hb) (fun b hb=>by rw[hbo b hb];exact⟨hold,hG⟩) ?_ ?_ hd ht, ?_⟩
 ·intro k f _ hf b hb he
  have:=h.kI hf hb
  rw[hbo b he] at this
  omega
 ·intro _
  exact QV DZ hold hG (fun b hb=>CP b (h.y9 b hb))
 ·intro n hn
  have T5:n≠bs:=fun he=>E3 (he ▸ hl) hn
  exact⟨E.HY m T5,BZ CU n hn⟩
theorem Hd.fin {c:EC TB} {G:Nat->Prop} {w w' :World} {E:Env} (h:AS c G w E L) {bs:Nat} (hl:look L bs=some .L5) {arr:Array Value} {ty:TypeId} (hw:w'.heap=w.heap.push (.cells arr ty (0,0))) (hr:Rest w w') {a:Ty} {xs:List a.T} {cap:Nat} (CK:Bool)
  (bD:arr.size=cap*a.sz) (hle:xs.length<=cap) (QQ:RowsIn (Rp G w a) a.sz arr 0 xs):
  Hd c w' (E.set bs ⟨w.heap.size,0,false,xs.length,cap,none⟩) (AK L (fin CK bs a xs))/\(∀ n,Al L n->(E.set bs ⟨w.heap.size,0,false,xs.length,cap,none⟩).nm n=E.nm n/\Al (AK L (fin CK bs a xs)) n)/\Al (AK L (fin CK bs a xs)) bs:=by
 obtain⟨h1,h2⟩:=h.qO hl hw hr (e:= .row a xs) (m:=⟨w.heap.size,0,false,xs.length,cap,none⟩) rfl ⟨rfl,rfl,rfl⟩
  (fun DZ hold hG CP=>⟨rfl,trivial,.inr ⟨rfl,hG,hold,hle,arr,ty,DZ,by show 0+cap*a.sz<=arr.size;omega,QQ.imp fun x vs hx=>Rp.mono CP (fun _ h=>h) a x vs hx⟩⟩)
 have CD:look (DK L (bs,.row a xs)) bs=some (.row a xs):=by rw[BC (AQ hl),AA rfl]
 cases CK with
 |true=>exact⟨⟨G,h1⟩,h2,⟨_,CD,rfl⟩⟩
 |false=>
  have h3:=h1.freeze CD
  refine⟨⟨_,h3⟩,fun n hn=>⟨(h2 n hn).1,BZ rfl n (h2 n hn).2⟩,BZ rfl bs ⟨_,CD,rfl⟩⟩
theorem AS.known {c:EC TB} {G:Nat->Prop} {w:World} {E:Env} (h:AS c G w E L) (CD:∀ n e,AR n=some e->look L n=some e) {u:C7} (hu:∀ q∈u,∃ t ys e,AR q.1=some e/\bE e t ys/\q.2= .shr t ys):
  ∃ G',AS c G' w E (AK L u)/\(∀ n,Al L n->Al (AK L u) n)/\nF .iG AR E c G' w [] u []/\(∀ n,n∉u.map (·.1)->look (AK L u) n=look L n)/\(∀ b,G b->G' b):=by
 obtain⟨G1,h1,hg1,ha1,hk1,hq1⟩:=h.ACP u (fun q hq=>by
  obtain⟨t,ys,e0,hl,ho0,e⟩:=hu q hq
  exact⟨t,ys,.inl ⟨e0,CD _ _ hl,ho0⟩,e⟩)
 refine⟨G1,h1,ha1,⟨?_, ?_,fun i t ys _ hx=>by simp at hx,fun i t ys _ hx=>by simp at hx,fun i t1 t2 ys _ hx=>by simp at hx,fun i cs _ hx=>by simp at hx⟩, ?_,hg1⟩
 ·intro i t ys hl
  rcases hk1 i _ (CD _ _ hl) with hx|⟨_,_,hx,_⟩
  ·exact h1.MK i _ hx
  ·cases hx
 ·rintro i t ys e0 hl ho0 (⟨hx,_⟩|hx)
  ·cases hx
  ·exact h1.MK i _ (hq1 _ hx)
 ·intro n hn
  cases hl:look L n with
  |some e=>
   rcases hk1 n e hl with hx|⟨t,ys,_,_,hx⟩
   ·exact hx
   ·exact absurd (DD.2 ⟨_,hx,rfl⟩) hn
  |none=>
   have hge:L.length<=n:=by
    rcases IA n L.length with h' |h'
    ·unfold look at hl;rw[OT h'] at hl;cases hl
    ·exact h'
   unfold look
   rw[UX (by rw[O_];exact hge)]
theorem zK {a:Ty} {cs:List SV} {x:a.T} {r:List SV} {nes:List NE} {u:C7} (h:GC .iG AR a cs=some (x,r,nes,u)):∀ q∈u,∃ t ys e,AR q.1=some e/\bE e t ys/\q.2= .shr t ys:=by
 intro q hq
 obtain⟨_,g2⟩:=XX _ _ _ _ _ _ h
 obtain⟨k,t,s,xs,ne,uk,hs,CU,hqk⟩:=g2 q hq
 rcases p_ hs with rfl|⟨i,t',ys,e',hl,hoe,_,_,rfl⟩|hx
 ·cases hqk
 ·rw[HA] at hqk;subst hqk;exact⟨t',ys,e',hl,hoe,rfl⟩
 ·cases hx
theorem AOX {a:Ty}:∀ (n:Nat) (cs:List SV) (xs:List a.T) (u:C7),aR AR a n cs=some (xs,u)->∀ q∈u,∃ t ys e,AR q.1=some e/\bE e t ys/\q.2= .shr t ys:=by
 intro n
 induction n with
 |zero=>
  intro cs xs u h
  cases cs with
  |nil=>simp only[aR,BA,DH] at h;obtain⟨rfl,rfl⟩:=h;intro q hq;cases hq
  |cons v r=>simp [aR] at h
 |succ n ih=>
  intro cs xs u h
  simp only[aR] at h
  split at h
  rotate_left
  ·cases h
  rename_i x r nes u1 hp
  split at h
  rotate_left
  ·cases h
  rename_i xs' u2 hq
  simp only[BA,DH] at h
  obtain⟨rfl,rfl⟩:=h
  intro q QW
  rcases FG.1 QW with QW |QW
  ·exact zK hp q QW
  ·exact ih _ _ _ hq q QW
theorem AB3 (E:Env) (v:Value):(T0 v).wf E L:=by
 cases v with
 |int k n=>cases k <;> first|trivial|(simp only[T0];split <;> trivial)
 |float k n=>cases k <;> trivial
 |slice a l c=>simp only[T0];split <;> trivial
 |_=>trivial
theorem nQ (E:Env) {t:TypeId} {z:List SV} (h:OH P t=some z):L7 E L z:=by
 unfold OH at h
 split at h
 ·split at h
  ·simp only[BA] at h
   subst h
   refine B0.2 fun v hv=> ?_
   obtain⟨u,_,rfl⟩:=DD.1 hv
   exact AB3 E u
  ·cases h
 ·cases h
theorem AOY {E:Env} {cs vs:List SV} (off:Nat) (h1:L7 E L cs) (h2:L7 E L vs):L7 E L (D_ cs off vs):=
 B0.2 fun u hu=>(lH hu).elim (B0.1 h1 u) (B0.1 h2 u)
theorem wU {E:Env} {place:Nat->Option (Nat×Nat)}:∀ (l:List (Nat×SV)) (cs kZ :List SV),cW place cs l=some kZ ->L7 E L cs->(∀ q∈l,q.2.wf E L)->L7 E L kZ
 | [],cs,kZ,h,hw,_=>by simp only[cW,BA] at h;subst h;exact hw
 |(i,v)::r,cs,kZ,h,hw,hl=>by
  simp only[cW] at h
  split at h
  ·cases h
  ·split at h
   ·exact wU r _ _ h (AOY _ hw (RK (hl (i,v) (by simp)))) (fun q hq=>hl q (by simp [hq]))
   ·cases h
theorem ARY {E:Env} {z:List SV} (h:L7 E L z) (n size:Nat):L7 E L (fresh z n size):=by
 refine B0.2 fun v hv=> ?_
 unfold fresh at hv
 obtain⟨i,_,rfl⟩:=DD.1 hv
 simp only[List.getD]
 cases hz:z[i%size]? with
 |none=>exact trivial
 |some u=>exact B0.1 h u (aZ hz)
theorem wV {o:Oper} {ρ:Operand->SV} {t:TypeId} {len:Nat} {parts:Array (Nat×Operand)} (EP:o.op= .buildSlice t len parts) {CK:Bool} {bs:Nat} (CD:∀ n e,AR n=some e->look L n=some e) {v:SV} {DG:C7}
  (h:PC P AR t len (parts.toList.map fun q=>(q.1,ρ q.2)) CK bs pr=some (v,DG)):E9 TB P o ρ L v DG:=by
 unfold PC at h
 split at h
 rotate_left
 ·cases h
 rename_i e hu
 split at h
 rotate_left
 ·cases h
 rename_i q z a hq hz hty
 split at h
 rotate_left
 ·cases h
 rename_i hc
 obtain⟨hzl,gX,bD,hna,DZ⟩:=hc
 split at h
 rotate_left
 ·cases h
 rename_i cs hf
 split at h
 rotate_left
 ·cases h
 rename_i xs u hp
 simp only[pr,BA,DH] at h
 obtain⟨rfl,rfl⟩:=h
 have ML:look L bs=some .L5:=CD _ _ (by have:=CZ DZ 0 (by omega);simpa using this)
 refine BS fun c w E hh hw=> ?_
 obtain⟨G,hG⟩:=hh
 have AD0:=AOX _ _ _ _ hp
 obtain⟨G',k1,k2,k3,k4,_⟩:=hG.known CD AD0
 have A5V:L7 E L cs:=wU _ _ _ hf (ARY (nQ E hz) _ _) (by
  intro q' QW
  obtain⟨y,_,rfl⟩:=DD.1 QW
  exact hw y.2)
 obtain⟨l1,l2,l3⟩:=lI _ _ _ _ hp A5V k3
 have nR:look (AK L u) bs=some .L5:=by
  rw[k4 bs];exact ML
  intro hx
  obtain⟨q',QW,he⟩:=DD.1 hx
  obtain⟨t',ys,e',hl,hoe,_⟩:=AD0 q' QW
  have:=CD _ _ hl
  rw[he,ML] at this;cases this;cases hoe
 obtain⟨f1,f2,f3⟩:=Hd.fin k1 nR (w' :=w.alloc (.cells (AN E cs).toArray e)) (ty:=e) rfl ⟨rfl,rfl,rfl⟩ (a:=a) (xs:=xs) (cap:=len) CK (by simp [AT,l2]) (by omega) l3
 rw[BQ]
 refine⟨w.alloc (.cells (AN E cs).toArray e),_,_, ?_,.inl rfl,f1,fun n hn=>f2 n (k2 n hn),rfl,f3⟩
 obtain⟨zv,hzr,hzc⟩:=U_ (E:=E) (P:=P) w hz
 simp only[execOp,EP,SV.den,Env.EZ,Nm.ad,VF,KA,l1]
 refine CX ?_
 have SM:=Y9 (E:=E) _ _ _ _ hna hf
 rw[sG hzl] at SM
 have P0:(List.map (fun q=>(q.1,q.2.den E)) (List.map (fun y=>(y.1,ρ y.2)) parts.toList))=(parts.map fun (i,x)=>(i,(ρ x).den E)).toList:=by
  rw[VH,kD];rfl
 rw[P0] at SM
 simp only[AQV] at SM
 have h24:¬(len*q.size>2 ^ 24):=by
  have:(2:Nat) ^ 24=16777216:=rfl
  omega
 simp only[Instr.buildSlice,Sem.run_bind,run_underlying hu,Result.andThen,sizeOf,typeInfo]
 by_cases h0:len*q.size=0
 ·have hr:Array.range 0= #[]:=by decide
  rw[h0,hr] at SM
  simp [hq,h0,hr,newRow]
  simp at SM
  simp [SM]
 ·simp [hq,h24,h0,hzr,hzc,newRow]
  simp at SM
  simp [SM]
theorem VM {o:Oper} {ρ:Operand->SV} {E:Env} {w:World} {t e:TypeId} {len:Nat} {parts:Array (Nat×Operand)} (EP:o.op= .buildSlice t len parts) {q:TypeInfo} {z cs:List SV} (hu:P.underlying t=some (.slice e)) (hq:P.info? e=some q) (hz:OH P e=some z)
  (hzl:z.length=q.size) (bD:len*q.size<=16777216) (hna:VJ (parts.toList.map fun q=>(q.1,ρ q.2))=true) (hf:cW (fun i=>some (i*q.size,q.size)) (fresh z (len*q.size) q.size) (parts.toList.map fun q=>(q.1,ρ q.2))=some cs):
  (execOp (fun x=>(ρ x).den E) o).run P w= .ok (.value (.slice (some ⟨w.heap.size,0,none⟩) len len)) (w.alloc (.cells (AN E cs).toArray e)):=by
 obtain⟨zv,hzr,hzc⟩:=U_ (E:=E) (P:=P) w hz
 simp only[execOp,EP]
 refine CX ?_
 have SM:=Y9 (E:=E) _ _ _ _ hna hf
 rw[sG hzl] at SM
 have P0:(List.map (fun q=>(q.1,q.2.den E)) (List.map (fun y=>(y.1,ρ y.2)) parts.toList))=(parts.map fun (i,x)=>(i,(ρ x).den E)).toList:=by
  rw[VH,kD];rfl
 rw[P0] at SM
 simp only[AQV] at SM
 have h24:¬(len*q.size>2 ^ 24):=by
  have:(2:Nat) ^ 24=16777216:=rfl
  omega
 simp only[Instr.buildSlice,Sem.run_bind,run_underlying hu,Result.andThen,sizeOf,typeInfo]
 by_cases h0:len*q.size=0
 ·have hr:Array.range 0= #[]:=by decide
  rw[h0,hr] at SM
  simp [hq,h0,hr,newRow]
  simp at SM
  simp [SM]
 ·simp [hq,h24,h0,hzr,hzc,newRow]
  simp at SM
  simp [SM]
theorem AS.AMG {c:EC TB} {G:Nat->Prop} {w w' :World} {E:Env} (h:AS c G w E L) {bs:Nat} (hl:look L bs=some .L5) (hr:Rest w w') (hs:w.heap.size<=w'.heap.size) {m:Nm} {l:List Nat} {t:Ty} {xss:List (List t.T)}
  (hw:∀ b,b<w.heap.size->b∉l->w'.heap[b]? =w.heap[b]?) (XU:∀ b∈l,JH E L b) (hd:∀ (E' :Env) (L' :AL),GD c G w' E' L' m l t xss none):
  AS c G w' (E.T4 bs m l) (DK L (bs,.deep t xss none))/\(∀ n,Al L n->(E.T4 bs m l).nm n=E.nm n/\Al (DK L (bs,.deep t xss none)) n)/\Al (DK L (bs,.deep t xss none)) bs/\(E.T4 bs m l).nm bs=m:=by
 have iH:∀ b,(AX.deep t xss none).ow (E.T4 bs m l) bs b↔b∈l:=fun b=>by rw[AX.GF,(E.E8 _ _ _).2]
 refine⟨h.U0 (AQ hl) hr hs (fun hx=>absurd hx (E3 hl)) (fun k hk=>E.NQ _ _ hk) rfl (fun b hb hn=>hw b hb (fun hx=>hn ((iH b).2 hx)))
  (fun b hb=>by have:=(hd E L).all b ((iH b).1 hb);exact⟨this.2.1,this.1⟩) (fun k f _ hf b hb he=>XU b ((iH b).1 he) k f hf hb) trivial ?_, ?_,⟨_,by rw[BC (AQ hl),AA rfl],rfl⟩,(E.E8 _ _ _).1⟩
 ·intro t' xs' q he
  cases he
  rw[(E.E8 _ _ _).1,(E.E8 _ _ _).2]
  exact hd _ _
 ·intro n hn
  have T5:n≠bs:=fun he=>E3 (he ▸ hl) hn
  exact⟨(E.NQ _ _ T5).1,BZ rfl n hn⟩
theorem VB {c:EC TB} {G:Nat->Prop} {w:World} {E:Env} (h:AS c G w E L):JH E L w.heap.size:=by
 intro n e he hb
 have:=h.kI he hb
 omega
theorem lJ {c:EC TB} {G:Nat->Prop} {w:World} {E:Env} (h:AS c G w E L) {i b:Nat} {e:AX} (hi:look L i=some e) (hb:e.ow E i b):JH E (DK L (i,.dead)) b:=by
 intro n f hf RH
 rw[BC (AQ hi)] at hf
 by_cases hn:n=i
 ·subst hn
  simp only[HJ,BA] at hf;subst hf
  rcases RH with RH|⟨RH,_⟩|⟨RH,_⟩ <;> cases RH
 ·rw[AD hn] at hf
  exact h.inj n i f e b hn hf hi RH hb
theorem JH.kill {E:Env} {b:Nat} (h:JH E L b) {i:Nat} (hi:i<L.length):JH E (DK L (i,.dead)) b:=by
 intro n f hf RH
 rw[BC hi] at hf
 by_cases hn:n=i
 ·simp only[hn,HJ,BA] at hf;subst hf
  rcases RH with RH|⟨RH,_⟩|⟨RH,_⟩ <;> cases RH
 ·rw[AD hn] at hf
  exact h n f hf RH
theorem ARZ {o:Oper} {ρ:Operand->SV} {t:TypeId} {l cp:Operand} (EP:o.op= .makeSlice t l cp) {bs:Nat} (CD:∀ n e,AR n=some e->look L n=some e) {v:SV} {DG:C7}
  (h:AAY P AR t (ρ l) (ρ cp) bs pr=some (v,DG)):E9 TB P o ρ L v DG:=by
 unfold AAY at h
 split at h
 rotate_left
 ·cases h
 rename_i e hu
 split at h
 rotate_left
 ·cases h
 rename_i q a k n k' m hq hz hty hl hcp
 split at h
 rotate_left
 ·cases h
 rename_i hc
 obtain⟨qP,hqb,DZ⟩:=hc
 split at h
 rotate_left
 ·cases h
 rename_i hn
 obtain⟨h0,h1,h2⟩:=hn
 simp only[pr,BA,DH] at h
 obtain⟨rfl,rfl⟩:=h
 have ML:look L bs=some .L5:=CD _ _ (by have:=CZ DZ 0 (by omega);simpa using this)
 refine BS fun c w E hh hw=> ?_
 obtain⟨G,hG⟩:=hh
 have A0G:I64 m:=by
  have:(1:Int)<=q.bytes:=by omega
  have:m*1<=m*q.bytes:=AEW this (by omega)
  exact⟨by omega,by omega⟩
 have KG:=run_makeSlice (E:=E) (k:=k) (k' :=k') w hu hq hz (by rw[qP];rfl) h0 h1 h2 A0G
 have hold:¬c.Old w.heap.size:=fun hx=>by have:=hx.1;have:=hG.size;omega
 have hGn:¬G w.heap.size:=fun hx=>by have:=hG.y9 _ hx;omega
 have CP:∀ (o:Obj) (b:Nat),b<w.heap.size->(w.alloc o).heap[b]? =w.heap[b]? :=by
  intro o b hb
  show (w.heap.push o)[b]? =_
  rw[ACE,AD (by omega)]
 have SN:∀ (o:Obj),(w.alloc o).heap[w.heap.size]? =some o:=by
  intro o
  show (w.heap.push o)[w.heap.size]? =_
  simp
 obtain⟨g1,g2,g3,g4⟩:=hG.AMG (w' :=w.alloc (.cells ((Array.range (m.toNat*([SV.MJ]:List SV).length)).map fun i=>(AN E [SV.MJ]).toArray[i%(AN E [SV.MJ]).toArray.size]!) e)) ML ⟨rfl,rfl,rfl⟩ (by show _<=(w.heap.push _).size;simp) (m:=⟨w.heap.size,0,false,n.toNat,m.toNat,none⟩) (l:=[w.heap.size]) (t:=a) (xss:=List.replicate n.toNat [])
  (fun b hb _=>CP _ b hb) (by intro b hb;simp only[HA] at hb;subst hb;exact VB hG)
  (by
   intro E' L'
   refine⟨by simp,rfl,by simp, ?_,.inr ⟨rfl,by simp,by simp;omega,_,e,fun _=>⟨0,0,true,0,0,none⟩,SN _,by simp, ?_, ?_, ?_,fun _ _ he=>by cases he⟩⟩
   ·intro b hb
    simp only[HA] at hb;subst hb
    exact⟨hGn,hold,_,_,_,SN _⟩
   ·intro i hi
    simp only[XV] at hi
    rw[AQY,Array.getElem?_range,AA (by simp;omega)]
    have:i%(AN E [SV.MJ]).toArray.size=0:=Nat.mod_one i
    simp only[cR,this]
    rfl
   ·intro i xs hi _
    rw[vG] at hi
    split at hi
    ·simp only[BA] at hi;subst hi
     exact⟨⟨rfl,trivial,.inl ⟨rfl,rfl,rfl⟩⟩,fun hx=>by cases hx⟩
    ·cases hi
   ·intro i j _ _ _ _ _ hx;cases hx)
 refine⟨_,_,_, ?_,.inl rfl,⟨G,g1⟩,g2,rfl,g3⟩
 simp only[execOp,EP,hl,hcp,SV.den]
 rw[g4]
 exact CX KG
theorem AOZ {o:Oper} {ρ:Operand->SV} {t:TypeId} {len:Nat} {parts:Array (Nat×Operand)} (EP:o.op= .buildSlice t len parts) {bs:Nat} (CD:∀ n e,AR n=some e->look L n=some e) {v:SV} {DG:C7}
  (h:qJ P AR t len (parts.toList.map fun q=>(q.1,ρ q.2)) bs pr=some (v,DG)):E9 TB P o ρ L v DG:=by
 unfold qJ at h
 split at h
 rotate_left
 ·cases h
 rename_i e hu
 split at h
 rotate_left
 ·rename_i q a hq hz hty P0
  split at h
  rotate_left
  ·cases h
  rename_i hc
  obtain⟨qP,rfl,DZ⟩:=hc
  simp only[pr,BA,DH] at h
  obtain⟨rfl,rfl⟩:=h
  have ML:look L bs=some .L5:=CD _ _ (by have:=CZ DZ 0 (by omega);simpa using this)
  refine BS fun c w E hh hw=> ?_
  obtain⟨G,hG⟩:=hh
  have KG:=VM (E:=E) (w:=w) (cs:=[.MJ]) EP hu hq hz (by rw[qP];rfl) (by rw[qP];omega) (by rw[P0];rfl) (by rw[P0,qP];rfl)
  have hold:¬c.Old w.heap.size:=fun hx=>by have:=hx.1;have:=hG.size;omega
  have hGn:¬G w.heap.size:=fun hx=>by have:=hG.y9 _ hx;omega
  have SN:∀ (o:Obj),(w.alloc o).heap[w.heap.size]? =some o:=by
   intro o
   show (w.heap.push o)[w.heap.size]? =_
   simp
  have CP:∀ (o:Obj) (b:Nat),b<w.heap.size->(w.alloc o).heap[b]? =w.heap[b]? :=by
   intro o b hb
   show (w.heap.push o)[b]? =_
   rw[ACE,AD (by omega)]
  obtain⟨g1,g2,g3,g4⟩:=hG.AMG (w' :=w.alloc (.cells (AN E [SV.MJ]).toArray e)) ML ⟨rfl,rfl,rfl⟩ (by show _<=(w.heap.push _).size;simp) (m:=⟨w.heap.size,0,false,1,1,none⟩) (l:=[w.heap.size]) (t:=a) (xss:=[[]])
   (fun b hb _=>CP _ b hb) (by intro b hb;simp only[HA] at hb;subst hb;exact VB hG)
   (by
    intro E' L'
    refine⟨rfl,rfl,by simp, ?_,.inr ⟨rfl,by simp,by simp,_,e,fun _=>⟨0,0,true,0,0,none⟩,SN _,by simp [AN], ?_, ?_, ?_,fun _ _ he=>by cases he⟩⟩
    ·intro b hb
     simp only[HA] at hb;subst hb
     exact⟨hGn,hold,_,_,_,SN _⟩
    ·intro i hi
     simp only[IC] at hi
     have:i=0:=by omega
     subst this
     rfl
    ·intro i xs hi _
     cases i with
     |succ i=>simp at hi
     |zero=>
      simp only[QP,BA] at hi;subst hi
      exact⟨⟨rfl,trivial,.inl ⟨rfl,rfl,rfl⟩⟩,fun hx=>by cases hx⟩
    ·intro i j _ _ _ _ _ hx;cases hx)
  refine⟨_,_,_,KG,.inl ?_,⟨G,g1⟩,g2,rfl,g3⟩
  simp only[SV.den];rw[g4];rfl
 ·cases h
 rename_i q a j hq hz hty P0
 split at h
 rotate_left
 ·cases h
 rename_i t' ys hj
 split at h
 rotate_left
 ·cases h
 rename_i he
 subst he
 split at h
 rotate_left
 ·cases h
 rename_i hc
 obtain⟨qP,rfl,DZ⟩:=hc
 simp only[pr,BA,DH] at h
 obtain⟨rfl,rfl⟩:=h
 have ML:look L bs=some .L5:=CD _ _ (by have:=CZ DZ 0 (by omega);simpa using this)
 have bH :=CD _ _ hj
 refine BS fun c w E hh hw=> ?_
 obtain⟨G,hG⟩:=hh
 have KG:=VM (E:=E) (w:=w) (cs:=[.NV j]) EP hu hq hz (by rw[qP];rfl) (by rw[qP];omega) (by rw[P0];rfl) (by rw[P0,qP];rfl)
 have hold:¬c.Old w.heap.size:=fun hx=>by have:=hx.1;have:=hG.size;omega
 have hGn:¬G w.heap.size:=fun hx=>by have:=hG.y9 _ hx;omega
 have X8:=hG.kill (AQ bH)
 have hjb:j≠bs:=by rintro rfl;rw[bH] at ML;cases ML
 have nR:look (DK L (j,.dead)) bs=some .L5:=by rw[BC (AQ bH),AD (fun he=>hjb he.symm)];exact ML
 have C1:=hG.MK j _ bH
 have hjo:(E.nm j).nil=false->(AX.row t' ys).ow E j (E.nm j).CE:=fun hn=> .inl (by simp [AX.own,hn])
 have SN:∀ (o:Obj),(w.alloc o).heap[w.heap.size]? =some o:=by
  intro o
  show (w.heap.push o)[w.heap.size]? =_
  simp
 have CP:∀ (o:Obj) (b:Nat),b<w.heap.size->(w.alloc o).heap[b]? =w.heap[b]? :=by
  intro o b hb
  show (w.heap.push o)[b]? =_
  rw[ACE,AD (by omega)]
 have DO:(E.nm j).nil=false->(E.nm j).CE<w.heap.size:=fun hn=>hG.kI bH (hjo hn)
 obtain⟨g1,g2,g3,g4⟩:=X8.AMG (w' :=w.alloc (.cells (AN E [SV.NV j]).toArray e)) nR ⟨rfl,rfl,rfl⟩ (by show _<=(w.heap.push _).size;simp) (m:=⟨w.heap.size,0,false,1,1,none⟩) (l:=qN (E.nm j) [w.heap.size]) (t:=t') (xss:=[ys])
  (fun b hb _=>CP _ b hb)
  (by
   intro b hb
   rcases MT.1 hb with hb|⟨hn,rfl⟩
   ·simp only[HA] at hb;subst hb;exact VB X8
   ·exact lJ hG bH (hjo hn))
  (by
   intro E' L'
   have OU:=C1.inner
   refine⟨rfl,rfl, ?_, ?_,.inr ⟨rfl,MT.2 (.inl (by simp)),by simp,_,e,fun _=>E.nm j,SN _,by simp [AN], ?_, ?_, ?_,fun _ _ he=>by cases he⟩⟩
   ·unfold qN
    split
    ·simp
    ·rename_i hn
     have:=DO (by simpa using hn)
     simp;omega
   ·intro b hb
    rcases MT.1 hb with hb|⟨hn,rfl⟩
    ·simp only[HA] at hb;subst hb
     exact⟨hGn,hold,_,_,_,SN _⟩
    ·obtain⟨q1,q2, -⟩:=hG.QU bH (hjo hn)
     obtain⟨-, -,QQ⟩:=hG.MK _ _ bH
     rcases QQ with ⟨hnn,_⟩|⟨_,_,_,_,arr,ty,q3,_⟩
     ·rw[hn] at hnn;cases hnn
     ·exact⟨q1,q2,arr,ty,_,by rw[CP _ _ (DO hn)];exact q3⟩
   ·intro i hi
    simp only[IC] at hi
    have:i=0:=by omega
    subst this
    rfl
   ·intro i xs hi _
    cases i with
    |succ i=>simp at hi
    |zero=>
     simp only[QP,BA] at hi
     subst hi
     refine⟨OU.mono (fun x vs hx=>Rp.mono (fun b hb=>CP _ b (hG.y9 b hb)) (fun _ h=>h) _ x vs hx) (fun hn=>CP _ _ (DO hn)),fun hn=>⟨MT.2 (.inr ⟨hn,rfl⟩), ?_⟩⟩
     have:=DO hn
     show (E.nm j).CE≠w.heap.size
     omega
   ·intro i i' hi LQ hii
    simp at hi LQ
    omega)
 refine⟨_,_,_,KG,.inl ?_,⟨G,g1⟩,fun n hn=> ?_,rfl,g3⟩
 ·simp only[SV.den];rw[g4];rfl
 ·obtain⟨q1,q2⟩:=g2 n (BZ rfl n hn)
  exact⟨q1,q2⟩
theorem zL {o:Oper} {ρ:Operand->SV} {t:TypeId} {l cp:Operand} (EP:o.op= .makeSlice t l cp) {CK:Bool} {bs:Nat} (CD:∀ n e,AR n=some e->look L n=some e) {v:SV} {DG:C7}
  (h:RJ P AR t (ρ l) (ρ cp) CK bs pr=some (v,DG)):E9 TB P o ρ L v DG:=by
 unfold RJ at h
 split at h
 rotate_left
 ·cases h
 rename_i e hu
 split at h
 rotate_left
 ·cases h
 rename_i q z a k n k' m hq hz hty hl hcp
 split at h
 rotate_left
 ·cases h
 rename_i zv nes u0 hpz
 split at h
 rotate_left
 ·cases h
 rename_i hc
 obtain⟨hzl,gX,hqb,DZ⟩:=hc
 split at h
 rotate_left
 ·cases h
 rename_i hn
 obtain⟨h0,h1,h2⟩:=hn
 simp only[pr,BA,DH] at h
 obtain⟨rfl,rfl⟩:=h
 have ML:look L bs=some .L5:=CD _ _ (by have:=CZ DZ 0 (by omega);simpa using this)
 refine BS fun c w E hh hw=> ?_
 obtain⟨G,hG⟩:=hh
 have A0G:I64 m:=by
  have:(1:Int)<=q.bytes:=by omega
  have:m*1<=m*q.bytes:=AEW this (by omega)
  exact⟨by omega,by omega⟩
 have hrp:Rp G w a zv (AN E z):=by
  obtain⟨c1,e1,_,_,hd⟩:=KE E _ _ _ _ _ _ hpz
  rw[HH] at e1;subst e1
  rw[hd]
  refine Rp.mk _ _ _ fun k e he=> ?_
  obtain⟨g1,_⟩:=XX _ _ _ _ _ _ hpz
  rcases g1 k false e he with rfl|⟨t,s,ys,ne,uk,hs,CU,hsc,KP,rfl⟩
  ·trivial
  have hnf:EM E nes k=ne.nm E:=by simp [EM,CU]
  rw[hnf]
  exact qA (L:=L) hs (by simp) (B0.1 (nQ E hz) s hsc) (fun i t ys h=>by simp [JM] at h) (fun i t ys e _ h=>by simp [JM] at h)
 have QQ:RowsIn (Rp G w a) a.sz ((Array.range (m.toNat*z.length)).map fun i=>(AN E z).toArray[i%(AN E z).toArray.size]!) 0 (List.replicate n.toNat zv):=by
  intro i x hx
  rw[vG] at hx
  split at hx
  ·rename_i hi
   simp only[BA] at hx;subst hx
   have hzs:z.length=a.sz:=by omega
   have DO:(i+1)*a.sz<=m.toNat*a.sz:=vI _ (by omega)
   rw[cS] at DO
   have:BR ((Array.range (m.toNat*z.length)).map fun i=>(AN E z).toArray[i%(AN E z).toArray.size]!) (0+i*a.sz) a.sz=AN E z:=by
    apply WC
    intro j
    rw[CJ]
    split
    ·rename_i hj
     rw[KK,AQY,Array.getElem?_range,AA (by rw[hzs];omega)]
     have e1:(AN E z).toArray.size=a.sz:=by simp [AT,hzs]
     simp only[cR,e1]
     have A0H:(i*a.sz+j)%a.sz=j:=by rw[kG,Nat.mul_add_mod,a9 hj]
     have tQ:j<(AN E z).length:=by rw[AT,hzs];exact hj
     rw[A0H,OT tQ]
     simp [tQ]
    ·rw[UX (by rw[AT];omega)]
   rw[this];exact hrp
  ·cases hx
 have hlen:(List.replicate n.toNat zv).length=n.toNat:=by simp
 obtain⟨f1,f2,f3⟩:=Hd.fin hG ML (w' :=w.alloc (.cells ((Array.range (m.toNat*z.length)).map fun i=>(AN E z).toArray[i%(AN E z).toArray.size]!) e)) (ty:=e) rfl ⟨rfl,rfl,rfl⟩ (a:=a) (xs:=List.replicate n.toNat zv) (cap:=m.toNat) CK
  (by simp;rw[hzl,gX]) (by rw[hlen];omega) QQ
 refine⟨_,_,_, ?_,.inl rfl,f1,f2,rfl,f3⟩
 simp only[execOp,EP,hl,hcp,SV.den,Env.EZ,Nm.ad,VF,KA,hlen]
 exact CX (run_makeSlice (E:=E) w hu hq hz hzl h0 h1 h2 A0G)
theorem AP0 {o:Oper} {ρ:Operand->SV} {t:TypeId} (EP:o.op= .alloc t) {CK:Bool} {bs:Nat} (CD:∀ n e,AR n=some e->look L n=some e) {v:SV} {DG:C7}
  (h:qI P AR t CK bs pr=some (v,DG)):E9 TB P o ρ L v DG:=by
 unfold qI at h
 split at h
 rotate_left
 ·cases h
 rename_i z hz
 split at h
 rotate_left
 ·cases h
 rename_i DZ
 have ML:look L bs=some .L5:=CD _ _ (by have:=CZ DZ 0 (by omega);simpa using this)
 have KG:∀ (E:Env) (w:World),(execOp (fun x=>(ρ x).den E) o).run P w= .ok (.value (.pointer (some ⟨w.heap.size,0,none⟩))) (w.alloc (.cells (AN E z).toArray t)):=by
  intro E w
  obtain⟨zv,hzr,hzc⟩:=U_ (E:=E) (P:=P) w hz
  simp only[execOp,EP]
  refine CX ?_
  simp only[Instr.alloc,Sem.run_bind,hzr,Result.andThen]
  simp [wL,hzc]
 split at h
 ·rename_i len e _
  split at h
  rotate_left
  ·cases h
  rename_i a q hty hq
  split at h
  rotate_left
  ·cases h
  rename_i hc
  obtain⟨gX,hns,hlen⟩:=hc
  split at h
  rotate_left
  ·cases h
  rename_i xs u hp
  simp only[pr,BA,DH] at h
  obtain⟨rfl,rfl⟩:=h
  refine BS fun c w E hh hw=> ?_
  obtain⟨G,hG⟩:=hh
  obtain⟨l1,l2,l3⟩:=lI (L:=L) (c:=c) (G:=G) (w:=w) (E:=E) _ _ _ _ hp (nQ E hz) (kK .iG)
  obtain⟨f1,f2,f3⟩:=Hd.fin hG ML (w' :=w.alloc (.cells (AN E z).toArray t)) (ty:=t) rfl ⟨rfl,rfl,rfl⟩ (a:=a) (xs:=xs) (cap:=len) CK (by simp [AT,l2]) (by omega) l3
  refine⟨_,_,_,KG E w,.inl ?_,f1,f2,rfl,⟨f3,by rw[Env.EZ];show 0<xs.length;omega,by rw[Env.EZ]⟩⟩
  simp only[SV.den,Env.EZ]
  simp
 ·split at h
  rotate_left
  ·cases h
  simp only[pr,BA,DH] at h
  obtain⟨rfl,rfl⟩:=h
  refine BS fun c w E hh hw=> ?_
  obtain⟨G,hG⟩:=hh
  have hwz:∀ (E' :Env) (L' :AL),L7 E' L' z/\AN E' z=AN E z:=by
   intro E' L'
   have:∀ (E1:Env) (L1:AL) (l:List Value),L7 E1 L1 (l.map T0)/\AN E1 (l.map T0)=l:=fun E1 L1 l=>
    ⟨B0.2 fun v hv=>by obtain⟨u,_,rfl⟩:=DD.1 hv;exact AB3 E1 u,WR l⟩
   unfold OH at hz
   split at hz
   ·split at hz
    ·simp only[BA] at hz
     subst hz
     exact⟨(this _ _ _).1,by rw[(this E' L' _).2,(this E L _).2]⟩
    ·cases hz
   ·cases hz
  obtain⟨k1,k2⟩:=hG.qO ML (w' :=w.alloc (.cells (AN E z).toArray t)) (ob:= .cells (AN E z).toArray t (0,0)) rfl ⟨rfl,rfl,rfl⟩ (e:= .box z) (m:=⟨w.heap.size,0,false,0,0,none⟩) rfl ⟨rfl,rfl,rfl⟩
   (fun DZ hold hG CP=>⟨rfl,rfl,hG,hold,⟨t,by rw[(hwz (E.set bs ⟨w.heap.size,0,false,0,0,none⟩) L).2,Nm.AME _ rfl rfl];exact DZ⟩,(hwz _ _).1⟩)
  refine⟨_,_,_,KG E w,.inl ?_,⟨G,k1⟩,k2,rfl, ?_⟩
  ·simp only[SV.den,Env.EZ]
  ·exact⟨.box z,by show look (DK L (bs,.box z)) bs=_;rw[BC (AQ ML),AA rfl],rfl⟩
theorem AWJ {o:Oper} {ρ:Operand->SV} {t:TypeId} {x:Operand} (EP:o.op= .box t x) {bs:Nat} (CD:∀ n e,AR n=some e->look L n=some e) {v:SV} {DG:C7}
  (h:AOM AR (ρ x) bs pr=some (v,DG)):E9 TB P o ρ L v DG:=by
 unfold AOM at h
 split at h
 rotate_left
 ·cases h
 rename_i hc
 obtain⟨hr,DZ⟩:=hc
 have ML:look L bs=some .L5:=CD _ _ (by have:=CZ DZ 0 (by omega);simpa using this)
 simp only[pr,BA,DH] at h
 obtain⟨rfl,rfl⟩:=h
 refine BS fun c w E hh hw=> ?_
 obtain⟨G,hG⟩:=hh
 have SG:=kY (E:=E) (ρ x) hr
 have MV:∀ m:Nm,L7 (E.set bs m) (DK L (bs,.box (BL (ρ x)))) (BL (ρ x))/\AN (E.set bs m) (BL (ρ x))=AN E (BL (ρ x)):=by
  intro m
  exact L8 (fun n hn=>BZ rfl n hn) (fun n hn=>E.HY m (fun he=>E3 (he ▸ ML) hn)) _ (RK (hw x))
 obtain⟨k1,k2⟩:=hG.qO ML (w' :=w.alloc (.cells (AN E (BL (ρ x))).toArray t)) (ob:= .cells (AN E (BL (ρ x))).toArray t (0,0)) rfl ⟨rfl,rfl,rfl⟩ (e:= .box (BL (ρ x))) (m:=⟨w.heap.size,0,false,0,0,none⟩) rfl ⟨rfl,rfl,rfl⟩
  (fun DZ hold hG CP=>⟨rfl,rfl,hG,hold,⟨t,by rw[(MV _).2,Nm.AME _ rfl rfl];exact DZ⟩,(MV _).1⟩)
 refine⟨w.alloc (.cells (AN E (BL (ρ x))).toArray t),_,.value (.pointer (some ⟨w.heap.size,0,none⟩)), ?_,.inl ?_,⟨G,k1⟩,k2,rfl, ?_⟩
 ·simp only[execOp,EP]
  refine CX ?_
  simp [Instr.box,wL,SG]
 ·simp only[SV.den,Env.EZ]
 ·exact⟨.box (BL (ρ x)),by show look (DK L (bs,.box (BL (ρ x)))) bs=_;rw[BC (AQ ML),AA rfl],rfl⟩
end
theorem AB4:∀ (vs cs:List SV) (off:Nat),off+vs.length<=cs.length->D_ cs off vs=cs.take off++vs++cs.drop (off+vs.length)
 | [],cs,off,h=>by simp [D_]
 |v::r,cs,off,h=>by
  simp only[O0] at h
  rw[D_,AB4 r _ _ (by rw[EW];omega)]
  have e1:(cs.set off v).take (off+1)=cs.take off++ [v]:=by
   rw[List.take_add_one,ALF (by omega),AQW (EY _)]
   rfl
  rw[e1,AQX (by omega),O0,show off+1+r.length=off+(r.length+1) from by omega]
  simp
theorem AS.A3A {c:EC TB} {G:Nat->Prop} {w:World} {E:Env} {L:AL} (h:AS c G w E L) {i j:Nat} {cs:List SV} (hi:look L i=some (.box cs)) (hj:look L j=some .L5) (off n:Nat) (hn:off+n<=cs.length):
  AS c G w (E.set j { CE:=(E.nm i).CE,off:=(E.nm i).off+off,nil:=false,len:=0,cap:=0,WE:=none,pp:=⟨(E.nm i).pp.pre++AN E (cs.take off),AN E (cs.drop (off+n))++(E.nm i).pp.post⟩ }) (DK (DK L (i,.dead)) (j,.box ((cs.drop off).take n))):=by
 obtain⟨h1,h2,h3,h4,⟨ty,h5⟩,h6⟩:=h.MK i _ hi
 have mK:j≠i:=by rintro rfl;rw[hi] at hj;cases hj
 have hk:=h.kill (AQ hi)
 have hj1:look (DK L (i,.dead)) j=some .L5:=by rw[BC (AQ hi),AD mK];exact hj
 have PB:∀ k,Al L k->k≠j:=fun k hk he=>E3 hj (he ▸ hk)
 have CP:∀ l,L7 E L l->∀ m:Nm,L7 (E.set j m) (DK (DK L (i,.dead)) (j,.box ((cs.drop off).take n))) l/\AN (E.set j m) l=AN E l:=fun l hl m=>
  L8 (fun k hk=>BZ rfl k (BZ rfl k hk)) (fun k hk=>E.HY m (PB k hk)) l hl
 have X_:=B0.2 (fun v hv=>B0.1 h6 v (AAA (AA9 hv)):∀ v∈(cs.drop off).take n,v.wf E L)
 refine hk.change (i:=j) (e' := .box ((cs.drop off).take n)) (w' :=w) (AQ hj1) (.refl _) (EY _) (fun hx=>absurd hx (E3 hj1)) rfl (fun _ _ _=>rfl) ?_ ?_ ?_
 ·intro b hb
  simp only[AX.own,BA] at hb
  subst hb
  exact⟨h4,h3⟩
 ·intro k f hkj hf b hb he
  simp only[AX.own,BA] at he
  rw[BC (AQ hi)] at hf
  by_cases kJ:k=i
  ·subst kJ;simp only[HJ,BA] at hf;subst hf;rcases hb with hb|⟨hb,_⟩|⟨hb,_⟩ <;> cases hb
  ·rw[AD kJ] at hf
   exact h.inj k i f (.box cs) b kJ hf hi hb (.inl (by simp [AX.own,he]))
 ·intro _
  refine⟨rfl,by simp [h2,AT];omega,h3,h4,⟨ty, ?_⟩,(CP _ X_ _).1⟩
  rw[(CP _ X_ _).2,h5]
  congr 2
  simp only[Nm.arr]
  congr 1
  have e:cs=cs.take off++((cs.drop off).take n++cs.drop (off+n)):=by
   rw[<-ALV,AA8,AA8]
  conv=>lhs;rw[e]
  simp only[G4,J_]
theorem AS.A5W {c:EC TB} {G:Nat->Prop} {w:World} {E:Env} {L:AL} (h:AS c G w E L) {i j:Nat} {cs kZ :List SV} (mK:i≠j) (hi:i<L.length) (hj:look L j=some (.box kZ)) (off:Nat) (hn:off+kZ.length<=cs.length)
  (hb:(E.nm j).CE=(E.nm i).CE) (U5:(E.nm i).nil=false) (ho:(E.nm i).off=(E.nm i).pp.pre.length)
  (A5X:(E.nm j).pp.pre=(E.nm i).pp.pre++AN E (cs.take off)) (A3B:(E.nm j).pp.post=AN E (cs.drop (off+kZ.length))++(E.nm i).pp.post) (hcs:L7 E L cs):
  AS c G w E (DK (DK L (j,.dead)) (i,.box (D_ cs off kZ))):=by
 obtain⟨h1,h2,h3,h4,⟨ty,h5⟩,h6⟩:=h.MK j _ hj
 have hk:=h.kill (AQ hj)
 have WI:E.set i (E.nm i)=E:=by
  refine L9 (fun k=> ?_) rfl (fun _=>rfl)
  by_cases hk:k=i
  ·subst hk;rw[Env.EZ]
  ·exact E.HY _ hk
 have:=hk.change (i:=i) (e' := .box (D_ cs off kZ)) (m:=E.nm i) (w' :=w) (by rw[GN];exact hi) (.refl _) (EY _) (fun _=>rfl) rfl (fun _ _ _=>rfl) ?_ ?_ ?_
 ·rw[WI] at this;exact this
 ·intro b UA
  simp only[AX.own,BA] at UA
  subst UA
  rw[<-hb]
  exact⟨h4,h3⟩
 ·intro k f kJ hf b UA he
  simp only[AX.own,BA] at he
  rw[BC (AQ hj)] at hf
  by_cases hkj:k=j
  ·subst hkj;simp only[HJ,BA] at hf;subst hf;rcases UA with UA |⟨UA,_⟩|⟨UA,_⟩ <;> cases UA
  ·rw[AD hkj] at hf
   exact h.inj k j f (.box kZ) b hkj hf hj UA (.inl (by simp [AX.own,hb,he]))
 ·intro _
  rw[WI]
  refine⟨U5,ho,by rw[<-hb];exact h3,by rw[<-hb];exact h4,⟨ty, ?_⟩, ?_⟩
  ·rw[<-hb,h5]
   congr 2
   simp only[Nm.arr]
   rw[AB4 _ _ _ hn,A5X,A3B]
   simp only[G4,J_]
  ·refine (L8 (fun k hk=>BZ rfl k (BZ rfl k hk)) (fun _ _=>rfl) _ ?_).1
   refine B0.2 fun u hu=> ?_
   rcases lH hu with hu|hu
   ·exact B0.1 hcs u hu
   ·exact B0.1 h6 u hu
theorem AS0 {P:Program} {fi:FnI} {base:Nat} {AR:Nat->Option AX} {args:List SV} {v:SV} {DG:C7} (h:AAU fi base AR args (fun v u=>some (v,u))=some (v,DG)) {f:FuncId} (hc:CallsV P TB f fi)
  {L:AL} (CD:∀ n e,AR n=some e->look L n=some e) {c:EC TB} {w:World} {E:Env} (hh:Hd c w E L) (hw:L7 E L args):
  Calls P f (AN E args).toArray w (fun e w' =>∃ E',e= .returned (v.den E')/\Hd c w' E' (AK L DG)/\(∀ n,Al L n->E'.nm n=E.nm n/\Al (AK L DG) n)/\E'.ds=E.ds/\v.wf E' (AK L DG)):=by
 unfold AAU at h
 split at h
 ·exact wJ h hc CD hh hw
 rename_i p i off n cs hf
 have hfp:OI AR fi.ps args 0=some (p,i,off,n,cs):=by
  split at hf
  ·exact hf
  ·cases hf
 obtain⟨-,hap,hbx⟩:=sE _ _ _ hfp
 rw[AFI] at hap
 split at h
 rotate_left
 ·cases h
 rename_i hck
 obtain⟨hn,DZ⟩:=hck
 generalize hj:base+(cnts fi.rs+WH fi.os)=j at h DZ
 have hjr:=CD _ _ (CZ DZ 0 (by omega))
 rw[NP] at hjr
 have hbi:=CD _ _ hbx
 obtain⟨G,hG⟩:=hh
 obtain⟨h1,h2,h3,h4, -,h6⟩:=hG.MK i _ hbi
 have hcv:=hG.A3A hbi hjr off n hn
 generalize hm:({ CE:=(E.nm i).CE,off:=(E.nm i).off+off,nil:=false,len:=0,cap:=0,WE:=none,pp:=⟨(E.nm i).pp.pre++AN E (cs.take off),AN E (cs.drop (off+n))++(E.nm i).pp.post⟩ }:Nm)=m at hcv
 have mK:j≠i:=by rintro rfl;rw[hbi] at hjr;cases hjr
 have PB:∀ k,Al L k->k≠j:=fun k hk he=>E3 hjr (he ▸ hk)
 have ACX:∀ k,Al L k->Al (DK (DK L (i,.dead)) (j,.box ((cs.drop off).take n))) k:=fun k hk=>BZ rfl k (BZ rfl k hk)
 have CP:∀ l,L7 E L l->L7 (E.set j m) (DK (DK L (i,.dead)) (j,.box ((cs.drop off).take n))) l/\AN (E.set j m) l=AN E l:=fun l hl=>
  L8 ACX (fun k hk=>E.HY m (PB k hk)) l hl
 have hjL:j<(DK L (i,AX.dead)).length:=by rw[GN];exact AQ hjr
 have hj2:look (DK (DK L (i,.dead)) (j,.box ((cs.drop off).take n))) j=some (.box ((cs.drop off).take n)):=by rw[BC hjL,AA rfl]
 have hi2:look (DK (DK L (i,.dead)) (j,.box ((cs.drop off).take n))) i=some .dead:=by rw[BC hjL,AD (fun he=>mK he.symm),BC (AQ hbi),AA rfl]
 rw[X7,AEY] at h
 obtain⟨⟨v0,u⟩,AM7,h⟩:=h
 simp only at h
 split at h
 rotate_left
 ·cases h
 rename_i kZ hlb
 split at h
 rotate_left
 ·cases h
 rename_i hlen
 simp only[BA,DH] at h
 obtain⟨rfl,rfl⟩:=h
 have MA:L7 (E.set j m) (DK (DK L (i,.dead)) (j,.box ((cs.drop off).take n))) (args.set p (.loc j 0)):=by
  refine B0.2 fun x hx=> ?_
  rcases ALA hx with hx|rfl
  ·exact B0.1 (CP _ hw).1 x hx
  ·exact⟨_,hj2,rfl⟩
 have lE:AN (E.set j m) (args.set p (.loc j 0))=AN E args:=by
  rw[cU]
  rw[(CP _ hw).2]
  apply WC
  intro k
  rw[vL]
  split
  ·rename_i hpk
   subst hpk
   rw[GM,hap]
   have DO:p<(AN E args).length:=by rw[AT];exact (zB.1 hap).1
   rw[AA DO,cR]
   simp only[SV.den,Env.EZ,←hm,NP]
  ·rfl
 have hr:=wJ AM7 hc (L:=DK (DK L (i,.dead)) (j,.box ((cs.drop off).take n))) (fun k e he=>by
  split at he
  ·cases he
  ·rename_i kJ
   split at he
   ·rename_i hkj
    subst hkj
    simp only[BA] at he
    subst he
    exact hj2
   ·rename_i hkj
    rw[BC hjL,AD hkj,BC (AQ hbi),AD kJ]
    exact CD _ _ he) ⟨G,hcv⟩ MA
 rw[lE] at hr
 refine hr.mono ?_
 rintro e w' ⟨E',he,⟨G',hH⟩,hnm,hds,hv⟩
 have hj3:look (AK (DK (DK L (i,.dead)) (j,.box ((cs.drop off).take n))) u) j=some (.box kZ):=wK j u (DK (DK L (i,.dead)) (j,.box ((cs.drop off).take n))) none (fun _ h=>by cases h) (by rw[GN];exact hjL) hlb
 have A0I:∀ k,Al L k->Al (AK (DK (DK L (i,.dead)) (j,.box ((cs.drop off).take n))) u) k:=fun k hk=>(hnm k (ACX k hk)).2
 have A0J:∀ k,Al L k->E'.nm k=E.nm k:=fun k hk=>by rw[(hnm k (ACX k hk)).1,E.HY m (PB k hk)]
 have hnj:E'.nm j=m:=by rw[(hnm j ⟨_,hj2,rfl⟩).1,Env.EZ]
 have T5:E'.nm i=E.nm i:=A0J i ⟨_,hbi,rfl⟩
 have hcs:∀ l,(∀ x∈l,x∈cs)->L7 E' (AK (DK (DK L (i,.dead)) (j,.box ((cs.drop off).take n))) u) l/\AN E' l=AN E l:=fun l hl=>
  L8 A0I A0J l (B0.2 fun x hx=>B0.1 h6 x (hl x hx))
 have A3C:=hH.A5W (i:=i) (j:=j) (cs:=cs) (fun he=>mK he.symm) (AQ (A0I i ⟨_,hbi,rfl⟩).choose_spec.1) hj3 off (by rw[hlen];exact hn)
  (by rw[hnj,T5,←hm]) (by rw[T5];exact h1) (by rw[T5];exact h2)
  (by rw[hnj,T5,(hcs _ (fun x hx=>AA9 hx)).2,←hm]) (by rw[hnj,T5,hlen,(hcs _ (fun x hx=>AAA hx)).2,←hm]) (hcs cs fun _ h=>h).1
 have eu:AK L ([(i,.dead),(j,.box ((cs.drop off).take n))]++(u++ [(j,.dead),(i,.box (D_ cs off kZ))]))=DK (DK (AK (DK (DK L (i,.dead)) (j,.box ((cs.drop off).take n))) u) (j,.dead)) (i,.box (D_ cs off kZ)):=by
  rw[BQ,BQ]
  rfl
 rw[eu]
 refine⟨E',he,⟨G',A3C⟩,fun k hk=>⟨A0J k hk,BZ rfl k (BZ rfl k (A0I k hk))⟩,hds, ?_⟩
 exact (Y_ (fun k hk=>BZ rfl k (BZ rfl k hk)) (fun _ _=>rfl) v0 hv).1
theorem AS1 {P:Program} {d:Bool} {fi:FnI} {base:Nat} {AR:Nat->Option AX} {args:List SV} {v:SV} {DG:C7} (h:AM8 d fi base AR args (fun v u=>some (v,u))=some (v,DG)) {f:FuncId} (hc:CallsV P TB f fi)
  {L:AL} (CD:∀ n e,AR n=some e->look L n=some e) {c:EC TB} {w:World} {E:Env} (hh:Hd c w E L) (hw:L7 E L args):
  Calls P f (AN E args).toArray w (fun e w' =>∃ E',e= .returned (v.den E')/\Hd c w' E' (AK L DG)/\(∀ n,Al L n->E'.nm n=E.nm n/\Al (AK L DG) n)/\E'.ds=E.ds/\v.wf E' (AK L DG)):=by
 cases d
 ·exact AS0 h hc CD hh hw
 ·exact ARK h hc CD hh hw
end Go.V3
namespace Go.V3
open Go
variable {TB:Tb}
section
variable {P:Program} {AR:Nat->Option AX} {L:AL}
def Rd {α:Type} (R:α->List Value->Prop) (sz:Nat) (w:World) (m:Nm) (xs:List α):Prop:=
 m.len=xs.length/\m.len<=m.cap/\(xs=[]\/(m.nil=false/\∃ arr ty fz,w.heap[m.CE]? =some (.cells arr ty fz)/\RowsIn R sz arr m.off xs))
theorem AJS {α:Type} {R:α->List Value->Prop} {sz:Nat} {w:World} {m:Nm} {xs:List α} (h:Rd R sz w m xs) {lo n:Nat} (hl:lo+n<=m.len):
  Rd R sz w (if m.cap=lo then { CE:=m.CE,off:=m.off,nil:=m.nil,len:=n,cap:=m.cap-lo,WE:=m.WE,fz:=m.fz } else { CE:=m.CE,off:=m.off+lo*sz,nil:=m.nil,len:=n,cap:=m.cap-lo,WE:=pW m.WE (lo*sz),fz:=m.fz }) (B9 xs lo n):=by
 obtain⟨h1,h0,h2⟩:=h
 have hs:tL R sz (fun _=>True) w m xs:=⟨h1,h0,h2.imp id fun ⟨a,b⟩=>⟨a,trivial,b⟩⟩
 obtain⟨k1,k0,k2⟩:=nC hs hl
 exact⟨k1,k0,k2.imp id fun ⟨a,_,b⟩=>⟨a,b⟩⟩
theorem wW {α:Type} {R:α->List Value->Prop} {sz:Nat} {c:EC TB} {G:Nat->Prop} {w:World} {m:Nm} {xs:List α} (h:Own R sz c G w m xs):Rd R sz w m xs:=by
 have hc:=gL h
 obtain⟨h1,h2,h3⟩:=h
 refine⟨h1,hc, ?_⟩
 rcases h3 with ⟨_,h4,_⟩|⟨h4,h5,h6,h7,arr,ty,h8,h9,zG⟩
 ·exact .inl h4
 ·exact .inr ⟨h4,arr,ty,_,h8,zG⟩
theorem AWK {α:Type} {R:α->List Value->Prop} {sz:Nat} {c:EC TB} {G:Nat->Prop} {w:World} {m:Nm} {xs:List α} (h:Own R sz c G w m xs) {n:Nat} (hn:n<=xs.length):Own R sz c G w (m.cut n) (B9 xs 0 n):=by
 obtain⟨h1,h2,h3⟩:=h
 have hl:(B9 xs 0 n).length=n:=by unfold B9;simp;omega
 refine⟨hl.symm,h2, ?_⟩
 rcases h3 with ⟨h4,rfl,h6⟩|⟨h4,h5,h6,h7,arr,ty,h8,h9,zG⟩
 ·exact .inl ⟨h4,by simp [B9],h6⟩
 ·refine .inr ⟨h4,h5,h6,by show _<=m.cap;omega,arr,ty,h8,h9,fun k x hk=>zG k x ?_⟩
  unfold B9 at hk
  rw[AAH,mR] at hk
  split at hk
  ·exact hk
  ·cases hk
theorem AJT {α:Type} {R:α->List Value->Prop} {sz:Nat} {G:Nat->Prop} {w:World} {m:Nm} {xs:List α} (h:tL R sz G w m xs):Rd R sz w m xs:=
 ⟨h.1,h.2.1,h.2.2.imp id fun ⟨a,_,b⟩=>⟨a,b⟩⟩
theorem AGI {md:PM} {a:Ty} {v:SV} {xs:List a.T} {ne:NE} {u:C7} (h:NX md AR a v=some (xs,ne,u)) (wD:md≠ .own) (JE:WV AR v=false) {E:Env} (hv:v.wf E L) {G:Nat->Prop} {w:World}
  (h1:∀ i t ys,AR i=some (.shr t ys)\/AR i=some (.row t ys)->Rd (Rp G w t) t.sz w (E.nm i) ys):Rd (Rp G w a) a.sz w (ne.nm E) xs:=by
 unfold NX at h
 repeat' split at h
 all_goals first|(cases h;done)|skip
 all_goals (simp only[BA,DH] at h;obtain⟨rfl,rfl,rfl⟩:=h)
 all_goals first|exact absurd rfl wD|skip
 ·exact⟨rfl,EY _,.inl rfl⟩
 ·rename_i hl he _ _;subst he;exact h1 _ _ _ (.inl hl)
 ·rename_i hl he _;subst he;exact h1 _ _ _ (.inr hl)
 ·rename_i hl he _;subst he;exact h1 _ _ _ (.inr hl)
 ·rename_i hl he _;simp [WV,hl] at JE
 ·rename_i hl he _;simp [WV,hl] at JE
 ·rename_i hl he _;simp [WV,hl] at JE
 ·rename_i hl he _;simp [WV,hl] at JE
 ·rename_i hz _ _ _ hl he _ _;subst he;subst hz;exact AJS (h1 _ _ _ (.inl hl)) hv.2
 ·rename_i hz _ _ _ hl he _;subst he;subst hz;exact AJS (h1 _ _ _ (.inr hl)) hv.2
 ·rename_i hz _ _ _ hl he _;subst he;subst hz;exact AJS (h1 _ _ _ (.inr hl)) hv.2
theorem AP1 {G:Nat->Prop} {w:World} {a:Ty} {arr:Array Value} {off:Nat} {xs:List a.T} (h:RowsIn (Rp G w a) a.sz arr off xs) (hx:xs≠[]):off+xs.length*a.sz<=arr.size:=by
 have DO:xs.length-1<xs.length:=by
  cases xs with
  |nil=>exact absurd rfl hx
  |cons _ _=>simp
 have:=h (xs.length-1) _ (OT DO)
 have h2:=sH this.length (AJ5 a)
 have e:(xs.length-1)*a.sz+a.sz=xs.length*a.sz:=by
  rw[<-Nat.succ_mul];congr 1;omega
 omega
theorem wX {G:Nat->Prop} {w:World} {a:Ty} {m:Nm} {xs:List a.T} (h:Rd (Rp G w a) a.sz w m xs):∃ cells:List Value,cells.length=xs.length*a.sz∧
  (∀ w' :World,w'.heap=w.heap->(Builtin.firstCells a.sz xs.length (.slice m.ad m.len m.cap)).run P w' = .ok cells.toArray w')∧
  (∀ (arr:Array Value) (o:Nat),BR arr o (xs.length*a.sz)=cells->RowsIn (Rp G w a) a.sz arr o xs)/\Flat cells:=by
 obtain⟨h1,h0,h2⟩:=h
 rcases h2 with rfl|⟨hn,arr,ty,fz,h3,h4⟩
 ·refine⟨[],by simp,fun w' _=> ?_,fun arr o _ i x hx=>by simp at hx,fun v hv=>by cases hv⟩
  cases had:m.ad with
  |none=>rfl
  |some p=>
   have:=run_loadCells_list (P:=P) w' p [] (fun j v hj=>by simp at hj)
   show (loadCells p (0*a.sz)).run P w' =_
   rw[AAI];exact this
 ·by_cases hx:xs=[]
  ·subst hx
   refine⟨[],by simp,fun w' _=> ?_,fun arr o _ i x hx=>by simp at hx,fun v hv=>by cases hv⟩
   cases had:m.ad with
   |none=>rfl
   |some p=>
    have:=run_loadCells_list (P:=P) w' p [] (fun j v hj=>by simp at hj)
    show (loadCells p (0*a.sz)).run P w' =_
    rw[AAI];exact this
  ·have hs:=AP1 h4 hx
   refine⟨BR arr m.off (xs.length*a.sz),by unfold BR;simp;omega,fun w' hw' => ?_,fun ZA o he=>h4.AG5 he, ?_⟩
   ·rw[<-h1]
    exact VL hn (by rw[hw'];exact h3) (by rw[h1];exact hs)
   ·intro v hv
    obtain⟨j,hj,rfl⟩:=mP hv
    have tQ:j<xs.length*a.sz:=by unfold BR at hj;simp at hj;omega
    have bD:=AJ5 a
    have hq:j / a.sz<xs.length:=Nat.div_lt_of_lt_mul (by rw[kG];exact tQ)
    have hr:=h4 (j / a.sz) _ (OT hq)
    refine Rp.AM9 a _ _ hr _ ?_
    have A0H:=Nat.div_add_mod j a.sz
    rw[kG] at A0H
    have hml:=SE j bD
    have:(BR arr (m.off+j / a.sz*a.sz) a.sz)[j%a.sz]? =(BR arr m.off (xs.length*a.sz))[j]? :=by
     rw[CJ,CJ,AA hml,AA tQ]
     congr 1;omega
    rw[OT hj] at this
    exact aZ this
theorem gY {c:EC TB} {G:Nat->Prop} {w:World} {E:Env} {bs:Nat} {a:Ty} {xs:List a.T} (CK:Bool) (hb:bs<L.length) (h:AS c G w E (DK L (bs,.row a xs))):
  Hd c w E (AK L (fin CK bs a xs))/\(∀ n,Al (DK L (bs,.row a xs)) n->Al (AK L (fin CK bs a xs)) n)/\Al (AK L (fin CK bs a xs)) bs:=by
 have CD:look (DK L (bs,.row a xs)) bs=some (.row a xs):=by rw[BC hb,AA rfl]
 cases CK with
 |true=>exact⟨⟨G,h⟩,fun _ hn=>hn,⟨_,CD,rfl⟩⟩
 |false=>exact⟨⟨_,h.freeze CD⟩,fun n hn=>BZ rfl n hn,BZ rfl bs ⟨_,CD,rfl⟩⟩
set_option maxHeartbeats 1000000 in
theorem AJU {o:Oper} {ρ:Operand->SV} {args:Array Operand} {ts:Array TypeId} (EP:o.op= .call { callee:= .builtin .append,args:=args,argTypes:=ts }) {x y:SV} (MA:args.toList.map ρ=[x,y])
  {CK:Bool} {bs:Nat} (CD:∀ n e,AR n=some e->look L n=some e) (JE:WV AR y=false) {v:SV} {DG:C7} (h:gV P AR ts.toList x y CK bs pr=some (v,DG)):E9 TB P o ρ L v DG:=by
 unfold gV at h
 split at h
 rotate_left
 ·cases h
 rename_i t0 t1 hts
 split at h
 rotate_left
 ·cases h
 rename_i e e1 hu hu1
 split at h
 rotate_left
 ·cases h
 rename_i q z a hq hz hty
 split at h
 rotate_left
 ·cases h
 rename_i hc
 obtain⟨hzl,gX,hqb,DZ⟩:=hc
 split at h
 rotate_left
 ·cases h
 rename_i xs ne1 u1 ys ne u2 uG hp2
 split at h
 rotate_left
 ·cases h
 rename_i X3
 split at h
 rotate_left
 ·cases h
 rename_i hby
 simp only[pr,BA,DH] at h
 obtain⟨rfl,rfl⟩:=h
 have ML:look L bs=some .L5:=CD _ _ (by have:=CZ DZ 0 (by omega);simpa using this)
 obtain⟨zv,hzv⟩:∃ zv,q.zero=some zv:=by
  unfold OH at hz
  rw[hq] at hz
  simp only at hz
  split at hz
  ·exact⟨_,by assumption⟩
  ·cases hz
 have hzc:zv.cells.size=a.sz:=by
  unfold OH at hz
  rw[hq] at hz
  simp only[hzv,BA] at hz
  have:z.length=zv.cells.size:=by rw[<-hz];simp
  omega
 have tR:ts[0]? =some t0:=by rw[<-kX,hts];rfl
 have tS:ts[1]? =some t1:=by rw[<-kX,hts];rfl
 refine BS fun c w E hh hw=> ?_
 obtain⟨G,hG⟩:=hh
 have XE:∀ u∈[x,y],u.wf E L:=by
  rw[<-MA]
  intro u hu
  obtain⟨k,_,rfl⟩:=DD.1 hu
  exact hw k
 have wD:PM.cY≠ .own:=by simp
 have AD0:∀ q∈u2,∃ t ys e,AR q.1=some e/\bE e t ys/\q.2= .shr t ys:=by
  intro q QW
  rcases p_ hp2 with rfl|⟨i,t',ys',e',hl,hoe,_,_,rfl⟩|hx
  ·cases QW
  ·rw[HA] at QW;subst QW;exact⟨t',ys',e',hl,hoe,rfl⟩
  ·exact absurd hx wD
 obtain⟨G1,k1,k2,k3,k4,k5⟩:=hG.known CD AD0
 have A0K:∀ i t zs,AR i=some (.shr t zs)\/AR i=some (.row t zs)->Rd (Rp G1 w t) t.sz w (E.nm i) zs:=by
  intro i t zs hl
  rcases hl with hl|hl
  ·exact AJT (k3.shr i t zs hl)
  ·have:=hG.MK i _ (CD _ _ hl)
   have h2:=wW this
   exact⟨h2.1,h2.2.1,h2.2.2.imp id fun ⟨p1,arr,ty,fz,p2,p3⟩=>⟨p1,arr,ty,fz,p2,p3.imp fun x vs hx=>Rp.mono (fun _ _=>rfl) k5 t x vs hx⟩⟩
 have A3D:Rd (Rp G1 w a) a.sz w (ne.nm E) ys:=AGI hp2 wD JE (XE y (by simp)) A0K
 have hy:=pZ hp2 E
 have nR:look (AK L u2) bs=some .L5:=by
  rw[k4 bs];exact ML
  intro hx
  obtain⟨q',QW,he⟩:=DD.1 hx
  obtain⟨t',ys',e',hl,hoe,_⟩:=AD0 q' QW
  have:=CD _ _ hl
  rw[he,ML] at this;cases this;cases hoe
 have sI:∀ (w' :World) (r:Value) (X:Value),x.den E=X->(Builtin.append_ ts o.type #[X,.slice (ne.nm E).ad (ne.nm E).len (ne.nm E).cap]).run P w= .ok r w' ->(execOp (fun x=>(ρ x).den E) o).run P w= .ok (.value r) w' :=by
  intro w' r X hX hr
  have lK :(args.map fun x=>(ρ x).den E)= #[X,.slice (ne.nm E).ad (ne.nm E).len (ne.nm E).cap]:=by
   apply aM
   have:(args.toList.map ρ).map (SV.den E)=[X,.slice (ne.nm E).ad (ne.nm E).len (ne.nm E).cap]:=by rw[MA];simp [hX,hy]
   rw[VH] at this
   rw[kD]
   exact this
  simp only[execOp,EP,resolve,invoke,Sem.run_bind,Sem.run_pure,Result.andThen,lK,builtin,hr]
 obtain⟨news,n1,n2,n3,n4⟩:=wX (P:=P) A3D
 have WX:=A3D.1
 have AMH:∀ (L2:AL) (od:Option Addr),AS c G1 w E L2->look L2 bs=some .L5->xs++ys=[]->AK L (u2++u1++fin CK bs a (xs++ys))=AK L2 (fin CK bs a (xs++ys))->(∀ n,Al L n->Al L2 n)→
   (execOp (fun x=>(ρ x).den E) o).run P w= .ok (.value (.slice od 0 0)) w→
   ∃ (w' :World) (E' :Env) (nx:Next),(execOp (fun x=>(ρ x).den E) o).run P w= .ok nx w' /\(nx= .value ((SV.NV bs).den E')\/(nx= .skip/\(SV.NV bs)=AW))∧
   Hd c w' E' (AK L (u2++u1++fin CK bs a (xs++ys)))/\(∀ n,Al L n->E'.nm n=E.nm n/\Al (AK L (u2++u1++fin CK bs a (xs++ys))) n)/\E'.ds=E.ds/\(SV.NV bs).wf E' (AK L (u2++u1++fin CK bs a (xs++ys))):=by
  intro L2 od hH hr U5 AD0 PB KG
  rw[AD0,U5]
  have h1:=hH.change (i:=bs) (e' := .row a []) (m:=⟨0,0,true,0,0,od⟩) (w' :=w) (AQ hr) (.refl _) (EY _) (fun hx=>absurd hx (E3 hr)) rfl (fun _ _ _=>rfl) (fun b hb=>by cases hb) (fun _ _ _ _ _ _ hb=>by cases hb)
   (fun _=>⟨rfl,trivial,.inl ⟨rfl,rfl,rfl⟩⟩)
  obtain⟨f1,f2,f3⟩:=gY CK (AQ hr) h1
  refine⟨w,E.set bs ⟨0,0,true,0,0,od⟩,_,KG,.inl ?_,f1,fun n hn=>⟨E.HY _ (fun he=>E3 (he ▸ ML) hn),f2 n (BZ rfl n (PB n hn))⟩,rfl,f3⟩
  simp [SV.den,Env.EZ,Nm.ad]
 have AGJ:∀ (L2:AL) (m:Nm),AS c G1 w E L2->look L2 bs=some .L5->Rd (Rp G1 w a) a.sz w m xs->x.den E= .slice m.ad m.len m.cap->m.cap<m.len+(ne.nm E).len->AK L (u2++u1++fin CK bs a (xs++ys))=AK L2 (fin CK bs a (xs++ys))->(∀ n,Al L n->Al L2 n)→
   ∃ (w' :World) (E' :Env) (nx:Next),(execOp (fun x=>(ρ x).den E) o).run P w= .ok nx w' /\(nx= .value ((SV.NV bs).den E')\/(nx= .skip/\(SV.NV bs)=AW))∧
   Hd c w' E' (AK L (u2++u1++fin CK bs a (xs++ys)))/\(∀ n,Al L n->E'.nm n=E.nm n/\Al (AK L (u2++u1++fin CK bs a (xs++ys))) n)/\E'.ds=E.ds/\(SV.NV bs).wf E' (AK L (u2++u1++fin CK bs a (xs++ys))):=by
  intro L2 m hH hr AD1 hx wY AD0 PB
  rw[AD0]
  obtain⟨olds,o1,o2,o3,o4⟩:=wX (P:=P) AD1
  obtain⟨c',hc',KG⟩:=run_append_grow (P:=P) (w:=w) (ty:=o.type) (a:=m.ad) (b:=(ne.nm E).ad) (len:=m.len) (cap:=m.cap) (n:=(ne.nm E).len) (c:=(ne.nm E).cap) (news:=news) (olds:=olds) tR tS hu hu1 hq hzv hqb
   (by rw[gX];have:=n2 w.drew rfl;rw[WX];rw[WX] at this;exact this)
   (by rw[gX];have:=o2 w.drew rfl;rw[AD1.1];rw[AD1.1] at this;exact this) wY (by rw[AD1.1,WX];exact hby)
  have bD:(olds.toArray++news.toArray++Builtin.zeroCells zv.cells (c' -(m.len+(ne.nm E).len))).size=c' *a.sz:=by
   have hzs:(Builtin.zeroCells zv.cells (c' -(m.len+(ne.nm E).len))).size=(c' -(m.len+(ne.nm E).len))*a.sz:=by
    simp [Builtin.zeroCells,hzc]
   simp only[Array.size_append,hzs,List.size_toArray,o1,n1]
   rw[<-AD1.1,←WX,←cS,←cS]
   congr 1;omega
  have QQ:RowsIn (Rp G1 w a) a.sz (olds.toArray++news.toArray++Builtin.zeroCells zv.cells (c' -(m.len+(ne.nm E).len))) 0 (xs++ys):=by
   refine RowsIn.append (o3 _ _ ?_) ?_
   rotate_left
   rw[KK]
   refine n3 _ _ ?_
   rotate_left
   ·apply WC
    intro j
    rw[CJ]
    split
    ·rw[KK,AEX (by simp;omega),AEX (by simp;omega)];simp
    ·rw[UX (by omega)]
   ·apply WC
    intro j
    rw[CJ]
    split
    ·rw[AEX (by simp;omega),AQM (by simp;omega)]
     simp only[List.size_toArray,o1,vH]
     congr 1;omega
    ·rw[UX (by omega)]
  obtain⟨h1,h2⟩:=hH.qO hr (w' :=w.drew.alloc (.cells (olds.toArray++news.toArray++Builtin.zeroCells zv.cells (c' -(m.len+(ne.nm E).len))) e)) (ob:= .cells (olds.toArray++news.toArray++Builtin.zeroCells zv.cells (c' -(m.len+(ne.nm E).len))) e (0,0)) rfl ⟨rfl,rfl,rfl⟩ (e:= .row a (xs++ys)) (m:=⟨w.heap.size,0,false,(xs++ys).length,c',none⟩) rfl ⟨rfl,rfl,rfl⟩
   (fun DZ hold hG CP=>⟨rfl,trivial,.inr ⟨rfl,hG,hold,by have:=AD1.1;simp;omega,_,e,DZ,by rw[bD];show 0+c' *a.sz<=_;omega,QQ.imp fun x vs hx=>Rp.mono CP (fun _ h=>h) a x vs hx⟩⟩)
  obtain⟨f1,f2,f3⟩:=gY CK (AQ hr) h1
  refine⟨_,_,_,sI _ _ _ hx KG,.inl ?_,f1,fun n hn=>⟨E.HY _ (fun he=>E3 (he ▸ ML) hn),f2 n (BZ rfl n (PB n hn))⟩,rfl,f3⟩
  have hlen:m.len+(ne.nm E).len=(xs++ys).length:=by rw[AD1.1,WX];simp
  simp [SV.den,Env.EZ,Nm.ad,hlen]
 rcases AFT uG with ⟨rfl,rfl,rfl,rfl⟩|⟨i,zs,nn,hl,rfl,hxs,A5Y⟩
 ·
  have hxd:SV.MJ.den E= .slice none 0 0:=rfl
  have AB5:AK L (u2++ []++fin CK bs a ([]++ys))=AK (AK L u2) (fin CK bs a ([]++ys)):=by simp [BQ]
  by_cases hn:ys=[]
  ·have mM:(ne.nm E).len=0:=by rw[WX,hn];rfl
   refine AMH (AK L u2) none k1 nR (by simp [hn]) AB5 k2 ?_
   refine sI w _ _ hxd ?_
   have:=JF (P:=P) (w:=w) (w' :=w) (ty:=o.type) (a:=none) (b:=(ne.nm E).ad) (len:=0) (cap:=0) (n:=(ne.nm E).len) (c:=(ne.nm E).cap) (news:=news) tR tS hu hu1 hq
    (by rw[gX];have:=n2 w rfl;rw[WX];rw[WX] at this;exact this) (by omega) rfl
   rw[mM] at this
   rw[mM];exact this
  ·refine AGJ (AK L u2) ⟨0,0,true,0,0,none⟩ k1 nR ⟨rfl,EY _,.inl rfl⟩ (by rw[hxd];rfl) ?_ AB5 k2
   have:0<ys.length:=by
    cases ys with
    |nil=>exact absurd rfl hn
    |cons _ _=>simp
   show 0<0+(ne.nm E).len
   omega
 ·
  have A5Z:i∉u2.map (·.1):=by
   intro hx
   obtain⟨q',QW,he⟩:=DD.1 hx
   have:=LP.1 X3 (i,.dead) (by simp)
   have:=LP.1 this q' QW
   simp [he] at this
  have hli:look (AK L u2) i=some (.row a zs):=by rw[k4 i A5Z];exact CD _ _ hl
  have AYQ:=k1.MK i _ hli
  obtain⟨hnn,A60⟩:=A5Y E L (XE x (by simp)) AYQ.1
  have C1:=AWK AYQ hnn
  rw[<-hxs] at C1
  have AD1:=wW C1
  have hxd:x.den E= .slice ((E.nm i).cut nn).ad ((E.nm i).cut nn).len ((E.nm i).cut nn).cap:=A60
  have X8:=k1.kill (AQ hli)
  have hib:i≠bs:=by
   intro he;rw[he,nR] at hli;cases hli
  have AD2:look (DK (AK L u2) (i,.dead)) bs=some .L5:=by rw[BC (AQ hli),AD (fun he=>hib he.symm)];exact nR
  have AB5:AK L (u2++ [(i,.dead)]++fin CK bs a (xs++ys))=AK (DK (AK L u2) (i,.dead)) (fin CK bs a (xs++ys)):=by rw[BQ,BQ];rfl
  have ACX:∀ n,Al L n->Al (DK (AK L u2) (i,.dead)) n:=fun n hn=>BZ rfl n (k2 n hn)
  by_cases wY:((E.nm i).cut nn).cap<((E.nm i).cut nn).len+(ne.nm E).len
  ·exact AGJ _ ((E.nm i).cut nn) X8 AD2 AD1 hxd wY AB5 ACX
  ·obtain⟨p1,p2,p3⟩:=C1
   rcases p3 with ⟨p4,p5,p6⟩|⟨p4,p5,p6,p7,arr,ty,p8,p9,p10⟩
   ·
    have A3E:((E.nm i).cut nn).len=0:=by rw[p1,p5];rfl
    have mM:(ne.nm E).len=0:=by omega
    have hyn:ys=[]:=by
     cases ys with
     |nil=>rfl
     |cons _ _=>simp at WX;omega
    refine AMH _ (E.nm i).WE X8 AD2 (by simp [p5,hyn]) AB5 ACX ?_
    refine sI w _ _ hxd ?_
    have hnw:news=[]:=by
     have:ys.length=0:=by rw[hyn];rfl
     exact AQP.1 (by rw[n1,this,AAI])
    have:=JF (P:=P) (w:=w) (w' :=w) (ty:=o.type) (a:=(E.nm i).WE) (b:=(ne.nm E).ad) (len:=0) (cap:=0) (n:=(ne.nm E).len) (c:=(ne.nm E).cap) (news:=news) tR tS hu hu1 hq
     (by rw[gX];have:=n2 w rfl;rw[WX];rw[WX] at this;exact this) (by omega) (by rw[hnw];split <;> rfl)
    rw[mM] at this
    have had:((E.nm i).cut nn).ad=(E.nm i).WE:=by unfold Nm.ad;rw[AA p4];rfl
    rw[had,A3E,p6,mM];exact this
   ·
    have AP2:((E.nm i).cut nn).len+(ne.nm E).len<=((E.nm i).cut nn).cap:=by omega
    have hmul:(xs.length+ys.length)*a.sz<=((E.nm i).cut nn).cap*a.sz:=vI _ (by omega)
    rw[cS] at hmul
    obtain⟨w',s1,s2,s3,s4,s5⟩:=LC (P:=P) (off:=((E.nm i).cut nn).off+((E.nm i).cut nn).len*a.sz) news w arr 0 (fun j hj=>((E.nm i).cut nn).ACF hj) p8 n4 (by rw[n1,p1];omega)
    rw[NP] at s4
    have KG:=JF (P:=P) (w:=w) (w' :=w') (ty:=o.type) (a:=((E.nm i).cut nn).ad) (b:=(ne.nm E).ad) (len:=((E.nm i).cut nn).len) (cap:=((E.nm i).cut nn).cap) (n:=(ne.nm E).len) (c:=(ne.nm E).cap) (news:=news) tR tS hu hu1 hq
     (by rw[gX];have:=n2 w rfl;rw[WX];rw[WX] at this;exact this) AP2 (by
      simp only[Nm.ad,p4,VF,KA]
      rw[gX,IQ];exact s1)
    have hGs:∀ b,G1 b->w'.heap[b]? =w.heap[b]? :=fun b hb=>s5 b (fun he=>p5 (he ▸ hb))
    have QQ:RowsIn (Rp G1 w' a) a.sz (uL arr (((E.nm i).cut nn).off+((E.nm i).cut nn).len*a.sz) news) ((E.nm i).cut nn).off (xs++ys):=by
     refine RowsIn.imp (R:=Rp G1 w a) ?_ (fun x vs hx=>Rp.mono hGs (fun _ h=>h) a x vs hx)
     refine RowsIn.append (p10.AG5 ?_) (n3 _ _ ?_)
     ·rw[p1,aP];omega
     ·rw[p1,←n1,dE];omega
    have h1:=X8.change (i:=bs) (e' := .row a (xs++ys)) (m:={ CE:=((E.nm i).cut nn).CE,off:=((E.nm i).cut nn).off,nil:=false,len:=(xs++ys).length,cap:=((E.nm i).cut nn).cap,WE:=none,fz:=(E.nm i).fz }) (w' :=w') (AQ AD2) s2 (by omega) (fun hx=>absurd hx (E3 AD2)) rfl
     (fun b _ hb=>s5 b (fun he=>hb (by simp [AX.own,he])))
     (fun b hb=>by simp only[AX.own,VF,KA,BA] at hb;subst hb;exact⟨p6,p5⟩)
     (by
      intro k f hk hf b hb he
      simp only[AX.own,VF,KA,BA] at he
      rw[BC (AQ hli)] at hf
      by_cases kJ:k=i
      ·subst kJ;simp only[HJ,BA] at hf;subst hf;rcases hb with hb|⟨hb,_⟩|⟨hb,_⟩ <;> cases hb
      ·rw[AD kJ] at hf
       refine k1.inj k i f _ b kJ hf hli hb (.inl ?_)
       have p4' :(E.nm i).nil=false:=p4
       have zH :(E.nm i).CE=b:=he
       simp [AX.own,p4',zH])
     (fun _=>⟨rfl,trivial,.inr ⟨rfl,p5,p6,by simp;omega,uL arr (((E.nm i).cut nn).off+((E.nm i).cut nn).len*a.sz) news,ty,by rw[SK];exact s4,by rw[SK];exact p9,QQ⟩⟩)
    obtain⟨f1,f2,f3⟩:=gY CK (AQ AD2) h1
    rw[AB5]
    refine⟨w',_,_,sI _ _ _ hxd KG,.inl ?_,f1,fun n hn=>⟨E.HY _ (fun he=>E3 (he ▸ ML) hn),f2 n (BZ rfl n (ACX n hn))⟩,rfl,f3⟩
    have hlen:((E.nm i).cut nn).len+(ne.nm E).len=(xs++ys).length:=by rw[p1,WX];simp
    simp [SV.den,Env.EZ,Nm.ad,hlen,p4]
def gZ (m:Nm):Value:= .slice m.ad m.len m.cap
theorem AJV {a:Ty} {v:SV} {xs:List (List a.T)} {u:C7} (h:AG8 AR a v=some (xs,u)):(v= .MJ/\xs=[]/\u=[])\/∃ i,v= .NV i/\AR i=some (.deep a xs none)/\u=[(i,.dead)]:=by
 unfold AG8 at h
 split at h
 ·simp only[BA,DH] at h
  obtain⟨rfl,rfl⟩:=h
  exact .inl ⟨rfl,rfl,rfl⟩
 ·split at h
  rotate_left
  ·cases h
  rename_i t xss hl
  split at h
  rotate_left
  ·cases h
  rename_i he
  subst he
  simp only[BA,DH] at h
  obtain⟨rfl,rfl⟩:=h
  exact .inr ⟨_,rfl,hl,rfl⟩
 ·cases h
structure AS2 (P:Program) (c:EC TB) (G:Nat->Prop) (w:World) (m:Nm) (l:List Nat) (a:Ty) (xs:List (List a.T)) (hs:Nat->Nm):Prop where
 rd:∀ w' :World,w'.heap=w.heap->(Builtin.firstCells 1 xs.length (.slice m.ad m.len m.cap)).run P w' = .ok ((List.range xs.length).map fun k=>gZ (hs k)).toArray w'
 cO:∀ k v,xs[k]? =some v->GG (Rp G w a) a.sz w (hs k) v/\((hs k).nil=false->(hs k).CE∈l/\(m.nil=false->(hs k).CE≠m.CE))
 dis:∀ k k',k<xs.length->k' <xs.length->k≠k' ->(hs k).nil=false->(hs k').nil=false->(hs k).CE≠(hs k').CE
theorem GD.wZ {c:EC TB} {G:Nat->Prop} {w:World} {E:Env} {m:Nm} {l:List Nat} {a:Ty} {xs:List (List a.T)} (d:GD c G w E L m l a xs none):∃ hs,AS2 P c G w m l a xs hs∧
  (m.nil=false->∃ arr ty,w.heap[m.CE]? =some (.cells arr ty (0,0))/\arr.size=m.cap/\xs.length<=m.cap/\m.CE∈l/\∀ k,k<xs.length->arr[k]? =some (gZ (hs k))):=by
 have MU:∀ k' j,(none:Option (Nat×Nat))≠some (k',j):=fun _ _ he=>by cases he
 rcases d.cs with ⟨h1,h2,h3⟩|⟨h1,h2,h3,arr,ty,hs,h4,h5,h6,h7,h8,h9⟩
 ·subst h2
  refine⟨fun _=>⟨0,0,true,0,0,none⟩,⟨fun w' hw=> ?_,fun k v hk=>by simp at hk,fun k k' hk=>by simp at hk⟩,fun hn=>by rw[h1] at hn;cases hn⟩
  cases m.ad with
  |none=>rfl
  |some p=>
   have:=run_loadCells_list (P:=P) w' p [] (fun j v hj=>by simp at hj)
   exact this
 ·refine⟨hs,⟨fun w' hw=> ?_,fun k v hk=> ?_,fun k k' hk NW I0=>h8 k k' hk NW I0 (MU _) (MU _)⟩,fun _=>⟨arr,ty,h4,h5,h3,h2,h6⟩⟩
  ·have hm:m.len=xs.length:=d.len
   have hr:=VL (P:=P) (w:=w') (size:=1) h1 (by rw[hw];exact h4) (by rw[d.off];omega)
   rw[hm] at hr ⊢
   rw[hr]
   congr 2
   apply WC
   intro j
   rw[CJ,d.off]
   by_cases hj:j<xs.length
   ·rw[AA (by omega),KK,h6 j hj]
    simp [hj,gZ]
   ·rw[AD (by omega),UX (by simp;omega)]
  ·obtain⟨q1,q2⟩:=h7 k v hk (MU k)
   exact⟨q1,fun hx=>⟨(q2 hx).1,fun _=>(q2 hx).2⟩⟩
theorem GD.join {c:EC TB} {G:Nat->Prop} {w w' :World} {E' :Env} {L' :AL} {a:Ty} {xs ys:List (List a.T)} {hx hy:Nat->Nm} {mx my m:Nm} {lx ly l:List Nat} (kx:AS2 P c G w mx lx a xs hx) (ky:AS2 P c G w my ly a ys hy)
  (h1:m.len=(xs++ys).length) (h2:m.off=0) (h3:m.nil=false) (h4:m.CE∈l) (h5:(xs++ys).length<=m.cap) (JE:l.Nodup) (ZD:∀ b∈l,¬G b/\¬c.Old b/\∃ arr ty fz,w'.heap[b]? =some (.cells arr ty fz))
  {arr:Array Value} {ty:TypeId} (ha:w'.heap[m.CE]? =some (.cells arr ty (0,0))) (bD:arr.size=m.cap)
  (hc:∀ k,k<(xs++ys).length->arr[k]? =some (gZ (if k<xs.length then hx k else hy (k-xs.length))))
  (hsx:∀ b∈lx,b∈l) (hsy:∀ b∈ly,b∈l) (X3:∀ b∈lx,b∉ly) (hmx:m.CE∈lx->mx.nil=false/\m.CE=mx.CE) (hmy:m.CE∉ly)
  (hw:∀ b,b∈lx\/b∈ly->b≠m.CE->w'.heap[b]? =w.heap[b]?) (hG:∀ b,G b->w'.heap[b]? =w.heap[b]?):GD c G w' E' L' m l a (xs++ys) none:=by
 have CU:∀ k v,xs[k]? =some v->(hx k).nil=false->(hx k).CE≠m.CE:=by
  intro k v hk hn he
  obtain⟨q1,q2⟩:=(kx.cO k v hk).2 hn
  obtain⟨r1,r2⟩:=hmx (he ▸ q1)
  exact q2 r1 (he.trans r2)
 have AS3:∀ k v,ys[k]? =some v->(hy k).nil=false->(hy k).CE≠m.CE:=by
  intro k v hk hn he
  exact hmy (he ▸ ((ky.cO k v hk).2 hn).1)
 refine⟨h1,h2,JE,ZD,.inr ⟨h3,h4,h5,arr,ty,fun k=>if k<xs.length then hx k else hy (k-xs.length),ha,bD,hc, ?_, ?_,fun _ _ he=>by cases he⟩⟩
 ·intro k v hk _
  dsimp only
  by_cases mL:k<xs.length
  ·rw[AA mL]
   rw[WA mL] at hk
   obtain⟨q1,q2⟩:=kx.cO k v hk
   exact⟨q1.mono (fun x vs hx=>Rp.mono hG (fun _ h=>h) a x vs hx) (fun hn=>hw _ (.inl (q2 hn).1) (CU k v hk hn)),fun hn=>⟨hsx _ (q2 hn).1,CU k v hk hn⟩⟩
  ·rw[AD mL]
   rw[V_ (by omega)] at hk
   obtain⟨q1,q2⟩:=ky.cO _ v hk
   exact⟨q1.mono (fun x vs hx=>Rp.mono hG (fun _ h=>h) a x vs hx) (fun hn=>hw _ (.inr (q2 hn).1) (AS3 _ v hk hn)),fun hn=>⟨hsy _ (q2 hn).1,AS3 _ v hk hn⟩⟩
 ·intro i j hi hj mK _ _ T5 hnj
  dsimp only at T5 hnj ⊢
  rw[JK] at hi hj
  by_cases hix:i<xs.length
  ·rw[AA hix] at T5 ⊢
   by_cases hjx:j<xs.length
   ·rw[AA hjx] at hnj ⊢
    exact kx.dis i j hix hjx mK T5 hnj
   ·rw[AD hjx] at hnj ⊢
    intro he
    have q1:=((kx.cO i _ (OT hix)).2 T5).1
    have q2:=((ky.cO (j-xs.length) _ (OT (by omega))).2 hnj).1
    exact X3 _ q1 (he ▸ q2)
  ·rw[AD hix] at T5 ⊢
   have q2:=((ky.cO (i-xs.length) _ (OT (by omega))).2 T5).1
   by_cases hjx:j<xs.length
   ·rw[AA hjx] at hnj ⊢
    intro he
    have q1:=((kx.cO j _ (OT hjx)).2 hnj).1
    exact X3 _ q1 (he ▸ q2)
   ·rw[AD hjx] at hnj ⊢
    exact ky.dis _ _ (by omega) (by omega) (by omega) T5 hnj
set_option maxHeartbeats 1000000 in
theorem sJ {o:Oper} {ρ:Operand->SV} {args:Array Operand} {ts:Array TypeId} (EP:o.op= .call { callee:= .builtin .append,args:=args,argTypes:=ts }) {x y:SV} (MA:args.toList.map ρ=[x,y])
  {bs:Nat} (CD:∀ n e,AR n=some e->look L n=some e) {v:SV} {DG:C7} (h:U4 P AR ts.toList x y true bs pr=some (v,DG)):E9 TB P o ρ L v DG:=by
 unfold U4 at h
 split at h
 rotate_left
 ·cases h
 rename_i t0 t1 hts
 split at h
 rotate_left
 ·cases h
 rename_i e e1 hu hu1
 split at h
 rotate_left
 ·cases h
 rename_i q a hq hz hty
 split at h
 rotate_left
 ·cases h
 rename_i hc
 obtain⟨qP,hqb,DZ⟩:=hc
 split at h
 rotate_left
 ·cases h
 rename_i xs u1 ys u2 uG hp2
 split at h
 rotate_left
 ·cases h
 rename_i X3
 split at h
 rotate_left
 ·cases h
 rename_i hby
 simp only[pr,AWB,HH,BA,DH] at h
 obtain⟨rfl,rfl⟩:=h
 have ML:look L bs=some .L5:=CD _ _ (by have:=CZ DZ 0 (by omega);simpa using this)
 obtain⟨zv,hzv,hzl⟩:∃ zv,q.zero=some zv/\zv.cells.toList.map T0=[.MJ]:=by
  unfold OH at hz
  rw[hq] at hz
  simp only at hz
  split at hz
  ·simp only[BA] at hz
   exact⟨_,by assumption,hz⟩
  ·cases hz
 have hzc:zv.cells= #[.slice none 0 0]:=by
  have:=WR (E:=⟨fun _=>⟨0,0,true,0,0,none⟩,fun _=>undef⟩) zv.cells.toList
  rw[hzl] at this
  apply aM
  exact this.symm
 have tR:ts[0]? =some t0:=by rw[<-kX,hts];rfl
 have tS:ts[1]? =some t1:=by rw[<-kX,hts];rfl
 refine BS fun c w E hh hw=> ?_
 obtain⟨G,hG⟩:=hh
 have side:∀ (v:SV) (zs:List (List a.T)) (u:C7),AG8 AR a v=some (zs,u)->∃ (m:Nm) (l:List Nat),v.den E= .slice m.ad m.len m.cap/\GD c G w E L m l a zs none∧
   ((u=[]/\l=[]/\m.nil=true)\/∃ i,look L i=some (.deep a zs none)/\u=[(i,.dead)]/\l=E.ins.l i):=by
  intro v zs u hv
  rcases AJV hv with ⟨rfl,rfl,rfl⟩|⟨i,rfl,hl,rfl⟩
  ·exact⟨⟨0,0,true,0,0,none⟩,[],rfl,⟨rfl,rfl,iF,(fun b hb=>(by cases hb)),.inl ⟨rfl,rfl,rfl⟩⟩,.inl ⟨rfl,rfl,rfl⟩⟩
  ·exact⟨E.nm i,E.ins.l i,rfl,hG.dp i _ _ _ (CD _ _ hl),.inr ⟨i,CD _ _ hl,rfl,rfl⟩⟩
 obtain⟨mx,lx,hxd,dx,sx⟩:=side x xs u1 uG
 obtain⟨my,ly,hyd,dy,sy⟩:=side y ys u2 hp2
 obtain⟨hx,kx,ax⟩:=dx.wZ (P:=P)
 obtain⟨hy,ky,ay⟩:=dy.wZ (P:=P)
 obtain⟨hH,nR,PB,AS4,AS5,hxy⟩:AS c G w E (AK L (u1++u2))/\look (AK L (u1++u2)) bs=some .L5/\(∀ n,Al L n->Al (AK L (u1++u2)) n)/\(∀ b∈lx,JH E (AK L (u1++u2)) b)/\(∀ b∈ly,JH E (AK L (u1++u2)) b)/\(∀ b∈lx,b∉ly):=by
  have w9:∀ (L:AL),AS c G w E L->∀ (i:Nat) (zs:List (List a.T)),look L i=some (.deep a zs none)->look L bs=some .L5->AS c G w E (AK L [(i,.dead)])/\look (AK L [(i,.dead)]) bs=some .L5/\(∀ n,Al L n->Al (AK L [(i,.dead)]) n)/\(∀ b∈E.ins.l i,JH E (AK L [(i,.dead)]) b):=by
   intro L hG i zs hi hb
   have hib:bs≠i:=by rintro rfl;rw[hi] at hb;cases hb
   refine⟨hG.kill (AQ hi), ?_,fun n hn=>BZ rfl n hn,fun b hbm=>lJ hG hi (AX.GF.2 hbm)⟩
   show look (DK L (i,.dead)) bs=_
   rw[BC (AQ hi),AD hib];exact hb
  rcases sx with ⟨rfl,rfl,_⟩|⟨i,hi,rfl,rfl⟩
  ·rcases sy with ⟨rfl,rfl,_⟩|⟨j,hj,rfl,rfl⟩
   ·exact⟨hG,ML,fun _ h=>h,(fun b hb=>(by cases hb)),(fun b hb=>(by cases hb)),(fun b hb=>(by cases hb))⟩
   ·obtain⟨k1,k2,k3,k4⟩:=w9 L hG j _ hj ML
    exact⟨k1,k2,k3,(fun b hb=>(by cases hb)),k4,(fun b hb=>(by cases hb))⟩
  ·obtain⟨k1,k2,k3,k4⟩:=w9 L hG i _ hi ML
   rcases sy with ⟨rfl,rfl,_⟩|⟨j,hj,rfl,rfl⟩
   ·exact⟨k1,k2,k3,k4,(fun b hb=>(by cases hb)),(fun b _ hb=>(by cases hb))⟩
   ·have mK:i≠j:=by
     rintro rfl
     have:=LP.1 X3 (i,.dead) (by simp)
     simp at this
    have hj1:look (AK L [(i,.dead)]) j=some (.deep a ys none):=by
     show look (DK L (i,.dead)) j=_
     rw[BC (AQ hi),AD (fun he=>mK he.symm)];exact hj
    obtain⟨q1,q2,q3,q4⟩:=w9 _ k1 j _ hj1 k2
    rw[<-BQ] at q1 q2 q3 q4
    refine⟨q1,q2,fun n hn=>q3 n (k3 n hn), ?_,q4,fun b hb UA =>hG.inj i j _ _ b mK hi hj (AX.GF.2 hb) (AX.GF.2 UA)⟩
    intro b hb
    rw[BQ]
    exact (k4 b hb).kill (AQ hj1)
 have sI:∀ (w' :World) (r:Value),(Builtin.append_ ts o.type #[.slice mx.ad mx.len mx.cap,.slice my.ad my.len my.cap]).run P w= .ok r w' ->(execOp (fun x=>(ρ x).den E) o).run P w= .ok (.value r) w' :=by
  intro w' r hr
  have lK :(args.map fun x=>(ρ x).den E)= #[.slice mx.ad mx.len mx.cap,.slice my.ad my.len my.cap]:=by
   apply aM
   have:(args.toList.map ρ).map (SV.den E)=[.slice mx.ad mx.len mx.cap,.slice my.ad my.len my.cap]:=by rw[MA];simp [hxd,hyd]
   rw[VH] at this
   rw[kD]
   exact this
  simp only[execOp,EP,resolve,invoke,Sem.run_bind,Sem.run_pure,Result.andThen,lK,builtin,hr]
 have wQ:=dx.len
 have mM:=dy.len
 have AJW:∀ (w' :World) (m:Nm) (l:List Nat),Rest w w' ->w.heap.size<=w'.heap.size->(∀ b,b<w.heap.size->b∉l->w'.heap[b]? =w.heap[b]?)->(∀ b∈l,JH E (AK L (u1++u2)) b)->(∀ (E' :Env) (L' :AL),GD c G w' E' L' m l a (xs++ys) none)→
   (Builtin.append_ ts o.type #[.slice mx.ad mx.len mx.cap,.slice my.ad my.len my.cap]).run P w= .ok (.slice m.ad m.len m.cap) w' →
   ∃ (w' :World) (E' :Env) (nx:Next),(execOp (fun x=>(ρ x).den E) o).run P w= .ok nx w' /\(nx= .value ((SV.NV bs).den E')\/(nx= .skip/\(SV.NV bs)=AW))∧
   Hd c w' E' (AK L (u1++u2++ [(bs,.deep a (xs++ys) none)]))/\(∀ n,Al L n->E'.nm n=E.nm n/\Al (AK L (u1++u2++ [(bs,.deep a (xs++ys) none)])) n)/\E'.ds=E.ds/\(SV.NV bs).wf E' (AK L (u1++u2++ [(bs,.deep a (xs++ys) none)])):=by
  intro w' m l r1 r2 r3 r4 r5 r6
  obtain⟨g1,g2,g3,g4⟩:=hH.AMG nR r1 r2 r3 r4 r5
  have eu:AK L (u1++u2++ [(bs,.deep a (xs++ys) none)])=DK (AK L (u1++u2)) (bs,.deep a (xs++ys) none):=by rw[BQ];rfl
  rw[eu]
  refine⟨w',_,_,sI _ _ r6,.inl ?_,⟨G,g1⟩,fun n hn=>g2 n (PB n hn),rfl,g3⟩
  simp only[SV.den];rw[g4]
 by_cases wY:mx.cap<mx.len+my.len
 ·
  obtain⟨c',hc',KG⟩:=run_append_grow (P:=P) (w:=w) (ty:=o.type) (a:=mx.ad) (b:=my.ad) (len:=mx.len) (cap:=mx.cap) (n:=my.len) (c:=my.cap) tR tS hu hu1 hq hzv hqb
   (by rw[qP,mM,←mM];have:=ky.rd w.drew rfl;rw[<-mM] at this;exact this)
   (by rw[qP,wQ,←wQ];have:=kx.rd w.drew rfl;rw[<-wQ] at this;exact this) wY (by rw[wQ,mM];exact hby)
  have hold:¬c.Old w.heap.size:=fun hx=>by have:=hx.1;have:=hG.size;omega
  have hGn:¬G w.heap.size:=fun hx=>by have:=hG.y9 _ hx;omega
  have CP:∀ (ob:Obj) (b:Nat),b<w.heap.size->((w.drew).alloc ob).heap[b]? =w.heap[b]? :=by
   intro ob b hb
   show (w.heap.push ob)[b]? =_
   rw[ACE,AD (by omega)]
  have SN:∀ (ob:Obj),((w.drew).alloc ob).heap[w.heap.size]? =some ob:=by
   intro ob
   show (w.heap.push ob)[w.heap.size]? =_
   simp
  have AD3:∀ b∈lx,b<w.heap.size:=fun b hb=>by obtain⟨_,_,_,_,_,h⟩:=dx.all b hb;exact T3 h
  have AD4:∀ b∈ly,b<w.heap.size:=fun b hb=>by obtain⟨_,_,_,_,_,h⟩:=dy.all b hb;exact T3 h
  refine AJW _ ⟨w.heap.size,0,false,mx.len+my.len,c',none⟩ (w.heap.size::(lx++ly)) ?_ ?_ ?_ ?_ ?_ KG
  ·exact⟨rfl,rfl,rfl⟩
  ·show _<=(w.heap.push _).size;simp
  ·exact fun b hb _=>CP _ b hb
  ·intro b hb
   rcases GA.1 hb with rfl|hb
   ·exact VB hH
   ·rcases FG.1 hb with hb|hb
    ·exact AS4 b hb
    ·exact AS5 b hb
  ·intro E' L'
   refine GD.join kx ky (by simp [wQ,mM]) rfl rfl (by simp) (by simp [<-wQ,←mM];exact hc') ?_ ?_ (SN _) ?_ ?_ (fun b hb=>by simp [hb]) (fun b hb=>by simp [hb]) hxy (fun hm=> ?_) (fun hm=> ?_) (fun b hb _=>CP _ b (hb.elim (AD3 b) (AD4 b))) (fun b hb=>CP _ b (hG.y9 b hb))
   ·refine WD.2 ⟨fun hm=> ?_,RF.2 ⟨dx.nd,dy.nd,fun b hb b' UA he=>hxy b hb (he ▸ UA)⟩⟩
    rcases FG.1 hm with hm|hm
    ·have:=AD3 _ hm;omega
    ·have:=AD4 _ hm;omega
   ·intro b hb
    rcases GA.1 hb with rfl|hb
    ·exact⟨hGn,hold,_,_,_,SN _⟩
    ·rcases FG.1 hb with hb|hb
     ·obtain⟨q1,q2,arr,ty,fz,q3⟩:=dx.all b hb
      exact⟨q1,q2,arr,ty,fz,by rw[CP _ b (AD3 b hb)];exact q3⟩
     ·obtain⟨q1,q2,arr,ty,fz,q3⟩:=dy.all b hb
      exact⟨q1,q2,arr,ty,fz,by rw[CP _ b (AD4 b hb)];exact q3⟩
   ·simp [Builtin.zeroCells,hzc]
    omega
   ·intro k hk
    rw[JK] at hk
    rw[AEX (by simp;omega)]
    by_cases mL:k<xs.length
    ·rw[AA mL,AEX (by simp;omega)]
     simp [ALK (show k<mx.len by omega)]
    ·rw[AD mL,AQM (by simp;omega)]
     have PW:k-xs.length<my.len:=by omega
     simp [wQ,ALK PW]
   ·have:=AD3 _ hm;simp at this
   ·have:=AD4 _ hm;simp at this
 ·
  cases WY:mx.nil with
  |true=>
   rcases dx.cs with ⟨_,h2,h3⟩|⟨h1,_⟩
   rotate_left
   ·rw[WY] at h1;cases h1
   have hx0:mx.len=0:=by rw[wQ,h2];rfl
   have hy0:my.len=0:=by omega
   have hys:ys=[]:=by
    cases ys with
    |nil=>rfl
    |cons _ _=>simp at mM;omega
   have AD5:mx.ad=mx.WE:=by simp [Nm.ad,WY]
   have KG:=JF (P:=P) (w:=w) (w' :=w) (ty:=o.type) (a:=mx.WE) (b:=my.ad) (len:=0) (cap:=0) (n:=my.len) (c:=my.cap) (news:=[]) tR tS hu hu1 hq
    (by rw[qP];have:=ky.rd w rfl;rw[<-mM,hy0] at this;rw[hy0];exact this) (by omega) (by split <;> rfl)
   refine AJW w ⟨0,0,true,0,0,mx.WE⟩ [] (.refl _) (EY _) (fun _ _ _=>rfl) (fun b hb=>(by cases hb)) (fun E' L' =>⟨by simp [h2,hys],rfl,iF,(fun b hb=>(by cases hb)),.inl ⟨rfl,by simp [h2,hys],rfl⟩⟩) ?_
   rw[AD5,hx0,h3,KG,hy0]
   rfl
  |false=>
   obtain⟨arr,ty,p1,p2,p3,p4,p5⟩:=ax WY
   have hnl:((List.range ys.length).map fun k=>gZ (hy k)).length=ys.length:=by simp
   obtain⟨w',s1,s2,s3,s4,s5⟩:=PZ (P:=P) (off:=mx.len) ((List.range ys.length).map fun k=>gZ (hy k)) w arr 0 p1 (by
     intro u hu
     obtain⟨k,_,rfl⟩:=DD.1 hu
     exact⟨fun c h=>(by cases h),fun c h=>(by cases h)⟩) (by rw[hnl];omega)
   rw[NP] at s4
   have AD5:mx.ad=some ⟨mx.CE,0,none⟩:=by simp [Nm.ad,WY,dx.off]
   have KG:=JF (P:=P) (w:=w) (w' :=w') (ty:=o.type) (a:=mx.ad) (b:=my.ad) (len:=mx.len) (cap:=mx.cap) (n:=my.len) (c:=my.cap) (news:=(List.range ys.length).map fun k=>gZ (hy k)) tR tS hu hu1 hq
    (by rw[qP];have:=ky.rd w rfl;rw[<-mM] at this ⊢;exact this) (by omega) (by
     rw[AD5]
     simp only
     rw[qP,IQ,KK,vZ];exact s1)
   have hmy:mx.CE∉ly:=hxy _ p4
   refine AJW w' ⟨mx.CE,0,false,mx.len+my.len,mx.cap,none⟩ (lx++ly) s2 (by omega) (fun b _ hb=>s5 b (fun he=>hb (by rw[he];simp [p4]))) ?_ ?_ ?_
   ·intro b hb
    rcases FG.1 hb with hb|hb
    ·exact AS4 b hb
    ·exact AS5 b hb
   ·intro E' L'
    refine GD.join kx ky (by simp [wQ,mM]) rfl rfl (by simp [p4]) (by simp [<-wQ,←mM];omega) (RF.2 ⟨dx.nd,dy.nd,fun b hb b' UA he=>hxy b hb (he ▸ UA)⟩) ?_ s4 (by rw[SK];exact p2) ?_ (fun b hb=>by simp [hb]) (fun b hb=>by simp [hb]) hxy (fun _=>⟨WY,rfl⟩) hmy (fun b _ hb=>s5 b hb) (fun b hb=>s5 b (fun he=>(dx.all _ p4).1 (he ▸ hb)))
    ·intro b hb
     by_cases hbm:b=mx.CE
     ·subst hbm
      exact⟨(dx.all _ p4).1,(dx.all _ p4).2.1,_,_,_,s4⟩
     ·rw[s5 b hbm]
      rcases FG.1 hb with hb|hb
      ·exact dx.all b hb
      ·exact dy.all b hb
    ·intro k hk
     rw[JK] at hk
     rw[KQ,hnl]
     by_cases mL:k<xs.length
     ·rw[AD (by omega),AA mL];exact p5 k mL
     ·rw[AA (by omega),AD mL]
      have:k-xs.length<ys.length:=by omega
      rw[wQ]
      simp [this]
   ·rw[KG,AD5]
    rfl
theorem E9.A61 {o:Oper} {ρ:Operand->SV} {bs:Nat} {a:Ty} {xs:List (List a.T)} {DG:C7} (h:E9 TB P o ρ L (.NV bs) DG) (hl:look (AK L DG) bs=some (.deep a xs none)):
  E9 TB P o ρ L (.NV bs) (DG++ [(bs,.shr (.slice a) xs)]):=by
 intro c w E hh hw ac next Q ha hn
 refine h c w E hh hw ac next Q ha fun E' w' k1 k2 k3 k4=> ?_
 obtain⟨G,hG⟩:=k1
 have DO:=AQ hl
 have e:AK L (DG++ [(bs,.shr (.slice a) xs)])=DK (AK L DG) (bs,.shr (.slice a) xs):=by rw[BQ];rfl
 refine hn E' w' (by rw[e];exact⟨_,hG.ACO hl⟩) (fun n hn' =>⟨(k2 n hn').1,by rw[e];exact BZ rfl n (k2 n hn').2⟩) k3 (by rw[e];exact BZ rfl bs k4)
theorem AJX {o:Oper} {ρ:Operand->SV} {args:Array Operand} {ts:Array TypeId} (EP:o.op= .call { callee:= .builtin .append,args:=args,argTypes:=ts }) {x y:SV} (MA:args.toList.map ρ=[x,y])
  {CK:Bool} {bs:Nat} (CD:∀ n e,AR n=some e->look L n=some e) {v:SV} {DG:C7} (h:U4 P AR ts.toList x y CK bs pr=some (v,DG)):E9 TB P o ρ L v DG:=by
 cases CK with
 |true=>exact sJ EP MA CD h
 |false=>
  have key:∃ (a:Ty) (xs:List (List a.T)) (u0:C7),U4 P AR ts.toList x y true bs pr=some (.NV bs,u0++ [(bs,.deep a xs none)])/\v= .NV bs/\DG=u0++ [(bs,.deep a xs none)]++ [(bs,.shr (.slice a) xs)]/\JI AR bs 1=true:=by
   unfold U4 at h ⊢
   split at h
   rotate_left
   ·cases h
   rename_i t0 t1 hts
   split at h
   rotate_left
   ·cases h
   rename_i e e1 hu hu1
   split at h
   rotate_left
   ·cases h
   rename_i q a hq hz hty
   split at h
   rotate_left
   ·cases h
   rename_i hc
   split at h
   rotate_left
   ·cases h
   rename_i xs u1 ys u2 uG hp2
   split at h
   rotate_left
   ·cases h
   rename_i X3
   split at h
   rotate_left
   ·cases h
   rename_i hby
   simp only[pr,AWB,BA,DH] at h
   obtain⟨rfl,rfl⟩:=h
   refine⟨a,xs++ys,u1++u2, ?_,rfl,rfl,hc.2.2⟩
   simp only[hc,hby,pr,AWB,HH,and_self,HJ,ne_eq,not_false_eq_true]
  obtain⟨a,xs,u0,h1,rfl,rfl,DZ⟩:=key
  have ML:look L bs=some .L5:=CD _ _ (by have:=CZ DZ 0 (by omega);simpa using this)
  refine (sJ EP MA CD h1).A61 ?_
  rw[BQ]
  show look (DK (AK L u0) (bs,.deep a xs none)) bs=_
  rw[BC (by rw[O_];exact AQ ML),AA rfl]
end
end Go.V3
namespace Go.V3
open Go
variable {TB:Tb}
section
variable {P:Program} {AR:Nat->Option AX} {L:AL}
theorem AS.AYR {c:EC TB} {G:Nat->Prop} {w w' :World} {E:Env} {L:AL} (h:AS c G w E L) {bs:Nat} (hl:look L bs=some .L5) (hr:Rest w w') (hs:w.heap.size<=w'.heap.size) {m:Nm} {t1 t2:Ty} {xs:List (List t1.T×List t2.T)}
  (hw:∀ b,b<w.heap.size->b∉m.ins.l->w'.heap[b]? =w.heap[b]?) (XU:∀ b∈m.ins.l,JH E L b) (hd:FP c G w' m t1 t2 xs):
  AS c G w' (E.set bs m) (DK L (bs,.tree t1 t2 xs))/\(∀ n,Al L n->(E.set bs m).nm n=E.nm n/\Al (DK L (bs,.tree t1 t2 xs)) n)/\Al (DK L (bs,.tree t1 t2 xs)) bs/\(E.set bs m).nm bs=m:=by
 have iH:∀ b,(AX.tree t1 t2 xs).ow (E.set bs m) bs b↔b∈m.ins.l:=fun b=>by rw[AX.gN,Env.EZ]
 refine⟨h.U0 (AQ hl) hr hs (fun hx=>absurd hx (E3 hl)) (fun k hk=>⟨E.HY _ hk,rfl⟩) rfl (fun b hb hn=>hw b hb (fun hx=>hn ((iH b).2 hx)))
  (fun b hb=>by have:=hd.all b ((iH b).1 hb);exact⟨this.2.1,this.1⟩) (fun k f _ hf b hb he=>XU b ((iH b).1 he) k f hf hb) (by rw[Env.EZ];exact hd) (fun t' xs' q he=>by cases he), ?_,⟨_,by rw[BC (AQ hl),AA rfl],rfl⟩,Env.EZ _ _ _⟩
 intro n hn
 have T5:n≠bs:=fun he=>E3 (he ▸ hl) hn
 exact⟨E.HY _ T5,BZ rfl n hn⟩
theorem AD6 {t:Ty} {v:SV} {ys:List t.T} {u:C7} (h:nL AR t v=some (ys,u)):(v= .MJ/\ys=[]/\u=[])\/∃ i,v= .NV i/\AR i=some (.row t ys)/\u=[(i,.dead)]:=by
 unfold nL at h
 split at h
 ·simp only[BA,DH] at h
  obtain⟨rfl,rfl⟩:=h
  exact .inl ⟨rfl,rfl,rfl⟩
 ·split at h
  rotate_left
  ·cases h
  rename_i t' xss hl
  split at h
  rotate_left
  ·cases h
  rename_i he
  subst he
  simp only[BA,DH] at h
  obtain⟨rfl,rfl⟩:=h
  exact .inr ⟨_,rfl,hl,rfl⟩
 ·cases h
theorem AJY {a b:Ty} {v:SV} {xs:List (List a.T×List b.T)} {u:C7} (h:AG7 AR a b v=some (xs,u)):(v= .MJ/\xs=[]/\u=[])\/∃ i,v= .NV i/\AR i=some (.tree a b xs)/\u=[(i,.dead)]:=by
 unfold AG7 at h
 split at h
 ·simp only[BA,DH] at h
  obtain⟨rfl,rfl⟩:=h
  exact .inl ⟨rfl,rfl,rfl⟩
 ·split at h
  rotate_left
  ·cases h
  rename_i t1 t2 xss hl
  split at h
  rotate_left
  ·cases h
  rename_i he
  obtain⟨rfl,rfl⟩:=he
  simp only[BA,DH] at h
  obtain⟨rfl,rfl⟩:=h
  exact .inr ⟨_,rfl,hl,rfl⟩
 ·cases h
structure AYS (c:EC TB) (G:Nat->Prop) (w:World) (E:Env) (L:AL) (t:Ty) (v:SV) (ys:List t.T) (u:C7) (m:Nm) (l:List Nat):Prop where
 den:v.den E= .slice m.ad m.len m.cap
 cO:GG (Rp G w t) t.sz w m ys
 mem:m.nil=false->m.CE∈l
 one:∀ b∈l,b=m.CE/\m.nil=false
 nd:l.Nodup
 all:∀ b∈l,¬G b/\¬c.Old b/\∃ arr ty fz,w.heap[b]? =some (.cells arr ty fz)
 src:(u=[]/\l=[])\/∃ i,look L i=some (.row t ys)/\u=[(i,.dead)]/\∀ b∈l,(AX.row t ys).ow E i b
theorem AYT {c:EC TB} {G:Nat->Prop} {w:World} {E:Env} {L:AL} (hG:AS c G w E L) (CD:∀ n e,AR n=some e->look L n=some e) {t:Ty} {v:SV} {ys:List t.T} {u:C7} (h:nL AR t v=some (ys,u)):
  ∃ m l,AYS c G w E L t v ys u m l:=by
 rcases AD6 h with ⟨rfl,rfl,rfl⟩|⟨i,rfl,hl,rfl⟩
 ·exact⟨⟨0,0,true,0,0,none⟩,[],rfl,⟨rfl,trivial,.inl ⟨rfl,rfl,rfl⟩⟩,(fun hx=>by cases hx),(fun b hb=>by cases hb),iF,(fun b hb=>by cases hb),.inl ⟨rfl,rfl⟩⟩
 ·have hi:=CD _ _ hl
  obtain⟨h1,h2,h3⟩:=hG.MK i _ hi
  cases hn:(E.nm i).nil with
  |true=>
   rcases h3 with h3|⟨h4,_⟩
   rotate_left
   ·rw[hn] at h4;cases h4
   exact⟨E.nm i,[],rfl,⟨h1,trivial,.inl h3⟩,(fun hx=>by rw[hn] at hx;cases hx),(fun b hb=>by cases hb),iF,(fun b hb=>by cases hb),.inr ⟨i,hi,rfl,fun b hb=>by cases hb⟩⟩
  |false=>
   rcases h3 with ⟨h4,_⟩|⟨h4,h5,h6,h7,arr,ty,h8,h9,zG⟩
   ·rw[hn] at h4;cases h4
   refine⟨E.nm i,[(E.nm i).CE],rfl,⟨h1,trivial,.inr ⟨h4,h7,arr,ty,h8,h9,zG⟩⟩,(fun _=>by simp),(fun b hb=>⟨by simpa using hb,hn⟩),by simp, ?_,.inr ⟨i,hi,rfl, ?_⟩⟩
   ·intro b hb
    simp only[HA] at hb;subst hb
    exact⟨h5,h6,arr,ty,_,h8⟩
   ·intro b hb
    simp only[HA] at hb;subst hb
    exact .inl (by simp [AX.own,hn])
theorem AMI {c:EC TB} {G:Nat->Prop} {w:World} {E:Env} {L:AL} (hG:AS c G w E L) {bs:Nat} (ML:look L bs=some .L5) {u1 u2:C7} {l1 l2:List Nat} {e1 e2:AX}
  (s1:(u1=[]/\l1=[])\/∃ i,look L i=some e1/\e1.IF=false/\u1=[(i,.dead)]/\∀ b∈l1,e1.ow E i b)
  (s2:(u2=[]/\l2=[])\/∃ i,look L i=some e2/\e2.IF=false/\u2=[(i,.dead)]/\∀ b∈l2,e2.ow E i b) (X3:u1.all (fun q=>u2.all (fun r=> !(r.1==q.1)))=true):
  AS c G w E (AK L (u1++u2))/\look (AK L (u1++u2)) bs=some .L5/\(∀ n,Al L n->Al (AK L (u1++u2)) n)/\(∀ b∈l1,JH E (AK L (u1++u2)) b)/\(∀ b∈l2,JH E (AK L (u1++u2)) b)/\(∀ b∈l1,b∉l2):=by
 have w9:∀ (L:AL) (l:List Nat) (e:AX),AS c G w E L->∀ (i:Nat),look L i=some e->e.IF=false->look L bs=some .L5->(∀ b∈l,e.ow E i b)->AS c G w E (AK L [(i,.dead)])/\look (AK L [(i,.dead)]) bs=some .L5/\(∀ n,Al L n->Al (AK L [(i,.dead)]) n)/\(∀ b∈l,JH E (AK L [(i,.dead)]) b):=by
  intro L l e hG i hi hr hb ho
  have hib:bs≠i:=by rintro rfl;rw[hi] at hb;cases hb;cases hr
  refine⟨hG.kill (AQ hi), ?_,fun n hn=>BZ rfl n hn,fun b hbm=>lJ hG hi (ho b hbm)⟩
  show look (DK L (i,.dead)) bs=_
  rw[BC (AQ hi),AD hib];exact hb
 rcases s1 with ⟨rfl,rfl⟩|⟨i,hi,hir,rfl,hio⟩
 ·rcases s2 with ⟨rfl,rfl⟩|⟨j,hj,hjr,rfl,hjo⟩
  ·exact⟨hG,ML,fun _ h=>h,(fun b hb=>(by cases hb)),(fun b hb=>(by cases hb)),(fun b hb=>(by cases hb))⟩
  ·obtain⟨k1,k2,k3,k4⟩:=w9 L l2 e2 hG j hj hjr ML hjo
   exact⟨k1,k2,k3,(fun b hb=>(by cases hb)),k4,(fun b hb=>(by cases hb))⟩
 ·obtain⟨k1,k2,k3,k4⟩:=w9 L l1 e1 hG i hi hir ML hio
  rcases s2 with ⟨rfl,rfl⟩|⟨j,hj,hjr,rfl,hjo⟩
  ·exact⟨k1,k2,k3,k4,(fun b hb=>(by cases hb)),(fun b _ hb=>(by cases hb))⟩
  ·have mK:i≠j:=by
    rintro rfl
    have:=LP.1 X3 (i,.dead) (by simp)
    simp at this
   have hj1:look (AK L [(i,.dead)]) j=some e2:=by
    show look (DK L (i,.dead)) j=_
    rw[BC (AQ hi),AD (fun he=>mK he.symm)];exact hj
   obtain⟨q1,q2,q3,q4⟩:=w9 _ l2 e2 k1 j hj1 hjr k2 hjo
   rw[<-BQ] at q1 q2 q3 q4
   refine⟨q1,q2,fun n hn=>q3 n (k3 n hn), ?_,q4,fun b hb UA =>hG.inj i j _ _ b mK hi hj (hio b hb) (hjo b UA)⟩
   intro b hb
   rw[BQ]
   exact (k4 b hb).kill (AQ hj1)
theorem AP3 {o:Oper} {ρ:Operand->SV} {t:TypeId} {len:Nat} {parts:Array (Nat×Operand)} (EP:o.op= .buildSlice t len parts) {bs:Nat} (CD:∀ n e,AR n=some e->look L n=some e) {v:SV} {DG:C7}
  (h:qK P AR t len (parts.toList.map fun q=>(q.1,ρ q.2)) bs pr=some (v,DG)):E9 TB P o ρ L v DG:=by
 unfold qK at h
 split at h
 rotate_left
 ·cases h
 rename_i e hu
 split at h
 rotate_left
 ·cases h
 rename_i q a b v1 v2 hq hz hty P0
 split at h
 rotate_left
 ·cases h
 rename_i y1 u1 y2 u2 uG hp2
 split at h
 rotate_left
 ·cases h
 rename_i hc
 obtain⟨qP,rfl,DZ,X3⟩:=hc
 simp only[pr,BA,DH] at h
 obtain⟨rfl,rfl⟩:=h
 have ML:look L bs=some .L5:=CD _ _ (by have:=CZ DZ 0 (by omega);simpa using this)
 refine BS fun c w E hh hw=> ?_
 obtain⟨G,hG⟩:=hh
 obtain⟨m1,l1,r1⟩:=AYT hG CD uG
 obtain⟨m2,l2,r2⟩:=AYT hG CD hp2
 have KG:=VM (E:=E) (w:=w) (cs:=[v1,v2]) EP hu hq hz (by rw[qP];rfl) (by rw[qP];omega) (by rw[P0];rfl) (by rw[P0,qP];rfl)
 have conv:∀ {t:Ty} {v:SV} {ys:List t.T} {u:C7} {m:Nm} {l:List Nat},AYS c G w E L t v ys u m l->(u=[]/\l=[])\/∃ i,look L i=some (.row t ys)/\(AX.row t ys).IF=false/\u=[(i,.dead)]/\∀ b∈l,(AX.row t ys).ow E i b:=by
  intro t v ys u m l r
  rcases r.src with hx|⟨i,h1,h2,h3⟩
  ·exact .inl hx
  ·exact .inr ⟨i,h1,rfl,h2,h3⟩
 obtain⟨hH,nR,PB,AOL,AW7,h12⟩:=AMI hG ML (conv r1) (conv r2) X3
 have hold:¬c.Old w.heap.size:=fun hx=>by have:=hx.1;have:=hG.size;omega
 have hGn:¬G w.heap.size:=fun hx=>by have:=hG.y9 _ hx;omega
 have SN:∀ (o:Obj),(w.alloc o).heap[w.heap.size]? =some o:=by
  intro o
  show (w.heap.push o)[w.heap.size]? =_
  simp
 have CP:∀ (o:Obj) (b:Nat),b<w.heap.size->(w.alloc o).heap[b]? =w.heap[b]? :=by
  intro o b hb
  show (w.heap.push o)[b]? =_
  rw[ACE,AD (by omega)]
 have AWL:∀ b∈l1,b<w.heap.size:=fun b hb=>by obtain⟨_,_,_,_,_,h⟩:=r1.all b hb;exact T3 h
 have AJ6:∀ b∈l2,b<w.heap.size:=fun b hb=>by obtain⟨_,_,_,_,_,h⟩:=r2.all b hb;exact T3 h
 have A3F:∀ {t:Ty} {m:Nm} {ys:List t.T} {l:List Nat} (ob:Obj),GG (Rp G w t) t.sz w m ys->(m.nil=false->m.CE∈l)->(∀ b∈l,b<w.heap.size)->GG (Rp G (w.alloc ob) t) t.sz (w.alloc ob) m ys:=by
  intro t m ys l ob hi hm hl
  exact hi.mono (fun x vs hx=>Rp.mono (fun b hb=>CP ob b (hG.y9 b hb)) (fun _ h=>h) t x vs hx) (fun hn=>CP ob _ (hl _ (hm hn)))
 obtain⟨g1,g2,g3,g4⟩:=hH.AYR (w' :=w.alloc (.cells (AN E [v1,v2]).toArray e)) nR ⟨rfl,rfl,rfl⟩ (by show _<=(w.heap.push _).size;simp)
  (m:={ CE:=w.heap.size,off:=0,nil:=false,len:=1,cap:=1,WE:=none,ins:=⟨w.heap.size::(l1++l2)⟩,hd:=⟨fun k=>if k=0 then m1.h0 else m2.h0⟩ }) (t1:=a) (t2:=b) (xs:=[(y1,y2)])
  (fun b hb _=>CP _ b hb)
  (by
   intro b hb
   rcases GA.1 hb with rfl|hb
   ·exact VB hH
   ·rcases FG.1 hb with hb|hb
    ·exact AOL b hb
    ·exact AW7 b hb)
  (by
   refine⟨rfl,rfl, ?_, ?_,.inr ⟨rfl,by simp,by simp,_,e,SN _,by simp [AN], ?_, ?_, ?_, ?_⟩⟩
   ·refine WD.2 ⟨fun hm=> ?_,RF.2 ⟨r1.nd,r2.nd,fun b hb b' UA he=>h12 b hb (he ▸ UA)⟩⟩
    rcases FG.1 hm with hm|hm
    ·have:=AWL _ hm;omega
    ·have:=AJ6 _ hm;omega
   ·intro b hb
    rcases GA.1 hb with rfl|hb
    ·exact⟨hGn,hold,_,_,_,SN _⟩
    ·rcases FG.1 hb with hb|hb
     ·obtain⟨q1,q2,arr,ty,fz,q3⟩:=r1.all b hb
      exact⟨q1,q2,arr,ty,fz,by rw[CP _ b (AWL b hb)];exact q3⟩
     ·obtain⟨q1,q2,arr,ty,fz,q3⟩:=r2.all b hb
      exact⟨q1,q2,arr,ty,fz,by rw[CP _ b (AJ6 b hb)];exact q3⟩
   ·intro k hk
    simp only[IC] at hk
    match k with
    |0=>simp only[AN,r1.den];rfl
    |1=>simp only[AN,r2.den];rfl
    |k+2=>omega
   ·intro k x hk
    cases k with
    |succ k=>simp at hk
    |zero=>
     simp only[QP,BA] at hk;subst hk
     exact⟨A3F _ r1.cO r1.mem AWL,A3F _ r2.cO r2.mem AJ6⟩
   ·intro k hk
    simp only[IC] at hk
    match k with
    |0=>
     intro hn
     have hm:m1.CE∈l1:=r1.mem hn
     exact⟨UY _ (FG.2 (.inl hm)),fun he=>by have:=AWL _ hm;have zH :m1.CE=w.heap.size:=he;omega⟩
    |1=>
     intro hn
     have hm:m2.CE∈l2:=r2.mem hn
     exact⟨UY _ (FG.2 (.inr hm)),fun he=>by have:=AJ6 _ hm;have zH :m2.CE=w.heap.size:=he;omega⟩
    |k+2=>omega
   ·intro k k' hk NW I0
    simp only[IC] at hk NW
    match k,k' with
    |0,0=>exact absurd rfl I0
    |1,1=>exact absurd rfl I0
    |0,1=>
     intro hn hn' he
     have zH :m1.CE=m2.CE:=he
     exact h12 _ (r1.mem hn) (zH ▸ r2.mem hn')
    |1,0=>
     intro hn hn' he
     have zH :m2.CE=m1.CE:=he
     exact h12 _ (r1.mem hn') (zH ▸ r2.mem hn)
    |k+2,_=>omega
    |_,k' +2=>omega)
 have eu:AK L (u1++u2++ [(bs,.tree a b [(y1,y2)])])=DK (AK L (u1++u2)) (bs,.tree a b [(y1,y2)]):=by rw[BQ];rfl
 rw[eu]
 refine⟨_,_,_,KG,.inl ?_,⟨G,g1⟩,fun n hn=>g2 n (PB n hn),rfl,g3⟩
 simp only[SV.den];rw[g4];rfl
theorem FP.wZ {c:EC TB} {G:Nat->Prop} {w:World} {m:Nm} {a b:Ty} {xs:List (List a.T×List b.T)} (d:FP c G w m a b xs):
  (∀ k x,xs[k]? =some x->GG (Rp G w a) a.sz w (m.hn (k*2)) x.1/\GG (Rp G w b) b.sz w (m.hn (k*2+1)) x.2)∧
  (∀ k,k<xs.length*2->(m.hn k).nil=false->(m.hn k).CE∈m.ins.l/\(m.hn k).CE≠m.CE/\m.nil=false)∧
  (∀ k k',k<xs.length*2->k' <xs.length*2->k≠k' ->(m.hn k).nil=false->(m.hn k').nil=false->(m.hn k).CE≠(m.hn k').CE)∧
  (∀ w' :World,w'.heap=w.heap->(Builtin.firstCells 2 xs.length (.slice m.ad m.len m.cap)).run P w' = .ok ((List.range (xs.length*2)).map fun k=>gZ (m.hn k)).toArray w'):=by
 rcases d.cs with ⟨h1,h2,h3⟩|⟨h1,h2,h3,arr,ty,h4,h5,h6,h7,h8,h9⟩
 ·subst h2
  refine⟨fun k x hk=>by simp at hk,fun k hk=>by simp at hk,fun k k' hk=>by simp at hk,fun w' hw=> ?_⟩
  cases m.ad with
  |none=>rfl
  |some p=>
   have:=run_loadCells_list (P:=P) w' p [] (fun j v hj=>by simp at hj)
   exact this
 ·refine⟨h7,fun k hk hn=>⟨(h8 k hk hn).1,(h8 k hk hn).2,h1⟩,h9,fun w' hw=> ?_⟩
  have hm:m.len=xs.length:=d.len
  have hr:=VL (P:=P) (w:=w') (size:=2) h1 (by rw[hw];exact h4) (by rw[d.off];omega)
  rw[hm] at hr ⊢
  rw[hr]
  congr 2
  apply WC
  intro j
  rw[CJ,d.off]
  by_cases hj:j<xs.length*2
  ·rw[AA (by omega),KK,h6 j hj]
   simp [hj,gZ]
  ·rw[AD (by omega),UX (by simp;omega)]
theorem FP.join (P:Program) {c:EC TB} {G:Nat->Prop} {w w' :World} {a b:Ty} {xs ys:List (List a.T×List b.T)} {mx my m:Nm} (dx:FP c G w mx a b xs) (dy:FP c G w my a b ys)
  (hh:∀ k,m.hn k=if k<xs.length*2 then mx.hn k else my.hn (k-xs.length*2))
  (h1:m.len=(xs++ys).length) (h2:m.off=0) (h3:m.nil=false) (h4:m.CE∈m.ins.l) (h5:(xs++ys).length<=m.cap) (JE:m.ins.l.Nodup) (ZD:∀ b∈m.ins.l,¬G b/\¬c.Old b/\∃ arr ty fz,w'.heap[b]? =some (.cells arr ty fz))
  {arr:Array Value} {ty:TypeId} (ha:w'.heap[m.CE]? =some (.cells arr ty (0,0))) (bD:arr.size=m.cap*2)
  (hc:∀ k,k<(xs++ys).length*2->arr[k]? =some (gZ (m.hn k)))
  (hsx:∀ b∈mx.ins.l,b∈m.ins.l) (hsy:∀ b∈my.ins.l,b∈m.ins.l) (X3:∀ b∈mx.ins.l,b∉my.ins.l) (hmx:m.CE∈mx.ins.l->m.CE=mx.CE) (hmy:m.CE∉my.ins.l)
  (hw:∀ b,b∈mx.ins.l\/b∈my.ins.l->b≠m.CE->w'.heap[b]? =w.heap[b]?) (hG:∀ b,G b->w'.heap[b]? =w.heap[b]?):FP c G w' m a b (xs++ys):=by
 obtain⟨x1,x2,x3,_⟩:=dx.wZ (P:=P)
 obtain⟨y1,y2,y3,_⟩:=dy.wZ (P:=P)
 have CU:∀ k,k<xs.length*2->(mx.hn k).nil=false->(mx.hn k).CE≠m.CE:=by
  intro k hk hn he
  obtain⟨q1,q2,q3⟩:=x2 k hk hn
  exact q2 (he.trans (hmx (he ▸ q1)))
 have AS3:∀ k,k<ys.length*2->(my.hn k).nil=false->(my.hn k).CE≠m.CE:=by
  intro k hk hn he
  exact hmy (he ▸ (y2 k hk hn).1)
 have hix:∀ (t:Ty) (k:Nat) (v:List t.T),k<xs.length*2->GG (Rp G w t) t.sz w (mx.hn k) v->GG (Rp G w' t) t.sz w' (mx.hn k) v:=fun t k v hk hi=>
  hi.mono (fun x vs hx=>Rp.mono hG (fun _ h=>h) t x vs hx) (fun hn=>hw _ (.inl (x2 k hk hn).1) (CU k hk hn))
 have hiy:∀ (t:Ty) (k:Nat) (v:List t.T),k<ys.length*2->GG (Rp G w t) t.sz w (my.hn k) v->GG (Rp G w' t) t.sz w' (my.hn k) v:=fun t k v hk hi=>
  hi.mono (fun x vs hx=>Rp.mono hG (fun _ h=>h) t x vs hx) (fun hn=>hw _ (.inr (y2 k hk hn).1) (AS3 k hk hn))
 refine⟨h1,h2,JE,ZD,.inr ⟨h3,h4,h5,arr,ty,ha,bD,hc, ?_, ?_, ?_⟩⟩
 ·intro k x hk
  rw[hh,hh]
  by_cases mL:k<xs.length
  ·rw[WA mL] at hk
   obtain⟨q1,q2⟩:=x1 k x hk
   rw[AA (by omega),AA (by omega)]
   exact⟨hix a _ _ (by omega) q1,hix b _ _ (by omega) q2⟩
  ·rw[V_ (by omega)] at hk
   have DO:=(zB.1 hk).1
   obtain⟨q1,q2⟩:=y1 _ x hk
   rw[AD (by omega),AD (by omega),show k*2-xs.length*2=(k-xs.length)*2 by omega,show k*2+1-xs.length*2=(k-xs.length)*2+1 by omega]
   exact⟨hiy a _ _ (by omega) q1,hiy b _ _ (by omega) q2⟩
 ·intro k hk
  rw[JK] at hk
  rw[hh]
  by_cases mL:k<xs.length*2
  ·rw[AA mL]
   exact fun hn=>⟨hsx _ (x2 k mL hn).1,CU k mL hn⟩
  ·rw[AD mL]
   exact fun hn=>⟨hsy _ (y2 _ (by omega) hn).1,AS3 _ (by omega) hn⟩
 ·intro i j hi hj mK
  rw[JK] at hi hj
  rw[hh,hh]
  by_cases hix:i<xs.length*2
  ·rw[AA hix]
   by_cases hjx:j<xs.length*2
   ·rw[AA hjx];exact x3 i j hix hjx mK
   ·rw[AD hjx]
    intro T5 hnj he
    exact X3 _ (x2 i hix T5).1 (he ▸ (y2 _ (by omega) hnj).1)
  ·rw[AD hix]
   by_cases hjx:j<xs.length*2
   ·rw[AA hjx]
    intro T5 hnj he
    exact X3 _ (x2 j hjx hnj).1 (he ▸ (y2 _ (by omega) T5).1)
   ·rw[AD hjx];exact y3 _ _ (by omega) (by omega) (by omega)
set_option maxHeartbeats 1000000 in
theorem AJZ {o:Oper} {ρ:Operand->SV} {args:Array Operand} {ts:Array TypeId} (EP:o.op= .call { callee:= .builtin .append,args:=args,argTypes:=ts }) {x y:SV} (MA:args.toList.map ρ=[x,y])
  {bs:Nat} (CD:∀ n e,AR n=some e->look L n=some e) {v:SV} {DG:C7} (h:gU P AR ts.toList x y bs pr=some (v,DG)):E9 TB P o ρ L v DG:=by
 unfold gU at h
 split at h
 rotate_left
 ·cases h
 rename_i t0 t1 hts
 split at h
 rotate_left
 ·cases h
 rename_i e e1 hu hu1
 split at h
 rotate_left
 ·cases h
 rename_i q a b hq hz hty
 split at h
 rotate_left
 ·cases h
 rename_i hc
 obtain⟨qP,hqb,DZ⟩:=hc
 split at h
 rotate_left
 ·cases h
 rename_i xs u1 ys u2 uG hp2
 split at h
 rotate_left
 ·cases h
 rename_i X3
 split at h
 rotate_left
 ·cases h
 rename_i hby
 simp only[pr,BA,DH] at h
 obtain⟨rfl,rfl⟩:=h
 have ML:look L bs=some .L5:=CD _ _ (by have:=CZ DZ 0 (by omega);simpa using this)
 obtain⟨zv,hzv,hzl⟩:∃ zv,q.zero=some zv/\zv.cells.toList.map T0=[.MJ,.MJ]:=by
  unfold OH at hz
  rw[hq] at hz
  simp only at hz
  split at hz
  ·simp only[BA] at hz
   exact⟨_,by assumption,hz⟩
  ·cases hz
 have hzc:zv.cells= #[.slice none 0 0,.slice none 0 0]:=by
  have:=WR (E:=⟨fun _=>⟨0,0,true,0,0,none⟩,fun _=>undef⟩) zv.cells.toList
  rw[hzl] at this
  apply aM
  exact this.symm
 have tR:ts[0]? =some t0:=by rw[<-kX,hts];rfl
 have tS:ts[1]? =some t1:=by rw[<-kX,hts];rfl
 refine BS fun c w E hh hw=> ?_
 obtain⟨G,hG⟩:=hh
 have side:∀ (v:SV) (zs:List (List a.T×List b.T)) (u:C7),AG7 AR a b v=some (zs,u)->∃ (m:Nm),v.den E= .slice m.ad m.len m.cap/\FP c G w m a b zs∧
   ((u=[]/\m.ins.l=[])\/∃ i,look L i=some (.tree a b zs)/\(AX.tree a b zs).IF=false/\u=[(i,.dead)]/\∀ z∈m.ins.l,(AX.tree a b zs).ow E i z):=by
  intro v zs u hv
  rcases AJY hv with ⟨rfl,rfl,rfl⟩|⟨i,rfl,hl,rfl⟩
  ·exact⟨⟨0,0,true,0,0,none⟩,rfl,⟨rfl,rfl,iF,(fun b hb=>(by cases hb)),.inl ⟨rfl,rfl,rfl⟩⟩,.inl ⟨rfl,rfl⟩⟩
  ·exact⟨E.nm i,rfl,hG.MK i _ (CD _ _ hl),.inr ⟨i,CD _ _ hl,rfl,rfl,fun z hz=>AX.gN.2 hz⟩⟩
 obtain⟨mx,hxd,dx,sx⟩:=side x xs u1 uG
 obtain⟨my,hyd,dy,sy⟩:=side y ys u2 hp2
 obtain⟨_,_,_,rx⟩:=dx.wZ (P:=P)
 obtain⟨_,_,_,ry⟩:=dy.wZ (P:=P)
 obtain⟨hH,nR,PB,AS4,AS5,hxy⟩:=AMI hG ML sx sy X3
 have sI:∀ (w' :World) (r:Value),(Builtin.append_ ts o.type #[.slice mx.ad mx.len mx.cap,.slice my.ad my.len my.cap]).run P w= .ok r w' ->(execOp (fun x=>(ρ x).den E) o).run P w= .ok (.value r) w' :=by
  intro w' r hr
  have lK :(args.map fun x=>(ρ x).den E)= #[.slice mx.ad mx.len mx.cap,.slice my.ad my.len my.cap]:=by
   apply aM
   have:(args.toList.map ρ).map (SV.den E)=[.slice mx.ad mx.len mx.cap,.slice my.ad my.len my.cap]:=by rw[MA];simp [hxd,hyd]
   rw[VH] at this
   rw[kD]
   exact this
  simp only[execOp,EP,resolve,invoke,Sem.run_bind,Sem.run_pure,Result.andThen,lK,builtin,hr]
 have wQ:=dx.len
 have mM:=dy.len
 have AJW:∀ (w' :World) (m:Nm),Rest w w' ->w.heap.size<=w'.heap.size->(∀ z,z<w.heap.size->z∉m.ins.l->w'.heap[z]? =w.heap[z]?)->(∀ z∈m.ins.l,JH E (AK L (u1++u2)) z)->FP c G w' m a b (xs++ys)→
   (Builtin.append_ ts o.type #[.slice mx.ad mx.len mx.cap,.slice my.ad my.len my.cap]).run P w= .ok (.slice m.ad m.len m.cap) w' →
   ∃ (w' :World) (E' :Env) (nx:Next),(execOp (fun x=>(ρ x).den E) o).run P w= .ok nx w' /\(nx= .value ((SV.NV bs).den E')\/(nx= .skip/\(SV.NV bs)=AW))∧
   Hd c w' E' (AK L (u1++u2++ [(bs,.tree a b (xs++ys))]))/\(∀ n,Al L n->E'.nm n=E.nm n/\Al (AK L (u1++u2++ [(bs,.tree a b (xs++ys))])) n)/\E'.ds=E.ds/\(SV.NV bs).wf E' (AK L (u1++u2++ [(bs,.tree a b (xs++ys))])):=by
  intro w' m r1 r2 r3 r4 r5 r6
  obtain⟨g1,g2,g3,g4⟩:=hH.AYR nR r1 r2 r3 r4 r5
  have eu:AK L (u1++u2++ [(bs,.tree a b (xs++ys))])=DK (AK L (u1++u2)) (bs,.tree a b (xs++ys)):=by rw[BQ];rfl
  rw[eu]
  refine⟨w',_,_,sI _ _ r6,.inl ?_,⟨G,g1⟩,fun n hn=>g2 n (PB n hn),rfl,g3⟩
  simp only[SV.den];rw[g4]
 by_cases wY:mx.cap<mx.len+my.len
 ·
  obtain⟨c',hc',KG⟩:=run_append_grow (P:=P) (w:=w) (ty:=o.type) (a:=mx.ad) (b:=my.ad) (len:=mx.len) (cap:=mx.cap) (n:=my.len) (c:=my.cap) tR tS hu hu1 hq hzv hqb
   (by rw[qP];have:=ry w.drew rfl;rw[<-mM] at this;exact this)
   (by rw[qP];have:=rx w.drew rfl;rw[<-wQ] at this;exact this) wY (by rw[wQ,mM];exact hby)
  have hold:¬c.Old w.heap.size:=fun hx=>by have:=hx.1;have:=hG.size;omega
  have hGn:¬G w.heap.size:=fun hx=>by have:=hG.y9 _ hx;omega
  have CP:∀ (ob:Obj) (z:Nat),z<w.heap.size->((w.drew).alloc ob).heap[z]? =w.heap[z]? :=by
   intro ob z hz
   show (w.heap.push ob)[z]? =_
   rw[ACE,AD (by omega)]
  have SN:∀ (ob:Obj),((w.drew).alloc ob).heap[w.heap.size]? =some ob:=by
   intro ob
   show (w.heap.push ob)[w.heap.size]? =_
   simp
  have AD3:∀ z∈mx.ins.l,z<w.heap.size:=fun z hz=>by obtain⟨_,_,_,_,_,h⟩:=dx.all z hz;exact T3 h
  have AD4:∀ z∈my.ins.l,z<w.heap.size:=fun z hz=>by obtain⟨_,_,_,_,_,h⟩:=dy.all z hz;exact T3 h
  have hhn:∀ k,(Nm.hn { CE:=w.heap.size,off:=0,nil:=false,len:=mx.len+my.len,cap:=c',WE:=none,ins:=⟨w.heap.size::(mx.ins.l++my.ins.l)⟩,hd:=⟨fun k=>if k<xs.length*2 then mx.hd.l k else my.hd.l (k-xs.length*2)⟩ } k)=if k<xs.length*2 then mx.hn k else my.hn (k-xs.length*2):=by
   intro k
   show (if k<xs.length*2 then mx.hd.l k else my.hd.l (k-xs.length*2)).nm=_
   split <;> rfl
  refine AJW _ { CE:=w.heap.size,off:=0,nil:=false,len:=mx.len+my.len,cap:=c',WE:=none,ins:=⟨w.heap.size::(mx.ins.l++my.ins.l)⟩,hd:=⟨fun k=>if k<xs.length*2 then mx.hd.l k else my.hd.l (k-xs.length*2)⟩ } ?_ ?_ ?_ ?_ ?_ KG
  ·exact⟨rfl,rfl,rfl⟩
  ·show _<=(w.heap.push _).size;simp
  ·exact fun z hz _=>CP _ z hz
  ·intro z hz
   rcases GA.1 hz with rfl|hz
   ·exact VB hH
   ·rcases FG.1 hz with hz|hz
    ·exact AS4 z hz
    ·exact AS5 z hz
  ·refine FP.join P dx dy hhn (by simp [wQ,mM]) rfl rfl (by simp) (by simp [<-wQ,←mM];exact hc') ?_ ?_ (SN _) ?_ ?_ (fun z hz=>by simp [hz]) (fun z hz=>by simp [hz]) hxy (fun hm=> ?_) (fun hm=> ?_) (fun z hz _=>CP _ z (hz.elim (AD3 z) (AD4 z))) (fun z hz=>CP _ z (hG.y9 z hz))
   ·refine WD.2 ⟨fun hm=> ?_,RF.2 ⟨dx.nd,dy.nd,fun z hz z' hz' he=>hxy z hz (he ▸ hz')⟩⟩
    rcases FG.1 hm with hm|hm
    ·have:=AD3 _ hm;omega
    ·have:=AD4 _ hm;omega
   ·intro z hz
    rcases GA.1 hz with rfl|hz
    ·exact⟨hGn,hold,_,_,_,SN _⟩
    ·rcases FG.1 hz with hz|hz
     ·obtain⟨q1,q2,arr,ty,fz,q3⟩:=dx.all z hz
      exact⟨q1,q2,arr,ty,fz,by rw[CP _ z (AD3 z hz)];exact q3⟩
     ·obtain⟨q1,q2,arr,ty,fz,q3⟩:=dy.all z hz
      exact⟨q1,q2,arr,ty,fz,by rw[CP _ z (AD4 z hz)];exact q3⟩
   ·simp [Builtin.zeroCells,hzc]
    omega
   ·intro k hk
    rw[JK] at hk
    rw[hhn,AEX (by simp;omega)]
    by_cases mL:k<xs.length*2
    ·rw[AA mL,AEX (by simp;omega)]
     simp [ALK (show k<mx.len*2 by omega)]
    ·rw[AD mL,AQM (by simp;omega)]
     have PW:k-xs.length*2<my.len*2:=by omega
     simp [wQ,ALK PW]
   ·have:=AD3 _ hm;simp at this
   ·have:=AD4 _ hm;simp at this
 ·
  rcases dx.cs with ⟨WY,h2,h3⟩|⟨WY,p4,p3,arr,ty,p1,p2,p5,_,_,_⟩
  ·have hx0:mx.len=0:=by rw[wQ,h2];rfl
   have hy0:my.len=0:=by omega
   have hys:ys=[]:=by
    cases ys with
    |nil=>rfl
    |cons _ _=>simp at mM;omega
   have AD5:mx.ad=mx.WE:=by simp [Nm.ad,WY]
   have KG:=JF (P:=P) (w:=w) (w' :=w) (ty:=o.type) (a:=mx.WE) (b:=my.ad) (len:=0) (cap:=0) (n:=my.len) (c:=my.cap) (news:=[]) tR tS hu hu1 hq
    (by rw[qP];have:=ry w rfl;rw[<-mM,hy0] at this;rw[hy0];exact this) (by omega) (by split <;> rfl)
   refine AJW w ⟨0,0,true,0,0,mx.WE⟩ (.refl _) (EY _) (fun _ _ _=>rfl) (fun z hz=>(by cases hz)) ⟨by simp [h2,hys],rfl,iF,(fun z hz=>(by cases hz)),.inl ⟨rfl,by simp [h2,hys],rfl⟩⟩ ?_
   rw[AD5,hx0,h3,KG,hy0]
   rfl
  ·have hnl:((List.range (ys.length*2)).map fun k=>gZ (my.hn k)).length=ys.length*2:=by simp
   obtain⟨w',s1,s2,s3,s4,s5⟩:=PZ (P:=P) (off:=mx.len*2) ((List.range (ys.length*2)).map fun k=>gZ (my.hn k)) w arr 0 p1 (by
     intro u hu
     obtain⟨k,_,rfl⟩:=DD.1 hu
     exact⟨fun c h=>(by cases h),fun c h=>(by cases h)⟩) (by rw[hnl];omega)
   rw[NP] at s4
   have AD5:mx.ad=some ⟨mx.CE,0,none⟩:=by simp [Nm.ad,WY,dx.off]
   have KG:=JF (P:=P) (w:=w) (w' :=w') (ty:=o.type) (a:=mx.ad) (b:=my.ad) (len:=mx.len) (cap:=mx.cap) (n:=my.len) (c:=my.cap) (news:=(List.range (ys.length*2)).map fun k=>gZ (my.hn k)) tR tS hu hu1 hq
    (by rw[qP];have:=ry w rfl;rw[<-mM] at this ⊢;exact this) (by omega) (by
     rw[AD5]
     simp only
     rw[qP,IQ,KK];exact s1)
   have hmy:mx.CE∉my.ins.l:=hxy _ p4
   have hhn:∀ k,(Nm.hn { CE:=mx.CE,off:=0,nil:=false,len:=mx.len+my.len,cap:=mx.cap,WE:=none,ins:=⟨mx.ins.l++my.ins.l⟩,hd:=⟨fun k=>if k<xs.length*2 then mx.hd.l k else my.hd.l (k-xs.length*2)⟩ } k)=if k<xs.length*2 then mx.hn k else my.hn (k-xs.length*2):=by
    intro k
    show (if k<xs.length*2 then mx.hd.l k else my.hd.l (k-xs.length*2)).nm=_
    split <;> rfl
   refine AJW w' { CE:=mx.CE,off:=0,nil:=false,len:=mx.len+my.len,cap:=mx.cap,WE:=none,ins:=⟨mx.ins.l++my.ins.l⟩,hd:=⟨fun k=>if k<xs.length*2 then mx.hd.l k else my.hd.l (k-xs.length*2)⟩ } s2 (by omega) (fun z _ hz=>s5 z (fun he=>hz (by rw[he];simp [p4]))) ?_ ?_ ?_
   ·intro z hz
    rcases FG.1 hz with hz|hz
    ·exact AS4 z hz
    ·exact AS5 z hz
   ·refine FP.join P dx dy hhn (by simp [wQ,mM]) rfl rfl (by simp [p4]) (by simp [<-wQ,←mM];omega) (RF.2 ⟨dx.nd,dy.nd,fun z hz z' hz' he=>hxy z hz (he ▸ hz')⟩) ?_ s4 (by rw[SK];exact p2) ?_ (fun z hz=>by simp [hz]) (fun z hz=>by simp [hz]) hxy (fun _=>rfl) hmy (fun z _ hz=>s5 z hz) (fun z hz=>s5 z (fun he=>(dx.all _ p4).1 (he ▸ hz)))
    ·intro z hz
     by_cases hzm:z=mx.CE
     ·subst hzm
      exact⟨(dx.all _ p4).1,(dx.all _ p4).2.1,_,_,_,s4⟩
     ·rw[s5 z hzm]
      rcases FG.1 hz with hz|hz
      ·exact dx.all z hz
      ·exact dy.all z hz
    ·intro k hk
     rw[JK] at hk
     rw[hhn,KQ,hnl]
     by_cases mL:k<xs.length*2
     ·rw[AD (by omega),AA mL];exact p5 k mL
     ·rw[AA (by omega),AD mL]
      have:k-xs.length*2<ys.length*2:=by omega
      rw[wQ]
      simp [this]
   ·rw[KG,AD5]
    rfl
end
end Go.V3
namespace Go.V3
open Go
variable {TB:Tb}
section
variable {P:Program} {AR:Nat->Option AX} {L:AL}
theorem XH {w:World} {t e:TypeId} {q:TypeInfo} {x:SV} {E:Env} {A:Option Addr} {len cap:Nat} {low high:Option SV} {h l:Option Int} {hn ln:Nat} (hu:P.underlying t=some (.slice e)) (hq:P.info? e=some q)
  (hx:x.den E= .slice A len cap) (hh:bnd high len=some (h,hn)) (hl:bnd low 0=some (l,ln)) (hb:Bd l h hn cap):
  (Instr.sliceAt t (x.den E) (low.map (SV.den E)) (high.map (SV.den E)) none).run P w= .ok (.slice (if cap=ln then A else pW A (ln*q.size)) (hn-ln) (cap-ln)) w:=by
 simp only[Instr.sliceAt,hx,Sem.run_bind,run_underlying hu,Result.andThen]
 simp only[Instr.slice,Sem.run_bind,run_underlying hu,Result.andThen,wB (E:=E) w true hh hl rfl hb,sizeOf,typeInfo]
 simp [hq,pW]
theorem AK0 {low high:Option SV} {n:Nat} {h l:Option Int} {hn ln cap:Nat} (hh:bnd high n=some (h,hn)) (hl:bnd low 0=some (l,ln)) (hb:Bd l h hn n) (hc:n<=cap):ln<=hn/\hn<=n/\Bd l h hn cap:=by
 obtain⟨b1,b2⟩:=hb
 have h2:ln<=hn:=by
  unfold bnd at hl
  cases low with
  |none=>simp only[BA,DH] at hl;obtain⟨rfl,rfl⟩:=hl;omega
  |some y=>
   simp only at hl
   split at hl
   ·simp only[BA,DH] at hl
    obtain⟨rfl,rfl⟩:=hl
    simp only at b2
    omega
   ·cases hl
 unfold bnd at hh
 cases high with
 |none=>simp only[BA,DH] at hh;obtain⟨rfl,rfl⟩:=hh;exact⟨h2,EY _,trivial,b2⟩
 |some y=>
  simp only at hh
  split at hh
  ·simp only[BA,DH] at hh
   obtain⟨rfl,rfl⟩:=hh
   simp only at b1
   exact⟨h2,by omega,⟨b1.1,by omega⟩,b2⟩
  ·cases hh
theorem AWM {α:Type} {R:α->List Value->Prop} {sz:Nat} {c:EC TB} {G:Nat->Prop} {w:World} {m:Nm} {xs:List α} (h:Own R sz c G w m xs) {lo n:Nat} (hl:lo+n<=m.len):
  Own R sz c G w (if m.cap=lo then ({ CE:=m.CE,off:=m.off,nil:=m.nil,len:=n,cap:=m.cap-lo,WE:=m.WE,fz:=m.fz }:Nm) else { CE:=m.CE,off:=m.off+lo*sz,nil:=m.nil,len:=n,cap:=m.cap-lo,WE:=pW m.WE (lo*sz),fz:=m.fz }) (B9 xs lo n):=by
 have bF:=gL h
 obtain⟨h1,h2,h3⟩:=h
 have hlen:(B9 xs lo n).length=n:=by unfold B9;simp;omega
 rcases h3 with ⟨h4,rfl,h6⟩|⟨h4,h5,h6,h7,arr,ty,h8,h9,zG⟩
 ·have hlo:lo=0/\n=0:=by simp at h1;omega
  obtain⟨rfl,rfl⟩:=hlo
  rw[AA h6]
  exact⟨by simp [B9],trivial,.inl ⟨h4,by simp [B9],by simp [h6]⟩⟩
 ·by_cases hc:m.cap=lo
  ·have hn:n=0:=by omega
   subst hn
   rw[AA hc]
   exact⟨by simp [B9],trivial,.inr ⟨h4,h5,h6,by simp [B9],arr,ty,h8,by simp only[hc,mX,AAI];omega,by intro i x hx;simp [B9] at hx⟩⟩
  ·rw[AD hc]
   have hm:(m.cap-lo)*sz+lo*sz=m.cap*sz:=by rw[<-cS];congr 1;omega
   refine⟨hlen.symm,trivial,.inr ⟨h4,h5,h6,by rw[hlen];show n<=m.cap-lo;omega,arr,ty,h8,by show m.off+lo*sz+(m.cap-lo)*sz<=_;omega,fun i x hx=> ?_⟩⟩
   simp only[B9] at hx
   rw[mR] at hx
   split at hx
   ·rw[cP] at hx
    have:=zG _ _ hx
    rw[cS] at this
    rw[O1]
    exact this
   ·cases hx
theorem AP4 {o:Oper} {ρ:Operand->SV} {t:TypeId} {x:Operand} {l h:Option Operand} (EP:o.op= .slice t x l h none) {CK:Bool} {bs:Nat} (CD:∀ n e,AR n=some e->look L n=some e) {v:SV} {DG:C7}
  (hs:qL P AR t (ρ x) (l.map ρ) (h.map ρ) CK bs pr=some (v,DG)):E9 TB P o ρ L v DG:=by
 unfold qL at hs
 split at hs
 rotate_left
 ·cases hs
 rename_i e hu
 split at hs
 rotate_left
 ·cases hs
 rename_i q i hq hx
 have AS6:∀ (E:Env) (y:Option Operand),y.map (fun x=>(ρ x).den E)=(y.map ρ).map (SV.den E):=fun E y=>by cases y <;> rfl
 split at hs
 ·rename_i a xs hl
  cases CK with
  |true=>
   simp only at hs
   split at hs
   rotate_left
   ·cases hs
   rename_i hc
   obtain⟨gX,DZ⟩:=hc
   split at hs
   rotate_left
   ·cases hs
   rename_i hh hn ll ln hhb hlb
   split at hs
   rotate_left
   ·cases hs
   rename_i hb
   simp only[pr,BA,DH] at hs
   obtain⟨rfl,rfl⟩:=hs
   have ML:look L bs=some .L5:=CD _ _ (by have:=CZ DZ 0 (by omega);simpa using this)
   have hLi:=CD _ _ hl
   refine BS fun c w E hH hw=> ?_
   obtain⟨G,hG⟩:=hH
   have zM:Own (Rp G w a) a.sz c G w (E.nm i) xs:=hG.MK i _ hLi
   have bF:=gL zM
   have hlen:=zM.1
   obtain⟨c1,c2,c3⟩:=AK0 hhb hlb hb (cap:=(E.nm i).cap) (by omega)
   have KP:=AWM zM (lo:=ln) (n:=hn-ln) (by omega)
   have hib:i≠bs:=by intro he;rw[he,ML] at hLi;cases hLi
   have X8:=hG.kill (AQ hLi)
   have AD2:look (DK L (i,.dead)) bs=some .L5:=by rw[BC (AQ hLi),AD (fun he=>hib he.symm)];exact ML
   have C1:∀ b,(AX.row a (B9 xs ln (hn-ln))).own (if (E.nm i).cap=ln then ({ CE:=(E.nm i).CE,off:=(E.nm i).off,nil:=(E.nm i).nil,len:=hn-ln,cap:=(E.nm i).cap-ln,WE:=(E.nm i).WE,fz:=(E.nm i).fz }:Nm) else { CE:=(E.nm i).CE,off:=(E.nm i).off+ln*a.sz,nil:=(E.nm i).nil,len:=hn-ln,cap:=(E.nm i).cap-ln,WE:=pW (E.nm i).WE (ln*a.sz),fz:=(E.nm i).fz })=some b->(AX.row a xs).own (E.nm i)=some b:=by
    intro b hb
    split at hb <;> exact hb
   have h1:=X8.change (i:=bs) (e' := .row a (B9 xs ln (hn-ln))) (m:=_) (w' :=w) (AQ AD2) (.refl _) (EY _) (fun hx=>absurd hx (E3 AD2)) rfl (fun _ _ _=>rfl)
    (fun b hb=>by have:=hG.QU hLi (.inl (C1 b hb));exact⟨this.2.1,this.1⟩)
    (fun k f hk hf b hb he=>by
     rw[BC (AQ hLi)] at hf
     by_cases kJ:k=i
     ·subst kJ;simp only[HJ,BA] at hf;subst hf;rcases hb with hb|⟨hb,_⟩|⟨hb,_⟩ <;> cases hb
     ·rw[AD kJ] at hf
      exact hG.inj k i f _ b kJ hf hLi hb (.inl (C1 b he)))
    (fun _=>KP)
   refine⟨w,_,_, ?_,.inl rfl,⟨G,h1⟩,fun n hn=>⟨E.HY _ (fun he=>E3 (he ▸ ML) hn),BZ rfl n (BZ rfl n hn)⟩,rfl,⟨_,by show look (DK (DK L _) _) bs=_;rw[BC (AQ AD2),AA rfl],rfl⟩⟩
   simp only[execOp,EP,ALU,AS6]
   refine CX ?_
   rw[XH (E:=E) (x:=ρ x) (A:=(E.nm i).ad) (len:=xs.length) (cap:=(E.nm i).cap) hu hq (by rw[hx];simp [SV.den,hlen]) hhb hlb c3]
   simp only[SV.den,Env.EZ]
   split
   ·rename_i hcl;simp [Nm.ad]
   ·simp only[Nm.ad,gX]
    split
    ·rfl
    ·simp [pW,IQ]
  |false=>
  simp only at hs
  split at hs
  rotate_left
  ·cases hs
  rename_i gX
  split at hs
  rotate_left
  ·cases hs
  rename_i hh hn ll ln hhb hlb
  split at hs
  rotate_left
  ·cases hs
  rename_i hb
  simp only[pr,BA,DH] at hs
  obtain⟨rfl,rfl⟩:=hs
  refine BS fun c w E hH hw=> ?_
  obtain⟨G,hG⟩:=hH
  have zM:=hG.MK i _ (CD _ _ hl)
  have bF:=gL zM
  have hlen:=zM.1
  obtain⟨c1,c2,c3⟩:=AK0 hhb hlb hb (cap:=(E.nm i).cap) (by omega)
  have WW:=hw x
  rw[hx] at WW
  refine⟨w,E,_, ?_,.inl rfl,⟨G,hG⟩,fun n hn=>⟨rfl,hn⟩,rfl,⟨WW,by omega⟩⟩
  simp only[execOp,EP,ALU,AS6]
  refine CX ?_
  rw[XH (E:=E) (x:=ρ x) (A:=(E.nm i).ad) (len:=xs.length) (cap:=(E.nm i).cap) hu hq (by rw[hx];simp [SV.den,hlen]) hhb hlb c3]
  simp [SV.den,gX]
 ·rename_i a xs hl
  split at hs
  rotate_left
  ·cases hs
  rename_i hc
  obtain⟨gX,DZ⟩:=hc
  split at hs
  rotate_left
  ·cases hs
  rename_i hh hn ll ln hhb hlb
  split at hs
  rotate_left
  ·cases hs
  rename_i hb
  simp only[pr,BA,DH] at hs
  obtain⟨rfl,rfl⟩:=hs
  have ML:look L bs=some .L5:=CD _ _ (by have:=CZ DZ 0 (by omega);simpa using this)
  refine BS fun c w E hH hw=> ?_
  obtain⟨G,hG⟩:=hH
  have zM:tL (Rp G w a) a.sz G w (E.nm i) xs:=hG.MK i _ (CD _ _ hl)
  have hlen:=zM.1
  obtain⟨c1,c2,c3⟩:=AK0 hhb hlb hb (cap:=(E.nm i).cap) (by have:=zM.2.1;omega)
  have KP:=nC zM (lo:=ln) (n:=hn-ln) (by omega)
  have h1:=hG.change (i:=bs) (e' := .shr a (B9 xs ln (hn-ln))) (m:=_) (w' :=w) (AQ ML) (.refl _) (EY _) (fun hx=>absurd hx (E3 ML)) rfl (fun _ _ _=>rfl) (fun b hb=>by cases hb) (fun _ _ _ _ _ _ hb=>by cases hb) (fun _=>KP)
  refine⟨w,_,_, ?_,.inl rfl,⟨G,h1⟩,fun n hn=>⟨E.HY _ (fun he=>E3 (he ▸ ML) hn),BZ rfl n hn⟩,rfl,⟨_,by show look (DK L _) bs=_;rw[BC (AQ ML),AA rfl],rfl⟩⟩
  simp only[execOp,EP,ALU,AS6]
  refine CX ?_
  rw[XH (E:=E) (x:=ρ x) (A:=(E.nm i).ad) (len:=xs.length) (cap:=(E.nm i).cap) hu hq (by rw[hx];simp [SV.den,hlen]) hhb hlb c3]
  simp only[SV.den,Env.EZ]
  split
  ·rename_i hcl;simp [Nm.ad]
  ·simp only[Nm.ad,gX]
   split
   ·rfl
   ·simp [pW,IQ]
 ·cases hs
theorem MW {w:World} {t e:TypeId} {q:TypeInfo} {x i:SV} {E:Env} {p:Addr} {len cap:Nat} {n:Int} (hu:P.underlying t=some (.slice e)) (hq:P.info? e=some q) (hx:x.den E= .slice (some p) len cap) (hi:idxOf i=some n)
  (h0:0<=n) (h1:n<len):(Instr.indexAt t (x.den E) (i.den E)).run P w= .ok (.pointer (some (p.add (n.toNat*q.size)))) w:=by
 obtain⟨k,hk⟩:=VA (E:=E) hi
 rw[hk,hx]
 simp [Instr.indexAt,asIntOf,run_underlying hu,sizeOf,typeInfo,hq,h0,h1]
theorem w_ {w:World} {t e:TypeId} {len:Nat} {q:TypeInfo} {x i:SV} {E:Env} {p:Addr} {n:Int} (hu:P.underlying t=some (.array len e)) (hq:P.info? e=some q) (hx:x.den E= .pointer (some p)) (hi:idxOf i=some n)
  (h0:0<=n) (h1:n<len):(Instr.indexAt t (x.den E) (i.den E)).run P w= .ok (.pointer (some (p.add (n.toNat*q.size)))) w:=by
 obtain⟨k,hk⟩:=VA (E:=E) hi
 rw[hk,hx]
 simp [Instr.indexAt,asIntOf,run_underlying hu,sizeOf,typeInfo,hq,h0,h1,Instr.sureAddr]
theorem AP5 {o:Oper} {ρ:Operand->SV} {t:TypeId} {x i:Operand} (EP:o.op= .indexAddr t x i) (CD:∀ n e,AR n=some e->look L n=some e) {v:SV} {DG:C7}
  (hs:qM P AR t (ρ x) (ρ i) pr=some (v,DG)):E9 TB P o ρ L v DG:=by
 have whole:∀ (j:Nat) (a:Ty) (xs:List a.T) (e:TypeId) (q:TypeInfo) (n:Int),P.underlying t=some (.slice e)->P.info? e=some q->idxOf (ρ i)=some n->ρ x= .NV j->(look L j=some (.row a xs)\/look L j=some (.shr a xs))->q.size=a.sz->0<=n/\n<(xs.length:Int)→
   E9 TB P o ρ L (.el j n.toNat a.sz 0) []:=by
  intro j a xs e q n hu hq hi hx hl gX hn
  refine BS fun c w E hH hw=> ?_
  obtain⟨G,hG⟩:=hH
  have WW:=hw x
  rw[hx] at WW
  have hrd:Rd (Rp G w a) a.sz w (E.nm j) xs:=by
   rcases hl with hl|hl
   ·exact wW (hG.MK j _ hl)
   ·exact AJT (hG.MK j _ hl)
  have U5:(E.nm j).nil=false:=by
   rcases hrd.2.2 with h|h
   ·rw[h] at hn;simp at hn;omega
   ·exact h.1
  refine⟨w,E,_, ?_,.inl rfl,⟨G,hG⟩,fun n hn=>⟨rfl,hn⟩,rfl,⟨WW,by rw[hrd.1];omega,U5⟩⟩
  simp only[execOp,EP]
  refine CX ?_
  rw[MW (p:=⟨(E.nm j).CE,(E.nm j).off,none⟩) hu hq (len:=(E.nm j).len) (cap:=(E.nm j).cap) (by rw[hx];simp [SV.den,Nm.ad,U5]) hi hn.1 (by rw[hrd.1];exact hn.2)]
  simp [SV.den,IQ,gX]
 unfold qM at hs
 split at hs
 ·rename_i e n hu hi
  split at hs
  ·rename_i q j hq hx
   split at hs
   ·rename_i a xs hl
    split at hs
    rotate_left
    ·cases hs
    rename_i gX
    split at hs
    rotate_left
    ·cases hs
    rename_i hn
    simp only[pr,BA,DH] at hs
    obtain⟨rfl,rfl⟩:=hs
    exact whole j a xs e q n hu hq hi hx (.inl (CD _ _ hl)) gX hn
   ·rename_i a xs hl
    split at hs
    rotate_left
    ·cases hs
    rename_i gX
    split at hs
    rotate_left
    ·cases hs
    rename_i hn
    simp only[pr,BA,DH] at hs
    obtain⟨rfl,rfl⟩:=hs
    exact whole j a xs e q n hu hq hi hx (.inr (CD _ _ hl)) gX hn
   ·rename_i a xss hh hl
    split at hs
    rotate_left
    ·cases hs
    rename_i gX
    split at hs
    rotate_left
    ·cases hs
    rename_i hn
    simp only[pr,BA,DH] at hs
    obtain⟨rfl,rfl⟩:=hs
    refine BS fun c w E hH hw=> ?_
    obtain⟨G,hG⟩:=hH
    have WW:=hw x
    rw[hx] at WW
    have hd:=hG.dp j _ _ _ (CD _ _ hl)
    have hlen:=hd.len
    have U5:(E.nm j).nil=false:=by
     rcases hd.cs with ⟨_,h2,_⟩|⟨h1,_⟩
     ·rw[h2] at hn;simp at hn;omega
     ·exact h1
    refine⟨w,E,_, ?_,.inl rfl,⟨G,hG⟩,fun n hn=>⟨rfl,hn⟩,rfl,⟨WW,by rw[hlen];omega,U5⟩⟩
    simp only[execOp,EP]
    refine CX ?_
    rw[MW (p:=⟨(E.nm j).CE,(E.nm j).off,none⟩) hu hq (len:=(E.nm j).len) (cap:=(E.nm j).cap) (by rw[hx];simp [SV.den,Nm.ad,U5]) hi hn.1 (by rw[hlen];exact hn.2)]
    simp [SV.den,IQ,gX]
   ·rename_i t1 t2 xs hl
    split at hs
    rotate_left
    ·cases hs
    rename_i gX
    split at hs
    rotate_left
    ·cases hs
    rename_i hn
    simp only[pr,BA,DH] at hs
    obtain⟨rfl,rfl⟩:=hs
    refine BS fun c w E hH hw=> ?_
    obtain⟨G,hG⟩:=hH
    have WW:=hw x
    rw[hx] at WW
    have hd:FP c G w (E.nm j) t1 t2 xs:=hG.MK j _ (CD _ _ hl)
    have hlen:=hd.len
    have U5:(E.nm j).nil=false:=by
     rcases hd.cs with ⟨_,h2,_⟩|⟨h1,_⟩
     ·rw[h2] at hn;simp at hn;omega
     ·exact h1
    refine⟨w,E,_, ?_,.inl rfl,⟨G,hG⟩,fun n hn=>⟨rfl,hn⟩,rfl,⟨WW,by rw[hlen];omega,U5⟩⟩
    simp only[execOp,EP]
    refine CX ?_
    rw[MW (p:=⟨(E.nm j).CE,(E.nm j).off,none⟩) hu hq (len:=(E.nm j).len) (cap:=(E.nm j).cap) (by rw[hx];simp [SV.den,Nm.ad,U5]) hi hn.1 (by rw[hlen];exact hn.2)]
    simp [SV.den,IQ,gX]
   ·cases hs
  ·rename_i q i' k h' hq hx
   have inner:∀ (tt:Ty) (ys:List tt.T) (hh:Nat),hh<2->h' =hh->q.size=1->0<=n/\n<(ys.length:Int)→
     (∀ (c:EC TB) (w:World) (E:Env) (G:Nat->Prop),AS c G w E L->k<(E.nm i').len->GG (Rp G w tt) tt.sz w ((E.nm i').hn (k*2+hh)) ys)->E9 TB P o ρ L (.tel i' k hh n.toNat) []:=by
    intro tt ys hh hh2 he qP hn OU
    subst he
    refine BS fun c w E hH hw=> ?_
    obtain⟨G,hG⟩:=hH
    have WW:=hw x
    rw[hx] at WW
    obtain⟨PB,hk,hq2⟩:=WW
    obtain⟨p1,_,p3⟩:=OU c w E G hG hk
    have U5:((E.nm i').hn (k*2+h')).nil=false:=by
     rcases p3 with ⟨_,p4,_⟩|⟨p4,_⟩
     ·rw[p4] at hn;simp at hn;omega
     ·exact p4
    refine⟨w,E,_, ?_,.inl rfl,⟨G,hG⟩,fun n hn=>⟨rfl,hn⟩,rfl,⟨PB,hk,hq2,by rw[p1];omega⟩⟩
    simp only[execOp,EP]
    refine CX ?_
    rw[MW (p:=⟨((E.nm i').hn (k*2+h')).CE,((E.nm i').hn (k*2+h')).off,none⟩) hu hq (len:=((E.nm i').hn (k*2+h')).len) (cap:=((E.nm i').hn (k*2+h')).cap) (by rw[hx];simp [SV.den,Nm.ad,U5]) hi hn.1 (by rw[p1];exact hn.2)]
    simp [SV.den,IQ,qP]
   unfold A0A at hs
   split at hs
   rotate_left
   ·cases hs
   rename_i t1 t2 xs hl
   have AYU:∀ (c:EC TB) (w:World) (E:Env) (G:Nat->Prop),AS c G w E L->k<(E.nm i').len→
     GG (Rp G w t1) t1.sz w ((E.nm i').hn (k*2)) (gd (.pair (.slice t1) (.slice t2)) xs k).1/\GG (Rp G w t2) t2.sz w ((E.nm i').hn (k*2+1)) (gd (.pair (.slice t1) (.slice t2)) xs k).2:=by
    intro c w E G hG hk
    have hd:FP c G w (E.nm i') t1 t2 xs:=hG.MK i' _ (CD _ _ hl)
    rw[hd.len] at hk
    rcases hd.cs with ⟨_,h2,_⟩|⟨_,_,_,_,_,_,_,_,h7,_⟩
    ·rw[h2] at hk;simp at hk
    ·refine h7 k _ ?_
     unfold gd
     rw[vE,OT hk];rfl
   split at hs
   ·split at hs
    rotate_left
    ·cases hs
    rename_i gX
    split at hs
    rotate_left
    ·cases hs
    rename_i hn
    simp only[pr,BA,DH] at hs
    obtain⟨rfl,rfl⟩:=hs
    exact inner t1 _ 0 (by omega) rfl gX.1 hn fun c w E G hG hk=>(AYU c w E G hG hk).1
   ·split at hs
    rotate_left
    ·cases hs
    rename_i gX
    split at hs
    rotate_left
    ·cases hs
    rename_i hn
    simp only[pr,BA,DH] at hs
    obtain⟨rfl,rfl⟩:=hs
    exact inner t2 _ 1 (by omega) rfl gX.1 hn fun c w E G hG hk=>(AYU c w E G hG hk).2
   ·cases hs
  ·rename_i q j lo len sz hq hx
   split at hs
   rotate_left
   ·cases hs
   rename_i a xs hl
   split at hs
   rotate_left
   ·cases hs
   rename_i gX
   split at hs
   rotate_left
   ·cases hs
   rename_i hn
   simp only[pr,BA,DH] at hs
   obtain⟨rfl,rfl⟩:=hs
   refine BS fun c w E hH hw=> ?_
   obtain⟨G,hG⟩:=hH
   have WW:=hw x
   rw[hx] at WW
   obtain⟨PB,hle⟩:=WW
   have DO:lo+n.toNat<(E.nm j).len:=by omega
   have hrd:=wW (hG.MK j _ (CD _ _ hl))
   have bF:=hrd.2.1
   have U5:(E.nm j).nil=false:=by
    rcases hrd.2.2 with h|h
    ·have:=hrd.1;rw[h] at this;simp at this;omega
    ·exact h.1
   refine⟨w,E,_, ?_,.inl rfl,⟨G,hG⟩,fun n hn=>⟨rfl,hn⟩,rfl,⟨PB,DO,U5⟩⟩
   simp only[execOp,EP]
   refine CX ?_
   have CU:¬(E.nm j).cap=lo:=by omega
   rw[MW (p:=⟨(E.nm j).CE,(E.nm j).off+lo*sz,none⟩) (len:=len) (cap:=(E.nm j).cap-lo) hu hq (by rw[hx];simp [SV.den,Nm.ad,U5,CU,pW,IQ]) hi hn.1 hn.2]
   simp [SV.den,IQ,gX.1,cS,O1]
  ·cases hs
 ·rename_i len e n hu hi
  split at hs
  ·rename_i q j k sz off hq hx
   split at hs
   ·rename_i a xs hl
    split at hs
    rotate_left
    ·cases hs
    rename_i gX
    obtain⟨q1,q2,q3,q4⟩:=gX
    split at hs
    rotate_left
    ·cases hs
    rename_i hn
    obtain⟨⟨n0,n1⟩,n2⟩:=hn
    simp only[pr,BA,DH] at hs
    obtain⟨rfl,rfl⟩:=hs
    refine BS fun c w E hH hw=> ?_
    obtain⟨G,hG⟩:=hH
    have WW:=hw x
    rw[hx] at WW
    obtain⟨PB,_,U5⟩:=WW
    have hlen:=(hG.MK j _ (CD _ _ hl)).1
    refine⟨w,E,_, ?_,.inl rfl,⟨G,hG⟩,fun n hn=>⟨rfl,hn⟩,rfl,⟨PB,by omega,U5⟩⟩
    simp only[execOp,EP]
    refine CX ?_
    rw[w_ (p:=⟨(E.nm j).CE,(E.nm j).off+(k*sz+off),none⟩) hu hq (by rw[hx];rfl) hi n0 n1]
    subst q3;subst q4
    simp [SV.den,IQ,q1]
   ·cases hs
  ·cases hs
 ·cases hs
theorem AS7 {c:EC TB} {w:World} {E:Env} (hH:Hd c w E L) (CD:∀ n e,AR n=some e->look L n=some e) {x:SV} {n:Nat} (h:ARN AR x=some n):∃ a k,x.den E= .slice a n k:=by
 obtain⟨G,hG⟩:=hH
 unfold ARN at h
 split at h
 ·simp only[BA] at h;subst h;exact⟨_,_,rfl⟩
 ·split at h
  ·rename_i i _ t xs hl
   simp only[BA] at h;subst h
   have:=(hG.MK i _ (CD _ _ hl)).1
   exact⟨(E.nm i).ad,(E.nm i).cap,by simp [SV.den,this]⟩
  ·rename_i i _ t xs hl
   simp only[BA] at h;subst h
   have:=(hG.MK i _ (CD _ _ hl)).1
   exact⟨(E.nm i).ad,(E.nm i).cap,by simp [SV.den,this]⟩
  ·rename_i i _ t xs _ hl
   simp only[BA] at h;subst h
   have:=(hG.dp i _ _ _ (CD _ _ hl)).len
   exact⟨(E.nm i).ad,(E.nm i).cap,by simp [SV.den,this]⟩
  ·rename_i i _ t1 t2 xs hl
   simp only[BA] at h;subst h
   have:=(hG.MK i _ (CD _ _ hl)).len
   exact⟨(E.nm i).ad,(E.nm i).cap,by simp [SV.den,this]⟩
  ·cases h
 ·simp only[BA] at h;subst h;exact⟨_,_,rfl⟩
 ·cases h
def A_ (P:Program) (n:FuncId) (e:Xt):Prop:=
 ∃ fn, P.funcs[n]? = some fn ∧ fn.body = none ∧ (fn.name == "runtime.NumGoroutine") = false ∧ Extern.findNext fn = none ∧ Extern.find fn = some e.sem
def Cx.Ok (P:Program) (cx:Cx):Prop:=(∀ n fi,cx.fns n=some fi->CallsV P cx.tb n fi)/\∀ n e,lk cx.exts n=some e->A_ P n e
theorem A0L {E:Env} {P:Program} (w:World) {n:FuncId} {e:Xt} (hx:A_ P n e) (args:List SV):(xtE e args).ok fun v=>(callFunc n (AN E args).toArray).run P w= .ok (.value (v.den E)) w:=by
 obtain⟨fn,h1,h2,h3,h4,h5⟩:=hx
 have KG:∀ v:Value,(e.sem (AN E args).toArray).run P w= .ok v w->(callFunc n (AN E args).toArray).run P w= .ok (.value v) w:=by
  intro v hv
  have hp:(program:Sem Program).run P w= .ok P w:=rfl
  unfold callFunc
  simp only[Sem.run_bind,hp,Result.andThen,h1,h3,h2,Option.isNone_none,HJ,VF,KA,h4,h5]
  have hm:(mark (.extern n)).run P w= .ok () w:=rfl
  rw[hm]
  simp only[hv]
  rfl
 unfold xtE
 split
 ·rename_i o i
  refine KB fun hb=>KG _ ?_
  obtain⟨b,rfl⟩:=ALB.1 hb.1
  have uJ:b<18446744073709551616:=hb.2
  show Result.ok (Value.int .u64 (b:Int)) w=_
  simp only[SV.den,tF,mT]
  rw[a9 (by omega)]
 ·rename_i b
  refine KB fun hb=>KG _ ?_
  show Result.ok (Value.int .u64 (b:Int)) w=_
  simp only[SV.den,tF]
  rw[a9 (by omega)]
 ·rename_i x
  refine BJ (KG _ ?_)
  show Result.ok (Value.float .f64 ((x.toNat:Int).toNat)) w=_
  rfl
 ·exact ok_none
theorem A0M {E:Env} {e:Xt} {args:List SV} {q:Option DP} {v:SV} (h:xtE e args=some (q,v)):v.wf E L:=by
 unfold xtE at h
 repeat' split at h
 all_goals first|(cases h;done)|(simp only[val,UZ,BA,DH] at h;rw[<-h.2];trivial)
theorem xA {kk:IntKind} (n:Int) (v:Bool):∀ (xs:List (Int×Bool)) (es:List MapEntry) (i:Nat),es.map (fun e=>(e.key,e.val))=xs.map (fun q=>((.int .i64 q.1:Value),(.bool q.2:Value)))→
  (Instr.findNow (.int kk) (.int .i64 n) es i=some none/\MS xs n=none/\X6 xs n v=xs++ [(n,v)])∨
  ∃ j b e,Instr.findNow (.int kk) (.int .i64 n) es i=some (some (i+j,.bool b))/\MS xs n=some b/\es[j]? =some e/\e.key= .int .i64 n∧
   (es.modify j fun e=>{ e with key:= .int .i64 n,val:= .bool v }).map (fun e=>(e.key,e.val))=(X6 xs n v).map (fun q=>((.int .i64 q.1:Value),(.bool q.2:Value)))
 | [],[],_,_=> .inl ⟨rfl,rfl,rfl⟩
 | [],_::_,_,h=>by simp at h
 |_::_,[],_,h=>by simp at h
 |(a,b)::r,e::es,i,h=>by
  simp only[MN,mS,DH] at h
  obtain⟨⟨h1,h2⟩,h3⟩:=h
  have hs:Instr.sameNow (.int kk) (.int .i64 n) e.key=some (n==a):=by rw[h1];simp [Instr.sameNow]
  by_cases hna:n=a
  ·subst hna
   refine .inr ⟨0,b,e, ?_,by simp [MS],rfl,h1, ?_⟩
   ·simp [Instr.findNow,hs,h2]
   ·simp [X6,h3]
  ·have hs' :Instr.sameNow (.int kk) (.int .i64 n) e.key=some false:=by rw[hs];simp [hna]
   rcases xA (kk:=kk) n v r es (i+1) h3 with ⟨k1,k2,k3⟩|⟨j,b',e',k1,k2,k3,k4,k5⟩
   ·refine .inl ⟨by simp [Instr.findNow,hs',k1],by simp [MS,hna,k2],by simp [X6,hna,k3]⟩
   ·refine .inr ⟨j+1,b',e', ?_,by simp [MS,hna,k2],by simpa using k3,k4, ?_⟩
    ·simp only[Instr.findNow,hs',k1]
     congr 3;omega
    ·simp only[X6,AD hna,List.modify_succ_cons,MN,k5,h1,h2]
theorem sK {t:TypeId} (h:ACU P t=true):∃ k e kk,P.underlying t=some (.map k e)/\P.underlying k=some (.int kk)/\∀ w:World,(zeroValue e).run P w= .ok (.bool false) w:=by
 unfold ACU at h
 split at h
 ·rename_i k e hu
  split at h
  ·rename_i kk q h1 h2
   split at h
   ·rename_i h3
    exact⟨k,e,kk,hu,h1,fun w=>by simp [zeroValue,typeInfo,h2,h3]⟩
   ·cases h
  ·cases h
 ·cases h
theorem lL {w:World} {r:Nat} {es:Array MapEntry} {ck:Nat} (h:w.heap[r]? =some (.map es ck)):(getObj r).run P w= .ok (.map es ck) w:=by simp [getObj,Sem.run,h]
theorem run_checkKey {k:TypeId} {kk:IntKind} (hk:P.underlying k=some (.int kk)) (em:Bool) (v:Value) (w:World):(Instr.checkKey em 10000 k v).run P w= .ok () w:=by
 rw[show (10000:Nat)=9999+1 from rfl,Instr.checkKey]
 simp [run_underlying hk]
theorem AGK {o:Oper} {ρ:Operand->SV} {t:TypeId} (EP:o.op= .makeMap t none) {bs:Nat} (CD:∀ n e,AR n=some e->look L n=some e) {v:SV} {DG:C7}
  (h:nM AR bs pr=some (v,DG)):E9 TB P o ρ L v DG:=by
 unfold nM at h
 split at h
 rotate_left
 ·cases h
 rename_i DZ
 have ML:look L bs=some .L5:=CD _ _ (by have:=CZ DZ 0 (by omega);simpa using this)
 simp only[pr,BA,DH] at h
 obtain⟨rfl,rfl⟩:=h
 refine BS fun c w E hh hw=> ?_
 obtain⟨G,hG⟩:=hh
 obtain⟨k1,k2⟩:=hG.qO ML (w' :=w.alloc (.map #[] 0)) (ob:= .map #[] 0) rfl ⟨rfl,rfl,rfl⟩ (e:= .map []) (m:=⟨w.heap.size,0,false,0,0,none⟩) rfl ⟨rfl,rfl,rfl⟩
  (fun DZ hold hG CP=>⟨rfl,rfl,hG,hold,_,_,DZ,rfl⟩)
 refine⟨w.alloc (.map #[] 0),_,.value (.map (some w.heap.size)), ?_,.inl ?_,⟨G,k1⟩,k2,rfl, ?_⟩
 ·simp only[execOp,EP]
  refine CX ?_
  rfl
 ·simp only[SV.den,Env.EZ]
 ·exact⟨.map [],by show look (DK L (bs,.map [])) bs=_;rw[BC (AQ ML),AA rfl],rfl⟩
theorem lM (s:ByteArray):(lG s).length=s.size:=by
 unfold lG;simp
theorem AB6 {e:TypeId} (h:AWC P e=true):P.underlying e=some (.int .u8):=by
 unfold AWC at h
 split at h
 ·assumption
 ·cases h
theorem AS8 {G:Nat->Prop} {w:World} {xs:List Int} {cells:List Value} (hl:cells.length=xs.length) (h:RowsIn (Rp G w (.int .u8)) 1 cells.toArray 0 xs):cells=xs.map (Value.int .u8):=by
 apply WC
 intro j
 rw[AFB]
 rcases IA j xs.length with hj|hj
 ·have h1:=h j xs[j] (OT hj)
  have h2:BR cells.toArray (0+j*1) 1=[.int .u8 xs[j]]:=h1
  have h3:(BR cells.toArray (0+j*1) 1)[0]? =some (.int .u8 xs[j]):=by rw[h2];rfl
  rw[CJ,AA (by omega)] at h3
  rw[OT hj,cR,←h3]
  simp
 ·rw[UX (by omega),UX hj];rfl
theorem AS9 {o:Oper} {ρ:Operand->SV} {s d:TypeId} {x:Operand} (EP:o.op= .convert s d x) {kp:Bool} {bs:Nat} (CD:∀ n e,AR n=some e->look L n=some e) {v:SV} {DG:C7}
  (h:AMC P AR s d (ρ x) kp bs pr=some (v,DG)):E9 TB P o ρ L v DG:=by
 have hr0:∀ E:Env,execOp (fun x=>(ρ x).den E) o=(do pure (Next.value (<-convert s d ((ρ x).den E))):Sem Next):=by
  intro E;simp only[execOp,EP]
 unfold AMC at h
 split at h
 ·rename_i e hs hd
  split at h
  rotate_left
  ·cases h
  rename_i hu
  have hu:=AB6 hu
  split at h
  ·cases h
  rename_i JE
  split at h
  rotate_left
  ·cases h
  rename_i xs ne u hp
  simp only[pr,BA,DH] at h
  obtain⟨rfl,rfl⟩:=h
  refine BS fun c w E hh hw=> ?_
  obtain⟨G,hG⟩:=hh
  have hrd:Rd (Rp G w (.int .u8)) (Ty.int .u8).sz w (ne.nm E) xs:=by
   refine AGI hp (by simp) JE (hw x) ?_
   rintro i t ys (hl|hl)
   ·exact AJT (hG.MK i _ (CD _ _ hl))
   ·exact wW (hG.MK i _ (CD _ _ hl))
  obtain⟨cells,c1,c2,c3,_⟩:=wX (P:=P) hrd
  have bD:(Ty.int .u8).sz=1:=rfl
  rw[bD,vZ] at c1
  have hc:cells=xs.map (Value.int .u8):=AS8 c1 (by
   refine c3 cells.toArray 0 ?_
   rw[bD,vZ]
   unfold BR
   rw[AAH,AF5 (by simp;omega)])
  have lE:=pZ hp E
  have hlen:(ne.nm E).len=xs.length:=hrd.1
  refine⟨w,E,.value (.string (A35 xs)), ?_,.inl rfl,⟨G,hG⟩,fun n hn=>⟨rfl,hn⟩,rfl,trivial⟩
  rw[hr0]
  refine CX ?_
  rw[lE,run_convert_bytes_string w s d e _ _ _ hs hu hd]
  have hc2:=c2 w rfl
  cases had:(ne.nm E).ad with
  |none=>
   rw[had] at hc2
   have hxs:xs=[]:=by
    have:(Builtin.firstCells (Ty.int .u8).sz xs.length (.slice none (ne.nm E).len (ne.nm E).cap):Sem _)=pure #[]:=rfl
    rw[this] at hc2
    have hc3:cells.toArray= #[]:=by
     have:(Result.ok (#[]:Array Value) w)= .ok cells.toArray w:=hc2
     simp only[Result.ok.injEq] at this
     exact this.1.symm
    have:cells.length=0:=by have:=PR Array.size hc3;simpa using this
    exact AQP.1 (by omega)
   subst hxs
   rfl
  |some p=>
   rw[had] at hc2
   have hc4:(loadCells p (xs.length*1)).run P w= .ok cells.toArray w:=hc2
   rw[vZ] at hc4
   rw[hlen]
   exact run_bytesToString w p xs.length _ xs (by rw[hc4,hc])
 ·rename_i e hs hd
  split at h
  rotate_left
  ·cases h
  rename_i hc
  simp only[ID] at hc
  obtain⟨hu,DZ⟩:=hc
  have hu:=AB6 hu
  split at h
  rotate_left
  ·cases h
  rename_i t hx
  simp only[pr,BA,DH] at h
  obtain⟨rfl,rfl⟩:=h
  have ML:look L bs=some .L5:=CD _ _ (by have:=CZ DZ 0 (by omega);simpa using this)
  refine BS fun c w E hh hw=> ?_
  obtain⟨G,hG⟩:=hh
  have bF:t.size<=grownCap w t.size 0 e:=by
   unfold grownCap Question.cut;simp only;omega
  let m:Nm:={ CE:=w.heap.size,off:=0,nil:=false,len:=t.size,cap:=grownCap w t.size 0 e,WE:=none,fz:=⟨true⟩ }
  have QQ:RowsIn (Rp G (Lib.bytesWorld w e t) (.int .u8)) (Ty.int .u8).sz (Lib.bytesCells w e t) 0 (lG t):=by
   intro i y hy
   have hi:i<t.size:=by
    rw[<-lM t]
    rcases IA i (lG t).length with h' |h'
    ·exact h'
    ·rw[UX h'] at hy;cases hy
   show BR _ (0+i*1) 1=[.int .u8 y]
   apply WC
   intro j
   rw[CJ]
   cases j with
   |zero=>
    rw[AA (by omega)]
    unfold lG at hy
    rw[AFB] at hy
    unfold Lib.bytesCells
    rw[AEX (by simp;omega),AQY]
    simp only[KK,vZ,NP,QP]
    rw[<-kX]
    cases hg:t.data.toList[i]? with
    |none=>rw[hg] at hy;cases hy
    |some b=>rw[hg] at hy;simp only[cR,BA] at hy ⊢;rw[hy]
   |succ j=>rw[AD (by omega)];rfl
  have hcs:(Lib.bytesCells w e t).size=grownCap w t.size 0 e:=by
   unfold Lib.bytesCells
   rw[Array.size_append,Array.size_map,Array.size_replicate,ByteArray.size_data];omega
  have A3G:(Lib.bytesWorld w e t).heap=w.heap.push (.cells (Lib.bytesCells w e t) e ((Lib.bytesCells w e t).size,(Lib.bytesCells w e t).size+1)):=by
   apply ALP
   intro k
   rw[ACE]
   by_cases hk:k=w.heap.size
   ·rw[AA hk,hk];exact Lib.bytesWorld_at_new w e t
   ·rw[AD hk]
    rcases IA k w.heap.size with NW |NW
    ·exact Lib.bytesWorld_at_old w e t k NW
    ·rw[AEZ NW,AEZ (by rw[Lib.bytesWorld_size];omega)]
  obtain⟨k1,k2⟩:=hG.qO ML (w' :=Lib.bytesWorld w e t) A3G ⟨rfl,rfl,rfl⟩ (e:= .row (.int .u8) (lG t)) (m:=m) rfl ⟨rfl,rfl,rfl⟩ (fun hb ho hg hs=>by
   refine⟨(lM t).symm,trivial,.inr ⟨rfl,hg,ho, ?_,Lib.bytesCells w e t,e,hb, ?_,QQ⟩⟩
   ·rw[lM];exact bF
   ·show 0+grownCap w t.size 0 e*1<=_
    rw[hcs];omega)
  obtain⟨f1,f2,f3⟩:=gY kp (AQ ML) k1
  refine⟨Lib.bytesWorld w e t,E.set bs m,.value (.slice (some ⟨w.heap.size,0,none⟩) t.size (grownCap w t.size 0 e)), ?_,.inl ?_,f1,fun n hn=>⟨(k2 n hn).1,f2 n (k2 n hn).2⟩,rfl, ?_⟩
  ·rw[hr0,hx]
   refine CX ?_
   exact Lib.run_convert_string_bytes w s d e t hs hd hu
  ·simp only[SV.den,Env.EZ];rfl
  ·exact f3
 ·cases h
theorem AWN {o:Oper} {ρ:Operand->SV} {t rt:TypeId} {x y:Operand} (EP:o.op= .binOp .quo t x y rt) {a b:Nat} (hx:ρ x= .QT a) (hy:ρ y= .QT b) {bs:Nat} (CD:∀ n e,AR n=some e->look L n=some e) (DZ:JI AR bs 1=true):
  E9 TB P o ρ L (.nf (GL .quo a b) bs) [(bs,.dead)]:=by
 have ML:look L bs=some .L5:=CD _ _ (by have:=CZ DZ 0 (by omega);simpa using this)
 refine BS fun c w E hh hw=> ?_
 obtain⟨G,hG⟩:=hh
 have PB:∀ (m:Nm) (n:Nat),Al L n->(E.set bs m).nm n=E.nm n/\Al (AK L [(bs,.dead)]) n:=fun m n hn=>⟨E.HY _ (fun he=>E3 (he ▸ ML) hn),BZ rfl n hn⟩
 have sA:SV.wf E (AK L [(bs,.dead)]) (.nf (GL .quo a b) bs):=⟨.dead,by show look (DK L (bs,.dead)) bs=_;rw[BC (AQ ML),AA rfl],rfl⟩
 have hch:∀ (m:Nm) (w' :World),w'.heap=w.heap->Rest w w' ->AS c G w' (E.set bs m) (DK L (bs,.dead)):=fun m w' hh hr=>
  hG.change (AQ ML) hr (by rw[hh];exact EY _) (fun ha=>absurd ha (E3 ML)) rfl (fun b _ _=>by rw[hh]) (fun b hb=>by cases hb) (fun _ _ _ _ _ _ hb=>by cases hb) (fun _=>trivial)
 have hr0:(execOp (fun x=>(ρ x).den E) o)=(do pure (Next.value (<-Op.floatArith .quo .f64 a b)):Sem Next):=by
  simp only[execOp,EP,hx,hy,SV.den];rfl
 cases hq:GL .quo a b with
 |some r=>
  rw[hq] at sA
  refine⟨w,E.set bs ⟨0,0,true,0,0,none⟩,.value (.float .f64 r), ?_,.inl rfl,⟨G,hch _ w rfl (.refl _)⟩,PB _,rfl,sA⟩
  rw[hr0]
  refine CX ?_
  simp only[GL] at hq
  simp [Op.floatArith,hq]
 |none=>
  rw[hq] at sA
  let T:=w.tape w.drawn (.nanBits .f64 a b)
  refine⟨{ w with drawn:=w.drawn+1 },E.set bs ⟨T,0,true,0,0,none⟩,.value (.float .f64 (WO T)), ?_,.inl ?_,⟨G,hch _ _ rfl ⟨rfl,rfl,rfl⟩⟩,PB _,rfl,sA⟩
  ·rw[hr0]
   refine CX ?_
   simp only[GL] at hq
   simp only[Op.floatArith,hq]
   rfl
  ·simp only[SV.den,Env.EZ,Option.getD_none]
theorem AK1 {o:Oper} {ρ:Operand->SV} {t:TypeId} {x i:Operand} {ok:Bool} (EP:o.op= .lookup t x i ok) (CD:∀ n e,AR n=some e->look L n=some e) {v:SV} {DG:C7}
  (h:uN P AR t (ρ x) (ρ i) ok pr=some (v,DG)):E9 TB P o ρ L v DG:=by
 unfold uN at h
 split at h
 rotate_left
 ·cases h
 rename_i j n hx hi
 split at h
 rotate_left
 ·cases h
 rename_i xs hl
 split at h
 rotate_left
 ·cases h
 rename_i hm
 obtain⟨k,e,kk,u1,u2,u3⟩:=sK hm
 obtain⟨V,hV⟩:∃ V:SV,V=(if ok=true then SV.tup [.bool ((MS xs n).getD false),.bool (MS xs n).isSome] else .bool ((MS xs n).getD false)):=⟨_,rfl⟩
 have hv:v=V/\DG=[]:=by
  cases ok <;> (simp only[pr,BA,DH] at h;exact⟨by rw[hV];exact h.1.symm,h.2.symm⟩)
 clear h
 obtain⟨rfl,rfl⟩:=hv
 subst hV
 refine BS fun c w E hh hw=> ?_
 obtain⟨G,hG⟩:=hh
 obtain⟨-, -, -, -,es,ck,h5,h6⟩:=hG.MK j _ (CD _ _ hl)
 refine⟨w,E,_, ?_,.inl rfl,⟨G,hG⟩,fun n hn=>⟨rfl,hn⟩,rfl,by cases ok <;> simp [SV.wf,L7]⟩
 simp only[execOp,EP,hx,hi]
 refine CX ?_
 have A3H:∃ r:Option (Nat×Value),(Instr.findKey k (.int .i64 n) es.toList).run P w= .ok r w/\r.map (·.2)=(MS xs n).map Value.bool:=by
  rcases xA (kk:=kk) n false xs es.toList 0 h6 with ⟨k1,k2,_⟩|⟨j',b,e',k1,k2,_⟩
  ·exact⟨none,by simp [Instr.findKey,run_underlying u2,k1],by simp [k2]⟩
  ·exact⟨some (0+j',.bool b),by simp [Instr.findKey,run_underlying u2,k1],by simp [k2]⟩
 obtain⟨r,hr1,uP⟩:=A3H
 simp only[Instr.lookup,Sem.run_bind,run_underlying u1,Result.andThen,SV.den,lL h5,Sem.run_pure,run_checkKey u2,hr1]
 cases r with
 |none=>
  have hg:MS xs n=none:=by cases hx:MS xs n with
   |none=>rfl
   |some b=>rw[hx] at uP;cases uP
  cases ok <;> simp [u3,hg,SV.den,AN]
 |some q=>
  obtain⟨q1,q2⟩:=q
  have hg:∃ b,MS xs n=some b/\q2= .bool b:=by cases hx:MS xs n with
   |none=>rw[hx] at uP;cases uP
   |some b=>rw[hx] at uP;simp at uP;exact⟨b,rfl,uP⟩
  obtain⟨b,hg,rfl⟩:=hg
  cases ok <;> simp [hg,SV.den,AN]
theorem AK2 {o:Oper} {ρ:Operand->SV} {t:TypeId} {x i y:Operand} (EP:o.op= .mapUpdate t x i y) (CD:∀ n e,AR n=some e->look L n=some e) {v:SV} {DG:C7}
  (h:uO P AR t (ρ x) (ρ i) (ρ y) pr=some (v,DG)):E9 TB P o ρ L v DG:=by
 unfold uO at h
 split at h
 rotate_left
 ·cases h
 rename_i j n b hx hi hb
 split at h
 rotate_left
 ·cases h
 rename_i xs hl
 split at h
 rotate_left
 ·cases h
 rename_i hm
 obtain⟨k,e,kk,u1,u2,u3⟩:=sK hm
 simp only[pr,BA,DH] at h
 obtain⟨rfl,rfl⟩:=h
 refine BS fun c w E hh hw=> ?_
 obtain⟨G,hG⟩:=hh
 have hL:=CD _ _ hl
 obtain⟨e1,e2,e3,e4,es,ck,h5,h6⟩:=hG.MK j _ hL
 have hbd:(ρ y).den E= .bool b:=WQ hb
 have DO:=T3 h5
 have key:∃ es' ck',(Instr.mapUpdate t (.map (some (E.nm j).CE)) (.int .i64 n) (.bool b)).run P w= .ok () { w with heap:=w.heap.setIfInBounds (E.nm j).CE (.map es' ck') }/\ALZ es' (X6 xs n b):=by
  rcases xA (kk:=kk) n b xs es.toList 0 h6 with ⟨k1,k2,k3⟩|⟨j',b',e',k1,k2,k3,k4,k5⟩
  ·refine⟨es.push { key:= .int .i64 n,val:= .bool b,born:=ck },ck+1, ?_, ?_⟩
   ·have hf:(Instr.findKey k (.int .i64 n) es.toList).run P w= .ok none w:=by simp [Instr.findKey,run_underlying u2,k1]
    simp only[Instr.mapUpdate,Sem.run_bind,run_underlying u1,Result.andThen,lL h5,run_checkKey u2,hf]
    simp [setObj,Sem.run,h5]
   ·unfold ALZ at h6 ⊢
    rw[Array.toList_push,bA,h6,k3];simp
  ·refine⟨es.modify j' fun e=>{ e with key:= .int .i64 n,val:= .bool b },ck, ?_, ?_⟩
   ·have hf:(Instr.findKey k (.int .i64 n) es.toList).run P w= .ok (some (j',.bool b')) w:=by simp [Instr.findKey,run_underlying u2,k1]
    have hk:∀ o,(es[j']?).map (·.key)=some o->(Instr.keyThatStays o (.int .i64 n)).run P w= .ok (.int .i64 n) w:=by
     intro o ho
     have:es[j']? =some e' :=by simpa using k3
     rw[this] at ho
     simp only[cR,BA] at ho
     subst ho
     rw[k4]
     simp [Instr.keyThatStays,Instr.sameBits]
    have NW :(es[j']?).map (·.key)=some (.int .i64 n):=by
     have:es[j']? =some e' :=by simpa using k3
     rw[this];simp [k4]
    simp only[Instr.mapUpdate,Sem.run_bind,run_underlying u1,Result.andThen,lL h5,run_checkKey u2,hf,NW,mT,hk _ NW]
    simp [setObj,Sem.run,h5]
   ·unfold ALZ
    rw[<-k5,Array.toList_modify]
 obtain⟨es',ck',r1,r2⟩:=key
 let w' :World:={ w with heap:=w.heap.setIfInBounds (E.nm j).CE (.map es' ck') }
 have CP:∀ b,b≠(E.nm j).CE->w'.heap[b]? =w.heap[b]? :=fun b hb=>by
  show (w.heap.setIfInBounds _ _)[b]? =_
  rw[AF1,AD (fun h=>hb h.symm)]
 have DZ:w'.heap[(E.nm j).CE]? =some (.map es' ck'):=by
  show (w.heap.setIfInBounds _ _)[_]? =_
  rw[AF1,AA rfl,AA DO]
 have k1:=hG.change (w' :=w') (AQ hL) ⟨rfl,rfl,rfl⟩ (by simp [w']) (fun _=>rfl) (e' := .map (X6 xs n b)) (m:=E.nm j) rfl
  (fun b _ hb=>CP b (fun he=>hb (by simp [AX.own,he])))
  (fun b hb=>by simp only[AX.own,BA] at hb;subst hb;exact⟨e4,e3⟩)
  (fun k f hk hf b hb he=>hG.inj k j f _ b hk hf hL hb (.inl he))
  (fun _=>⟨e1,e2,e3,e4,es',ck',DZ,r2⟩)
 have hE:E.set j (E.nm j)=E:=by
  refine L9 (fun k=> ?_) rfl (fun _=>rfl)
  by_cases hk:k=j
  ·subst hk;rw[Env.EZ]
  ·rw[Env.HY _ _ hk]
 rw[hE] at k1
 refine⟨w',E,.skip, ?_,.inr ⟨rfl,rfl⟩,⟨G,k1⟩,fun n hn=>⟨rfl,BZ rfl n hn⟩,rfl,trivial⟩
 simp only[execOp,EP,hx,hi,hbd,SV.den]
 simp only[Sem.run_bind,r1,Result.andThen]
 rfl
theorem AMJ {cx:Cx} (hcx:cx.Ok P) {o:Oper} {ρ:Operand->SV} (CD:∀ n e,AR n=some e->look L n=some e) {v:SV} {DG:C7} (h:AG9 P cx AR o.dst ρ pr o.op=some (v,DG)):E9 cx.tb P o ρ L v DG:=by
 generalize EP:o.op=op at h
 unfold AG9 at h
 split at h
 ·split at h
  ·exact ARV EP (by assumption) h
  ·exact ART EP CD h
 ·exact AOW EP CD h
 ·exact AP0 EP CD h
 ·exact AWJ EP CD h
 ·split at h
  ·exact AOZ EP CD h
  ·split at h
   ·exact AP3 EP CD h
   ·exact wV EP CD h
 ·split at h
  ·exact ARZ EP CD h
  ·exact zL EP CD h
 ·exact AP4 EP CD h
 ·exact AP5 EP CD h
 ·rename_i args ts
  split at h
  rotate_left
  ·cases h
  rename_i x t MA hts
  split at h
  rotate_left
  ·cases h
  rename_i e n hu hn
  simp only[pr,BA,DH] at h
  obtain⟨rfl,rfl⟩:=h
  refine BS fun c w E hH hw=> ?_
  obtain⟨a,k,hx⟩:=AS7 hH CD hn
  refine⟨w,E,.value ((SV.int .i64 n).den E), ?_,.inl rfl,hH,fun n hn=>⟨rfl,hn⟩,rfl,trivial⟩
  have A62 :ts= #[t]:=by apply aM;rw[hts]
  have lK :(args.map fun x=>(ρ x).den E)= #[.slice a n k]:=by
   apply aM
   have:(args.toList.map ρ).map (SV.den E)=[.slice a n k]:=by rw[MA];simp [hx]
   rw[VH] at this
   rw[kD]
   exact this
  simp only[execOp,EP,resolve,invoke,Sem.run_bind,Sem.run_pure,Result.andThen,lK,A62,builtin]
  simp [Builtin.len_,run_underlying hu,goInt,SV.den]
 ·rename_i args ts
  split at h
  ·rename_i x y MA
   split at h
   ·split at h
    ·exact AJZ EP MA CD h
    ·exact AJX EP MA CD h
   ·exact AJU EP MA CD (by assumption) h
  ·cases h
 ·exact AGK EP CD h
 ·exact AS9 EP CD h
 ·split at h
  rotate_left
  ·cases h
  rename_i a b hx hy
  split at h
  rotate_left
  ·cases h
  rename_i DZ
  simp only[pr,BA,DH] at h
  obtain⟨rfl,rfl⟩:=h
  exact AWN EP hx hy CD DZ
 ·exact AK1 EP CD h
 ·exact AK2 EP CD h
 ·rename_i f args ts
  split at h
  rotate_left
  ·cases h
  rename_i n cs hf
  have hfd:=fun E=>AG0 hf E
  split at h
  rotate_left
  ·split at h
   rotate_left
   ·cases h
   rename_i e he
   have fin:∀ q:Option DP,xtE e (args.toList.map ρ++cs)=some (q,v)->cnd q->DG=[]->E9 cx.tb P o ρ L v DG:=by
    rintro q hq hc rfl
    refine BS fun c w E hH hw=>⟨w,E,_, ?_,.inl rfl,hH,fun n hn=>⟨rfl,hn⟩,rfl,A0M hq⟩
    rw[<-A0L (E:=E) w (hcx.2 n e he) (args.toList.map ρ++cs) q v hq hc]
    simp only[execOp,EP,resolve,invoke,Sem.run_bind,hfd,Deferred.ofValue,Sem.run_pure,Result.andThen]
    congr 2
    apply aM
    simp [FO,vS]
   split at h
   ·rename_i u hq
    simp only[pr,BA,DH] at h
    obtain⟨rfl,rfl⟩:=h
    exact fin none hq trivial rfl
   ·rename_i q u hq
    have:=q.d
    by_cases hp:q.p
    ·simp only[hp,HJ,pr,BA,DH] at h
     obtain⟨rfl,rfl⟩:=h
     exact fin (some q) hq hp rfl
    ·simp [hp] at h
   ·cases h
  rename_i fi hfi
  intro c w E hH hw a next Q ha hn
  show o.upon P a next Q ((execOp a.eval o).run P w)
  have KG:(execOp (fun x=>(ρ x).den E) o).run P w= .ok (.enter n (AN E (args.toList.map ρ++cs)).toArray) w:=by
   rw[<-(hcx.1 n fi hfi).1]
   simp only[execOp,EP,resolve,invoke,Sem.run_bind,hfd,Deferred.ofValue,Sem.run_pure,Result.andThen]
   congr 2
   apply aM
   simp [FO,vS]
  rw[ha,KG]
  have pQ:L7 E L (args.toList.map ρ++cs):=B0.2 fun v hv=>by
   rcases FG.1 hv with hv|hv
   ·obtain⟨x,_,rfl⟩:=DD.1 hv
    exact hw x
   ·exact B0.1 (AM2 hf (hw f)) v hv
  refine (AS1 h (hcx.1 n fi hfi) CD hH pQ).mono ?_
  rintro e w' ⟨E',rfl,h1,h2,h3,h4⟩
  exact hn E' w' h1 h2 h3 h4
 ·cases h
theorem ASA {E:Env} {t:TypeId} {cs:List SV} {off:Nat} {q:Option DP} {v:SV} (h:AFL P t cs off=some (q,v)) (hw:L7 E L cs):v.wf E L:=by
 unfold AFL at h
 repeat' split at h
 all_goals first|(cases h;done)|skip
 ·simp only[val,BA,DH] at h;rw[<-h.2];exact XG hw _ _
 ·rename_i hv
  simp only[val,BA,DH] at h;rw[<-h.2]
  exact B0.1 hw _ (aZ hv)
theorem AWO {E:Env} {ρ:Operand->SV} {op:Op} {q:Option DP} {v:SV} (h:cX P ρ op=some (q,v)) (hl:∀ x,(ρ x).wf E L):v.wf E L:=by
 have A7P:∀ v:SV,(match v with| .int _ _| .u64 _| .bool _| .O2 _| .prop _ _| .str _| .QT _=>True|_=>False)->v.wf E L:=by
  intro v hv
  cases v <;> first|trivial|exact hv.elim
 cases op <;> simp only[cX] at h
 case move x=>simp only[val,BA,DH] at h;rw[<-h.2];exact hl x
 case assign x=>simp only[val,BA,DH] at h;rw[<-h.2];exact hl x
 case pick c a b=>
  split at h
  ·rename_i t _
   simp only[val,BA,DH] at h
   rw[<-h.2]
   cases t
   ·exact hl b
   ·exact hl a
  ·cases h
 case nilCheck x=>
  split at h
  ·rename_i i k sz off hx
   simp only[val,BA,DH] at h
   rw[<-h.2]
   have:=hl x
   rw[hx] at this
   exact this
  ·rename_i i off hx
   simp only[val,BA,DH] at h
   rw[<-h.2]
   have:=hl x
   rw[hx] at this
   exact this
  ·rename_i f cs hx
   simp only[val,BA,DH] at h
   rw[<-h.2]
   have:=hl x
   rw[hx] at this
   exact this
  ·cases h
 case makeFunc fn first captured=>
  split at h
  ·simp only[val,BA,DH] at h
   rw[<-h.2]
   exact B0.2 fun v hv=>by
    obtain⟨x,_,rfl⟩:=DD.1 hv
    exact hl x
  ·cases h
 case binOp op t x y _=>
  unfold AR4 AVN ACG shE AVK AVL AVM nfE at h
  repeat' split at h
  all_goals first|(cases h;done)|(simp only[val,UZ,BA,DH] at h;rw[<-h.2];trivial)
 case unOp op t x=>
  unfold unE at h
  repeat' split at h
  all_goals first|(cases h;done)|(simp only[val,BA,DH] at h;rw[<-h.2];trivial)
 case convert s d x=>
  unfold ALW at h
  repeat' split at h
  all_goals first|(cases h;done)|(simp only[val,UZ,BA,DH] at h;rw[<-h.2];trivial)
 case extract x i=>
  unfold nA at h
  repeat' split at h
  all_goals first|(cases h;done)|skip
  simp only[val,BA,DH] at h;rw[<-h.2]
  have:=hl x
  rw[‹ρ x=_›] at this
  exact B0.1 this _ (aZ (by assumption))
 case field t x f=>
  unfold ACH at h
  repeat' split at h
  all_goals first|(cases h;done)|skip
  have:=hl x
  rw[‹ρ x=_›] at this
  exact ASA h this
 case build t parts=>
  have P0:∀ q∈(parts.toList.map fun q=>(q.1,ρ q.2)),q.2.wf E L:=by
   intro q hq
   obtain⟨y,_,rfl⟩:=DD.1 hq
   exact hl y.2
  unfold ACI at h
  repeat' split at h
  all_goals first|(cases h;done)|skip
  all_goals
   rename_i hf
   simp only[val,BA,DH] at h;rw[<-h.2]
   exact wU _ _ _ hf (nQ E (by assumption)) P0
 case indexAddr t x i=>
  unfold Y6 at h
  repeat' split at h
  all_goals first|(cases h;done)|skip
  ·rename_i hx _ _ _
   simp only[UZ,BA,DH] at h;rw[<-h.2]
   have:=hl x
   rw[‹ρ x=_›] at this
   exact this
  ·simp only[UZ,BA,DH] at h;rw[<-h.2]
   trivial
 case fieldAddr t x f=>
  unfold Y7 at h
  repeat' split at h
  all_goals first|(cases h;done)|skip
  all_goals
   simp only[val,BA,DH] at h;rw[<-h.2]
   have:=hl x
   rw[‹ρ x=_›] at this
   exact this
 case slice t x l hh m=>
  unfold ACJ at h
  repeat' split at h
  all_goals first|(cases h;done)|(simp only[UZ,BA,DH] at h;rw[<-h.2];trivial)
 case index t x i=>
  unfold ACK at h
  repeat' split at h
  all_goals first|(cases h;done)|(simp only[UZ,BA,DH] at h;rw[<-h.2];trivial)
 case call c=>
  obtain⟨callee,args,ts⟩:=c
  cases callee with
  |builtin b=>
   dsimp only at h
   unfold nB AVO at h
   repeat' split at h
   all_goals first|(cases h;done)|(simp only[val,UZ,BA,DH] at h;rw[<-h.2];trivial)
  |_=>dsimp only at h;cases h
 all_goals cases h
theorem xB {o:Oper} {ρ:Operand->SV} (CD:∀ n e,AR n=some e->look L n=some e) {x:Operand} (KG:∀ (E:Env) (w:World),(execOp (fun x=>(ρ x).den E) o).run P w= .ok (.value ((ρ x).den E)) w) {v:SV} {DG:C7}
  (h:nN AR (ρ x) pr=some (v,DG)):E9 TB P o ρ L v DG:=by
 have pass:ρ x=v->DG=[]->E9 TB P o ρ L v DG:=by
  rintro rfl rfl
  exact BS fun c w E hH hw=>⟨w,E,_,KG E w,.inl rfl,hH,fun n hn=>⟨rfl,hn⟩,rfl,hw x⟩
 unfold nN at h
 split at h
 rotate_left
 ·simp only[pr,BA,DH] at h
  exact pass h.1 h.2.symm
 rename_i i hx
 split at h
 rotate_left
 ·simp only[pr,BA,DH] at h
  exact pass (hx.trans h.1) h.2.symm
 rename_i t xss hh hl
 split at h
 rotate_left
 ·cases h
 rename_i ys u hc
 simp only[pr,BA,DH] at h
 obtain⟨rfl,rfl⟩:=h
 refine BS fun c w E hH hw=> ?_
 obtain⟨G,hG⟩:=hH
 obtain⟨E1,c1,c2,c3,c4,c5,c6,c7⟩:=gW CD hG hl hc
 have h2:=c1.ACO c4
 have eu:AK L (u++ [(i,.shr (.slice t) ys)])=DK (AK L u) (i,.shr (.slice t) ys):=by rw[BQ];rfl
 rw[eu]
 refine⟨w,E1,_,KG E w,.inl ?_,⟨_,h2⟩,fun n hn=>⟨c2 n,BZ rfl n (c5 n hn)⟩,c3, ?_⟩
 ·rw[hx];simp only[SV.den,c2]
 ·exact⟨_,by rw[BC (AQ c4),AA rfl],rfl⟩
theorem AK3 {o:Oper} {ρ:Operand->SV} (CD:∀ n e,AR n=some e->look L n=some e) {v:SV} {DG:C7} (h:RZ AR ρ pr o.op=some (v,DG)):E9 TB P o ρ L v DG:=by
 generalize EP:o.op=op at h
 unfold RZ at h
 split at h
 ·rename_i x
  exact xB CD (fun E w=>by simp only[execOp,EP];rfl) h
 ·rename_i x
  exact xB CD (fun E w=>by simp only[execOp,EP];rfl) h
 ·cases h
theorem AWP {cx:Cx} (hcx:cx.Ok P) {o:Oper} {ρ:Operand->SV} (CD:∀ n e,AR n=some e->look L n=some e) {v:SV} {DG:C7} (h:core P cx AR o.dst ρ pr o.op=some (v,DG)):E9 cx.tb P o ρ L v DG:=by
 unfold core at h
 split at h
 ·exact AK3 CD h
 unfold core0 at h
 simp only[AMA] at h
 have fin:∀ (q:Option DP),cX P ρ o.op=some (q,v)->cnd q->E9 cx.tb P o ρ L v []:=by
  intro q hp hq
  refine BS fun c w E hH hw=> ?_
  exact⟨w,E,_,AOD (E:=E) w ρ o.op q v hp hq o rfl,.inl rfl,hH,fun n hn=>⟨rfl,hn⟩,rfl,AWO hp hw⟩
 cases hqq:(cx.keeps o.dst && Op.AMD o.op) with
 |true=>
  rw[hqq] at h
  exact AMJ hcx CD h
 |false=>
 rw[hqq] at h
 simp only at h
 split at h
 ·rename_i u hp
  simp only[pr,BA,DH] at h
  obtain⟨rfl,rfl⟩:=h
  exact fin _ hp trivial
 ·rename_i q u hp
  have:=q.d
  by_cases hq:q.p
  ·simp only[hq,HJ,pr,BA,DH] at h
   obtain⟨rfl,rfl⟩:=h
   exact fin _ hp hq
  ·simp only[hq,KA] at h;cases h
 ·exact AMJ hcx CD h
end
end Go.V3
namespace Go.V3
open Go
variable {TB:Tb}
def clean:SV->SV
 | .pO _=>AW
 |v=>v
def evc (fr:List SV) (x:Operand):SV:=clean (ev fr x)
def AB7:SV->Bool
 | .pO _=>true
 |_=>false
def AMK (fr:List SV) (op:Op):Bool:=op.operands.toList.all fun x=> !(AB7 (ev fr x))
def dG (all:List Oper) (o:Oper) (fr:List SV):Option Bool:=
 match o.guard with
 |none=>some true
 |some (j,want)=>(match all[j]? with
  |none=>none
  |some oj=>(match oj.dst with
   |none=>none
   |some t=>(match fr.getD t AW with
    | .O2 b=>some (b==want)
    | .raw (.tuple _)=>some false
    |_=>none)))
def A0N (all:List Oper) (k:Nat):Bool:=all.any fun o=>match o.guard with
 |some (j,_)=>j==k
 |none=>false
section
variable {α:Type}
def AD7 (v:SV) (F:Bool->Option α):Option α:=
 match v with
 | .O2 b=>F b
 | .bool b=>if b=true then F true else F false
 | .prop p d=> @ite _ p d (F true) (F false)
 |_=>none
def dH (P:Program) (cx:Cx) (all:List Oper) (o:Oper) (k:Nat) (fr:List SV) (AR:Nat->Option AX) (K:SV->C7->Option α):Option α:=
 match dG all o fr with
 |none=>none
 |some false=>K AW []
 |some true=>(match AMK fr o.op with
  |false=>none
  |true=>core P cx AR o.dst (evc fr) (match A0N all k with
   |true=>fun v u=>AD7 v (fun b=>K (.O2 b) u)
   |false=>K) o.op)
def ASB (P:Program) (cx:Cx) (all:List Oper):List Oper->Nat->List SV->AL->(List SV->AL->Option α)->Option α
 | [],_,fr,L,K=>K fr L
 |o::r,k,fr,L,K=>dH P cx all o k fr (look L) (fun v u=>ASB P cx all r (k+1) (SF fr o.dst v) (AK L u) K)
end
theorem sL {α:Type} {v:SV} {F:Bool->Option α} {a:α} (h:AD7 v F=some a):∃ b,toB v=some b/\F b=some a:=by
 unfold AD7 at h
 split at h
 ·exact⟨_,rfl,h⟩
 ·rename_i b;cases b
  ·exact⟨false,rfl,h⟩
  ·exact⟨true,rfl,h⟩
 ·rename_i p d
  by_cases hp:p
  ·simp only[hp,HJ] at h;exact⟨true,by simp [toB,hp],h⟩
  ·simp only[hp,KA] at h;exact⟨false,by simp [toB,hp],h⟩
 ·cases h
theorem xC {α:Type} {P:Program} {cx:Cx} {all:List Oper} {o:Oper} {k:Nat} {fr:List SV} {AR:Nat->Option AX} {K:SV->C7->Option α} {a:α} (h:dH P cx all o k fr AR K=some a):
  ∃ v u,K v u=some a/\dH P cx all o k fr AR pr=some (v,u):=by
 unfold dH at h ⊢
 split at h
 ·cases h
 ·exact⟨AW,[],h,rfl⟩
 ·split at h
  ·cases h
  ·cases hs:A0N all k with
   |false=>
    rw[hs] at h
    simp only at h ⊢
    rw[nO,AEY] at h
    obtain⟨⟨v,u⟩,h1,h2⟩:=h
    exact⟨v,u,h2,h1⟩
   |true=>
    rw[hs] at h
    simp only at h ⊢
    rw[nO,AEY] at h
    obtain⟨⟨v,u⟩,h1,h2⟩:=h
    obtain⟨b,hb,h3⟩:=sL h2
    refine⟨.O2 b,u,h3, ?_⟩
    rw[nO,h1]
    simp only[AZ]
    cases v <;> simp only[toB,BA,reduceCtorEq] at hb
    ·subst hb;rename_i b;cases b <;> rfl
    ·subst hb;rfl
    ·subst hb
     rename_i p d
     by_cases hp:p <;> simp [AD7,hp,pr]
def xD (E:Env) (L:AL) (fr:List SV):Prop:=∀ t,(fr.getD t AW).wf E L\/fr.getD t AW= .pO t
structure St (c:EC TB) (E:Env) (fr:List SV) (L:AL) (a:Act) (w:World):Prop where
 tT:Sim E fr a
 hd:Hd c w E L
 wf:xD E L fr
def bI (L L' :AL):Prop:=L'.length=L.length/\∀ (n v:Nat) (e:AX) (v' :Nat) (e' :AX),L[n]? =some (v,e)->L'[n]? =some (v',e')->v<=v' /\(v' =v->e' =e)
theorem bI.refl (L:AL):bI L L:=⟨rfl,fun n v e v' e' h h' =>by rw[h] at h';simp only[BA,DH] at h';obtain⟨rfl,rfl⟩:=h';exact⟨EY _,fun _=>rfl⟩⟩
theorem bI.trans {A B C:AL} (h:bI A B) (k:bI B C):bI A C:=by
 refine⟨k.1.trans h.1,fun n v e v' e' h1 h2=> ?_⟩
 have DO:n<A.length:=by
  rcases IA n A.length with h|h
  ·exact h
  ·rw[UX h] at h1;cases h1
 obtain⟨bv,be,hb⟩:∃ bv be,B[n]? =some (bv,be):=⟨_,_,OT (by rw[h.1];exact DO)⟩
 obtain⟨a1,a2⟩:=h.2 n v e _ _ h1 hb
 obtain⟨b1,b2⟩:=k.2 n _ _ v' e' hb h2
 refine⟨kF a1 b1,fun he=> ?_⟩
 have e1:bv=v:=by omega
 rw[b2 (by omega),a2 e1]
theorem bI.DK (L:AL) (q:Nat×AX):bI L (DK L q):=by
 refine⟨GN _ _,fun n v e v' e' h1 h2=> ?_⟩
 unfold V3.DK at h2
 split at h2
 ·rename_i v0 e0 hq
  rw[vL] at h2
  split at h2
  ·rename_i hn
   subst hn
   rw[h1] at hq
   simp only[BA,DH] at hq
   obtain⟨rfl,rfl⟩:=hq
   split at h2
   ·simp only[BA,DH] at h2
    exact⟨by omega,fun he=>by omega⟩
   ·cases h2
  ·rw[h1] at h2
   simp only[BA,DH] at h2
   obtain⟨rfl,rfl⟩:=h2
   exact⟨EY _,fun _=>rfl⟩
 ·rw[h1] at h2
  simp only[BA,DH] at h2
  obtain⟨rfl,rfl⟩:=h2
  exact⟨EY _,fun _=>rfl⟩
theorem bI.AK (L:AL) (u:C7):bI L (AK L u):=by
 induction u generalizing L with
 |nil=>exact .refl _
 |cons q r ih=>exact (bI.DK L q).trans (ih _)
structure Ext (W:List Nat) (E0:Env) (fr0:List SV) (L0:AL) (E:Env) (fr:List SV) (L:AL):Prop where
 nm:∀ n,Al L0 n->E.nm n=E0.nm n/\Al L n
 ds:∀ t,t∉W->E.ds t=E0.ds t
 tU:bI L0 L
 len:fr.length=fr0.length
 out:∀ t,t∉W->fr.getD t AW=fr0.getD t AW
theorem Ext.refl (W:List Nat) (E:Env) (fr:List SV) (L:AL):Ext W E fr L E fr L:=⟨fun _ h=>⟨rfl,h⟩,fun _ _=>rfl,.refl _,rfl,fun _ _=>rfl⟩
theorem Ext.trans {W:List Nat} {E0 E1 E2:Env} {f0 f1 f2:List SV} {L0 L1 L2:AL} (h:Ext W E0 f0 L0 E1 f1 L1) (k:Ext W E1 f1 L1 E2 f2 L2):Ext W E0 f0 L0 E2 f2 L2:=
 ⟨fun n hn=>by obtain⟨a,b⟩:=h.nm n hn;obtain⟨c,d⟩:=k.nm n b;exact⟨c.trans a,d⟩,fun t ht=>(k.ds t ht).trans (h.ds t ht),h.tU.trans k.tU,k.len.trans h.len,fun t ht=>(k.out t ht).trans (h.out t ht)⟩
theorem Ext.mono {W W' :List Nat} {E0 E1:Env} {f0 f1:List SV} {L0 L1:AL} (h:Ext W E0 f0 L0 E1 f1 L1) (hs:∀ t,t∈W->t∈W'):Ext W' E0 f0 L0 E1 f1 L1:=
 ⟨h.nm,fun t ht=>h.ds t (fun hx=>ht (hs t hx)),h.tU,h.len,fun t ht=>h.out t (fun hx=>ht (hs t hx))⟩
theorem FH (fr:List SV) (t k:Nat) (v:SV):(fr.set t v).getD k AW=if t=k/\t<fr.length then v else fr.getD k AW:=by
 simp only[List.getD,vL]
 by_cases h:t=k
 ·subst h
  by_cases h2:t<fr.length
  ·simp [h2]
  ·simp [h2]
 ·simp [h]
theorem dI {E E' :Env} {L L' :AL} {fr:List SV} (hf:xD E L fr) (hnm:∀ n,Al L n->E'.nm n=E.nm n/\Al L' n) (hds:E'.ds=E.ds):AN E' fr=AN E fr/\xD E' L' fr:=by
 have key:∀ t,(fr.getD t AW).den E' =(fr.getD t AW).den E/\((fr.getD t AW).wf E' L' \/fr.getD t AW= .pO t):=by
  intro t
  rcases hf t with h|h
  ·obtain⟨h1,h2⟩:=Y_ (fun n hn=>(hnm n hn).2) (fun n hn=>(hnm n hn).1) _ h
   exact⟨h2,.inl h1⟩
  ·exact⟨by rw[h];simp only[SV.den,hds],.inr h⟩
 refine⟨?_,fun t=>(key t).2⟩
 apply WC
 intro i
 rw[GM,GM]
 by_cases hi:i<fr.length
 ·have:=(key i).1
  simp only[List.getD,OT hi,mT] at this
  rw[OT hi]
  simp [this]
 ·rw[UX (by omega)];rfl
theorem xD.put {E:Env} {L:AL} {fr:List SV} (h:xD E L fr) (d:Option Tmp) {v:SV} (hv:v.wf E L):xD E L (SF fr d v):=by
 cases d with
 |none=>exact h
 |some d=>
  intro t
  simp only[SF,FH]
  split
  ·exact .inl hv
  ·exact h t
theorem nS (E:Env) (L:AL):AW.wf E L:=trivial
theorem A3I {E:Env} {L:AL} {fr:List SV} (h:xD E L fr) (x:Operand):(evc fr x).wf E L:=by
 unfold evc
 cases x with
 |tmp t=>
  show (clean (fr.getD t AW)).wf E L
  rcases h t with h|h
  ·cases hx:fr.getD t AW <;> first|(rw[hx] at h;exact h)|(rw[hx] at h;exact h.elim)
  ·rw[h];exact nS _ _
 |const v=>
  simp only[ev]
  split
  all_goals first|trivial|(split <;> trivial)
 |global g=>trivial
 |func f=>trivial
section
variable {P:Program} {ops:Array Oper} {Q:Exit->Act->World->Prop}
theorem AK4 {E:Env} {fr:List SV} {a:Act} (hs:Sim E fr a) {j t:Nat} {oj:Oper} {b:Bool} (hj:ops.toList[j]? =some oj) (hd:oj.dst=some t) (hv:fr.getD t AW= .O2 b):yielded ops a.tmps j=some b:=by
 have bH :ops[j]? =some oj:=by rw[<-kX];exact hj
 have ht:a.tmps[t]? =some (.bool b):=by
  rw[hs.1,vH,GM]
  cases hx:fr[t]? with
  |none=>simp [List.getD,hx,AW] at hv
  |some v=>simp [List.getD,hx] at hv;simp [hv,SV.den]
 simp [yielded,bH,hd,ht]
theorem AGL {E:Env} {fr:List SV} {a:Act} (hs:Sim E fr a) {j t:Nat} {oj:Oper} {vs:Array Value} (hj:ops.toList[j]? =some oj) (hd:oj.dst=some t) (hv:fr.getD t AW= .raw (.tuple vs)):yielded ops a.tmps j=none:=by
 have bH :ops[j]? =some oj:=by rw[<-kX];exact hj
 unfold yielded
 rw[bH]
 simp only[AZ,hd,hs.1,vH,GM]
 cases hx:fr[t]? with
 |none=>rfl
 |some v=>simp [List.getD,hx] at hv;simp [hv,SV.den]
theorem AB8 {E:Env} {fr:List SV} {a:Act} (hs:Sim E fr a) {o:Oper} {b:Bool} (h:dG ops.toList o fr=some b):Region.wanted o (yielded ops a.tmps)=b:=by
 unfold dG at h
 unfold Region.wanted
 split at h
 ·rename_i hg
  simp only[BA] at h
  rw[hg];exact h
 ·rename_i j want hg
  rw[hg]
  simp only
  split at h
  ·cases h
  ·rename_i oj hj
   split at h
   ·cases h
   ·rename_i t hd
    split at h
    ·rename_i b' hv
     simp only[BA] at h
     rw[AK4 hs hj hd hv,←h]
     cases b' <;> cases want <;> rfl
    ·rename_i vs hv
     simp only[BA] at h
     rw[AGL hs hj hd hv,←h];rfl
    ·cases h
theorem AML {cx:Cx} (hcx:cx.Ok P) {o:Oper} {i k:Nat} (ho:ops[i]? =some o) {c:EC cx.tb} {E:Env} {fr:List SV} {L:AL} {a:Act} {w:World} (hst:St c E fr L a w) {AR:Nat->Option AX} (CD:∀ n e,AR n=some e->look L n=some e)
  {v:SV} {u:C7} (h:dH P cx ops.toList o k fr AR pr=some (v,u)) {K:Act->World->Prop}
  (hK:∀ E' a' w',St c E' (SF fr o.dst v) (AK L u) a' w' ->(∀ n,Al L n->E'.nm n=E.nm n/\Al (AK L u) n)->E'.ds=E.ds->K a' w'):wpOp P ops Q i K a w:=by
 unfold wpOp
 rw[ho]
 simp only
 unfold dH at h
 split at h
 ·cases h
 ·rename_i hg
  simp only[pr,BA,DH] at h
  obtain⟨rfl,rfl⟩:=h
  rw[AB8 hst.tT hg]
  simp only[VF,KA]
  exact hK E _ w ⟨hst.tT.put o.dst AW,hst.hd,hst.wf.put o.dst (nS _ _)⟩ (fun n hn=>⟨rfl,hn⟩) rfl
 ·rename_i hg
  rw[AB8 hst.tT hg]
  simp only[HJ]
  refine .inl ?_
  split at h
  ·cases h
  rename_i hnu
  obtain⟨v0,ASC,hvv⟩:∃ v0,core P cx AR o.dst (evc fr) pr o.op=some (v0,u)/\(∀ E:Env,v.den E=v0.den E)/\(∀ E L,v0.wf E L->v.wf E L):=by
   cases hs:A0N ops.toList k with
   |false=>rw[hs] at h;exact⟨v,h,fun _=>rfl,fun _ _ h=>h⟩
   |true=>
    rw[hs] at h
    simp only at h
    rw[nO,AEY] at h
    obtain⟨⟨v0,u0⟩,h1,h2⟩:=h
    obtain⟨b,hb,h3⟩:=sL h2
    simp only[pr,BA,DH] at h3
    obtain⟨rfl,rfl⟩:=h3
    exact⟨v0,h1,fun E=>by rw[WQ hb];rfl,fun _ _ _=>trivial⟩
  have A63:∀ cs b,o.op≠ .select cs b:=by
   intro cs b he
   rw[he] at ASC
   cases hfz:cx.AW9 o.dst <;> (cases hkq:(cx.keeps o.dst && Op.AMD (Op.select cs b)) <;> simp [core,core0,RZ,hfz,cX,AG9,Op.AMD] at ASC hkq)
  obtain⟨G,hG⟩:=hst.hd
  refine AWP hcx CD ASC c w E ⟨G,hG⟩ (fun x=>A3I hst.wf x) a _ Q ?_ ?_
  ·refine execOp_congr o A63 fun x hx=> ?_
   rw[VI hst.tT x]
   have:=LP.1 hnu x (by simpa using hx)
   unfold evc
   cases hv:ev fr x <;> first|rfl|(rw[hv] at this;simp [AB7] at this)
  ·intro E' w' hH hnm hds sA
   obtain⟨d1,d2⟩:=dI hst.wf hnm hds
   have hs' :Sim E' fr a:=⟨by rw[hst.tT.1,d1],hst.tT.2⟩
   refine hK E' _ w' ⟨?_,hH,d2.put o.dst (hvv.2 _ _ sA)⟩ hnm hds
   rw[<-hvv.1 E']
   exact hs'.put o.dst v
theorem AMM {W:List Nat} {fr:List SV} {d:Option Tmp} {v:SV} (h:∀ t,d=some t->t∈W):∀ t,t∉W->(SF fr d v).getD t AW=fr.getD t AW:=by
 intro t ht
 cases d with
 |none=>rfl
 |some d=>
  simp only[SF,FH]
  rw[AD]
  rintro⟨rfl,_⟩
  exact ht (h d rfl)
theorem sM (fr:List SV) (d:Option Tmp) (v:SV):(SF fr d v).length=fr.length:=by cases d <;> simp [SF]
theorem AGM {α:Type} {cx:Cx} (hcx:cx.Ok P) {W:List Nat} {c:EC cx.tb} {fr0:List SV} {L0:AL} {E0:Env} {K:List SV->AL->Option α} {r0:α}
  (hK:∀ E' fr' L' a' w',St c E' fr' L' a' w' ->Ext W E0 fr0 L0 E' fr' L' ->K fr' L' =some r0->Q .normal a' w'):
  ∀ (rest:List Oper) (k:Nat),ops.toList.drop k=rest->(∀ o∈rest,∀ d,o.dst=some d->d∈W)->∀ (E:Env) (fr:List SV) (L:AL) (a:Act) (w:World),St c E fr L a w->Ext W E0 fr0 L0 E fr L→
   ASB P cx ops.toList rest k fr L K=some r0->wpOps P ops Q (List.range' k rest.length) a w
 | [],k,_,_,E,fr,L,a,w,hst,MV,hv=>hK E fr L a w hst MV hv
 |o::rest,k,hd,hW,E,fr,L,a,w,hst,MV,hv=>by
  have QV:ops[k]? =some o:=by
   rw[<-kX]
   have:=PR (fun l=>l[0]?) hd
   simpa [cP] using this
  have hd' :ops.toList.drop (k+1)=rest:=by
   have:=PR (List.drop 1) hd
   simpa [ALV,AFJ] using this
  obtain⟨v,u,h1,h2⟩:=xC hv
  show wpOps P ops Q (k::List.range' (k+1) rest.length) a w
  rw[wpOps_cons]
  refine AML hcx QV hst (fun n e h=>h) h2 fun E' a' w' xE hnm hds=> ?_
  refine AGM hcx hK rest (k+1) hd' (fun o' ho' =>hW o' (by simp [ho'])) E' _ _ a' w' xE (MV.trans ?_) h1
  exact⟨hnm,fun t _=>by rw[hds],bI.AK L u,sM _ _ _,AMM fun t ht=>hW o (by simp) t ht⟩
end
end Go.V3
