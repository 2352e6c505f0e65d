import Derived.Test.YtjbojdpdkikioaaGreatDoorV3A
import Derived.Laws.BytesString
import Derived.Lib.ConvBytes
import Derived.Orders
set_option linter.unusedVariables false
set_option linter.unusedSimpArgs false
namespace Go.V3
open Go
variable {TB:Tb}
structure ZU where
 live:List (Nat×CT)
 boxes:List (Nat×CT)
 rows:List (Nat×Ty)
 dead:List Nat
 lost:List Nat
 base:Nat
 pins:List (Nat×Nat×Nat):=[]
inductive Xt where
 |YD
 |AJI
def Xt.sem:Xt->Array Value->Sem Value
 | .YD=>Extern.MathFloatBits.float64bits
 | .AJI=>Extern.MathFloatBits.float64frombits
def xtE (e:Xt) (args:List SV):Pu:=
 match e,args with
 | .YD,[.nf o _]=>UP (o.isSome=true/\o.getD 0<18446744073709551616) (.u64 (BitVec.ofNat 64 (o.getD 0)))
 | .YD,[.QP b]=>UP (b<18446744073709551616) (.u64 (BitVec.ofNat 64 b))
 | .AJI,[.u64 x]=>val (.QP x.toNat)
 |_,_=>none
structure Cx where
 nm:List (Nat×Nat×Nat)
 CG:List Nat
 fns:FuncId->Option FnI
 loops:List (Nat×ZU)
 bN:List (Nat×ZU)
 tb:Tb
 exts:List (Nat×Xt)
 lets:List Nat
 AXI:List Nat:=[]
 A0E:List Nat:=[]
 opens:List (Nat×(Nat×Nat×Nat)):=[]
 dyns:List Nat:=[]
def AGR {β α:Type} (x:β) (K:β->Option α):Option α:=K x
def ATH {α:Type} (b:Bool) (v:SV) (K:SV->Option α):Option α:=match b,v with
 |true,.u64 x=>AGR x fun x=>K (.u64 x)
 |true,.int k n=>AGR n fun n=>K (.int k n)
 |_,v=>K v
theorem AJJ {α:Type} (b:Bool) (v:SV) (K:SV->Option α):ATH b v K=K v:=by
 unfold ATH AGR;split <;> rfl
def Cx.A0F (cx:Cx):Option Tmp->Bool
 |some d=>cx.lets.contains d
 |none=>false
def Cx.AJK (cx:Cx):Option Tmp->Bool
 |some d=> !cx.A0E.contains d
 |none=>true
def Cx.A36 (cx:Cx):Option Tmp->Bool
 |some d=>cx.dyns.contains d
 |none=>false
def Cx.ATI (cx:Cx):Option Tmp->Bool
 |some d=>cx.AXI.contains d
 |none=>false
def ATJ (arr:Array Value) (k:Nat):Int:=match arr[k]? with
 |some (.int _ n)=>n
 |_=>0
def ADL (k:IntKind):List Value->Bool
 | []=>true
 | .int k' _::r=>decide (k=k') && ADL k r
 |_::_=>false
def lk {α:Type} (l:List (Nat×α)) (k:Nat):Option α:=
 match l with
 | []=>none
 |(a,b)::r=>if a=k then some b else lk r k
def Cx.IA (cx:Cx):Option Tmp->Nat×Nat
 |some d=>(match lk cx.nm d with
  |some q=>q
  |none=>(0,0))
 |none=>(0,0)
def Cx.base (cx:Cx) (d:Option Tmp):Nat:=(cx.IA d).1
def Cx.keeps (cx:Cx):Option Tmp->Bool
 |some d=>cx.CG.contains d
 |none=>false
def tyL:List (Option Ty)->Option Ty
 | []=>none
 | [x]=>x
 |x::r=>match x,tyL r with
  |some a,some b=>some (.pair a b)
  |_,_=>none
def qU (P:Program):Nat->TypeId->Option Ty
 |0,_=>none
 |n+1,t=>match P.underlying t with
  |some (.int k)=>some (match k with| .u64=> .u64|k=> .int k)
  |some .bool=>some .bool
  |some .string=>some .str
  |some (.float .f64)=>some .QP
  |some (.slice e)=>(match qU P n e with|some a=>some (.slice a)|none=>none)
  |some (.struct fs)=>tyL (fs.toList.map fun f=>qU P n f.type)
  |_=>none
def IX:Nat->Option AW:=fun _=>none
def LR:List (Int×Bool)->Int->Option Bool
 | [],_=>none
 |(a,b)::r,k=>if k=a then some b else LR r k
def W9:List (Int×Bool)->Int->Bool->List (Int×Bool)
 | [],k,v=>[(k,v)]
 |(a,b)::r,k,v=>if k=a then (k,v)::r else (a,b)::W9 r k v
def AAO (P:Program) (t:TypeId):Bool:=match P.underlying t with
 |some (.map k e)=>(match P.underlying k,P.info? e with
  |some (.int _),some q=>(match q.zero with
   |some (.bool false)=>true
   |_=>false)
  |_,_=>false)
 |_=>false
def fin (CG:Bool) (bs:Nat) (a:Ty) (xs:List a.T):C8:=(bs,.row a xs)::(match CG with
 |true=>[]
 |false=>[(bs,.shr a xs)])
section
variable (P:Program) (cx:Cx) (AP:Nat->Option AW) {α:Type}
def jJ (agg:Bool) (n:Nat) (a:Ty) (xs:List a.T) (k sz off bs:Nat) (K:SV->C8->Option α):Option α:=
 if sz=a.sz/\off+n<=a.sz/\IV AP bs a.HE=true then (match agg with
  |true=>K (.agg (((H_ a (gd a xs k) bs).drop off).take n)) (CX bs (B6 false a (gd a xs k)))
  |false=>(match (H_ a (gd a xs k) bs)[off]? with
   |some v=>K v (CX bs (B6 false a (gd a xs k)))
   |none=>none)) else none
def nT (i:Nat) (t:Ty) (xss:List (List t.T)) (h:Option (Nat×Nat)):Option (List (List t.T)×C8):=
 match h with
 |none=>some (xss,[])
 |some (k,j)=>(match AP j with
  |some (.row t' ys)=>if he:t' =t then some (xss.set k (HM he ys),[(j,.dead),(i,.deep t (xss.set k (HM he ys)) none)]) else none
  |_=>none)
def yF (deep:Bool) (t:Ty) (xss:List (List t.T)) (h:Option (Nat×Nat)) (i k sz off bs:Nat) (K:SV->C8->Option α):Option α:=
 if sz=1/\off=0 then (match IV AP bs 1 && (deep||h.isNone) with
  |true=>(match nT AP i t xss h with
   |some (ys,u)=>K (.MT bs) (u++ [(bs,.dead),(i,.deep t ys (some (k,bs))),(bs,.row t (ys.getD k []))])
   |none=>none)
  |false=>(match h with
   |some (k0,j)=>if k=k0 then K (.MT j) [] else none
   |none=>none)) else none
def yG (deep:Bool) (t:TypeId) (x:SV) (bs:Nat) (K:SV->C8->Option α):Option α:=
 match P.info? t,P.underlying t with
 |some q,some _=>(match x with
  | .loc i off=>(match AP i with
   |some (.box cs)=>(match GU P t with
    |true=>if off+q.size<=cs.length then K (.agg ((cs.drop off).take q.size)) [] else none
    |false=>(match cs[off]? with
     |some v=>K v []
     |none=>none))
   |some (.ptr j)=>(match GU P t with
    |true=>none
    |false=>if off=0 then K (.loc j 0) [] else none)
   |_=>none)
  | .el i k sz off=>(match AP i with
   |some (.row a xs)=>jJ AP (GU P t) q.size a xs k sz off bs K
   |some (.shr a xs)=>jJ AP (GU P t) q.size a xs k sz off bs K
   |some (.deep a xss h)=>(match GU P t with
    |true=>none
    |false=>yF AP deep a xss h i k sz off bs K)
   |some (.tree _ _ _)=>(match GU P t with
    |true=>none
    |false=>if sz=2/\off<2 then K (.tsl i k off) [] else none)
   |_=>none)
  |_=>none)
 |_,_=>none
def loadT (t:TypeId) (g off:Nat) (K:SV->C8->Option α):Option α:=
 match lk cx.tb g,P.underlying t,P.info? t with
 |some arr,some (.int k),some _=>(match k with
  | .u64=>none
  |k=>if ADL k arr.toList=true then (if off<arr.size then K (.int k (ATJ arr off)) [] else none) else none)
 |_,_,_=>none
def yH:SV->Bool
 | .agg _=>false
 | .tup _=>false
 | .raw (.agg _)=>false
 | .raw (.tuple _)=>false
 | .nF _=>false
 |_=>true
def AP0:SV->Bool
 | .MT _=>false
 | .nf _ _=>false
 |_=>true
def AVU (cs:List SV) (off n:Nat):Bool:=(cs.take off).all AP0 && (cs.drop (off+n)).all AP0
def rP (n:Nat) (a:Ty) (xs:List a.T) (i k sz off:Nat) (v:SV) (K:SV->C8->Option α):Option α:=
 if sz=a.sz/\off+n<=a.sz/\(BI v).length=n/\NK v=false then
  (if off=0/\n=a.sz then (match FQ .fM AP a (BI v) with
   |some (y,[],_,u)=>(match u.all (fun q=> !(q.1==i)) with
    |true=>K AV (u++ [(i,.row a (xs.set k y))])
    |false=>none)
   |_=>none)
  else if a.HE=0 then (match FQ .bF IX a (DT (H_ a (gd a xs k) 0) off (BI v)) with
   |some (y,[],_,_)=>K AV [(i,.row a (xs.set k y))]
   |_=>none)
  else (match AVU (H_ a (gd a xs k) 0) off n with
   |true=>(match FQ .fM AP a (DT (H_ a (gd a xs k) 0) off (BI v)) with
    |some (y,[],_,u)=>(match u.all (fun q=> !(q.1==i)) with
     |true=>K AV (u++ [(i,.row a (xs.set k y))])
     |false=>none)
    |_=>none)
   |false=>none))
 else none
def ZH (a:Ty):Nat->List SV->Option (List a.T×C8)
 |0,[]=>some ([],[])
 |0,_::_=>none
 |n+1,cs=>match FQ .fM AP a cs with
  |some (x,r,_,u)=>(match ZH a n r with
   |some (xs,u')=>some (x::xs,u++u')
   |none=>none)
  |none=>none
def lJ (n len:Nat) (a:Ty) (xs:List a.T) (i k off:Nat) (v:SV) (K:SV->C8->Option α):Option α:=
 if k=0/\off=0/\a.HE=0/\(BI v).length=n/\(BI v).all yH=true/\NK v=false then
  (match ZH IX a len (BI v) with
  |some (ys,_)=>if xs.length=len then K AV [(i,.row a ys)] else none
  |none=>none)
 else none
def AAP (n:Nat) (t:Ty) (xss:List (List t.T)) (h:Option (Nat×Nat)) (i k sz off:Nat) (v:SV) (K:SV->C8->Option α):Option α:=
 if n=1/\sz=1/\off=0 then (match v with
  | .MT j=>(match AP j with
   |some (.row t' ys)=>if he:t' =t then (match h with
    |none=>K AV [(j,.dead),(i,.deep t (xss.set k (HM he ys)) none)]
    |some (k0,_)=>if k=k0 then K AV [(j,.dead),(i,.deep t (xss.set k (HM he ys)) none)] else none) else none
   |_=>none)
  |_=>none) else none
def AXJ (q1:TypeInfo) (i k q:Nat) (n:Int) (K:SV->C8->Option α):Option α:=match AP i with
 |some (.tree t1 t2 xs)=>(match q with
  |0=>if q1.size=1/\t1.sz=1 then (if 0<=n/\n<((gd (.pair (.slice t1) (.slice t2)) xs k).1.length:Int) then K (.tel i k 0 n.toNat) [] else none) else none
  |1=>if q1.size=1/\t2.sz=1 then (if 0<=n/\n<((gd (.pair (.slice t1) (.slice t2)) xs k).2.length:Int) then K (.tel i k 1 n.toNat) [] else none) else none
  |_=>none)
 |_=>none
def storeT (n:Nat) (i k q j:Nat) (v:SV) (K:SV->C8->Option α):Option α:=match AP i with
 |some (.tree t1 t2 xs)=>if n=1/\NK v=false/\yH v=true then (match q with
  |0=>(match FQ .bF IX t1 [v] with
   |some (y,[],_,_)=>if t1.HE=0/\t1.sz=1 then K AV [(i,.tree t1 t2 (xs.set k ((gd (.pair (.slice t1) (.slice t2)) xs k).1.set j y,(gd (.pair (.slice t1) (.slice t2)) xs k).2)))] else none
   |_=>none)
  |1=>(match FQ .bF IX t2 [v] with
   |some (y,[],_,_)=>if t2.HE=0/\t2.sz=1 then K AV [(i,.tree t1 t2 (xs.set k ((gd (.pair (.slice t1) (.slice t2)) xs k).1,(gd (.pair (.slice t1) (.slice t2)) xs k).2.set j y)))] else none
   |_=>none)
  |_=>none) else none
 |_=>none
def nU (t:TypeId) (x v:SV) (K:SV->C8->Option α):Option α:=
 match P.info? t with
 |some q=>(match x with
  | .loc i off=>(match AP i with
   |some (.box cs)=>if (BI v).length=q.size/\(BI v).all yH=true/\NK v=false/\off+(BI v).length<=cs.length then K AV [(i,.box (DT cs off (BI v)))] else none
   |_=>none)
  | .el i k sz off=>(match AP i with
   |some (.row a xs)=>(match P.underlying t with
    |some (.array len _)=>lJ q.size len a xs i k off v K
    |_=>rP AP q.size a xs i k sz off v K)
   |some (.deep a xss h)=>AAP AP q.size a xss h i k sz off v K
   |_=>none)
  | .tel i k h j=>storeT AP q.size i k h j v K
  |_=>none)
 |none=>none
def nV (t:TypeId) (CG:Bool) (bs:Nat) (K:SV->C8->Option α):Option α:=
 match NL P t with
 |some z=>if IV AP bs 1=true then (match P.underlying t with
  |some (.array len e)=>(match qU P 8 e,P.info? e with
   |some a,some q=>if q.size=a.sz/\a.HE=0/\0<len then (match ZH IX a len z with
    |some (xs,_)=>K (.el bs 0 a.sz 0) (fin CG bs a xs)
    |none=>none) else none
   |_,_=>none)
  |_=>if UQ (z.map fun v=>(0,v))=true then K (.loc bs 0) [(bs,.box z)] else none) else none
 |none=>none
def ALW (x:SV) (bs:Nat) (K:SV->C8->Option α):Option α:=
 if NK x=false/\IV AP bs 1=true then K (.loc bs 0) [(bs,.box (BI x))] else none
def OF (t:TypeId) (len:Nat) (parts:List (Nat×SV)) (CG:Bool) (bs:Nat) (K:SV->C8->Option α):Option α:=
 match P.underlying t with
 |some (.slice e)=>(match P.info? e,NL P e,qU P 8 e with
  |some q,some z,some a=>
   if z.length=q.size/\q.size=a.sz/\len*q.size<=16777216/\UQ parts=true/\IV AP bs 1=true then
    (match bD (fun i=>some (i*q.size,q.size)) (fresh z (len*q.size) q.size) parts with
    |some cs=>(match ZH AP a len cs with
     |some (xs,u)=>K (.MT bs) (u++fin CG bs a xs)
     |none=>none)
    |none=>none)
   else none
  |_,_,_=>none)
 |_=>none
def QE (t:TypeId) (l c:SV) (CG:Bool) (bs:Nat) (K:SV->C8->Option α):Option α:=
 match P.underlying t with
 |some (.slice e)=>(match P.info? e,NL P e,qU P 8 e,l,c with
  |some q,some z,some a,.int _ n,.int _ m=>(match FQ .bF IX a z with
   |some (zv,[],_,_)=>
    if z.length=q.size/\q.size=a.sz/\q.bytes≠0/\IV AP bs 1=true then
     (if 0<=n/\n<=m/\m*q.bytes<=140737488355328 then K (.MT bs) (fin CG bs a (List.replicate n.toNat zv)) else none)
    else none
   |_=>none)
  |_,_,_,_,_=>none)
 |_=>none
def AP1 (t:TypeId):Bool:=match P.underlying t with
 |some (.slice e)=>(match P.underlying e with
  |some (.slice _)=>true
  |_=>false)
 |_=>false
def yI (t:TypeId) (l c:SV) (bs:Nat) (K:SV->C8->Option α):Option α:=
 match P.underlying t with
 |some (.slice e)=>(match P.info? e,NL P e,qU P 8 e,l,c with
  |some q,some [.LJ],some (.slice a),.int _ n,.int _ m=>
   if q.size=1/\q.bytes≠0/\IV AP bs 1=true then
    (if 0<=n/\n<=m/\m*q.bytes<=140737488355328 then K (.MT bs) [(bs,.deep a (List.replicate n.toNat []) none)] else none)
   else none
  |_,_,_,_,_=>none)
 |_=>none
def nW (t:TypeId) (len:Nat) (parts:List (Nat×SV)) (bs:Nat) (K:SV->C8->Option α):Option α:=
 match P.underlying t with
 |some (.slice e)=>(match P.info? e,NL P e,qU P 8 e,parts with
  |some q,some [.LJ],some (.slice a),[(0,.MT j)]=>(match AP j with
   |some (.row t' ys)=>if he:t' =a then
    (if q.size=1/\len=1/\IV AP bs 1=true then K (.MT bs) [(j,.dead),(bs,.deep a [HM he ys] none)] else none) else none
   |_=>none)
  |some q,some [.LJ],some (.slice a),[(0,.LJ)]=>if q.size=1/\len=1/\IV AP bs 1=true then K (.MT bs) [(bs,.deep a [[]] none)] else none
  |_,_,_,_=>none)
 |_=>none
def AXK (t:TypeId):Bool:=match P.underlying t with
 |some (.slice e)=>(match qU P 8 e with
  |some (.pair (.slice _) (.slice _))=>true
  |_=>false)
 |_=>false
def lK (t:Ty):SV->Option (List t.T×C8)
 | .LJ=>some ([],[])
 | .MT i=>(match AP i with
  |some (.row t' ys)=>if he:t' =t then some (HM he ys,[(i,.dead)]) else none
  |_=>none)
 |_=>none
def nX (t:TypeId) (len:Nat) (parts:List (Nat×SV)) (bs:Nat) (K:SV->C8->Option α):Option α:=
 match P.underlying t with
 |some (.slice e)=>(match P.info? e,NL P e,qU P 8 e,parts with
  |some q,some [.LJ,.LJ],some (.pair (.slice a) (.slice b)),[(0,.agg [v1,v2])]=>(match lK AP a v1,lK AP b v2 with
   |some (y1,u1),some (y2,u2)=>if q.size=2/\len=1/\IV AP bs 1=true/\u1.all (fun q=>u2.all (fun r=> !(r.1==q.1)))=true then K (.MT bs) (u1++u2++ [(bs,.tree a b [(y1,y2)])]) else none
   |_,_=>none)
  |_,_,_,_=>none)
 |_=>none
def ADM (a b:Ty):SV->Option (List (List a.T×List b.T)×C8)
 | .LJ=>some ([],[])
 | .MT i=>(match AP i with
  |some (.tree t1 t2 xs)=>if he:t1=a/\t2=b then some (he.1 ▸ he.2 ▸ xs,[(i,.dead)]) else none
  |_=>none)
 |_=>none
def ATK:SV->Bool
 | .MT i=>(match AP i with
  |some (.tree _ _ _)=>true
  |_=>false)
 |_=>false
def eU (ts:List TypeId) (x y:SV) (bs:Nat) (K:SV->C8->Option α):Option α:=
 match ts with
 | [t0,t1]=>(match P.underlying t0,P.underlying t1 with
  |some (.slice e),some (.slice _)=>(match P.info? e,NL P e,qU P 8 e with
   |some q,some [.LJ,.LJ],some (.pair (.slice a) (.slice b))=>
    if q.size=2/\q.bytes≠0/\IV AP bs 1=true then
     (match ADM AP a b x,ADM AP a b y with
     |some (xs,u1),some (ys,u2)=>(match u1.all (fun q=>u2.all (fun r=> !(r.1==q.1))) with
      |true=>if (xs.length+ys.length)*q.bytes<=140737488355328 then K (.MT bs) (u1++u2++ [(bs,.tree a b (xs++ys))]) else none
      |false=>none)
     |_,_=>none)
    else none
   |_,_,_=>none)
  |_,_=>none)
 |_=>none
def V5:SV->Bool
 | .MT i=>(match AP i with
  |some (.deep _ _ _)=>true
  |some (.tree _ _ _)=>true
  |_=>false)
 |_=>false
def ADN (a:Ty):SV->Option (List (List a.T)×C8)
 | .LJ=>some ([],[])
 | .MT i=>(match AP i with
  |some (.deep t xss none)=>if he:t=a then some (HM (MS Ty.slice he) xss,[(i,.dead)]) else none
  |_=>none)
 |_=>none
def ATL (CG:Bool) (bs:Nat) (a:Ty) (xss:List (List a.T)):C8:=match CG with
 |true=>[]
 |false=>[(bs,.shr (.slice a) xss)]
def UA (ts:List TypeId) (x y:SV) (CG:Bool) (bs:Nat) (K:SV->C8->Option α):Option α:=
 match ts with
 | [t0,t1]=>(match P.underlying t0,P.underlying t1 with
  |some (.slice e),some (.slice _)=>(match P.info? e,NL P e,qU P 8 e with
   |some q,some [.LJ],some (.slice a)=>
    if q.size=1/\q.bytes≠0/\IV AP bs 1=true then
     (match ADN AP a x,ADN AP a y with
     |some (xs,u1),some (ys,u2)=>(match u1.all (fun q=>u2.all (fun r=> !(r.1==q.1))) with
      |true=>if (xs.length+ys.length)*q.bytes<=140737488355328 then K (.MT bs) (u1++u2++ [(bs,.deep a (xs++ys) none)]++ATL CG bs a (xs++ys)) else none
      |false=>none)
     |_,_=>none)
    else none
   |_,_,_=>none)
  |_,_=>none)
 |_=>none
def AP2 :SV->Option Nat
 | .LJ=>some 0
 | .MT i=>(match AP i with
  |some (.row _ xs)=>some xs.length
  |some (.shr _ xs)=>some xs.length
  |some (.deep _ xss _)=>some xss.length
  |some (.tree _ _ xs)=>some xs.length
  |_=>none)
 | .sub _ _ n _=>some n
 |_=>none
def eV (ts:List TypeId) (x y:SV) (CG:Bool) (bs:Nat) (K:SV->C8->Option α):Option α:=
 match ts with
 | [t0,t1]=>(match P.underlying t0,P.underlying t1 with
  |some (.slice e),some (.slice _)=>(match P.info? e,NL P e,qU P 8 e with
   |some q,some z,some a=>
    if z.length=q.size/\q.size=a.sz/\q.bytes≠0/\IV AP bs 1=true then
     (match YB AP a x,MV .bF AP a y with
     |some (xs,_,u1),some (ys,ne,u2)=>
      (match u1.all (fun q=>u2.all (fun r=> !(r.1==q.1))) with
      |true=>if (xs.length+ys.length)*q.bytes<=140737488355328 then K (.MT bs) (u2++u1++fin CG bs a (xs++ys)) else none
      |false=>none)
     |_,_=>none)
    else none
   |_,_,_=>none)
  |_,_=>none)
 |_=>none
def nY (t:TypeId) (x:SV) (low high:Option SV) (CG:Bool) (bs:Nat) (K:SV->C8->Option α):Option α:=
 match P.underlying t with
 |some (.slice e)=>(match P.info? e,x with
  |some q,.MT i=>(match AP i with
   |some (.row a xs)=>(match CG with
    |false=>if q.size=a.sz then (match bnd high xs.length,bnd low 0 with
     |some (h,hn),some (l,ln)=>if Bd l h hn xs.length then K (.sub i ln (hn-ln) a.sz) [] else none
     |_,_=>none) else none
    |true=>if q.size=a.sz/\IV AP bs 1=true then (match bnd high xs.length,bnd low 0 with
     |some (h,hn),some (l,ln)=>if Bd l h hn xs.length then K (.MT bs) [(i,.dead),(bs,.row a (B5 xs ln (hn-ln)))] else none
     |_,_=>none) else none)
   |some (.shr a xs)=>if q.size=a.sz/\IV AP bs 1=true then (match bnd high xs.length,bnd low 0 with
    |some (h,hn),some (l,ln)=>if Bd l h hn xs.length then K (.MT bs) [(bs,.shr a (B5 xs ln (hn-ln)))] else none
    |_,_=>none) else none
   |_=>none)
  |_,_=>none)
 |_=>none
def nZ (t:TypeId) (x i:SV) (K:SV->C8->Option α):Option α:=
 match P.underlying t,idxOf i with
 |some (.slice e),some n=>(match P.info? e,x with
  |some q,.MT j=>(match AP j with
   |some (.row a xs)=>if q.size=a.sz then (if 0<=n/\n<(xs.length:Int) then K (.el j n.toNat a.sz 0) [] else none) else none
   |some (.shr a xs)=>if q.size=a.sz then (if 0<=n/\n<(xs.length:Int) then K (.el j n.toNat a.sz 0) [] else none) else none
   |some (.deep _ xss _)=>if q.size=1 then (if 0<=n/\n<(xss.length:Int) then K (.el j n.toNat 1 0) [] else none) else none
   |some (.tree _ _ xs)=>if q.size=2 then (if 0<=n/\n<(xs.length:Int) then K (.el j n.toNat 2 0) [] else none) else none
   |_=>none)
  |some q,.tsl i k h=>AXJ AP q i k h n K
  |some q,.sub j lo len sz=>(match AP j with
   |some (.row a _)=>if q.size=sz/\sz=a.sz then (if 0<=n/\n<(len:Int) then K (.el j (lo+n.toNat) sz 0) [] else none) else none
   |_=>none)
  |_,_=>none)
 |some (.array len e),some n=>(match P.info? e,x with
  |some q,.el j k sz off=>(match AP j with
   |some (.row a xs)=>if q.size=a.sz/\sz=a.sz/\k=0/\off=0 then (if (0<=n/\n<(len:Int))/\n<(xs.length:Int) then K (.el j n.toNat a.sz 0) [] else none) else none
   |_=>none)
  |_,_=>none)
 |_,_=>none
def lL (bs:Nat) (K:SV->C8->Option α):Option α:=
 if IV AP bs 1=true then K (.mpv bs) [(bs,.map [])] else none
def rQ (t:TypeId) (x i:SV) (ok:Bool) (K:SV->C8->Option α):Option α:=
 match x,i with
 | .mpv j,.int .i64 n=>(match AP j with
  |some (.map xs)=>(match AAO P t with
   |true=>(match ok with
    |true=>K (.tup [.bool ((LR xs n).getD false),.bool (LR xs n).isSome]) []
    |false=>K (.bool ((LR xs n).getD false)) [])
   |false=>none)
  |_=>none)
 |_,_=>none
def rR (t:TypeId) (x i v:SV) (K:SV->C8->Option α):Option α:=
 match x,i,toB v with
 | .mpv j,.int .i64 n,some b=>(match AP j with
  |some (.map xs)=>(match AAO P t with
   |true=>K AV [(j,.map (W9 xs n b))]
   |false=>none)
  |_=>none)
 |_,_,_=>none
def A0G (xs:List Int):ByteArray:=xs.foldl (fun r n=>r.push (UInt8.ofNat n.toNat)) ByteArray.empty
def jK (s:ByteArray):List Int:=s.data.toList.map fun b=>(b.toNat:Int)
def ATM (P:Program) (e:TypeId):Bool:=match P.underlying e with
 |some (.int .u8)=>true
 |_=>false
def AJL (s d:TypeId) (x:SV) (kp:Bool) (bs:Nat) (K:SV->C8->Option α):Option α:=
 match P.underlying s,P.underlying d with
 |some (.slice e),some .string=>(match ATM P e with
  |true=>(match V5 AP x with
   |true=>none
   |false=>(match MV .bF AP (.int .u8) x with
    |some (xs,_,_)=>K (.str (A0G xs)) []
    |none=>none))
  |false=>none)
 |some .string,some (.slice e)=>(match ATM P e && IV AP bs 1 with
  |true=>(match x with
   | .str t=>K (.MT bs) (fin kp bs (.int .u8) (jK t))
   |_=>none)
  |false=>none)
 |_,_=>none
def ADO (dst:Option Tmp) (ρ:Operand->SV) (K:SV->C8->Option α):Op->Option α
 | .load t x=>(match ρ x with
  | .ptr (some ⟨g,off,none⟩)=>loadT P cx t g off K
  |v=>yG P AP (cx.AJK dst) t v (cx.base dst) K)
 | .store t x y=>nU P AP t (ρ x) (ρ y) K
 | .alloc t=>nV P AP t (cx.keeps dst) (cx.base dst) K
 | .box _ x=>ALW AP (ρ x) (cx.base dst) K
 | .buildSlice t len parts=>(match cx.keeps dst && (cx.AJK dst && AP1 P t) with
  |true=>nW P AP t len (parts.toList.map fun q=>(q.1,ρ q.2)) (cx.base dst) K
  |false=>(match cx.keeps dst && (cx.AJK dst && AXK P t) with
   |true=>nX P AP t len (parts.toList.map fun q=>(q.1,ρ q.2)) (cx.base dst) K
   |false=>OF P AP t len (parts.toList.map fun q=>(q.1,ρ q.2)) (cx.keeps dst) (cx.base dst) K))
 | .makeSlice t l c=>(match cx.keeps dst && (cx.AJK dst && AP1 P t) with
  |true=>yI P AP t (ρ l) (ρ c) (cx.base dst) K
  |false=>QE P AP t (ρ l) (ρ c) (cx.keeps dst) (cx.base dst) K)
 | .slice t x l h none=>nY P AP t (ρ x) (l.map ρ) (h.map ρ) (cx.keeps dst) (cx.base dst) K
 | .indexAddr t x i=>nZ P AP t (ρ x) (ρ i) K
 | .call { callee:= .builtin .len,args,argTypes }=>(match args.toList.map ρ,argTypes.toList with
  | [x],[t]=>(match P.underlying t,AP2 AP x with
   |some (.slice _),some n=>K (.int .i64 n) []
   |_,_=>none)
  |_,_=>none)
 | .call { callee:= .builtin .append,args,argTypes }=>(match args.toList.map ρ with
  | [x,y]=>(match V5 AP y with
   |true=>(match ATK AP y with
    |true=>eU P AP argTypes.toList x y (cx.base dst) K
    |false=>UA P AP argTypes.toList x y (cx.keeps dst) (cx.base dst) K)
   |false=>eV P AP argTypes.toList x y (cx.keeps dst) (cx.base dst) K)
  |_=>none)
 | .makeMap _ none=>lL AP (cx.base dst) K
 | .convert s d x=>AJL P AP s d (ρ x) (cx.keeps dst) (cx.base dst) K
 | .binOp .quo _ x y _=>(match ρ x,ρ y with
  | .QP a,.QP b=>(match IV AP (cx.base dst) 1 with
   |true=>K (.nf (JW .quo a b) (cx.base dst)) [((cx.base dst),.dead)]
   |false=>none)
  |_,_=>none)
 | .lookup t x i ok=>rQ P AP t (ρ x) (ρ i) ok K
 | .mapUpdate t x i v=>rR P AP t (ρ x) (ρ i) (ρ v) K
 | .call { callee:= .value f,args,.. }=>(match ALQ (ρ f) with
  |some (n,cs)=>(match cx.fns n with
   |some fi=>AJG (cx.A36 dst) fi (cx.base dst) AP (args.toList.map ρ++cs) K
   |none=>(match lk cx.exts n with
    |some e=>(match xtE e (args.toList.map ρ++cs) with
     |some (none,v)=>K v []
     |some (some q,v)=> @ite _ q.p q.d (K v []) none
     |none=>none)
    |none=>none))
  |_=>none)
 |_=>none
def lM (v:SV) (K:SV->C8->Option α):Option α:=
 match v with
 | .MT i=>(match AP i with
  |some (.deep t xss h)=>(match nT AP i t xss h with
   |some (ys,u)=>K (.MT i) (u++ [(i,.shr (.slice t) ys)])
   |none=>none)
  |_=>K (.MT i) [])
 |v=>K v []
def QR (ρ:Operand->SV) (K:SV->C8->Option α):Op->Option α
 | .move x=>lM AP (ρ x) K
 | .assign x=>lM AP (ρ x) K
 |_=>none
def Op.AJM:Op->Bool
 | .binOp .quo _ _ _ _=>true
 |_=>false
def core0 (dst:Option Tmp) (ρ:Operand->SV) (K:SV->C8->Option α) (op:Op):Option α:=
 match (match cx.keeps dst && Op.AJM op with
  |true=>none
  |false=>bE P ρ op) with
 |some (none,v)=>ATH (cx.A0F dst) v fun v=>K v []
 |some (some q,v)=> @ite _ q.p q.d (ATH (cx.A0F dst) v fun v=>K v []) none
 |none=>ADO P cx AP dst ρ K op
def core (dst:Option Tmp) (ρ:Operand->SV) (K:SV->C8->Option α) (op:Op):Option α:=
 match cx.ATI dst with
 |true=>QR AP ρ K op
 |false=>core0 P cx AP dst ρ K op
end
section
variable {P:Program} {cx:Cx} {AP:Nat->Option AW} {α:Type}
def pr (v:SV) (u:C8):Option (SV×C8):=some (v,u)
theorem AGS (agg:Bool) (n:Nat) (a:Ty) (xs:List a.T) (k sz off bs:Nat) (K:SV->C8->Option α):
  jJ AP agg n a xs k sz off bs K=(jJ AP agg n a xs k sz off bs pr).bind (fun q=>K q.1 q.2):=by
 unfold jJ
 split
 ·cases agg
  ·simp only;split <;> rfl
  ·rfl
 ·rfl
theorem ALX (deep:Bool) (t:Ty) (xss:List (List t.T)) (h:Option (Nat×Nat)) (i k sz off bs:Nat) (K:SV->C8->Option α):
  yF AP deep t xss h i k sz off bs K=(yF AP deep t xss h i k sz off bs pr).bind (fun q=>K q.1 q.2):=by
 unfold yF
 repeat' split
 all_goals rfl
theorem ALY (deep:Bool) (t:TypeId) (x:SV) (bs:Nat) (K:SV->C8->Option α):yG P AP deep t x bs K=(yG P AP deep t x bs pr).bind (fun q=>K q.1 q.2):=by
 unfold yG
 repeat' split
 all_goals first|rfl|exact AGS _ _ _ _ _ _ _ _ _|exact ALX _ _ _ _ _ _ _ _ _ _
theorem AGT (t:TypeId) (x v:SV) (K:SV->C8->Option α):nU P AP t x v K=(nU P AP t x v pr).bind (fun q=>K q.1 q.2):=by
 unfold nU rP lJ AAP storeT
 repeat' split
 all_goals rfl
theorem AGU (t:TypeId) (CG:Bool) (bs:Nat) (K:SV->C8->Option α):nV P AP t CG bs K=(nV P AP t CG bs pr).bind (fun q=>K q.1 q.2):=by
 unfold nV
 repeat' split
 all_goals rfl
theorem AP3 (x:SV) (bs:Nat) (K:SV->C8->Option α):ALW AP x bs K=(ALW AP x bs pr).bind (fun q=>K q.1 q.2):=by
 unfold ALW;split <;> rfl
theorem qV (t:TypeId) (len:Nat) (parts:List (Nat×SV)) (CG:Bool) (bs:Nat) (K:SV->C8->Option α):OF P AP t len parts CG bs K=(OF P AP t len parts CG bs pr).bind (fun q=>K q.1 q.2):=by
 unfold OF
 repeat' split
 all_goals rfl
theorem tM (t:TypeId) (l c:SV) (CG:Bool) (bs:Nat) (K:SV->C8->Option α):QE P AP t l c CG bs K=(QE P AP t l c CG bs pr).bind (fun q=>K q.1 q.2):=by
 unfold QE
 repeat' split
 all_goals rfl
theorem ADP (ts:List TypeId) (x y:SV) (CG:Bool) (bs:Nat) (K:SV->C8->Option α):eV P AP ts x y CG bs K=(eV P AP ts x y CG bs pr).bind (fun q=>K q.1 q.2):=by
 unfold eV
 repeat' split
 all_goals rfl
theorem ALZ (t:TypeId) (l c:SV) (bs:Nat) (K:SV->C8->Option α):yI P AP t l c bs K=(yI P AP t l c bs pr).bind (fun q=>K q.1 q.2):=by
 unfold yI
 repeat' split
 all_goals rfl
theorem AGV (t:TypeId) (len:Nat) (parts:List (Nat×SV)) (bs:Nat) (K:SV->C8->Option α):nX P AP t len parts bs K=(nX P AP t len parts bs pr).bind (fun q=>K q.1 q.2):=by
 unfold nX
 repeat' split
 all_goals rfl
theorem ADQ (ts:List TypeId) (x y:SV) (bs:Nat) (K:SV->C8->Option α):eU P AP ts x y bs K=(eU P AP ts x y bs pr).bind (fun q=>K q.1 q.2):=by
 unfold eU
 repeat' split
 all_goals rfl
theorem AGW (t:TypeId) (len:Nat) (parts:List (Nat×SV)) (bs:Nat) (K:SV->C8->Option α):nW P AP t len parts bs K=(nW P AP t len parts bs pr).bind (fun q=>K q.1 q.2):=by
 unfold nW
 repeat' split
 all_goals rfl
theorem ADR (ts:List TypeId) (x y:SV) (CG:Bool) (bs:Nat) (K:SV->C8->Option α):UA P AP ts x y CG bs K=(UA P AP ts x y CG bs pr).bind (fun q=>K q.1 q.2):=by
 unfold UA
 repeat' split
 all_goals rfl
theorem ADS (ρ:Operand->SV) (K:SV->C8->Option α) (op:Op):QR AP ρ K op=(QR AP ρ pr op).bind (fun q=>K q.1 q.2):=by
 unfold QR lM
 repeat' split
 all_goals rfl
theorem AGX (t:TypeId) (x:SV) (low high:Option SV) (CG:Bool) (bs:Nat) (K:SV->C8->Option α):nY P AP t x low high CG bs K=(nY P AP t x low high CG bs pr).bind (fun q=>K q.1 q.2):=by
 unfold nY
 repeat' split
 all_goals rfl
theorem AGY (t:TypeId) (x i:SV) (K:SV->C8->Option α):nZ P AP t x i K=(nZ P AP t x i pr).bind (fun q=>K q.1 q.2):=by
 unfold nZ AXJ
 repeat' split
 all_goals rfl
theorem W_ (fi:FnI) (base:Nat) (args:List SV) (K:SV->C8->Option α):pH fi base AP args K=(pH fi base AP args pr).bind (fun q=>K q.1 q.2):=by
 unfold pH
 split
 ·rfl
 ·split
  ·rfl
  ·split
   ·rfl
   ·split
    ·rw[Option.bind_assoc];rfl
    ·rfl
theorem AM0 (fi:FnI) (base:Nat) (args:List SV) (K:SV->C8->Option α):yE fi base AP args K=(yE fi base AP args pr).bind (fun q=>K q.1 q.2):=by
 unfold yE
 split
 ·exact W_ _ _ _ _
 ·split
  ·rw[W_]
   conv=>rhs;arg 1;rw[W_]
   rw[Option.bind_assoc]
   congr 1
   funext q
   split
   ·split <;> rfl
   ·rfl
  ·rfl
theorem AM1 (fi:FnI) (base:Nat) (args:List SV) (K:SV->C8->Option α):x9 fi base AP args K=(x9 fi base AP args pr).bind (fun q=>K q.1 q.2):=by
 unfold x9
 split
 ·rfl
 ·split
  ·rfl
  ·split
   ·rfl
   ·split
    ·rw[Option.bind_assoc]
     congr 1
     funext r
     cases ZF (fi.rs++fi.os) r with
     |true=>rfl
     |false=>exact W_ _ _ _ _
    ·rfl
theorem AM2 (d:Bool) (fi:FnI) (base:Nat) (args:List SV) (K:SV->C8->Option α):AJG d fi base AP args K=(AJG d fi base AP args pr).bind (fun q=>K q.1 q.2):=by
 cases d
 ·exact AM0 _ _ _ _
 ·exact AM1 _ _ _ _
theorem AP4 (dst:Option Tmp) (ρ:Operand->SV) (K:SV->C8->Option α) (op:Op):ADO P cx AP dst ρ K op=(ADO P cx AP dst ρ pr op).bind (fun q=>K q.1 q.2):=by
 unfold ADO
 split
 ·split
  ·unfold loadT
   repeat' split
   all_goals rfl
  ·exact ALY _ _ _ _ _
 ·exact AGT _ _ _ _
 ·exact AGU _ _ _ _
 ·exact AP3 _ _ _
 ·split
  ·exact AGW _ _ _ _ _
  ·split
   ·exact AGV _ _ _ _ _
   ·exact qV _ _ _ _ _ _
 ·split
  ·exact ALZ _ _ _ _ _
  ·exact tM _ _ _ _ _ _
 ·exact AGX _ _ _ _ _ _ _
 ·exact AGY _ _ _ _
 ·repeat' split
  all_goals rfl
 ·split
  ·split
   ·split
    ·exact ADQ _ _ _ _ _
    ·exact ADR _ _ _ _ _ _
   ·exact ADP _ _ _ _ _ _
  ·rfl
 ·unfold lL
  split <;> rfl
 ·unfold AJL
  repeat' split
  all_goals rfl
 ·repeat' split
  all_goals rfl
 ·unfold rQ
  repeat' split
  all_goals rfl
 ·unfold rR
  repeat' split
  all_goals rfl
 ·split
  ·split
   ·exact AM2 _ _ _ _ _
   ·split
    ·split
     ·rfl
     ·rename_i q v _
      have:=q.d
      by_cases hp:q.p <;> simp [hp,pr]
     ·rfl
    ·rfl
  ·rfl
 ·rfl
theorem lN (dst:Option Tmp) (ρ:Operand->SV) (K:SV->C8->Option α) (op:Op):core P cx AP dst ρ K op=(core P cx AP dst ρ pr op).bind (fun q=>K q.1 q.2):=by
 unfold core
 split
 ·exact ADS _ _ _
 unfold core0
 simp only[AJJ]
 split
 ·rfl
 ·rename_i q v _
  have:=q.d
  by_cases hp:q.p <;> simp [hp,pr]
 ·exact AP4 _ _ _ _
end
end Go.V3
namespace Go.V3
open Go
variable {TB:Tb}
theorem Own.inner {α:Type} {R:α->List Value->Prop} {sz:Nat} {c:DW TB} {G:Nat->Prop} {w:World} {m:Nm} {xs:List α} (h:Own R sz c G w m xs):FY R sz w m xs:=by
 obtain⟨h1,h2,h3⟩:=h
 exact⟨h1,h2,h3.imp id fun ⟨a,_,_,d,e⟩=>⟨a,d,e⟩⟩
def n5 (m:Nm) (l:List Nat):List Nat:=if m.nil=true then l else m.B_::l
theorem LS {m:Nm} {l:List Nat} {b:Nat}:b∈n5 m l↔b∈l\/(m.nil=false/\b=m.B_):=by
 unfold n5
 cases hm:m.nil with
 |true=>simp
 |false=>simp [or_comm]
section
variable {P:Program} {L:AK}
theorem FT.put {c:DW TB} {G:Nat->Prop} {w w' :World} {E E' :Env} {L' :AK} {m:Nm} {l:List Nat} {t:Ty} {xss:List (List t.T)} {h:Option (Nat×Nat)} (d:FT c G w E L m l t xss h)
  {k:Nat} (hh:∀ k' j',h=some (k',j')->k' =k) (hk:k<xss.length) {nb:Nm} {ys:List t.T} (OE:FY (Rp G w t) t.sz w nb ys)
  (hnb:nb.nil=false->nb.B_∉l/\¬G nb.B_/\¬c.Old nb.B_) (hw:∀ b,b≠m.B_->w'.heap[b]? =w.heap[b]?)
  (AXL:∀ arr ty,m.nil=false->w.heap[m.B_]? =some (.cells arr ty (0,0))->k<arr.size->∃ ty',w'.heap[m.B_]? =some (.cells (arr.setIfInBounds k (.slice nb.ad nb.len nb.cap)) ty' (0,0))):
  FT c G w' E' L' m (n5 nb l) t (xss.set k ys) none:=by
 obtain⟨d1,d2,d3,d4,d5⟩:=d
 rcases d5 with ⟨h1,h2,h3⟩|⟨h1,h2,h3,arr,ty,hs,h4,h5,h6,h7,h8,h9⟩
 ·rw[h2] at hk;simp at hk
 obtain⟨ty',k4⟩:=AXL arr ty h1 h4 (by omega)
 have hG:∀ b,G b->w'.heap[b]? =w.heap[b]? :=fun b hb=>hw b (fun he=>(d4 _ h2).1 (he ▸ hb))
 have wD:∀ (x:t.T) (vs:List Value),Rp G w t x vs->Rp G w' t x vs:=fun x vs hx=>Rp.mono hG (fun _ h=>h) t x vs hx
 have CO:nb.nil=false->nb.B_≠m.B_:=fun hn he=>(hnb hn).1 (he ▸ h2)
 have H9:(n5 nb l).Nodup:=by
  unfold n5
  split
  ·exact d3
  ·rename_i hn
   exact UM.2 ⟨(hnb (by simpa using hn)).1,d3⟩
 have LU:∀ k',k' ≠k->∀ j,h≠some (k',j):=fun k' HU j he=>HU (hh k' j he)
 refine⟨by rw[EP];exact d1,d2,H9, ?_,.inr ⟨h1,LS.2 (.inl h2),by rw[EP];exact h3,_,ty',fun k' =>if k' =k then nb else hs k',k4,by rw[Array.size_setIfInBounds];exact h5, ?_, ?_, ?_, ?_⟩⟩
 ·intro b hb
  rcases LS.1 hb with hb|⟨hn,rfl⟩
  ·obtain⟨q1,q2,q3⟩:=d4 b hb
   refine⟨q1,q2, ?_⟩
   by_cases hbm:b=m.B_
   ·subst hbm;exact⟨_,_,_,k4⟩
   ·rw[hw b hbm];exact q3
  ·obtain⟨q1,q2,q3⟩:=hnb hn
   refine⟨q2,q3, ?_⟩
   obtain⟨p1,p2,p3⟩:=OE
   rcases p3 with ⟨p4,_⟩|⟨_,_,YA,A53,p6,_⟩
   ·rw[hn] at p4;cases p4
   ·rw[hw _ (CO hn)];exact⟨_,_,_,p6⟩
 ·intro k' MU
  rw[EP] at MU
  dsimp only
  rw[ACJ]
  by_cases HU:k' =k
  ·subst HU
   rw[AB rfl,AB (by omega),AB rfl]
  ·rw[AD (fun he=>HU he.symm),AD HU]
   exact h6 k' MU
 ·intro k' xs MU _
  rw[sH] at MU
  dsimp only
  by_cases HU:k' =k
  ·subst HU
   rw[AB rfl,AB hk] at MU
   simp only[AX] at MU;subst MU
   rw[AB rfl]
   exact⟨OE.mono wD (fun hn=>hw _ (CO hn)),fun hn=>⟨LS.2 (.inr ⟨hn,rfl⟩),CO hn⟩⟩
  ·rw[AD (fun he=>HU he.symm)] at MU
   rw[AD HU]
   obtain⟨q1,q2⟩:=h7 k' xs MU (LU k' HU)
   exact⟨q1.mono wD (fun hn=>hw _ (q2 hn).2),fun hn=>⟨LS.2 (.inl (q2 hn).1),(q2 hn).2⟩⟩
 ·intro a b ha hb yJ _ _ hna AGZ
  rw[EP] at ha hb
  dsimp only at hna AGZ ⊢
  have key:∀ k',k' <xss.length->k' ≠k->(hs k').nil=false->(hs k').B_∈l:=fun k' MU HU hn=>((h7 k' _ (NH MU) (LU k' HU)).2 hn).1
  by_cases hak:a=k
  ·have hbk:b≠k:=fun he=>yJ (hak.trans he.symm)
   rw[AB hak] at hna
   rw[AD hbk] at AGZ
   rw[AB hak,AD hbk]
   intro he
   exact (hnb hna).1 (he ▸ key b hb hbk AGZ)
  ·rw[AD hak] at hna
   rw[AD hak]
   by_cases hbk:b=k
   ·rw[AB hbk] at AGZ
    rw[AB hbk]
    intro he
    exact (hnb AGZ).1 (he ▸ key a ha hak hna)
   ·rw[AD hbk] at AGZ
    rw[AD hbk]
    exact h8 a b ha hb yJ (LU a hak) (LU b hbk) hna AGZ
 ·intro k' j he;cases he
theorem AR.A0H {c:DW TB} {G:Nat->Prop} {w w' :World} {E:Env} (hH:AR c G w E L) {i j k:Nat} {t:Ty} {xss:List (List t.T)} {ys:List t.T} {h:Option (Nat×Nat)} (hi:look L i=some (.deep t xss h)) (hj:look L j=some (.row t ys))
  (hh:∀ k' j',h=some (k',j')->k' =k) (hk:k<xss.length) (hr:Rest w w') (hs:w'.heap.size=w.heap.size) (hw:∀ b,b≠(E.nm i).B_->w'.heap[b]? =w.heap[b]?)
  (AXL:∀ arr ty,(E.nm i).nil=false->w.heap[(E.nm i).B_]? =some (.cells arr ty (0,0))->k<arr.size->∃ ty',w'.heap[(E.nm i).B_]? =some (.cells (arr.setIfInBounds k (.slice (E.nm j).ad (E.nm j).len (E.nm j).cap)) ty' (0,0))):
  AR c G w' (E.SX i (E.nm i) (n5 (E.nm j) (E.ins.l i))) (AI L [(j,.dead),(i,.deep t (xss.set k ys) none)]):=by
 have kL:i≠j:=by
  rintro rfl;rw[hi] at hj;cases hj
 have XA:=hH.kill (AO hj)
 have B9:=fun n=>AZ (q:=(j,AW.dead)) (AO hj) n
 have hi1:look (DE L (j,.dead)) i=some (.deep t xss h):=by rw[B9,AD kL];exact hi
 have hd:=hH.dp i t xss h hi
 have DC:=hH.LK j _ hj
 have hjb:∀ b,((E.nm j).nil=false/\b=(E.nm j).B_)->(AW.row t ys).ow E j b:=by
  rintro b ⟨hn,rfl⟩
  exact .inl (by simp [AW.own,hn])
 have hnb:(E.nm j).nil=false->(E.nm j).B_∉E.ins.l i/\¬G (E.nm j).B_/\¬c.Old (E.nm j).B_:=by
  intro hn
  have h1:=hjb _ ⟨hn,rfl⟩
  have h2:=hH.PR hj h1
  exact⟨fun hx=>hH.inj i j _ _ _ kL hi hj (AW.FX.2 hx) h1,h2.1,h2.2.1⟩
 have AP5:FT c G w' (E.SX i (E.nm i) (n5 (E.nm j) (E.ins.l i))) (DE (DE L (j,.dead)) (i,.deep t (xss.set k ys) none)) (E.nm i) (n5 (E.nm j) (E.ins.l i)) t (xss.set k ys) none:=
  hd.put hh hk DC.inner hnb hw AXL
 have fN:∀ b,(AW.deep t (xss.set k ys) none).ow (E.SX i (E.nm i) (n5 (E.nm j) (E.ins.l i))) i b↔b∈n5 (E.nm j) (E.ins.l i):=by
  intro b
  rw[AW.FX,(E.EM _ _ _).2]
 have hmi:∀ b,b<w.heap.size->b∉n5 (E.nm j) (E.ins.l i)->w'.heap[b]? =w.heap[b]? :=by
  intro b hb hn
  refine hw b (fun he=> ?_)
  rcases hd.cs with ⟨h1,h2,_⟩|⟨_,h2,_⟩
  ·rw[h2] at hk;simp at hk
  ·exact hn (LS.2 (.inl (he ▸ h2)))
 exact XA.T8 (AO hi1) hr (by omega) (fun _=>(E.EM _ _ _).1) (fun k hk=>E.MM _ _ hk) rfl (fun b hb hn=>hmi b hb (fun hx=>hn ((fN b).2 hx)))
  (fun b hb=>by
   rcases LS.1 ((fN b).1 hb) with hx|hx
   ·have:=hH.PR hi (AW.FX.2 hx);exact⟨this.2.1,this.1⟩
   ·have:=hH.PR hj (hjb b hx);exact⟨this.2.1,this.1⟩)
  (fun k f hk hf b hb he=>by
   rw[B9] at hf
   by_cases hkj:k=j
   ·subst hkj
    simp only[G4,AX] at hf;subst hf
    rcases hb with hb|⟨hb,_⟩|⟨hb,_⟩ <;> cases hb
   ·rw[AD hkj] at hf
    rcases LS.1 ((fN b).1 he) with hx|hx
    ·exact hH.inj k i f _ b hk hf hi hb (AW.FX.2 hx)
    ·exact hH.inj k j f _ b hkj hf hj hb (hjb b hx))
  trivial
  (fun t' xs' q he=>by
   cases he
   rw[(E.EM _ _ _).1,(E.EM _ _ _).2]
   exact AP5)
theorem eW {AP:Nat->Option AW} (B9:∀ n e,AP n=some e->look L n=some e) {c:DW TB} {G:Nat->Prop} {w:World} {E:Env} (hH:AR c G w E L) {i:Nat} {t:Ty} {xss ys:List (List t.T)} {h:Option (Nat×Nat)} {u:C8} (hi:AP i=some (.deep t xss h))
  (hc:nT AP i t xss h=some (ys,u)):∃ E',AR c G w E' (AI L u)/\(∀ n,E'.nm n=E.nm n)/\E'.ds=E.ds/\look (AI L u) i=some (.deep t ys none)/\(∀ n,Al L n->Al (AI L u) n)/\(∀ n,look L n=some .K5->look (AI L u) n=some .K5)/\ys.length=xss.length:=by
 have KV :=B9 _ _ hi
 unfold nT at hc
 split at hc
 ·simp only[AX,DB] at hc
  obtain⟨rfl,rfl⟩:=hc
  exact⟨E,hH,fun _=>rfl,rfl,KV,fun _ h=>h,fun _ h=>h,rfl⟩
 ·rename_i k j
  split at hc
  rotate_left
  ·cases hc
  rename_i t' zs hl
  split at hc
  rotate_left
  ·cases hc
  rename_i he
  subst he
  simp only[AX,DB] at hc
  obtain⟨rfl,rfl⟩:=hc
  have hj:=B9 _ _ hl
  have hd:=hH.dp i _ xss _ KV
  have kL:i≠j:=by
   rintro rfl;rw[KV] at hj;cases hj
  have fin:∀ l' :List Nat,AR c G w (E.SX i (E.nm i) l') (AI L [(j,.dead),(i,.deep t' (xss.set k zs) none)])->∃ E',AR c G w E' (AI L [(j,.dead),(i,.deep t' (xss.set k (HM rfl zs)) none)])/\(∀ n,E'.nm n=E.nm n)/\E'.ds=E.ds/\look (AI L [(j,.dead),(i,.deep t' (xss.set k (HM rfl zs)) none)]) i=some (.deep t' (xss.set k (HM rfl zs)) none)/\(∀ n,Al L n->Al (AI L [(j,.dead),(i,.deep t' (xss.set k (HM rfl zs)) none)]) n)/\(∀ n,look L n=some .K5->look (AI L [(j,.dead),(i,.deep t' (xss.set k (HM rfl zs)) none)]) n=some .K5)/\(xss.set k (HM rfl zs)).length=xss.length:=by
   intro l' h1
   have ATN:=fun n=>AZ (q:=(j,AW.dead)) (AO hj) n
   have hi1:look (DE L (j,.dead)) i=some (.deep t' xss (some (k,j))):=by rw[ATN,AD kL];exact KV
   have A0I:=fun n=>AZ (q:=(i,AW.deep t' (xss.set k zs) none)) (AO hi1) n
   refine⟨_,h1,fun n=> ?_,rfl, ?_,fun n hn=> ?_,fun n hn=> ?_,by simp⟩
   ·by_cases hn:n=i
    ·subst hn;exact (E.EM _ _ _).1
    ·exact (E.MM _ _ hn).1
   ·exact (A0I i).trans (AB rfl)
   ·exact BU rfl n (BU rfl n hn)
   ·show look (DE (DE L (j,.dead)) _) n=_
    have h1:n≠i:=by rintro rfl;rw[KV] at hn;cases hn
    have h2:n≠j:=by rintro rfl;rw[hj] at hn;cases hn
    exact ((A0I n).trans (AD h1)).trans (((ATN n).trans (AD h2)).trans hn)
  by_cases hk:k<xss.length
  ·refine fin _ (hH.A0H KV hj (fun k' j' he=>by cases he;rfl) hk (.refl _) rfl (fun _ _=>rfl) (fun arr ty hn ha hka=>⟨ty, ?_⟩))
   rcases hd.cs with ⟨h1,_⟩|⟨h1,h2,h3,YA,ty',hs,h4,h5,h6,h7,h8,h9⟩
   ·rw[hn] at h1;cases h1
   rw[h4] at ha
   simp only[AX,Obj.cells.injEq] at ha
   obtain⟨rfl,rfl,_⟩:=ha
   have hx:=h6 k hk
   rw[(h9 k j rfl hk).1] at hx
   rw[h4]
   congr 2
   apply AIW
   intro q
   rw[ACJ]
   split
   ·rename_i hq;subst hq;first|exact hx|(rw[AB hka];exact hx)
   ·rfl
  ·
   have XA:=hH.kill (AO hj)
   have ATN:=fun n=>AZ (q:=(j,AW.dead)) (AO hj) n
   have hi1:look (DE L (j,.dead)) i=some (.deep t' xss (some (k,j))):=by rw[ATN,AD kL];exact KV
   have VR:xss.set k zs=xss:=AIL (by omega)
   refine fin (E.ins.l i) ?_
   rw[VR]
   have fN:∀ b,(AW.deep t' xss none).ow (E.SX i (E.nm i) (E.ins.l i)) i b↔b∈E.ins.l i:=fun b=>by rw[AW.FX,(E.EM _ _ _).2]
   refine XA.T8 (AO hi1) (.refl _) (EL _) (fun _=>(E.EM _ _ _).1) (fun k hk=>E.MM _ _ hk) rfl (fun _ _ _=>rfl)
    (fun b hb=>by have:=hH.PR KV (AW.FX.2 ((fN b).1 hb));exact⟨this.2.1,this.1⟩)
    (fun n f hn hf b hb he=>XA.inj n i f _ b hn hf hi1 hb (AW.FX.2 ((fN b).1 he))) trivial ?_
   intro t'' xs' q he
   cases he
   rw[(E.EM _ _ _).1,(E.EM _ _ _).2]
   obtain⟨d1,d2,d3,d4,d5⟩:=hd
   refine⟨d1,d2,d3,d4,d5.imp id ?_⟩
   rintro⟨h1,h2,h3,YA,ty',hs,h4,h5,h6,h7,h8,h9⟩
   have LU:∀ k',k' <xss.length->∀ j',some (k,j)≠some (k',j'):=fun k' MU j' he=>by
    simp only[AX,DB] at he;omega
   refine⟨h1,h2,h3,YA,ty',hs,h4,h5,h6,fun k' xs MU _=> ?_,fun a b ha hb yJ _ _=>h8 a b ha hb yJ (LU a ha) (LU b hb),fun k' j' he=>by cases he⟩
   have DM:k' <xss.length:=by
    rcases GS k' xss.length with h' |h'
    ·exact h'
    ·rw[T3 h'] at MU;cases MU
   exact h7 k' xs MU (LU k' DM)
theorem AR.AVV {c:DW TB} {G:Nat->Prop} {w:World} {E:Env} (hH:AR c G w E L) {i k bs:Nat} {t:Ty} {xss:List (List t.T)} (hi:look L i=some (.deep t xss none)) (hb:look L bs=some .K5) (hn:(E.nm i).nil=false) (hk:k<xss.length):
  ∃ E',AR c G w E' (AI L [(bs,.dead),(i,.deep t xss (some (k,bs))),(bs,.row t (xss.getD k []))])/\(∀ n,n≠bs->E'.nm n=E.nm n)/\E'.ds=E.ds∧
   ∃ arr ty,w.heap[(E.nm i).B_]? =some (.cells arr ty (0,0))/\arr[k]? =some (.slice (E'.nm bs).ad (E'.nm bs).len (E'.nm bs).cap):=by
 have hib:i≠bs:=by rintro rfl;rw[hi] at hb;cases hb
 have hd:=hH.dp i _ xss _ hi
 obtain⟨d1,d2,d3,d4,d5⟩:=hd
 rcases d5 with ⟨h1,_⟩|⟨h1,h2,h3,arr,ty,hs,h4,h5,h6,h7,h8,h9⟩
 ·rw[hn] at h1;cases h1
 have LU:∀ k' j,(none:Option (Nat×Nat))≠some (k',j):=fun _ _ he=>by cases he
 have s1:=hH.change (i:=bs) (e' := .dead) (m:=hs k) (w' :=w) (AO hb) (.refl _) (EL _) (fun hx=>absurd hx (EJ hb)) rfl (fun _ _ _=>rfl) (fun b hb=>by cases hb) (fun _ _ _ _ _ _ hb=>by cases hb) (fun _=>trivial)
 have hl1:=fun n=>AZ (q:=(bs,AW.dead)) (AO hb) n
 have hi1:look (DE L (bs,.dead)) i=some (.deep t xss none):=by rw[hl1,AD hib];exact hi
 have ALS:Al (DE L (bs,.dead)) bs:=⟨.dead,by rw[hl1,AB rfl],rfl⟩
 let l' :List Nat:=if (hs k).nil=true then E.ins.l i else (E.ins.l i).erase (hs k).B_
 have IP:∀ b∈l',b∈E.ins.l i:=by
  intro b hb
  show b∈E.ins.l i
  simp only[l'] at hb
  split at hb
  ·exact hb
  ·exact List.mem_of_mem_erase hb
 have bI:∀ b∈E.ins.l i,((hs k).nil=false->b≠(hs k).B_)->b∈l' :=by
  intro b hb CO
  simp only[l']
  split
  ·exact hb
  ·rename_i hx
   exact (List.mem_erase_of_ne (CO (by simpa using hx))).2 hb
 have AP6:(hs k).nil=false->(hs k).B_∉l' :=by
  intro hx hm
  simp only[l',hx,VL,QZ] at hm
  exact (d3.mem_erase_iff.1 hm).1 rfl
 obtain⟨OE,ATO⟩:=h7 k _ (NH hk) (LU k)
 have hEi:(E.set bs (hs k)).nm i=E.nm i:=E.HG _ hib
 let E2:Env:=(E.set bs (hs k)).SX i (E.nm i) l'
 have hE2:∀ n,n≠bs->E2.nm n=E.nm n:=by
  intro n hnb
  by_cases SY:n=i
  ·subst SY;exact (Env.EM _ _ _ _).1
  ·exact ((Env.MM _ _ _ SY).1).trans (E.HG _ hnb)
 have ATP:E2.nm bs=hs k:=((Env.MM _ _ _ (fun he=>hib he.symm)).1).trans (E.EI _ _)
 have A0J:E2.ins.l i=l' :=(Env.EM _ _ _ _).2
 have A0K:E2.nm i=E.nm i:=(Env.EM _ _ _ _).1
 have fN:∀ b,(AW.deep t xss (some (k,bs))).ow E2 i b↔b∈l' :=fun b=>by rw[AW.FX,A0J]
 have AP5:FT c G w E2 (DE (DE L (bs,.dead)) (i,.deep t xss (some (k,bs)))) (E2.nm i) (E2.ins.l i) t xss (some (k,bs)):=by
  rw[A0K,A0J]
  refine⟨d1,d2, ?_,fun b hb=>d4 b (IP b hb),.inr ⟨h1,bI _ h2 (fun hx he=>(ATO hx).2 he.symm),h3,arr,ty,hs,h4,h5,h6, ?_, ?_, ?_⟩⟩
  ·simp only[l']
   split
   ·exact d3
   ·exact d3.erase _
  ·intro k' xs MU hj
   have HU:k' ≠k:=by rintro rfl;exact hj bs rfl
   have DM:k' <xss.length:=by
    rcases GS k' xss.length with h' |h'
    ·exact h'
    ·rw[T3 h'] at MU;cases MU
   obtain⟨q1,q2⟩:=h7 k' xs MU (LU k')
   exact⟨q1,fun hx=>⟨bI _ (q2 hx).1 (fun hy=>h8 k' k DM hk HU (LU _) (LU _) hx hy),(q2 hx).2⟩⟩
  ·intro a b ha hb yJ _ _
   exact h8 a b ha hb yJ (LU _) (LU _)
  ·intro k' j he _
   simp only[AX,DB] at he
   obtain⟨rfl,rfl⟩:=he
   exact⟨ATP.symm,BU rfl _ ALS⟩
 have s2:AR c G w E2 (DE (DE L (bs,.dead)) (i,.deep t xss (some (k,bs)))):=by
  refine s1.T8 (AO hi1) (.refl _) (EL _) (fun _=>by rw[A0K,hEi]) (fun n SY=>Env.MM _ _ _ SY) rfl (fun _ _ _=>rfl)
   (fun b hb=>by have:=d4 b (IP b ((fN b).1 hb));exact⟨this.2.1,this.1⟩)
   (fun n f SY hf b hb he=>s1.inj n i f _ b SY hf hi1 hb (AW.FX.2 (IP b ((fN b).1 he)))) trivial ?_
  intro t'' xs' q he
  cases he
  exact AP5
 have lF:=fun n=>AZ (q:=(i,AW.deep t xss (some (k,bs)))) (AO hi1) n
 have rM:look (DE (DE L (bs,.dead)) (i,.deep t xss (some (k,bs)))) bs=some .dead:=by rw[lF,AD (fun he=>hib he.symm),hl1,AB rfl]
 have hi2:look (DE (DE L (bs,.dead)) (i,.deep t xss (some (k,bs)))) i=some (.deep t xss (some (k,bs))):=by rw[lF,AB rfl]
 have VR:E2.set bs (hs k)=E2:=by
  refine K8 (fun n=> ?_) rfl (fun _=>rfl)
  by_cases hnb:n=bs
  ·subst hnb;rw[Env.EI,ATP]
  ·exact Env.HG _ _ hnb
 have hgk:xss.getD k []=xss[k]:=by simp [List.getD,NH hk]
 have s3:=s2.change (i:=bs) (e' := .row t (xss.getD k [])) (m:=hs k) (w' :=w) (AO rM) (.refl _) (EL _) (fun _=>ATP.symm) rfl (fun _ _ _=>rfl)
  (fun b hb=>by
   simp only[AW.own] at hb
   split at hb
   ·cases hb
   ·rename_i hx
    simp only[AX] at hb;subst hb
    have:=d4 _ (ATO (by simpa using hx)).1
    exact⟨this.2.1,this.1⟩)
  (fun n f hnb hf b hb he=>by
   simp only[AW.own] at he
   split at he
   ·cases he
   rename_i hx
   have hx:(hs k).nil=false:=by simpa using hx
   simp only[AX] at he;subst he
   by_cases SY:n=i
   ·subst SY
    rw[hi2] at hf
    simp only[AX] at hf;subst hf
    exact AP6 hx ((fN _).1 hb)
   ·rw[lF,AD SY,hl1,AD hnb] at hf
    have SQ :f.ow E n (hs k).B_:=by
     refine (AW.eO ?_).1 hb
     exact⟨hE2 n hnb,(Env.MM _ _ _ SY).2⟩
    exact hH.inj n i f _ _ SY hf hi SQ (AW.FX.2 (ATO hx).1))
  (fun _=>by
   rw[hgk]
   obtain⟨p1,p2,p3⟩:=OE
   refine⟨p1,p2,p3.imp id ?_⟩
   rintro⟨p4,p5,p6⟩
   have:=d4 _ (ATO p4).1
   exact⟨p4,this.1,this.2.1,p5,p6⟩)
 rw[VR] at s3
 exact⟨E2,s3,hE2,rfl,arr,ty,h4,by rw[ATP];exact h6 k hk⟩
end
end Go.V3
namespace Go.V3
open Go
variable {TB:Tb}
def EN (TB:Tb) (P:Program) (o:Oper) (ρ:Operand->SV) (L:AK) (v:SV) (DD:C8):Prop:=
 ∀ (c:DW TB) (w:World) (E:Env),Hd c w E L->(∀ x,(ρ x).wf E L)->∀ (a:Act) (next:Act->World->Prop) (Q:Exit->Act->World->Prop),execOp a.eval o=execOp (fun x=>(ρ x).den E) o→
  (∀ E' w',Hd c w' E' (AI L DD)->(∀ n,Al L n->E'.nm n=E.nm n/\Al (AI L DD) n)->E'.ds=E.ds->v.wf E' (AI L DD)->next (a.put o.dst (v.den E')) w')->o.wp P a w next Q
theorem BO {P:Program} {o:Oper} {ρ:Operand->SV} {L:AK} {v:SV} {DD:C8}
  (h:∀ (c:DW TB) (w:World) (E:Env),Hd c w E L->(∀ x,(ρ x).wf E L)->∃ (w' :World) (E' :Env) (nx:Next),(execOp (fun x=>(ρ x).den E) o).run P w= .ok nx w' /\(nx= .value (v.den E')\/(nx= .skip/\v=AV))∧
   Hd c w' E' (AI L DD)/\(∀ n,Al L n->E'.nm n=E.nm n/\Al (AI L DD) n)/\E'.ds=E.ds/\v.wf E' (AI L DD)):EN TB P o ρ L v DD:=by
 intro c w E hh hw a next Q ha hn
 obtain⟨w',E',nx,h1,h2,h3,h4,h5,h6⟩:=h c w E hh hw
 show o.upon P a next Q ((execOp a.eval o).run P w)
 rw[ha,h1]
 rcases h2 with rfl|⟨rfl,rfl⟩
 ·exact hn E' w' h3 h4 h5 h6
 ·exact hn E' w' h3 h4 h5 h6
section
variable {P:Program} {AP:Nat->Option AW} {L:AK}
theorem bO (E:Env) (cs:List SV) (off n:Nat):AL E ((cs.drop off).take n)=BN (AL E cs).toArray off n:=by
 unfold BN
 simp [FB,List.map_take,List.map_drop]
theorem WK {E:Env} {cs:List SV} (h:K6 E L cs) (off n:Nat):K6 E L ((cs.drop off).take n):=
 BW.2 fun v hv=>BW.1 h v (xI (xH hv))
theorem lO {w:World} {b off:Nat} {t:TypeId} {q:TypeInfo} {d:TypeDesc} {arr:Array Value} {ty:TypeId} {fz:Nat×Nat} (hq:P.info? t=some q) (hd:P.underlying t=some d) (ha:GU P t=true)
  (h:w.heap[b]? =some (.cells arr ty fz)) (hn:off+q.size<=arr.size):(Instr.loadAt t (.pointer (some ⟨b,off,none⟩))).run P w= .ok (.agg (BN arr off q.size).toArray) w:=by
 have:=run_loadCells (P:=P) w h hn
 simp [Instr.loadAt,Instr.sureAddr,loadVar,LM w hd,ha,sizeOf,typeInfo,hq,this]
theorem JZ {w:World} {b off:Nat} {t:TypeId} {d:TypeDesc} {arr:Array Value} {ty:TypeId} {fz:Nat×Nat} {x:Value} (hd:P.underlying t=some d) (ha:GU P t=false)
  (h:w.heap[b]? =some (.cells arr ty fz)) (hx:arr[off]? =some x):(Instr.loadAt t (.pointer (some ⟨b,off,none⟩))).run P w= .ok x w:=by
 have:w.cell? ⟨b,off,none⟩=some x:=by simp [World.cell?,h,hx]
 simp [Instr.loadAt,Instr.sureAddr,loadVar,LM w hd,ha,this]
theorem Nm.tN (m:Nm) (l:List Value):(m.arr l).size=m.pp.pre.length+l.length+m.pp.post.length:=by simp [Nm.arr];omega
theorem Nm.AJN {m:Nm} (l:List Value) (h1:m.pp.pre=[]) (h2:m.pp.post=[]):m.arr l=l.toArray:=by simp [Nm.arr,h1,h2]
theorem Nm.AAQ (m:Nm) {l:List Value} {k:Nat} (hk:k<l.length):(m.arr l)[m.pp.pre.length+k]? =l[k]? :=by
 simp only[Nm.arr,sE]
 rw[JH,VH (by omega),VI (by omega)]
 congr 1;omega
theorem Nm.yK (m:Nm) {l:List Value} {off n:Nat} (h:off+n<=l.length):BN (m.arr l) (m.pp.pre.length+off) n=BN l.toArray off n:=by
 apply VM
 intro i
 unfold BN
 rw[kQ,kQ]
 split
 ·rename_i hi
  have h1:=m.AAQ (l:=l) (k:=off+i) (by omega)
  rw[aX,aX]
  rw[<-N0] at h1
  simpa using h1
 ·rfl
theorem Nm.ATQ (m:Nm) {l:List Value} {k:Nat} (hk:k<l.length) (v:Value):(m.arr l).setIfInBounds (m.pp.pre.length+k) v=m.arr (l.set k v):=by
 simp only[Nm.arr,List.setIfInBounds_toArray]
 rw[JH,List.set_append_right _ _ (by omega),List.set_append_left _ _ (by omega),JH]
 congr 4;omega
theorem AXM {a:Ty} {xs:List a.T} {k:Nat} (h:k<xs.length):xs[k]? =some (gd a xs k):=by
 rw[gd,NH h]
 simp [List.getD,NH h]
theorem ADT (arr:Array Value) (p sz off n:Nat) (h:off+n<=sz):((BN arr p sz).drop off).take n=BN arr (p+off) n:=by
 apply VM
 intro j
 rw[kQ,CE]
 split
 ·rw[aX,CE,AB (by omega),N0]
 ·rfl
theorem pM {arr:Array Value} {p n:Nat} (h:(BN arr p n).length=n) (hn:0<n):p+n<=arr.size:=by
 unfold BN at h
 simp at h
 omega
theorem AJO {c:DW TB} {G:Nat->Prop} {w:World} {E:Env} (hG:AR c G w E L) {i k:Nat} {a:Ty} {xs:List a.T} (hl:look L i=some (.row a xs)\/look L i=some (.shr a xs)) (hk:k<(E.nm i).len) (hn:(E.nm i).nil=false):
  k<xs.length/\∃ arr ty fz,w.heap[(E.nm i).B_]? =some (.cells arr ty fz)/\Rp G w a (gd a xs k) (BN arr ((E.nm i).off+k*a.sz) a.sz)/\(E.nm i).off+k*a.sz+a.sz<=arr.size:=by
 have fin:∀ (arr:Array Value) (ty:TypeId) (fz:Nat×Nat),k<xs.length->w.heap[(E.nm i).B_]? =some (.cells arr ty fz)->RowsIn (Rp G w a) a.sz arr (E.nm i).off xs→
   k<xs.length/\∃ arr ty fz,w.heap[(E.nm i).B_]? =some (.cells arr ty fz)/\Rp G w a (gd a xs k) (BN arr ((E.nm i).off+k*a.sz) a.sz)/\(E.nm i).off+k*a.sz+a.sz<=arr.size:=by
  intro arr ty fz kM h1 h2
  have h3:=h2 k _ (AXM kM)
  exact⟨kM,arr,ty,fz,h1,h3,pM h3.length (AGI a)⟩
 rcases hl with hl|hl
 ·obtain⟨h1,h2,h3⟩:=hG.LK i _ hl
  rcases h3 with ⟨h4,_⟩|⟨_,_,_,_,arr,ty,h5,_,h6⟩
  ·rw[hn] at h4;cases h4
  ·exact fin arr ty _ (by omega) h5 h6
 ·obtain⟨h1,_,h3⟩:=hG.LK i _ hl
  rcases h3 with rfl|⟨_,_,arr,ty,fz,h5,h6⟩
  ·simp at h1;omega
  ·exact fin arr ty fz (by omega) h5 h6
theorem yL {o:Oper} {ρ:Operand->SV} {t:TypeId} {x:Operand} (FU:o.op= .load t x) {q:TypeInfo} {d:TypeDesc} (hq:P.info? t=some q) (hd:P.underlying t=some d) {i k sz off bs:Nat} (hx:ρ x= .el i k sz off)
  {a:Ty} {xs:List a.T} (hl:look L i=some (.row a xs)\/look L i=some (.shr a xs)) (B9:∀ n e,AP n=some e->look L n=some e) {v:SV} {DD:C8}
  (h:jJ AP (GU P t) q.size a xs k sz off bs pr=some (v,DD)):EN TB P o ρ L v DD:=by
 unfold jJ at h
 split at h
 rotate_left
 ·cases h
 rename_i hc
 obtain⟨rfl,ZR,DR⟩:=hc
 refine BO fun c w E hh hw=> ?_
 obtain⟨G,hG⟩:=hh
 have V6:=hw x
 rw[hx] at V6
 obtain⟨MY,hk,hn⟩:=V6
 obtain⟨kM,arr,ty,fz,h1,h2,h3⟩:=AJO hG hl hk hn
 obtain⟨ms,h4,h5⟩:=h2.out
 have yD:=fun j hj=>B9 _ _ (CZ DR j hj)
 obtain⟨k1,k2⟩:=hG.lC (B6 false a (gd a xs k)) (n:=bs) (ms:=ms) (fun j hj=>yD j (by rw[BE] at hj;exact hj)) (by
   intro j e he
   have:=h5 j e he
   cases e <;> first|exact this|exact this.elim)
  (by rw[eP];simp) (by rw[eP];simp)
 rw[BE] at k1 k2
 have hnm:∀ n,Al L n->(E.put bs a.HE ms).nm n=E.nm n/\Al (AI L (CX bs (B6 false a (gd a xs k)))) n:=by
  intro n hn
  have hb:¬(bs<=n/\n<bs+a.HE):=by
   intro hx
   have:=yD (n-bs) (by omega)
   have e:bs+(n-bs)=n:=by omega
   rw[e] at this
   exact EJ this hn
  refine⟨Env.V4 _ _ _ _ (by omega), ?_⟩
  obtain⟨e,tG,he2⟩:=hn
  exact⟨e,by rw[k2,AD hb];exact tG,he2⟩
 have pF:K6 (E.put bs a.HE ms) (AI L (CX bs (B6 false a (gd a xs k)))) (H_ a (gd a xs k) bs):=by
  refine tF _ _ _ fun j hj=> ?_
  have DM:j<(B6 false a (gd a xs k)).length:=by rw[BE];exact hj
  refine⟨(B6 false a (gd a xs k))[j], ?_,W2 (NH DM)⟩
  rw[k2,AB ⟨by omega,by omega⟩]
  have e:bs+j-bs=j:=by omega
  rw[e,NH DM]
 have jI:AL (E.put bs a.HE ms) (H_ a (gd a xs k) bs)=BN arr ((E.nm i).off+k*a.sz) a.sz:=by
  rw[h4,V2]
  exact HP _ _ fun j hj=>Env.jF _ _ _ _ hj
 have AVW:(E.nm i).off+(k*a.sz+off)=(E.nm i).off+k*a.sz+off:=by omega
 split at h
 ·rename_i XB
  simp only[pr,AX,DB] at h
  obtain⟨rfl,rfl⟩:=h
  refine⟨w,E.put bs a.HE ms,_, ?_,.inl rfl,⟨G,k1⟩,hnm,rfl,WK pF _ _⟩
  simp only[execOp,FU,hx,SV.den]
  refine CY ?_
  rw[AVW,lO hq hd XB h1 (by omega),bO,jI]
  rw[<-ADT arr _ a.sz off q.size ZR]
  unfold BN
  simp
 ·rename_i XB
  split at h
  ·rename_i u hu
   simp only[pr,AX,DB] at h
   obtain⟨rfl,rfl⟩:=h
   refine⟨w,E.put bs a.HE ms,_, ?_,.inl rfl,⟨G,k1⟩,hnm,rfl,BW.1 pF u (ZO hu)⟩
   simp only[execOp,FU,hx,SV.den]
   refine CY ?_
   have DM:off<a.sz:=by
    rcases GS off (H_ a (gd a xs k) bs).length with h' |h'
    ·rwa [ER] at h'
    ·rw[T3 h'] at hu;cases hu
   have Q1:arr[(E.nm i).off+k*a.sz+off]? =some (u.den (E.put bs a.HE ms)):=by
    have:=MS (fun l=>l[off]?) jI
    simp only[FJ,hu,aZ,CE,AB DM] at this
    exact this.symm
   rw[AVW]
   exact JZ hd XB h1 Q1
  ·cases h
theorem AP7 {o:Oper} {ρ:Operand->SV} {t:TypeId} {x:Operand} (FU:o.op= .load t x) {d:TypeDesc} (hd:P.underlying t=some d) (XB:GU P t=false) {i k sz off bs:Nat} (hx:ρ x= .el i k sz off)
  {a:Ty} {xss:List (List a.T)} {h' :Option (Nat×Nat)} (hl:AP i=some (.deep a xss h')) (B9:∀ n e,AP n=some e->look L n=some e) {v:SV} {DD:C8}
  {deep:Bool} (h:yF AP deep a xss h' i k sz off bs pr=some (v,DD)):EN TB P o ρ L v DD:=by
 unfold yF at h
 split at h
 rotate_left
 ·cases h
 rename_i hc
 obtain⟨rfl,rfl⟩:=hc
 split at h
 ·rename_i DR
  have DR:=(HQ _ _ ▸ DR:IV AP bs 1=true/\_).1
  split at h
  rotate_left
  ·cases h
  rename_i ys u hcl
  simp only[pr,AX,DB] at h
  obtain⟨rfl,rfl⟩:=h
  have LL:look L bs=some .K5:=B9 _ _ (by have:=CZ DR 0 (by omega);simpa using this)
  refine BO fun c w E hh hw=> ?_
  obtain⟨G,hG⟩:=hh
  have V6:=hw x
  rw[hx] at V6
  obtain⟨MY,hk,hn⟩:=V6
  have hlen:=(hG.dp i _ _ _ (B9 _ _ hl)).len
  obtain⟨E1,c1,c2,c3,c4,c5,c6,c7⟩:=eW B9 hG hl hcl
  obtain⟨E2,t1,t2,t3,arr,ty,t4,t5⟩:=c1.AVV c4 (c6 bs LL) (by rw[c2];exact hn) (by omega:k<ys.length)
  rw[<-BM] at t1
  have AH0:=(hG.dp i _ _ _ (B9 _ _ hl)).off
  have DM:=AO LL
  have AAR:∀ n,Al L n->Al (AI L (u++ [(bs,.dead),(i,.deep a ys (some (k,bs))),(bs,.row a (ys.getD k []))])) n:=by
   intro n hn
   rw[BM]
   exact BU rfl n (BU rfl n (BU rfl n (c5 n hn)))
  refine⟨w,E2,_, ?_,.inl rfl,⟨G,t1⟩,fun n hn=>⟨?_,AAR n hn⟩,t3.trans c3, ?_⟩
  ·simp only[execOp,FU,hx,SV.den]
   refine CY ?_
   have e:(E.nm i).off+(k*1+0)=k:=by omega
   rw[e]
   rw[c2] at t4
   exact JZ hd XB t4 t5
  ·rw[t2 n (fun he=>EJ (he ▸ LL) hn),c2]
  ·refine⟨.row a (ys.getD k []), ?_,rfl⟩
   rw[BM]
   show look (DE (DE (DE (AI L u) (bs,.dead)) (i,.deep a ys (some (k,bs)))) (bs,.row a (ys.getD k []))) bs=_
   rw[AZ (by rw[F5,F5,OC];exact DM),AB rfl]
 ·split at h
  rotate_left
  ·cases h
  rename_i k0 j _
  split at h
  rotate_left
  ·cases h
  rename_i HU
  subst HU
  simp only[pr,AX,DB] at h
  obtain⟨rfl,rfl⟩:=h
  refine BO fun c w E hh hw=> ?_
  obtain⟨G,hG⟩:=hh
  have V6:=hw x
  rw[hx] at V6
  obtain⟨MY,hk,hn⟩:=V6
  obtain⟨d1,d2,d3,d4,d5⟩:=hG.dp i _ _ _ (B9 _ _ hl)
  rcases d5 with ⟨h1,_⟩|⟨h1,h2,h3,arr,ty,hs,h4,h5,h6,h7,h8,h9⟩
  ·rw[hn] at h1;cases h1
  have hkl:k<xss.length:=by omega
  obtain⟨q1,q2⟩:=h9 k j rfl hkl
  refine⟨w,E,_, ?_,.inl rfl,⟨G,hG⟩,fun n hn=>⟨rfl,hn⟩,rfl,q2⟩
  simp only[execOp,FU,hx,SV.den]
  refine CY ?_
  have e:(E.nm i).off+(k*1+0)=k:=by omega
  rw[e,←q1]
  exact JZ hd XB h4 (h6 k hkl)
theorem AM3 {o:Oper} {ρ:Operand->SV} {t:TypeId} {x:Operand} (FU:o.op= .load t x) {d:TypeDesc} (hd:P.underlying t=some d) (XB:GU P t=false) {i k off:Nat} (hx:ρ x= .el i k 2 off) {t1 t2:Ty} {xs:List (List t1.T×List t2.T)}
  (hl:AP i=some (.tree t1 t2 xs)) (B9:∀ n e,AP n=some e->look L n=some e) (AH0:off<2):EN TB P o ρ L (.tsl i k off) []:=by
 refine BO fun c w E hh hw=> ?_
 have hh' :=hh
 obtain⟨G,hG⟩:=hh
 have htr:FC c G w (E.nm i) t1 t2 xs:=hG.LK i _ (B9 _ _ hl)
 have V6:=hw x
 rw[hx] at V6
 obtain⟨MY,hk,hn⟩:=V6
 rcases htr.cs with ⟨h1,_⟩|⟨h1,h2,h3,arr,ty,h4,h5,h6,h7,h8,h9⟩
 ·rw[hn] at h1;cases h1
 have MU :=hk
 rw[htr.len] at hk
 have hg:=h6 (k*2+off) (by omega)
 refine⟨w,E,_, ?_,.inl rfl,hh',fun n hn=>⟨rfl,hn⟩,rfl,⟨MY,MU,AH0⟩⟩
 simp only[execOp,FU,hx,SV.den]
 refine CY ?_
 rw[htr.off,ML]
 exact JZ hd XB h4 hg
theorem AP8 {o:Oper} {ρ:Operand->SV} {t:TypeId} {x:Operand} (FU:o.op= .load t x) {bs:Nat} (B9:∀ n e,AP n=some e->look L n=some e) {v:SV} {DD:C8}
  {deep:Bool} (h:yG P AP deep t (ρ x) bs pr=some (v,DD)):EN TB P o ρ L v DD:=by
 unfold yG at h
 split at h
 rotate_left
 ·cases h
 rename_i q d hq hd
 split at h
 ·rename_i i off hx
  split at h
  ·rename_i cs hl
   have ADI:∀ (c:DW TB) (w:World) (E:Env),Hd c w E L->(E.nm i).off=(E.nm i).pp.pre.length/\(∃ ty,w.heap[(E.nm i).B_]? =some (.cells ((E.nm i).arr (AL E cs)) ty (0,0)))/\K6 E L cs:=by
    rintro c w E ⟨G,hG⟩
    obtain⟨h1,h2,h3,h4,h5,h6⟩:=hG.LK i _ (B9 _ _ hl)
    exact⟨h2,h5,h6⟩
   split at h
   ·rename_i XB
    split at h
    ·rename_i ZR
     simp only[pr,AX,DB] at h
     obtain⟨rfl,rfl⟩:=h
     refine BO fun c w E hh hw=> ?_
     obtain⟨h2,⟨ty,h5⟩,h6⟩:=ADI c w E hh
     refine⟨w,E,_, ?_,.inl rfl,hh,fun n hn=>⟨rfl,hn⟩,rfl,WK h6 _ _⟩
     simp only[execOp,FU,hx,SV.den]
     refine CY ?_
     rw[h2,lO hq hd XB h5 (by rw[Nm.tN,AS];omega),Nm.yK _ (by rw[AS];omega),bO]
    ·cases h
   ·rename_i XB
    split at h
    ·rename_i u hu
     simp only[pr,AX,DB] at h
     obtain⟨rfl,rfl⟩:=h
     refine BO fun c w E hh hw=> ?_
     obtain⟨h2,⟨ty,h5⟩,h6⟩:=ADI c w E hh
     refine⟨w,E,_, ?_,.inl rfl,hh,fun n hn=>⟨rfl,hn⟩,rfl,BW.1 h6 u (ZO hu)⟩
     simp only[execOp,FU,hx,SV.den]
     refine CY ?_
     rw[h2]
     exact JZ hd XB h5 (by rw[Nm.AAQ _ (by rw[AS];exact (vU.1 hu).1)];simp [FJ,hu])
    ·cases h
  ·rename_i j hl
   split at h
   ·cases h
   ·rename_i XB
    split at h
    rotate_left
    ·cases h
    rename_i h0
    subst h0
    simp only[pr,AX,DB] at h
    obtain⟨rfl,rfl⟩:=h
    refine BO fun c w E hh hw=> ?_
    have hh' :=hh
    obtain⟨G,hG⟩:=hh
    obtain⟨q1,⟨arr,ty,fz,q2,q3⟩,q4⟩:=hG.LK i _ (B9 _ _ hl)
    refine⟨w,E,_, ?_,.inl rfl,hh',fun n hn=>⟨rfl,hn⟩,rfl,q4⟩
    simp only[execOp,FU,hx,SV.den]
    refine CY ?_
    rw[NJ,NJ]
    exact JZ hd XB (by rw[hG.old _ q1];exact q2) q3
  ·cases h
 ·rename_i i k sz off hx
  split at h
  ·rename_i a xs hl
   exact yL FU hq hd hx (.inl (B9 _ _ hl)) B9 h
  ·rename_i a xs hl
   exact yL FU hq hd hx (.inr (B9 _ _ hl)) B9 h
  ·rename_i a xss hh hl
   split at h
   ·cases h
   ·rename_i XB
    exact AP7 FU hd XB hx hl B9 h
  ·rename_i t1 t2 xs hl
   split at h
   ·cases h
   ·rename_i XB
    split at h
    rotate_left
    ·cases h
    rename_i hc
    obtain⟨rfl,AH0⟩:=hc
    simp only[pr,AX,DB] at h
    obtain⟨rfl,rfl⟩:=h
    exact AM3 FU hd XB hx hl B9 AH0
  ·cases h
 ·cases h
theorem yM {k:IntKind}:∀ {l:List Value} {i:Nat},ADL k l=true->i<l.length->∃ n,l[i]? =some (.int k n)
 | [],i,_,h=>by simp at h
 | .int k' n::r,0,h,_=>by
  simp only[ADL,HQ,IW] at h
  exact⟨n,by rw[h.1];rfl⟩
 | .int k' n::r,i+1,h,hi=>by
  simp only[ADL,HQ] at h
  simpa using yM h.2 (by simpa using hi)
theorem AP9 {α:Type}:∀ {l:List (Nat×α)} {k:Nat} {x:α},lk l k=some x->(k,x)∈l
 | [],_,_,h=>by cases h
 |(a,b)::r,k,x,h=>by
  simp only[lk] at h
  split at h
  ·rename_i he
   simp only[AX] at h
   subst he h;simp
  ·exact VJ _ (AP9 h)
theorem APA {cx:Cx} {o:Oper} {ρ:Operand->SV} {t:TypeId} {x:Operand} (FU:o.op= .load t x) {g off:Nat} (hx:ρ x= .ptr (some ⟨g,off,none⟩)) {v:SV} {DD:C8}
  (h:loadT P cx t g off pr=some (v,DD)):EN cx.tb P o ρ L v DD:=by
 unfold loadT at h
 split at h
 rotate_left
 ·cases h
 rename_i arr k q hl hu hq
 split at h
 ·cases h
 rename_i hk
 split at h
 rotate_left
 ·cases h
 rename_i hi
 split at h
 rotate_left
 ·cases h
 rename_i AH0
 simp only[pr,AX,DB] at h
 obtain⟨rfl,rfl⟩:=h
 obtain⟨n,hn⟩:=yM (i:=off) hi (by simpa using AH0)
 refine BO fun c w E hh hw=> ?_
 obtain⟨G,hG⟩:=hh
 obtain⟨o1,ty,fz,o2⟩:=hG.tab _ (AP9 hl)
 have hb:w.heap[g]? =some (.cells arr ty fz):=by rw[hG.old g o1];exact o2
 have Q1:arr[off]? =some (.int k n):=by rw[<-iX];exact hn
 have XB:GU P t=false:=by unfold GU;rw[hu]
 refine⟨w,E,_, ?_,.inl rfl,⟨G,hG⟩,fun n hn=>⟨rfl,hn⟩,rfl,trivial⟩
 simp only[execOp,FU,hx,SV.den]
 refine CY ?_
 rw[JZ hu XB hb Q1]
 simp [ATJ,Q1]
theorem AAS {E:Env} {vs:List SV} (h:vs.all yH=true):Flat (AL E vs):=by
 induction vs with
 |nil=>intro v hv;cases hv
 |cons x r ih=>
  simp only[sS,HQ] at h
  intro v hv
  rcases GD.1 hv with rfl|hv
  ·cases x with
   |raw u=>cases u <;> simp_all [yH,SV.den]
   |_=>simp_all [yH,SV.den]
  ·exact ih h.2 v hv
theorem YE (E:Env) (vs:List SV):∀ (cs:List SV) (off:Nat),(AL E (DT cs off vs)).toArray=rO (AL E cs).toArray off (AL E vs):=by
 induction vs with
 |nil=>intros;rfl
 |cons v r ih=>
  intro cs off
  simp only[DT,AL,rO]
  rw[ih,bB]
  simp
theorem AH1 (E:Env) (m:Nm) (vs:List SV):∀ (cs:List SV) (off:Nat),off+vs.length<=cs.length->m.arr (AL E (DT cs off vs))=rO (m.arr (AL E cs)) (m.pp.pre.length+off) (AL E vs):=by
 induction vs with
 |nil=>intros;rfl
 |cons v r ih=>
  intro cs off h
  simp only[NZ] at h
  simp only[DT,AL,rO]
  rw[ih _ _ (by rw[EP];omega),bB,Nm.ATQ _ (by rw[AS];omega),N0]
theorem jL {vs:List SV}:∀ {cs:List SV} {off:Nat} {v:SV},v∈DT cs off vs->v∈cs\/v∈vs:=by
 induction vs with
 |nil=>intro cs off v h;exact .inl h
 |cons x r ih=>
  intro cs off v h
  rcases ih h with h|h
  ·rcases AIJ h with h|h
   ·exact .inl h
   ·exact .inr (by simp [h])
  ·exact .inr (by simp [h])
theorem QF {E:Env} {v:SV} (h:v.wf E L):K6 E L (BI v):=by
 cases v with
 |agg cs=>exact h
 |_=>exact⟨h,trivial⟩
theorem Q6 {w w' :World} {t:TypeId} {q:TypeInfo} (hq:P.info? t=some q) {b off:Nat} {v:SV} {E:Env} (hr:NK v=false) (hl:(BI v).length=q.size)
  (hst:(storeCells ⟨b,off,none⟩ (AL E (BI v)) 0).run P w= .ok () w'):(Instr.storeAt t (.pointer (some ⟨b,off,none⟩)) (v.den E)).run P w= .ok () w' :=by
 have Q1:=jA (E:=E) v hr
 simp only[Instr.storeAt,Instr.sureAddr,storeVar,sizeOf,typeInfo,Sem.run_bind,Sem.run_pure,Result.andThen]
 simp [hq,Q1,AS,hl,hst]
theorem AR.setRow {c:DW TB} {G:Nat->Prop} {w w' :World} {E:Env} {L:AK} (h:AR c G w E L) {i:Nat} {a:Ty} {xs ys:List a.T} (hl:look L i=some (.row a xs)) (hn:(E.nm i).nil=false) (hlen:ys.length=xs.length)
  (hr:Rest w w') (hs:w'.heap.size=w.heap.size) (hw:∀ j,j≠(E.nm i).B_->w'.heap[j]? =w.heap[j]?)
  (QQ:∀ arr ty,w.heap[(E.nm i).B_]? =some (.cells arr ty ((E.nm i).fr arr.size))->(E.nm i).off+(E.nm i).cap*a.sz<=arr.size->RowsIn (Rp G w a) a.sz arr (E.nm i).off xs->∃ YA,w'.heap[(E.nm i).B_]? =some (.cells YA ty ((E.nm i).fr arr.size))/\YA.size=arr.size/\RowsIn (Rp G w a) a.sz YA (E.nm i).off ys):
  AR c G w' E (DE L (i,.row a ys)):=by
 have DC:=h.LK i _ hl
 obtain⟨h1,h2,h3⟩:=DC
 rcases h3 with ⟨h4,_⟩|⟨_,h5,h6,h7,arr,ty,h8,h9,tC⟩
 ·rw[hn] at h4;cases h4
 obtain⟨YA,k1,k2,k3⟩:=QQ arr ty h8 h9 tC
 have VR:E.set i (E.nm i)=E:=by
  refine K8 (fun k=> ?_) rfl (fun _=>rfl)
  by_cases hk:k=i
  ·subst hk;rw[Env.EI]
  ·exact E.HG _ hk
 have hGb:∀ b,G b->w'.heap[b]? =w.heap[b]? :=fun b hb=>hw b (fun he=>h5 (he ▸ hb))
 have:=h.change (i:=i) (e' := .row a ys) (m:=E.nm i) (w' :=w') (AO hl) hr (by omega) (fun _=>rfl) rfl
  (fun b _ hb=>hw b (fun he=>hb (by simp [AW.own,hn,he])))
  (fun b hb=>by simp only[AW.own,hn,VL,QZ,AX] at hb;subst hb;exact⟨h6,h5⟩)
  (fun k f hk hf b hb he=>h.inj k i f (.row a xs) b hk hf hl hb (.inl (by simpa [AW.own,hn] using he)))
  (fun _=>⟨by rw[h1,hlen],h2,.inr ⟨hn,h5,h6,by rw[hlen];exact h7,YA,ty,by rw[k2];exact k1,by rw[k2];exact h9,k3.imp fun x vs hx=>Rp.mono hGb (fun _ h=>h) a x vs hx⟩⟩)
 rw[VR] at this
 exact this
theorem jM {E:Env} {c:DW TB} {G:Nat->Prop} {w:World} {a:Ty}:∀ (n:Nat) (cs:List SV) (xs:List a.T) (u:C8),ZH AP a n cs=some (xs,u)->K6 E L cs->lE .fM AP E c G w [] u []→
  xs.length=n/\cs.length=n*a.sz/\RowsIn (Rp G w a) a.sz (AL E cs).toArray 0 xs:=by
 intro n
 induction n with
 |zero=>
  intro cs xs u h _ _
  cases cs with
  |nil=>simp only[ZH,AX,DB] at h;obtain⟨rfl,rfl⟩:=h;exact⟨rfl,by simp,fun i x hx=>by simp at hx⟩
  |cons v r=>simp [ZH] at h
 |succ n ih=>
  intro cs xs u h hw hk
  simp only[ZH] at h
  split at h
  rotate_left
  ·cases h
  rename_i x r nes u1 hp
  split at h
  rotate_left
  ·cases h
  rename_i xs' u2 hq
  simp only[AX,DB] at h
  obtain⟨rfl,rfl⟩:=h
  obtain⟨c1,rfl,l1,_,hd⟩:=JL E _ _ _ _ _ _ hp
  have hw1:K6 E L c1:=BW.2 fun v hv=>BW.1 hw v (EY.2 (.inl hv))
  have hw2:K6 E L r:=BW.2 fun v hv=>BW.1 hw v (EY.2 (.inr hv))
  obtain⟨i1,i2,i3⟩:=ih _ _ _ hq hw2 (hk.sub (by simp) (by simp;intros;simp [*]) (by simp))
  have wD:Rp G w a x (AL E c1):=by
   rw[hd]
   refine Rp.mk _ _ _ fun k e he=> ?_
   obtain⟨g1,_⟩:=W0 _ _ _ _ _ _ hp
   rcases g1 k false e he with rfl|⟨t,s,ys,ne,uk,hs,CO,hsc,IP,rfl⟩
   ·trivial
   have hnf:D7 E nes k=ne.nm E:=by simp [D7,CO]
   rw[hnf]
   refine nO hs (by simp) (BW.1 hw s hsc) hk.shr ?_
   intro i t' zs e' x6 hl hoe hx
   refine hk.fM i t' zs e' hl hoe (.inr ?_)
   rcases hx with hx|hx
   ·cases hx
   ·exact EY.2 (.inl (IP _ hx))
  refine⟨by simp [i1],by simp [l1,i2];rw[a_];omega, ?_⟩
  intro i y hy
  cases i with
  |zero=>
   simp only[OS,AX] at hy
   subst hy
   have:BN (AL E (c1++r)).toArray (0+0*a.sz) a.sz=AL E c1:=by
    unfold BN
    rw[GH]
    simp [AS,l1]
   rw[this];exact wD
  |succ i=>
   simp only[vW] at hy
   have:=i3 i y hy
   have e:BN (AL E (c1++r)).toArray (0+(i+1)*a.sz) a.sz=BN (AL E r).toArray (0+i*a.sz) a.sz:=by
    unfold BN
    rw[GH]
    simp only[ML]
    have:(i+1)*a.sz=(AL E c1).length+i*a.sz:=by rw[AS,l1,a_];omega
    rw[this]
    simp
   rw[e];exact this
theorem iL {E:Env} {c:DW TB} {G:Nat->Prop} {w:World} {u:C8} (md:PM):lE md IX E c G w [] u []:=
 ⟨fun i t ys h=>by simp [IX] at h,fun i t ys e h=>by simp [IX] at h,fun i t ys h=>by simp [IX] at h,fun i t ys h=>by simp [IX] at h,fun i t1 t2 ys h=>by simp [IX] at h,fun i cs h=>by simp [IX] at h⟩
theorem AH2:∀ (t:Ty) (x:t.T) (j:Nat) (e:AW),(B6 false t x)[j]? =some e->(∃ (a:Ty) (xs:List a.T),e= .shr a xs)\/e= .dead:=by
 intro t
 induction t with
 |pair a b VE VF=>
  intro x j e he
  simp only[B6] at he
  by_cases hk:j<(B6 false a x.1).length
  ·rw[VI hk] at he;exact VE _ _ _ he
  ·rw[VH (by omega)] at he;exact VF _ _ _ he
 |slice a=>
  intro x j e he
  cases j with
  |zero=>simp only[B6,OS,AX] at he;exact .inl ⟨_,_,he.symm⟩
  |succ j=>simp [B6] at he
 |nf=>
  intro x j e he
  cases j with
  |zero=>simp only[B6,OS,AX] at he;exact .inr he.symm
  |succ j=>simp [B6] at he
 |_=>intro x j e he;simp [B6] at he
theorem yN {c:DW TB} {G1:Nat->Prop} {w:World} {E:Env} {a:Ty} {cs:List SV} {z:a.T} {nes:List NE} {u:C8} (hp:FQ .fM AP a cs=some (z,[],nes,u))
  (t9:GW c G1 w ⟨a,true,false,false⟩ z (D7 E nes)):Rp G1 w a z (AL E cs):=by
 obtain⟨c1,e1,_,_,hd⟩:=JL E _ _ _ _ _ _ hp
 rw[GG] at e1;subst e1
 rw[hd]
 refine Rp.mk _ _ _ fun k e he=> ?_
 have:=t9.1 k e he
 simp only[CT.pn,ML] at this
 rcases AH2 a z k e he with ⟨a',xs,rfl⟩|rfl
 ·exact this
 ·trivial
theorem tO:∀ (l cs:List SV) (off p:Nat),(DT cs off l)[p]? =if off<=p/\p<off+l.length/\p<cs.length then l[p-off]? else cs[p]?
 | [],cs,off,p=>by simp only[DT,VN];rw[AD (by omega)]
 |v::r,cs,off,p=>by
  simp only[DT,NZ]
  rw[tO r,EP]
  by_cases h:off=p
  ·subst h
   by_cases h2:off<cs.length
   ·rw[AD (by omega),AB (by omega),AIP h2];simp
   ·rw[AD (by omega),AD (by omega),T3 (by simp;omega),T3 (by omega)]
  ·rw[AIU h]
   by_cases h2:off+1<=p/\p<off+1+r.length/\p<cs.length
   ·rw[AB h2,AB (by omega),show p-off=(p-(off+1))+1 by omega];simp
   ·rw[AD h2,AD (by omega)]
theorem ATR {E:Env} {L:AK}:∀ (a:Ty) (x:a.T) (n:Nat) (v:SV),v∈H_ a x n->AP0 v=true->v.wf E L:=by
 intro a
 induction a with
 |pair a b VE VF=>
  intro x n v hv hn
  rcases EY.1 hv with hv|hv
  ·exact VE _ _ _ hv hn
  ·exact VF _ _ _ hv hn
 |slice a=>intro x n v hv hn;simp only[H_,GO] at hv;subst hv;cases hn
 |nf=>intro x n v hv hn;simp only[H_,GO] at hv;subst hv;cases hn
 |_=>intro x n v hv hn;simp only[H_,GO] at hv;subst hv;trivial
theorem APB {E:Env}:∀ (a:Ty) (x:a.T) (n p:Nat) (v:SV) (hs:Nat->Nm),(H_ a x n)[p]? =some v->AP0 v=true->(enc a x hs)[p]? =some (v.den E):=by
 intro a
 induction a with
 |pair a b VE VF=>
  intro x n p v hs hv hn
  have hl:(enc a x.1 hs).length=(H_ a x.1 n).length:=by rw[ER,AGH]
  simp only[H_,enc] at hv ⊢
  rcases GS p (H_ a x.1 n).length with hp|hp
  ·rw[VI hp] at hv
   rw[VI (by omega)]
   exact VE _ _ _ _ _ hv hn
  ·rw[VH hp] at hv
   rw[VH (by omega),hl]
   exact VF _ _ _ _ _ hv hn
 |slice a=>
  intro x n p v hs hv hn
  cases p with
  |zero=>simp only[H_,OS,AX] at hv;subst hv;cases hn
  |succ p=>simp [H_] at hv
 |nf=>
  intro x n p v hs hv hn
  cases p with
  |zero=>simp only[H_,OS,AX] at hv;subst hv;cases hn
  |succ p=>simp [H_] at hv
 |_=>
  intro x n p v hs hv hn
  cases p with
  |zero=>simp only[H_,OS,AX] at hv;subst hv;rfl
  |succ p=>simp [H_] at hv
theorem AH3 {o:Oper} {ρ:Operand->SV} {t:TypeId} {x y:Operand} (FU:o.op= .store t x y) {q:TypeInfo} (hq:P.info? t=some q) {i k sz off:Nat} (hx:ρ x= .el i k sz off)
  {a:Ty} {xs:List a.T} (hl:AP i=some (.row a xs)) (B9:∀ n e,AP n=some e->look L n=some e) {v:SV} {DD:C8}
  (h:rP AP q.size a xs i k sz off (ρ y) pr=some (v,DD)):EN TB P o ρ L v DD:=by
 unfold rP at h
 split at h
 rotate_left
 ·cases h
 rename_i hc
 obtain⟨rfl,ZR,hlen,APC⟩:=hc
 have step:∀ (c:DW TB) (w:World) (E:Env) (G:Nat->Prop) (L' :AK),AR c G w E L' ->look L' i=some (.row a xs)->(∀ x,(ρ x).wf E L)->∀ (z:a.T) (cells:List Value),Rp G w a z cells->Flat (AL E (BI (ρ y)))→
   (∀ (arr:Array Value) (ty:TypeId) (fz:Nat×Nat),w.heap[(E.nm i).B_]? =some (.cells arr ty fz)->Rp G w a (gd a xs k) (BN arr ((E.nm i).off+k*a.sz) a.sz)->rO arr ((E.nm i).off+k*a.sz+off) (AL E (BI (ρ y)))=rO arr ((E.nm i).off+k*a.sz) cells)→
   ∃ w',(execOp (fun x=>(ρ x).den E) o).run P w= .ok .skip w' /\AR c G w' E (DE L' (i,.row a (xs.set k z))):=by
  intro c w E G L' hG x7 hw z cells hz ADU hsp
  have V6:=hw x
  rw[hx] at V6
  obtain⟨MY,hk,hn⟩:=V6
  obtain⟨kM,arr,ty0,fz,h1,h2,h3⟩:=AJO hG (.inl x7) hk hn
  obtain⟨e1,e2,e3⟩:=hG.LK i _ x7
  rcases e3 with ⟨h4,_⟩|⟨_,h5,h6,h7,AH4,ty,h8,h9,tC⟩
  ·rw[hn] at h4;cases h4
  rw[h8] at h1
  simp only[AX,Obj.cells.injEq] at h1
  obtain⟨rfl,rfl,rfl⟩:=h1
  have AAT:(E.nm i).off+(k*a.sz+off)=(E.nm i).off+k*a.sz+off:=by omega
  obtain⟨w',s1,s2,s3,s4,s5⟩:=KI (P:=P) (off:=(E.nm i).off+k*a.sz+off) (AL E (BI (ρ y))) w AH4 0 (fun j hj=>(E.nm i).AAC hj) h8 ADU (by rw[AS,hlen];omega)
  rw[NJ,hsp AH4 ty _ h8 h2] at s4
  refine⟨w', ?_, ?_⟩
  ·simp only[execOp,FU,hx,SV.den,Sem.run_bind]
   rw[AAT,Q6 hq APC hlen s1]
   rfl
  ·refine hG.setRow x7 hn (by simp) s2 s3 s5 ?_
   intro A37 ty3 q1 q2 q3
   rw[h8] at q1
   simp only[AX,Obj.cells.injEq] at q1
   obtain⟨rfl,rfl,_⟩:=q1
   refine⟨_,s4,Q5 _ _ _, ?_⟩
   refine q3.set hz hz.length kM ?_
   have:=sL a.sz h7
   omega
 split at h
 ·rename_i AXN
  obtain⟨rfl,hn⟩:=AXN
  split at h
  rotate_left
  ·cases h
  rename_i z nes u hp
  split at h
  rotate_left
  ·cases h
  rename_i hu
  simp only[pr,AX,DB] at h
  obtain⟨rfl,rfl⟩:=h
  refine BO fun c w E hh hw=> ?_
  obtain⟨G,hG⟩:=hh
  have hct:JM .fM AP [⟨a,true,false,false⟩] [.agg (BI (ρ y))]=some ⟨HT.mk ⟨a,true,false,false⟩ [] z (),nes++ [],u++ [],[]++ [],nes.filterMap NE.name++ []⟩:=by
   simp [JM,OY,hp]
  obtain⟨G1,G2,t1,t2,t3,t4,t5,t6,t7,t8,t9,t10,t11⟩:=hG.take (md:= .fM) (by simp) B9 hct (by simp [okA]) ⟨QF (hw y),trivial⟩
  have AXO:=t4 rfl
  rw[AXO] at t9
  simp only[LP.DD,GG,pA] at t1 t6 t7
  have SY:i∉u.map (·.1):=by
   intro hx
   obtain⟨q',PT,he⟩:=C6.1 hx
   have:=JV.1 hu q' PT
   simp [he] at this
  have hli:look (AI L u) i=some (.row a xs):=by
   rw[t7 i (by simp) SY];exact B9 _ _ hl
  have wD:Rp G1 w a z (AL E (BI (ρ y))):=yN hp (by have:=t9.1;rw[GG] at this;exact this)
  obtain⟨w',s1,s2⟩:=step c w E G1 (AI L u) t1 hli hw z _ wD wD.AJH (fun arr ty fz _ _=>by rw[NJ])
  have eu:AI L (u++ [(i,.row a (xs.set k z))])=DE (AI L u) (i,.row a (xs.set k z)):=by rw[BM];rfl
  rw[eu]
  exact⟨w',E,_,s1,.inr ⟨rfl,rfl⟩,⟨G1,s2⟩,fun n hn=>⟨rfl,BU rfl n (t6 n hn)⟩,rfl,trivial⟩
 ·split at h
  rotate_left
  ·split at h
   rotate_left
   ·cases h
   rename_i bL
   split at h
   rotate_left
   ·cases h
   rename_i z nes u hp
   split at h
   rotate_left
   ·cases h
   rename_i hu
   simp only[pr,AX,DB] at h
   obtain⟨rfl,rfl⟩:=h
   refine BO fun c w E hh hw=> ?_
   obtain⟨G,hG⟩:=hh
   have hct:JM .fM AP [⟨a,true,false,false⟩] [.agg (DT (H_ a (gd a xs k) 0) off (BI (ρ y)))]=some ⟨HT.mk ⟨a,true,false,false⟩ [] z (),nes++ [],u++ [],[]++ [],nes.filterMap NE.name++ []⟩:=by
    simp [JM,OY,hp]
   simp only[AVU,HQ,JV] at bL
   have pF:K6 E L (DT (H_ a (gd a xs k) 0) off (BI (ρ y))):=by
    refine BW.2 fun u hu=> ?_
    obtain⟨p,hp⟩:=ACL.1 hu
    rw[tO,hlen,ER] at hp
    split at hp
    ·exact BW.1 (QF (hw y)) u (ZO hp)
    ·rename_i hpo
     refine ATR a _ _ u (ZO hp) ?_
     have hlp:p<a.sz:=by
      have:=(vU.1 hp).1
      rwa [ER] at this
     rcases GS p off with h1|h1
     ·refine bL.1 _ (ACL.2 ⟨p, ?_⟩)
      rw[kQ,AB h1,hp]
     ·refine bL.2 _ (ACL.2 ⟨p-(off+q.size), ?_⟩)
      rw[aX,←hp]
      congr 1;omega
   obtain⟨G1,G2,t1,t2,t3,t4,t5,t6,t7,t8,t9,t10,t11⟩:=hG.take (md:= .fM) (by simp) B9 hct (by simp [okA]) ⟨pF,trivial⟩
   have AXO:=t4 rfl
   rw[AXO] at t9
   simp only[LP.DD,GG,pA] at t1 t6 t7
   have SY:i∉u.map (·.1):=by
    intro hx
    obtain⟨q',PT,he⟩:=C6.1 hx
    have:=JV.1 hu q' PT
    simp [he] at this
   have hli:look (AI L u) i=some (.row a xs):=by
    rw[t7 i (by simp) SY];exact B9 _ _ hl
   have wD:Rp G1 w a z (AL E (DT (H_ a (gd a xs k) 0) off (BI (ρ y)))):=yN hp (by have:=t9.1;rw[GG] at this;exact this)
   have ADU:Flat (AL E (BI (ρ y))):=by
    have hf:=wD.AJH
    intro u hu
    have hs:=YE E (BI (ρ y)) (H_ a (gd a xs k) 0) off
    obtain⟨j,hj,rfl⟩:=fJ hu
    refine hf _ ?_
    have hj2:j<q.size:=by rw[AS,hlen] at hj;exact hj
    have:(rO (AL E (H_ a (gd a xs k) 0)).toArray off (AL E (BI (ρ y))))[off+j]? =(AL E (BI (ρ y)))[j]? :=by
     rw[JY,AB ⟨by omega,by omega,by simp [AS,ER];omega⟩]
     congr 1;omega
    rw[<-hs,sE,NH hj] at this
    exact ZO this
   obtain⟨w',s1,s2⟩:=step c w E G1 (AI L u) t1 hli hw z _ wD ADU (by
    intro arr ty fz h1 h2
    apply AIW
    intro j
    rw[JY,JY,AS,AS,hlen,iI,ER]
    have hse:∀ m:Nat,(AL E (DT (H_ a (gd a xs k) 0) off (BI (ρ y))))[m]? =(rO (AL E (H_ a (gd a xs k) 0)).toArray off (AL E (BI (ρ y))))[m]? :=by
     intro m;rw[<-YE];simp
    have hold:∀ p,p<a.sz->p<off\/off+q.size<=p->(AL E (H_ a (gd a xs k) 0))[p]? =arr[(E.nm i).off+k*a.sz+p]? :=by
     intro p hp hpo
     obtain⟨ms,h4,_⟩:=h2.out
     have hlp:p<(H_ a (gd a xs k) 0).length:=by rw[ER];exact hp
     have hv:=NH hlp
     have hnv:AP0 (H_ a (gd a xs k) 0)[p]=true:=by
      rcases hpo with hpo|hpo
      ·refine bL.1 _ (ACL.2 ⟨p, ?_⟩)
       rw[kQ,AB hpo,hv]
      ·refine bL.2 _ (ACL.2 ⟨p-(off+q.size), ?_⟩)
       rw[aX,←hv]
       congr 1;omega
     have e1:=APB (E:=E) a _ 0 p _ ms hv hnv
     rw[<-h4,CE,AB hp] at e1
     rw[FB,xM,hv,e1]
     rfl
    by_cases hj1:((E.nm i).off+k*a.sz)+off<=j/\j<((E.nm i).off+k*a.sz)+off+q.size/\j<arr.size
    ·rw[AB hj1,AB (by omega),hse,JY,AS,hlen,AB ⟨by omega,by omega,by simp [AS,ER];omega⟩]
     congr 1;omega
    ·rw[AD hj1]
     by_cases hj2:((E.nm i).off+k*a.sz)<=j/\j<((E.nm i).off+k*a.sz)+a.sz/\j<arr.size
     ·have e1:((AL E (H_ a (gd a xs k) 0)).toArray)[j-((E.nm i).off+k*a.sz)]? =arr[j]? :=by
       rw[sE,hold _ (by omega) (by omega)]
       congr 1;omega
      rw[AB hj2,hse,JY,AS,hlen,AD (by omega),e1]
     ·rw[AD hj2])
   have eu:AI L (u++ [(i,.row a (xs.set k z))])=DE (AI L u) (i,.row a (xs.set k z)):=by rw[BM];rfl
   rw[eu]
   exact⟨w',E,_,s1,.inr ⟨rfl,rfl⟩,⟨G1,s2⟩,fun n hn=>⟨rfl,BU rfl n (t6 n hn)⟩,rfl,trivial⟩
  rename_i ATS
  split at h
  rotate_left
  ·cases h
  rename_i z nes u hp
  simp only[pr,AX,DB] at h
  obtain⟨rfl,rfl⟩:=h
  refine BO fun c w E hh hw=> ?_
  obtain⟨G,hG⟩:=hh
  obtain⟨c1,e1,hc1,_,hd⟩:=JL E _ _ _ _ _ _ hp
  rw[GG] at e1;subst e1
  have wD:Rp G w a z (AL E (DT (H_ a (gd a xs k) 0) off (BI (ρ y)))):=by
   rw[hd]
   refine Rp.mk _ _ _ fun k e he=> ?_
   have:(B6 false a z).length=0:=by rw[BE];exact ATS
   rw[T3 (by omega)] at he;cases he
  have ADU:Flat (AL E (BI (ρ y))):=by
   have hf:=wD.AJH
   intro u hu
   have hs:=YE E (BI (ρ y)) (H_ a (gd a xs k) 0) off
   obtain⟨j,hj,rfl⟩:=fJ hu
   refine hf _ ?_
   have hj2:j<q.size:=by rw[AS,hlen] at hj;exact hj
   have:(rO (AL E (H_ a (gd a xs k) 0)).toArray off (AL E (BI (ρ y))))[off+j]? =(AL E (BI (ρ y)))[j]? :=by
    rw[JY,AB ⟨by omega,by omega,by simp [AS,ER];omega⟩]
    congr 1;omega
   rw[<-hs,sE,NH hj] at this
   exact ZO this
  obtain⟨w',s1,s2⟩:=step c w E G L hG (B9 _ _ hl) hw z _ wD ADU (by
   intro arr ty fz h1 h2
   apply AIW
   intro j
   rw[JY,JY,AS,AS,hlen,iI,ER]
   have hse:∀ m:Nat,(AL E (DT (H_ a (gd a xs k) 0) off (BI (ρ y))))[m]? =(rO (AL E (H_ a (gd a xs k) 0)).toArray off (AL E (BI (ρ y))))[m]? :=by
    intro m;rw[<-YE];simp
   have hold:AL E (H_ a (gd a xs k) 0)=BN arr (((E.nm i).off+k*a.sz)) a.sz:=by
    obtain⟨ms,h4,_⟩:=h2.out
    rw[h4,V2]
    exact HP _ _ fun j hj=>by omega
   by_cases hj1:((E.nm i).off+k*a.sz)+off<=j/\j<((E.nm i).off+k*a.sz)+off+q.size/\j<arr.size
   ·rw[AB hj1,AB (by omega),hse,JY,AS,hlen,AB ⟨by omega,by omega,by simp [AS,ER];omega⟩]
    congr 1;omega
   ·rw[AD hj1]
    by_cases hj2:((E.nm i).off+k*a.sz)<=j/\j<((E.nm i).off+k*a.sz)+a.sz/\j<arr.size
    ·have e1:((AL E (H_ a (gd a xs k) 0)).toArray)[j-((E.nm i).off+k*a.sz)]? =arr[j]? :=by
      rw[sE,hold,CE,AB (by omega)]
      congr 1;omega
     rw[AB hj2,hse,JY,AS,hlen,AD (by omega),e1]
    ·rw[AD hj2])
  exact⟨w',E,_,s1,.inr ⟨rfl,rfl⟩,⟨G,s2⟩,fun n hn=>⟨rfl,BU rfl n hn⟩,rfl,trivial⟩
theorem ADV {o:Oper} {ρ:Operand->SV} {t:TypeId} {x y:Operand} (FU:o.op= .store t x y) {q:TypeInfo} (hq:P.info? t=some q) {i k sz off len:Nat} (hx:ρ x= .el i k sz off)
  {a:Ty} {xs:List a.T} (hl:AP i=some (.row a xs)) (B9:∀ n e,AP n=some e->look L n=some e) {v:SV} {DD:C8}
  (h:lJ q.size len a xs i k off (ρ y) pr=some (v,DD)):EN TB P o ρ L v DD:=by
 unfold lJ at h
 split at h
 rotate_left
 ·cases h
 rename_i hc
 obtain⟨rfl,rfl,ATS,hlen,kN,APC⟩:=hc
 split at h
 rotate_left
 ·cases h
 rename_i ys u hp
 split at h
 rotate_left
 ·cases h
 rename_i qW
 simp only[pr,AX,DB] at h
 obtain⟨rfl,rfl⟩:=h
 refine BO fun c w E hh hw=> ?_
 obtain⟨G,hG⟩:=hh
 obtain⟨l1,l2,l3⟩:=jM (c:=c) (G:=G) (w:=w) (E:=E) (L:=L) len (BI (ρ y)) ys u hp (QF (hw y)) (iL .fM)
 have x7 :=B9 _ _ hl
 have V6:=hw x
 rw[hx] at V6
 obtain⟨MY,hk,hn⟩:=V6
 obtain⟨e1,e2,e3⟩:=hG.LK i _ x7
 rcases e3 with ⟨h4,_⟩|⟨_,h5,h6,h7,AH4,ty,h8,h9,tC⟩
 ·rw[hn] at h4;cases h4
 have AAT:(E.nm i).off+(0*sz+0)=(E.nm i).off:=by omega
 have ZR:(E.nm i).off+len*a.sz<=AH4.size:=by
  have:=sL a.sz h7
  rw[qW] at this;omega
 obtain⟨w',s1,s2,s3,s4,s5⟩:=KI (P:=P) (off:=(E.nm i).off) (AL E (BI (ρ y))) w AH4 0 (fun j hj=>(E.nm i).AAC hj) h8 (AAS kN) (by rw[AS,l2];omega)
 rw[NJ] at s4
 have hst:AR c G w' E (DE L (i,.row a ys)):=by
  refine hG.setRow x7 hn (by omega) s2 s3 s5 ?_
  intro A37 ty3 q1 q2 q3
  rw[h8] at q1
  simp only[AX,Obj.cells.injEq] at q1
  obtain⟨rfl,rfl,_⟩:=q1
  refine⟨_,s4,Q5 _ _ _, ?_⟩
  intro j z hz
  have hj:j<len:=by
   rw[<-l1]
   rcases GS j ys.length with h|h
   ·exact h
   ·rw[T3 h] at hz;cases hz
  have hr:=l3 j z hz
  have hb:(j+1)*a.sz<=len*a.sz:=sL _ hj
  rw[a_,Nat.one_mul] at hb
  have e:BN (rO AH4 (E.nm i).off (AL E (BI (ρ y)))) ((E.nm i).off+j*a.sz) a.sz=BN (AL E (BI (ρ y))).toArray (0+j*a.sz) a.sz:=by
   apply VM
   intro m
   rw[CE,CE]
   by_cases hm:m<a.sz
   ·rw[JY,AS,l2]
    simp only[hm,G4]
    rw[AB ⟨by omega,by omega,by omega⟩]
    rw[sE]
    congr 1;omega
   ·simp [hm]
  rw[e]
  exact hr
 refine⟨w',E,.skip, ?_,.inr ⟨rfl,rfl⟩,⟨G,hst⟩,fun n hn=>⟨rfl,BU rfl n hn⟩,rfl,trivial⟩
 simp only[execOp,FU,hx,SV.den,Sem.run_bind]
 rw[AAT,Q6 hq APC hlen s1]
 rfl
theorem AM4 {o:Oper} {ρ:Operand->SV} {t:TypeId} {x y:Operand} (FU:o.op= .store t x y) {q:TypeInfo} (hq:P.info? t=some q) {i k sz off:Nat} (hx:ρ x= .el i k sz off)
  {a:Ty} {xss:List (List a.T)} {h' :Option (Nat×Nat)} (hl:AP i=some (.deep a xss h')) (B9:∀ n e,AP n=some e->look L n=some e) {v:SV} {DD:C8}
  (h:AAP AP q.size a xss h' i k sz off (ρ y) pr=some (v,DD)):EN TB P o ρ L v DD:=by
 unfold AAP at h
 split at h
 rotate_left
 ·cases h
 rename_i hc
 obtain⟨hq1,rfl,rfl⟩:=hc
 split at h
 rotate_left
 ·cases h
 rename_i j hy
 split at h
 rotate_left
 ·cases h
 rename_i t' ys hj
 split at h
 rotate_left
 ·cases h
 rename_i he
 subst he
 have KV :=B9 _ _ hl
 have eX :=B9 _ _ hj
 obtain⟨hh,rfl,rfl⟩:(∀ k' j',h' =some (k',j')->k' =k)/\v=AV/\DD=[(j,.dead),(i,.deep t' (xss.set k ys) none)]:=by
  split at h
  ·simp only[pr,AX,DB] at h
   exact⟨fun k' j' he=>(by cases he),h.1.symm,h.2.symm⟩
  ·rename_i k0 j0
   split at h
   rotate_left
   ·cases h
   rename_i HU
   simp only[pr,AX,DB] at h
   exact⟨fun k' j' he=>(by simp only[AX,DB] at he;omega),h.1.symm,h.2.symm⟩
 refine BO fun c w E hH hw=> ?_
 obtain⟨G,hG⟩:=hH
 have V6:=hw x
 rw[hx] at V6
 obtain⟨MY,hk,hn⟩:=V6
 have hd:=hG.dp i _ _ _ KV
 have hlen:=hd.len
 have AH0:=hd.off
 obtain⟨arr,ty,ALP,ZR⟩:∃ arr ty,w.heap[(E.nm i).B_]? =some (.cells arr ty (0,0))/\k<arr.size:=by
  rcases hd.cs with ⟨h1,_⟩|⟨h1,h2,h3,arr,ty,hs,h4,h5,_⟩
  ·rw[hn] at h1;cases h1
  ·exact⟨arr,ty,h4,by omega⟩
 have hcv:AL E (BI (ρ y))=[.slice (E.nm j).ad (E.nm j).len (E.nm j).cap]:=by rw[hy];rfl
 obtain⟨w',s1,s2,s3,s4,s5⟩:=OZ (P:=P) (off:=k) (AL E (BI (ρ y))) w arr 0 ALP (by
   rw[hcv]
   intro u hu
   simp only[GO] at hu;subst hu
   exact⟨fun c h=>(by cases h),fun c h=>(by cases h)⟩) (by rw[hcv];simp;omega)
 rw[hcv,NJ] at s4
 simp only[rO] at s4
 have h1:=hG.A0H (w' :=w') KV eX hh (by omega) s2 s3 s5 (fun AH4 ty2 _ ha _=>by
  rw[ALP] at ha
  simp only[AX,Obj.cells.injEq] at ha
  obtain⟨rfl,rfl,_⟩:=ha
  exact⟨_,s4⟩)
 refine⟨w',_,.skip, ?_,.inr ⟨rfl,rfl⟩,⟨G,h1⟩,fun n hn=>⟨?_,BU rfl n (BU rfl n hn)⟩,rfl,trivial⟩
 ·simp only[execOp,FU,hx,SV.den,Sem.run_bind]
  have e:(E.nm i).off+(k*1+0)=k:=by omega
  rw[e,Q6 hq (by rw[hy];rfl) (by rw[hy,hq1];rfl) s1]
  rfl
 ·by_cases SY:n=i
  ·subst SY;exact (E.EM _ _ _).1
  ·exact (E.MM _ _ SY).1
set_option maxHeartbeats 1000000 in
theorem AM5 {o:Oper} {ρ:Operand->SV} {t:TypeId} {x y:Operand} (FU:o.op= .store t x y) {q:TypeInfo} (hq:P.info? t=some q) {i k hh j:Nat} (hx:ρ x= .tel i k hh j) (B9:∀ n e,AP n=some e->look L n=some e) {v:SV} {DD:C8}
  (h:storeT AP q.size i k hh j (ρ y) pr=some (v,DD)):EN TB P o ρ L v DD:=by
 unfold storeT at h
 split at h
 rotate_left
 ·cases h
 rename_i t1 t2 xs hl
 split at h
 rotate_left
 ·cases h
 rename_i hc
 obtain⟨hq1,APC,kN⟩:=hc
 have hcv:BI (ρ y)=[ρ y]:=by
  cases hy:ρ y <;> first|rfl|(rw[hy] at kN;cases kN)
 have step:∀ (tt:Ty) (z:tt.T) (nes:List NE) (u:C8) (x' :List t1.T×List t2.T),tt.HE=0->tt.sz=1->FQ .bF IX tt [ρ y]=some (z,[],nes,u)->hh<2→
   (∀ (G:Nat->Prop) (w w' :World) (mm:Nm),(∀ k x,xs[k]? =some x->FY (Rp G w t1) t1.sz w (mm.hn (k*2)) x.1/\FY (Rp G w t2) t2.sz w (mm.hn (k*2+1)) x.2)->k<xs.length→
    (∀ (ys:List tt.T),FY (Rp G w tt) tt.sz w (mm.hn (k*2+hh)) ys->FY (Rp G w' tt) tt.sz w' (mm.hn (k*2+hh)) (ys.set j z))→
    (∀ (k' e:Nat) (t' :Ty) (ys:List t'.T),k' <xs.length->e<2->k' *2+e≠k*2+hh->FY (Rp G w t') t'.sz w (mm.hn (k' *2+e)) ys->FY (Rp G w' t') t'.sz w' (mm.hn (k' *2+e)) ys)→
    FY (Rp G w' t1) t1.sz w' (mm.hn (k*2)) x'.1/\FY (Rp G w' t2) t2.sz w' (mm.hn (k*2+1)) x'.2)→
   (∀ (G:Nat->Prop) (w:World) (mm:Nm),(∀ k x,xs[k]? =some x->FY (Rp G w t1) t1.sz w (mm.hn (k*2)) x.1/\FY (Rp G w t2) t2.sz w (mm.hn (k*2+1)) x.2)->k<xs.length->∃ ys:List tt.T,FY (Rp G w tt) tt.sz w (mm.hn (k*2+hh)) ys)→
   EN TB P o ρ L AV [(i,.tree t1 t2 (xs.set k x'))]:=by
  intro tt z nes u x' ATS ZR hp hhh DR ADW
  refine BO fun c w E hhd hw=> ?_
  obtain⟨G,hG⟩:=hhd
  have htr:FC c G w (E.nm i) t1 t2 xs:=hG.LK i _ (B9 _ _ hl)
  have V6:=hw x
  rw[hx] at V6
  obtain⟨MY,hk,_,hj⟩:=V6
  rw[htr.len] at hk
  rcases htr.cs with ⟨h1,h1',_⟩|⟨h1,h2,h3,A38,ty0,h4,h5,h6,h7,h8,h9⟩
  ·rw[h1'] at hk;simp at hk
  obtain⟨ys0,OE⟩:=ADW G w (E.nm i) h7 hk
  have A54:=OE
  obtain⟨p1,_,p3⟩:=OE
  rcases p3 with ⟨_,p4,_⟩|⟨p4,p5,arr,ty,p6,p7,p8⟩
  ·rw[p1,p4] at hj;simp at hj
  obtain⟨c1,e1,hc1,_,hd⟩:=JL E _ _ _ _ _ _ hp
  rw[GG] at e1;subst e1
  have hbm:=h8 (k*2+hh) (by omega) p4
  have hbG:¬G ((E.nm i).hn (k*2+hh)).B_:=(htr.all _ hbm.1).1
  obtain⟨w',s1,s2,s3,s4,s5⟩:=KI (P:=P) (off:=((E.nm i).hn (k*2+hh)).off+j) (AL E (BI (ρ y))) w arr 0 (fun j hj=>((E.nm i).hn (k*2+hh)).AAC hj) p6 (by rw[hcv];exact AAS (by simp [kN]))
   (by rw[AS,hcv,H7];rw[p1] at hj;rw[ZR] at p7;omega)
  rw[NJ] at s4
  have hGs:∀ b,G b->w'.heap[b]? =w.heap[b]? :=fun b hb=>s5 b (fun he=>hbG (he ▸ hb))
  have wD:Rp G w' tt z (AL E [ρ y]):=by
   rw[hd]
   refine Rp.mk _ _ _ fun k e he=> ?_
   have:(B6 false tt z).length=0:=by rw[BE];exact ATS
   rw[T3 (by omega)] at he;cases he
  have VR:∀ (ys:List tt.T),FY (Rp G w tt) tt.sz w ((E.nm i).hn (k*2+hh)) ys->FY (Rp G w' tt) tt.sz w' ((E.nm i).hn (k*2+hh)) (ys.set j z):=by
   intro ys hi
   obtain⟨r1,_,r3⟩:=hi
   rcases r3 with ⟨r4,_⟩|⟨r4,r5,YA,ty',r6,r7,r8⟩
   ·rw[p4] at r4;cases r4
   rw[p6] at r6
   simp only[AX,Obj.cells.injEq] at r6
   obtain⟨rfl,rfl,_⟩:=r6
   refine⟨by rw[EP];exact r1,trivial,.inr ⟨r4,by rw[EP];exact r5,_,_,by rw[Q5];exact s4,by rw[Q5];exact r7, ?_⟩⟩
   have qX:j<ys.length:=by rw[<-r1];exact hj
   have:=(r8.imp (R' :=Rp G w' tt) fun x vs hx=>Rp.mono hGs (fun _ h=>h) tt x vs hx).set (k:=j) wD (by rw[wD.length]) qX (by
    have:=sL tt.sz r5
    omega)
   rw[ZR,pB] at this
   rw[hcv,ZR]
   exact this
  have AH5:∀ (k' e:Nat) (t' :Ty) (ys:List t'.T),k' <xs.length->e<2->k' *2+e≠k*2+hh->FY (Rp G w t') t'.sz w ((E.nm i).hn (k' *2+e)) ys->FY (Rp G w' t') t'.sz w' ((E.nm i).hn (k' *2+e)) ys:=by
   intro k' e t' ys MU he CO hi
   refine hi.mono (fun x vs hx=>Rp.mono hGs (fun _ h=>h) t' x vs hx) fun hn=>s5 _ ?_
   exact h9 _ _ (by omega) (by omega) CO hn p4
  have fN:∀ b (xx:List (List t1.T×List t2.T)),(AW.tree t1 t2 xx).ow E i b↔b∈(E.nm i).ins.l:=fun b xx=>AW.eN
  have tP:AR c G w' E (DE L (i,.tree t1 t2 (xs.set k x'))):=by
   refine hG.T8 (AO (B9 _ _ hl)) s2 (by omega) (fun _=>rfl) (fun _ _=>⟨rfl,rfl⟩) rfl (fun b _ WX=>s5 b (fun he=>WX ((fN b _).2 (he ▸ hbm.1))))
    (fun b hb=>⟨(htr.all b ((fN b _).1 hb)).2.1,(htr.all b ((fN b _).1 hb)).1⟩) (fun k' f MU hf b hb he=>hG.inj k' i f _ b MU hf (B9 _ _ hl) hb ((fN b xs).2 ((fN b _).1 he))) ?_ (fun t' xs' q he=>by cases he)
   refine⟨by rw[EP];exact htr.len,htr.off,htr.nd,fun b hb=> ?_,.inr ⟨h1,h2,by rw[EP];exact h3,A38,ty0,by rw[s5 _ hbm.2.symm];exact h4,h5,by rw[EP];exact h6, ?_,by rw[EP];exact h8,by rw[EP];exact h9⟩⟩
   ·obtain⟨b1,b2,aa,tyy,fz,b3⟩:=htr.all b hb
    refine⟨b1,b2, ?_⟩
    by_cases hbe:b=((E.nm i).hn (k*2+hh)).B_
    ·rw[hbe];exact⟨_,_,_,s4⟩
    ·rw[s5 b hbe];exact⟨aa,tyy,fz,b3⟩
   ·intro k' xx MU
    rw[sH] at MU
    by_cases HU:k=k'
    ·subst HU
     rw[AB rfl,AB hk] at MU
     simp only[AX] at MU
     subst MU
     exact DR G w w' (E.nm i) h7 hk VR AH5
    ·rw[AD HU] at MU
     have DM:=(vU.1 MU).1
     obtain⟨i1,i2⟩:=h7 k' xx MU
     exact⟨AH5 k' 0 t1 _ DM (by omega) (by omega) i1,AH5 k' 1 t2 _ DM (by omega) (by omega) i2⟩
  refine⟨w',E,.skip, ?_,.inr ⟨rfl,rfl⟩,⟨G,tP⟩,fun n hn=>⟨rfl,BU rfl n hn⟩,rfl,trivial⟩
  simp only[execOp,FU,hx,SV.den,Sem.run_bind]
  rw[Q6 hq APC (by rw[hcv,hq1];rfl) s1]
  rfl
 have hgd:∀ (hk:k<xs.length),xs[k]? =some (gd (.pair (.slice t1) (.slice t2)) xs k):=by
  intro hk
  unfold gd
  rw[sC,NH hk];rfl
 split at h
 ·split at h
  rotate_left
  ·cases h
  rename_i z nes u hp
  split at h
  rotate_left
  ·cases h
  rename_i hc2
  simp only[pr,AX,DB] at h
  obtain⟨rfl,rfl⟩:=h
  refine step t1 z nes u _ hc2.1 hc2.2 hp (by omega) ?_ ?_
  ·intro G w w' mm h7 hk VR AH5
   obtain⟨i1,i2⟩:=h7 k _ (hgd hk)
   exact⟨VR _ i1,AH5 k 1 t2 _ hk (by omega) (by omega) i2⟩
  ·intro G w mm h7 hk
   exact⟨_,(h7 k _ (hgd hk)).1⟩
 ·split at h
  rotate_left
  ·cases h
  rename_i z nes u hp
  split at h
  rotate_left
  ·cases h
  rename_i hc2
  simp only[pr,AX,DB] at h
  obtain⟨rfl,rfl⟩:=h
  refine step t2 z nes u _ hc2.1 hc2.2 hp (by omega) ?_ ?_
  ·intro G w w' mm h7 hk VR AH5
   obtain⟨i1,i2⟩:=h7 k _ (hgd hk)
   exact⟨AH5 k 0 t1 _ hk (by omega) (by omega) i1,VR _ i2⟩
  ·intro G w mm h7 hk
   exact⟨_,(h7 k _ (hgd hk)).2⟩
 ·cases h
theorem AM6 {o:Oper} {ρ:Operand->SV} {t:TypeId} {x y:Operand} (FU:o.op= .store t x y) (B9:∀ n e,AP n=some e->look L n=some e) {v:SV} {DD:C8}
  (h:nU P AP t (ρ x) (ρ y) pr=some (v,DD)):EN TB P o ρ L v DD:=by
 unfold nU at h
 split at h
 rotate_left
 ·cases h
 rename_i q hq
 split at h
 ·rename_i i off hx
  split at h
  rotate_left
  ·cases h
  rename_i cs hl
  split at h
  rotate_left
  ·cases h
  rename_i hc
  obtain⟨c1,c2,c3,c4⟩:=hc
  simp only[pr,AX,DB] at h
  obtain⟨rfl,rfl⟩:=h
  refine BO fun c w E hh hw=> ?_
  obtain⟨G,hG⟩:=hh
  obtain⟨h1,h2,h3,h4,⟨ty,h5⟩,h6⟩:=hG.LK i _ (B9 _ _ hl)
  obtain⟨w',s1,s2,s3,s4,s5⟩:=OZ (P:=P) (off:=(E.nm i).pp.pre.length+off) (AL E (BI (ρ y))) w _ 0 h5 (AAS c2) (by rw[Nm.tN,AS,AS];omega)
  rw[NJ,←AH1 E (E.nm i) _ cs off c4] at s4
  have VR:E.set i (E.nm i)=E:=by
   refine K8 (fun k=> ?_) rfl (fun _=>rfl)
   by_cases hk:k=i
   ·subst hk;rw[Env.EI]
   ·exact E.HG _ hk
  have pF:K6 E (DE L (i,.box (DT cs off (BI (ρ y))))) (DT cs off (BI (ρ y))):=by
   refine BW.2 fun u hu=> ?_
   refine (X_ (fun n hn=>BU rfl n hn) (fun _ _=>rfl) u ?_).1
   rcases jL hu with hu|hu
   ·exact BW.1 h6 u hu
   ·exact BW.1 (QF (hw y)) u hu
  have:=hG.change (i:=i) (e' := .box (DT cs off (BI (ρ y)))) (m:=E.nm i) (w' :=w') (AO (B9 _ _ hl)) s2 (by omega) (fun _=>rfl) rfl
   (fun b _ hb=>s5 b (fun he=>hb (by simp [AW.own,he])))
   (fun b hb=>by simp only[AW.own,AX] at hb;subst hb;exact⟨h4,h3⟩)
   (fun k f hk hf b hb he=>hG.inj k i f (.box cs) b hk hf (B9 _ _ hl) hb (.inl (by simpa [AW.own] using he)))
   (fun _=>by rw[VR];exact⟨h1,h2,h3,h4,⟨ty,s4⟩,pF⟩)
  rw[VR] at this
  refine⟨w',E,.skip, ?_,.inr ⟨rfl,rfl⟩,⟨G,this⟩,fun n hn=>⟨rfl,BU rfl n hn⟩,rfl,trivial⟩
  simp only[execOp,FU,hx,SV.den,Sem.run_bind]
  rw[h2,Q6 hq c3 c1 s1]
  rfl
 ·rename_i i k sz off hx
  split at h
  ·rename_i a xs hl
   split at h
   ·exact ADV FU hq hx hl B9 h
   ·exact AH3 FU hq hx hl B9 h
  ·rename_i a xss hh hl
   exact AM4 FU hq hx hl B9 h
  ·cases h
 ·rename_i i k hh j hx
  exact AM5 FU hq hx B9 h
 ·cases h
end
end Go.V3
namespace Go.V3
open Go
variable {TB:Tb}
section
variable {P:Program} {AP:Nat->Option AW} {L:AK}
theorem AR.n6 {c:DW TB} {G:Nat->Prop} {w w' :World} {E:Env} (h:AR c G w E L) {bs:Nat} (hl:look L bs=some .K5) {ob:Obj} (hw:w'.heap=w.heap.push ob) (hr:Rest w w') {e:AW} {m:Nm} (CO:e.HR=false)
  (hm:m.B_=w.heap.size/\m.off=0/\m.nil=false) (QQ:w'.heap[w.heap.size]? =some ob->¬c.Old w.heap.size->¬G w.heap.size->(∀ b,G b->w'.heap[b]? =w.heap[b]?)->ZE c G w' (E.set bs m) (DE L (bs,e)) m e) (hd:e.SU=false:=by rfl) (ht:e.OV=false:=by rfl):
  AR c G w' (E.set bs m) (DE L (bs,e))/\(∀ n,Al L n->(E.set bs m).nm n=E.nm n/\Al (DE L (bs,e)) n):=by
 have DR:w'.heap[w.heap.size]? =some ob:=by rw[hw];simp
 have CP:∀ b,b<w.heap.size->w'.heap[b]? =w.heap[b]? :=by
  intro b hb
  rw[hw,AA9,AD (by omega)]
 have hold:¬c.Old w.heap.size:=fun hx=>by have:=hx.1;have:=h.size;omega
 have hG:¬G w.heap.size:=fun hx=>by have:=h.vR _ hx;omega
 have hbo:∀ b,e.own m=some b->b=w.heap.size:=by
  intro b hb
  cases e with
  |box cs=>simp only[AW.own,AX] at hb;rw[<-hb];exact hm.1
  |row t xs=>simp only[AW.own,hm.2.2,VL,QZ,AX] at hb;rw[<-hb];exact hm.1
  |map xs=>simp only[AW.own,AX] at hb;rw[<-hb];exact hm.1
  |_=>cases hb
 refine⟨h.change (AO hl) hr (by rw[hw];simp) (fun hx=>absurd hx (EJ hl)) CO (fun b hb _=>CP b hb) (fun b hb=>by rw[hbo b hb];exact⟨hold,hG⟩) ?_ ?_ hd ht, ?_⟩
 ·intro k f _ hf b hb he
  have:=h.iJ hf hb
  rw[hbo b he] at this
  omega
 ·intro _
  exact QQ DR hold hG (fun b hb=>CP b (h.vR b hb))
 ·intro n hn
  have SY:n≠bs:=fun he=>EJ (he ▸ hl) hn
  exact⟨E.HG m SY,BU CO n hn⟩
theorem Hd.fin {c:DW TB} {G:Nat->Prop} {w w' :World} {E:Env} (h:AR c G w E L) {bs:Nat} (hl:look L bs=some .K5) {arr:Array Value} {ty:TypeId} (hw:w'.heap=w.heap.push (.cells arr ty (0,0))) (hr:Rest w w') {a:Ty} {xs:List a.T} {cap:Nat} (CG:Bool)
  (ZR:arr.size=cap*a.sz) (hle:xs.length<=cap) (OQ:RowsIn (Rp G w a) a.sz arr 0 xs):
  Hd c w' (E.set bs ⟨w.heap.size,0,false,xs.length,cap,none⟩) (AI L (fin CG bs a xs))/\(∀ n,Al L n->(E.set bs ⟨w.heap.size,0,false,xs.length,cap,none⟩).nm n=E.nm n/\Al (AI L (fin CG bs a xs)) n)/\Al (AI L (fin CG bs a xs)) bs:=by
 obtain⟨h1,h2⟩:=h.n6 hl hw hr (e:= .row a xs) (m:=⟨w.heap.size,0,false,xs.length,cap,none⟩) rfl ⟨rfl,rfl,rfl⟩
  (fun DR hold hG CP=>⟨rfl,trivial,.inr ⟨rfl,hG,hold,hle,arr,ty,DR,by show 0+cap*a.sz<=arr.size;omega,OQ.imp fun x vs hx=>Rp.mono CP (fun _ h=>h) a x vs hx⟩⟩)
 have B9:look (DE L (bs,.row a xs)) bs=some (.row a xs):=by rw[AZ (AO hl),AB rfl]
 cases CG with
 |true=>exact⟨⟨G,h1⟩,h2,⟨_,B9,rfl⟩⟩
 |false=>
  have h3:=h1.freeze B9
  refine⟨⟨_,h3⟩,fun n hn=>⟨(h2 n hn).1,BU rfl n (h2 n hn).2⟩,BU rfl bs ⟨_,B9,rfl⟩⟩
theorem AR.known {c:DW TB} {G:Nat->Prop} {w:World} {E:Env} (h:AR c G w E L) (B9:∀ n e,AP n=some e->look L n=some e) {u:C8} (hu:∀ q∈u,∃ t ys e,AP q.1=some e/\ZS e t ys/\q.2= .shr t ys):
  ∃ G',AR c G' w E (AI L u)/\(∀ n,Al L n->Al (AI L u) n)/\lE .fM AP E c G' w [] u []/\(∀ n,n∉u.map (·.1)->look (AI L u) n=look L n)/\(∀ b,G b->G' b):=by
 obtain⟨G1,h1,hg1,ha1,hk1,hq1⟩:=h.AAJ u (fun q hq=>by
  obtain⟨t,ys,e0,hl,ho0,e⟩:=hu q hq
  exact⟨t,ys,.inl ⟨e0,B9 _ _ hl,ho0⟩,e⟩)
 refine⟨G1,h1,ha1,⟨?_, ?_,fun i t ys _ hx=>by simp at hx,fun i t ys _ hx=>by simp at hx,fun i t1 t2 ys _ hx=>by simp at hx,fun i cs _ hx=>by simp at hx⟩, ?_,hg1⟩
 ·intro i t ys hl
  rcases hk1 i _ (B9 _ _ hl) with hx|⟨_,_,hx,_⟩
  ·exact h1.LK i _ hx
  ·cases hx
 ·rintro i t ys e0 hl ho0 (⟨hx,_⟩|hx)
  ·cases hx
  ·exact h1.LK i _ (hq1 _ hx)
 ·intro n hn
  cases hl:look L n with
  |some e=>
   rcases hk1 n e hl with hx|⟨t,ys,_,_,hx⟩
   ·exact hx
   ·exact absurd (C6.2 ⟨_,hx,rfl⟩) hn
  |none=>
   have hge:L.length<=n:=by
    rcases GS n L.length with h' |h'
    ·unfold look at hl;rw[NH h'] at hl;cases hl
    ·exact h'
   unfold look
   rw[T3 (by rw[OC];exact hge)]
theorem wE {a:Ty} {cs:List SV} {x:a.T} {r:List SV} {nes:List NE} {u:C8} (h:FQ .fM AP a cs=some (x,r,nes,u)):∀ q∈u,∃ t ys e,AP q.1=some e/\ZS e t ys/\q.2= .shr t ys:=by
 intro q hq
 obtain⟨_,g2⟩:=W0 _ _ _ _ _ _ h
 obtain⟨k,t,s,xs,ne,uk,hs,CO,hqk⟩:=g2 q hq
 rcases nN hs with rfl|⟨i,t',ys,e',hl,hoe,_,_,rfl⟩|hx
 ·cases hqk
 ·rw[GO] at hqk;subst hqk;exact⟨t',ys,e',hl,hoe,rfl⟩
 ·cases hx
theorem AM7 {a:Ty}:∀ (n:Nat) (cs:List SV) (xs:List a.T) (u:C8),ZH AP a n cs=some (xs,u)->∀ q∈u,∃ t ys e,AP q.1=some e/\ZS e t ys/\q.2= .shr t ys:=by
 intro n
 induction n with
 |zero=>
  intro cs xs u h
  cases cs with
  |nil=>simp only[ZH,AX,DB] at h;obtain⟨rfl,rfl⟩:=h;intro q hq;cases hq
  |cons v r=>simp [ZH] at h
 |succ n ih=>
  intro cs xs u h
  simp only[ZH] at h
  split at h
  rotate_left
  ·cases h
  rename_i x r nes u1 hp
  split at h
  rotate_left
  ·cases h
  rename_i xs' u2 hq
  simp only[AX,DB] at h
  obtain⟨rfl,rfl⟩:=h
  intro q PT
  rcases EY.1 PT with PT |PT
  ·exact wE hp q PT
  ·exact ih _ _ _ hq q PT
theorem yO (E:Env) (v:Value):(SR v).wf E L:=by
 cases v with
 |int k n=>cases k <;> first|trivial|(simp only[SR];split <;> trivial)
 |float k n=>cases k <;> trivial
 |slice a l c=>simp only[SR];split <;> trivial
 |_=>trivial
theorem lP (E:Env) {t:TypeId} {z:List SV} (h:NL P t=some z):K6 E L z:=by
 unfold NL at h
 split at h
 ·split at h
  ·simp only[AX] at h
   subst h
   refine BW.2 fun v hv=> ?_
   obtain⟨u,_,rfl⟩:=C6.1 hv
   exact yO E u
  ·cases h
 ·cases h
theorem AM8 {E:Env} {cs vs:List SV} (off:Nat) (h1:K6 E L cs) (h2:K6 E L vs):K6 E L (DT cs off vs):=
 BW.2 fun u hu=>(jL hu).elim (BW.1 h1 u) (BW.1 h2 u)
theorem tQ {E:Env} {place:Nat->Option (Nat×Nat)}:∀ (l:List (Nat×SV)) (cs jB :List SV),bD place cs l=some jB ->K6 E L cs->(∀ q∈l,q.2.wf E L)->K6 E L jB
 | [],cs,jB,h,hw,_=>by simp only[bD,AX] at h;subst h;exact hw
 |(i,v)::r,cs,jB,h,hw,hl=>by
  simp only[bD] at h
  split at h
  ·cases h
  ·split at h
   ·exact tQ r _ _ h (AM8 _ hw (QF (hl (i,v) (by simp)))) (fun q hq=>hl q (by simp [hq]))
   ·cases h
theorem APD {E:Env} {z:List SV} (h:K6 E L z) (n size:Nat):K6 E L (fresh z n size):=by
 refine BW.2 fun v hv=> ?_
 unfold fresh at hv
 obtain⟨i,_,rfl⟩:=C6.1 hv
 simp only[List.getD]
 cases hz:z[i%size]? with
 |none=>exact trivial
 |some u=>exact BW.1 h u (ZO hz)
theorem tR {o:Oper} {ρ:Operand->SV} {t:TypeId} {len:Nat} {parts:Array (Nat×Operand)} (FU:o.op= .buildSlice t len parts) {CG:Bool} {bs:Nat} (B9:∀ n e,AP n=some e->look L n=some e) {v:SV} {DD:C8}
  (h:OF P AP t len (parts.toList.map fun q=>(q.1,ρ q.2)) CG bs pr=some (v,DD)):EN TB P o ρ L v DD:=by
 unfold OF at h
 split at h
 rotate_left
 ·cases h
 rename_i e hu
 split at h
 rotate_left
 ·cases h
 rename_i q z a hq hz hty
 split at h
 rotate_left
 ·cases h
 rename_i hc
 obtain⟨hzl,eY,ZR,hna,DR⟩:=hc
 split at h
 rotate_left
 ·cases h
 rename_i cs hf
 split at h
 rotate_left
 ·cases h
 rename_i xs u hp
 simp only[pr,AX,DB] at h
 obtain⟨rfl,rfl⟩:=h
 have LL:look L bs=some .K5:=B9 _ _ (by have:=CZ DR 0 (by omega);simpa using this)
 refine BO fun c w E hh hw=> ?_
 obtain⟨G,hG⟩:=hh
 have AAU:=AM7 _ _ _ _ hp
 obtain⟨G',k1,k2,k3,k4,_⟩:=hG.known B9 AAU
 have A39:K6 E L cs:=tQ _ _ _ hf (APD (lP E hz) _ _) (by
  intro q' PT
  obtain⟨y,_,rfl⟩:=C6.1 PT
  exact hw y.2)
 obtain⟨l1,l2,l3⟩:=jM _ _ _ _ hp A39 k3
 have lQ:look (AI L u) bs=some .K5:=by
  rw[k4 bs];exact LL
  intro hx
  obtain⟨q',PT,he⟩:=C6.1 hx
  obtain⟨t',ys,e',hl,hoe,_⟩:=AAU q' PT
  have:=B9 _ _ hl
  rw[he,LL] at this;cases this;cases hoe
 obtain⟨f1,f2,f3⟩:=Hd.fin k1 lQ (w' :=w.alloc (.cells (AL E cs).toArray e)) (ty:=e) rfl ⟨rfl,rfl,rfl⟩ (a:=a) (xs:=xs) (cap:=len) CG (by simp [AS,l2]) (by omega) l3
 rw[BM]
 refine⟨w.alloc (.cells (AL E cs).toArray e),_,_, ?_,.inl rfl,f1,fun n hn=>f2 n (k2 n hn),rfl,f3⟩
 obtain⟨zv,hzr,hzc⟩:=UF (E:=E) (P:=P) w hz
 simp only[execOp,FU,SV.den,Env.EI,Nm.ad,VL,QZ,l1]
 refine CY ?_
 have Q7:=X9 (E:=E) _ _ _ _ hna hf
 rw[pL hzl] at Q7
 have O0:(List.map (fun q=>(q.1,q.2.den E)) (List.map (fun y=>(y.1,ρ y.2)) parts.toList))=(parts.map fun (i,x)=>(i,(ρ x).den E)).toList:=by
  rw[UN,vX];rfl
 rw[O0] at Q7
 simp only[AO7] at Q7
 have h24:¬(len*q.size>2 ^ 24):=by
  have:(2:Nat) ^ 24=16777216:=rfl
  omega
 simp only[Instr.buildSlice,Sem.run_bind,run_underlying hu,Result.andThen,sizeOf,typeInfo]
 by_cases h0:len*q.size=0
 ·have hr:Array.range 0= #[]:=by decide
  rw[h0,hr] at Q7
  simp [hq,h0,hr,newRow]
  simp at Q7
  simp [Q7]
 ·simp [hq,h24,h0,hzr,hzc,newRow]
  simp at Q7
  simp [Q7]
theorem UT {o:Oper} {ρ:Operand->SV} {E:Env} {w:World} {t e:TypeId} {len:Nat} {parts:Array (Nat×Operand)} (FU:o.op= .buildSlice t len parts) {q:TypeInfo} {z cs:List SV} (hu:P.underlying t=some (.slice e)) (hq:P.info? e=some q) (hz:NL P e=some z)
  (hzl:z.length=q.size) (ZR:len*q.size<=16777216) (hna:UQ (parts.toList.map fun q=>(q.1,ρ q.2))=true) (hf:bD (fun i=>some (i*q.size,q.size)) (fresh z (len*q.size) q.size) (parts.toList.map fun q=>(q.1,ρ q.2))=some cs):
  (execOp (fun x=>(ρ x).den E) o).run P w= .ok (.value (.slice (some ⟨w.heap.size,0,none⟩) len len)) (w.alloc (.cells (AL E cs).toArray e)):=by
 obtain⟨zv,hzr,hzc⟩:=UF (E:=E) (P:=P) w hz
 simp only[execOp,FU]
 refine CY ?_
 have Q7:=X9 (E:=E) _ _ _ _ hna hf
 rw[pL hzl] at Q7
 have O0:(List.map (fun q=>(q.1,q.2.den E)) (List.map (fun y=>(y.1,ρ y.2)) parts.toList))=(parts.map fun (i,x)=>(i,(ρ x).den E)).toList:=by
  rw[UN,vX];rfl
 rw[O0] at Q7
 simp only[AO7] at Q7
 have h24:¬(len*q.size>2 ^ 24):=by
  have:(2:Nat) ^ 24=16777216:=rfl
  omega
 simp only[Instr.buildSlice,Sem.run_bind,run_underlying hu,Result.andThen,sizeOf,typeInfo]
 by_cases h0:len*q.size=0
 ·have hr:Array.range 0= #[]:=by decide
  rw[h0,hr] at Q7
  simp [hq,h0,hr,newRow]
  simp at Q7
  simp [Q7]
 ·simp [hq,h24,h0,hzr,hzc,newRow]
  simp at Q7
  simp [Q7]
theorem AR.AJP {c:DW TB} {G:Nat->Prop} {w w' :World} {E:Env} (h:AR c G w E L) {bs:Nat} (hl:look L bs=some .K5) (hr:Rest w w') (hs:w.heap.size<=w'.heap.size) {m:Nm} {l:List Nat} {t:Ty} {xss:List (List t.T)}
  (hw:∀ b,b<w.heap.size->b∉l->w'.heap[b]? =w.heap[b]?) (WX:∀ b∈l,IU E L b) (hd:∀ (E' :Env) (L' :AK),FT c G w' E' L' m l t xss none):
  AR c G w' (E.SX bs m l) (DE L (bs,.deep t xss none))/\(∀ n,Al L n->(E.SX bs m l).nm n=E.nm n/\Al (DE L (bs,.deep t xss none)) n)/\Al (DE L (bs,.deep t xss none)) bs/\(E.SX bs m l).nm bs=m:=by
 have fN:∀ b,(AW.deep t xss none).ow (E.SX bs m l) bs b↔b∈l:=fun b=>by rw[AW.FX,(E.EM _ _ _).2]
 refine⟨h.T8 (AO hl) hr hs (fun hx=>absurd hx (EJ hl)) (fun k hk=>E.MM _ _ hk) rfl (fun b hb hn=>hw b hb (fun hx=>hn ((fN b).2 hx)))
  (fun b hb=>by have:=(hd E L).all b ((fN b).1 hb);exact⟨this.2.1,this.1⟩) (fun k f _ hf b hb he=>WX b ((fN b).1 he) k f hf hb) trivial ?_, ?_,⟨_,by rw[AZ (AO hl),AB rfl],rfl⟩,(E.EM _ _ _).1⟩
 ·intro t' xs' q he
  cases he
  rw[(E.EM _ _ _).1,(E.EM _ _ _).2]
  exact hd _ _
 ·intro n hn
  have SY:n≠bs:=fun he=>EJ (he ▸ hl) hn
  exact⟨(E.MM _ _ SY).1,BU rfl n hn⟩
theorem UH {c:DW TB} {G:Nat->Prop} {w:World} {E:Env} (h:AR c G w E L):IU E L w.heap.size:=by
 intro n e he hb
 have:=h.iJ he hb
 omega
theorem jN {c:DW TB} {G:Nat->Prop} {w:World} {E:Env} (h:AR c G w E L) {i b:Nat} {e:AW} (hi:look L i=some e) (hb:e.ow E i b):IU E (DE L (i,.dead)) b:=by
 intro n f hf QC
 rw[AZ (AO hi)] at hf
 by_cases hn:n=i
 ·subst hn
  simp only[G4,AX] at hf;subst hf
  rcases QC with QC|⟨QC,_⟩|⟨QC,_⟩ <;> cases QC
 ·rw[AD hn] at hf
  exact h.inj n i f e b hn hf hi QC hb
theorem IU.kill {E:Env} {b:Nat} (h:IU E L b) {i:Nat} (hi:i<L.length):IU E (DE L (i,.dead)) b:=by
 intro n f hf QC
 rw[AZ hi] at hf
 by_cases hn:n=i
 ·simp only[hn,G4,AX] at hf;subst hf
  rcases QC with QC|⟨QC,_⟩|⟨QC,_⟩ <;> cases QC
 ·rw[AD hn] at hf
  exact h n f hf QC
theorem APE {o:Oper} {ρ:Operand->SV} {t:TypeId} {l cp:Operand} (FU:o.op= .makeSlice t l cp) {bs:Nat} (B9:∀ n e,AP n=some e->look L n=some e) {v:SV} {DD:C8}
  (h:yI P AP t (ρ l) (ρ cp) bs pr=some (v,DD)):EN TB P o ρ L v DD:=by
 unfold yI at h
 split at h
 rotate_left
 ·cases h
 rename_i e hu
 split at h
 rotate_left
 ·cases h
 rename_i q a k n k' m hq hz hty hl hcp
 split at h
 rotate_left
 ·cases h
 rename_i hc
 obtain⟨n7,hqb,DR⟩:=hc
 split at h
 rotate_left
 ·cases h
 rename_i hn
 obtain⟨h0,h1,h2⟩:=hn
 simp only[pr,AX,DB] at h
 obtain⟨rfl,rfl⟩:=h
 have LL:look L bs=some .K5:=B9 _ _ (by have:=CZ DR 0 (by omega);simpa using this)
 refine BO fun c w E hh hw=> ?_
 obtain⟨G,hG⟩:=hh
 have AXP:I64 m:=by
  have:(1:Int)<=q.bytes:=by omega
  have:m*1<=m*q.bytes:=ACF this (by omega)
  exact⟨by omega,by omega⟩
 have JN:=run_makeSlice (E:=E) (k:=k) (k' :=k') w hu hq hz (by rw[n7];rfl) h0 h1 h2 AXP
 have hold:¬c.Old w.heap.size:=fun hx=>by have:=hx.1;have:=hG.size;omega
 have hGn:¬G w.heap.size:=fun hx=>by have:=hG.vR _ hx;omega
 have CP:∀ (o:Obj) (b:Nat),b<w.heap.size->(w.alloc o).heap[b]? =w.heap[b]? :=by
  intro o b hb
  show (w.heap.push o)[b]? =_
  rw[AA9,AD (by omega)]
 have Q8:∀ (o:Obj),(w.alloc o).heap[w.heap.size]? =some o:=by
  intro o
  show (w.heap.push o)[w.heap.size]? =_
  simp
 obtain⟨g1,g2,g3,g4⟩:=hG.AJP (w' :=w.alloc (.cells ((Array.range (m.toNat*([SV.LJ]:List SV).length)).map fun i=>(AL E [SV.LJ]).toArray[i%(AL E [SV.LJ]).toArray.size]!) e)) LL ⟨rfl,rfl,rfl⟩ (by show _<=(w.heap.push _).size;simp) (m:=⟨w.heap.size,0,false,n.toNat,m.toNat,none⟩) (l:=[w.heap.size]) (t:=a) (xss:=List.replicate n.toNat [])
  (fun b hb _=>CP _ b hb) (by intro b hb;simp only[GO] at hb;subst hb;exact UH hG)
  (by
   intro E' L'
   refine⟨by simp,rfl,by simp, ?_,.inr ⟨rfl,by simp,by simp;omega,_,e,fun _=>⟨0,0,true,0,0,none⟩,Q8 _,by simp, ?_, ?_, ?_,fun _ _ he=>by cases he⟩⟩
   ·intro b hb
    simp only[GO] at hb;subst hb
    exact⟨hGn,hold,_,_,_,Q8 _⟩
   ·intro i hi
    simp only[aW] at hi
    rw[AOE,Array.getElem?_range,AB (by simp;omega)]
    have:i%(AL E [SV.LJ]).toArray.size=0:=Nat.mod_one i
    simp only[aZ,this]
    rfl
   ·intro i xs hi _
    rw[sD] at hi
    split at hi
    ·simp only[AX] at hi;subst hi
     exact⟨⟨rfl,trivial,.inl ⟨rfl,rfl,rfl⟩⟩,fun hx=>by cases hx⟩
    ·cases hi
   ·intro i j _ _ _ _ _ hx;cases hx)
 refine⟨_,_,_, ?_,.inl rfl,⟨G,g1⟩,g2,rfl,g3⟩
 simp only[execOp,FU,hl,hcp,SV.den]
 rw[g4]
 exact CY JN
theorem AM9 {o:Oper} {ρ:Operand->SV} {t:TypeId} {len:Nat} {parts:Array (Nat×Operand)} (FU:o.op= .buildSlice t len parts) {bs:Nat} (B9:∀ n e,AP n=some e->look L n=some e) {v:SV} {DD:C8}
  (h:nW P AP t len (parts.toList.map fun q=>(q.1,ρ q.2)) bs pr=some (v,DD)):EN TB P o ρ L v DD:=by
 unfold nW at h
 split at h
 rotate_left
 ·cases h
 rename_i e hu
 split at h
 rotate_left
 ·rename_i q a hq hz hty O0
  split at h
  rotate_left
  ·cases h
  rename_i hc
  obtain⟨n7,rfl,DR⟩:=hc
  simp only[pr,AX,DB] at h
  obtain⟨rfl,rfl⟩:=h
  have LL:look L bs=some .K5:=B9 _ _ (by have:=CZ DR 0 (by omega);simpa using this)
  refine BO fun c w E hh hw=> ?_
  obtain⟨G,hG⟩:=hh
  have JN:=UT (E:=E) (w:=w) (cs:=[.LJ]) FU hu hq hz (by rw[n7];rfl) (by rw[n7];omega) (by rw[O0];rfl) (by rw[O0,n7];rfl)
  have hold:¬c.Old w.heap.size:=fun hx=>by have:=hx.1;have:=hG.size;omega
  have hGn:¬G w.heap.size:=fun hx=>by have:=hG.vR _ hx;omega
  have Q8:∀ (o:Obj),(w.alloc o).heap[w.heap.size]? =some o:=by
   intro o
   show (w.heap.push o)[w.heap.size]? =_
   simp
  have CP:∀ (o:Obj) (b:Nat),b<w.heap.size->(w.alloc o).heap[b]? =w.heap[b]? :=by
   intro o b hb
   show (w.heap.push o)[b]? =_
   rw[AA9,AD (by omega)]
  obtain⟨g1,g2,g3,g4⟩:=hG.AJP (w' :=w.alloc (.cells (AL E [SV.LJ]).toArray e)) LL ⟨rfl,rfl,rfl⟩ (by show _<=(w.heap.push _).size;simp) (m:=⟨w.heap.size,0,false,1,1,none⟩) (l:=[w.heap.size]) (t:=a) (xss:=[[]])
   (fun b hb _=>CP _ b hb) (by intro b hb;simp only[GO] at hb;subst hb;exact UH hG)
   (by
    intro E' L'
    refine⟨rfl,rfl,by simp, ?_,.inr ⟨rfl,by simp,by simp,_,e,fun _=>⟨0,0,true,0,0,none⟩,Q8 _,by simp [AL], ?_, ?_, ?_,fun _ _ he=>by cases he⟩⟩
    ·intro b hb
     simp only[GO] at hb;subst hb
     exact⟨hGn,hold,_,_,_,Q8 _⟩
    ·intro i hi
     simp only[H7] at hi
     have:i=0:=by omega
     subst this
     rfl
    ·intro i xs hi _
     cases i with
     |succ i=>simp at hi
     |zero=>
      simp only[OS,AX] at hi;subst hi
      exact⟨⟨rfl,trivial,.inl ⟨rfl,rfl,rfl⟩⟩,fun hx=>by cases hx⟩
    ·intro i j _ _ _ _ _ hx;cases hx)
  refine⟨_,_,_,JN,.inl ?_,⟨G,g1⟩,g2,rfl,g3⟩
  simp only[SV.den];rw[g4];rfl
 ·cases h
 rename_i q a j hq hz hty O0
 split at h
 rotate_left
 ·cases h
 rename_i t' ys hj
 split at h
 rotate_left
 ·cases h
 rename_i he
 subst he
 split at h
 rotate_left
 ·cases h
 rename_i hc
 obtain⟨n7,rfl,DR⟩:=hc
 simp only[pr,AX,DB] at h
 obtain⟨rfl,rfl⟩:=h
 have LL:look L bs=some .K5:=B9 _ _ (by have:=CZ DR 0 (by omega);simpa using this)
 have eX :=B9 _ _ hj
 refine BO fun c w E hh hw=> ?_
 obtain⟨G,hG⟩:=hh
 have JN:=UT (E:=E) (w:=w) (cs:=[.MT j]) FU hu hq hz (by rw[n7];rfl) (by rw[n7];omega) (by rw[O0];rfl) (by rw[O0,n7];rfl)
 have hold:¬c.Old w.heap.size:=fun hx=>by have:=hx.1;have:=hG.size;omega
 have hGn:¬G w.heap.size:=fun hx=>by have:=hG.vR _ hx;omega
 have XA:=hG.kill (AO eX)
 have hjb:j≠bs:=by rintro rfl;rw[eX] at LL;cases LL
 have lQ:look (DE L (j,.dead)) bs=some .K5:=by rw[AZ (AO eX),AD (fun he=>hjb he.symm)];exact LL
 have DC:=hG.LK j _ eX
 have hjo:(E.nm j).nil=false->(AW.row t' ys).ow E j (E.nm j).B_:=fun hn=> .inl (by simp [AW.own,hn])
 have Q8:∀ (o:Obj),(w.alloc o).heap[w.heap.size]? =some o:=by
  intro o
  show (w.heap.push o)[w.heap.size]? =_
  simp
 have CP:∀ (o:Obj) (b:Nat),b<w.heap.size->(w.alloc o).heap[b]? =w.heap[b]? :=by
  intro o b hb
  show (w.heap.push o)[b]? =_
  rw[AA9,AD (by omega)]
 have DM:(E.nm j).nil=false->(E.nm j).B_<w.heap.size:=fun hn=>hG.iJ eX (hjo hn)
 obtain⟨g1,g2,g3,g4⟩:=XA.AJP (w' :=w.alloc (.cells (AL E [SV.MT j]).toArray e)) lQ ⟨rfl,rfl,rfl⟩ (by show _<=(w.heap.push _).size;simp) (m:=⟨w.heap.size,0,false,1,1,none⟩) (l:=n5 (E.nm j) [w.heap.size]) (t:=t') (xss:=[ys])
  (fun b hb _=>CP _ b hb)
  (by
   intro b hb
   rcases LS.1 hb with hb|⟨hn,rfl⟩
   ·simp only[GO] at hb;subst hb;exact UH XA
   ·exact jN hG eX (hjo hn))
  (by
   intro E' L'
   have OE:=DC.inner
   refine⟨rfl,rfl, ?_, ?_,.inr ⟨rfl,LS.2 (.inl (by simp)),by simp,_,e,fun _=>E.nm j,Q8 _,by simp [AL], ?_, ?_, ?_,fun _ _ he=>by cases he⟩⟩
   ·unfold n5
    split
    ·simp
    ·rename_i hn
     have:=DM (by simpa using hn)
     simp;omega
   ·intro b hb
    rcases LS.1 hb with hb|⟨hn,rfl⟩
    ·simp only[GO] at hb;subst hb
     exact⟨hGn,hold,_,_,_,Q8 _⟩
    ·obtain⟨q1,q2, -⟩:=hG.PR eX (hjo hn)
     obtain⟨-, -,OQ⟩:=hG.LK _ _ eX
     rcases OQ with ⟨x6,_⟩|⟨_,_,_,_,arr,ty,q3,_⟩
     ·rw[hn] at x6;cases x6
     ·exact⟨q1,q2,arr,ty,_,by rw[CP _ _ (DM hn)];exact q3⟩
   ·intro i hi
    simp only[H7] at hi
    have:i=0:=by omega
    subst this
    rfl
   ·intro i xs hi _
    cases i with
    |succ i=>simp at hi
    |zero=>
     simp only[OS,AX] at hi
     subst hi
     refine⟨OE.mono (fun x vs hx=>Rp.mono (fun b hb=>CP _ b (hG.vR b hb)) (fun _ h=>h) _ x vs hx) (fun hn=>CP _ _ (DM hn)),fun hn=>⟨LS.2 (.inr ⟨hn,rfl⟩), ?_⟩⟩
     have:=DM hn
     show (E.nm j).B_≠w.heap.size
     omega
   ·intro i i' hi KV hii
    simp at hi KV
    omega)
 refine⟨_,_,_,JN,.inl ?_,⟨G,g1⟩,fun n hn=> ?_,rfl,g3⟩
 ·simp only[SV.den];rw[g4];rfl
 ·obtain⟨q1,q2⟩:=g2 n (BU rfl n hn)
  exact⟨q1,q2⟩
theorem wF {o:Oper} {ρ:Operand->SV} {t:TypeId} {l cp:Operand} (FU:o.op= .makeSlice t l cp) {CG:Bool} {bs:Nat} (B9:∀ n e,AP n=some e->look L n=some e) {v:SV} {DD:C8}
  (h:QE P AP t (ρ l) (ρ cp) CG bs pr=some (v,DD)):EN TB P o ρ L v DD:=by
 unfold QE at h
 split at h
 rotate_left
 ·cases h
 rename_i e hu
 split at h
 rotate_left
 ·cases h
 rename_i q z a k n k' m hq hz hty hl hcp
 split at h
 rotate_left
 ·cases h
 rename_i zv nes u0 hpz
 split at h
 rotate_left
 ·cases h
 rename_i hc
 obtain⟨hzl,eY,hqb,DR⟩:=hc
 split at h
 rotate_left
 ·cases h
 rename_i hn
 obtain⟨h0,h1,h2⟩:=hn
 simp only[pr,AX,DB] at h
 obtain⟨rfl,rfl⟩:=h
 have LL:look L bs=some .K5:=B9 _ _ (by have:=CZ DR 0 (by omega);simpa using this)
 refine BO fun c w E hh hw=> ?_
 obtain⟨G,hG⟩:=hh
 have AXP:I64 m:=by
  have:(1:Int)<=q.bytes:=by omega
  have:m*1<=m*q.bytes:=ACF this (by omega)
  exact⟨by omega,by omega⟩
 have wD:Rp G w a zv (AL E z):=by
  obtain⟨c1,e1,_,_,hd⟩:=JL E _ _ _ _ _ _ hpz
  rw[GG] at e1;subst e1
  rw[hd]
  refine Rp.mk _ _ _ fun k e he=> ?_
  obtain⟨g1,_⟩:=W0 _ _ _ _ _ _ hpz
  rcases g1 k false e he with rfl|⟨t,s,ys,ne,uk,hs,CO,hsc,IP,rfl⟩
  ·trivial
  have hnf:D7 E nes k=ne.nm E:=by simp [D7,CO]
  rw[hnf]
  exact nO (L:=L) hs (by simp) (BW.1 (lP E hz) s hsc) (fun i t ys h=>by simp [IX] at h) (fun i t ys e _ h=>by simp [IX] at h)
 have OQ:RowsIn (Rp G w a) a.sz ((Array.range (m.toNat*z.length)).map fun i=>(AL E z).toArray[i%(AL E z).toArray.size]!) 0 (List.replicate n.toNat zv):=by
  intro i x hx
  rw[sD] at hx
  split at hx
  ·rename_i hi
   simp only[AX] at hx;subst hx
   have hzs:z.length=a.sz:=by omega
   have DM:(i+1)*a.sz<=m.toNat*a.sz:=sL _ (by omega)
   rw[a_] at DM
   have:BN ((Array.range (m.toNat*z.length)).map fun i=>(AL E z).toArray[i%(AL E z).toArray.size]!) (0+i*a.sz) a.sz=AL E z:=by
    apply VM
    intro j
    rw[CE]
    split
    ·rename_i hj
     rw[ML,AOE,Array.getElem?_range,AB (by rw[hzs];omega)]
     have e1:(AL E z).toArray.size=a.sz:=by simp [AS,hzs]
     simp only[aZ,e1]
     have AXQ:(i*a.sz+j)%a.sz=j:=by rw[sU,Nat.mul_add_mod,o8 hj]
     have qX:j<(AL E z).length:=by rw[AS,hzs];exact hj
     rw[AXQ,NH qX]
     simp [qX]
    ·rw[T3 (by rw[AS];omega)]
   rw[this];exact wD
  ·cases hx
 have hlen:(List.replicate n.toNat zv).length=n.toNat:=by simp
 obtain⟨f1,f2,f3⟩:=Hd.fin hG LL (w' :=w.alloc (.cells ((Array.range (m.toNat*z.length)).map fun i=>(AL E z).toArray[i%(AL E z).toArray.size]!) e)) (ty:=e) rfl ⟨rfl,rfl,rfl⟩ (a:=a) (xs:=List.replicate n.toNat zv) (cap:=m.toNat) CG
  (by simp;rw[hzl,eY]) (by rw[hlen];omega) OQ
 refine⟨_,_,_, ?_,.inl rfl,f1,f2,rfl,f3⟩
 simp only[execOp,FU,hl,hcp,SV.den,Env.EI,Nm.ad,VL,QZ,hlen]
 exact CY (run_makeSlice (E:=E) w hu hq hz hzl h0 h1 h2 AXP)
theorem AMA {o:Oper} {ρ:Operand->SV} {t:TypeId} (FU:o.op= .alloc t) {CG:Bool} {bs:Nat} (B9:∀ n e,AP n=some e->look L n=some e) {v:SV} {DD:C8}
  (h:nV P AP t CG bs pr=some (v,DD)):EN TB P o ρ L v DD:=by
 unfold nV at h
 split at h
 rotate_left
 ·cases h
 rename_i z hz
 split at h
 rotate_left
 ·cases h
 rename_i DR
 have LL:look L bs=some .K5:=B9 _ _ (by have:=CZ DR 0 (by omega);simpa using this)
 have JN:∀ (E:Env) (w:World),(execOp (fun x=>(ρ x).den E) o).run P w= .ok (.value (.pointer (some ⟨w.heap.size,0,none⟩))) (w.alloc (.cells (AL E z).toArray t)):=by
  intro E w
  obtain⟨zv,hzr,hzc⟩:=UF (E:=E) (P:=P) w hz
  simp only[execOp,FU]
  refine CY ?_
  simp only[Instr.alloc,Sem.run_bind,hzr,Result.andThen]
  simp [tL,hzc]
 split at h
 ·rename_i len e _
  split at h
  rotate_left
  ·cases h
  rename_i a q hty hq
  split at h
  rotate_left
  ·cases h
  rename_i hc
  obtain⟨eY,hns,hlen⟩:=hc
  split at h
  rotate_left
  ·cases h
  rename_i xs u hp
  simp only[pr,AX,DB] at h
  obtain⟨rfl,rfl⟩:=h
  refine BO fun c w E hh hw=> ?_
  obtain⟨G,hG⟩:=hh
  obtain⟨l1,l2,l3⟩:=jM (L:=L) (c:=c) (G:=G) (w:=w) (E:=E) _ _ _ _ hp (lP E hz) (iL .fM)
  obtain⟨f1,f2,f3⟩:=Hd.fin hG LL (w' :=w.alloc (.cells (AL E z).toArray t)) (ty:=t) rfl ⟨rfl,rfl,rfl⟩ (a:=a) (xs:=xs) (cap:=len) CG (by simp [AS,l2]) (by omega) l3
  refine⟨_,_,_,JN E w,.inl ?_,f1,f2,rfl,⟨f3,by rw[Env.EI];show 0<xs.length;omega,by rw[Env.EI]⟩⟩
  simp only[SV.den,Env.EI]
  simp
 ·split at h
  rotate_left
  ·cases h
  simp only[pr,AX,DB] at h
  obtain⟨rfl,rfl⟩:=h
  refine BO fun c w E hh hw=> ?_
  obtain⟨G,hG⟩:=hh
  have hwz:∀ (E' :Env) (L' :AK),K6 E' L' z/\AL E' z=AL E z:=by
   intro E' L'
   have:∀ (E1:Env) (L1:AK) (l:List Value),K6 E1 L1 (l.map SR)/\AL E1 (l.map SR)=l:=fun E1 L1 l=>
    ⟨BW.2 fun v hv=>by obtain⟨u,_,rfl⟩:=C6.1 hv;exact yO E1 u,V1 l⟩
   unfold NL at hz
   split at hz
   ·split at hz
    ·simp only[AX] at hz
     subst hz
     exact⟨(this _ _ _).1,by rw[(this E' L' _).2,(this E L _).2]⟩
    ·cases hz
   ·cases hz
  obtain⟨k1,k2⟩:=hG.n6 LL (w' :=w.alloc (.cells (AL E z).toArray t)) (ob:= .cells (AL E z).toArray t (0,0)) rfl ⟨rfl,rfl,rfl⟩ (e:= .box z) (m:=⟨w.heap.size,0,false,0,0,none⟩) rfl ⟨rfl,rfl,rfl⟩
   (fun DR hold hG CP=>⟨rfl,rfl,hG,hold,⟨t,by rw[(hwz (E.set bs ⟨w.heap.size,0,false,0,0,none⟩) L).2,Nm.AJN _ rfl rfl];exact DR⟩,(hwz _ _).1⟩)
  refine⟨_,_,_,JN E w,.inl ?_,⟨G,k1⟩,k2,rfl, ?_⟩
  ·simp only[SV.den,Env.EI]
  ·exact⟨.box z,by show look (DE L (bs,.box z)) bs=_;rw[AZ (AO LL),AB rfl],rfl⟩
theorem ATT {o:Oper} {ρ:Operand->SV} {t:TypeId} {x:Operand} (FU:o.op= .box t x) {bs:Nat} (B9:∀ n e,AP n=some e->look L n=some e) {v:SV} {DD:C8}
  (h:ALW AP (ρ x) bs pr=some (v,DD)):EN TB P o ρ L v DD:=by
 unfold ALW at h
 split at h
 rotate_left
 ·cases h
 rename_i hc
 obtain⟨hr,DR⟩:=hc
 have LL:look L bs=some .K5:=B9 _ _ (by have:=CZ DR 0 (by omega);simpa using this)
 simp only[pr,AX,DB] at h
 obtain⟨rfl,rfl⟩:=h
 refine BO fun c w E hh hw=> ?_
 obtain⟨G,hG⟩:=hh
 have Q1:=jA (E:=E) (ρ x) hr
 have LV:∀ m:Nm,K6 (E.set bs m) (DE L (bs,.box (BI (ρ x)))) (BI (ρ x))/\AL (E.set bs m) (BI (ρ x))=AL E (BI (ρ x)):=by
  intro m
  exact K7 (fun n hn=>BU rfl n hn) (fun n hn=>E.HG m (fun he=>EJ (he ▸ LL) hn)) _ (QF (hw x))
 obtain⟨k1,k2⟩:=hG.n6 LL (w' :=w.alloc (.cells (AL E (BI (ρ x))).toArray t)) (ob:= .cells (AL E (BI (ρ x))).toArray t (0,0)) rfl ⟨rfl,rfl,rfl⟩ (e:= .box (BI (ρ x))) (m:=⟨w.heap.size,0,false,0,0,none⟩) rfl ⟨rfl,rfl,rfl⟩
  (fun DR hold hG CP=>⟨rfl,rfl,hG,hold,⟨t,by rw[(LV _).2,Nm.AJN _ rfl rfl];exact DR⟩,(LV _).1⟩)
 refine⟨w.alloc (.cells (AL E (BI (ρ x))).toArray t),_,.value (.pointer (some ⟨w.heap.size,0,none⟩)), ?_,.inl ?_,⟨G,k1⟩,k2,rfl, ?_⟩
 ·simp only[execOp,FU]
  refine CY ?_
  simp [Instr.box,tL,Q1]
 ·simp only[SV.den,Env.EI]
 ·exact⟨.box (BI (ρ x)),by show look (DE L (bs,.box (BI (ρ x)))) bs=_;rw[AZ (AO LL),AB rfl],rfl⟩
end
theorem yP:∀ (vs cs:List SV) (off:Nat),off+vs.length<=cs.length->DT cs off vs=cs.take off++vs++cs.drop (off+vs.length)
 | [],cs,off,h=>by simp [DT]
 |v::r,cs,off,h=>by
  simp only[NZ] at h
  rw[DT,yP r _ _ (by rw[EP];omega)]
  have e1:(cs.set off v).take (off+1)=cs.take off++ [v]:=by
   rw[List.take_add_one,AIP (by omega),AO9 (EL _)]
   rfl
  rw[e1,AOA (by omega),NZ,show off+1+r.length=off+(r.length+1) from by omega]
  simp
theorem AR.A0L {c:DW TB} {G:Nat->Prop} {w:World} {E:Env} {L:AK} (h:AR c G w E L) {i j:Nat} {cs:List SV} (hi:look L i=some (.box cs)) (hj:look L j=some .K5) (off n:Nat) (hn:off+n<=cs.length):
  AR c G w (E.set j { B_:=(E.nm i).B_,off:=(E.nm i).off+off,nil:=false,len:=0,cap:=0,VO:=none,pp:=⟨(E.nm i).pp.pre++AL E (cs.take off),AL E (cs.drop (off+n))++(E.nm i).pp.post⟩ }) (DE (DE L (i,.dead)) (j,.box ((cs.drop off).take n))):=by
 obtain⟨h1,h2,h3,h4,⟨ty,h5⟩,h6⟩:=h.LK i _ hi
 have kL:j≠i:=by rintro rfl;rw[hi] at hj;cases hj
 have hk:=h.kill (AO hi)
 have hj1:look (DE L (i,.dead)) j=some .K5:=by rw[AZ (AO hi),AD kL];exact hj
 have MY:∀ k,Al L k->k≠j:=fun k hk he=>EJ hj (he ▸ hk)
 have CP:∀ l,K6 E L l->∀ m:Nm,K6 (E.set j m) (DE (DE L (i,.dead)) (j,.box ((cs.drop off).take n))) l/\AL (E.set j m) l=AL E l:=fun l hl m=>
  K7 (fun k hk=>BU rfl k (BU rfl k hk)) (fun k hk=>E.HG m (MY k hk)) l hl
 have XC:=BW.2 (fun v hv=>BW.1 h6 v (xI (xH hv)):∀ v∈(cs.drop off).take n,v.wf E L)
 refine hk.change (i:=j) (e' := .box ((cs.drop off).take n)) (w' :=w) (AO hj1) (.refl _) (EL _) (fun hx=>absurd hx (EJ hj1)) rfl (fun _ _ _=>rfl) ?_ ?_ ?_
 ·intro b hb
  simp only[AW.own,AX] at hb
  subst hb
  exact⟨h4,h3⟩
 ·intro k f hkj hf b hb he
  simp only[AW.own,AX] at he
  rw[AZ (AO hi)] at hf
  by_cases iK:k=i
  ·subst iK;simp only[G4,AX] at hf;subst hf;rcases hb with hb|⟨hb,_⟩|⟨hb,_⟩ <;> cases hb
  ·rw[AD iK] at hf
   exact h.inj k i f (.box cs) b iK hf hi hb (.inl (by simp [AW.own,he]))
 ·intro _
  refine⟨rfl,by simp [h2,AS];omega,h3,h4,⟨ty, ?_⟩,(CP _ XC _).1⟩
  rw[(CP _ XC _).2,h5]
  congr 2
  simp only[Nm.arr]
  congr 1
  have e:cs=cs.take off++((cs.drop off).take n++cs.drop (off+n)):=by
   rw[<-ACV,sK,sK]
  conv=>lhs;rw[e]
  simp only[GH,JH]
theorem AR.A3A {c:DW TB} {G:Nat->Prop} {w:World} {E:Env} {L:AK} (h:AR c G w E L) {i j:Nat} {cs jB :List SV} (kL:i≠j) (hi:i<L.length) (hj:look L j=some (.box jB)) (off:Nat) (hn:off+jB.length<=cs.length)
  (hb:(E.nm j).B_=(E.nm i).B_) (UB:(E.nm i).nil=false) (ho:(E.nm i).off=(E.nm i).pp.pre.length)
  (A3B:(E.nm j).pp.pre=(E.nm i).pp.pre++AL E (cs.take off)) (A0M:(E.nm j).pp.post=AL E (cs.drop (off+jB.length))++(E.nm i).pp.post) (hcs:K6 E L cs):
  AR c G w E (DE (DE L (j,.dead)) (i,.box (DT cs off jB))):=by
 obtain⟨h1,h2,h3,h4,⟨ty,h5⟩,h6⟩:=h.LK j _ hj
 have hk:=h.kill (AO hj)
 have VR:E.set i (E.nm i)=E:=by
  refine K8 (fun k=> ?_) rfl (fun _=>rfl)
  by_cases hk:k=i
  ·subst hk;rw[Env.EI]
  ·exact E.HG _ hk
 have:=hk.change (i:=i) (e' := .box (DT cs off jB)) (m:=E.nm i) (w' :=w) (by rw[F5];exact hi) (.refl _) (EL _) (fun _=>rfl) rfl (fun _ _ _=>rfl) ?_ ?_ ?_
 ·rw[VR] at this;exact this
 ·intro b SQ
  simp only[AW.own,AX] at SQ
  subst SQ
  rw[<-hb]
  exact⟨h4,h3⟩
 ·intro k f iK hf b SQ he
  simp only[AW.own,AX] at he
  rw[AZ (AO hj)] at hf
  by_cases hkj:k=j
  ·subst hkj;simp only[G4,AX] at hf;subst hf;rcases SQ with SQ |⟨SQ,_⟩|⟨SQ,_⟩ <;> cases SQ
  ·rw[AD hkj] at hf
   exact h.inj k j f (.box jB) b hkj hf hj SQ (.inl (by simp [AW.own,hb,he]))
 ·intro _
  rw[VR]
  refine⟨UB,ho,by rw[<-hb];exact h3,by rw[<-hb];exact h4,⟨ty, ?_⟩, ?_⟩
  ·rw[<-hb,h5]
   congr 2
   simp only[Nm.arr]
   rw[yP _ _ _ hn,A3B,A0M]
   simp only[GH,JH]
  ·refine (K7 (fun k hk=>BU rfl k (BU rfl k hk)) (fun _ _=>rfl) _ ?_).1
   refine BW.2 fun u hu=> ?_
   rcases jL hu with hu|hu
   ·exact BW.1 hcs u hu
   ·exact BW.1 h6 u hu
theorem APF {P:Program} {fi:FnI} {base:Nat} {AP:Nat->Option AW} {args:List SV} {v:SV} {DD:C8} (h:yE fi base AP args (fun v u=>some (v,u))=some (v,DD)) {f:FuncId} (hc:CallsV P TB f fi)
  {L:AK} (B9:∀ n e,AP n=some e->look L n=some e) {c:DW TB} {w:World} {E:Env} (hh:Hd c w E L) (hw:K6 E L args):
  Calls P f (AL E args).toArray w (fun e w' =>∃ E',e= .returned (v.den E')/\Hd c w' E' (AI L DD)/\(∀ n,Al L n->E'.nm n=E.nm n/\Al (AI L DD) n)/\E'.ds=E.ds/\v.wf E' (AI L DD)):=by
 unfold yE at h
 split at h
 ·exact tJ h hc B9 hh hw
 rename_i p i off n cs hf
 have hfp:NM AP fi.ps args 0=some (p,i,off,n,cs):=by
  split at hf
  ·exact hf
  ·cases hf
 obtain⟨-,hap,hbx⟩:=pJ _ _ _ hfp
 rw[xT] at hap
 split at h
 rotate_left
 ·cases h
 rename_i hck
 obtain⟨hn,DR⟩:=hck
 generalize hj:base+(cnts fi.rs+VQ fi.os)=j at h DR
 have hjr:=B9 _ _ (CZ DR 0 (by omega))
 rw[NJ] at hjr
 have hbi:=B9 _ _ hbx
 obtain⟨G,hG⟩:=hh
 obtain⟨h1,h2,h3,h4, -,h6⟩:=hG.LK i _ hbi
 have hcv:=hG.A0L hbi hjr off n hn
 generalize hm:({ B_:=(E.nm i).B_,off:=(E.nm i).off+off,nil:=false,len:=0,cap:=0,VO:=none,pp:=⟨(E.nm i).pp.pre++AL E (cs.take off),AL E (cs.drop (off+n))++(E.nm i).pp.post⟩ }:Nm)=m at hcv
 have kL:j≠i:=by rintro rfl;rw[hbi] at hjr;cases hjr
 have MY:∀ k,Al L k->k≠j:=fun k hk he=>EJ hjr (he ▸ hk)
 have AAR:∀ k,Al L k->Al (DE (DE L (i,.dead)) (j,.box ((cs.drop off).take n))) k:=fun k hk=>BU rfl k (BU rfl k hk)
 have CP:∀ l,K6 E L l->K6 (E.set j m) (DE (DE L (i,.dead)) (j,.box ((cs.drop off).take n))) l/\AL (E.set j m) l=AL E l:=fun l hl=>
  K7 AAR (fun k hk=>E.HG m (MY k hk)) l hl
 have hjL:j<(DE L (i,AW.dead)).length:=by rw[F5];exact AO hjr
 have hj2:look (DE (DE L (i,.dead)) (j,.box ((cs.drop off).take n))) j=some (.box ((cs.drop off).take n)):=by rw[AZ hjL,AB rfl]
 have hi2:look (DE (DE L (i,.dead)) (j,.box ((cs.drop off).take n))) i=some .dead:=by rw[AZ hjL,AD (fun he=>kL he.symm),AZ (AO hbi),AB rfl]
 rw[W_,ACH] at h
 obtain⟨⟨v0,u⟩,AJF,h⟩:=h
 simp only at h
 split at h
 rotate_left
 ·cases h
 rename_i jB hlb
 split at h
 rotate_left
 ·cases h
 rename_i hlen
 simp only[AX,DB] at h
 obtain⟨rfl,rfl⟩:=h
 have MX:K6 (E.set j m) (DE (DE L (i,.dead)) (j,.box ((cs.drop off).take n))) (args.set p (.loc j 0)):=by
  refine BW.2 fun x hx=> ?_
  rcases AIJ hx with hx|rfl
  ·exact BW.1 (CP _ hw).1 x hx
  ·exact⟨_,hj2,rfl⟩
 have jI:AL (E.set j m) (args.set p (.loc j 0))=AL E args:=by
  rw[bB]
  rw[(CP _ hw).2]
  apply VM
  intro k
  rw[sH]
  split
  ·rename_i hpk
   subst hpk
   rw[FJ,hap]
   have DM:p<(AL E args).length:=by rw[AS];exact (vU.1 hap).1
   rw[AB DM,aZ]
   simp only[SV.den,Env.EI,←hm,NJ]
  ·rfl
 have hr:=tJ AJF hc (L:=DE (DE L (i,.dead)) (j,.box ((cs.drop off).take n))) (fun k e he=>by
  split at he
  ·cases he
  ·rename_i iK
   split at he
   ·rename_i hkj
    subst hkj
    simp only[AX] at he
    subst he
    exact hj2
   ·rename_i hkj
    rw[AZ hjL,AD hkj,AZ (AO hbi),AD iK]
    exact B9 _ _ he) ⟨G,hcv⟩ MX
 rw[jI] at hr
 refine hr.mono ?_
 rintro e w' ⟨E',he,⟨G',hH⟩,hnm,hds,hv⟩
 have hj3:look (AI (DE (DE L (i,.dead)) (j,.box ((cs.drop off).take n))) u) j=some (.box jB):=tK j u (DE (DE L (i,.dead)) (j,.box ((cs.drop off).take n))) none (fun _ h=>by cases h) (by rw[F5];exact hjL) hlb
 have AXR:∀ k,Al L k->Al (AI (DE (DE L (i,.dead)) (j,.box ((cs.drop off).take n))) u) k:=fun k hk=>(hnm k (AAR k hk)).2
 have AXS:∀ k,Al L k->E'.nm k=E.nm k:=fun k hk=>by rw[(hnm k (AAR k hk)).1,E.HG m (MY k hk)]
 have hnj:E'.nm j=m:=by rw[(hnm j ⟨_,hj2,rfl⟩).1,Env.EI]
 have SY:E'.nm i=E.nm i:=AXS i ⟨_,hbi,rfl⟩
 have hcs:∀ l,(∀ x∈l,x∈cs)->K6 E' (AI (DE (DE L (i,.dead)) (j,.box ((cs.drop off).take n))) u) l/\AL E' l=AL E l:=fun l hl=>
  K7 AXR AXS l (BW.2 fun x hx=>BW.1 h6 x (hl x hx))
 have A0N:=hH.A3A (i:=i) (j:=j) (cs:=cs) (fun he=>kL he.symm) (AO (AXR i ⟨_,hbi,rfl⟩).choose_spec.1) hj3 off (by rw[hlen];exact hn)
  (by rw[hnj,SY,←hm]) (by rw[SY];exact h1) (by rw[SY];exact h2)
  (by rw[hnj,SY,(hcs _ (fun x hx=>xH hx)).2,←hm]) (by rw[hnj,SY,hlen,(hcs _ (fun x hx=>xI hx)).2,←hm]) (hcs cs fun _ h=>h).1
 have eu:AI L ([(i,.dead),(j,.box ((cs.drop off).take n))]++(u++ [(j,.dead),(i,.box (DT cs off jB))]))=DE (DE (AI (DE (DE L (i,.dead)) (j,.box ((cs.drop off).take n))) u) (j,.dead)) (i,.box (DT cs off jB)):=by
  rw[BM,BM]
  rfl
 rw[eu]
 refine⟨E',he,⟨G',A0N⟩,fun k hk=>⟨AXS k hk,BU rfl k (BU rfl k (AXR k hk))⟩,hds, ?_⟩
 exact (X_ (fun k hk=>BU rfl k (BU rfl k hk)) (fun _ _=>rfl) v0 hv).1
theorem APG {P:Program} {d:Bool} {fi:FnI} {base:Nat} {AP:Nat->Option AW} {args:List SV} {v:SV} {DD:C8} (h:AJG d fi base AP args (fun v u=>some (v,u))=some (v,DD)) {f:FuncId} (hc:CallsV P TB f fi)
  {L:AK} (B9:∀ n e,AP n=some e->look L n=some e) {c:DW TB} {w:World} {E:Env} (hh:Hd c w E L) (hw:K6 E L args):
  Calls P f (AL E args).toArray w (fun e w' =>∃ E',e= .returned (v.den E')/\Hd c w' E' (AI L DD)/\(∀ n,Al L n->E'.nm n=E.nm n/\Al (AI L DD) n)/\E'.ds=E.ds/\v.wf E' (AI L DD)):=by
 cases d
 ·exact APF h hc B9 hh hw
 ·exact AOZ h hc B9 hh hw
end Go.V3
namespace Go.V3
open Go
variable {TB:Tb}
section
variable {P:Program} {AP:Nat->Option AW} {L:AK}
def Rd {α:Type} (R:α->List Value->Prop) (sz:Nat) (w:World) (m:Nm) (xs:List α):Prop:=
 m.len=xs.length/\m.len<=m.cap/\(xs=[]\/(m.nil=false/\∃ arr ty fz,w.heap[m.B_]? =some (.cells arr ty fz)/\RowsIn R sz arr m.off xs))
theorem AH6 {α:Type} {R:α->List Value->Prop} {sz:Nat} {w:World} {m:Nm} {xs:List α} (h:Rd R sz w m xs) {lo n:Nat} (hl:lo+n<=m.len):
  Rd R sz w (if m.cap=lo then { B_:=m.B_,off:=m.off,nil:=m.nil,len:=n,cap:=m.cap-lo,VO:=m.VO,fz:=m.fz } else { B_:=m.B_,off:=m.off+lo*sz,nil:=m.nil,len:=n,cap:=m.cap-lo,VO:=nJ m.VO (lo*sz),fz:=m.fz }) (B5 xs lo n):=by
 obtain⟨h1,h0,h2⟩:=h
 have hs:qR R sz (fun _=>True) w m xs:=⟨h1,h0,h2.imp id fun ⟨a,b⟩=>⟨a,trivial,b⟩⟩
 obtain⟨k1,k0,k2⟩:=lB hs hl
 exact⟨k1,k0,k2.imp id fun ⟨a,_,b⟩=>⟨a,b⟩⟩
theorem tS {α:Type} {R:α->List Value->Prop} {sz:Nat} {c:DW TB} {G:Nat->Prop} {w:World} {m:Nm} {xs:List α} (h:Own R sz c G w m xs):Rd R sz w m xs:=by
 have hc:=eL h
 obtain⟨h1,h2,h3⟩:=h
 refine⟨h1,hc, ?_⟩
 rcases h3 with ⟨_,h4,_⟩|⟨h4,h5,h6,h7,arr,ty,h8,h9,tC⟩
 ·exact .inl h4
 ·exact .inr ⟨h4,arr,ty,_,h8,tC⟩
theorem ATU {α:Type} {R:α->List Value->Prop} {sz:Nat} {c:DW TB} {G:Nat->Prop} {w:World} {m:Nm} {xs:List α} (h:Own R sz c G w m xs) {n:Nat} (hn:n<=xs.length):Own R sz c G w (m.cut n) (B5 xs 0 n):=by
 obtain⟨h1,h2,h3⟩:=h
 have hl:(B5 xs 0 n).length=n:=by unfold B5;simp;omega
 refine⟨hl.symm,h2, ?_⟩
 rcases h3 with ⟨h4,rfl,h6⟩|⟨h4,h5,h6,h7,arr,ty,h8,h9,tC⟩
 ·exact .inl ⟨h4,by simp [B5],h6⟩
 ·refine .inr ⟨h4,h5,h6,by show _<=m.cap;omega,arr,ty,h8,h9,fun k x hk=>tC k x ?_⟩
  unfold B5 at hk
  rw[o_,kQ] at hk
  split at hk
  ·exact hk
  ·cases hk
theorem AH7 {α:Type} {R:α->List Value->Prop} {sz:Nat} {G:Nat->Prop} {w:World} {m:Nm} {xs:List α} (h:qR R sz G w m xs):Rd R sz w m xs:=
 ⟨h.1,h.2.1,h.2.2.imp id fun ⟨a,_,b⟩=>⟨a,b⟩⟩
theorem ADX {md:PM} {a:Ty} {v:SV} {xs:List a.T} {ne:NE} {u:C8} (h:MV md AP a v=some (xs,ne,u)) (tD:md≠ .own) (H9:V5 AP v=false) {E:Env} (hv:v.wf E L) {G:Nat->Prop} {w:World}
  (h1:∀ i t ys,AP i=some (.shr t ys)\/AP i=some (.row t ys)->Rd (Rp G w t) t.sz w (E.nm i) ys):Rd (Rp G w a) a.sz w (ne.nm E) xs:=by
 unfold MV at h
 repeat' split at h
 all_goals first|(cases h;done)|skip
 all_goals (simp only[AX,DB] at h;obtain⟨rfl,rfl,rfl⟩:=h)
 all_goals first|exact absurd rfl tD|skip
 ·exact⟨rfl,EL _,.inl rfl⟩
 ·rename_i hl he _ _;subst he;exact h1 _ _ _ (.inl hl)
 ·rename_i hl he _;subst he;exact h1 _ _ _ (.inr hl)
 ·rename_i hl he _;subst he;exact h1 _ _ _ (.inr hl)
 ·rename_i hl he _;simp [V5,hl] at H9
 ·rename_i hl he _;simp [V5,hl] at H9
 ·rename_i hl he _;simp [V5,hl] at H9
 ·rename_i hl he _;simp [V5,hl] at H9
 ·rename_i hz _ _ _ hl he _ _;subst he;subst hz;exact AH6 (h1 _ _ _ (.inl hl)) hv.2
 ·rename_i hz _ _ _ hl he _;subst he;subst hz;exact AH6 (h1 _ _ _ (.inr hl)) hv.2
 ·rename_i hz _ _ _ hl he _;subst he;subst hz;exact AH6 (h1 _ _ _ (.inr hl)) hv.2
theorem AMB {G:Nat->Prop} {w:World} {a:Ty} {arr:Array Value} {off:Nat} {xs:List a.T} (h:RowsIn (Rp G w a) a.sz arr off xs) (hx:xs≠[]):off+xs.length*a.sz<=arr.size:=by
 have DM:xs.length-1<xs.length:=by
  cases xs with
  |nil=>exact absurd rfl hx
  |cons _ _=>simp
 have:=h (xs.length-1) _ (NH DM)
 have h2:=pM this.length (AGI a)
 have e:(xs.length-1)*a.sz+a.sz=xs.length*a.sz:=by
  rw[<-Nat.succ_mul];congr 1;omega
 omega
theorem tT {G:Nat->Prop} {w:World} {a:Ty} {m:Nm} {xs:List a.T} (h:Rd (Rp G w a) a.sz w m xs):∃ cells:List Value,cells.length=xs.length*a.sz∧
  (∀ w' :World,w'.heap=w.heap->(Builtin.firstCells a.sz xs.length (.slice m.ad m.len m.cap)).run P w' = .ok cells.toArray w')∧
  (∀ (arr:Array Value) (o:Nat),BN arr o (xs.length*a.sz)=cells->RowsIn (Rp G w a) a.sz arr o xs)/\Flat cells:=by
 obtain⟨h1,h0,h2⟩:=h
 rcases h2 with rfl|⟨hn,arr,ty,fz,h3,h4⟩
 ·refine⟨[],by simp,fun w' _=> ?_,fun arr o _ i x hx=>by simp at hx,fun v hv=>by cases hv⟩
  cases had:m.ad with
  |none=>rfl
  |some p=>
   have:=run_loadCells_list (P:=P) w' p [] (fun j v hj=>by simp at hj)
   show (loadCells p (0*a.sz)).run P w' =_
   rw[xS];exact this
 ·by_cases hx:xs=[]
  ·subst hx
   refine⟨[],by simp,fun w' _=> ?_,fun arr o _ i x hx=>by simp at hx,fun v hv=>by cases hv⟩
   cases had:m.ad with
   |none=>rfl
   |some p=>
    have:=run_loadCells_list (P:=P) w' p [] (fun j v hj=>by simp at hj)
    show (loadCells p (0*a.sz)).run P w' =_
    rw[xS];exact this
  ·have hs:=AMB h4 hx
   refine⟨BN arr m.off (xs.length*a.sz),by unfold BN;simp;omega,fun w' hw' => ?_,fun YA o he=>h4.ADK he, ?_⟩
   ·rw[<-h1]
    exact US hn (by rw[hw'];exact h3) (by rw[h1];exact hs)
   ·intro v hv
    obtain⟨j,hj,rfl⟩:=fJ hv
    have qX:j<xs.length*a.sz:=by unfold BN at hj;simp at hj;omega
    have ZR:=AGI a
    have hq:j / a.sz<xs.length:=Nat.div_lt_of_lt_mul (by rw[sU];exact qX)
    have hr:=h4 (j / a.sz) _ (NH hq)
    refine Rp.AJH a _ _ hr _ ?_
    have AXQ:=Nat.div_add_mod j a.sz
    rw[sU] at AXQ
    have hml:=xV j ZR
    have:(BN arr (m.off+j / a.sz*a.sz) a.sz)[j%a.sz]? =(BN arr m.off (xs.length*a.sz))[j]? :=by
     rw[CE,CE,AB hml,AB qX]
     congr 1;omega
    rw[NH hj] at this
    exact ZO this
theorem eZ {c:DW TB} {G:Nat->Prop} {w:World} {E:Env} {bs:Nat} {a:Ty} {xs:List a.T} (CG:Bool) (hb:bs<L.length) (h:AR c G w E (DE L (bs,.row a xs))):
  Hd c w E (AI L (fin CG bs a xs))/\(∀ n,Al (DE L (bs,.row a xs)) n->Al (AI L (fin CG bs a xs)) n)/\Al (AI L (fin CG bs a xs)) bs:=by
 have B9:look (DE L (bs,.row a xs)) bs=some (.row a xs):=by rw[AZ hb,AB rfl]
 cases CG with
 |true=>exact⟨⟨G,h⟩,fun _ hn=>hn,⟨_,B9,rfl⟩⟩
 |false=>exact⟨⟨_,h.freeze B9⟩,fun n hn=>BU rfl n hn,BU rfl bs ⟨_,B9,rfl⟩⟩
set_option maxHeartbeats 1000000 in
theorem AH8 {o:Oper} {ρ:Operand->SV} {args:Array Operand} {ts:Array TypeId} (FU:o.op= .call { callee:= .builtin .append,args:=args,argTypes:=ts }) {x y:SV} (MX:args.toList.map ρ=[x,y])
  {CG:Bool} {bs:Nat} (B9:∀ n e,AP n=some e->look L n=some e) (H9:V5 AP y=false) {v:SV} {DD:C8} (h:eV P AP ts.toList x y CG bs pr=some (v,DD)):EN TB P o ρ L v DD:=by
 unfold eV at h
 split at h
 rotate_left
 ·cases h
 rename_i t0 t1 hts
 split at h
 rotate_left
 ·cases h
 rename_i e e1 hu hu1
 split at h
 rotate_left
 ·cases h
 rename_i q z a hq hz hty
 split at h
 rotate_left
 ·cases h
 rename_i hc
 obtain⟨hzl,eY,hqb,DR⟩:=hc
 split at h
 rotate_left
 ·cases h
 rename_i xs ne1 u1 ys ne u2 rJ hp2
 split at h
 rotate_left
 ·cases h
 rename_i W6
 split at h
 rotate_left
 ·cases h
 rename_i hby
 simp only[pr,AX,DB] at h
 obtain⟨rfl,rfl⟩:=h
 have LL:look L bs=some .K5:=B9 _ _ (by have:=CZ DR 0 (by omega);simpa using this)
 obtain⟨zv,hzv⟩:∃ zv,q.zero=some zv:=by
  unfold NL at hz
  rw[hq] at hz
  simp only at hz
  split at hz
  ·exact⟨_,by assumption⟩
  ·cases hz
 have hzc:zv.cells.size=a.sz:=by
  unfold NL at hz
  rw[hq] at hz
  simp only[hzv,AX] at hz
  have:z.length=zv.cells.size:=by rw[<-hz];simp
  omega
 have qY:ts[0]? =some t0:=by rw[<-iX,hts];rfl
 have qZ:ts[1]? =some t1:=by rw[<-iX,hts];rfl
 refine BO fun c w E hh hw=> ?_
 obtain⟨G,hG⟩:=hh
 have WJ:∀ u∈[x,y],u.wf E L:=by
  rw[<-MX]
  intro u hu
  obtain⟨k,_,rfl⟩:=C6.1 hu
  exact hw k
 have tD:PM.bF≠ .own:=by simp
 have AAU:∀ q∈u2,∃ t ys e,AP q.1=some e/\ZS e t ys/\q.2= .shr t ys:=by
  intro q PT
  rcases nN hp2 with rfl|⟨i,t',ys',e',hl,hoe,_,_,rfl⟩|hx
  ·cases PT
  ·rw[GO] at PT;subst PT;exact⟨t',ys',e',hl,hoe,rfl⟩
  ·exact absurd hx tD
 obtain⟨G1,k1,k2,k3,k4,k5⟩:=hG.known B9 AAU
 have AXT:∀ i t zs,AP i=some (.shr t zs)\/AP i=some (.row t zs)->Rd (Rp G1 w t) t.sz w (E.nm i) zs:=by
  intro i t zs hl
  rcases hl with hl|hl
  ·exact AH7 (k3.shr i t zs hl)
  ·have:=hG.LK i _ (B9 _ _ hl)
   have h2:=tS this
   exact⟨h2.1,h2.2.1,h2.2.2.imp id fun ⟨p1,arr,ty,fz,p2,p3⟩=>⟨p1,arr,ty,fz,p2,p3.imp fun x vs hx=>Rp.mono (fun _ _=>rfl) k5 t x vs hx⟩⟩
 have A0O:Rd (Rp G1 w a) a.sz w (ne.nm E) ys:=ADX hp2 tD H9 (WJ y (by simp)) AXT
 have hy:=nM hp2 E
 have lQ:look (AI L u2) bs=some .K5:=by
  rw[k4 bs];exact LL
  intro hx
  obtain⟨q',PT,he⟩:=C6.1 hx
  obtain⟨t',ys',e',hl,hoe,_⟩:=AAU q' PT
  have:=B9 _ _ hl
  rw[he,LL] at this;cases this;cases hoe
 have pN:∀ (w' :World) (r:Value) (X:Value),x.den E=X->(Builtin.append_ ts o.type #[X,.slice (ne.nm E).ad (ne.nm E).len (ne.nm E).cap]).run P w= .ok r w' ->(execOp (fun x=>(ρ x).den E) o).run P w= .ok (.value r) w' :=by
  intro w' r X hX hr
  have jO :(args.map fun x=>(ρ x).den E)= #[X,.slice (ne.nm E).ad (ne.nm E).len (ne.nm E).cap]:=by
   apply ZD
   have:(args.toList.map ρ).map (SV.den E)=[X,.slice (ne.nm E).ad (ne.nm E).len (ne.nm E).cap]:=by rw[MX];simp [hX,hy]
   rw[UN] at this
   rw[vX]
   exact this
  simp only[execOp,FU,resolve,invoke,Sem.run_bind,Sem.run_pure,Result.andThen,jO,builtin,hr]
 obtain⟨news,n1,n2,n3,n4⟩:=tT (P:=P) A0O
 have V7:=A0O.1
 have AJQ:∀ (L2:AK) (od:Option Addr),AR c G1 w E L2->look L2 bs=some .K5->xs++ys=[]->AI L (u2++u1++fin CG bs a (xs++ys))=AI L2 (fin CG bs a (xs++ys))->(∀ n,Al L n->Al L2 n)→
   (execOp (fun x=>(ρ x).den E) o).run P w= .ok (.value (.slice od 0 0)) w→
   ∃ (w' :World) (E' :Env) (nx:Next),(execOp (fun x=>(ρ x).den E) o).run P w= .ok nx w' /\(nx= .value ((SV.MT bs).den E')\/(nx= .skip/\(SV.MT bs)=AV))∧
   Hd c w' E' (AI L (u2++u1++fin CG bs a (xs++ys)))/\(∀ n,Al L n->E'.nm n=E.nm n/\Al (AI L (u2++u1++fin CG bs a (xs++ys))) n)/\E'.ds=E.ds/\(SV.MT bs).wf E' (AI L (u2++u1++fin CG bs a (xs++ys))):=by
  intro L2 od hH hr UB AAU MY JN
  rw[AAU,UB]
  have h1:=hH.change (i:=bs) (e' := .row a []) (m:=⟨0,0,true,0,0,od⟩) (w' :=w) (AO hr) (.refl _) (EL _) (fun hx=>absurd hx (EJ hr)) rfl (fun _ _ _=>rfl) (fun b hb=>by cases hb) (fun _ _ _ _ _ _ hb=>by cases hb)
   (fun _=>⟨rfl,trivial,.inl ⟨rfl,rfl,rfl⟩⟩)
  obtain⟨f1,f2,f3⟩:=eZ CG (AO hr) h1
  refine⟨w,E.set bs ⟨0,0,true,0,0,od⟩,_,JN,.inl ?_,f1,fun n hn=>⟨E.HG _ (fun he=>EJ (he ▸ LL) hn),f2 n (BU rfl n (MY n hn))⟩,rfl,f3⟩
  simp [SV.den,Env.EI,Nm.ad]
 have ADY:∀ (L2:AK) (m:Nm),AR c G1 w E L2->look L2 bs=some .K5->Rd (Rp G1 w a) a.sz w m xs->x.den E= .slice m.ad m.len m.cap->m.cap<m.len+(ne.nm E).len->AI L (u2++u1++fin CG bs a (xs++ys))=AI L2 (fin CG bs a (xs++ys))->(∀ n,Al L n->Al L2 n)→
   ∃ (w' :World) (E' :Env) (nx:Next),(execOp (fun x=>(ρ x).den E) o).run P w= .ok nx w' /\(nx= .value ((SV.MT bs).den E')\/(nx= .skip/\(SV.MT bs)=AV))∧
   Hd c w' E' (AI L (u2++u1++fin CG bs a (xs++ys)))/\(∀ n,Al L n->E'.nm n=E.nm n/\Al (AI L (u2++u1++fin CG bs a (xs++ys))) n)/\E'.ds=E.ds/\(SV.MT bs).wf E' (AI L (u2++u1++fin CG bs a (xs++ys))):=by
  intro L2 m hH hr AAV hx tU AAU MY
  rw[AAU]
  obtain⟨olds,o1,o2,o3,o4⟩:=tT (P:=P) AAV
  obtain⟨c',hc',JN⟩:=run_append_grow (P:=P) (w:=w) (ty:=o.type) (a:=m.ad) (b:=(ne.nm E).ad) (len:=m.len) (cap:=m.cap) (n:=(ne.nm E).len) (c:=(ne.nm E).cap) (news:=news) (olds:=olds) qY qZ hu hu1 hq hzv hqb
   (by rw[eY];have:=n2 w.drew rfl;rw[V7];rw[V7] at this;exact this)
   (by rw[eY];have:=o2 w.drew rfl;rw[AAV.1];rw[AAV.1] at this;exact this) tU (by rw[AAV.1,V7];exact hby)
  have ZR:(olds.toArray++news.toArray++Builtin.zeroCells zv.cells (c' -(m.len+(ne.nm E).len))).size=c' *a.sz:=by
   have hzs:(Builtin.zeroCells zv.cells (c' -(m.len+(ne.nm E).len))).size=(c' -(m.len+(ne.nm E).len))*a.sz:=by
    simp [Builtin.zeroCells,hzc]
   simp only[Array.size_append,hzs,List.size_toArray,o1,n1]
   rw[<-AAV.1,←V7,←a_,←a_]
   congr 1;omega
  have OQ:RowsIn (Rp G1 w a) a.sz (olds.toArray++news.toArray++Builtin.zeroCells zv.cells (c' -(m.len+(ne.nm E).len))) 0 (xs++ys):=by
   refine RowsIn.append (o3 _ _ ?_) ?_
   rotate_left
   rw[ML]
   refine n3 _ _ ?_
   rotate_left
   ·apply VM
    intro j
    rw[CE]
    split
    ·rw[ML,ACG (by simp;omega),ACG (by simp;omega)];simp
    ·rw[T3 (by omega)]
   ·apply VM
    intro j
    rw[CE]
    split
    ·rw[ACG (by simp;omega),ANV (by simp;omega)]
     simp only[List.size_toArray,o1,sE]
     congr 1;omega
    ·rw[T3 (by omega)]
  obtain⟨h1,h2⟩:=hH.n6 hr (w' :=w.drew.alloc (.cells (olds.toArray++news.toArray++Builtin.zeroCells zv.cells (c' -(m.len+(ne.nm E).len))) e)) (ob:= .cells (olds.toArray++news.toArray++Builtin.zeroCells zv.cells (c' -(m.len+(ne.nm E).len))) e (0,0)) rfl ⟨rfl,rfl,rfl⟩ (e:= .row a (xs++ys)) (m:=⟨w.heap.size,0,false,(xs++ys).length,c',none⟩) rfl ⟨rfl,rfl,rfl⟩
   (fun DR hold hG CP=>⟨rfl,trivial,.inr ⟨rfl,hG,hold,by have:=AAV.1;simp;omega,_,e,DR,by rw[ZR];show 0+c' *a.sz<=_;omega,OQ.imp fun x vs hx=>Rp.mono CP (fun _ h=>h) a x vs hx⟩⟩)
  obtain⟨f1,f2,f3⟩:=eZ CG (AO hr) h1
  refine⟨_,_,_,pN _ _ _ hx JN,.inl ?_,f1,fun n hn=>⟨E.HG _ (fun he=>EJ (he ▸ LL) hn),f2 n (BU rfl n (MY n hn))⟩,rfl,f3⟩
  have hlen:m.len+(ne.nm E).len=(xs++ys).length:=by rw[AAV.1,V7];simp
  simp [SV.den,Env.EI,Nm.ad,hlen]
 rcases AD8 rJ with ⟨rfl,rfl,rfl,rfl⟩|⟨i,zs,nn,hl,rfl,hxs,A3C⟩
 ·
  have hxd:SV.LJ.den E= .slice none 0 0:=rfl
  have yQ:AI L (u2++ []++fin CG bs a ([]++ys))=AI (AI L u2) (fin CG bs a ([]++ys)):=by simp [BM]
  by_cases hn:ys=[]
  ·have kO:(ne.nm E).len=0:=by rw[V7,hn];rfl
   refine AJQ (AI L u2) none k1 lQ (by simp [hn]) yQ k2 ?_
   refine pN w _ _ hxd ?_
   have:=IQ (P:=P) (w:=w) (w' :=w) (ty:=o.type) (a:=none) (b:=(ne.nm E).ad) (len:=0) (cap:=0) (n:=(ne.nm E).len) (c:=(ne.nm E).cap) (news:=news) qY qZ hu hu1 hq
    (by rw[eY];have:=n2 w rfl;rw[V7];rw[V7] at this;exact this) (by omega) rfl
   rw[kO] at this
   rw[kO];exact this
  ·refine ADY (AI L u2) ⟨0,0,true,0,0,none⟩ k1 lQ ⟨rfl,EL _,.inl rfl⟩ (by rw[hxd];rfl) ?_ yQ k2
   have:0<ys.length:=by
    cases ys with
    |nil=>exact absurd rfl hn
    |cons _ _=>simp
   show 0<0+(ne.nm E).len
   omega
 ·
  have A3D:i∉u2.map (·.1):=by
   intro hx
   obtain⟨q',PT,he⟩:=C6.1 hx
   have:=JV.1 W6 (i,.dead) (by simp)
   have:=JV.1 this q' PT
   simp [he] at this
  have hli:look (AI L u2) i=some (.row a zs):=by rw[k4 i A3D];exact B9 _ _ hl
  have AVX:=k1.LK i _ hli
  obtain⟨x6,A3E⟩:=A3C E L (WJ x (by simp)) AVX.1
  have DC:=ATU AVX x6
  rw[<-hxs] at DC
  have AAV:=tS DC
  have hxd:x.den E= .slice ((E.nm i).cut nn).ad ((E.nm i).cut nn).len ((E.nm i).cut nn).cap:=A3E
  have XA:=k1.kill (AO hli)
  have hib:i≠bs:=by
   intro he;rw[he,lQ] at hli;cases hli
  have AAW:look (DE (AI L u2) (i,.dead)) bs=some .K5:=by rw[AZ (AO hli),AD (fun he=>hib he.symm)];exact lQ
  have yQ:AI L (u2++ [(i,.dead)]++fin CG bs a (xs++ys))=AI (DE (AI L u2) (i,.dead)) (fin CG bs a (xs++ys)):=by rw[BM,BM];rfl
  have AAR:∀ n,Al L n->Al (DE (AI L u2) (i,.dead)) n:=fun n hn=>BU rfl n (k2 n hn)
  by_cases tU:((E.nm i).cut nn).cap<((E.nm i).cut nn).len+(ne.nm E).len
  ·exact ADY _ ((E.nm i).cut nn) XA AAW AAV hxd tU yQ AAR
  ·obtain⟨p1,p2,p3⟩:=DC
   rcases p3 with ⟨p4,p5,p6⟩|⟨p4,p5,p6,p7,arr,ty,p8,p9,p10⟩
   ·
    have A0P:((E.nm i).cut nn).len=0:=by rw[p1,p5];rfl
    have kO:(ne.nm E).len=0:=by omega
    have hyn:ys=[]:=by
     cases ys with
     |nil=>rfl
     |cons _ _=>simp at V7;omega
    refine AJQ _ (E.nm i).VO XA AAW (by simp [p5,hyn]) yQ AAR ?_
    refine pN w _ _ hxd ?_
    have hnw:news=[]:=by
     have:ys.length=0:=by rw[hyn];rfl
     exact AO0.1 (by rw[n1,this,xS])
    have:=IQ (P:=P) (w:=w) (w' :=w) (ty:=o.type) (a:=(E.nm i).VO) (b:=(ne.nm E).ad) (len:=0) (cap:=0) (n:=(ne.nm E).len) (c:=(ne.nm E).cap) (news:=news) qY qZ hu hu1 hq
     (by rw[eY];have:=n2 w rfl;rw[V7];rw[V7] at this;exact this) (by omega) (by rw[hnw];split <;> rfl)
    rw[kO] at this
    have had:((E.nm i).cut nn).ad=(E.nm i).VO:=by unfold Nm.ad;rw[AB p4];rfl
    rw[had,A0P,p6,kO];exact this
   ·
    have AMC:((E.nm i).cut nn).len+(ne.nm E).len<=((E.nm i).cut nn).cap:=by omega
    have hmul:(xs.length+ys.length)*a.sz<=((E.nm i).cut nn).cap*a.sz:=sL _ (by omega)
    rw[a_] at hmul
    obtain⟨w',s1,s2,s3,s4,s5⟩:=KI (P:=P) (off:=((E.nm i).cut nn).off+((E.nm i).cut nn).len*a.sz) news w arr 0 (fun j hj=>((E.nm i).cut nn).AAC hj) p8 n4 (by rw[n1,p1];omega)
    rw[NJ] at s4
    have JN:=IQ (P:=P) (w:=w) (w' :=w') (ty:=o.type) (a:=((E.nm i).cut nn).ad) (b:=(ne.nm E).ad) (len:=((E.nm i).cut nn).len) (cap:=((E.nm i).cut nn).cap) (n:=(ne.nm E).len) (c:=(ne.nm E).cap) (news:=news) qY qZ hu hu1 hq
     (by rw[eY];have:=n2 w rfl;rw[V7];rw[V7] at this;exact this) AMC (by
      simp only[Nm.ad,p4,VL,QZ]
      rw[eY,H2];exact s1)
    have hGs:∀ b,G1 b->w'.heap[b]? =w.heap[b]? :=fun b hb=>s5 b (fun he=>p5 (he ▸ hb))
    have OQ:RowsIn (Rp G1 w' a) a.sz (rO arr (((E.nm i).cut nn).off+((E.nm i).cut nn).len*a.sz) news) ((E.nm i).cut nn).off (xs++ys):=by
     refine RowsIn.imp (R:=Rp G1 w a) ?_ (fun x vs hx=>Rp.mono hGs (fun _ h=>h) a x vs hx)
     refine RowsIn.append (p10.ADK ?_) (n3 _ _ ?_)
     ·rw[p1,ZG];omega
     ·rw[p1,←n1,bM];omega
    have h1:=XA.change (i:=bs) (e' := .row a (xs++ys)) (m:={ B_:=((E.nm i).cut nn).B_,off:=((E.nm i).cut nn).off,nil:=false,len:=(xs++ys).length,cap:=((E.nm i).cut nn).cap,VO:=none,fz:=(E.nm i).fz }) (w' :=w') (AO AAW) s2 (by omega) (fun hx=>absurd hx (EJ AAW)) rfl
     (fun b _ hb=>s5 b (fun he=>hb (by simp [AW.own,he])))
     (fun b hb=>by simp only[AW.own,VL,QZ,AX] at hb;subst hb;exact⟨p6,p5⟩)
     (by
      intro k f hk hf b hb he
      simp only[AW.own,VL,QZ,AX] at he
      rw[AZ (AO hli)] at hf
      by_cases iK:k=i
      ·subst iK;simp only[G4,AX] at hf;subst hf;rcases hb with hb|⟨hb,_⟩|⟨hb,_⟩ <;> cases hb
      ·rw[AD iK] at hf
       refine k1.inj k i f _ b iK hf hli hb (.inl ?_)
       have p4' :(E.nm i).nil=false:=p4
       have wA :(E.nm i).B_=b:=he
       simp [AW.own,p4',wA])
     (fun _=>⟨rfl,trivial,.inr ⟨rfl,p5,p6,by simp;omega,rO arr (((E.nm i).cut nn).off+((E.nm i).cut nn).len*a.sz) news,ty,by rw[Q5];exact s4,by rw[Q5];exact p9,OQ⟩⟩)
    obtain⟨f1,f2,f3⟩:=eZ CG (AO AAW) h1
    rw[yQ]
    refine⟨w',_,_,pN _ _ _ hxd JN,.inl ?_,f1,fun n hn=>⟨E.HG _ (fun he=>EJ (he ▸ LL) hn),f2 n (BU rfl n (AAR n hn))⟩,rfl,f3⟩
    have hlen:((E.nm i).cut nn).len+(ne.nm E).len=(xs++ys).length:=by rw[p1,V7];simp
    simp [SV.den,Env.EI,Nm.ad,hlen,p4]
def XD (m:Nm):Value:= .slice m.ad m.len m.cap
theorem AH9 {a:Ty} {v:SV} {xs:List (List a.T)} {u:C8} (h:ADN AP a v=some (xs,u)):(v= .LJ/\xs=[]/\u=[])\/∃ i,v= .MT i/\AP i=some (.deep a xs none)/\u=[(i,.dead)]:=by
 unfold ADN at h
 split at h
 ·simp only[AX,DB] at h
  obtain⟨rfl,rfl⟩:=h
  exact .inl ⟨rfl,rfl,rfl⟩
 ·split at h
  rotate_left
  ·cases h
  rename_i t xss hl
  split at h
  rotate_left
  ·cases h
  rename_i he
  subst he
  simp only[AX,DB] at h
  obtain⟨rfl,rfl⟩:=h
  exact .inr ⟨_,rfl,hl,rfl⟩
 ·cases h
structure APH (P:Program) (c:DW TB) (G:Nat->Prop) (w:World) (m:Nm) (l:List Nat) (a:Ty) (xs:List (List a.T)) (hs:Nat->Nm):Prop where
 rd:∀ w' :World,w'.heap=w.heap->(Builtin.firstCells 1 xs.length (.slice m.ad m.len m.cap)).run P w' = .ok ((List.range xs.length).map fun k=>XD (hs k)).toArray w'
 jD:∀ k v,xs[k]? =some v->FY (Rp G w a) a.sz w (hs k) v/\((hs k).nil=false->(hs k).B_∈l/\(m.nil=false->(hs k).B_≠m.B_))
 dis:∀ k k',k<xs.length->k' <xs.length->k≠k' ->(hs k).nil=false->(hs k').nil=false->(hs k).B_≠(hs k').B_
theorem FT.tV {c:DW TB} {G:Nat->Prop} {w:World} {E:Env} {m:Nm} {l:List Nat} {a:Ty} {xs:List (List a.T)} (d:FT c G w E L m l a xs none):∃ hs,APH P c G w m l a xs hs∧
  (m.nil=false->∃ arr ty,w.heap[m.B_]? =some (.cells arr ty (0,0))/\arr.size=m.cap/\xs.length<=m.cap/\m.B_∈l/\∀ k,k<xs.length->arr[k]? =some (XD (hs k))):=by
 have LU:∀ k' j,(none:Option (Nat×Nat))≠some (k',j):=fun _ _ he=>by cases he
 rcases d.cs with ⟨h1,h2,h3⟩|⟨h1,h2,h3,arr,ty,hs,h4,h5,h6,h7,h8,h9⟩
 ·subst h2
  refine⟨fun _=>⟨0,0,true,0,0,none⟩,⟨fun w' hw=> ?_,fun k v hk=>by simp at hk,fun k k' hk=>by simp at hk⟩,fun hn=>by rw[h1] at hn;cases hn⟩
  cases m.ad with
  |none=>rfl
  |some p=>
   have:=run_loadCells_list (P:=P) w' p [] (fun j v hj=>by simp at hj)
   exact this
 ·refine⟨hs,⟨fun w' hw=> ?_,fun k v hk=> ?_,fun k k' hk MU HU=>h8 k k' hk MU HU (LU _) (LU _)⟩,fun _=>⟨arr,ty,h4,h5,h3,h2,h6⟩⟩
  ·have hm:m.len=xs.length:=d.len
   have hr:=US (P:=P) (w:=w') (size:=1) h1 (by rw[hw];exact h4) (by rw[d.off];omega)
   rw[hm] at hr ⊢
   rw[hr]
   congr 2
   apply VM
   intro j
   rw[CE,d.off]
   by_cases hj:j<xs.length
   ·rw[AB (by omega),ML,h6 j hj]
    simp [hj,XD]
   ·rw[AD (by omega),T3 (by simp;omega)]
  ·obtain⟨q1,q2⟩:=h7 k v hk (LU k)
   exact⟨q1,fun hx=>⟨(q2 hx).1,fun _=>(q2 hx).2⟩⟩
theorem FT.join {c:DW TB} {G:Nat->Prop} {w w' :World} {E' :Env} {L' :AK} {a:Ty} {xs ys:List (List a.T)} {hx hy:Nat->Nm} {mx my m:Nm} {lx ly l:List Nat} (kx:APH P c G w mx lx a xs hx) (ky:APH P c G w my ly a ys hy)
  (h1:m.len=(xs++ys).length) (h2:m.off=0) (h3:m.nil=false) (h4:m.B_∈l) (h5:(xs++ys).length<=m.cap) (H9:l.Nodup) (SZ:∀ b∈l,¬G b/\¬c.Old b/\∃ arr ty fz,w'.heap[b]? =some (.cells arr ty fz))
  {arr:Array Value} {ty:TypeId} (ha:w'.heap[m.B_]? =some (.cells arr ty (0,0))) (ZR:arr.size=m.cap)
  (hc:∀ k,k<(xs++ys).length->arr[k]? =some (XD (if k<xs.length then hx k else hy (k-xs.length))))
  (hsx:∀ b∈lx,b∈l) (hsy:∀ b∈ly,b∈l) (W6:∀ b∈lx,b∉ly) (hmx:m.B_∈lx->mx.nil=false/\m.B_=mx.B_) (hmy:m.B_∉ly)
  (hw:∀ b,b∈lx\/b∈ly->b≠m.B_->w'.heap[b]? =w.heap[b]?) (hG:∀ b,G b->w'.heap[b]? =w.heap[b]?):FT c G w' E' L' m l a (xs++ys) none:=by
 have CO:∀ k v,xs[k]? =some v->(hx k).nil=false->(hx k).B_≠m.B_:=by
  intro k v hk hn he
  obtain⟨q1,q2⟩:=(kx.jD k v hk).2 hn
  obtain⟨r1,r2⟩:=hmx (he ▸ q1)
  exact q2 r1 (he.trans r2)
 have API:∀ k v,ys[k]? =some v->(hy k).nil=false->(hy k).B_≠m.B_:=by
  intro k v hk hn he
  exact hmy (he ▸ ((ky.jD k v hk).2 hn).1)
 refine⟨h1,h2,H9,SZ,.inr ⟨h3,h4,h5,arr,ty,fun k=>if k<xs.length then hx k else hy (k-xs.length),ha,ZR,hc, ?_, ?_,fun _ _ he=>by cases he⟩⟩
 ·intro k v hk _
  dsimp only
  by_cases kM:k<xs.length
  ·rw[AB kM]
   rw[VI kM] at hk
   obtain⟨q1,q2⟩:=kx.jD k v hk
   exact⟨q1.mono (fun x vs hx=>Rp.mono hG (fun _ h=>h) a x vs hx) (fun hn=>hw _ (.inl (q2 hn).1) (CO k v hk hn)),fun hn=>⟨hsx _ (q2 hn).1,CO k v hk hn⟩⟩
  ·rw[AD kM]
   rw[VH (by omega)] at hk
   obtain⟨q1,q2⟩:=ky.jD _ v hk
   exact⟨q1.mono (fun x vs hx=>Rp.mono hG (fun _ h=>h) a x vs hx) (fun hn=>hw _ (.inr (q2 hn).1) (API _ v hk hn)),fun hn=>⟨hsy _ (q2 hn).1,API _ v hk hn⟩⟩
 ·intro i j hi hj kL _ _ SY hnj
  dsimp only at SY hnj ⊢
  rw[JG] at hi hj
  by_cases hix:i<xs.length
  ·rw[AB hix] at SY ⊢
   by_cases hjx:j<xs.length
   ·rw[AB hjx] at hnj ⊢
    exact kx.dis i j hix hjx kL SY hnj
   ·rw[AD hjx] at hnj ⊢
    intro he
    have q1:=((kx.jD i _ (NH hix)).2 SY).1
    have q2:=((ky.jD (j-xs.length) _ (NH (by omega))).2 hnj).1
    exact W6 _ q1 (he ▸ q2)
  ·rw[AD hix] at SY ⊢
   have q2:=((ky.jD (i-xs.length) _ (NH (by omega))).2 SY).1
   by_cases hjx:j<xs.length
   ·rw[AB hjx] at hnj ⊢
    intro he
    have q1:=((kx.jD j _ (NH hjx)).2 hnj).1
    exact W6 _ q1 (he ▸ q2)
   ·rw[AD hjx] at hnj ⊢
    exact ky.dis _ _ (by omega) (by omega) (by omega) SY hnj
set_option maxHeartbeats 1000000 in
theorem pO {o:Oper} {ρ:Operand->SV} {args:Array Operand} {ts:Array TypeId} (FU:o.op= .call { callee:= .builtin .append,args:=args,argTypes:=ts }) {x y:SV} (MX:args.toList.map ρ=[x,y])
  {bs:Nat} (B9:∀ n e,AP n=some e->look L n=some e) {v:SV} {DD:C8} (h:UA P AP ts.toList x y true bs pr=some (v,DD)):EN TB P o ρ L v DD:=by
 unfold UA at h
 split at h
 rotate_left
 ·cases h
 rename_i t0 t1 hts
 split at h
 rotate_left
 ·cases h
 rename_i e e1 hu hu1
 split at h
 rotate_left
 ·cases h
 rename_i q a hq hz hty
 split at h
 rotate_left
 ·cases h
 rename_i hc
 obtain⟨n7,hqb,DR⟩:=hc
 split at h
 rotate_left
 ·cases h
 rename_i xs u1 ys u2 rJ hp2
 split at h
 rotate_left
 ·cases h
 rename_i W6
 split at h
 rotate_left
 ·cases h
 rename_i hby
 simp only[pr,ATL,GG,AX,DB] at h
 obtain⟨rfl,rfl⟩:=h
 have LL:look L bs=some .K5:=B9 _ _ (by have:=CZ DR 0 (by omega);simpa using this)
 obtain⟨zv,hzv,hzl⟩:∃ zv,q.zero=some zv/\zv.cells.toList.map SR=[.LJ]:=by
  unfold NL at hz
  rw[hq] at hz
  simp only at hz
  split at hz
  ·simp only[AX] at hz
   exact⟨_,by assumption,hz⟩
  ·cases hz
 have hzc:zv.cells= #[.slice none 0 0]:=by
  have:=V1 (E:=⟨fun _=>⟨0,0,true,0,0,none⟩,fun _=>undef⟩) zv.cells.toList
  rw[hzl] at this
  apply ZD
  exact this.symm
 have qY:ts[0]? =some t0:=by rw[<-iX,hts];rfl
 have qZ:ts[1]? =some t1:=by rw[<-iX,hts];rfl
 refine BO fun c w E hh hw=> ?_
 obtain⟨G,hG⟩:=hh
 have side:∀ (v:SV) (zs:List (List a.T)) (u:C8),ADN AP a v=some (zs,u)->∃ (m:Nm) (l:List Nat),v.den E= .slice m.ad m.len m.cap/\FT c G w E L m l a zs none∧
   ((u=[]/\l=[]/\m.nil=true)\/∃ i,look L i=some (.deep a zs none)/\u=[(i,.dead)]/\l=E.ins.l i):=by
  intro v zs u hv
  rcases AH9 hv with ⟨rfl,rfl,rfl⟩|⟨i,rfl,hl,rfl⟩
  ·exact⟨⟨0,0,true,0,0,none⟩,[],rfl,⟨rfl,rfl,fL,(fun b hb=>(by cases hb)),.inl ⟨rfl,rfl,rfl⟩⟩,.inl ⟨rfl,rfl,rfl⟩⟩
  ·exact⟨E.nm i,E.ins.l i,rfl,hG.dp i _ _ _ (B9 _ _ hl),.inr ⟨i,B9 _ _ hl,rfl,rfl⟩⟩
 obtain⟨mx,lx,hxd,dx,sx⟩:=side x xs u1 rJ
 obtain⟨my,ly,hyd,dy,sy⟩:=side y ys u2 hp2
 obtain⟨hx,kx,ax⟩:=dx.tV (P:=P)
 obtain⟨hy,ky,ay⟩:=dy.tV (P:=P)
 obtain⟨hH,lQ,MY,APJ,APK,hxy⟩:AR c G w E (AI L (u1++u2))/\look (AI L (u1++u2)) bs=some .K5/\(∀ n,Al L n->Al (AI L (u1++u2)) n)/\(∀ b∈lx,IU E (AI L (u1++u2)) b)/\(∀ b∈ly,IU E (AI L (u1++u2)) b)/\(∀ b∈lx,b∉ly):=by
  have tW:∀ (L:AK),AR c G w E L->∀ (i:Nat) (zs:List (List a.T)),look L i=some (.deep a zs none)->look L bs=some .K5->AR c G w E (AI L [(i,.dead)])/\look (AI L [(i,.dead)]) bs=some .K5/\(∀ n,Al L n->Al (AI L [(i,.dead)]) n)/\(∀ b∈E.ins.l i,IU E (AI L [(i,.dead)]) b):=by
   intro L hG i zs hi hb
   have hib:bs≠i:=by rintro rfl;rw[hi] at hb;cases hb
   refine⟨hG.kill (AO hi), ?_,fun n hn=>BU rfl n hn,fun b hbm=>jN hG hi (AW.FX.2 hbm)⟩
   show look (DE L (i,.dead)) bs=_
   rw[AZ (AO hi),AD hib];exact hb
  rcases sx with ⟨rfl,rfl,_⟩|⟨i,hi,rfl,rfl⟩
  ·rcases sy with ⟨rfl,rfl,_⟩|⟨j,hj,rfl,rfl⟩
   ·exact⟨hG,LL,fun _ h=>h,(fun b hb=>(by cases hb)),(fun b hb=>(by cases hb)),(fun b hb=>(by cases hb))⟩
   ·obtain⟨k1,k2,k3,k4⟩:=tW L hG j _ hj LL
    exact⟨k1,k2,k3,(fun b hb=>(by cases hb)),k4,(fun b hb=>(by cases hb))⟩
  ·obtain⟨k1,k2,k3,k4⟩:=tW L hG i _ hi LL
   rcases sy with ⟨rfl,rfl,_⟩|⟨j,hj,rfl,rfl⟩
   ·exact⟨k1,k2,k3,k4,(fun b hb=>(by cases hb)),(fun b _ hb=>(by cases hb))⟩
   ·have kL:i≠j:=by
     rintro rfl
     have:=JV.1 W6 (i,.dead) (by simp)
     simp at this
    have hj1:look (AI L [(i,.dead)]) j=some (.deep a ys none):=by
     show look (DE L (i,.dead)) j=_
     rw[AZ (AO hi),AD (fun he=>kL he.symm)];exact hj
    obtain⟨q1,q2,q3,q4⟩:=tW _ k1 j _ hj1 k2
    rw[<-BM] at q1 q2 q3 q4
    refine⟨q1,q2,fun n hn=>q3 n (k3 n hn), ?_,q4,fun b hb SQ =>hG.inj i j _ _ b kL hi hj (AW.FX.2 hb) (AW.FX.2 SQ)⟩
    intro b hb
    rw[BM]
    exact (k4 b hb).kill (AO hj1)
 have pN:∀ (w' :World) (r:Value),(Builtin.append_ ts o.type #[.slice mx.ad mx.len mx.cap,.slice my.ad my.len my.cap]).run P w= .ok r w' ->(execOp (fun x=>(ρ x).den E) o).run P w= .ok (.value r) w' :=by
  intro w' r hr
  have jO :(args.map fun x=>(ρ x).den E)= #[.slice mx.ad mx.len mx.cap,.slice my.ad my.len my.cap]:=by
   apply ZD
   have:(args.toList.map ρ).map (SV.den E)=[.slice mx.ad mx.len mx.cap,.slice my.ad my.len my.cap]:=by rw[MX];simp [hxd,hyd]
   rw[UN] at this
   rw[vX]
   exact this
  simp only[execOp,FU,resolve,invoke,Sem.run_bind,Sem.run_pure,Result.andThen,jO,builtin,hr]
 have qW:=dx.len
 have kO:=dy.len
 have wG:∀ (w' :World) (m:Nm) (l:List Nat),Rest w w' ->w.heap.size<=w'.heap.size->(∀ b,b<w.heap.size->b∉l->w'.heap[b]? =w.heap[b]?)->(∀ b∈l,IU E (AI L (u1++u2)) b)->(∀ (E' :Env) (L' :AK),FT c G w' E' L' m l a (xs++ys) none)→
   (Builtin.append_ ts o.type #[.slice mx.ad mx.len mx.cap,.slice my.ad my.len my.cap]).run P w= .ok (.slice m.ad m.len m.cap) w' →
   ∃ (w' :World) (E' :Env) (nx:Next),(execOp (fun x=>(ρ x).den E) o).run P w= .ok nx w' /\(nx= .value ((SV.MT bs).den E')\/(nx= .skip/\(SV.MT bs)=AV))∧
   Hd c w' E' (AI L (u1++u2++ [(bs,.deep a (xs++ys) none)]))/\(∀ n,Al L n->E'.nm n=E.nm n/\Al (AI L (u1++u2++ [(bs,.deep a (xs++ys) none)])) n)/\E'.ds=E.ds/\(SV.MT bs).wf E' (AI L (u1++u2++ [(bs,.deep a (xs++ys) none)])):=by
  intro w' m l r1 r2 r3 r4 r5 r6
  obtain⟨g1,g2,g3,g4⟩:=hH.AJP lQ r1 r2 r3 r4 r5
  have eu:AI L (u1++u2++ [(bs,.deep a (xs++ys) none)])=DE (AI L (u1++u2)) (bs,.deep a (xs++ys) none):=by rw[BM];rfl
  rw[eu]
  refine⟨w',_,_,pN _ _ r6,.inl ?_,⟨G,g1⟩,fun n hn=>g2 n (MY n hn),rfl,g3⟩
  simp only[SV.den];rw[g4]
 by_cases tU:mx.cap<mx.len+my.len
 ·
  obtain⟨c',hc',JN⟩:=run_append_grow (P:=P) (w:=w) (ty:=o.type) (a:=mx.ad) (b:=my.ad) (len:=mx.len) (cap:=mx.cap) (n:=my.len) (c:=my.cap) qY qZ hu hu1 hq hzv hqb
   (by rw[n7,kO,←kO];have:=ky.rd w.drew rfl;rw[<-kO] at this;exact this)
   (by rw[n7,qW,←qW];have:=kx.rd w.drew rfl;rw[<-qW] at this;exact this) tU (by rw[qW,kO];exact hby)
  have hold:¬c.Old w.heap.size:=fun hx=>by have:=hx.1;have:=hG.size;omega
  have hGn:¬G w.heap.size:=fun hx=>by have:=hG.vR _ hx;omega
  have CP:∀ (ob:Obj) (b:Nat),b<w.heap.size->((w.drew).alloc ob).heap[b]? =w.heap[b]? :=by
   intro ob b hb
   show (w.heap.push ob)[b]? =_
   rw[AA9,AD (by omega)]
  have Q8:∀ (ob:Obj),((w.drew).alloc ob).heap[w.heap.size]? =some ob:=by
   intro ob
   show (w.heap.push ob)[w.heap.size]? =_
   simp
  have AAX:∀ b∈lx,b<w.heap.size:=fun b hb=>by obtain⟨_,_,_,_,_,h⟩:=dx.all b hb;exact SW h
  have AAY:∀ b∈ly,b<w.heap.size:=fun b hb=>by obtain⟨_,_,_,_,_,h⟩:=dy.all b hb;exact SW h
  refine wG _ ⟨w.heap.size,0,false,mx.len+my.len,c',none⟩ (w.heap.size::(lx++ly)) ?_ ?_ ?_ ?_ ?_ JN
  ·exact⟨rfl,rfl,rfl⟩
  ·show _<=(w.heap.push _).size;simp
  ·exact fun b hb _=>CP _ b hb
  ·intro b hb
   rcases GD.1 hb with rfl|hb
   ·exact UH hH
   ·rcases EY.1 hb with hb|hb
    ·exact APJ b hb
    ·exact APK b hb
  ·intro E' L'
   refine FT.join kx ky (by simp [qW,kO]) rfl rfl (by simp) (by simp [<-qW,←kO];exact hc') ?_ ?_ (Q8 _) ?_ ?_ (fun b hb=>by simp [hb]) (fun b hb=>by simp [hb]) hxy (fun hm=> ?_) (fun hm=> ?_) (fun b hb _=>CP _ b (hb.elim (AAX b) (AAY b))) (fun b hb=>CP _ b (hG.vR b hb))
   ·refine UM.2 ⟨fun hm=> ?_,QA.2 ⟨dx.nd,dy.nd,fun b hb b' SQ he=>hxy b hb (he ▸ SQ)⟩⟩
    rcases EY.1 hm with hm|hm
    ·have:=AAX _ hm;omega
    ·have:=AAY _ hm;omega
   ·intro b hb
    rcases GD.1 hb with rfl|hb
    ·exact⟨hGn,hold,_,_,_,Q8 _⟩
    ·rcases EY.1 hb with hb|hb
     ·obtain⟨q1,q2,arr,ty,fz,q3⟩:=dx.all b hb
      exact⟨q1,q2,arr,ty,fz,by rw[CP _ b (AAX b hb)];exact q3⟩
     ·obtain⟨q1,q2,arr,ty,fz,q3⟩:=dy.all b hb
      exact⟨q1,q2,arr,ty,fz,by rw[CP _ b (AAY b hb)];exact q3⟩
   ·simp [Builtin.zeroCells,hzc]
    omega
   ·intro k hk
    rw[JG] at hk
    rw[ACG (by simp;omega)]
    by_cases kM:k<xs.length
    ·rw[AB kM,ACG (by simp;omega)]
     simp [AIV (show k<mx.len by omega)]
    ·rw[AD kM,ANV (by simp;omega)]
     have OW:k-xs.length<my.len:=by omega
     simp [qW,AIV OW]
   ·have:=AAX _ hm;simp at this
   ·have:=AAY _ hm;simp at this
 ·
  cases UU:mx.nil with
  |true=>
   rcases dx.cs with ⟨_,h2,h3⟩|⟨h1,_⟩
   rotate_left
   ·rw[UU] at h1;cases h1
   have hx0:mx.len=0:=by rw[qW,h2];rfl
   have hy0:my.len=0:=by omega
   have hys:ys=[]:=by
    cases ys with
    |nil=>rfl
    |cons _ _=>simp at kO;omega
   have AAZ:mx.ad=mx.VO:=by simp [Nm.ad,UU]
   have JN:=IQ (P:=P) (w:=w) (w' :=w) (ty:=o.type) (a:=mx.VO) (b:=my.ad) (len:=0) (cap:=0) (n:=my.len) (c:=my.cap) (news:=[]) qY qZ hu hu1 hq
    (by rw[n7];have:=ky.rd w rfl;rw[<-kO,hy0] at this;rw[hy0];exact this) (by omega) (by split <;> rfl)
   refine wG w ⟨0,0,true,0,0,mx.VO⟩ [] (.refl _) (EL _) (fun _ _ _=>rfl) (fun b hb=>(by cases hb)) (fun E' L' =>⟨by simp [h2,hys],rfl,fL,(fun b hb=>(by cases hb)),.inl ⟨rfl,by simp [h2,hys],rfl⟩⟩) ?_
   rw[AAZ,hx0,h3,JN,hy0]
   rfl
  |false=>
   obtain⟨arr,ty,p1,p2,p3,p4,p5⟩:=ax UU
   have hnl:((List.range ys.length).map fun k=>XD (hy k)).length=ys.length:=by simp
   obtain⟨w',s1,s2,s3,s4,s5⟩:=OZ (P:=P) (off:=mx.len) ((List.range ys.length).map fun k=>XD (hy k)) w arr 0 p1 (by
     intro u hu
     obtain⟨k,_,rfl⟩:=C6.1 hu
     exact⟨fun c h=>(by cases h),fun c h=>(by cases h)⟩) (by rw[hnl];omega)
   rw[NJ] at s4
   have AAZ:mx.ad=some ⟨mx.B_,0,none⟩:=by simp [Nm.ad,UU,dx.off]
   have JN:=IQ (P:=P) (w:=w) (w' :=w') (ty:=o.type) (a:=mx.ad) (b:=my.ad) (len:=mx.len) (cap:=mx.cap) (n:=my.len) (c:=my.cap) (news:=(List.range ys.length).map fun k=>XD (hy k)) qY qZ hu hu1 hq
    (by rw[n7];have:=ky.rd w rfl;rw[<-kO] at this ⊢;exact this) (by omega) (by
     rw[AAZ]
     simp only
     rw[n7,H2,ML,pB];exact s1)
   have hmy:mx.B_∉ly:=hxy _ p4
   refine wG w' ⟨mx.B_,0,false,mx.len+my.len,mx.cap,none⟩ (lx++ly) s2 (by omega) (fun b _ hb=>s5 b (fun he=>hb (by rw[he];simp [p4]))) ?_ ?_ ?_
   ·intro b hb
    rcases EY.1 hb with hb|hb
    ·exact APJ b hb
    ·exact APK b hb
   ·intro E' L'
    refine FT.join kx ky (by simp [qW,kO]) rfl rfl (by simp [p4]) (by simp [<-qW,←kO];omega) (QA.2 ⟨dx.nd,dy.nd,fun b hb b' SQ he=>hxy b hb (he ▸ SQ)⟩) ?_ s4 (by rw[Q5];exact p2) ?_ (fun b hb=>by simp [hb]) (fun b hb=>by simp [hb]) hxy (fun _=>⟨UU,rfl⟩) hmy (fun b _ hb=>s5 b hb) (fun b hb=>s5 b (fun he=>(dx.all _ p4).1 (he ▸ hb)))
    ·intro b hb
     by_cases hbm:b=mx.B_
     ·subst hbm
      exact⟨(dx.all _ p4).1,(dx.all _ p4).2.1,_,_,_,s4⟩
     ·rw[s5 b hbm]
      rcases EY.1 hb with hb|hb
      ·exact dx.all b hb
      ·exact dy.all b hb
    ·intro k hk
     rw[JG] at hk
     rw[JY,hnl]
     by_cases kM:k<xs.length
     ·rw[AD (by omega),AB kM];exact p5 k kM
     ·rw[AB (by omega),AD kM]
      have:k-xs.length<ys.length:=by omega
      rw[qW]
      simp [this]
   ·rw[JN,AAZ]
    rfl
theorem EN.A3F {o:Oper} {ρ:Operand->SV} {bs:Nat} {a:Ty} {xs:List (List a.T)} {DD:C8} (h:EN TB P o ρ L (.MT bs) DD) (hl:look (AI L DD) bs=some (.deep a xs none)):
  EN TB P o ρ L (.MT bs) (DD++ [(bs,.shr (.slice a) xs)]):=by
 intro c w E hh hw ac next Q ha hn
 refine h c w E hh hw ac next Q ha fun E' w' k1 k2 k3 k4=> ?_
 obtain⟨G,hG⟩:=k1
 have DM:=AO hl
 have e:AI L (DD++ [(bs,.shr (.slice a) xs)])=DE (AI L DD) (bs,.shr (.slice a) xs):=by rw[BM];rfl
 refine hn E' w' (by rw[e];exact⟨_,hG.AAI hl⟩) (fun n hn' =>⟨(k2 n hn').1,by rw[e];exact BU rfl n (k2 n hn').2⟩) k3 (by rw[e];exact BU rfl bs k4)
theorem AHA {o:Oper} {ρ:Operand->SV} {args:Array Operand} {ts:Array TypeId} (FU:o.op= .call { callee:= .builtin .append,args:=args,argTypes:=ts }) {x y:SV} (MX:args.toList.map ρ=[x,y])
  {CG:Bool} {bs:Nat} (B9:∀ n e,AP n=some e->look L n=some e) {v:SV} {DD:C8} (h:UA P AP ts.toList x y CG bs pr=some (v,DD)):EN TB P o ρ L v DD:=by
 cases CG with
 |true=>exact pO FU MX B9 h
 |false=>
  have key:∃ (a:Ty) (xs:List (List a.T)) (u0:C8),UA P AP ts.toList x y true bs pr=some (.MT bs,u0++ [(bs,.deep a xs none)])/\v= .MT bs/\DD=u0++ [(bs,.deep a xs none)]++ [(bs,.shr (.slice a) xs)]/\IV AP bs 1=true:=by
   unfold UA at h ⊢
   split at h
   rotate_left
   ·cases h
   rename_i t0 t1 hts
   split at h
   rotate_left
   ·cases h
   rename_i e e1 hu hu1
   split at h
   rotate_left
   ·cases h
   rename_i q a hq hz hty
   split at h
   rotate_left
   ·cases h
   rename_i hc
   split at h
   rotate_left
   ·cases h
   rename_i xs u1 ys u2 rJ hp2
   split at h
   rotate_left
   ·cases h
   rename_i W6
   split at h
   rotate_left
   ·cases h
   rename_i hby
   simp only[pr,ATL,AX,DB] at h
   obtain⟨rfl,rfl⟩:=h
   refine⟨a,xs++ys,u1++u2, ?_,rfl,rfl,hc.2.2⟩
   simp only[hc,hby,pr,ATL,GG,and_self,G4,ne_eq,not_false_eq_true]
  obtain⟨a,xs,u0,h1,rfl,rfl,DR⟩:=key
  have LL:look L bs=some .K5:=B9 _ _ (by have:=CZ DR 0 (by omega);simpa using this)
  refine (pO FU MX B9 h1).A3F ?_
  rw[BM]
  show look (DE (AI L u0) (bs,.deep a xs none)) bs=_
  rw[AZ (by rw[OC];exact AO LL),AB rfl]
end
end Go.V3
namespace Go.V3
open Go
variable {TB:Tb}
section
variable {P:Program} {AP:Nat->Option AW} {L:AK}
theorem AR.AVY {c:DW TB} {G:Nat->Prop} {w w' :World} {E:Env} {L:AK} (h:AR c G w E L) {bs:Nat} (hl:look L bs=some .K5) (hr:Rest w w') (hs:w.heap.size<=w'.heap.size) {m:Nm} {t1 t2:Ty} {xs:List (List t1.T×List t2.T)}
  (hw:∀ b,b<w.heap.size->b∉m.ins.l->w'.heap[b]? =w.heap[b]?) (WX:∀ b∈m.ins.l,IU E L b) (hd:FC c G w' m t1 t2 xs):
  AR c G w' (E.set bs m) (DE L (bs,.tree t1 t2 xs))/\(∀ n,Al L n->(E.set bs m).nm n=E.nm n/\Al (DE L (bs,.tree t1 t2 xs)) n)/\Al (DE L (bs,.tree t1 t2 xs)) bs/\(E.set bs m).nm bs=m:=by
 have fN:∀ b,(AW.tree t1 t2 xs).ow (E.set bs m) bs b↔b∈m.ins.l:=fun b=>by rw[AW.eN,Env.EI]
 refine⟨h.T8 (AO hl) hr hs (fun hx=>absurd hx (EJ hl)) (fun k hk=>⟨E.HG _ hk,rfl⟩) rfl (fun b hb hn=>hw b hb (fun hx=>hn ((fN b).2 hx)))
  (fun b hb=>by have:=hd.all b ((fN b).1 hb);exact⟨this.2.1,this.1⟩) (fun k f _ hf b hb he=>WX b ((fN b).1 he) k f hf hb) (by rw[Env.EI];exact hd) (fun t' xs' q he=>by cases he), ?_,⟨_,by rw[AZ (AO hl),AB rfl],rfl⟩,Env.EI _ _ _⟩
 intro n hn
 have SY:n≠bs:=fun he=>EJ (he ▸ hl) hn
 exact⟨E.HG _ SY,BU rfl n hn⟩
theorem AB0 {t:Ty} {v:SV} {ys:List t.T} {u:C8} (h:lK AP t v=some (ys,u)):(v= .LJ/\ys=[]/\u=[])\/∃ i,v= .MT i/\AP i=some (.row t ys)/\u=[(i,.dead)]:=by
 unfold lK at h
 split at h
 ·simp only[AX,DB] at h
  obtain⟨rfl,rfl⟩:=h
  exact .inl ⟨rfl,rfl,rfl⟩
 ·split at h
  rotate_left
  ·cases h
  rename_i t' xss hl
  split at h
  rotate_left
  ·cases h
  rename_i he
  subst he
  simp only[AX,DB] at h
  obtain⟨rfl,rfl⟩:=h
  exact .inr ⟨_,rfl,hl,rfl⟩
 ·cases h
theorem AHB {a b:Ty} {v:SV} {xs:List (List a.T×List b.T)} {u:C8} (h:ADM AP a b v=some (xs,u)):(v= .LJ/\xs=[]/\u=[])\/∃ i,v= .MT i/\AP i=some (.tree a b xs)/\u=[(i,.dead)]:=by
 unfold ADM at h
 split at h
 ·simp only[AX,DB] at h
  obtain⟨rfl,rfl⟩:=h
  exact .inl ⟨rfl,rfl,rfl⟩
 ·split at h
  rotate_left
  ·cases h
  rename_i t1 t2 xss hl
  split at h
  rotate_left
  ·cases h
  rename_i he
  obtain⟨rfl,rfl⟩:=he
  simp only[AX,DB] at h
  obtain⟨rfl,rfl⟩:=h
  exact .inr ⟨_,rfl,hl,rfl⟩
 ·cases h
structure AVZ (c:DW TB) (G:Nat->Prop) (w:World) (E:Env) (L:AK) (t:Ty) (v:SV) (ys:List t.T) (u:C8) (m:Nm) (l:List Nat):Prop where
 den:v.den E= .slice m.ad m.len m.cap
 jD:FY (Rp G w t) t.sz w m ys
 mem:m.nil=false->m.B_∈l
 one:∀ b∈l,b=m.B_/\m.nil=false
 nd:l.Nodup
 all:∀ b∈l,¬G b/\¬c.Old b/\∃ arr ty fz,w.heap[b]? =some (.cells arr ty fz)
 src:(u=[]/\l=[])\/∃ i,look L i=some (.row t ys)/\u=[(i,.dead)]/\∀ b∈l,(AW.row t ys).ow E i b
theorem AW0 {c:DW TB} {G:Nat->Prop} {w:World} {E:Env} {L:AK} (hG:AR c G w E L) (B9:∀ n e,AP n=some e->look L n=some e) {t:Ty} {v:SV} {ys:List t.T} {u:C8} (h:lK AP t v=some (ys,u)):
  ∃ m l,AVZ c G w E L t v ys u m l:=by
 rcases AB0 h with ⟨rfl,rfl,rfl⟩|⟨i,rfl,hl,rfl⟩
 ·exact⟨⟨0,0,true,0,0,none⟩,[],rfl,⟨rfl,trivial,.inl ⟨rfl,rfl,rfl⟩⟩,(fun hx=>by cases hx),(fun b hb=>by cases hb),fL,(fun b hb=>by cases hb),.inl ⟨rfl,rfl⟩⟩
 ·have hi:=B9 _ _ hl
  obtain⟨h1,h2,h3⟩:=hG.LK i _ hi
  cases hn:(E.nm i).nil with
  |true=>
   rcases h3 with h3|⟨h4,_⟩
   rotate_left
   ·rw[hn] at h4;cases h4
   exact⟨E.nm i,[],rfl,⟨h1,trivial,.inl h3⟩,(fun hx=>by rw[hn] at hx;cases hx),(fun b hb=>by cases hb),fL,(fun b hb=>by cases hb),.inr ⟨i,hi,rfl,fun b hb=>by cases hb⟩⟩
  |false=>
   rcases h3 with ⟨h4,_⟩|⟨h4,h5,h6,h7,arr,ty,h8,h9,tC⟩
   ·rw[hn] at h4;cases h4
   refine⟨E.nm i,[(E.nm i).B_],rfl,⟨h1,trivial,.inr ⟨h4,h7,arr,ty,h8,h9,tC⟩⟩,(fun _=>by simp),(fun b hb=>⟨by simpa using hb,hn⟩),by simp, ?_,.inr ⟨i,hi,rfl, ?_⟩⟩
   ·intro b hb
    simp only[GO] at hb;subst hb
    exact⟨h5,h6,arr,ty,_,h8⟩
   ·intro b hb
    simp only[GO] at hb;subst hb
    exact .inl (by simp [AW.own,hn])
theorem AJR {c:DW TB} {G:Nat->Prop} {w:World} {E:Env} {L:AK} (hG:AR c G w E L) {bs:Nat} (LL:look L bs=some .K5) {u1 u2:C8} {l1 l2:List Nat} {e1 e2:AW}
  (s1:(u1=[]/\l1=[])\/∃ i,look L i=some e1/\e1.HR=false/\u1=[(i,.dead)]/\∀ b∈l1,e1.ow E i b)
  (s2:(u2=[]/\l2=[])\/∃ i,look L i=some e2/\e2.HR=false/\u2=[(i,.dead)]/\∀ b∈l2,e2.ow E i b) (W6:u1.all (fun q=>u2.all (fun r=> !(r.1==q.1)))=true):
  AR c G w E (AI L (u1++u2))/\look (AI L (u1++u2)) bs=some .K5/\(∀ n,Al L n->Al (AI L (u1++u2)) n)/\(∀ b∈l1,IU E (AI L (u1++u2)) b)/\(∀ b∈l2,IU E (AI L (u1++u2)) b)/\(∀ b∈l1,b∉l2):=by
 have tW:∀ (L:AK) (l:List Nat) (e:AW),AR c G w E L->∀ (i:Nat),look L i=some e->e.HR=false->look L bs=some .K5->(∀ b∈l,e.ow E i b)->AR c G w E (AI L [(i,.dead)])/\look (AI L [(i,.dead)]) bs=some .K5/\(∀ n,Al L n->Al (AI L [(i,.dead)]) n)/\(∀ b∈l,IU E (AI L [(i,.dead)]) b):=by
  intro L l e hG i hi hr hb ho
  have hib:bs≠i:=by rintro rfl;rw[hi] at hb;cases hb;cases hr
  refine⟨hG.kill (AO hi), ?_,fun n hn=>BU rfl n hn,fun b hbm=>jN hG hi (ho b hbm)⟩
  show look (DE L (i,.dead)) bs=_
  rw[AZ (AO hi),AD hib];exact hb
 rcases s1 with ⟨rfl,rfl⟩|⟨i,hi,hir,rfl,hio⟩
 ·rcases s2 with ⟨rfl,rfl⟩|⟨j,hj,hjr,rfl,hjo⟩
  ·exact⟨hG,LL,fun _ h=>h,(fun b hb=>(by cases hb)),(fun b hb=>(by cases hb)),(fun b hb=>(by cases hb))⟩
  ·obtain⟨k1,k2,k3,k4⟩:=tW L l2 e2 hG j hj hjr LL hjo
   exact⟨k1,k2,k3,(fun b hb=>(by cases hb)),k4,(fun b hb=>(by cases hb))⟩
 ·obtain⟨k1,k2,k3,k4⟩:=tW L l1 e1 hG i hi hir LL hio
  rcases s2 with ⟨rfl,rfl⟩|⟨j,hj,hjr,rfl,hjo⟩
  ·exact⟨k1,k2,k3,k4,(fun b hb=>(by cases hb)),(fun b _ hb=>(by cases hb))⟩
  ·have kL:i≠j:=by
    rintro rfl
    have:=JV.1 W6 (i,.dead) (by simp)
    simp at this
   have hj1:look (AI L [(i,.dead)]) j=some e2:=by
    show look (DE L (i,.dead)) j=_
    rw[AZ (AO hi),AD (fun he=>kL he.symm)];exact hj
   obtain⟨q1,q2,q3,q4⟩:=tW _ l2 e2 k1 j hj1 hjr k2 hjo
   rw[<-BM] at q1 q2 q3 q4
   refine⟨q1,q2,fun n hn=>q3 n (k3 n hn), ?_,q4,fun b hb SQ =>hG.inj i j _ _ b kL hi hj (hio b hb) (hjo b SQ)⟩
   intro b hb
   rw[BM]
   exact (k4 b hb).kill (AO hj1)
theorem AMD {o:Oper} {ρ:Operand->SV} {t:TypeId} {len:Nat} {parts:Array (Nat×Operand)} (FU:o.op= .buildSlice t len parts) {bs:Nat} (B9:∀ n e,AP n=some e->look L n=some e) {v:SV} {DD:C8}
  (h:nX P AP t len (parts.toList.map fun q=>(q.1,ρ q.2)) bs pr=some (v,DD)):EN TB P o ρ L v DD:=by
 unfold nX at h
 split at h
 rotate_left
 ·cases h
 rename_i e hu
 split at h
 rotate_left
 ·cases h
 rename_i q a b v1 v2 hq hz hty O0
 split at h
 rotate_left
 ·cases h
 rename_i y1 u1 y2 u2 rJ hp2
 split at h
 rotate_left
 ·cases h
 rename_i hc
 obtain⟨n7,rfl,DR,W6⟩:=hc
 simp only[pr,AX,DB] at h
 obtain⟨rfl,rfl⟩:=h
 have LL:look L bs=some .K5:=B9 _ _ (by have:=CZ DR 0 (by omega);simpa using this)
 refine BO fun c w E hh hw=> ?_
 obtain⟨G,hG⟩:=hh
 obtain⟨m1,l1,r1⟩:=AW0 hG B9 rJ
 obtain⟨m2,l2,r2⟩:=AW0 hG B9 hp2
 have JN:=UT (E:=E) (w:=w) (cs:=[v1,v2]) FU hu hq hz (by rw[n7];rfl) (by rw[n7];omega) (by rw[O0];rfl) (by rw[O0,n7];rfl)
 have conv:∀ {t:Ty} {v:SV} {ys:List t.T} {u:C8} {m:Nm} {l:List Nat},AVZ c G w E L t v ys u m l->(u=[]/\l=[])\/∃ i,look L i=some (.row t ys)/\(AW.row t ys).HR=false/\u=[(i,.dead)]/\∀ b∈l,(AW.row t ys).ow E i b:=by
  intro t v ys u m l r
  rcases r.src with hx|⟨i,h1,h2,h3⟩
  ·exact .inl hx
  ·exact .inr ⟨i,h1,rfl,h2,h3⟩
 obtain⟨hH,lQ,MY,ALV,ATG,h12⟩:=AJR hG LL (conv r1) (conv r2) W6
 have hold:¬c.Old w.heap.size:=fun hx=>by have:=hx.1;have:=hG.size;omega
 have hGn:¬G w.heap.size:=fun hx=>by have:=hG.vR _ hx;omega
 have Q8:∀ (o:Obj),(w.alloc o).heap[w.heap.size]? =some o:=by
  intro o
  show (w.heap.push o)[w.heap.size]? =_
  simp
 have CP:∀ (o:Obj) (b:Nat),b<w.heap.size->(w.alloc o).heap[b]? =w.heap[b]? :=by
  intro o b hb
  show (w.heap.push o)[b]? =_
  rw[AA9,AD (by omega)]
 have ATV:∀ b∈l1,b<w.heap.size:=fun b hb=>by obtain⟨_,_,_,_,_,h⟩:=r1.all b hb;exact SW h
 have AGJ:∀ b∈l2,b<w.heap.size:=fun b hb=>by obtain⟨_,_,_,_,_,h⟩:=r2.all b hb;exact SW h
 have A0Q:∀ {t:Ty} {m:Nm} {ys:List t.T} {l:List Nat} (ob:Obj),FY (Rp G w t) t.sz w m ys->(m.nil=false->m.B_∈l)->(∀ b∈l,b<w.heap.size)->FY (Rp G (w.alloc ob) t) t.sz (w.alloc ob) m ys:=by
  intro t m ys l ob hi hm hl
  exact hi.mono (fun x vs hx=>Rp.mono (fun b hb=>CP ob b (hG.vR b hb)) (fun _ h=>h) t x vs hx) (fun hn=>CP ob _ (hl _ (hm hn)))
 obtain⟨g1,g2,g3,g4⟩:=hH.AVY (w' :=w.alloc (.cells (AL E [v1,v2]).toArray e)) lQ ⟨rfl,rfl,rfl⟩ (by show _<=(w.heap.push _).size;simp)
  (m:={ B_:=w.heap.size,off:=0,nil:=false,len:=1,cap:=1,VO:=none,ins:=⟨w.heap.size::(l1++l2)⟩,hd:=⟨fun k=>if k=0 then m1.h0 else m2.h0⟩ }) (t1:=a) (t2:=b) (xs:=[(y1,y2)])
  (fun b hb _=>CP _ b hb)
  (by
   intro b hb
   rcases GD.1 hb with rfl|hb
   ·exact UH hH
   ·rcases EY.1 hb with hb|hb
    ·exact ALV b hb
    ·exact ATG b hb)
  (by
   refine⟨rfl,rfl, ?_, ?_,.inr ⟨rfl,by simp,by simp,_,e,Q8 _,by simp [AL], ?_, ?_, ?_, ?_⟩⟩
   ·refine UM.2 ⟨fun hm=> ?_,QA.2 ⟨r1.nd,r2.nd,fun b hb b' SQ he=>h12 b hb (he ▸ SQ)⟩⟩
    rcases EY.1 hm with hm|hm
    ·have:=ATV _ hm;omega
    ·have:=AGJ _ hm;omega
   ·intro b hb
    rcases GD.1 hb with rfl|hb
    ·exact⟨hGn,hold,_,_,_,Q8 _⟩
    ·rcases EY.1 hb with hb|hb
     ·obtain⟨q1,q2,arr,ty,fz,q3⟩:=r1.all b hb
      exact⟨q1,q2,arr,ty,fz,by rw[CP _ b (ATV b hb)];exact q3⟩
     ·obtain⟨q1,q2,arr,ty,fz,q3⟩:=r2.all b hb
      exact⟨q1,q2,arr,ty,fz,by rw[CP _ b (AGJ b hb)];exact q3⟩
   ·intro k hk
    simp only[H7] at hk
    match k with
    |0=>simp only[AL,r1.den];rfl
    |1=>simp only[AL,r2.den];rfl
    |k+2=>omega
   ·intro k x hk
    cases k with
    |succ k=>simp at hk
    |zero=>
     simp only[OS,AX] at hk;subst hk
     exact⟨A0Q _ r1.jD r1.mem ATV,A0Q _ r2.jD r2.mem AGJ⟩
   ·intro k hk
    simp only[H7] at hk
    match k with
    |0=>
     intro hn
     have hm:m1.B_∈l1:=r1.mem hn
     exact⟨VJ _ (EY.2 (.inl hm)),fun he=>by have:=ATV _ hm;have wA :m1.B_=w.heap.size:=he;omega⟩
    |1=>
     intro hn
     have hm:m2.B_∈l2:=r2.mem hn
     exact⟨VJ _ (EY.2 (.inr hm)),fun he=>by have:=AGJ _ hm;have wA :m2.B_=w.heap.size:=he;omega⟩
    |k+2=>omega
   ·intro k k' hk MU HU
    simp only[H7] at hk MU
    match k,k' with
    |0,0=>exact absurd rfl HU
    |1,1=>exact absurd rfl HU
    |0,1=>
     intro hn hn' he
     have wA :m1.B_=m2.B_:=he
     exact h12 _ (r1.mem hn) (wA ▸ r2.mem hn')
    |1,0=>
     intro hn hn' he
     have wA :m2.B_=m1.B_:=he
     exact h12 _ (r1.mem hn') (wA ▸ r2.mem hn)
    |k+2,_=>omega
    |_,k' +2=>omega)
 have eu:AI L (u1++u2++ [(bs,.tree a b [(y1,y2)])])=DE (AI L (u1++u2)) (bs,.tree a b [(y1,y2)]):=by rw[BM];rfl
 rw[eu]
 refine⟨_,_,_,JN,.inl ?_,⟨G,g1⟩,fun n hn=>g2 n (MY n hn),rfl,g3⟩
 simp only[SV.den];rw[g4];rfl
theorem FC.tV {c:DW TB} {G:Nat->Prop} {w:World} {m:Nm} {a b:Ty} {xs:List (List a.T×List b.T)} (d:FC c G w m a b xs):
  (∀ k x,xs[k]? =some x->FY (Rp G w a) a.sz w (m.hn (k*2)) x.1/\FY (Rp G w b) b.sz w (m.hn (k*2+1)) x.2)∧
  (∀ k,k<xs.length*2->(m.hn k).nil=false->(m.hn k).B_∈m.ins.l/\(m.hn k).B_≠m.B_/\m.nil=false)∧
  (∀ k k',k<xs.length*2->k' <xs.length*2->k≠k' ->(m.hn k).nil=false->(m.hn k').nil=false->(m.hn k).B_≠(m.hn k').B_)∧
  (∀ w' :World,w'.heap=w.heap->(Builtin.firstCells 2 xs.length (.slice m.ad m.len m.cap)).run P w' = .ok ((List.range (xs.length*2)).map fun k=>XD (m.hn k)).toArray w'):=by
 rcases d.cs with ⟨h1,h2,h3⟩|⟨h1,h2,h3,arr,ty,h4,h5,h6,h7,h8,h9⟩
 ·subst h2
  refine⟨fun k x hk=>by simp at hk,fun k hk=>by simp at hk,fun k k' hk=>by simp at hk,fun w' hw=> ?_⟩
  cases m.ad with
  |none=>rfl
  |some p=>
   have:=run_loadCells_list (P:=P) w' p [] (fun j v hj=>by simp at hj)
   exact this
 ·refine⟨h7,fun k hk hn=>⟨(h8 k hk hn).1,(h8 k hk hn).2,h1⟩,h9,fun w' hw=> ?_⟩
  have hm:m.len=xs.length:=d.len
  have hr:=US (P:=P) (w:=w') (size:=2) h1 (by rw[hw];exact h4) (by rw[d.off];omega)
  rw[hm] at hr ⊢
  rw[hr]
  congr 2
  apply VM
  intro j
  rw[CE,d.off]
  by_cases hj:j<xs.length*2
  ·rw[AB (by omega),ML,h6 j hj]
   simp [hj,XD]
  ·rw[AD (by omega),T3 (by simp;omega)]
theorem FC.join (P:Program) {c:DW TB} {G:Nat->Prop} {w w' :World} {a b:Ty} {xs ys:List (List a.T×List b.T)} {mx my m:Nm} (dx:FC c G w mx a b xs) (dy:FC c G w my a b ys)
  (hh:∀ k,m.hn k=if k<xs.length*2 then mx.hn k else my.hn (k-xs.length*2))
  (h1:m.len=(xs++ys).length) (h2:m.off=0) (h3:m.nil=false) (h4:m.B_∈m.ins.l) (h5:(xs++ys).length<=m.cap) (H9:m.ins.l.Nodup) (SZ:∀ b∈m.ins.l,¬G b/\¬c.Old b/\∃ arr ty fz,w'.heap[b]? =some (.cells arr ty fz))
  {arr:Array Value} {ty:TypeId} (ha:w'.heap[m.B_]? =some (.cells arr ty (0,0))) (ZR:arr.size=m.cap*2)
  (hc:∀ k,k<(xs++ys).length*2->arr[k]? =some (XD (m.hn k)))
  (hsx:∀ b∈mx.ins.l,b∈m.ins.l) (hsy:∀ b∈my.ins.l,b∈m.ins.l) (W6:∀ b∈mx.ins.l,b∉my.ins.l) (hmx:m.B_∈mx.ins.l->m.B_=mx.B_) (hmy:m.B_∉my.ins.l)
  (hw:∀ b,b∈mx.ins.l\/b∈my.ins.l->b≠m.B_->w'.heap[b]? =w.heap[b]?) (hG:∀ b,G b->w'.heap[b]? =w.heap[b]?):FC c G w' m a b (xs++ys):=by
 obtain⟨x1,x2,x3,_⟩:=dx.tV (P:=P)
 obtain⟨y1,y2,y3,_⟩:=dy.tV (P:=P)
 have CO:∀ k,k<xs.length*2->(mx.hn k).nil=false->(mx.hn k).B_≠m.B_:=by
  intro k hk hn he
  obtain⟨q1,q2,q3⟩:=x2 k hk hn
  exact q2 (he.trans (hmx (he ▸ q1)))
 have API:∀ k,k<ys.length*2->(my.hn k).nil=false->(my.hn k).B_≠m.B_:=by
  intro k hk hn he
  exact hmy (he ▸ (y2 k hk hn).1)
 have hix:∀ (t:Ty) (k:Nat) (v:List t.T),k<xs.length*2->FY (Rp G w t) t.sz w (mx.hn k) v->FY (Rp G w' t) t.sz w' (mx.hn k) v:=fun t k v hk hi=>
  hi.mono (fun x vs hx=>Rp.mono hG (fun _ h=>h) t x vs hx) (fun hn=>hw _ (.inl (x2 k hk hn).1) (CO k hk hn))
 have hiy:∀ (t:Ty) (k:Nat) (v:List t.T),k<ys.length*2->FY (Rp G w t) t.sz w (my.hn k) v->FY (Rp G w' t) t.sz w' (my.hn k) v:=fun t k v hk hi=>
  hi.mono (fun x vs hx=>Rp.mono hG (fun _ h=>h) t x vs hx) (fun hn=>hw _ (.inr (y2 k hk hn).1) (API k hk hn))
 refine⟨h1,h2,H9,SZ,.inr ⟨h3,h4,h5,arr,ty,ha,ZR,hc, ?_, ?_, ?_⟩⟩
 ·intro k x hk
  rw[hh,hh]
  by_cases kM:k<xs.length
  ·rw[VI kM] at hk
   obtain⟨q1,q2⟩:=x1 k x hk
   rw[AB (by omega),AB (by omega)]
   exact⟨hix a _ _ (by omega) q1,hix b _ _ (by omega) q2⟩
  ·rw[VH (by omega)] at hk
   have DM:=(vU.1 hk).1
   obtain⟨q1,q2⟩:=y1 _ x hk
   rw[AD (by omega),AD (by omega),show k*2-xs.length*2=(k-xs.length)*2 by omega,show k*2+1-xs.length*2=(k-xs.length)*2+1 by omega]
   exact⟨hiy a _ _ (by omega) q1,hiy b _ _ (by omega) q2⟩
 ·intro k hk
  rw[JG] at hk
  rw[hh]
  by_cases kM:k<xs.length*2
  ·rw[AB kM]
   exact fun hn=>⟨hsx _ (x2 k kM hn).1,CO k kM hn⟩
  ·rw[AD kM]
   exact fun hn=>⟨hsy _ (y2 _ (by omega) hn).1,API _ (by omega) hn⟩
 ·intro i j hi hj kL
  rw[JG] at hi hj
  rw[hh,hh]
  by_cases hix:i<xs.length*2
  ·rw[AB hix]
   by_cases hjx:j<xs.length*2
   ·rw[AB hjx];exact x3 i j hix hjx kL
   ·rw[AD hjx]
    intro SY hnj he
    exact W6 _ (x2 i hix SY).1 (he ▸ (y2 _ (by omega) hnj).1)
  ·rw[AD hix]
   by_cases hjx:j<xs.length*2
   ·rw[AB hjx]
    intro SY hnj he
    exact W6 _ (x2 j hjx hnj).1 (he ▸ (y2 _ (by omega) SY).1)
   ·rw[AD hjx];exact y3 _ _ (by omega) (by omega) (by omega)
set_option maxHeartbeats 1000000 in
theorem AHC {o:Oper} {ρ:Operand->SV} {args:Array Operand} {ts:Array TypeId} (FU:o.op= .call { callee:= .builtin .append,args:=args,argTypes:=ts }) {x y:SV} (MX:args.toList.map ρ=[x,y])
  {bs:Nat} (B9:∀ n e,AP n=some e->look L n=some e) {v:SV} {DD:C8} (h:eU P AP ts.toList x y bs pr=some (v,DD)):EN TB P o ρ L v DD:=by
 unfold eU at h
 split at h
 rotate_left
 ·cases h
 rename_i t0 t1 hts
 split at h
 rotate_left
 ·cases h
 rename_i e e1 hu hu1
 split at h
 rotate_left
 ·cases h
 rename_i q a b hq hz hty
 split at h
 rotate_left
 ·cases h
 rename_i hc
 obtain⟨n7,hqb,DR⟩:=hc
 split at h
 rotate_left
 ·cases h
 rename_i xs u1 ys u2 rJ hp2
 split at h
 rotate_left
 ·cases h
 rename_i W6
 split at h
 rotate_left
 ·cases h
 rename_i hby
 simp only[pr,AX,DB] at h
 obtain⟨rfl,rfl⟩:=h
 have LL:look L bs=some .K5:=B9 _ _ (by have:=CZ DR 0 (by omega);simpa using this)
 obtain⟨zv,hzv,hzl⟩:∃ zv,q.zero=some zv/\zv.cells.toList.map SR=[.LJ,.LJ]:=by
  unfold NL at hz
  rw[hq] at hz
  simp only at hz
  split at hz
  ·simp only[AX] at hz
   exact⟨_,by assumption,hz⟩
  ·cases hz
 have hzc:zv.cells= #[.slice none 0 0,.slice none 0 0]:=by
  have:=V1 (E:=⟨fun _=>⟨0,0,true,0,0,none⟩,fun _=>undef⟩) zv.cells.toList
  rw[hzl] at this
  apply ZD
  exact this.symm
 have qY:ts[0]? =some t0:=by rw[<-iX,hts];rfl
 have qZ:ts[1]? =some t1:=by rw[<-iX,hts];rfl
 refine BO fun c w E hh hw=> ?_
 obtain⟨G,hG⟩:=hh
 have side:∀ (v:SV) (zs:List (List a.T×List b.T)) (u:C8),ADM AP a b v=some (zs,u)->∃ (m:Nm),v.den E= .slice m.ad m.len m.cap/\FC c G w m a b zs∧
   ((u=[]/\m.ins.l=[])\/∃ i,look L i=some (.tree a b zs)/\(AW.tree a b zs).HR=false/\u=[(i,.dead)]/\∀ z∈m.ins.l,(AW.tree a b zs).ow E i z):=by
  intro v zs u hv
  rcases AHB hv with ⟨rfl,rfl,rfl⟩|⟨i,rfl,hl,rfl⟩
  ·exact⟨⟨0,0,true,0,0,none⟩,rfl,⟨rfl,rfl,fL,(fun b hb=>(by cases hb)),.inl ⟨rfl,rfl,rfl⟩⟩,.inl ⟨rfl,rfl⟩⟩
  ·exact⟨E.nm i,rfl,hG.LK i _ (B9 _ _ hl),.inr ⟨i,B9 _ _ hl,rfl,rfl,fun z hz=>AW.eN.2 hz⟩⟩
 obtain⟨mx,hxd,dx,sx⟩:=side x xs u1 rJ
 obtain⟨my,hyd,dy,sy⟩:=side y ys u2 hp2
 obtain⟨_,_,_,rx⟩:=dx.tV (P:=P)
 obtain⟨_,_,_,ry⟩:=dy.tV (P:=P)
 obtain⟨hH,lQ,MY,APJ,APK,hxy⟩:=AJR hG LL sx sy W6
 have pN:∀ (w' :World) (r:Value),(Builtin.append_ ts o.type #[.slice mx.ad mx.len mx.cap,.slice my.ad my.len my.cap]).run P w= .ok r w' ->(execOp (fun x=>(ρ x).den E) o).run P w= .ok (.value r) w' :=by
  intro w' r hr
  have jO :(args.map fun x=>(ρ x).den E)= #[.slice mx.ad mx.len mx.cap,.slice my.ad my.len my.cap]:=by
   apply ZD
   have:(args.toList.map ρ).map (SV.den E)=[.slice mx.ad mx.len mx.cap,.slice my.ad my.len my.cap]:=by rw[MX];simp [hxd,hyd]
   rw[UN] at this
   rw[vX]
   exact this
  simp only[execOp,FU,resolve,invoke,Sem.run_bind,Sem.run_pure,Result.andThen,jO,builtin,hr]
 have qW:=dx.len
 have kO:=dy.len
 have wG:∀ (w' :World) (m:Nm),Rest w w' ->w.heap.size<=w'.heap.size->(∀ z,z<w.heap.size->z∉m.ins.l->w'.heap[z]? =w.heap[z]?)->(∀ z∈m.ins.l,IU E (AI L (u1++u2)) z)->FC c G w' m a b (xs++ys)→
   (Builtin.append_ ts o.type #[.slice mx.ad mx.len mx.cap,.slice my.ad my.len my.cap]).run P w= .ok (.slice m.ad m.len m.cap) w' →
   ∃ (w' :World) (E' :Env) (nx:Next),(execOp (fun x=>(ρ x).den E) o).run P w= .ok nx w' /\(nx= .value ((SV.MT bs).den E')\/(nx= .skip/\(SV.MT bs)=AV))∧
   Hd c w' E' (AI L (u1++u2++ [(bs,.tree a b (xs++ys))]))/\(∀ n,Al L n->E'.nm n=E.nm n/\Al (AI L (u1++u2++ [(bs,.tree a b (xs++ys))])) n)/\E'.ds=E.ds/\(SV.MT bs).wf E' (AI L (u1++u2++ [(bs,.tree a b (xs++ys))])):=by
  intro w' m r1 r2 r3 r4 r5 r6
  obtain⟨g1,g2,g3,g4⟩:=hH.AVY lQ r1 r2 r3 r4 r5
  have eu:AI L (u1++u2++ [(bs,.tree a b (xs++ys))])=DE (AI L (u1++u2)) (bs,.tree a b (xs++ys)):=by rw[BM];rfl
  rw[eu]
  refine⟨w',_,_,pN _ _ r6,.inl ?_,⟨G,g1⟩,fun n hn=>g2 n (MY n hn),rfl,g3⟩
  simp only[SV.den];rw[g4]
 by_cases tU:mx.cap<mx.len+my.len
 ·
  obtain⟨c',hc',JN⟩:=run_append_grow (P:=P) (w:=w) (ty:=o.type) (a:=mx.ad) (b:=my.ad) (len:=mx.len) (cap:=mx.cap) (n:=my.len) (c:=my.cap) qY qZ hu hu1 hq hzv hqb
   (by rw[n7];have:=ry w.drew rfl;rw[<-kO] at this;exact this)
   (by rw[n7];have:=rx w.drew rfl;rw[<-qW] at this;exact this) tU (by rw[qW,kO];exact hby)
  have hold:¬c.Old w.heap.size:=fun hx=>by have:=hx.1;have:=hG.size;omega
  have hGn:¬G w.heap.size:=fun hx=>by have:=hG.vR _ hx;omega
  have CP:∀ (ob:Obj) (z:Nat),z<w.heap.size->((w.drew).alloc ob).heap[z]? =w.heap[z]? :=by
   intro ob z hz
   show (w.heap.push ob)[z]? =_
   rw[AA9,AD (by omega)]
  have Q8:∀ (ob:Obj),((w.drew).alloc ob).heap[w.heap.size]? =some ob:=by
   intro ob
   show (w.heap.push ob)[w.heap.size]? =_
   simp
  have AAX:∀ z∈mx.ins.l,z<w.heap.size:=fun z hz=>by obtain⟨_,_,_,_,_,h⟩:=dx.all z hz;exact SW h
  have AAY:∀ z∈my.ins.l,z<w.heap.size:=fun z hz=>by obtain⟨_,_,_,_,_,h⟩:=dy.all z hz;exact SW h
  have hhn:∀ k,(Nm.hn { B_:=w.heap.size,off:=0,nil:=false,len:=mx.len+my.len,cap:=c',VO:=none,ins:=⟨w.heap.size::(mx.ins.l++my.ins.l)⟩,hd:=⟨fun k=>if k<xs.length*2 then mx.hd.l k else my.hd.l (k-xs.length*2)⟩ } k)=if k<xs.length*2 then mx.hn k else my.hn (k-xs.length*2):=by
   intro k
   show (if k<xs.length*2 then mx.hd.l k else my.hd.l (k-xs.length*2)).nm=_
   split <;> rfl
  refine wG _ { B_:=w.heap.size,off:=0,nil:=false,len:=mx.len+my.len,cap:=c',VO:=none,ins:=⟨w.heap.size::(mx.ins.l++my.ins.l)⟩,hd:=⟨fun k=>if k<xs.length*2 then mx.hd.l k else my.hd.l (k-xs.length*2)⟩ } ?_ ?_ ?_ ?_ ?_ JN
  ·exact⟨rfl,rfl,rfl⟩
  ·show _<=(w.heap.push _).size;simp
  ·exact fun z hz _=>CP _ z hz
  ·intro z hz
   rcases GD.1 hz with rfl|hz
   ·exact UH hH
   ·rcases EY.1 hz with hz|hz
    ·exact APJ z hz
    ·exact APK z hz
  ·refine FC.join P dx dy hhn (by simp [qW,kO]) rfl rfl (by simp) (by simp [<-qW,←kO];exact hc') ?_ ?_ (Q8 _) ?_ ?_ (fun z hz=>by simp [hz]) (fun z hz=>by simp [hz]) hxy (fun hm=> ?_) (fun hm=> ?_) (fun z hz _=>CP _ z (hz.elim (AAX z) (AAY z))) (fun z hz=>CP _ z (hG.vR z hz))
   ·refine UM.2 ⟨fun hm=> ?_,QA.2 ⟨dx.nd,dy.nd,fun z hz z' hz' he=>hxy z hz (he ▸ hz')⟩⟩
    rcases EY.1 hm with hm|hm
    ·have:=AAX _ hm;omega
    ·have:=AAY _ hm;omega
   ·intro z hz
    rcases GD.1 hz with rfl|hz
    ·exact⟨hGn,hold,_,_,_,Q8 _⟩
    ·rcases EY.1 hz with hz|hz
     ·obtain⟨q1,q2,arr,ty,fz,q3⟩:=dx.all z hz
      exact⟨q1,q2,arr,ty,fz,by rw[CP _ z (AAX z hz)];exact q3⟩
     ·obtain⟨q1,q2,arr,ty,fz,q3⟩:=dy.all z hz
      exact⟨q1,q2,arr,ty,fz,by rw[CP _ z (AAY z hz)];exact q3⟩
   ·simp [Builtin.zeroCells,hzc]
    omega
   ·intro k hk
    rw[JG] at hk
    rw[hhn,ACG (by simp;omega)]
    by_cases kM:k<xs.length*2
    ·rw[AB kM,ACG (by simp;omega)]
     simp [AIV (show k<mx.len*2 by omega)]
    ·rw[AD kM,ANV (by simp;omega)]
     have OW:k-xs.length*2<my.len*2:=by omega
     simp [qW,AIV OW]
   ·have:=AAX _ hm;simp at this
   ·have:=AAY _ hm;simp at this
 ·
  rcases dx.cs with ⟨UU,h2,h3⟩|⟨UU,p4,p3,arr,ty,p1,p2,p5,_,_,_⟩
  ·have hx0:mx.len=0:=by rw[qW,h2];rfl
   have hy0:my.len=0:=by omega
   have hys:ys=[]:=by
    cases ys with
    |nil=>rfl
    |cons _ _=>simp at kO;omega
   have AAZ:mx.ad=mx.VO:=by simp [Nm.ad,UU]
   have JN:=IQ (P:=P) (w:=w) (w' :=w) (ty:=o.type) (a:=mx.VO) (b:=my.ad) (len:=0) (cap:=0) (n:=my.len) (c:=my.cap) (news:=[]) qY qZ hu hu1 hq
    (by rw[n7];have:=ry w rfl;rw[<-kO,hy0] at this;rw[hy0];exact this) (by omega) (by split <;> rfl)
   refine wG w ⟨0,0,true,0,0,mx.VO⟩ (.refl _) (EL _) (fun _ _ _=>rfl) (fun z hz=>(by cases hz)) ⟨by simp [h2,hys],rfl,fL,(fun z hz=>(by cases hz)),.inl ⟨rfl,by simp [h2,hys],rfl⟩⟩ ?_
   rw[AAZ,hx0,h3,JN,hy0]
   rfl
  ·have hnl:((List.range (ys.length*2)).map fun k=>XD (my.hn k)).length=ys.length*2:=by simp
   obtain⟨w',s1,s2,s3,s4,s5⟩:=OZ (P:=P) (off:=mx.len*2) ((List.range (ys.length*2)).map fun k=>XD (my.hn k)) w arr 0 p1 (by
     intro u hu
     obtain⟨k,_,rfl⟩:=C6.1 hu
     exact⟨fun c h=>(by cases h),fun c h=>(by cases h)⟩) (by rw[hnl];omega)
   rw[NJ] at s4
   have AAZ:mx.ad=some ⟨mx.B_,0,none⟩:=by simp [Nm.ad,UU,dx.off]
   have JN:=IQ (P:=P) (w:=w) (w' :=w') (ty:=o.type) (a:=mx.ad) (b:=my.ad) (len:=mx.len) (cap:=mx.cap) (n:=my.len) (c:=my.cap) (news:=(List.range (ys.length*2)).map fun k=>XD (my.hn k)) qY qZ hu hu1 hq
    (by rw[n7];have:=ry w rfl;rw[<-kO] at this ⊢;exact this) (by omega) (by
     rw[AAZ]
     simp only
     rw[n7,H2,ML];exact s1)
   have hmy:mx.B_∉my.ins.l:=hxy _ p4
   have hhn:∀ k,(Nm.hn { B_:=mx.B_,off:=0,nil:=false,len:=mx.len+my.len,cap:=mx.cap,VO:=none,ins:=⟨mx.ins.l++my.ins.l⟩,hd:=⟨fun k=>if k<xs.length*2 then mx.hd.l k else my.hd.l (k-xs.length*2)⟩ } k)=if k<xs.length*2 then mx.hn k else my.hn (k-xs.length*2):=by
    intro k
    show (if k<xs.length*2 then mx.hd.l k else my.hd.l (k-xs.length*2)).nm=_
    split <;> rfl
   refine wG w' { B_:=mx.B_,off:=0,nil:=false,len:=mx.len+my.len,cap:=mx.cap,VO:=none,ins:=⟨mx.ins.l++my.ins.l⟩,hd:=⟨fun k=>if k<xs.length*2 then mx.hd.l k else my.hd.l (k-xs.length*2)⟩ } s2 (by omega) (fun z _ hz=>s5 z (fun he=>hz (by rw[he];simp [p4]))) ?_ ?_ ?_
   ·intro z hz
    rcases EY.1 hz with hz|hz
    ·exact APJ z hz
    ·exact APK z hz
   ·refine FC.join P dx dy hhn (by simp [qW,kO]) rfl rfl (by simp [p4]) (by simp [<-qW,←kO];omega) (QA.2 ⟨dx.nd,dy.nd,fun z hz z' hz' he=>hxy z hz (he ▸ hz')⟩) ?_ s4 (by rw[Q5];exact p2) ?_ (fun z hz=>by simp [hz]) (fun z hz=>by simp [hz]) hxy (fun _=>rfl) hmy (fun z _ hz=>s5 z hz) (fun z hz=>s5 z (fun he=>(dx.all _ p4).1 (he ▸ hz)))
    ·intro z hz
     by_cases hzm:z=mx.B_
     ·subst hzm
      exact⟨(dx.all _ p4).1,(dx.all _ p4).2.1,_,_,_,s4⟩
     ·rw[s5 z hzm]
      rcases EY.1 hz with hz|hz
      ·exact dx.all z hz
      ·exact dy.all z hz
    ·intro k hk
     rw[JG] at hk
     rw[hhn,JY,hnl]
     by_cases kM:k<xs.length*2
     ·rw[AD (by omega),AB kM];exact p5 k kM
     ·rw[AB (by omega),AD kM]
      have:k-xs.length*2<ys.length*2:=by omega
      rw[qW]
      simp [this]
   ·rw[JN,AAZ]
    rfl
end
end Go.V3
namespace Go.V3
open Go
variable {TB:Tb}
section
variable {P:Program} {AP:Nat->Option AW} {L:AK}
theorem WL {w:World} {t e:TypeId} {q:TypeInfo} {x:SV} {E:Env} {A:Option Addr} {len cap:Nat} {low high:Option SV} {h l:Option Int} {hn ln:Nat} (hu:P.underlying t=some (.slice e)) (hq:P.info? e=some q)
  (hx:x.den E= .slice A len cap) (hh:bnd high len=some (h,hn)) (hl:bnd low 0=some (l,ln)) (hb:Bd l h hn cap):
  (Instr.sliceAt t (x.den E) (low.map (SV.den E)) (high.map (SV.den E)) none).run P w= .ok (.slice (if cap=ln then A else nJ A (ln*q.size)) (hn-ln) (cap-ln)) w:=by
 simp only[Instr.sliceAt,hx,Sem.run_bind,run_underlying hu,Result.andThen]
 simp only[Instr.slice,Sem.run_bind,run_underlying hu,Result.andThen,tA (E:=E) w true hh hl rfl hb,sizeOf,typeInfo]
 simp [hq,nJ]
theorem AHD {low high:Option SV} {n:Nat} {h l:Option Int} {hn ln cap:Nat} (hh:bnd high n=some (h,hn)) (hl:bnd low 0=some (l,ln)) (hb:Bd l h hn n) (hc:n<=cap):ln<=hn/\hn<=n/\Bd l h hn cap:=by
 obtain⟨b1,b2⟩:=hb
 have h2:ln<=hn:=by
  unfold bnd at hl
  cases low with
  |none=>simp only[AX,DB] at hl;obtain⟨rfl,rfl⟩:=hl;omega
  |some y=>
   simp only at hl
   split at hl
   ·simp only[AX,DB] at hl
    obtain⟨rfl,rfl⟩:=hl
    simp only at b2
    omega
   ·cases hl
 unfold bnd at hh
 cases high with
 |none=>simp only[AX,DB] at hh;obtain⟨rfl,rfl⟩:=hh;exact⟨h2,EL _,trivial,b2⟩
 |some y=>
  simp only at hh
  split at hh
  ·simp only[AX,DB] at hh
   obtain⟨rfl,rfl⟩:=hh
   simp only at b1
   exact⟨h2,by omega,⟨b1.1,by omega⟩,b2⟩
  ·cases hh
theorem ATW {α:Type} {R:α->List Value->Prop} {sz:Nat} {c:DW TB} {G:Nat->Prop} {w:World} {m:Nm} {xs:List α} (h:Own R sz c G w m xs) {lo n:Nat} (hl:lo+n<=m.len):
  Own R sz c G w (if m.cap=lo then ({ B_:=m.B_,off:=m.off,nil:=m.nil,len:=n,cap:=m.cap-lo,VO:=m.VO,fz:=m.fz }:Nm) else { B_:=m.B_,off:=m.off+lo*sz,nil:=m.nil,len:=n,cap:=m.cap-lo,VO:=nJ m.VO (lo*sz),fz:=m.fz }) (B5 xs lo n):=by
 have qT:=eL h
 obtain⟨h1,h2,h3⟩:=h
 have hlen:(B5 xs lo n).length=n:=by unfold B5;simp;omega
 rcases h3 with ⟨h4,rfl,h6⟩|⟨h4,h5,h6,h7,arr,ty,h8,h9,tC⟩
 ·have hlo:lo=0/\n=0:=by simp at h1;omega
  obtain⟨rfl,rfl⟩:=hlo
  rw[AB h6]
  exact⟨by simp [B5],trivial,.inl ⟨h4,by simp [B5],by simp [h6]⟩⟩
 ·by_cases hc:m.cap=lo
  ·have hn:n=0:=by omega
   subst hn
   rw[AB hc]
   exact⟨by simp [B5],trivial,.inr ⟨h4,h5,h6,by simp [B5],arr,ty,h8,by simp only[hc,ZB,xS];omega,by intro i x hx;simp [B5] at hx⟩⟩
  ·rw[AD hc]
   have hm:(m.cap-lo)*sz+lo*sz=m.cap*sz:=by rw[<-a_];congr 1;omega
   refine⟨hlen.symm,trivial,.inr ⟨h4,h5,h6,by rw[hlen];show n<=m.cap-lo;omega,arr,ty,h8,by show m.off+lo*sz+(m.cap-lo)*sz<=_;omega,fun i x hx=> ?_⟩⟩
   simp only[B5] at hx
   rw[kQ] at hx
   split at hx
   ·rw[aX] at hx
    have:=tC _ _ hx
    rw[a_] at this
    rw[N0]
    exact this
   ·cases hx
theorem AME {o:Oper} {ρ:Operand->SV} {t:TypeId} {x:Operand} {l h:Option Operand} (FU:o.op= .slice t x l h none) {CG:Bool} {bs:Nat} (B9:∀ n e,AP n=some e->look L n=some e) {v:SV} {DD:C8}
  (hs:nY P AP t (ρ x) (l.map ρ) (h.map ρ) CG bs pr=some (v,DD)):EN TB P o ρ L v DD:=by
 unfold nY at hs
 split at hs
 rotate_left
 ·cases hs
 rename_i e hu
 split at hs
 rotate_left
 ·cases hs
 rename_i q i hq hx
 have APL:∀ (E:Env) (y:Option Operand),y.map (fun x=>(ρ x).den E)=(y.map ρ).map (SV.den E):=fun E y=>by cases y <;> rfl
 split at hs
 ·rename_i a xs hl
  cases CG with
  |true=>
   simp only at hs
   split at hs
   rotate_left
   ·cases hs
   rename_i hc
   obtain⟨eY,DR⟩:=hc
   split at hs
   rotate_left
   ·cases hs
   rename_i hh hn ll ln hhb hlb
   split at hs
   rotate_left
   ·cases hs
   rename_i hb
   simp only[pr,AX,DB] at hs
   obtain⟨rfl,rfl⟩:=hs
   have LL:look L bs=some .K5:=B9 _ _ (by have:=CZ DR 0 (by omega);simpa using this)
   have hLi:=B9 _ _ hl
   refine BO fun c w E hH hw=> ?_
   obtain⟨G,hG⟩:=hH
   have wH:Own (Rp G w a) a.sz c G w (E.nm i) xs:=hG.LK i _ hLi
   have qT:=eL wH
   have hlen:=wH.1
   obtain⟨c1,c2,c3⟩:=AHD hhb hlb hb (cap:=(E.nm i).cap) (by omega)
   have IP:=ATW wH (lo:=ln) (n:=hn-ln) (by omega)
   have hib:i≠bs:=by intro he;rw[he,LL] at hLi;cases hLi
   have XA:=hG.kill (AO hLi)
   have AAW:look (DE L (i,.dead)) bs=some .K5:=by rw[AZ (AO hLi),AD (fun he=>hib he.symm)];exact LL
   have DC:∀ b,(AW.row a (B5 xs ln (hn-ln))).own (if (E.nm i).cap=ln then ({ B_:=(E.nm i).B_,off:=(E.nm i).off,nil:=(E.nm i).nil,len:=hn-ln,cap:=(E.nm i).cap-ln,VO:=(E.nm i).VO,fz:=(E.nm i).fz }:Nm) else { B_:=(E.nm i).B_,off:=(E.nm i).off+ln*a.sz,nil:=(E.nm i).nil,len:=hn-ln,cap:=(E.nm i).cap-ln,VO:=nJ (E.nm i).VO (ln*a.sz),fz:=(E.nm i).fz })=some b->(AW.row a xs).own (E.nm i)=some b:=by
    intro b hb
    split at hb <;> exact hb
   have h1:=XA.change (i:=bs) (e' := .row a (B5 xs ln (hn-ln))) (m:=_) (w' :=w) (AO AAW) (.refl _) (EL _) (fun hx=>absurd hx (EJ AAW)) rfl (fun _ _ _=>rfl)
    (fun b hb=>by have:=hG.PR hLi (.inl (DC b hb));exact⟨this.2.1,this.1⟩)
    (fun k f hk hf b hb he=>by
     rw[AZ (AO hLi)] at hf
     by_cases iK:k=i
     ·subst iK;simp only[G4,AX] at hf;subst hf;rcases hb with hb|⟨hb,_⟩|⟨hb,_⟩ <;> cases hb
     ·rw[AD iK] at hf
      exact hG.inj k i f _ b iK hf hLi hb (.inl (DC b he)))
    (fun _=>IP)
   refine⟨w,_,_, ?_,.inl rfl,⟨G,h1⟩,fun n hn=>⟨E.HG _ (fun he=>EJ (he ▸ LL) hn),BU rfl n (BU rfl n hn)⟩,rfl,⟨_,by show look (DE (DE L _) _) bs=_;rw[AZ (AO AAW),AB rfl],rfl⟩⟩
   simp only[execOp,FU,AJ2,APL]
   refine CY ?_
   rw[WL (E:=E) (x:=ρ x) (A:=(E.nm i).ad) (len:=xs.length) (cap:=(E.nm i).cap) hu hq (by rw[hx];simp [SV.den,hlen]) hhb hlb c3]
   simp only[SV.den,Env.EI]
   split
   ·rename_i hcl;simp [Nm.ad]
   ·simp only[Nm.ad,eY]
    split
    ·rfl
    ·simp [nJ,H2]
  |false=>
  simp only at hs
  split at hs
  rotate_left
  ·cases hs
  rename_i eY
  split at hs
  rotate_left
  ·cases hs
  rename_i hh hn ll ln hhb hlb
  split at hs
  rotate_left
  ·cases hs
  rename_i hb
  simp only[pr,AX,DB] at hs
  obtain⟨rfl,rfl⟩:=hs
  refine BO fun c w E hH hw=> ?_
  obtain⟨G,hG⟩:=hH
  have wH:=hG.LK i _ (B9 _ _ hl)
  have qT:=eL wH
  have hlen:=wH.1
  obtain⟨c1,c2,c3⟩:=AHD hhb hlb hb (cap:=(E.nm i).cap) (by omega)
  have V6:=hw x
  rw[hx] at V6
  refine⟨w,E,_, ?_,.inl rfl,⟨G,hG⟩,fun n hn=>⟨rfl,hn⟩,rfl,⟨V6,by omega⟩⟩
  simp only[execOp,FU,AJ2,APL]
  refine CY ?_
  rw[WL (E:=E) (x:=ρ x) (A:=(E.nm i).ad) (len:=xs.length) (cap:=(E.nm i).cap) hu hq (by rw[hx];simp [SV.den,hlen]) hhb hlb c3]
  simp [SV.den,eY]
 ·rename_i a xs hl
  split at hs
  rotate_left
  ·cases hs
  rename_i hc
  obtain⟨eY,DR⟩:=hc
  split at hs
  rotate_left
  ·cases hs
  rename_i hh hn ll ln hhb hlb
  split at hs
  rotate_left
  ·cases hs
  rename_i hb
  simp only[pr,AX,DB] at hs
  obtain⟨rfl,rfl⟩:=hs
  have LL:look L bs=some .K5:=B9 _ _ (by have:=CZ DR 0 (by omega);simpa using this)
  refine BO fun c w E hH hw=> ?_
  obtain⟨G,hG⟩:=hH
  have wH:qR (Rp G w a) a.sz G w (E.nm i) xs:=hG.LK i _ (B9 _ _ hl)
  have hlen:=wH.1
  obtain⟨c1,c2,c3⟩:=AHD hhb hlb hb (cap:=(E.nm i).cap) (by have:=wH.2.1;omega)
  have IP:=lB wH (lo:=ln) (n:=hn-ln) (by omega)
  have h1:=hG.change (i:=bs) (e' := .shr a (B5 xs ln (hn-ln))) (m:=_) (w' :=w) (AO LL) (.refl _) (EL _) (fun hx=>absurd hx (EJ LL)) rfl (fun _ _ _=>rfl) (fun b hb=>by cases hb) (fun _ _ _ _ _ _ hb=>by cases hb) (fun _=>IP)
  refine⟨w,_,_, ?_,.inl rfl,⟨G,h1⟩,fun n hn=>⟨E.HG _ (fun he=>EJ (he ▸ LL) hn),BU rfl n hn⟩,rfl,⟨_,by show look (DE L _) bs=_;rw[AZ (AO LL),AB rfl],rfl⟩⟩
  simp only[execOp,FU,AJ2,APL]
  refine CY ?_
  rw[WL (E:=E) (x:=ρ x) (A:=(E.nm i).ad) (len:=xs.length) (cap:=(E.nm i).cap) hu hq (by rw[hx];simp [SV.den,hlen]) hhb hlb c3]
  simp only[SV.den,Env.EI]
  split
  ·rename_i hcl;simp [Nm.ad]
  ·simp only[Nm.ad,eY]
   split
   ·rfl
   ·simp [nJ,H2]
 ·cases hs
theorem LW {w:World} {t e:TypeId} {q:TypeInfo} {x i:SV} {E:Env} {p:Addr} {len cap:Nat} {n:Int} (hu:P.underlying t=some (.slice e)) (hq:P.info? e=some q) (hx:x.den E= .slice (some p) len cap) (hi:idxOf i=some n)
  (h0:0<=n) (h1:n<len):(Instr.indexAt t (x.den E) (i.den E)).run P w= .ok (.pointer (some (p.add (n.toNat*q.size)))) w:=by
 obtain⟨k,hk⟩:=UG (E:=E) hi
 rw[hk,hx]
 simp [Instr.indexAt,asIntOf,run_underlying hu,sizeOf,typeInfo,hq,h0,h1]
theorem tX {w:World} {t e:TypeId} {len:Nat} {q:TypeInfo} {x i:SV} {E:Env} {p:Addr} {n:Int} (hu:P.underlying t=some (.array len e)) (hq:P.info? e=some q) (hx:x.den E= .pointer (some p)) (hi:idxOf i=some n)
  (h0:0<=n) (h1:n<len):(Instr.indexAt t (x.den E) (i.den E)).run P w= .ok (.pointer (some (p.add (n.toNat*q.size)))) w:=by
 obtain⟨k,hk⟩:=UG (E:=E) hi
 rw[hk,hx]
 simp [Instr.indexAt,asIntOf,run_underlying hu,sizeOf,typeInfo,hq,h0,h1,Instr.sureAddr]
theorem AMF {o:Oper} {ρ:Operand->SV} {t:TypeId} {x i:Operand} (FU:o.op= .indexAddr t x i) (B9:∀ n e,AP n=some e->look L n=some e) {v:SV} {DD:C8}
  (hs:nZ P AP t (ρ x) (ρ i) pr=some (v,DD)):EN TB P o ρ L v DD:=by
 have whole:∀ (j:Nat) (a:Ty) (xs:List a.T) (e:TypeId) (q:TypeInfo) (n:Int),P.underlying t=some (.slice e)->P.info? e=some q->idxOf (ρ i)=some n->ρ x= .MT j->(look L j=some (.row a xs)\/look L j=some (.shr a xs))->q.size=a.sz->0<=n/\n<(xs.length:Int)→
   EN TB P o ρ L (.el j n.toNat a.sz 0) []:=by
  intro j a xs e q n hu hq hi hx hl eY hn
  refine BO fun c w E hH hw=> ?_
  obtain⟨G,hG⟩:=hH
  have V6:=hw x
  rw[hx] at V6
  have hrd:Rd (Rp G w a) a.sz w (E.nm j) xs:=by
   rcases hl with hl|hl
   ·exact tS (hG.LK j _ hl)
   ·exact AH7 (hG.LK j _ hl)
  have UB:(E.nm j).nil=false:=by
   rcases hrd.2.2 with h|h
   ·rw[h] at hn;simp at hn;omega
   ·exact h.1
  refine⟨w,E,_, ?_,.inl rfl,⟨G,hG⟩,fun n hn=>⟨rfl,hn⟩,rfl,⟨V6,by rw[hrd.1];omega,UB⟩⟩
  simp only[execOp,FU]
  refine CY ?_
  rw[LW (p:=⟨(E.nm j).B_,(E.nm j).off,none⟩) hu hq (len:=(E.nm j).len) (cap:=(E.nm j).cap) (by rw[hx];simp [SV.den,Nm.ad,UB]) hi hn.1 (by rw[hrd.1];exact hn.2)]
  simp [SV.den,H2,eY]
 unfold nZ at hs
 split at hs
 ·rename_i e n hu hi
  split at hs
  ·rename_i q j hq hx
   split at hs
   ·rename_i a xs hl
    split at hs
    rotate_left
    ·cases hs
    rename_i eY
    split at hs
    rotate_left
    ·cases hs
    rename_i hn
    simp only[pr,AX,DB] at hs
    obtain⟨rfl,rfl⟩:=hs
    exact whole j a xs e q n hu hq hi hx (.inl (B9 _ _ hl)) eY hn
   ·rename_i a xs hl
    split at hs
    rotate_left
    ·cases hs
    rename_i eY
    split at hs
    rotate_left
    ·cases hs
    rename_i hn
    simp only[pr,AX,DB] at hs
    obtain⟨rfl,rfl⟩:=hs
    exact whole j a xs e q n hu hq hi hx (.inr (B9 _ _ hl)) eY hn
   ·rename_i a xss hh hl
    split at hs
    rotate_left
    ·cases hs
    rename_i eY
    split at hs
    rotate_left
    ·cases hs
    rename_i hn
    simp only[pr,AX,DB] at hs
    obtain⟨rfl,rfl⟩:=hs
    refine BO fun c w E hH hw=> ?_
    obtain⟨G,hG⟩:=hH
    have V6:=hw x
    rw[hx] at V6
    have hd:=hG.dp j _ _ _ (B9 _ _ hl)
    have hlen:=hd.len
    have UB:(E.nm j).nil=false:=by
     rcases hd.cs with ⟨_,h2,_⟩|⟨h1,_⟩
     ·rw[h2] at hn;simp at hn;omega
     ·exact h1
    refine⟨w,E,_, ?_,.inl rfl,⟨G,hG⟩,fun n hn=>⟨rfl,hn⟩,rfl,⟨V6,by rw[hlen];omega,UB⟩⟩
    simp only[execOp,FU]
    refine CY ?_
    rw[LW (p:=⟨(E.nm j).B_,(E.nm j).off,none⟩) hu hq (len:=(E.nm j).len) (cap:=(E.nm j).cap) (by rw[hx];simp [SV.den,Nm.ad,UB]) hi hn.1 (by rw[hlen];exact hn.2)]
    simp [SV.den,H2,eY]
   ·rename_i t1 t2 xs hl
    split at hs
    rotate_left
    ·cases hs
    rename_i eY
    split at hs
    rotate_left
    ·cases hs
    rename_i hn
    simp only[pr,AX,DB] at hs
    obtain⟨rfl,rfl⟩:=hs
    refine BO fun c w E hH hw=> ?_
    obtain⟨G,hG⟩:=hH
    have V6:=hw x
    rw[hx] at V6
    have hd:FC c G w (E.nm j) t1 t2 xs:=hG.LK j _ (B9 _ _ hl)
    have hlen:=hd.len
    have UB:(E.nm j).nil=false:=by
     rcases hd.cs with ⟨_,h2,_⟩|⟨h1,_⟩
     ·rw[h2] at hn;simp at hn;omega
     ·exact h1
    refine⟨w,E,_, ?_,.inl rfl,⟨G,hG⟩,fun n hn=>⟨rfl,hn⟩,rfl,⟨V6,by rw[hlen];omega,UB⟩⟩
    simp only[execOp,FU]
    refine CY ?_
    rw[LW (p:=⟨(E.nm j).B_,(E.nm j).off,none⟩) hu hq (len:=(E.nm j).len) (cap:=(E.nm j).cap) (by rw[hx];simp [SV.den,Nm.ad,UB]) hi hn.1 (by rw[hlen];exact hn.2)]
    simp [SV.den,H2,eY]
   ·cases hs
  ·rename_i q i' k h' hq hx
   have inner:∀ (tt:Ty) (ys:List tt.T) (hh:Nat),hh<2->h' =hh->q.size=1->0<=n/\n<(ys.length:Int)→
     (∀ (c:DW TB) (w:World) (E:Env) (G:Nat->Prop),AR c G w E L->k<(E.nm i').len->FY (Rp G w tt) tt.sz w ((E.nm i').hn (k*2+hh)) ys)->EN TB P o ρ L (.tel i' k hh n.toNat) []:=by
    intro tt ys hh hh2 he n7 hn OE
    subst he
    refine BO fun c w E hH hw=> ?_
    obtain⟨G,hG⟩:=hH
    have V6:=hw x
    rw[hx] at V6
    obtain⟨MY,hk,xZ⟩:=V6
    obtain⟨p1,_,p3⟩:=OE c w E G hG hk
    have UB:((E.nm i').hn (k*2+h')).nil=false:=by
     rcases p3 with ⟨_,p4,_⟩|⟨p4,_⟩
     ·rw[p4] at hn;simp at hn;omega
     ·exact p4
    refine⟨w,E,_, ?_,.inl rfl,⟨G,hG⟩,fun n hn=>⟨rfl,hn⟩,rfl,⟨MY,hk,xZ,by rw[p1];omega⟩⟩
    simp only[execOp,FU]
    refine CY ?_
    rw[LW (p:=⟨((E.nm i').hn (k*2+h')).B_,((E.nm i').hn (k*2+h')).off,none⟩) hu hq (len:=((E.nm i').hn (k*2+h')).len) (cap:=((E.nm i').hn (k*2+h')).cap) (by rw[hx];simp [SV.den,Nm.ad,UB]) hi hn.1 (by rw[p1];exact hn.2)]
    simp [SV.den,H2,n7]
   unfold AXJ at hs
   split at hs
   rotate_left
   ·cases hs
   rename_i t1 t2 xs hl
   have AW1:∀ (c:DW TB) (w:World) (E:Env) (G:Nat->Prop),AR c G w E L->k<(E.nm i').len→
     FY (Rp G w t1) t1.sz w ((E.nm i').hn (k*2)) (gd (.pair (.slice t1) (.slice t2)) xs k).1/\FY (Rp G w t2) t2.sz w ((E.nm i').hn (k*2+1)) (gd (.pair (.slice t1) (.slice t2)) xs k).2:=by
    intro c w E G hG hk
    have hd:FC c G w (E.nm i') t1 t2 xs:=hG.LK i' _ (B9 _ _ hl)
    rw[hd.len] at hk
    rcases hd.cs with ⟨_,h2,_⟩|⟨_,_,_,_,_,_,_,_,h7,_⟩
    ·rw[h2] at hk;simp at hk
    ·refine h7 k _ ?_
     unfold gd
     rw[sC,NH hk];rfl
   split at hs
   ·split at hs
    rotate_left
    ·cases hs
    rename_i eY
    split at hs
    rotate_left
    ·cases hs
    rename_i hn
    simp only[pr,AX,DB] at hs
    obtain⟨rfl,rfl⟩:=hs
    exact inner t1 _ 0 (by omega) rfl eY.1 hn fun c w E G hG hk=>(AW1 c w E G hG hk).1
   ·split at hs
    rotate_left
    ·cases hs
    rename_i eY
    split at hs
    rotate_left
    ·cases hs
    rename_i hn
    simp only[pr,AX,DB] at hs
    obtain⟨rfl,rfl⟩:=hs
    exact inner t2 _ 1 (by omega) rfl eY.1 hn fun c w E G hG hk=>(AW1 c w E G hG hk).2
   ·cases hs
  ·rename_i q j lo len sz hq hx
   split at hs
   rotate_left
   ·cases hs
   rename_i a xs hl
   split at hs
   rotate_left
   ·cases hs
   rename_i eY
   split at hs
   rotate_left
   ·cases hs
   rename_i hn
   simp only[pr,AX,DB] at hs
   obtain⟨rfl,rfl⟩:=hs
   refine BO fun c w E hH hw=> ?_
   obtain⟨G,hG⟩:=hH
   have V6:=hw x
   rw[hx] at V6
   obtain⟨MY,hle⟩:=V6
   have DM:lo+n.toNat<(E.nm j).len:=by omega
   have hrd:=tS (hG.LK j _ (B9 _ _ hl))
   have qT:=hrd.2.1
   have UB:(E.nm j).nil=false:=by
    rcases hrd.2.2 with h|h
    ·have:=hrd.1;rw[h] at this;simp at this;omega
    ·exact h.1
   refine⟨w,E,_, ?_,.inl rfl,⟨G,hG⟩,fun n hn=>⟨rfl,hn⟩,rfl,⟨MY,DM,UB⟩⟩
   simp only[execOp,FU]
   refine CY ?_
   have CO:¬(E.nm j).cap=lo:=by omega
   rw[LW (p:=⟨(E.nm j).B_,(E.nm j).off+lo*sz,none⟩) (len:=len) (cap:=(E.nm j).cap-lo) hu hq (by rw[hx];simp [SV.den,Nm.ad,UB,CO,nJ,H2]) hi hn.1 hn.2]
   simp [SV.den,H2,eY.1,a_,N0]
  ·cases hs
 ·rename_i len e n hu hi
  split at hs
  ·rename_i q j k sz off hq hx
   split at hs
   ·rename_i a xs hl
    split at hs
    rotate_left
    ·cases hs
    rename_i eY
    obtain⟨q1,q2,q3,q4⟩:=eY
    split at hs
    rotate_left
    ·cases hs
    rename_i hn
    obtain⟨⟨n0,n1⟩,n2⟩:=hn
    simp only[pr,AX,DB] at hs
    obtain⟨rfl,rfl⟩:=hs
    refine BO fun c w E hH hw=> ?_
    obtain⟨G,hG⟩:=hH
    have V6:=hw x
    rw[hx] at V6
    obtain⟨MY,_,UB⟩:=V6
    have hlen:=(hG.LK j _ (B9 _ _ hl)).1
    refine⟨w,E,_, ?_,.inl rfl,⟨G,hG⟩,fun n hn=>⟨rfl,hn⟩,rfl,⟨MY,by omega,UB⟩⟩
    simp only[execOp,FU]
    refine CY ?_
    rw[tX (p:=⟨(E.nm j).B_,(E.nm j).off+(k*sz+off),none⟩) hu hq (by rw[hx];rfl) hi n0 n1]
    subst q3;subst q4
    simp [SV.den,H2,q1]
   ·cases hs
  ·cases hs
 ·cases hs
theorem APM {c:DW TB} {w:World} {E:Env} (hH:Hd c w E L) (B9:∀ n e,AP n=some e->look L n=some e) {x:SV} {n:Nat} (h:AP2 AP x=some n):∃ a k,x.den E= .slice a n k:=by
 obtain⟨G,hG⟩:=hH
 unfold AP2 at h
 split at h
 ·simp only[AX] at h;subst h;exact⟨_,_,rfl⟩
 ·split at h
  ·rename_i i _ t xs hl
   simp only[AX] at h;subst h
   have:=(hG.LK i _ (B9 _ _ hl)).1
   exact⟨(E.nm i).ad,(E.nm i).cap,by simp [SV.den,this]⟩
  ·rename_i i _ t xs hl
   simp only[AX] at h;subst h
   have:=(hG.LK i _ (B9 _ _ hl)).1
   exact⟨(E.nm i).ad,(E.nm i).cap,by simp [SV.den,this]⟩
  ·rename_i i _ t xs _ hl
   simp only[AX] at h;subst h
   have:=(hG.dp i _ _ _ (B9 _ _ hl)).len
   exact⟨(E.nm i).ad,(E.nm i).cap,by simp [SV.den,this]⟩
  ·rename_i i _ t1 t2 xs hl
   simp only[AX] at h;subst h
   have:=(hG.LK i _ (B9 _ _ hl)).len
   exact⟨(E.nm i).ad,(E.nm i).cap,by simp [SV.den,this]⟩
  ·cases h
 ·simp only[AX] at h;subst h;exact⟨_,_,rfl⟩
 ·cases h
def BD (P:Program) (n:FuncId) (e:Xt):Prop:=
 ∃ fn, P.funcs[n]? = some fn ∧ fn.body = none ∧ (fn.name == "runtime.NumGoroutine") = false ∧ Extern.findNext fn = none ∧ Extern.find fn = some e.sem
def Cx.Ok (P:Program) (cx:Cx):Prop:=(∀ n fi,cx.fns n=some fi->CallsV P cx.tb n fi)/\∀ n e,lk cx.exts n=some e->BD P n e
theorem AXU {E:Env} {P:Program} (w:World) {n:FuncId} {e:Xt} (hx:BD P n e) (args:List SV):(xtE e args).ok fun v=>(callFunc n (AL E args).toArray).run P w= .ok (.value (v.den E)) w:=by
 obtain⟨fn,h1,h2,h3,h4,h5⟩:=hx
 have JN:∀ v:Value,(e.sem (AL E args).toArray).run P w= .ok v w->(callFunc n (AL E args).toArray).run P w= .ok (.value v) w:=by
  intro v hv
  have hp:(program:Sem Program).run P w= .ok P w:=rfl
  unfold callFunc
  simp only[Sem.run_bind,hp,Result.andThen,h1,h3,h2,Option.isNone_none,G4,VL,QZ,h4,h5]
  have hm:(mark (.extern n)).run P w= .ok () w:=rfl
  rw[hm]
  simp only[hv]
  rfl
 unfold xtE
 split
 ·rename_i o i
  refine JI fun hb=>JN _ ?_
  obtain⟨b,rfl⟩:=AIK.1 hb.1
  have rM:b<18446744073709551616:=hb.2
  show Result.ok (Value.int .u64 (b:Int)) w=_
  simp only[SV.den,AAB,xO]
  rw[o8 (by omega)]
 ·rename_i b
  refine JI fun hb=>JN _ ?_
  show Result.ok (Value.int .u64 (b:Int)) w=_
  simp only[SV.den,AAB]
  rw[o8 (by omega)]
 ·rename_i x
  refine BF (JN _ ?_)
  show Result.ok (Value.float .f64 ((x.toNat:Int).toNat)) w=_
  rfl
 ·exact ok_none
theorem AXV {E:Env} {e:Xt} {args:List SV} {q:Option DP} {v:SV} (h:xtE e args=some (q,v)):v.wf E L:=by
 unfold xtE at h
 repeat' split at h
 all_goals first|(cases h;done)|(simp only[val,UP,AX,DB] at h;rw[<-h.2];trivial)
theorem tY {kk:IntKind} (n:Int) (v:Bool):∀ (xs:List (Int×Bool)) (es:List MapEntry) (i:Nat),es.map (fun e=>(e.key,e.val))=xs.map (fun q=>((.int .i64 q.1:Value),(.bool q.2:Value)))→
  (Instr.findNow (.int kk) (.int .i64 n) es i=some none/\LR xs n=none/\W9 xs n v=xs++ [(n,v)])∨
  ∃ j b e,Instr.findNow (.int kk) (.int .i64 n) es i=some (some (i+j,.bool b))/\LR xs n=some b/\es[j]? =some e/\e.key= .int .i64 n∧
   (es.modify j fun e=>{ e with key:= .int .i64 n,val:= .bool v }).map (fun e=>(e.key,e.val))=(W9 xs n v).map (fun q=>((.int .i64 q.1:Value),(.bool q.2:Value)))
 | [],[],_,_=> .inl ⟨rfl,rfl,rfl⟩
 | [],_::_,_,h=>by simp at h
 |_::_,[],_,h=>by simp at h
 |(a,b)::r,e::es,i,h=>by
  simp only[KU,iZ,DB] at h
  obtain⟨⟨h1,h2⟩,h3⟩:=h
  have hs:Instr.sameNow (.int kk) (.int .i64 n) e.key=some (n==a):=by rw[h1];simp [Instr.sameNow]
  by_cases hna:n=a
  ·subst hna
   refine .inr ⟨0,b,e, ?_,by simp [LR],rfl,h1, ?_⟩
   ·simp [Instr.findNow,hs,h2]
   ·simp [W9,h3]
  ·have hs' :Instr.sameNow (.int kk) (.int .i64 n) e.key=some false:=by rw[hs];simp [hna]
   rcases tY (kk:=kk) n v r es (i+1) h3 with ⟨k1,k2,k3⟩|⟨j,b',e',k1,k2,k3,k4,k5⟩
   ·refine .inl ⟨by simp [Instr.findNow,hs',k1],by simp [LR,hna,k2],by simp [W9,hna,k3]⟩
   ·refine .inr ⟨j+1,b',e', ?_,by simp [LR,hna,k2],by simpa using k3,k4, ?_⟩
    ·simp only[Instr.findNow,hs',k1]
     congr 3;omega
    ·simp only[W9,AD hna,List.modify_succ_cons,KU,k5,h1,h2]
theorem pP {t:TypeId} (h:AAO P t=true):∃ k e kk,P.underlying t=some (.map k e)/\P.underlying k=some (.int kk)/\∀ w:World,(zeroValue e).run P w= .ok (.bool false) w:=by
 unfold AAO at h
 split at h
 ·rename_i k e hu
  split at h
  ·rename_i kk q h1 h2
   split at h
   ·rename_i h3
    exact⟨k,e,kk,hu,h1,fun w=>by simp [zeroValue,typeInfo,h2,h3]⟩
   ·cases h
  ·cases h
 ·cases h
theorem jP {w:World} {r:Nat} {es:Array MapEntry} {ck:Nat} (h:w.heap[r]? =some (.map es ck)):(getObj r).run P w= .ok (.map es ck) w:=by simp [getObj,Sem.run,h]
theorem run_checkKey {k:TypeId} {kk:IntKind} (hk:P.underlying k=some (.int kk)) (em:Bool) (v:Value) (w:World):(Instr.checkKey em 10000 k v).run P w= .ok () w:=by
 rw[show (10000:Nat)=9999+1 from rfl,Instr.checkKey]
 simp [run_underlying hk]
theorem ADZ {o:Oper} {ρ:Operand->SV} {t:TypeId} (FU:o.op= .makeMap t none) {bs:Nat} (B9:∀ n e,AP n=some e->look L n=some e) {v:SV} {DD:C8}
  (h:lL AP bs pr=some (v,DD)):EN TB P o ρ L v DD:=by
 unfold lL at h
 split at h
 rotate_left
 ·cases h
 rename_i DR
 have LL:look L bs=some .K5:=B9 _ _ (by have:=CZ DR 0 (by omega);simpa using this)
 simp only[pr,AX,DB] at h
 obtain⟨rfl,rfl⟩:=h
 refine BO fun c w E hh hw=> ?_
 obtain⟨G,hG⟩:=hh
 obtain⟨k1,k2⟩:=hG.n6 LL (w' :=w.alloc (.map #[] 0)) (ob:= .map #[] 0) rfl ⟨rfl,rfl,rfl⟩ (e:= .map []) (m:=⟨w.heap.size,0,false,0,0,none⟩) rfl ⟨rfl,rfl,rfl⟩
  (fun DR hold hG CP=>⟨rfl,rfl,hG,hold,_,_,DR,rfl⟩)
 refine⟨w.alloc (.map #[] 0),_,.value (.map (some w.heap.size)), ?_,.inl ?_,⟨G,k1⟩,k2,rfl, ?_⟩
 ·simp only[execOp,FU]
  refine CY ?_
  rfl
 ·simp only[SV.den,Env.EI]
 ·exact⟨.map [],by show look (DE L (bs,.map [])) bs=_;rw[AZ (AO LL),AB rfl],rfl⟩
theorem jQ (s:ByteArray):(jK s).length=s.size:=by
 unfold jK;simp
theorem yR {e:TypeId} (h:ATM P e=true):P.underlying e=some (.int .u8):=by
 unfold ATM at h
 split at h
 ·assumption
 ·cases h
theorem APN {G:Nat->Prop} {w:World} {xs:List Int} {cells:List Value} (hl:cells.length=xs.length) (h:RowsIn (Rp G w (.int .u8)) 1 cells.toArray 0 xs):cells=xs.map (Value.int .u8):=by
 apply VM
 intro j
 rw[xM]
 rcases GS j xs.length with hj|hj
 ·have h1:=h j xs[j] (NH hj)
  have h2:BN cells.toArray (0+j*1) 1=[.int .u8 xs[j]]:=h1
  have h3:(BN cells.toArray (0+j*1) 1)[0]? =some (.int .u8 xs[j]):=by rw[h2];rfl
  rw[CE,AB (by omega)] at h3
  rw[NH hj,aZ,←h3]
  simp
 ·rw[T3 (by omega),T3 hj];rfl
theorem APO {o:Oper} {ρ:Operand->SV} {s d:TypeId} {x:Operand} (FU:o.op= .convert s d x) {kp:Bool} {bs:Nat} (B9:∀ n e,AP n=some e->look L n=some e) {v:SV} {DD:C8}
  (h:AJL P AP s d (ρ x) kp bs pr=some (v,DD)):EN TB P o ρ L v DD:=by
 have yS:∀ E:Env,execOp (fun x=>(ρ x).den E) o=(do pure (Next.value (<-convert s d ((ρ x).den E))):Sem Next):=by
  intro E;simp only[execOp,FU]
 unfold AJL at h
 split at h
 ·rename_i e hs hd
  split at h
  rotate_left
  ·cases h
  rename_i hu
  have hu:=yR hu
  split at h
  ·cases h
  rename_i H9
  split at h
  rotate_left
  ·cases h
  rename_i xs ne u hp
  simp only[pr,AX,DB] at h
  obtain⟨rfl,rfl⟩:=h
  refine BO fun c w E hh hw=> ?_
  obtain⟨G,hG⟩:=hh
  have hrd:Rd (Rp G w (.int .u8)) (Ty.int .u8).sz w (ne.nm E) xs:=by
   refine ADX hp (by simp) H9 (hw x) ?_
   rintro i t ys (hl|hl)
   ·exact AH7 (hG.LK i _ (B9 _ _ hl))
   ·exact tS (hG.LK i _ (B9 _ _ hl))
  obtain⟨cells,c1,c2,c3,_⟩:=tT (P:=P) hrd
  have ZR:(Ty.int .u8).sz=1:=rfl
  rw[ZR,pB] at c1
  have hc:cells=xs.map (Value.int .u8):=APN c1 (by
   refine c3 cells.toArray 0 ?_
   rw[ZR,pB]
   unfold BN
   rw[o_,ACK (by simp;omega)])
  have jI:=nM hp E
  have hlen:(ne.nm E).len=xs.length:=hrd.1
  refine⟨w,E,.value (.string (A0G xs)), ?_,.inl rfl,⟨G,hG⟩,fun n hn=>⟨rfl,hn⟩,rfl,trivial⟩
  rw[yS]
  refine CY ?_
  rw[jI,run_convert_bytes_string w s d e _ _ _ hs hu hd]
  have hc2:=c2 w rfl
  cases had:(ne.nm E).ad with
  |none=>
   rw[had] at hc2
   have hxs:xs=[]:=by
    have:(Builtin.firstCells (Ty.int .u8).sz xs.length (.slice none (ne.nm E).len (ne.nm E).cap):Sem _)=pure #[]:=rfl
    rw[this] at hc2
    have hc3:cells.toArray= #[]:=by
     have:(Result.ok (#[]:Array Value) w)= .ok cells.toArray w:=hc2
     simp only[Result.ok.injEq] at this
     exact this.1.symm
    have:cells.length=0:=by have:=MS Array.size hc3;simpa using this
    exact AO0.1 (by omega)
   subst hxs
   rfl
  |some p=>
   rw[had] at hc2
   have hc4:(loadCells p (xs.length*1)).run P w= .ok cells.toArray w:=hc2
   rw[pB] at hc4
   rw[hlen]
   exact run_bytesToString w p xs.length _ xs (by rw[hc4,hc])
 ·rename_i e hs hd
  split at h
  rotate_left
  ·cases h
  rename_i hc
  simp only[HQ] at hc
  obtain⟨hu,DR⟩:=hc
  have hu:=yR hu
  split at h
  rotate_left
  ·cases h
  rename_i t hx
  simp only[pr,AX,DB] at h
  obtain⟨rfl,rfl⟩:=h
  have LL:look L bs=some .K5:=B9 _ _ (by have:=CZ DR 0 (by omega);simpa using this)
  refine BO fun c w E hh hw=> ?_
  obtain⟨G,hG⟩:=hh
  have qT:t.size<=grownCap w t.size 0 e:=by
   unfold grownCap Question.cut;simp only;omega
  let m:Nm:={ B_:=w.heap.size,off:=0,nil:=false,len:=t.size,cap:=grownCap w t.size 0 e,VO:=none,fz:=⟨true⟩ }
  have OQ:RowsIn (Rp G (Lib.bytesWorld w e t) (.int .u8)) (Ty.int .u8).sz (Lib.bytesCells w e t) 0 (jK t):=by
   intro i y hy
   have hi:i<t.size:=by
    rw[<-jQ t]
    rcases GS i (jK t).length with h' |h'
    ·exact h'
    ·rw[T3 h'] at hy;cases hy
   show BN _ (0+i*1) 1=[.int .u8 y]
   apply VM
   intro j
   rw[CE]
   cases j with
   |zero=>
    rw[AB (by omega)]
    unfold jK at hy
    rw[xM] at hy
    unfold Lib.bytesCells
    rw[ACG (by simp;omega),AOE]
    simp only[ML,pB,NJ,OS]
    rw[<-iX]
    cases hg:t.data.toList[i]? with
    |none=>rw[hg] at hy;cases hy
    |some b=>rw[hg] at hy;simp only[aZ,AX] at hy ⊢;rw[hy]
   |succ j=>rw[AD (by omega)];rfl
  have hcs:(Lib.bytesCells w e t).size=grownCap w t.size 0 e:=by
   unfold Lib.bytesCells
   rw[Array.size_append,Array.size_map,Array.size_replicate,ByteArray.size_data];omega
  have A0R:(Lib.bytesWorld w e t).heap=w.heap.push (.cells (Lib.bytesCells w e t) e ((Lib.bytesCells w e t).size,(Lib.bytesCells w e t).size+1)):=by
   apply AIW
   intro k
   rw[AA9]
   by_cases hk:k=w.heap.size
   ·rw[AB hk,hk];exact Lib.bytesWorld_at_new w e t
   ·rw[AD hk]
    rcases GS k w.heap.size with MU |MU
    ·exact Lib.bytesWorld_at_old w e t k MU
    ·rw[AA5 MU,AA5 (by rw[Lib.bytesWorld_size];omega)]
  obtain⟨k1,k2⟩:=hG.n6 LL (w' :=Lib.bytesWorld w e t) A0R ⟨rfl,rfl,rfl⟩ (e:= .row (.int .u8) (jK t)) (m:=m) rfl ⟨rfl,rfl,rfl⟩ (fun hb ho hg hs=>by
   refine⟨(jQ t).symm,trivial,.inr ⟨rfl,hg,ho, ?_,Lib.bytesCells w e t,e,hb, ?_,OQ⟩⟩
   ·rw[jQ];exact qT
   ·show 0+grownCap w t.size 0 e*1<=_
    rw[hcs];omega)
  obtain⟨f1,f2,f3⟩:=eZ kp (AO LL) k1
  refine⟨Lib.bytesWorld w e t,E.set bs m,.value (.slice (some ⟨w.heap.size,0,none⟩) t.size (grownCap w t.size 0 e)), ?_,.inl ?_,f1,fun n hn=>⟨(k2 n hn).1,f2 n (k2 n hn).2⟩,rfl, ?_⟩
  ·rw[yS,hx]
   refine CY ?_
   exact Lib.run_convert_string_bytes w s d e t hs hd hu
  ·simp only[SV.den,Env.EI];rfl
  ·exact f3
 ·cases h
theorem ATX {o:Oper} {ρ:Operand->SV} {t rt:TypeId} {x y:Operand} (FU:o.op= .binOp .quo t x y rt) {a b:Nat} (hx:ρ x= .QP a) (hy:ρ y= .QP b) {bs:Nat} (B9:∀ n e,AP n=some e->look L n=some e) (DR:IV AP bs 1=true):
  EN TB P o ρ L (.nf (JW .quo a b) bs) [(bs,.dead)]:=by
 have LL:look L bs=some .K5:=B9 _ _ (by have:=CZ DR 0 (by omega);simpa using this)
 refine BO fun c w E hh hw=> ?_
 obtain⟨G,hG⟩:=hh
 have MY:∀ (m:Nm) (n:Nat),Al L n->(E.set bs m).nm n=E.nm n/\Al (AI L [(bs,.dead)]) n:=fun m n hn=>⟨E.HG _ (fun he=>EJ (he ▸ LL) hn),BU rfl n hn⟩
 have pF:SV.wf E (AI L [(bs,.dead)]) (.nf (JW .quo a b) bs):=⟨.dead,by show look (DE L (bs,.dead)) bs=_;rw[AZ (AO LL),AB rfl],rfl⟩
 have hch:∀ (m:Nm) (w' :World),w'.heap=w.heap->Rest w w' ->AR c G w' (E.set bs m) (DE L (bs,.dead)):=fun m w' hh hr=>
  hG.change (AO LL) hr (by rw[hh];exact EL _) (fun ha=>absurd ha (EJ LL)) rfl (fun b _ _=>by rw[hh]) (fun b hb=>by cases hb) (fun _ _ _ _ _ _ hb=>by cases hb) (fun _=>trivial)
 have yS:(execOp (fun x=>(ρ x).den E) o)=(do pure (Next.value (<-Op.floatArith .quo .f64 a b)):Sem Next):=by
  simp only[execOp,FU,hx,hy,SV.den];rfl
 cases hq:JW .quo a b with
 |some r=>
  rw[hq] at pF
  refine⟨w,E.set bs ⟨0,0,true,0,0,none⟩,.value (.float .f64 r), ?_,.inl rfl,⟨G,hch _ w rfl (.refl _)⟩,MY _,rfl,pF⟩
  rw[yS]
  refine CY ?_
  simp only[JW] at hq
  simp [Op.floatArith,hq]
 |none=>
  rw[hq] at pF
  let T:=w.tape w.drawn (.nanBits .f64 a b)
  refine⟨{ w with drawn:=w.drawn+1 },E.set bs ⟨T,0,true,0,0,none⟩,.value (.float .f64 (V0 T)), ?_,.inl ?_,⟨G,hch _ _ rfl ⟨rfl,rfl,rfl⟩⟩,MY _,rfl,pF⟩
  ·rw[yS]
   refine CY ?_
   simp only[JW] at hq
   simp only[Op.floatArith,hq]
   rfl
  ·simp only[SV.den,Env.EI,Option.getD_none]
theorem AHE {o:Oper} {ρ:Operand->SV} {t:TypeId} {x i:Operand} {ok:Bool} (FU:o.op= .lookup t x i ok) (B9:∀ n e,AP n=some e->look L n=some e) {v:SV} {DD:C8}
  (h:rQ P AP t (ρ x) (ρ i) ok pr=some (v,DD)):EN TB P o ρ L v DD:=by
 unfold rQ at h
 split at h
 rotate_left
 ·cases h
 rename_i j n hx hi
 split at h
 rotate_left
 ·cases h
 rename_i xs hl
 split at h
 rotate_left
 ·cases h
 rename_i hm
 obtain⟨k,e,kk,u1,u2,u3⟩:=pP hm
 obtain⟨V,hV⟩:∃ V:SV,V=(if ok=true then SV.tup [.bool ((LR xs n).getD false),.bool (LR xs n).isSome] else .bool ((LR xs n).getD false)):=⟨_,rfl⟩
 have hv:v=V/\DD=[]:=by
  cases ok <;> (simp only[pr,AX,DB] at h;exact⟨by rw[hV];exact h.1.symm,h.2.symm⟩)
 clear h
 obtain⟨rfl,rfl⟩:=hv
 subst hV
 refine BO fun c w E hh hw=> ?_
 obtain⟨G,hG⟩:=hh
 obtain⟨-, -, -, -,es,ck,h5,h6⟩:=hG.LK j _ (B9 _ _ hl)
 refine⟨w,E,_, ?_,.inl rfl,⟨G,hG⟩,fun n hn=>⟨rfl,hn⟩,rfl,by cases ok <;> simp [SV.wf,K6]⟩
 simp only[execOp,FU,hx,hi]
 refine CY ?_
 have A0S:∃ r:Option (Nat×Value),(Instr.findKey k (.int .i64 n) es.toList).run P w= .ok r w/\r.map (·.2)=(LR xs n).map Value.bool:=by
  rcases tY (kk:=kk) n false xs es.toList 0 h6 with ⟨k1,k2,_⟩|⟨j',b,e',k1,k2,_⟩
  ·exact⟨none,by simp [Instr.findKey,run_underlying u2,k1],by simp [k2]⟩
  ·exact⟨some (0+j',.bool b),by simp [Instr.findKey,run_underlying u2,k1],by simp [k2]⟩
 obtain⟨r,hr1,rS⟩:=A0S
 simp only[Instr.lookup,Sem.run_bind,run_underlying u1,Result.andThen,SV.den,jP h5,Sem.run_pure,run_checkKey u2,hr1]
 cases r with
 |none=>
  have hg:LR xs n=none:=by cases hx:LR xs n with
   |none=>rfl
   |some b=>rw[hx] at rS;cases rS
  cases ok <;> simp [u3,hg,SV.den,AL]
 |some q=>
  obtain⟨q1,q2⟩:=q
  have hg:∃ b,LR xs n=some b/\q2= .bool b:=by cases hx:LR xs n with
   |none=>rw[hx] at rS;cases rS
   |some b=>rw[hx] at rS;simp at rS;exact⟨b,rfl,rS⟩
  obtain⟨b,hg,rfl⟩:=hg
  cases ok <;> simp [hg,SV.den,AL]
theorem AHF {o:Oper} {ρ:Operand->SV} {t:TypeId} {x i y:Operand} (FU:o.op= .mapUpdate t x i y) (B9:∀ n e,AP n=some e->look L n=some e) {v:SV} {DD:C8}
  (h:rR P AP t (ρ x) (ρ i) (ρ y) pr=some (v,DD)):EN TB P o ρ L v DD:=by
 unfold rR at h
 split at h
 rotate_left
 ·cases h
 rename_i j n b hx hi hb
 split at h
 rotate_left
 ·cases h
 rename_i xs hl
 split at h
 rotate_left
 ·cases h
 rename_i hm
 obtain⟨k,e,kk,u1,u2,u3⟩:=pP hm
 simp only[pr,AX,DB] at h
 obtain⟨rfl,rfl⟩:=h
 refine BO fun c w E hh hw=> ?_
 obtain⟨G,hG⟩:=hh
 have hL:=B9 _ _ hl
 obtain⟨e1,e2,e3,e4,es,ck,h5,h6⟩:=hG.LK j _ hL
 have hbd:(ρ y).den E= .bool b:=T7 hb
 have DM:=SW h5
 have key:∃ es' ck',(Instr.mapUpdate t (.map (some (E.nm j).B_)) (.int .i64 n) (.bool b)).run P w= .ok () { w with heap:=w.heap.setIfInBounds (E.nm j).B_ (.map es' ck') }/\AJ7 es' (W9 xs n b):=by
  rcases tY (kk:=kk) n b xs es.toList 0 h6 with ⟨k1,k2,k3⟩|⟨j',b',e',k1,k2,k3,k4,k5⟩
  ·refine⟨es.push { key:= .int .i64 n,val:= .bool b,born:=ck },ck+1, ?_, ?_⟩
   ·have hf:(Instr.findKey k (.int .i64 n) es.toList).run P w= .ok none w:=by simp [Instr.findKey,run_underlying u2,k1]
    simp only[Instr.mapUpdate,Sem.run_bind,run_underlying u1,Result.andThen,jP h5,run_checkKey u2,hf]
    simp [setObj,Sem.run,h5]
   ·unfold AJ7 at h6 ⊢
    rw[Array.toList_push,ZQ,h6,k3];simp
  ·refine⟨es.modify j' fun e=>{ e with key:= .int .i64 n,val:= .bool b },ck, ?_, ?_⟩
   ·have hf:(Instr.findKey k (.int .i64 n) es.toList).run P w= .ok (some (j',.bool b')) w:=by simp [Instr.findKey,run_underlying u2,k1]
    have hk:∀ o,(es[j']?).map (·.key)=some o->(Instr.keyThatStays o (.int .i64 n)).run P w= .ok (.int .i64 n) w:=by
     intro o ho
     have:es[j']? =some e' :=by simpa using k3
     rw[this] at ho
     simp only[aZ,AX] at ho
     subst ho
     rw[k4]
     simp [Instr.keyThatStays,Instr.sameBits]
    have MU :(es[j']?).map (·.key)=some (.int .i64 n):=by
     have:es[j']? =some e' :=by simpa using k3
     rw[this];simp [k4]
    simp only[Instr.mapUpdate,Sem.run_bind,run_underlying u1,Result.andThen,jP h5,run_checkKey u2,hf,MU,xO,hk _ MU]
    simp [setObj,Sem.run,h5]
   ·unfold AJ7
    rw[<-k5,Array.toList_modify]
 obtain⟨es',ck',r1,r2⟩:=key
 let w' :World:={ w with heap:=w.heap.setIfInBounds (E.nm j).B_ (.map es' ck') }
 have CP:∀ b,b≠(E.nm j).B_->w'.heap[b]? =w.heap[b]? :=fun b hb=>by
  show (w.heap.setIfInBounds _ _)[b]? =_
  rw[ACJ,AD (fun h=>hb h.symm)]
 have DR:w'.heap[(E.nm j).B_]? =some (.map es' ck'):=by
  show (w.heap.setIfInBounds _ _)[_]? =_
  rw[ACJ,AB rfl,AB DM]
 have k1:=hG.change (w' :=w') (AO hL) ⟨rfl,rfl,rfl⟩ (by simp [w']) (fun _=>rfl) (e' := .map (W9 xs n b)) (m:=E.nm j) rfl
  (fun b _ hb=>CP b (fun he=>hb (by simp [AW.own,he])))
  (fun b hb=>by simp only[AW.own,AX] at hb;subst hb;exact⟨e4,e3⟩)
  (fun k f hk hf b hb he=>hG.inj k j f _ b hk hf hL hb (.inl he))
  (fun _=>⟨e1,e2,e3,e4,es',ck',DR,r2⟩)
 have hE:E.set j (E.nm j)=E:=by
  refine K8 (fun k=> ?_) rfl (fun _=>rfl)
  by_cases hk:k=j
  ·subst hk;rw[Env.EI]
  ·rw[Env.HG _ _ hk]
 rw[hE] at k1
 refine⟨w',E,.skip, ?_,.inr ⟨rfl,rfl⟩,⟨G,k1⟩,fun n hn=>⟨rfl,BU rfl n hn⟩,rfl,trivial⟩
 simp only[execOp,FU,hx,hi,hbd,SV.den]
 simp only[Sem.run_bind,r1,Result.andThen]
 rfl
theorem AJS {cx:Cx} (hcx:cx.Ok P) {o:Oper} {ρ:Operand->SV} (B9:∀ n e,AP n=some e->look L n=some e) {v:SV} {DD:C8} (h:ADO P cx AP o.dst ρ pr o.op=some (v,DD)):EN cx.tb P o ρ L v DD:=by
 generalize FU:o.op=op at h
 unfold ADO at h
 split at h
 ·split at h
  ·exact APA FU (by assumption) h
  ·exact AP8 FU B9 h
 ·exact AM6 FU B9 h
 ·exact AMA FU B9 h
 ·exact ATT FU B9 h
 ·split at h
  ·exact AM9 FU B9 h
  ·split at h
   ·exact AMD FU B9 h
   ·exact tR FU B9 h
 ·split at h
  ·exact APE FU B9 h
  ·exact wF FU B9 h
 ·exact AME FU B9 h
 ·exact AMF FU B9 h
 ·rename_i args ts
  split at h
  rotate_left
  ·cases h
  rename_i x t MX hts
  split at h
  rotate_left
  ·cases h
  rename_i e n hu hn
  simp only[pr,AX,DB] at h
  obtain⟨rfl,rfl⟩:=h
  refine BO fun c w E hH hw=> ?_
  obtain⟨a,k,hx⟩:=APM hH B9 hn
  refine⟨w,E,.value ((SV.int .i64 n).den E), ?_,.inl rfl,hH,fun n hn=>⟨rfl,hn⟩,rfl,trivial⟩
  have A3G :ts= #[t]:=by apply ZD;rw[hts]
  have jO :(args.map fun x=>(ρ x).den E)= #[.slice a n k]:=by
   apply ZD
   have:(args.toList.map ρ).map (SV.den E)=[.slice a n k]:=by rw[MX];simp [hx]
   rw[UN] at this
   rw[vX]
   exact this
  simp only[execOp,FU,resolve,invoke,Sem.run_bind,Sem.run_pure,Result.andThen,jO,A3G,builtin]
  simp [Builtin.len_,run_underlying hu,goInt,SV.den]
 ·rename_i args ts
  split at h
  ·rename_i x y MX
   split at h
   ·split at h
    ·exact AHC FU MX B9 h
    ·exact AHA FU MX B9 h
   ·exact AH8 FU MX B9 (by assumption) h
  ·cases h
 ·exact ADZ FU B9 h
 ·exact APO FU B9 h
 ·split at h
  rotate_left
  ·cases h
  rename_i a b hx hy
  split at h
  rotate_left
  ·cases h
  rename_i DR
  simp only[pr,AX,DB] at h
  obtain⟨rfl,rfl⟩:=h
  exact ATX FU hx hy B9 DR
 ·exact AHE FU B9 h
 ·exact AHF FU B9 h
 ·rename_i f args ts
  split at h
  rotate_left
  ·cases h
  rename_i n cs hf
  have hfd:=fun E=>ADF hf E
  split at h
  rotate_left
  ·split at h
   rotate_left
   ·cases h
   rename_i e he
   have fin:∀ q:Option DP,xtE e (args.toList.map ρ++cs)=some (q,v)->cnd q->DD=[]->EN cx.tb P o ρ L v DD:=by
    rintro q hq hc rfl
    refine BO fun c w E hH hw=>⟨w,E,_, ?_,.inl rfl,hH,fun n hn=>⟨rfl,hn⟩,rfl,AXV hq⟩
    rw[<-AXU (E:=E) w (hcx.2 n e he) (args.toList.map ρ++cs) q v hq hc]
    simp only[execOp,FU,resolve,invoke,Sem.run_bind,hfd,Deferred.ofValue,Sem.run_pure,Result.andThen]
    congr 2
    apply ZD
    simp [FB,sO]
   split at h
   ·rename_i u hq
    simp only[pr,AX,DB] at h
    obtain⟨rfl,rfl⟩:=h
    exact fin none hq trivial rfl
   ·rename_i q u hq
    have:=q.d
    by_cases hp:q.p
    ·simp only[hp,G4,pr,AX,DB] at h
     obtain⟨rfl,rfl⟩:=h
     exact fin (some q) hq hp rfl
    ·simp [hp] at h
   ·cases h
  rename_i fi hfi
  intro c w E hH hw a next Q ha hn
  show o.upon P a next Q ((execOp a.eval o).run P w)
  have JN:(execOp (fun x=>(ρ x).den E) o).run P w= .ok (.enter n (AL E (args.toList.map ρ++cs)).toArray) w:=by
   rw[<-(hcx.1 n fi hfi).1]
   simp only[execOp,FU,resolve,invoke,Sem.run_bind,hfd,Deferred.ofValue,Sem.run_pure,Result.andThen]
   congr 2
   apply ZD
   simp [FB,sO]
  rw[ha,JN]
  have n8:K6 E L (args.toList.map ρ++cs):=BW.2 fun v hv=>by
   rcases EY.1 hv with hv|hv
   ·obtain⟨x,_,rfl⟩:=C6.1 hv
    exact hw x
   ·exact BW.1 (AJA hf (hw f)) v hv
  refine (APG h (hcx.1 n fi hfi) B9 hH n8).mono ?_
  rintro e w' ⟨E',rfl,h1,h2,h3,h4⟩
  exact hn E' w' h1 h2 h3 h4
 ·cases h
theorem APP {E:Env} {t:TypeId} {cs:List SV} {off:Nat} {q:Option DP} {v:SV} (h:AD0 P t cs off=some (q,v)) (hw:K6 E L cs):v.wf E L:=by
 unfold AD0 at h
 repeat' split at h
 all_goals first|(cases h;done)|skip
 ·simp only[val,AX,DB] at h;rw[<-h.2];exact WK hw _ _
 ·rename_i hv
  simp only[val,AX,DB] at h;rw[<-h.2]
  exact BW.1 hw _ (ZO hv)
theorem ATY {E:Env} {ρ:Operand->SV} {op:Op} {q:Option DP} {v:SV} (h:bE P ρ op=some (q,v)) (hl:∀ x,(ρ x).wf E L):v.wf E L:=by
 have A55:∀ v:SV,(match v with| .int _ _| .u64 _| .bool _| .N1 _| .prop _ _| .str _| .QP _=>True|_=>False)->v.wf E L:=by
  intro v hv
  cases v <;> first|trivial|exact hv.elim
 cases op <;> simp only[bE] at h
 case move x=>simp only[val,AX,DB] at h;rw[<-h.2];exact hl x
 case assign x=>simp only[val,AX,DB] at h;rw[<-h.2];exact hl x
 case pick c a b=>
  split at h
  ·rename_i t _
   simp only[val,AX,DB] at h
   rw[<-h.2]
   cases t
   ·exact hl b
   ·exact hl a
  ·cases h
 case nilCheck x=>
  split at h
  ·rename_i i k sz off hx
   simp only[val,AX,DB] at h
   rw[<-h.2]
   have:=hl x
   rw[hx] at this
   exact this
  ·rename_i i off hx
   simp only[val,AX,DB] at h
   rw[<-h.2]
   have:=hl x
   rw[hx] at this
   exact this
  ·rename_i f cs hx
   simp only[val,AX,DB] at h
   rw[<-h.2]
   have:=hl x
   rw[hx] at this
   exact this
  ·cases h
 case makeFunc fn first captured=>
  split at h
  ·simp only[val,AX,DB] at h
   rw[<-h.2]
   exact BW.2 fun v hv=>by
    obtain⟨x,_,rfl⟩:=C6.1 hv
    exact hl x
  ·cases h
 case binOp op t x y _=>
  unfold AOJ ASW AAD shE AST ASU ASV nfE at h
  repeat' split at h
  all_goals first|(cases h;done)|(simp only[val,UP,AX,DB] at h;rw[<-h.2];trivial)
 case unOp op t x=>
  unfold unE at h
  repeat' split at h
  all_goals first|(cases h;done)|(simp only[val,AX,DB] at h;rw[<-h.2];trivial)
 case convert s d x=>
  unfold AJ4 at h
  repeat' split at h
  all_goals first|(cases h;done)|(simp only[val,UP,AX,DB] at h;rw[<-h.2];trivial)
 case extract x i=>
  unfold kZ at h
  repeat' split at h
  all_goals first|(cases h;done)|skip
  simp only[val,AX,DB] at h;rw[<-h.2]
  have:=hl x
  rw[‹ρ x=_›] at this
  exact BW.1 this _ (ZO (by assumption))
 case field t x f=>
  unfold AAE at h
  repeat' split at h
  all_goals first|(cases h;done)|skip
  have:=hl x
  rw[‹ρ x=_›] at this
  exact APP h this
 case build t parts=>
  have O0:∀ q∈(parts.toList.map fun q=>(q.1,ρ q.2)),q.2.wf E L:=by
   intro q hq
   obtain⟨y,_,rfl⟩:=C6.1 hq
   exact hl y.2
  unfold AAF at h
  repeat' split at h
  all_goals first|(cases h;done)|skip
  all_goals
   rename_i hf
   simp only[val,AX,DB] at h;rw[<-h.2]
   exact tQ _ _ _ hf (lP E (by assumption)) O0
 case indexAddr t x i=>
  unfold X6 at h
  repeat' split at h
  all_goals first|(cases h;done)|skip
  ·rename_i hx _ _ _
   simp only[UP,AX,DB] at h;rw[<-h.2]
   have:=hl x
   rw[‹ρ x=_›] at this
   exact this
  ·simp only[UP,AX,DB] at h;rw[<-h.2]
   trivial
 case fieldAddr t x f=>
  unfold X7 at h
  repeat' split at h
  all_goals first|(cases h;done)|skip
  all_goals
   simp only[val,AX,DB] at h;rw[<-h.2]
   have:=hl x
   rw[‹ρ x=_›] at this
   exact this
 case slice t x l hh m=>
  unfold AAG at h
  repeat' split at h
  all_goals first|(cases h;done)|(simp only[UP,AX,DB] at h;rw[<-h.2];trivial)
 case index t x i=>
  unfold AAH at h
  repeat' split at h
  all_goals first|(cases h;done)|(simp only[UP,AX,DB] at h;rw[<-h.2];trivial)
 case call c=>
  obtain⟨callee,args,ts⟩:=c
  cases callee with
  |builtin b=>
   dsimp only at h
   unfold k_ ASX at h
   repeat' split at h
   all_goals first|(cases h;done)|(simp only[val,UP,AX,DB] at h;rw[<-h.2];trivial)
  |_=>dsimp only at h;cases h
 all_goals cases h
theorem tZ {o:Oper} {ρ:Operand->SV} (B9:∀ n e,AP n=some e->look L n=some e) {x:Operand} (JN:∀ (E:Env) (w:World),(execOp (fun x=>(ρ x).den E) o).run P w= .ok (.value ((ρ x).den E)) w) {v:SV} {DD:C8}
  (h:lM AP (ρ x) pr=some (v,DD)):EN TB P o ρ L v DD:=by
 have pass:ρ x=v->DD=[]->EN TB P o ρ L v DD:=by
  rintro rfl rfl
  exact BO fun c w E hH hw=>⟨w,E,_,JN E w,.inl rfl,hH,fun n hn=>⟨rfl,hn⟩,rfl,hw x⟩
 unfold lM at h
 split at h
 rotate_left
 ·simp only[pr,AX,DB] at h
  exact pass h.1 h.2.symm
 rename_i i hx
 split at h
 rotate_left
 ·simp only[pr,AX,DB] at h
  exact pass (hx.trans h.1) h.2.symm
 rename_i t xss hh hl
 split at h
 rotate_left
 ·cases h
 rename_i ys u hc
 simp only[pr,AX,DB] at h
 obtain⟨rfl,rfl⟩:=h
 refine BO fun c w E hH hw=> ?_
 obtain⟨G,hG⟩:=hH
 obtain⟨E1,c1,c2,c3,c4,c5,c6,c7⟩:=eW B9 hG hl hc
 have h2:=c1.AAI c4
 have eu:AI L (u++ [(i,.shr (.slice t) ys)])=DE (AI L u) (i,.shr (.slice t) ys):=by rw[BM];rfl
 rw[eu]
 refine⟨w,E1,_,JN E w,.inl ?_,⟨_,h2⟩,fun n hn=>⟨c2 n,BU rfl n (c5 n hn)⟩,c3, ?_⟩
 ·rw[hx];simp only[SV.den,c2]
 ·exact⟨_,by rw[AZ (AO c4),AB rfl],rfl⟩
theorem AHG {o:Oper} {ρ:Operand->SV} (B9:∀ n e,AP n=some e->look L n=some e) {v:SV} {DD:C8} (h:QR AP ρ pr o.op=some (v,DD)):EN TB P o ρ L v DD:=by
 generalize FU:o.op=op at h
 unfold QR at h
 split at h
 ·rename_i x
  exact tZ B9 (fun E w=>by simp only[execOp,FU];rfl) h
 ·rename_i x
  exact tZ B9 (fun E w=>by simp only[execOp,FU];rfl) h
 ·cases h
theorem ATZ {cx:Cx} (hcx:cx.Ok P) {o:Oper} {ρ:Operand->SV} (B9:∀ n e,AP n=some e->look L n=some e) {v:SV} {DD:C8} (h:core P cx AP o.dst ρ pr o.op=some (v,DD)):EN cx.tb P o ρ L v DD:=by
 unfold core at h
 split at h
 ·exact AHG B9 h
 unfold core0 at h
 simp only[AJJ] at h
 have fin:∀ (q:Option DP),bE P ρ o.op=some (q,v)->cnd q->EN cx.tb P o ρ L v []:=by
  intro q hp hq
  refine BO fun c w E hH hw=> ?_
  exact⟨w,E,_,ALN (E:=E) w ρ o.op q v hp hq o rfl,.inl rfl,hH,fun n hn=>⟨rfl,hn⟩,rfl,ATY hp hw⟩
 cases hqq:(cx.keeps o.dst && Op.AJM o.op) with
 |true=>
  rw[hqq] at h
  exact AJS hcx B9 h
 |false=>
 rw[hqq] at h
 simp only at h
 split at h
 ·rename_i u hp
  simp only[pr,AX,DB] at h
  obtain⟨rfl,rfl⟩:=h
  exact fin _ hp trivial
 ·rename_i q u hp
  have:=q.d
  by_cases hq:q.p
  ·simp only[hq,G4,pr,AX,DB] at h
   obtain⟨rfl,rfl⟩:=h
   exact fin _ hp hq
  ·simp only[hq,QZ] at h;cases h
 ·exact AJS hcx B9 h
end
end Go.V3
namespace Go.V3
open Go
variable {TB:Tb}
def clean:SV->SV
 | .nF _=>AV
 |v=>v
def evc (fr:List SV) (x:Operand):SV:=clean (ev fr x)
def yU:SV->Bool
 | .nF _=>true
 |_=>false
def AJT (fr:List SV) (op:Op):Bool:=op.operands.toList.all fun x=> !(yU (ev fr x))
def bP (all:List Oper) (o:Oper) (fr:List SV):Option Bool:=
 match o.guard with
 |none=>some true
 |some (j,want)=>(match all[j]? with
  |none=>none
  |some oj=>(match oj.dst with
   |none=>none
   |some t=>(match fr.getD t AV with
    | .N1 b=>some (b==want)
    | .raw (.tuple _)=>some false
    |_=>none)))
def AXW (all:List Oper) (k:Nat):Bool:=all.any fun o=>match o.guard with
 |some (j,_)=>j==k
 |none=>false
section
variable {α:Type}
def AB1 (v:SV) (F:Bool->Option α):Option α:=
 match v with
 | .N1 b=>F b
 | .bool b=>if b=true then F true else F false
 | .prop p d=> @ite _ p d (F true) (F false)
 |_=>none
def bQ (P:Program) (cx:Cx) (all:List Oper) (o:Oper) (k:Nat) (fr:List SV) (AP:Nat->Option AW) (K:SV->C8->Option α):Option α:=
 match bP all o fr with
 |none=>none
 |some false=>K AV []
 |some true=>(match AJT fr o.op with
  |false=>none
  |true=>core P cx AP o.dst (evc fr) (match AXW all k with
   |true=>fun v u=>AB1 v (fun b=>K (.N1 b) u)
   |false=>K) o.op)
def APQ (P:Program) (cx:Cx) (all:List Oper):List Oper->Nat->List SV->AK->(List SV->AK->Option α)->Option α
 | [],_,fr,L,K=>K fr L
 |o::r,k,fr,L,K=>bQ P cx all o k fr (look L) (fun v u=>APQ P cx all r (k+1) (Q0 fr o.dst v) (AI L u) K)
end
theorem pQ {α:Type} {v:SV} {F:Bool->Option α} {a:α} (h:AB1 v F=some a):∃ b,toB v=some b/\F b=some a:=by
 unfold AB1 at h
 split at h
 ·exact⟨_,rfl,h⟩
 ·rename_i b;cases b
  ·exact⟨false,rfl,h⟩
  ·exact⟨true,rfl,h⟩
 ·rename_i p d
  by_cases hp:p
  ·simp only[hp,G4] at h;exact⟨true,by simp [toB,hp],h⟩
  ·simp only[hp,QZ] at h;exact⟨false,by simp [toB,hp],h⟩
 ·cases h
theorem t_ {α:Type} {P:Program} {cx:Cx} {all:List Oper} {o:Oper} {k:Nat} {fr:List SV} {AP:Nat->Option AW} {K:SV->C8->Option α} {a:α} (h:bQ P cx all o k fr AP K=some a):
  ∃ v u,K v u=some a/\bQ P cx all o k fr AP pr=some (v,u):=by
 unfold bQ at h ⊢
 split at h
 ·cases h
 ·exact⟨AV,[],h,rfl⟩
 ·split at h
  ·cases h
  ·cases hs:AXW all k with
   |false=>
    rw[hs] at h
    simp only at h ⊢
    rw[lN,ACH] at h
    obtain⟨⟨v,u⟩,h1,h2⟩:=h
    exact⟨v,u,h2,h1⟩
   |true=>
    rw[hs] at h
    simp only at h ⊢
    rw[lN,ACH] at h
    obtain⟨⟨v,u⟩,h1,h2⟩:=h
    obtain⟨b,hb,h3⟩:=pQ h2
    refine⟨.N1 b,u,h3, ?_⟩
    rw[lN,h1]
    simp only[BC]
    cases v <;> simp only[toB,AX,reduceCtorEq] at hb
    ·subst hb;rename_i b;cases b <;> rfl
    ·subst hb;rfl
    ·subst hb
     rename_i p d
     by_cases hp:p <;> simp [AB1,hp,pr]
def uA (E:Env) (L:AK) (fr:List SV):Prop:=∀ t,(fr.getD t AV).wf E L\/fr.getD t AV= .nF t
structure St (c:DW TB) (E:Env) (fr:List SV) (L:AK) (a:Act) (w:World):Prop where
 q_:Sim E fr a
 hd:Hd c w E L
 wf:uA E L fr
def ZV (L L' :AK):Prop:=L'.length=L.length/\∀ (n v:Nat) (e:AW) (v' :Nat) (e' :AW),L[n]? =some (v,e)->L'[n]? =some (v',e')->v<=v' /\(v' =v->e' =e)
theorem ZV.refl (L:AK):ZV L L:=⟨rfl,fun n v e v' e' h h' =>by rw[h] at h';simp only[AX,DB] at h';obtain⟨rfl,rfl⟩:=h';exact⟨EL _,fun _=>rfl⟩⟩
theorem ZV.trans {A B C:AK} (h:ZV A B) (k:ZV B C):ZV A C:=by
 refine⟨k.1.trans h.1,fun n v e v' e' h1 h2=> ?_⟩
 have DM:n<A.length:=by
  rcases GS n A.length with h|h
  ·exact h
  ·rw[T3 h] at h1;cases h1
 obtain⟨bv,be,hb⟩:∃ bv be,B[n]? =some (bv,be):=⟨_,_,NH (by rw[h.1];exact DM)⟩
 obtain⟨a1,a2⟩:=h.2 n v e _ _ h1 hb
 obtain⟨b1,b2⟩:=k.2 n _ _ v' e' hb h2
 refine⟨WZ a1 b1,fun he=> ?_⟩
 have e1:bv=v:=by omega
 rw[b2 (by omega),a2 e1]
theorem ZV.DE (L:AK) (q:Nat×AW):ZV L (DE L q):=by
 refine⟨F5 _ _,fun n v e v' e' h1 h2=> ?_⟩
 unfold V3.DE at h2
 split at h2
 ·rename_i v0 e0 hq
  rw[sH] at h2
  split at h2
  ·rename_i hn
   subst hn
   rw[h1] at hq
   simp only[AX,DB] at hq
   obtain⟨rfl,rfl⟩:=hq
   split at h2
   ·simp only[AX,DB] at h2
    exact⟨by omega,fun he=>by omega⟩
   ·cases h2
  ·rw[h1] at h2
   simp only[AX,DB] at h2
   obtain⟨rfl,rfl⟩:=h2
   exact⟨EL _,fun _=>rfl⟩
 ·rw[h1] at h2
  simp only[AX,DB] at h2
  obtain⟨rfl,rfl⟩:=h2
  exact⟨EL _,fun _=>rfl⟩
theorem ZV.AI (L:AK) (u:C8):ZV L (AI L u):=by
 induction u generalizing L with
 |nil=>exact .refl _
 |cons q r ih=>exact (ZV.DE L q).trans (ih _)
structure Ext (W:List Nat) (E0:Env) (fr0:List SV) (L0:AK) (E:Env) (fr:List SV) (L:AK):Prop where
 nm:∀ n,Al L0 n->E.nm n=E0.nm n/\Al L n
 ds:∀ t,t∉W->E.ds t=E0.ds t
 rA:ZV L0 L
 len:fr.length=fr0.length
 out:∀ t,t∉W->fr.getD t AV=fr0.getD t AV
theorem Ext.refl (W:List Nat) (E:Env) (fr:List SV) (L:AK):Ext W E fr L E fr L:=⟨fun _ h=>⟨rfl,h⟩,fun _ _=>rfl,.refl _,rfl,fun _ _=>rfl⟩
theorem Ext.trans {W:List Nat} {E0 E1 E2:Env} {f0 f1 f2:List SV} {L0 L1 L2:AK} (h:Ext W E0 f0 L0 E1 f1 L1) (k:Ext W E1 f1 L1 E2 f2 L2):Ext W E0 f0 L0 E2 f2 L2:=
 ⟨fun n hn=>by obtain⟨a,b⟩:=h.nm n hn;obtain⟨c,d⟩:=k.nm n b;exact⟨c.trans a,d⟩,fun t ht=>(k.ds t ht).trans (h.ds t ht),h.rA.trans k.rA,k.len.trans h.len,fun t ht=>(k.out t ht).trans (h.out t ht)⟩
theorem Ext.mono {W W' :List Nat} {E0 E1:Env} {f0 f1:List SV} {L0 L1:AK} (h:Ext W E0 f0 L0 E1 f1 L1) (hs:∀ t,t∈W->t∈W'):Ext W' E0 f0 L0 E1 f1 L1:=
 ⟨h.nm,fun t ht=>h.ds t (fun hx=>ht (hs t hx)),h.rA,h.len,fun t ht=>h.out t (fun hx=>ht (hs t hx))⟩
theorem EZ (fr:List SV) (t k:Nat) (v:SV):(fr.set t v).getD k AV=if t=k/\t<fr.length then v else fr.getD k AV:=by
 simp only[List.getD,sH]
 by_cases h:t=k
 ·subst h
  by_cases h2:t<fr.length
  ·simp [h2]
  ·simp [h2]
 ·simp [h]
theorem bR {E E' :Env} {L L' :AK} {fr:List SV} (hf:uA E L fr) (hnm:∀ n,Al L n->E'.nm n=E.nm n/\Al L' n) (hds:E'.ds=E.ds):AL E' fr=AL E fr/\uA E' L' fr:=by
 have key:∀ t,(fr.getD t AV).den E' =(fr.getD t AV).den E/\((fr.getD t AV).wf E' L' \/fr.getD t AV= .nF t):=by
  intro t
  rcases hf t with h|h
  ·obtain⟨h1,h2⟩:=X_ (fun n hn=>(hnm n hn).2) (fun n hn=>(hnm n hn).1) _ h
   exact⟨h2,.inl h1⟩
  ·exact⟨by rw[h];simp only[SV.den,hds],.inr h⟩
 refine⟨?_,fun t=>(key t).2⟩
 apply VM
 intro i
 rw[FJ,FJ]
 by_cases hi:i<fr.length
 ·have:=(key i).1
  simp only[List.getD,NH hi,xO] at this
  rw[NH hi]
  simp [this]
 ·rw[T3 (by omega)];rfl
theorem uA.put {E:Env} {L:AK} {fr:List SV} (h:uA E L fr) (d:Option Tmp) {v:SV} (hv:v.wf E L):uA E L (Q0 fr d v):=by
 cases d with
 |none=>exact h
 |some d=>
  intro t
  simp only[Q0,EZ]
  split
  ·exact .inl hv
  ·exact h t
theorem lR (E:Env) (L:AK):AV.wf E L:=trivial
theorem A0T {E:Env} {L:AK} {fr:List SV} (h:uA E L fr) (x:Operand):(evc fr x).wf E L:=by
 unfold evc
 cases x with
 |tmp t=>
  show (clean (fr.getD t AV)).wf E L
  rcases h t with h|h
  ·cases hx:fr.getD t AV <;> first|(rw[hx] at h;exact h)|(rw[hx] at h;exact h.elim)
  ·rw[h];exact lR _ _
 |const v=>
  simp only[ev]
  split
  all_goals first|trivial|(split <;> trivial)
 |global g=>trivial
 |func f=>trivial
section
variable {P:Program} {ops:Array Oper} {Q:Exit->Act->World->Prop}
theorem AHH {E:Env} {fr:List SV} {a:Act} (hs:Sim E fr a) {j t:Nat} {oj:Oper} {b:Bool} (hj:ops.toList[j]? =some oj) (hd:oj.dst=some t) (hv:fr.getD t AV= .N1 b):yielded ops a.tmps j=some b:=by
 have eX :ops[j]? =some oj:=by rw[<-iX];exact hj
 have ht:a.tmps[t]? =some (.bool b):=by
  rw[hs.1,sE,FJ]
  cases hx:fr[t]? with
  |none=>simp [List.getD,hx,AV] at hv
  |some v=>simp [List.getD,hx] at hv;simp [hv,SV.den]
 simp [yielded,eX,hd,ht]
theorem AE0 {E:Env} {fr:List SV} {a:Act} (hs:Sim E fr a) {j t:Nat} {oj:Oper} {vs:Array Value} (hj:ops.toList[j]? =some oj) (hd:oj.dst=some t) (hv:fr.getD t AV= .raw (.tuple vs)):yielded ops a.tmps j=none:=by
 have eX :ops[j]? =some oj:=by rw[<-iX];exact hj
 unfold yielded
 rw[eX]
 simp only[BC,hd,hs.1,sE,FJ]
 cases hx:fr[t]? with
 |none=>rfl
 |some v=>simp [List.getD,hx] at hv;simp [hv,SV.den]
theorem yV {E:Env} {fr:List SV} {a:Act} (hs:Sim E fr a) {o:Oper} {b:Bool} (h:bP ops.toList o fr=some b):Region.wanted o (yielded ops a.tmps)=b:=by
 unfold bP at h
 unfold Region.wanted
 split at h
 ·rename_i hg
  simp only[AX] at h
  rw[hg];exact h
 ·rename_i j want hg
  rw[hg]
  simp only
  split at h
  ·cases h
  ·rename_i oj hj
   split at h
   ·cases h
   ·rename_i t hd
    split at h
    ·rename_i b' hv
     simp only[AX] at h
     rw[AHH hs hj hd hv,←h]
     cases b' <;> cases want <;> rfl
    ·rename_i vs hv
     simp only[AX] at h
     rw[AE0 hs hj hd hv,←h];rfl
    ·cases h
theorem AJU {cx:Cx} (hcx:cx.Ok P) {o:Oper} {i k:Nat} (ho:ops[i]? =some o) {c:DW cx.tb} {E:Env} {fr:List SV} {L:AK} {a:Act} {w:World} (hst:St c E fr L a w) {AP:Nat->Option AW} (B9:∀ n e,AP n=some e->look L n=some e)
  {v:SV} {u:C8} (h:bQ P cx ops.toList o k fr AP pr=some (v,u)) {K:Act->World->Prop}
  (hK:∀ E' a' w',St c E' (Q0 fr o.dst v) (AI L u) a' w' ->(∀ n,Al L n->E'.nm n=E.nm n/\Al (AI L u) n)->E'.ds=E.ds->K a' w'):wpOp P ops Q i K a w:=by
 unfold wpOp
 rw[ho]
 simp only
 unfold bQ at h
 split at h
 ·cases h
 ·rename_i hg
  simp only[pr,AX,DB] at h
  obtain⟨rfl,rfl⟩:=h
  rw[yV hst.q_ hg]
  simp only[VL,QZ]
  exact hK E _ w ⟨hst.q_.put o.dst AV,hst.hd,hst.wf.put o.dst (lR _ _)⟩ (fun n hn=>⟨rfl,hn⟩) rfl
 ·rename_i hg
  rw[yV hst.q_ hg]
  simp only[G4]
  refine .inl ?_
  split at h
  ·cases h
  rename_i hnu
  obtain⟨v0,APR,hvv⟩:∃ v0,core P cx AP o.dst (evc fr) pr o.op=some (v0,u)/\(∀ E:Env,v.den E=v0.den E)/\(∀ E L,v0.wf E L->v.wf E L):=by
   cases hs:AXW ops.toList k with
   |false=>rw[hs] at h;exact⟨v,h,fun _=>rfl,fun _ _ h=>h⟩
   |true=>
    rw[hs] at h
    simp only at h
    rw[lN,ACH] at h
    obtain⟨⟨v0,u0⟩,h1,h2⟩:=h
    obtain⟨b,hb,h3⟩:=pQ h2
    simp only[pr,AX,DB] at h3
    obtain⟨rfl,rfl⟩:=h3
    exact⟨v0,h1,fun E=>by rw[T7 hb];rfl,fun _ _ _=>trivial⟩
  have A3H:∀ cs b,o.op≠ .select cs b:=by
   intro cs b he
   rw[he] at APR
   cases hfz:cx.ATI o.dst <;> (cases hkq:(cx.keeps o.dst && Op.AJM (Op.select cs b)) <;> simp [core,core0,QR,hfz,bE,ADO,Op.AJM] at APR hkq)
  obtain⟨G,hG⟩:=hst.hd
  refine ATZ hcx B9 APR c w E ⟨G,hG⟩ (fun x=>A0T hst.wf x) a _ Q ?_ ?_
  ·refine execOp_congr o A3H fun x hx=> ?_
   rw[UO hst.q_ x]
   have:=JV.1 hnu x (by simpa using hx)
   unfold evc
   cases hv:ev fr x <;> first|rfl|(rw[hv] at this;simp [yU] at this)
  ·intro E' w' hH hnm hds pF
   obtain⟨d1,d2⟩:=bR hst.wf hnm hds
   have hs' :Sim E' fr a:=⟨by rw[hst.q_.1,d1],hst.q_.2⟩
   refine hK E' _ w' ⟨?_,hH,d2.put o.dst (hvv.2 _ _ pF)⟩ hnm hds
   rw[<-hvv.1 E']
   exact hs'.put o.dst v
theorem AJV {W:List Nat} {fr:List SV} {d:Option Tmp} {v:SV} (h:∀ t,d=some t->t∈W):∀ t,t∉W->(Q0 fr d v).getD t AV=fr.getD t AV:=by
 intro t ht
 cases d with
 |none=>rfl
 |some d=>
  simp only[Q0,EZ]
  rw[AD]
  rintro⟨rfl,_⟩
  exact ht (h d rfl)
theorem pR (fr:List SV) (d:Option Tmp) (v:SV):(Q0 fr d v).length=fr.length:=by cases d <;> simp [Q0]
theorem AE1 {α:Type} {cx:Cx} (hcx:cx.Ok P) {W:List Nat} {c:DW cx.tb} {fr0:List SV} {L0:AK} {E0:Env} {K:List SV->AK->Option α} {r0:α}
  (hK:∀ E' fr' L' a' w',St c E' fr' L' a' w' ->Ext W E0 fr0 L0 E' fr' L' ->K fr' L' =some r0->Q .normal a' w'):
  ∀ (rest:List Oper) (k:Nat),ops.toList.drop k=rest->(∀ o∈rest,∀ d,o.dst=some d->d∈W)->∀ (E:Env) (fr:List SV) (L:AK) (a:Act) (w:World),St c E fr L a w->Ext W E0 fr0 L0 E fr L→
   APQ P cx ops.toList rest k fr L K=some r0->wpOps P ops Q (List.range' k rest.length) a w
 | [],k,_,_,E,fr,L,a,w,hst,LV,hv=>hK E fr L a w hst LV hv
 |o::rest,k,hd,hW,E,fr,L,a,w,hst,LV,hv=>by
  have QQ:ops[k]? =some o:=by
   rw[<-iX]
   have:=MS (fun l=>l[0]?) hd
   simpa [aX] using this
  have hd' :ops.toList.drop (k+1)=rest:=by
   have:=MS (List.drop 1) hd
   simpa [ACV,Nat.add_comm] using this
  obtain⟨v,u,h1,h2⟩:=t_ hv
  show wpOps P ops Q (k::List.range' (k+1) rest.length) a w
  rw[wpOps_cons]
  refine AJU hcx QQ hst (fun n e h=>h) h2 fun E' a' w' uB hnm hds=> ?_
  refine AE1 hcx hK rest (k+1) hd' (fun o' ho' =>hW o' (by simp [ho'])) E' _ _ a' w' uB (LV.trans ?_) h1
  exact⟨hnm,fun t _=>by rw[hds],ZV.AI L u,pR _ _ _,AJV fun t ht=>hW o (by simp) t ht⟩
end
end Go.V3
