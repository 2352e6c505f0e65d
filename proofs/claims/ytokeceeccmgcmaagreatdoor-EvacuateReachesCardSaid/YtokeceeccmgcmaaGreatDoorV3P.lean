import Derived.Test.YtokeceeccmgcmaaGreatDoorV3J
import Derived.LoopN
import Derived.ProofKit
import Derived.OpenShut
import Derived.ChangeOld
import Derived.Below
import Derived.LaidMore
import Derived.MakeChecks
import Derived.Stop.Joined
import Derived.Test.YtokeceeccmgcmaaGreatDoorProg
import Derived.Test.YtokeceeccmgcmaaGreatDoorChecked
import Derived.KernelRfl
set_option linter.unusedVariables false
set_option linter.unusedSimpArgs false
namespace Go.V3
open Go
variable {TB:Tb}
def SF (o:Oper):List Nat:=(o.after.toList.filter (Region.binds .any)).map (·.on)
def AHC (ops:List Oper):Nat->List Nat->List Nat->List Nat
 |0,_,seen=>seen
 |_+1,[],seen=>seen
 |n+1,i::todo,seen=>if seen.contains i then AHC ops n todo seen else match ops[i]? with
  |some o=>AHC ops n (SF o++todo) (i::seen)
  |none=>AHC ops n todo seen
def AN2 (ops:List Oper) (o:Oper):List Nat:=AHC ops 4000 (SF o) []
def aC (all:List Oper) (o:Oper):List Nat:=
 (o.op.operands.toList.filterMap fun| .tmp t=>some t|_=>none)++(match o.guard with
  |some (g,_)=>(match all[g]? with
   |some oj=>oj.dst.toList
   |none=>[])
  |none=>[])
mutual
def ASX:SV->List Nat
 | .loc i _=>[i]
 | .el i _ _ _=>[i]
 | .NT i=>[i]
 | .sub i _ _ _=>[i]
 | .agg cs=>yF cs
 | .tup vs=>yF vs
 | .mpv i=>[i]
 | .tsl i _ _=>[i]
 | .tel i _ _ _=>[i]
 | .clo _ cs=>yF cs
 |_=>[]
def yF:List SV->List Nat
 | []=>[]
 |v::r=>ASX v++yF r
end
def XY (fr:List SV) (o:Oper):List Nat:=o.op.operands.toList.flatMap fun x=>ASX (evc fr x)
def WB (AQ:Nat->Option A9) (i:Nat):List Nat:=match AQ i with
 |some (.box cs)=>yF cs
 |some (.deep _ _ (some (_,j)))=>[j]
 |_=>[]
def A3Y:Op->Bool
 | .move _=>true
 | .assign _=>true
 |_=>false
def ZA (fr:List SV):Op->Bool
 | .load _ x=>(match evc fr x with
  | .loc _ _=>true
  |_=>false)
 | .fieldAddr _ x _=>(match evc fr x with
  | .loc _ _=>true
  |_=>false)
 | .nilCheck x=>(match evc fr x with
  | .loc _ _=>true
  |_=>false)
 |_=>false
def ZB (fr:List SV):Op->Bool
 | .call { callee:= .value f,.. }=>(match evc fr f with
  | .clo _ _=>true
  |_=>false)
 |_=>false
def QJ (cx:Cx) (fr:List SV) (AQ:Nat->Option A9) (o:Oper):List Nat:=match A3Y o.op && !cx.AWL o.dst with
 |true=>[]
 |false=>XY fr o++(match ZA fr o.op with
  |true=>[]
  |false=>(XY fr o).flatMap (WB AQ)++(match ZB fr o.op with
   |true=>((XY fr o).flatMap (WB AQ)).flatMap (WB AQ)
   |false=>[]))++(List.range (cx.IA o.dst).2).map fun k=>(cx.IA o.dst).1+k
def uI (ft:List Nat) (AQ:Nat->Option A9) (n:Nat):Option A9:=match ft.contains n with
 |true=>AQ n
 |false=>none
structure Met where
 i:Nat
 dst:Option Nat
 lks:List Nat
 rd:List Nat
 wr:List Nat
def sD (x y:Met):Bool:=
 (match x.dst with
 |some d=> !y.lks.contains d && !(y.dst==some d)
 |none=>true) && (match y.dst with
 |some d=> !x.lks.contains d
 |none=>true) && x.wr.all (fun n=> !y.rd.contains n && !y.wr.contains n) && y.wr.all (fun n=> !x.rd.contains n)
section
variable {α:Type}
def A16 (P:Program) (cx:Cx) (all:List Oper):List Oper->Nat->List Met->List SV->AM->(List SV->AM->Option α)->Option α
 | [],_,_,fr,L,K=>K fr L
 |o::r,k,acc,fr,L,K=>eJ P cx all o k fr (uI (QJ cx fr (look L) o) (look L)) (fun v u=>
  match acc.all (fun q=>(AN2 all o).contains q.i||sD q ⟨k,o.dst,aC all o,QJ cx fr (look L) o,u.map (·.1)⟩) with
  |true=>A16 P cx all r (k+1) (⟨k,o.dst,aC all o,QJ cx fr (look L) o,u.map (·.1)⟩::acc) (SM fr o.dst v) (AJ L u) K
  |false=>none)
end
def AHD (all:List Oper):List Oper->Nat->Bool
 | [],_=>true
 |o::r,k=>(SF o).all (fun j=>decide (j<k)) && AHD all r (k+1)
def sst (P:Program) (cx:Cx) (all:List Oper) (i:Nat) (s:List SV×AM):Option ((List SV×AM)×Met):=
 match all[i]? with
 |none=>none
 |some o=>match eJ P cx all o i s.1 (uI (QJ cx s.1 (look s.2) o) (look s.2)) pr with
  |some (v,u)=>some ((SM s.1 o.dst v,AJ s.2 u),⟨i,o.dst,aC all o,QJ cx s.1 (look s.2) o,u.map (·.1)⟩)
  |none=>none
def Run (P:Program) (cx:Cx) (all:List Oper):List Nat->List SV×AM->List SV×AM->List Met->Prop
 | [],s,s',fs=>s' =s/\fs=[]
 |i::l,s,s',fs=>∃ s1 f v9,sst P cx all i s=some (s1,f)/\Run P cx all l s1 s' v9 /\fs=f::v9
def AX3 (all:List Oper) (x y:Met):Prop:=(∃ o,all[y.i]? =some o/\x.i∈AN2 all o)\/sD x y=true
section
variable {P:Program} {cx:Cx} {all:List Oper}
theorem AHE {α:Type} {K:List SV->AM->Option α} {r0:α}:∀ (rest:List Oper) (k:Nat) (acc:List Met) (fr:List SV) (L:AM),all.drop k=rest->A16 P cx all rest k acc fr L K=some r0→
  ∃ s' fs,Run P cx all (List.range' k rest.length) (fr,L) s' fs/\K s'.1 s'.2=some r0/\fs.Pairwise (AX3 all)/\∀ q∈acc,∀ f∈fs,AX3 all q f
 | [],k,acc,fr,L,_,h=>⟨(fr,L),[],⟨rfl,rfl⟩,h,List.Pairwise.nil,fun _ _ _ hf=>by cases hf⟩
 |o::rest,k,acc,fr,L,hd,h=>by
  have ZZ:all[k]? =some o:=by
   have:=KL (fun l=>l[0]?) hd
   simpa [dM] using this
  have hd' :all.drop (k+1)=rest:=by
   have:=KL (List.drop 1) hd
   simpa [ABL,AG9] using this
  obtain⟨v,u,h1,h2⟩:=yD h
  split at h1
  rotate_left
  ·cases h1
  rename_i AX4
  obtain⟨s',fs,r1,r2,r3,r4⟩:=AHE rest (k+1) _ _ _ hd' h1
  refine⟨s',⟨k,o.dst,aC all o,QJ cx fr (look L) o,u.map (·.1)⟩::fs,⟨(SM fr o.dst v,AJ L u),⟨k,o.dst,aC all o,QJ cx fr (look L) o,u.map (·.1)⟩,fs, ?_,r1,rfl⟩,r2, ?_, ?_⟩
  ·simp only[sst,ZZ,h2]
  ·exact List.Pairwise.cons (fun f hf=>r4 _ (by simp) f hf) r3
  ·intro q hq f hf
   rcases GH.1 hf with rfl|hf
   ·have:=KI.1 AX4 q hq
    rcases oF _ _ ▸ this with h|h
    ·exact .inl ⟨o,ZZ,by simpa using h⟩
    ·exact .inr h
   ·exact r4 q (by simp [hq]) f hf
variable {α:Type}
theorem AKL {AQ:Nat->Option A9} {dst:Option Tmp} {ρ ρ' :Operand->SV} {K:SV->DN->Option α} {op:Op} (h:∀ x∈op.operands.toList,ρ x=ρ' x):core P cx AQ dst ρ K op=core P cx AQ dst ρ' K op:=by
 have AZ6:∀ ps:Array (Nat×Operand),(∀ x∈ps.toList.map (·.2),ρ x=ρ' x)->(ps.toList.map fun q=>(q.1,ρ q.2))=(ps.toList.map fun q=>(q.1,ρ' q.2)):=fun ps hp=>
  W9 fun p hm=>by
   obtain⟨i,x⟩:=p
   simp only[hp x (DH.2 ⟨(i,x),hm,rfl⟩)]
 have hfz:SE AQ ρ K op=SE AQ ρ' K op:=by
  cases op <;> simp only[Op.operands] at h <;> simp only[SE]
  all_goals rw[h _ (by simp)]
 unfold core
 rw[hfz]
 split
 ·rfl
 unfold core0
 cases op <;> simp only[Op.operands] at h <;> simp only[dX,AGZ]
 case build t ps=>rw[AZ6 ps fun x hx=>h x (by simpa using hx)]
 case buildSlice t n ps=>rw[AZ6 ps fun x hx=>h x (by simpa using hx)]
 case call c=>
  obtain⟨callee,args,ts⟩:=c
  have M8:args.toList.map ρ=args.toList.map ρ' :=W9 fun x hx=>h x (by simp [Call.operands];exact .inr (by simpa using hx))
  cases callee with
  |builtin b=>cases b <;> simp only[M8]
  |value f=>
   have hf:ρ f=ρ' f:=h f (by simp [Call.operands])
   simp only[hf,M8]
  |_=>rfl
 case slice t x lo hi mx=>cases lo <;> cases hi <;> cases mx <;> simp_all
 case makeFunc fn first captured=>
  have hc:captured.toList.map ρ=captured.toList.map ρ' :=W9 fun x hx=>h x (by simp;exact .inr (by simpa using hx))
  simp only[hc]
 case makeMap t r=>cases r <;> rfl
 case binOp op t x y rt=>
  have hx:ρ x=ρ' x:=h x (by simp)
  have hy:ρ y=ρ' y:=h y (by simp)
  cases op <;> simp only[hx,hy]
 all_goals first|rfl|(simp_all;done)
variable {d:Option Tmp}
theorem ASY {fr:List SV} {v:SV} {x:Operand} (h:∀ t,d=some t->x≠ .tmp t):ev (SM fr d v) x=ev fr x:=by
 cases d with
 |none=>rfl
 |some d=>
  cases x with
  |tmp t=>
   show (fr.set d v).getD t BK=fr.getD t BK
   rw[Y_,AE]
   rintro⟨rfl,_⟩
   exact h d rfl rfl
  |_=>rfl
theorem APL {fr:List SV} {x y:Option Tmp} {u v:SV} (h:∀ d,x=some d->y≠some d):SM (SM fr x u) y v=SM (SM fr y v) x u:=by
 cases x with
 |none=>rfl
 |some d=>
  cases y with
  |none=>rfl
  |some e=>
   have CW:d≠e:=fun he=>h d rfl (he ▸ rfl)
   simp [SM,List.set_comm _ _ CW]
variable {n:Nat} {L:AM}
theorem IB {u:DN} (h:n∉u.map (·.1)):look (AJ L u) n=look L n/\(AJ L u)[n]? =L[n]? :=by
 induction u generalizing L with
 |nil=>exact⟨rfl,rfl⟩
 |cons q r ih=>
  simp only[JS,GH,not_or] at h
  obtain⟨i1,i2⟩:=ih (L:=DW L q) h.2
  have hu:(DW L q)[n]? =L[n]? :=by
   unfold DW
   split
   ·rw[ALU (fun he=>h.1 he.symm)]
   ·rfl
  have e2:(AJ L (q::r))[n]? =L[n]? :=i2.trans hu
  exact⟨by unfold look;rw[e2],e2⟩
variable {L':AM}
theorem AHF {u:DN} (h:L[n]? =L'[n]?):(AJ L u)[n]? =(AJ L' u)[n]? :=by
 induction u generalizing L L' with
 |nil=>exact h
 |cons q r ih=>
  refine ih (L:=DW L q) (L' :=DW L' q) ?_
  by_cases hn:q.1=n
  ·subst hn
   unfold DW
   rw[<-h]
   cases hx:L[q.1]? with
   |none=>simp only;rw[hx,←h,hx]
   |some p=>
    obtain⟨v,e⟩:=p
    simp only
    have h1:q.1<L.length:=by
     rcases IG q.1 L.length with h' |h'
     ·exact h'
     ·rw[IF h'] at hx;cases hx
    have h2:q.1<L'.length:=by
     rcases IG q.1 L'.length with h' |h'
     ·exact h'
     ·rw[h,IF h'] at hx;cases hx
    rw[ALP h1,ALP h2]
  ·have e:∀ L:AM,(DW L q)[n]? =L[n]? :=by
    intro L
    unfold DW
    split
    ·rw[ALU hn]
    ·rfl
   rw[e,e,h]
theorem APM {u v:DN} (h:∀ n∈u.map (·.1),n∉v.map (·.1)):AJ (AJ L u) v=AJ (AJ L v) u:=by
 apply XA
 intro n
 by_cases hu:n∈u.map (·.1)
 ·have hv:=h n hu
  rw[(IB hv).2]
  exact AHF ((IB hv).2).symm
 ·rw[(IB hu).2]
  exact AHF (IB hu).2
theorem AHG {ft:List Nat} {f g:Nat->Option A9} (h:∀ n∈ft,f n=g n):uI ft f=uI ft g:=by
 funext n
 unfold uI
 cases hc:ft.contains n with
 |true=>exact h n (by simpa using hc)
 |false=>rfl
variable {o:Oper}
theorem APN {t:Nat} (h:Operand.tmp t∈o.op.operands.toList):t∈aC all o:=FG.2 (.inl (ALX.2 ⟨.tmp t,h,rfl⟩))
variable {fr':List SV}
theorem ACE {i:Nat} (ho:all[i]? =some o) {fr:List SV} (hev:∀ x∈o.op.operands.toList,ev fr' x=ev fr x) (hg:eI all o fr' =eI all o fr) (hL:∀ n∈QJ cx fr (look L) o,look L' n=look L n):
  QJ cx fr' (look L') o=QJ cx fr (look L) o∧
   eJ P cx all o i fr' (uI (QJ cx fr' (look L') o) (look L')) pr=eJ P cx all o i fr (uI (QJ cx fr (look L) o) (look L)) pr:=by
 have hd:XY fr' o=XY fr o:=by
  unfold XY
  rw[ABH,ABH]
  congr 1
  apply W9
  intro x hx
  simp only[evc,hev x hx]
 have hf:QJ cx fr' (look L') o=QJ cx fr (look L) o:=by
  cases hm:A3Y o.op && !cx.AWL o.dst with
  |true=>unfold QJ;rw[hm]
  |false=>
   have hbl:ZA fr' o.op=ZA fr o.op:=by
    unfold ZA
    cases GJ:o.op <;> try rfl
    all_goals rw[GJ] at hev
    all_goals simp only[evc]
    all_goals rw[hev _ (by simp [Op.operands])]
   have hcc:ZB fr' o.op=ZB fr o.op:=by
    unfold ZB
    cases GJ:o.op <;> try rfl
    rename_i cl
    obtain⟨cal,args,ats⟩:=cl
    cases cal <;> try rfl
    rename_i f
    rw[GJ] at hev
    simp only[evc]
    rw[hev f (by simp [Op.operands,Go.Call.operands])]
   unfold QJ
   rw[hm,hd,hbl]
   simp only
   congr 2
   cases hb:ZA fr o.op with
   |true=>rfl
   |false=>
   simp only
   have h1:(XY fr o).flatMap (WB (look L'))=(XY fr o).flatMap (WB (look L)):=by
    rw[ABH,ABH]
    congr 1
    apply W9
    intro n hn
    unfold WB
    rw[hL n (by unfold QJ;rw[hm];exact FG.2 (.inl (FG.2 (.inl hn))))]
   rw[h1,hcc]
   congr 1
   cases hc:ZB fr o.op with
   |false=>rfl
   |true=>
   simp only
   rw[ABH,ABH]
   congr 1
   apply W9
   intro n hn
   have hn' :n∈QJ cx fr (look L) o:=by
    unfold QJ;rw[hm,hb];exact FG.2 (.inl (FG.2 (.inr (FG.2 (.inl hn)))))
   unfold WB
   rw[hL n hn']
 refine⟨hf, ?_⟩
 rw[hf,AHG hL]
 unfold eJ
 rw[hg]
 have hnu:AMZ fr' o.op=AMZ fr o.op:=by
  unfold AMZ
  rw[jN]
  simp only[KI]
  constructor
  ·intro h x hx;rw[<-hev x hx];exact h x hx
  ·intro h x hx;rw[hev x hx];exact h x hx
 rw[hnu]
 split
 ·rfl
 ·rfl
 ·split
  ·rfl
  ·exact AKL fun x hx=>by simp only[evc,hev x hx]
theorem AHH {x y:Met} (h:sD x y=true):(∀ d,x.dst=some d->d∉y.lks)/\(∀ d,x.dst=some d->y.dst≠some d)/\(∀ d,y.dst=some d->d∉x.lks)/\(∀ n∈x.wr,n∉y.rd/\n∉y.wr)/\(∀ n∈y.wr,n∉x.rd):=by
 unfold sD at h
 simp only[IZ,KI,b6,tI,wM] at h
 obtain⟨⟨⟨h1,h2⟩,h3⟩,h4⟩:=h
 refine⟨fun d hd=> ?_,fun d hd=> ?_,fun d hd=> ?_,h3,h4⟩
 ·rw[hd] at h1;simp at h1;exact h1.1
 ·rw[hd] at h1;simp at h1;exact h1.2
 ·rw[hd] at h2;simpa using h2
theorem uJ {fr:List SV} {v:SV} (h:∀ t,d=some t->t∉aC all o):eI all o (SM fr d v)=eI all o fr:=by
 unfold eI
 cases hg:o.guard with
 |none=>rfl
 |some q=>
  obtain⟨j,want⟩:=q
  simp only
  cases hj:all[j]? with
  |none=>rfl
  |some oj=>
   simp only
   cases hd:oj.dst with
   |none=>rfl
   |some t=>
    simp only
    have:(SM fr d v).getD t BK=fr.getD t BK:=by
     cases d with
     |none=>rfl
     |some d=>
      simp only[SM,Y_]
      rw[AE]
      rintro⟨rfl,_⟩
      refine h d rfl ?_
      unfold aC
      rw[hg]
      simp [hj,hd]
    rw[this]
theorem yG {fr:List SV} {v:SV} (h:∀ t,d=some t->t∉aC all o):∀ x∈o.op.operands.toList,ev (SM fr d v) x=ev fr x:=by
 intro x hx
 refine ASY fun t ht he=>h t ht ?_
 subst he
 exact APN hx
theorem ASZ {x i:Nat} {s s1 s2:List SV×AM} {f g:Met} (h1:sst P cx all x s=some (s1,f)) (h2:sst P cx all i s1=some (s2,g)) (ha:sD f g=true):
  ∃ s1',sst P cx all i s=some (s1',g)/\sst P cx all x s1' =some (s2,f):=by
 obtain⟨fr,L⟩:=s
 unfold sst at h1 h2
 split at h1
 ·cases h1
 rename_i ox hox
 split at h1
 rotate_left
 ·cases h1
 rename_i vx ux hx
 simp only[A_,DG] at h1
 obtain⟨rfl,rfl⟩:=h1
 split at h2
 ·cases h2
 rename_i oi hoi
 split at h2
 rotate_left
 ·cases h2
 rename_i vi ui hi
 simp only[A_,DG] at h2
 obtain⟨rfl,rfl⟩:=h2
 obtain⟨a1,a2,a3,a4,a5⟩:=AHH ha
 simp only at a1 a2 a3 a4 a5 hi hx
 obtain⟨f1,f2⟩:=ACE (P:=P) (cx:=cx) hoi (fr:=SM fr ox.dst vx) (fr' :=fr) (L:=AJ L ux) (L' :=L) (fun y hy=>(yG a1 y hy).symm) (uJ a1).symm
  (fun n hn=>((IB (fun hw=>(a4 n hw).1 hn)).1).symm)
 obtain⟨g1,g2⟩:=ACE (P:=P) (cx:=cx) hox (fr:=fr) (fr' :=SM fr oi.dst vi) (L:=L) (L' :=AJ L ui) (fun y hy=>yG a3 y hy) (uJ a3)
  (fun n hn=>(IB (fun hw=>a5 n hw hn)).1)
 refine⟨(SM fr oi.dst vi,AJ L ui), ?_, ?_⟩
 ·unfold sst
  rw[hoi]
  simp only
  rw[f2,hi]
  simp only[f1]
 ·unfold sst
  rw[hox]
  simp only
  rw[g2,hx]
  simp only[g1]
  rw[APL (fr:=fr) (x:=ox.dst) (y:=oi.dst) (u:=vx) (v:=vi) a2,APM (L:=L) (u:=ux) (v:=ui) (fun n hn=>(a4 n hn).2)]
theorem yH {i:Nat}:∀ (l1 l2:List Nat) (s s' :List SV×AM) (fs:List Met),Run P cx all (l1++i::l2) s s' fs->fs.Pairwise (AX3 all)->(∀ x∈l1,∀ o,all[i]? =some o->x∉AN2 all o)→
  ∃ g v9,Run P cx all (i::(l1++l2)) s s' (g::v9)/\g∈fs/\g.i=i/\v9.Sublist fs
 | [],l2,s,s',fs,h,_,_=>by
  obtain⟨s1,f,v9,h1,h2,rfl⟩:=h
  refine⟨f,v9,⟨s1,f,v9,h1,h2,rfl⟩,by simp, ?_,List.sublist_cons_self _ _⟩
  unfold sst at h1
  split at h1
  ·cases h1
  ·split at h1
   ·simp only[A_,DG] at h1;rw[<-h1.2]
   ·cases h1
 |x::l1,l2,s,s',fs,h,hp,ha=>by
  obtain⟨s1,f,fs1,h1,h2,rfl⟩:=h
  rw[dN] at hp
  obtain⟨g,v9,k1,k2,k3,k4⟩:=yH l1 l2 s1 s' fs1 h2 hp.2 (fun y hy=>ha y (by simp [hy]))
  obtain⟨s2,g',fs2,k5,k6,k7⟩:=k1
  simp only[mI] at k7
  obtain⟨rfl,rfl⟩:=k7
  have hfi:f.i=x:=by
   unfold sst at h1
   split at h1
   ·cases h1
   ·split at h1
    ·simp only[A_,DG] at h1;rw[<-h1.2]
    ·cases h1
  have hap:sD f g=true:=by
   rcases hp.1 g k2 with ⟨o,ho,hx⟩|h
   ·rw[k3] at ho
    rw[hfi] at hx
    exact absurd hx (ha x (by simp) o ho)
   ·exact h
  obtain⟨s1',q1,q2⟩:=ASZ h1 k5 hap
  exact⟨g,f::v9,⟨s1',g,_,q1,⟨s2,f,_,q2,k6,rfl⟩,rfl⟩,by simp [k2],k3,k4.cons_cons f⟩
end
section
variable {P:Program} {ops:Array Oper} {Q:Exit->Act->World->Prop}
def isL (listed:Array Bool) (i:Nat):Prop:=listed.getD i false=true
theorem AHI {listed:Array Bool} (hc:∀ i o,ops[i]? =some o->isL listed i->∀ j∈SF o,isL listed j):∀ (n:Nat) (todo seen:List Nat),(∀ j∈todo,isL listed j)->(∀ j∈seen,isL listed j)->∀ j∈AHC ops.toList n todo seen,isL listed j:=by
 intro n
 induction n with
 |zero=>intro todo seen _ h2 j hj;exact h2 j (by simpa [AHC] using hj)
 |succ n ih=>
  intro todo seen h1 h2
  cases todo with
  |nil=>intro j hj;exact h2 j (by simpa [AHC] using hj)
  |cons i todo=>
   have hi:=h1 i (by simp)
   have ht:∀ j∈todo,isL listed j:=fun j hj=>h1 j (by simp [hj])
   simp only[AHC]
   split
   ·exact ih todo seen ht h2
   ·split
    ·rename_i o ho
     refine ih _ _ ?_ ?_
     ·intro j hj
      rcases FG.1 hj with hj|hj
      ·exact hc i o (by rw[<-mH];exact ho) hi j hj
      ·exact ht j hj
     ·intro j hj
      rcases GH.1 hj with rfl|hj
      ·exact hi
      ·exact h2 j hj
    ·exact ih todo seen ht h2
theorem yI:∀ (l:List Oper) (k:Nat),AHD ops.toList l k=true->∀ (i:Nat) (o:Oper),l[i]? =some o->∀ j∈SF o,j<k+i
 | [],_,_,i,o,h=>by simp at h
 |o' ::r,k,h,i,o,ho=>by
  simp only[AHD,IZ,KI,LD] at h
  cases i with
  |zero=>simp only[MU,A_] at ho;subst ho;exact h.1
  |succ i=>
   intro j hj
   have:=yI r (k+1) h.2 i o (by simpa using ho) j hj
   omega
variable {o:Oper}
theorem uK {j:Nat}:j∈SF o↔∃ e∈o.after,Region.binds .any e=true/\e.on=j:=by
 unfold SF
 simp only[DH,Z1]
 constructor
 ·rintro⟨e,⟨h1,h2⟩,h3⟩;exact⟨e,by simpa using h1,h2,h3⟩
 ·rintro⟨e,h1,h2,h3⟩;exact⟨e,⟨by simpa using h1,h2⟩,h3⟩
structure Sg (ops:Array Oper) (listed:Array Bool) (l:List Nat):Prop where
 size:listed.size=ops.size
 mem:∀ i,i∈l↔i<ops.size/\¬isL listed i
 sorted:l.Pairwise (·< ·)
 closed:∀ i o,ops[i]? =some o->isL listed i->∀ j∈SF o,isL listed j
variable {W:List Nat} {cx:Cx}
theorem A17 (hcx:cx.Ok P) (A3Z:AHD ops.toList ops.toList 0=true) (hW:∀ (i:Nat) (o:Oper),ops[i]? =some o->∀ d,o.dst=some d->d∈W) {c:EX cx.tb} {fr0:List SV} {L0:AM} {E0:Env} {s' :List SV×AM}
  (hK:∀ E' a' w',St c E' s'.1 s'.2 a' w' ->Ext W E0 fr0 L0 E' s'.1 s'.2->Q .normal a' w'):
  ∀ (n:Nat) (l:List Nat) (listed:Array Bool) (fs:List Met) (s:List SV×AM) (E:Env) (a:Act) (w:World),l.length=n->Sg ops listed l->Run P cx ops.toList l s s' fs->fs.Pairwise (AX3 ops.toList)->St c E s.1 s.2 a w->Ext W E0 fr0 L0 E s.1 s.2→
   wpAny P .any ops Q n listed a w:=by
 have AKM:∀ (listed:Array Bool) (l:List Nat),Sg ops listed l->∀ i,i∈Region.ready .any ops listed↔i∈l/\∃ o,ops[i]? =some o/\∀ j∈SF o,isL listed j:=by
  intro listed l hs i
  rw[mem_ready]
  constructor
  ·rintro⟨h1,o,ho,h2⟩
   have DY:i<ops.size:=(Array.getElem?_eq_some_iff.1 ho).1
   have b_:i<listed.size:=by rw[hs.size];exact DY
   refine⟨(hs.mem i).2 ⟨DY,fun hx=> ?_⟩,o,ho,fun j hj=> ?_⟩
   ·unfold isL at hx
    simp [b_] at h1 hx
    rw[h1] at hx;cases hx
   ·obtain⟨e,he,hb,rfl⟩:=uK.1 hj
    exact h2 e he hb
  ·rintro⟨h1,o,ho,h2⟩
   obtain⟨DY,hn⟩:=(hs.mem i).1 h1
   have b_:i<listed.size:=by rw[hs.size];exact DY
   refine⟨?_,o,ho,fun e he hb=>h2 _ (uK.2 ⟨e,he,hb,rfl⟩)⟩
   unfold isL at hn
   simp [b_] at hn ⊢
   exact hn
 intro n
 induction n with
 |zero=>
  intro l listed fs s E a w hl hs KD hpw hst N6
  obtain rfl:l=[]:=List.eq_nil_of_length_eq_zero hl
  obtain⟨rfl,rfl⟩:=KD
  refine⟨AJA.2 fun i hi=> ?_,hK E a w hst N6⟩
  have:=((AKM _ _ hs i).1 hi).1
  cases this
 |succ n ih=>
  intro l listed fs s E a w hl hs KD hpw hst N6
  refine⟨fun h0=> ?_,fun i hi=> ?_⟩
  ·exfalso
   cases l with
   |nil=>simp at hl
   |cons k r=>
    obtain⟨DY,hn⟩:=(hs.mem k).1 (by simp)
    have ho:ops[k]? =some ops[k]:=Array.getElem?_eq_getElem DY
    have:k∈Region.ready .any ops listed:=(AKM _ _ hs k).2 ⟨by simp,_,ho,fun j hj=>by
     have WC:=yI ops.toList 0 A3Z k ops[k] (by rw[mH];exact ho) j hj
     rw[NV] at WC
     refine AA5 fun hx=> ?_
     have vD:=(hs.mem j).2 ⟨by omega,hx⟩
     rcases GH.1 vD with rfl|vD
     ·omega
     ·have:=(dN.1 hs.sorted).1 j vD
      omega⟩
    rw[h0] at this;cases this
  ·obtain⟨hil,o,ho,A40⟩:=(AKM _ _ hs i).1 hi
   obtain⟨l1,l2,rfl⟩:=List.append_of_mem hil
   have ho' :ops.toList[i]? =some o:=by rw[mH];exact ho
   have A6L:∀ x∈l1,∀ o',ops.toList[i]? =some o' ->x∉AN2 ops.toList o' :=by
    intro x hx o' ho2 MR
    rw[ho'] at ho2
    simp only[A_] at ho2
    subst ho2
    have:=AHI hs.closed 4000 (SF o) [] A40 (by simp) x MR
    exact ((hs.mem x).1 (by simp [hx])).2 this
   obtain⟨g,fs2,⟨s1,g',A88,k5,k6,k7⟩,k2,k3,k4⟩:=yH l1 l2 s s' fs KD hpw A6L
   obtain⟨e1,e2⟩:=List.cons.inj k7
   subst e1
   rw[<-e2] at k6
   unfold sst at k5
   rw[ho'] at k5
   simp only at k5
   split at k5
   rotate_left
   ·cases k5
   rename_i v u M_
   simp only[A_,DG] at k5
   obtain⟨rfl, -⟩:=k5
   refine AN0 hcx ho hst (fun n e h=> ?_) M_ fun E' a' w' A15 hnm hds=> ?_
   ·unfold uI at h
    split at h
    ·exact h
    ·cases h
   ·have HN:(l1++i::l2).Nodup:=hs.sorted.imp (fun h=>Nat.ne_of_lt h)
    have DY:i<ops.size:=((hs.mem i).1 hil).1
    have XF:∀ j,isL (listed.setIfInBounds i true) j↔j=i\/isL listed j:=by
     intro j
     unfold isL
     by_cases hji:i=j
     ·subst hji
      have:i<listed.size:=by rw[hs.size];exact DY
      simp [this]
     ·simp [Array.getElem?_setIfInBounds_ne hji,Ne.symm hji]
    refine ih (l1++l2) (listed.setIfInBounds i true) fs2 _ E' a' w' (by simp at hl ⊢;omega) ⟨by simp [hs.size],fun j=> ?_, ?_, ?_⟩ k6 (hpw.sublist k4) A15 (N6.trans ?_)
    ·rw[XF,not_or]
     constructor
     ·intro hj
      have vD:j∈l1++i::l2:=by
       rcases FG.1 hj with h|h
       ·exact FG.2 (.inl h)
       ·exact FG.2 (.inr (by simp [h]))
      obtain⟨q1,q2⟩:=(hs.mem j).1 vD
      refine⟨q1, ?_,q2⟩
      rintro rfl
      rw[PB] at HN
      rcases FG.1 hj with h|h
      ·exact HN.2.2 j h j (by simp) rfl
      ·exact (VE.1 HN.2.1).1 h
     ·rintro⟨q1,q2,q3⟩
      have:=(hs.mem j).2 ⟨q1,q3⟩
      rcases FG.1 this with h|h
      ·exact FG.2 (.inl h)
      ·rcases GH.1 h with h|h
       ·exact absurd h q2
       ·exact FG.2 (.inr h)
    ·exact hs.sorted.sublist (List.Sublist.append_left (List.sublist_cons_self _ _) _)
    ·intro j oj hj hlj k hk
     rw[XF] at hlj ⊢
     right
     rcases hlj with rfl|hlj
     ·rw[ho] at hj;simp only[A_] at hj;subst hj;exact A40 k hk
     ·exact hs.closed j oj hj hlj k hk
    ·exact⟨hnm,fun t _=>by rw[hds],eK.AJ _ _,uH _ _ _,AN1 fun t ht=>hW i o ho t ht⟩
end
end Go.V3
namespace Go.V3
open Go
variable {TB:Tb}
def XZ {σ β:Type} (f:σ->Option (σ ⊕ β)):Nat->σ->Option β
 |0,_=>none
 |n+1,s=>match f s with
  |none=>none
  |some (.inl s')=>XZ f n s'
  |some (.inr b)=>some b
open Classical in
noncomputable def AH {σ β:Type} (f:σ->Option (σ ⊕ β)) (s:σ):Option β:=
 if h:∃ b,∃ n,XZ f n s=some b then some h.choose else none
theorem yJ {σ β:Type} {f:σ->Option (σ ⊕ β)}:∀ {n:Nat} {s:σ} {b:β},XZ f n s=some b->XZ f (n+1) s=some b
 |0,s,b,h=>by cases h
 |n+1,s,b,h=>by
  rw[XZ] at h ⊢
  split
  ·rename_i hf;rw[hf] at h;cases h
  ·rename_i s' hf;rw[hf] at h;exact yJ h
  ·rename_i b' hf;rw[hf] at h;exact h
variable {n:Nat} {β σ:Type}
theorem AHJ {f:σ->Option (σ ⊕ β)} {m:Nat} {s:σ} {b:β} (h:XZ f n s=some b) (hm:n<=m):XZ f m s=some b:=by
 induction hm with
 |refl=>exact h
 |step _ ih=>exact yJ ih
theorem WD {f:σ->Option (σ ⊕ β)} {s:σ} {b:β}:AH f s=some b↔∃ n,XZ f n s=some b:=by
 unfold AH
 constructor
 ·intro h
  split at h
  ·rename_i hx
   simp only[A_] at h
   rw[<-h];exact hx.choose_spec
  ·cases h
 ·rintro⟨n,hn⟩
  have hx:∃ b,∃ n,XZ f n s=some b:=⟨b,n,hn⟩
  rw[dif_pos hx]
  obtain⟨m,hm⟩:=hx.choose_spec
  have h1:=AHJ hn (Nat.le_max_left n m)
  have h2:=AHJ hm (Nat.le_max_right n m)
  rw[h1] at h2
  exact h2.symm
theorem F4 (f:σ->Option (σ ⊕ β)) (s:σ):AH f s=match f s with
  |none=>none
  |some (.inl s')=>AH f s'
  |some (.inr b)=>some b:=by
 have key:∀ b,AH f s=some b↔(match f s with
  |none=>none
  |some (.inl s')=>AH f s'
  |some (.inr b)=>some b)=some b:=by
  intro b
  rw[WD]
  constructor
  ·rintro⟨n,hn⟩
   cases n with
   |zero=>cases hn
   |succ n=>
    rw[XZ] at hn
    split at hn
    ·cases hn
    ·rename_i s' hf
     first|exact WD.2 ⟨n,hn⟩|(rw[hf];exact WD.2 ⟨n,hn⟩)
    ·rename_i b' hf
     first|exact hn|(rw[hf];exact hn)
  ·intro h
   split at h
   ·cases h
   ·rename_i s' hf
    obtain⟨n,hn⟩:=WD.1 h
    exact⟨n+1,by rw[XZ,hf];exact hn⟩
   ·rename_i b' hf
    exact⟨1,by rw[XZ,hf];exact h⟩
 cases h1:AH f s with
 |some b=>exact ((key b).1 h1).symm
 |none=>
  cases h2:(match f s with
  |none=>none
  |some (.inl s')=>AH f s'
  |some (.inr b)=>some b:Option β) with
  |none=>rfl
  |some b=>rw[(key b).2 h2] at h1;cases h1
def writes:Code->List Nat
 | .region _ ops _=>ops.toList.filterMap (·.dst)
 | .seq a b=>writes a++writes b
 | .cond _ a b=>writes a++writes b
 | .block _ c=>writes c
 | .loop c=>writes c
 | .scope c=>writes c
 |_=>[]
def HT.app:(zas bs:List CT)->HT zas->HT bs->HT (zas++bs)
 | [],_,_,y=>y
 | [_],bs,x,y=>HT.mk _ bs x y
 |_::d::r,bs,x,y=>(x.1,HT.app (d::r) bs x.2 y)
theorem HT.AHK:∀ (zas bs:List CT) (x:HT zas) (y:HT bs),HT.left zas bs (HT.app zas bs x y)=x
 | [],_,_,_=>rfl
 | [c],bs,x,y=>HT.tU c bs x y
 |c::d::r,bs,x,y=>by
  show (x.1,HT.left (d::r) bs (HT.app (d::r) bs x.2 y))=x
  rw[HT.AHK (d::r) bs x.2 y]
theorem HT.ACF:∀ (zas bs:List CT) (x:HT zas) (y:HT bs),HT.right zas bs (HT.app zas bs x y)=y
 | [],_,_,_=>rfl
 | [c],bs,x,y=>HT.tV c bs x y
 |c::d::r,bs,x,y=>by
  show HT.right (d::r) bs (HT.app (d::r) bs x.2 y)=y
  exact HT.ACF (d::r) bs x.2 y
def ME (a:Ty):CT:=⟨.slice a,false,true,false⟩
@[reducible] def dL.VZ (BY:dL):List CT:=BY.live.map (·.2)++BY.boxes.map (·.2)
@[reducible] def dL.csR (BY:dL):List CT:=BY.rows.map fun q=>ME q.2
abbrev dL.T (BY:dL):Type:=HT (BY.VZ++BY.csR)
def eM (AQ:Nat->Option A9):List (Nat×CT)->Option (List SV)
 | []=>some []
 |(n,c)::r=>match AQ n with
  |some (.box cs)=>(match eM AQ r with
   |some l=>(match c.agg with
    |true=>some (.agg cs::l)
    |false=>(match cs with
     | [v]=>some (v::l)
     |_=>none))
   |none=>none)
  |_=>none
def yK (AQ:Nat->Option A9):(rows:List (Nat×Ty))->Option (HT (rows.map fun q=>ME q.2))
 | []=>some ()
 |(n,a)::r=>match AQ n with
  |some (.row t xs)=>if h:t=a then (if a.u6=true then none else match yK AQ r with
   |some y=>some (HT.mk (ME a) (r.map fun q=>ME q.2) (HQ h xs) y)
   |none=>none) else none
  |some (.deep t xss none)=>if h:Ty.slice t=a then (match yK AQ r with
   |some y=>some (HT.mk (ME a) (r.map fun q=>ME q.2) (HQ h xss) y)
   |none=>none) else none
  |some (.map xs)=>if h:Ty.kv=a then (match yK AQ r with
   |some y=>some (HT.mk (ME a) (r.map fun q=>ME q.2) (HQ h xs) y)
   |none=>none) else none
  |_=>none
def ver (L:AM) (n:Nat):Nat:=match L[n]? with
 |some q=>q.1
 |none=>0
def IL (L:AM) (n:Nat):Bool:=match look L n with
 |some .MB=>true
 |_=>false
def AN3 (L:AM) (n:Nat):Bool:=match look L n with
 |some e=> !e.IL
 |none=>false
def dL.AAL (BY:dL):List Nat:=BY.lost++(List.range (cnts BY.VZ)).map (fun k=>BY.base+k)++BY.boxes.map (·.1)++BY.rows.map (·.1)
def A41 (BY:dL) (L0 L:AM) (on:List Nat) (fz:DN):Bool:=
 decide BY.AAL.Nodup && (List.range (cnts BY.VZ)).all (fun k=>IL L0 (BY.base+k)) && (BY.boxes.map (·.1)++BY.rows.map (·.1)++BY.lost).all (fun n=>AN3 L0 n) &&
 (BY.boxes.map (·.1)++BY.rows.map (·.1)).all (fun n=> !on.contains n && !(fz.map (·.1)).contains n) &&
 (List.range L0.length).all (fun n=>IL L0 n||BY.AAL.contains n||(ver L0 n==ver L n && !on.contains n && !(fz.map (·.1)).contains n)) &&
 BY.VZ.all (fun c=> !c.ptr)
def Y4:List (Nat×Nat×Nat)->AM->AM
 | [],L=>L
 |(k,o,i)::r,L=>match look L k,look L o,look L i with
  |some (.row t xs),some .dead,some (.box cs)=>Y4 r (AJ L [(k,.dead),(o,.row t xs),(i,.box (cs.map (AAG k o)))])
  |_,_,_=>Y4 r L
def A18 (BY:dL) (L0:AM) (nes:List NE):Bool:=BY.pins.all fun p=>decide (BY.base<=p.1) && decide (p.1<BY.base+cnts BY.VZ) && iM nes[p.1-BY.base]? p.2.1 && AN3 L0 p.2.1
def eN (BY:dL) (L0:AM) (fr:List SV) (L:AM):Option BY.T:=
 match eM (look L) BY.boxes with
 |none=>none
 |some bs=>match KC .jO (look L) BY.VZ (BY.live.map (fun q=>fr.getD q.1 BK)++bs) with
  |none=>none
  |some a=>match yK (look L) BY.rows with
   |none=>none
   |some y=>match okA a && A41 BY L0 L a.on a.fz && BY.live.all (fun q=> !ACC (fr.getD q.1 BK)) && A18 BY L0 a.nes with
    |true=>some (HT.app BY.VZ BY.csR a.x y)
    |false=>none
def Q9:(cs:List CT)->HT cs->List A9
 | [],_=>[]
 |c::r,x=>CA c.own c.t (HT.hd c r x)++Q9 r (HT.tl c r x)
def eO:List (Nat×CT)->List SV->DN
 |(n,_)::r,v::vs=>(n,.box (BN v))::eO r vs
 |_,_=>[]
def m9:(rows:List (Nat×Ty))->HT (rows.map fun q=>ME q.2)->DN
 | [],_=>[]
 |(n,a)::r,x=>(n,J_ a (HT.hd (ME a) (r.map fun q=>ME q.2) x))::m9 r (HT.tl (ME a) (r.map fun q=>ME q.2) x)
def dL.svs (BY:dL) (s:BY.T):List SV:=outSVs BY.VZ (HT.left BY.VZ BY.csR s) BY.base
def LH (BY:dL) (s:BY.T):DN:=
 BY.lost.map (fun n=>(n,.dead))++(C9 BY.base (Q9 BY.VZ (HT.left BY.VZ BY.csR s))++(eO BY.boxes ((BY.svs s).drop BY.live.length)++m9 BY.rows (HT.right BY.VZ BY.csR s)))
def UH (fr:List SV):List (Nat×SV)->List SV
 | []=>fr
 |(t,v)::r=>UH (fr.set t v) r
def aD (BY:dL) (fr:List SV) (s:BY.T):List SV:=UH (UH fr (BY.dead.map fun t=>(t,.unk t))) ((BY.live.map (·.1)).zip (BY.svs s))
def AT0 (BY:dL) (ws:List Nat):Bool:=ws.all (fun t=>(BY.live.map (·.1)).contains t||BY.dead.contains t) && (BY.live.map (·.1)).all ws.contains && BY.dead.all ws.contains && decide (BY.live.map (·.1)++BY.dead).Nodup
def X0:Code->Option Nat
 | .region id _ _=>some id
 | .seq a b=>(match X0 a with
  |some i=>some i
  |none=>X0 b)
 | .cond _ a b=>(match X0 a with
  |some i=>some i
  |none=>X0 b)
 | .block _ c=>X0 c
 | .loop c=>X0 c
 | .scope c=>X0 c
 |_=>none
def A19 (cx:Cx) (b:Code):Option dL:=match X0 b with
 |some i=>lk cx.oV i
 |none=>none
def AE2 (L:AM) (n:Nat):AM:=match look L n with
 |some (.deep t xss h)=>(match rU (look L) n t xss h with
  |some (_,u)=>AJ L u
  |none=>L)
 |_=>L
def H7:List (Nat×Ty)->AM->AM
 | [],L=>L
 |q::r,L=>H7 r (AE2 L q.1)
def AT1 {α:Type} (cx:Cx) (id:Nat) (fr:List SV) (L:AM) (K:AM->Option α):Option α:=match lk cx.opens id with
 |none=>K L
 |some (s,t,bs)=>(match fr.getD s BK,idxOf (fr.getD t BK) with
  | .NT i,some n=>(match look L i with
   |some (.deep a xss h)=>(match JQ (look L) bs 1 with
    |true=>(match rU (look L) i a xss h with
     |some (ys,u)=>if 0<=n/\n<(ys.length:Int) then K (AJ L (u++ [(bs,.dead),(i,.deep a ys (some (n.toNat,bs))),(bs,.row a (ys.getD n.toNat []))])) else none
     |none=>none)
    |false=>none)
   |_=>none)
  |_,_=>none)
noncomputable def rk (P:Program) (cx:Cx):Code->(α:Type)->Nat->(Exit->List SV->AM->Option α)->List SV->AM->Option α
 | .skip,_,_,K,fr,L=>K .normal fr L
 | .label _,_,_,K,fr,L=>K .normal fr L
 | .ret,_,_,K,fr,L=>K .ret fr L
 | .exit id,_,_,K,fr,L=>K (.exit id) fr L
 | .region id ops draw,_,_,K,fr,L=>AT1 cx id fr L (fun L=>match draw with
  |true=>(match AHD ops.toList ops.toList 0 && P.follows .mixedOrders with
   |true=>A16 P cx ops.toList ops.toList 0 [] fr L (fun fr' L' =>K .normal fr' L')
   |false=>none)
  |false=>ASV P cx ops.toList ops.toList 0 fr L (fun fr' L' =>K .normal fr' L'))
 | .seq a b,α,YS,K,fr,L=>(match A19 cx b with
  |none=>rk P cx a α YS (fun e fr' L' =>match e with
   | .normal=>rk P cx b α YS K fr' L'
   |e=>K e fr' L') fr L
  |some BY=>(match AT0 BY (writes a) with
   |true=>(rk P cx a (BY.T ⊕ α) YS (fun e fr' L' =>match e with
    | .normal=>(eN BY (H7 BY.rows L) fr' (H7 BY.rows L')).map Sum.inl
    |e=>(K e fr' L').map Sum.inr) fr (H7 BY.rows L)).bind (fun r=>match r with
     | .inl s=>rk P cx b α YS K (aD BY fr s) (Y4 BY.pins (AJ (H7 BY.rows L) (LH BY s)))
     | .inr b=>some b)
   |false=>none))
 | .cond c x y,α,YS,K,fr,L=>(match ev fr c with
  | .mJ b=>(match b with
   |true=>rk P cx x α YS K fr L
   |false=>rk P cx y α YS K fr L)
  | .bool b=>if b=true then rk P cx x α YS K fr L else rk P cx y α YS K fr L
  | .prop p d=> @ite _ p d (rk P cx x α YS K fr L) (rk P cx y α YS K fr L)
  |_=>none)
 | .block id c,α,_,K,fr,L=>rk P cx c α id (fun e fr' L' =>match e with
  | .exit i=>if i=id then K .normal fr' L' else K (.exit i) fr' L'
  |e=>K e fr' L') fr L
 | .scope c,α,YS,K,fr,L=>rk P cx c α YS (fun e fr' L' =>match e with
  | .goto _=>none
  |e=>K e fr' L') fr L
 | .loop c,α,YS,K,fr,L=>(match lk cx.loops YS with
  |none=>none
  |some BY=>(match AT0 BY (writes c) with
   |true=>(match eN BY (H7 BY.rows L) fr (H7 BY.rows L) with
    |none=>none
    |some s0=>AH (fun s=>rk P cx c (BY.T ⊕ α) YS (fun e fr' L' =>match e with
     | .normal=>(eN BY (H7 BY.rows L) fr' (H7 BY.rows L')).map Sum.inl
     |e=>(K e fr' L').map Sum.inr) (aD BY fr s) (Y4 BY.pins (AJ (H7 BY.rows L) (LH BY s)))) s0)
   |false=>none))
 |_,_,_,_,_,_=>none
end Go.V3
namespace Go.V3
open Go
variable {TB:Tb}
theorem eP {c:EX TB} {G:Nat->Prop} {w:World}:∀ (cs:List CT) (x:HT cs) (ms:Nat->Nm),(cs.all fun d=> !d.ptr)=true→
  (Q9 cs x).length=cnts cs/\(PS c G w cs x ms->∀ j e,(Q9 cs x)[j]? =some e->mN c G w (ms j) e)/\C2 cs x ms=HE (Q9 cs x) ms/\(∀ e∈Q9 cs x,e.IL=false)
 | [],_,_,_=>⟨rfl,fun _ j e h=>by simp [Q9] at h,rfl,fun e h=>by simp [Q9] at h⟩
 |d::r,x,ms,hp=>by
  simp only[xB,IZ,b6] at hp
  have hpn:d.pn=0:=by simp [CT.pn,hp.1]
  have rS:d.cnt=d.t.HH:=by simp [CT.cnt,hpn]
  obtain⟨i1,i2,i3,i4⟩:=eP (c:=c) (G:=G) (w:=w) r (HT.tl d r x) (fun k=>ms (d.cnt+k)) hp.2
  have hoc:N5 d (HT.hd d r x) ms=HE (CA d.own d.t (HT.hd d r x)) ms:=by
   unfold N5;rw[hp.1,hpn];simp
  refine⟨by simp [Q9,BJ,i1,cnts,rS],fun hps j e he=> ?_, ?_, ?_⟩
  ·simp only[Q9] at he
   by_cases hj:j<(CA d.own d.t (HT.hd d r x)).length
   ·rw[V4 hj] at he
    have:=hps.1.1 j e he
    rw[hpn,NV] at this
    exact this
   ·rw[SI (by omega)] at he
    have:=i2 hps.2 _ e he
    rw[BJ] at this hj
    have e2:d.cnt+(j-d.t.HH)=j:=by omega
    rw[e2] at this
    exact this
  ·rw[rS] at i3
   simp only[C2,Q9,Z_,hoc,BJ,rS]
   rw[i3]
  ·intro e he
   rcases FG.1 he with he|he
   ·obtain⟨j,hj,rfl⟩:=wP he
    exact YY (O6 hj)
   ·exact i4 e he
theorem sE {b:Nat}:∀ (es:List A9) (ms:Nat->Nm),(HE es ms).Nodup->∀ (j k:Nat) (e f:A9),j<k->es[j]? =some e->es[k]? =some f->b∈e.YD (ms j)->¬b∈f.YD (ms k)
 | [],_,_,j,k,e,f,_,h,_,_=>by simp at h
 |x::r,ms,HN,0,0,e,f,WC,_,_,_=>by omega
 |x::r,ms,HN,j+1,0,e,f,WC,_,_,_=>by omega
 |x::r,ms,HN,0,k+1,e,f,_,h1,h2,hb=>by
  simp only[MU,A_] at h1;subst h1
  simp only[AD8] at h2
  intro hf
  have:=PB.1 HN
  exact this.2.2 b hb b (I3 r k (fun k=>ms (k+1)) h2 hf) rfl
 |x::r,ms,HN,j+1,k+1,e,f,WC,h1,h2,hb=>by
  simp only[AD8] at h1 h2
  exact sE r (fun k=>ms (k+1)) (PB.1 HN).2.1 j k e f (by omega) h1 h2 hb
theorem AE3 (n:Nat) (es:List A9):(C9 n es).map (·.1)=(List.range es.length).map (fun k=>n+k):=by
 induction es generalizing n with
 |nil=>rfl
 |cons e r ih=>
  simp only[C9,JS,ih,NU,List.range_succ_eq_map,XB,P6,mI,lQ]
  apply W9
  intro k _
  simp;omega
variable {n:Nat}
theorem AE4 {es:List A9} {q:Nat×A9} (h:q∈C9 n es):∃ j,q.1=n+j/\es[j]? =some q.2:=by
 induction es generalizing n with
 |nil=>cases h
 |cons e r ih=>
  rcases GH.1 h with rfl|h
  ·exact⟨0,rfl,rfl⟩
  ·obtain⟨j,h1,h2⟩:=ih h
   exact⟨j+1,by rw[h1];omega,by simpa using h2⟩
theorem OZ:∀ (cs:List CT) (x:HT cs) (n:Nat),(outSVs cs x n).length=cs.length
 | [],_,_=>rfl
 |d::r,x,n=>by simp [outSVs,OZ r]
theorem yL:∀ (bs:List (Nat×CT)) (vs:List SV),vs.length=bs.length->(eO bs vs).map (·.1)=bs.map (·.1)
 | [],[],_=>rfl
 | [],_::_,h=>by simp at h
 |_::_,[],h=>by simp at h
 |(n,c)::r,v::vs,h=>by simp only[eO,JS];rw[yL r vs (by simpa using h)]
theorem m_:∀ (rows:List (Nat×Ty)) (x:HT (rows.map fun q=>ME q.2)),(m9 rows x).map (·.1)=rows.map (·.1)
 | [],_=>rfl
 |(n,a)::r,x=>by simp only[m9,JS];rw[m_ r]
theorem APO (BY:dL) (s:BY.T) (hp:(BY.VZ.all fun d=> !d.ptr)=true):(LH BY s).map (·.1)=BY.AAL:=by
 unfold LH dL.AAL
 have hl:((BY.svs s).drop BY.live.length).length=BY.boxes.length:=by
  unfold dL.svs
  rw[oD,OZ]
  simp [dL.VZ]
 obtain⟨e1,_⟩:=eP (c:=(⟨default,fun _=>False,fun _=>False⟩:EX [])) (G:=fun _=>False) (w:=default) BY.VZ (HT.left BY.VZ BY.csR s) (fun _=>⟨0,0,true,0,0,none⟩) hp
 have h1:(BY.lost.map (fun n=>(n,A9.dead))).map (·.1)=BY.lost:=by simp [ABC]
 have h2:=m_ BY.rows (HT.right BY.VZ BY.csR s)
 rw[YC,YC,YC,h1,AE3,e1,yL _ _ hl,I0,I0]
 congr 3
theorem bR:∀ (u:DN) (L:AM),(u.map (·.1)).Nodup->(∀ n∈u.map (·.1),n<L.length)->∀ q∈u,look (AJ L u) q.1=some q.2
 | [],_,_,_,q,h=>by cases h
 |p::r,L,HN,DY,q,hq=>by
  simp only[JS,VE] at HN
  rcases GH.1 hq with rfl|hq
  ·show look (AJ (DW L q) r) q.1=_
   rw[(IB HN.1).1,BB (DY _ (by simp)),AA rfl]
  ·exact bR r (DW L p) HN.2 (fun n hn=>by rw[GQ];exact DY n (by simp [hn])) q hq
theorem ACG:∀ (cs:List CT) (x:HT cs) (n:Nat) {E:Env} {L:AM},(cs.all fun d=> !d.ptr)=true->(∀ k,k<cnts cs->Al L (n+k))->MT E L (outSVs cs x n)
 | [],_,_,_,_,_,_=>trivial
 |d::r,x,n,E,L,hp,h=>by
  simp only[xB,IZ,b6] at hp
  have rS:d.cnt=d.t.HH:=by simp [CT.cnt,CT.pn,hp.1]
  refine⟨?_,ACG r _ _ hp.2 fun k hk=>by rw[PC];exact h _ (by simp [cnts];omega)⟩
  have hu:MT E L (I1 d.t (HT.hd d r x) n):=xO _ _ _ fun j hj=>h j (by simp [cnts,rS];omega)
  unfold V8
  rw[hp.1]
  cases d.agg with
  |true=>exact hu
  |false=>
   show SV.wf _ _ ((I1 d.t (HT.hd d r x) n).headD BK)
   cases hx:I1 d.t (HT.hd d r x) n with
   |nil=>trivial
   |cons v r=>rw[hx] at hu;exact hu.1
theorem APP (t:Ty) (x:t.T) (n:Nat):∀ v∈I1 t x n,BN v=[v]:=by
 induction t generalizing n with
 |pair a b W5 W6=>
  intro v hv
  rcases FG.1 hv with hv|hv
  ·exact W5 _ _ v hv
  ·exact W6 _ _ v hv
 |_=>intro v hv;simp only[I1,GG] at hv;subst hv;rfl
theorem yM:∀ (cs:List CT) (x:HT cs) (n k:Nat) (v:SV),(outSVs cs x n)[k]? =some v->∃ (d:CT) (y:d.t.T) (m:Nat),cs[k]? =some d/\v=V8 d y m/\n<=m/\m+d.cnt<=n+cnts cs
 | [],_,_,_,_,h=>by simp [outSVs] at h
 |d::r,x,n,0,v,h=>by
  simp only[outSVs,MU,A_] at h
  exact⟨d,_,n,rfl,h.symm,EH _,by simp [cnts]⟩
 |d::r,x,n,k+1,v,h=>by
  simp only[outSVs,AD8] at h
  obtain⟨d',y,m,h1,h2,h3,h4⟩:=yM r _ _ k v h
  exact⟨d',y,m,by simpa using h1,h2,by omega,by simp only[cnts];omega⟩
theorem YH (fr:List SV) (l:List (Nat×SV)):(UH fr l).length=fr.length:=by
 induction l generalizing fr with
 |nil=>rfl
 |cons q r ih=>obtain⟨t,v⟩:=q;simp [UH,ih]
theorem WE (fr:List SV) (l:List (Nat×SV)) (t:Nat) (h:∀ q∈l,q.1≠t):(UH fr l).getD t BK=fr.getD t BK:=by
 induction l generalizing fr with
 |nil=>rfl
 |cons q r ih=>
  obtain⟨k,v⟩:=q
  simp only[UH]
  rw[ih _ (fun q hq=>h q (by simp [hq])),Y_,AE]
  rintro⟨rfl,_⟩
  exact h (k,v) (by simp) rfl
theorem ACH (fr:List SV) (l:List (Nat×SV)) (HN:(l.map (·.1)).Nodup) {t:Nat} {v:SV} (h:(t,v)∈l) (ht:t<fr.length):(UH fr l).getD t BK=v:=by
 induction l generalizing fr with
 |nil=>cases h
 |cons q r ih=>
  obtain⟨k,u⟩:=q
  simp only[JS,VE] at HN
  simp only[UH]
  rcases GH.1 h with he|h
  ·cases he
   rw[WE _ _ _ (fun q hq he=>HN.1 (DH.2 ⟨q,hq,he⟩)),Y_,AA ⟨rfl,ht⟩]
  ·exact ih _ HN.2 h (by simpa using ht)
theorem aE {AQ:Nat->Option A9}:∀ (bs:List (Nat×CT)) (l:List SV),eM AQ bs=some l->l.length=bs.length/\∀ (j n:Nat) (c:CT),bs[j]? =some (n,c)->∃ cs,AQ n=some (.box cs)/\((c.agg=true/\l[j]? =some (.agg cs))\/(c.agg=false/\∃ v,cs=[v]/\l[j]? =some v))
 | [],l,h=>by simp only[eM,A_] at h;subst h;exact⟨rfl,fun j n c h=>by simp at h⟩
 |(n,c)::r,l,h=>by
  simp only[eM] at h
  split at h
  rotate_left
  ·cases h
  rename_i cs hl
  split at h
  rotate_left
  ·cases h
  rename_i l' lU
  obtain⟨i1,i2⟩:=aE r l' lU
  split at h
  ·rename_i ha
   simp only[A_] at h;subst h
   refine⟨by simp [i1],fun j n' c' hj=> ?_⟩
   cases j with
   |zero=>simp only[MU,A_,DG] at hj;obtain⟨rfl,rfl⟩:=hj;exact⟨cs,hl,.inl ⟨ha,rfl⟩⟩
   |succ j=>exact i2 j n' c' (by simpa using hj)
  ·rename_i ha
   split at h
   rotate_left
   ·cases h
   rename_i v
   simp only[A_] at h;subst h
   refine⟨by simp [i1],fun j n' c' hj=> ?_⟩
   cases j with
   |zero=>simp only[MU,A_,DG] at hj;obtain⟨rfl,rfl⟩:=hj;exact⟨[v],hl,.inr ⟨ha,v,rfl,rfl⟩⟩
   |succ j=>exact i2 j n' c' (by simpa using hj)
theorem yN:∀ (bs:List (Nat×CT)) (vs:List SV) (q:Nat×A9),q∈eO bs vs->∃ (j:Nat) (c:CT) (v:SV),bs[j]? =some (q.1,c)/\vs[j]? =some v/\q.2= .box (BN v)
 | [],_,_,h=>by simp [eO] at h
 |_::_,[],_,h=>by simp [eO] at h
 |(n,c)::r,v::vs,q,h=>by
  simp only[eO] at h
  rcases GH.1 h with rfl|h
  ·exact⟨0,c,v,rfl,rfl,rfl⟩
  ·obtain⟨j,c',v',h1,h2,h3⟩:=yN r vs q h
   exact⟨j+1,c',v',by simpa using h1,by simpa using h2,h3⟩
theorem yO {AQ:Nat->Option A9}:∀ (rows:List (Nat×Ty)) (y:HT (rows.map fun q=>ME q.2)),yK AQ rows=some y->∀ q∈m9 rows y,∃ (a:Ty) (xs:List a.T),AQ q.1=some (J_ a xs)/\q.2=J_ a xs
 | [],_,_,q,h=>by simp [m9] at h
 |(n,a)::r,y,hp,q,h=>by
  have key:∃ (xs:List a.T) (y' :HT (r.map fun q=>ME q.2)),AQ n=some (J_ a xs)/\yK AQ r=some y' /\y=HT.mk (ME a) (r.map fun q=>ME q.2) xs y' :=by
   simp only[yK] at hp
   split at hp
   ·rename_i t xs hl
    split at hp
    rotate_left
    ·cases hp
    rename_i ht
    subst ht
    split at hp
    ·cases hp
    rename_i Q8
    split at hp
    rotate_left
    ·cases hp
    rename_i y' hy'
    simp only[A_] at hp
    exact⟨xs,y',by rw[MX (by simpa using Q8)];exact hl,hy',hp.symm⟩
   ·rename_i t xss hl
    split at hp
    rotate_left
    ·cases hp
    rename_i ht
    subst ht
    split at hp
    rotate_left
    ·cases hp
    rename_i y' hy'
    simp only[A_] at hp
    exact⟨xss,y',hl,hy',hp.symm⟩
   ·rename_i xs hl
    split at hp
    rotate_left
    ·cases hp
    rename_i ht
    subst ht
    split at hp
    rotate_left
    ·cases hp
    rename_i y' hy'
    simp only[A_] at hp
    exact⟨xs,y',hl,hy',hp.symm⟩
   ·cases hp
  obtain⟨xs,y',hl,hy',rfl⟩:=key
  simp only[m9] at h
  rcases GH.1 h with rfl|h
  ·refine⟨a,xs,hl, ?_⟩
   exact KL (J_ a) (HT.tU (ME a) (r.map fun q=>ME q.2) xs y')
  ·refine yO r y' hy' q ?_
   have e:HT.tl (ME a) (r.map fun q=>ME q.2) (HT.mk (ME a) (r.map fun q=>ME q.2) xs y')=y' :=HT.tV _ _ _ _
   rw[e] at h;exact h
variable {L L':AM}
theorem eQ (h:eK L L') {e:A9} (he:look L n=some e) (hv:ver L n=ver L' n):look L' n=some e:=by
 have DY:=AR he
 have A1A :n<L'.length:=by rw[h.1];exact DY
 have e1:L[n]? =some (L[n].1,L[n].2):=O6 DY
 have e2:L'[n]? =some (L'[n].1,L'[n].2):=O6 A1A
 have hve:L'[n].1=L[n].1:=by
  unfold ver at hv
  rw[e1,e2] at hv
  exact hv.symm
 have hfe:=(h.2 n _ _ _ _ e1 e2).2 hve
 unfold look at he ⊢
 rw[e1] at he
 rw[e2]
 simp only[hfe]
 exact he
variable {w:World} {a:Act} {fr':List SV} {E:Env} {W:List Nat}
set_option maxHeartbeats 1000000 in
theorem A1B {BY:dL} (hwr:AT0 BY W=true) {c:EX TB} {w0:World} {fr:List SV} {G0:Nat->Prop} (hH0:AT c G0 w0 E L) (hF0:AE0 E L fr)
  {E' :Env} (hst:St c E' fr' L' a w) (N6:Ext W E fr L E' fr' L') {s:BY.T} (hp:eN BY L fr' L' =some s):
  ∃ E2,St c E2 (aD BY fr s) (AJ L (LH BY s)) a w/\Ext W E fr L E2 (aD BY fr s) (AJ L (LH BY s))/\∀ p∈BY.pins,E2.nm p.1=E2.nm p.2.1:=by
 unfold eN at hp
 split at hp
 ·cases hp
 rename_i bs MS
 split at hp
 ·cases hp
 rename_i tk htk
 split at hp
 ·cases hp
 rename_i y hy
 split at hp
 rotate_left
 ·cases hp
 rename_i hck
 simp only[A_] at hp
 simp only[IZ] at hck
 obtain⟨⟨⟨A6M,A42⟩,hnu⟩,A43⟩:=hck
 simp only[A41,IZ,LD] at A42
 obtain⟨⟨⟨⟨⟨o1,o2⟩,o3⟩,o4⟩,o5⟩,o6⟩:=A42
 simp only[AT0,IZ,LD] at hwr
 obtain⟨⟨⟨wr1,wr2⟩,wr3⟩,wr4⟩:=hwr
 have AHL:HT.left BY.VZ BY.csR s=tk.x:=by rw[<-hp];exact HT.AHK _ _ _ _
 have A1C:HT.right BY.VZ BY.csR s=y:=by rw[<-hp];exact HT.ACF _ _ _ _
 obtain⟨G,hG⟩:=hst.hd
 have A44:MT E' L' (BY.live.map (fun q=>fr'.getD q.1 BK)++bs):=by
  refine B1.2 fun v hv=> ?_
  rcases FG.1 hv with hv|hv
  ·obtain⟨q,hq,rfl⟩:=DH.1 hv
   rcases hst.wf q.1 with h|h
   ·exact h
   ·have:=KI.1 hnu q hq
    rw[h] at this;simp [ACC] at this
  ·obtain⟨j,hj,rfl⟩:=wP hv
   obtain⟨b1,b2⟩:=aE _ _ MS
   have hjb:j<BY.boxes.length:=by omega
   obtain⟨cs,h1,h2⟩:=b2 j _ _ (O6 hjb)
   have hwc:=(hG.MQ _ _ h1).2.2.2.2.2
   rcases h2 with ⟨_,h3⟩|⟨_,v,rfl,h3⟩
   ·rw[O6 hj] at h3;simp only[A_] at h3;rw[h3];exact hwc
   ·rw[O6 hj] at h3;simp only[A_] at h3;rw[h3];exact hwc.1
 obtain⟨G1,G2,t1,t2,t3,t4,t5,t6,t7,t8,t9,t10,t11⟩:=hG.take (md:= .jO) (by simp) (fun n e h=>h) htk A6M A44
 have h21:=t4 rfl
 rw[h21] at t9
 obtain⟨AMK,mR⟩:=Y0 E' _ _ _ htk
 obtain⟨f1,f2,f3,f4⟩:=eP (c:=c) (G:=G1) (w:=w) BY.VZ tk.x (D4 E' tk.nes) o6
 have f2:=f2 t9
 rw[f3] at t10 t11
 let E2:Env:={ nm:=fun n=>if BY.base<=n/\n<BY.base+cnts BY.VZ then D4 E' tk.nes (n-BY.base) else E'.nm n,ds:=fun t=>if t∈BY.dead then (fr'.getD t BK).den E' else E'.ds t,ins:=⟨fun n=>if BY.base<=n/\n<BY.base+cnts BY.VZ then (D4 E' tk.nes (n-BY.base)).ins.l else E'.ins.l n⟩ }
 have yP:∀ n,(BY.base<=n/\n<BY.base+cnts BY.VZ)->look L n=some .MB:=by
  intro n hn
  have:=KI.1 o2 (n-BY.base) (dQ.2 (by omega))
  have e:BY.base+(n-BY.base)=n:=by omega
  rw[e] at this
  unfold IL at this
  split at this
  ·assumption
  ·cases this
 have AZ7:∀ n,Al L n->¬(BY.base<=n/\n<BY.base+cnts BY.VZ):=fun n hn hx=>FA (yP n hx) hn
 have vH :∀ n,Al L n->E2.nm n=E'.nm n:=fun n hn=>AE (AZ7 n hn)
 have hE2:∀ n,Al L n->E2.nm n=E.nm n:=fun n hn=>(vH n hn).trans (N6.nm n hn).1
 have AT2:∀ j,j<cnts BY.VZ->E2.nm (BY.base+j)=D4 E' tk.nes j:=by
  intro j hj
  show (if _ then _ else _)=_
  rw[AA ⟨by omega,by omega⟩]
  congr 1;omega
 have AT3 :∀ n,Al L n->E2.ins.l n=E'.ins.l n:=fun n hn=>AE (AZ7 n hn)
 have A45:∀ j,j<cnts BY.VZ->E2.ins.l (BY.base+j)=(D4 E' tk.nes j).ins.l:=by
  intro j hj
  show (if _ then _ else _)=_
  rw[AA ⟨by omega,by omega⟩]
  congr 3;omega
 have eR:∀ n,n∈BY.boxes.map (·.1)++BY.rows.map (·.1)++BY.lost->Al L n:=by
  intro n hn
  have:=KI.1 o3 n hn
  unfold AN3 at this
  split at this
  ·rename_i e he;exact⟨e,he,by simpa using this⟩
  ·cases this
 have AKN:=APO BY s o6
 have A6N:∀ n∈(LH BY s).map (·.1),n<L.length:=by
  intro n hn
  rw[AKN] at hn
  simp only[dL.AAL,FG] at hn
  rcases hn with ((hn|hn)|hn)|hn
  ·obtain⟨e,he,_⟩:=eR n (by simp only[FG];exact .inr hn);exact AR he
  ·obtain⟨k,hk,rfl⟩:=DH.1 hn
   exact AR (yP _ ⟨by omega,by have:=dQ.1 hk;omega⟩)
  ·obtain⟨e,he,_⟩:=eR n (by simp only[FG];exact .inl (.inl hn));exact AR he
  ·obtain⟨e,he,_⟩:=eR n (by simp only[FG];exact .inl (.inr hn));exact AR he
 have AT4:=bR (LH BY s) L (by rw[AKN];exact o1) A6N
 have AN4:∀ n,n∉BY.AAL->look (AJ L (LH BY s)) n=look L n:=fun n hn=>(IB (by rw[AKN];exact hn)).1
 have AN5:∀ q∈LH BY s,(q.2= .dead/\q.1∈BY.lost)\/(∃ j,q.1=BY.base+j/\(Q9 BY.VZ tk.x)[j]? =some q.2)∨
   (∃ (j:Nat) (d:CT) (v:SV),BY.boxes[j]? =some (q.1,d)/\(outSVs BY.VZ tk.x BY.base)[BY.live.length+j]? =some v/\q.2= .box (BN v))\/(∃ (a:Ty) (xs:List a.T),look L' q.1=some (J_ a xs)/\q.2=J_ a xs/\q.1∈BY.rows.map (·.1)):=by
  intro q hq
  simp only[LH,FG] at hq
  rcases hq with hq|hq|hq|hq
  ·obtain⟨n,hn,rfl⟩:=DH.1 hq;exact .inl ⟨rfl,hn⟩
  ·rw[AHL] at hq;exact .inr (.inl (AE4 hq))
  ·obtain⟨j,d,v,h1,h2,h3⟩:=yN _ _ _ hq
   refine .inr (.inr (.inl ⟨j,d,v,h1, ?_,h3⟩))
   rw[dM] at h2
   unfold dL.svs at h2
   rw[AHL] at h2
   exact h2
  ·refine .inr (.inr (.inr ?_))
   have SR :=hq
   rw[A1C] at hq
   obtain⟨a,xs,h1,h2⟩:=yO _ _ hy q hq
   refine⟨a,xs,h1,h2, ?_⟩
   rw[<-m_ BY.rows (HT.right BY.VZ BY.csR s)]
   exact DH.2 ⟨q,SR,rfl⟩
 have NX:∀ n,Al L n->Al (AJ L (LH BY s)) n:=by
  intro n hn
  by_cases hns:n∈BY.AAL
  ·rw[<-AKN] at hns
   obtain⟨q,hq,rfl⟩:=DH.1 hns
   refine⟨q.2,AT4 q hq, ?_⟩
   rcases AN5 q hq with ⟨h,_⟩|⟨j,_,h⟩|⟨_,_,_,_,_,h⟩|⟨_,_,_,h,_⟩
   ·rw[h];rfl
   ·exact f4 _ (bZ h)
   ·rw[h];rfl
   ·rw[h];exact mM _ _
  ·obtain⟨e,tW,he2⟩:=hn
   exact⟨e,by rw[AN4 n hns];exact tW,he2⟩
 have A6O:∀ k,k<cnts BY.VZ->Al (AJ L (LH BY s)) (BY.base+k):=by
  intro k hk
  have DY:k<(Q9 BY.VZ tk.x).length:=by rw[f1];exact hk
  have hq:(BY.base+k,(Q9 BY.VZ tk.x)[k])∈LH BY s:=by
   simp only[LH,FG]
   refine .inr (.inl ?_)
   rw[AHL]
   have key:∀ (es:List A9) (n k:Nat) (h:k<es.length),(n+k,es[k])∈C9 n es:=by
    intro es
    induction es with
    |nil=>intro n k h;simp at h
    |cons e r ih=>
     intro n k h
     cases k with
     |zero=>simp [C9]
     |succ k=>
      simp only[C9,List.getElem_cons_succ]
      have:=ih (n+1) k (by simpa using h)
      have e1:n+1+k=n+(k+1):=by omega
      rw[e1] at this
      exact YB _ this
   exact key _ _ _ DY
  exact⟨_,AT4 _ hq,f4 _ (ABI DY)⟩
 have eA:∀ n,n∈BY.boxes.map (·.1)++BY.rows.map (·.1)->look (AJ L' tk.DU) n=look L' n:=by
  intro n hn
  have:=KI.1 o4 n hn
  simp only[IZ,b6,tI,wM] at this
  exact t7 n this.1 this.2
 have AZ8:MT E2 (AJ L (LH BY s)) (outSVs BY.VZ tk.x BY.base):=ACG _ _ _ o6 A6O
 have AT5:AN E' (BY.live.map (fun q=>fr'.getD q.1 BK)++bs)=AN E2 (outSVs BY.VZ tk.x BY.base):=mR E2 BY.base AT2
 have AGT:∀ (j:Nat) (n:Nat) (d:CT) (v:SV),BY.boxes[j]? =some (n,d)->(outSVs BY.VZ tk.x BY.base)[BY.live.length+j]? =some v→
   ∃ cs,look L' n=some (.box cs)/\AN E2 (BN v)=AN E' cs/\MT E2 (AJ L (LH BY s)) (BN v):=by
  intro j n d v hj hv
  obtain⟨b1,b2⟩:=aE _ _ MS
  obtain⟨cs,h1,h2⟩:=b2 j n d hj
  have hvw:v.wf E2 (AJ L (LH BY s)):=B1.1 AZ8 v (bZ hv)
  refine⟨cs,h1, ?_,RW hvw⟩
  have vD:j<bs.length:=by
   rcases h2 with ⟨_,h3⟩|⟨_,_,_,h3⟩
   all_goals
    rcases IG j bs.length with h|h
    ·exact h
    ·rw[IF h] at h3;cases h3
  have hdv:v.den E2=(bs[j]).den E' :=by
   have:=KL (fun l=>l[BY.live.length+j]?) AT5
   simp only[F_,hv,dO] at this
   rw[SI (by simp),V6,Nat.add_sub_cancel_left,O6 vD] at this
   simp only[dO,A_] at this
   exact this.symm
  obtain⟨d',z,m,g1,g2,_,_⟩:=yM _ _ _ _ _ hv
  have hd' :d' =d:=by
   have:BY.VZ[BY.live.length+j]? =some d:=by
    unfold dL.VZ
    rw[SI (by simp),V6,Nat.add_sub_cancel_left,ABD,hj];rfl
   rw[this] at g1;simp only[A_] at g1;exact g1.symm
  subst hd'
  have AWG:d'.ptr=false:=by
   have:=KI.1 o6 d' (bZ g1)
   simpa using this
  rcases h2 with ⟨ha,h3⟩|⟨ha,u,rfl,h3⟩
  ·rw[O6 vD] at h3
   simp only[A_] at h3
   rw[h3,g2] at hdv
   rw[g2]
   unfold V8 at hdv ⊢
   rw[AWG,ha] at hdv ⊢
   simp only[SV.den,Value.agg.injEq] at hdv
   have:=KL Array.toList hdv
   simpa [BN] using this
  ·rw[O6 vD] at h3
   simp only[A_] at h3
   rw[h3] at hdv
   have hcv:BN v=[v]:=by
    rw[g2]
    unfold V8
    rw[AWG,ha]
    simp only
    cases hu:I1 d'.t z m with
    |nil=>rfl
    |cons x r=>exact APP d'.t z m x (by rw[hu];simp)
   rw[hcv]
   simp [AN,hdv]
 have AKO:∀ (n:Nat) (e:A9) (b:Nat),look (AJ L (LH BY s)) n=some e->e.ow E2 n b→
   (∃ j,n=BY.base+j/\(Q9 BY.VZ tk.x)[j]? =some e/\b∈e.YD (D4 E' tk.nes j))\/(∃ f,look (AJ L' tk.DU) n=some f/\f.ow E' n b):=by
  intro n e b he hb
  by_cases hns:n∈BY.AAL
  ·rw[<-AKN] at hns
   obtain⟨q,hq,rfl⟩:=DH.1 hns
   have:=AT4 q hq
   rw[he] at this
   simp only[A_] at this
   subst this
   rcases AN5 q hq with ⟨h,_⟩|⟨j,h1,h2⟩|⟨j,d,v,h1,h2,h3⟩|⟨a',xs,h1,h2,h3⟩
   ·rw[h] at hb;rcases hb with hb|⟨hb,_⟩|⟨hb,_⟩ <;> cases hb
   ·have hj:j<cnts BY.VZ:=by
     rcases IG j (Q9 BY.VZ tk.x).length with h|h
     ·rwa [f1] at h
     ·rw[IF h] at h2;cases h2
    rw[h1,A9.ADI (AT2 j hj) (A45 j hj)] at hb
    exact .inl ⟨j,h1,h2,hb⟩
   ·obtain⟨cs,k1,_,_⟩:=AGT j q.1 d v h1 h2
    have MR:q.1∈BY.boxes.map (·.1):=DH.2 ⟨_,bZ h1,rfl⟩
    have rB:=eR q.1 (by simp only[FG];exact .inl (.inl MR))
    rw[A9.iK ⟨vH _ rB,AT3 _ rB⟩,h3,A9.iI rfl] at hb
    exact .inr ⟨.box cs,by rw[eA q.1 (FG.2 (.inl MR))];exact k1,.inl hb⟩
   ·have rB:=eR q.1 (by simp only[FG];exact .inl (.inr h3))
    rw[A9.iK ⟨vH _ rB,AT3 _ rB⟩,h2] at hb
    exact .inr ⟨J_ a' xs,by rw[eA q.1 (FG.2 (.inr h3))];exact h1,hb⟩
  ·rw[AN4 n hns] at he
   have DY:=AR he
   have hnr:e.IL=false:=by cases e <;> first|rfl|(rcases hb with hb|⟨hb,_⟩|⟨hb,_⟩ <;> cases hb)
   have rB:Al L n:=⟨e,he,hnr⟩
   have h5:=KI.1 o5 n (dQ.2 DY)
   simp only[oF,IZ,XM,b6,tI,wM,LD] at h5
   rcases h5 with (h5|h5)|⟨⟨h5,h6⟩,h7⟩
   ·unfold IL at h5;rw[he] at h5;cases e <;> first|(cases hnr;done)|(cases h5;done)
   ·exact absurd h5 hns
   ·rw[A9.iK ⟨vH _ rB,AT3 _ rB⟩] at hb
    right
    have A1A :n<L'.length:=by rw[N6.AE1.1];exact DY
    have CZ:look L' n=some e:=eQ N6.AE1 he h5
    exact⟨e,by rw[t7 n h6 h7];exact CZ,hb⟩
 have A1D:AT c G1 w E2 (AJ L (LH BY s)):=by
  refine⟨t1.rest,t1.size,t1.old,t1.gin,t1.glo,t1.ghi, ?_, ?_, ?_,t1.tab⟩
  ·intro n e he
   by_cases hns:n∈BY.AAL
   ·rw[<-AKN] at hns
    obtain⟨q,hq,rfl⟩:=DH.1 hns
    have:=AT4 q hq
    rw[he] at this
    simp only[A_] at this
    subst this
    rcases AN5 q hq with ⟨h,_⟩|⟨j,h1,h2⟩|⟨j,d,v,h1,h2,h3⟩|⟨a',xs,h1,h2,h3⟩
    ·rw[h];trivial
    ·have hj:j<cnts BY.VZ:=by
      rcases IG j (Q9 BY.VZ tk.x).length with h|h
      ·rwa [f1] at h
      ·rw[IF h] at h2;cases h2
     have hm:=f2 j _ h2
     rw[h1,AT2 j hj]
     generalize q.2=e at hm
     cases e <;> first|exact hm|exact hm.elim|trivial
    ·obtain⟨cs,k1,k2,k3⟩:=AGT j q.1 d v h1 h2
     have MR:q.1∈BY.boxes.map (·.1):=DH.2 ⟨_,bZ h1,rfl⟩
     have rB:=eR q.1 (by simp only[FG];exact .inl (.inl MR))
     obtain⟨p1,p2,p3,p4,⟨ty,p5⟩,p6⟩:=t1.MQ q.1 (.box cs) (by rw[eA q.1 (FG.2 (.inl MR))];exact k1)
     rw[h3,vH _ rB]
     exact⟨p1,p2,p3,p4,⟨ty,by rw[k2];exact p5⟩,k3⟩
    ·have rB:=eR q.1 (by simp only[FG];exact .inl (.inr h3))
     have:=t1.MQ q.1 (J_ a' xs) (by rw[eA q.1 (FG.2 (.inr h3))];exact h1)
     rw[h2,vH _ rB]
     cases a' with
     |pair a b=>cases a <;> cases b <;> exact this
     |_=>exact this
   ·have he0:=he
    rw[AN4 n hns] at he
    have DY:=AR he
    cases hr:e.IL with
    |true=>cases e <;> first|trivial|cases hr
    |false=>
     have rB:Al L n:=⟨e,he,hr⟩
     have h5:=KI.1 o5 n (dQ.2 DY)
     simp only[oF,IZ,XM,b6,tI,wM,LD] at h5
     rcases h5 with (h5|h5)|⟨⟨h5,h6⟩,h7⟩
     ·unfold IL at h5;rw[he] at h5;cases e <;> first|(cases hr;done)|(cases h5;done)
     ·exact absurd h5 hns
     ·have A1A :n<L'.length:=by rw[N6.AE1.1];exact DY
      have CZ:look L' n=some e:=eQ N6.AE1 he h5
      have xY:=t1.MQ n e (by rw[t7 n h6 h7];exact CZ)
      have AHM:=hH0.MQ n e he
      rw[vH _ rB]
      cases e with
      |box cs=>
       obtain⟨p1,p2,p3,p4,⟨ty,p5⟩,p6⟩:=xY
       obtain⟨x1,x2⟩:=MC NX hE2 cs AHM.2.2.2.2.2
       obtain⟨_,x4⟩:=MC (fun n hn=>(N6.nm n hn).2) (fun n hn=>(N6.nm n hn).1) cs AHM.2.2.2.2.2
       exact⟨p1,p2,p3,p4,⟨ty,by rw[x2,←x4];exact p5⟩,x1⟩
      |ptr j=>
       obtain⟨y1,⟨arr,ty,fz,y2,y3⟩,_⟩:=xY
       have y4:=AHM.2.2
       exact⟨y1,⟨arr,ty,fz,y2,by rw[vH j y4];exact y3⟩,NX j y4⟩
      |_=>exact xY
  ·intro n t xss hq he
   by_cases hns:n∈BY.AAL
   ·rw[<-AKN] at hns
    obtain⟨q,SR,rfl⟩:=DH.1 hns
    have:=AT4 q SR
    rw[he] at this
    simp only[A_] at this
    rcases AN5 q SR with ⟨h,_⟩|⟨j,h1,h2⟩|⟨j,d,v,h1,h2,h3⟩|⟨a',xs,h1,h2,h3⟩
    ·rw[h] at this;cases this
    ·have hj:j<cnts BY.VZ:=by
      rcases IG j (Q9 BY.VZ tk.x).length with h|h
      ·rwa [f1] at h
      ·rw[IF h] at h2;cases h2
     have hm:=f2 j _ h2
     rw[<-this] at hm
     obtain⟨rfl,hm⟩:=hm
     rw[h1,AT2 j hj,A45 j hj]
     exact hm.env ⟨rfl,rfl,rfl,rfl,rfl⟩
    ·rw[h3] at this;cases this
    ·have rB:=eR q.1 (by simp only[FG];exact .inl (.inr h3))
     rw[h2] at this
     cases a' with
     |slice b=>
      simp only[J_,A9.deep.injEq] at this
      obtain⟨rfl,hx,rfl⟩:=this
      cases hx
      have:=t1.dp q.1 t xss none (by rw[eA q.1 (FG.2 (.inr h3))];exact h1)
      rw[vH _ rB,AT3 _ rB]
      exact this.env ⟨rfl,rfl,rfl,rfl,rfl⟩
     |pair a b=>cases a <;> cases b <;> cases this
     |_=>cases this
   ·rw[AN4 n hns] at he
    have DY:=AR he
    have rB:Al L n:=⟨_,he,rfl⟩
    have h5:=KI.1 o5 n (dQ.2 DY)
    simp only[oF,IZ,XM,b6,tI,wM,LD] at h5
    rcases h5 with (h5|h5)|⟨⟨h5,h6⟩,h7⟩
    ·unfold IL at h5;rw[he] at h5;cases h5
    ·exact absurd h5 hns
    ·have CZ:look L' n=some _:=eQ N6.AE1 he h5
     have xY:=t1.dp n t xss hq (by rw[t7 n h6 h7];exact CZ)
     have AHM:=hH0.dp n t xss hq he
     rw[vH _ rB,AT3 _ rB]
     refine⟨xY.len,xY.off,xY.nd,xY.all, ?_⟩
     rcases xY.cs with hc|⟨h1,h2,h3,arr,ty,hs,h4,h5,h6,h7,h8,h9⟩
     ·exact .inl hc
     ·refine .inr ⟨h1,h2,h3,arr,ty,hs,h4,h5,h6,h7,h8,fun k j hk hl=> ?_⟩
      have hAj:Al L j:=by
       rcases AHM.cs with ⟨_,hc,_⟩|⟨_,_,_,_,_,_,_,_,_,_,_,g9⟩
       ·rw[hc] at hl;cases hl
       ·exact (g9 k j hk hl).2
      exact⟨by rw[vH _ hAj];exact (h9 k j hk hl).1,NX j hAj⟩
  ·intro n k e f b hnk hn hk he hf
   rcases AKO n e b hn he with ⟨j,rfl,hj1,iU⟩|⟨g,hg1,vS⟩
   ·rcases AKO k f b hk hf with ⟨j',rfl,AX5,AX6⟩|⟨g,hg1,vS⟩
    ·rcases Nat.lt_or_gt_of_ne (show j≠j' by omega) with DY|DY
     ·exact sE _ _ t10 j j' e f DY hj1 AX5 iU AX6
     ·exact sE _ _ t10 j' j f e DY AX5 hj1 AX6 iU
    ·exact t11 b (I3 _ _ _ hj1 iU) k g hg1 vS
   ·rcases AKO k f b hk hf with ⟨j',rfl,AX5,AX6⟩|⟨g',A6P,A6Q⟩
    ·exact t11 b (I3 _ _ _ AX5 AX6) n g hg1 vS
    ·exact t1.inj n k g g' b hnk hg1 A6P vS A6Q
 rw[PB] at wr4
 obtain⟨nd1,nd2,nd3⟩:=wr4
 have AT6:(aD BY fr s).length=fr'.length:=by unfold aD;rw[YH,YH,N6.len]
 have A1E:((BY.live.map (·.1)).zip (BY.svs s)).map (·.1)=BY.live.map (·.1):=by
  apply List.map_fst_zip
  unfold dL.svs
  rw[OZ]
  simp [dL.VZ]
 have pA:∀ t,t<fr'.length->((aD BY fr s).getD t BK).den E2=(fr'.getD t BK).den E' /\(((aD BY fr s).getD t BK).wf E2 (AJ L (LH BY s))\/(aD BY fr s).getD t BK= .unk t):=by
  intro t ht
  have htf:t<fr.length:=by rw[<-N6.len];exact ht
  by_cases M7:t∈BY.live.map (·.1)
  ·obtain⟨j,hj,hjt⟩:=wP M7
   have vD:j<BY.live.length:=by simpa using hj
   have hjs:j<(outSVs BY.VZ tk.x BY.base).length:=by rw[OZ];simp [dL.VZ];omega
   have A6R :j<(BY.svs s).length:=by unfold dL.svs;rw[AHL];exact hjs
   have MR:(t,(BY.svs s)[j])∈(BY.live.map (·.1)).zip (BY.svs s):=by
    rw[<-hjt]
    have:((BY.live.map (·.1)).zip (BY.svs s))[j]'(by simp;omega)=((BY.live.map (·.1))[j],(BY.svs s)[j]):=List.getElem_zip
    rw[<-this]
    exact ABI _
   have AX7:(aD BY fr s).getD t BK=(BY.svs s)[j]:=ACH _ _ (by rw[A1E];exact nd1) MR (by rw[YH];exact htf)
   have hsv:(BY.svs s)[j]? =(outSVs BY.VZ tk.x BY.base)[j]? :=by unfold dL.svs;rw[AHL]
   rw[O6 A6R,O6 hjs] at hsv
   simp only[A_] at hsv
   rw[AX7,hsv]
   refine⟨?_,.inl (B1.1 AZ8 _ (ABI hjs))⟩
   have:=KL (fun l=>l[j]?) AT5
   simp only[F_] at this
   rw[V4 (by simpa using vD),O6 hjs,ABD,O6 vD] at this
   simp only[dO,A_] at this
   rw[<-this]
   simp only[rH] at hjt
   rw[hjt]
  ·have h1:(aD BY fr s).getD t BK=(UH fr (BY.dead.map fun t=>(t,.unk t))).getD t BK:=by
    unfold aD
    refine WE _ _ _ fun q hq he=>M7 ?_
    rw[<-he,←A1E]
    exact DH.2 ⟨q,hq,rfl⟩
   by_cases Y3:t∈BY.dead
   ·have h2:(UH fr (BY.dead.map fun t=>(t,.unk t))).getD t BK= .unk t:=
     ACH _ _ (by rw[XB];have:(BY.dead.map ((·.1)∘fun t=>(t,SV.unk t)))=BY.dead:=(by simp [ABC]);rw[this];exact nd2) (DH.2 ⟨t,Y3,rfl⟩) htf
    rw[h1,h2]
    exact⟨by show (if t∈BY.dead then _ else _)=_;rw[AA Y3],.inr rfl⟩
   ·have h2:(UH fr (BY.dead.map fun t=>(t,.unk t))).getD t BK=fr.getD t BK:=WE _ _ _ fun q hq he=>by
     obtain⟨t',ht',rfl⟩:=DH.1 hq
     simp only at he;subst he
     exact Y3 ht'
    have hW:t∉W:=by
     intro hw
     have:=KI.1 wr1 t hw
     simp only[oF,tI,LD] at this
     rcases this with h|h
     ·exact M7 h
     ·exact Y3 h
    rw[h1,h2,N6.out t hW]
    rcases hF0 t with vT|A6S
    ·obtain⟨x1,x2⟩:=Z7 NX hE2 _ vT
     obtain⟨_,x4⟩:=Z7 (fun n hn=>(N6.nm n hn).2) (fun n hn=>(N6.nm n hn).1) _ vT
     exact⟨x2.trans x4.symm,.inl x1⟩
    ·rw[A6S]
     exact⟨by show (if t∈BY.dead then _ else _)=_;rw[AE Y3];rfl,.inr rfl⟩
 refine⟨E2,⟨⟨?_,hst.sim.2⟩,⟨G1,A1D⟩, ?_⟩, ?_,fun p hp' => ?_⟩
 rotate_right
 ·have h:=KI.1 A43 p hp'
  simp only[IZ,LD] at h
  obtain⟨⟨⟨h1,h2⟩,h3⟩,h4⟩:=h
  have rB:Al L p.2.1:=by
   unfold AN3 at h4
   split at h4
   ·rename_i e he;exact⟨e,he,by simpa using h4⟩
   ·cases h4
  have e1:=AT2 (p.1-BY.base) (by omega)
  rw[show BY.base+(p.1-BY.base)=p.1 by omega] at e1
  rw[e1,vH _ rB]
  unfold iM at h3
  split at h3
  ·rename_i i hi
   have:i=p.2.1:=by simpa using h3
   simp only[D4,hi,NE.nm,this]
  ·cases h3
 ·rw[hst.sim.1]
  congr 1
  apply XA
  intro i
  rw[F_,F_]
  by_cases hi:i<fr'.length
  ·have:=(pA i hi).1
   have hi2:i<(aD BY fr s).length:=by rw[AT6];exact hi
   simp only[List.getD,O6 hi,O6 hi2,AG6] at this
   rw[O6 hi,O6 hi2]
   simp [this]
  ·rw[IF (by omega),IF (by omega)];rfl
 ·intro t
  by_cases ht:t<fr'.length
  ·exact (pA t ht).2
  ·left
   have:(aD BY fr s).getD t BK=BK:=by
    simp only[List.getD]
    rw[IF (by omega)];rfl
   rw[this];trivial
 ·refine⟨fun n hn=>⟨hE2 n hn,NX n hn⟩,fun t ht=> ?_,eK.AJ _ _,by rw[AT6,N6.len],fun t ht=> ?_⟩
  ·have hd:t∉BY.dead:=fun hd=>ht (by have:=KI.1 wr3 t hd;simpa using this)
   show (if t∈BY.dead then _ else _)=_
   rw[AE hd];exact N6.ds t ht
  ·have hd:t∉BY.dead:=fun hd=>ht (by have:=KI.1 wr3 t hd;simpa using this)
   have hl:t∉BY.live.map (·.1):=fun hd=>ht (by have:=KI.1 wr2 t hd;simpa using this)
   unfold aD
   rw[WE _ _ _ (fun q hq he=>hl (by rw[<-he,←A1E];exact DH.2 ⟨q,hq,rfl⟩)),WE _ _ _ fun q hq he=>by
    obtain⟨t',ht',rfl⟩:=DH.1 hq
    simp only at he;subst he
    exact hd ht']
theorem yQ {c:EX TB} {W:List Nat} {E:Env} {fr:List SV} {L:AM} {E2:Env} {fr2:List SV} {a:Act} {w:World}:∀ (pins:List (Nat×Nat×Nat)) (L2:AM),St c E2 fr2 L2 a w->Ext W E fr L E2 fr2 L2->(∀ p∈pins,E2.nm p.1=E2.nm p.2.1)→
  St c E2 fr2 (Y4 pins L2) a w/\Ext W E fr L E2 fr2 (Y4 pins L2)
 | [],L2,h1,h2,_=>⟨h1,h2⟩
 |(k,o,i)::r,L2,h1,h2,hp=>by
  unfold Y4
  split
  ·rename_i t xs cs k1 k2 k3
   obtain⟨G,hG⟩:=h1.hd
   obtain⟨r1,r2⟩:=ABW hG k1 k2 k3 (hp _ (by simp:(k,o,i)∈(k,o,i)::r))
   refine yQ r _ ⟨h1.sim,⟨G,r1⟩,fun t=> ?_⟩ ⟨fun n hn=>⟨(h2.nm n hn).1,r2 n (h2.nm n hn).2⟩,h2.ds,h2.AE1.trans (eK.AJ _ _),h2.len,h2.out⟩ (fun p hp' =>hp p (by simp [hp']))
   rcases h1.wf t with h|h
   ·exact .inl (Z7 r2 (fun _ _=>rfl) _ h).1
   ·exact .inr h
  ·exact yQ r _ h1 h2 (fun p hp' =>hp p (by simp [hp']))
theorem AT7 {BY:dL} (hwr:AT0 BY W=true) {c:EX TB} {w0:World} {fr:List SV} {G0:Nat->Prop} (hH0:AT c G0 w0 E L) (hF0:AE0 E L fr)
  {E' :Env} (hst:St c E' fr' L' a w) (N6:Ext W E fr L E' fr' L') {s:BY.T} (hp:eN BY L fr' L' =some s):
  ∃ E2,St c E2 (aD BY fr s) (Y4 BY.pins (AJ L (LH BY s))) a w/\Ext W E fr L E2 (aD BY fr s) (Y4 BY.pins (AJ L (LH BY s))):=by
 obtain⟨E2,h1,h2,h3⟩:=A1B hwr hH0 hF0 hst N6 hp
 exact⟨E2,yQ _ _ h1 h2 h3⟩
end Go.V3
namespace Go.V3
open Go
variable {TB:Tb}
section
variable {P:Program}
def AAM {α:Type} (W:List Nat) (c:EX TB) (E:Env) (fr:List SV) (L:AM) (K:Exit->List SV->AM->Option α) (r0:α):Exit->Act->World->Prop:=
 fun e a' w' =>∃ E' fr' L',St c E' fr' L' a' w' /\Ext W E fr L E' fr' L' /\K e fr' L' =some r0
variable {α β:Type}
theorem map_inl {x:Option α} {r:α ⊕ β} (h:x.map Sum.inl=some r):∃ y,x=some y/\r= .inl y:=by
 cases x with
 |none=>cases h
 |some y=>simp only[dO,A_] at h;exact⟨y,rfl,h.symm⟩
theorem map_inr {x:Option β} {r:α ⊕ β} (h:x.map Sum.inr=some r):∃ y,x=some y/\r= .inr y:=by
 cases x with
 |none=>cases h
 |some y=>simp only[dO,A_] at h;exact⟨y,rfl,h.symm⟩
theorem AN6 (n i:Nat):¬isL (Array.replicate n false) i:=by
 unfold isL
 simp only[Array.getD_eq_getD_getElem?,Array.getElem?_replicate]
 split <;> simp
variable {L:AM} {E:Env} {a:Act} {w:World} {cx:Cx}
theorem AT8 {id:Nat} {c:EX cx.tb} {fr:List SV} {K:AM->Option α} {r:α} (h:AT1 cx id fr L K=some r) (hs:St c E fr L a w):
  ∃ E' L',K L' =some r/\St c E' fr L' a w/\Ext [] E fr L E' fr L' :=by
 unfold AT1 at h
 split at h
 ·exact⟨E,L,h,hs,.refl _ _ _ _⟩
 split at h
 rotate_left
 ·cases h
 rename_i s t bs _ _ _ i n hv hn
 split at h
 rotate_left
 ·cases h
 rename_i ty xss h' hl
 split at h
 rotate_left
 ·cases h
 rename_i D8
 split at h
 rotate_left
 ·cases h
 rename_i ys u hcl
 split at h
 rotate_left
 ·cases h
 rename_i hb
 have MS:look L bs=some .MB:=by have:=DA D8 0 (by omega);simpa using this
 obtain⟨G,hG⟩:=hs.hd
 obtain⟨E1,c1,c2,c3,c4,c5,c6,c7⟩:=iT (AQ:=look L) (fun _ _ h=>h) hG hl hcl
 have VJ:(E1.nm i).nil=false:=by
  rcases (c1.dp i _ _ _ c4).cs with ⟨_,hc,_⟩|⟨hn,_⟩
  ·rw[hc] at hb;simp at hb;omega
  ·exact hn
 obtain⟨E2,t1,t2,t3,arr,tt,t4,t5⟩:=c1.AYZ c4 (c6 bs MS) VJ (by omega:n.toNat<ys.length)
 rw[<-BS] at t1
 have NX:∀ k,Al L k->E2.nm k=E.nm k/\Al (AJ L (u++ [(bs,.dead),(i,.deep ty ys (some (n.toNat,bs))),(bs,.row ty (ys.getD n.toNat []))])) k:=by
  intro k hk
  refine⟨by rw[t2 k (fun he=>FA (he ▸ MS) hk),c2], ?_⟩
  rw[BS]
  exact BZ rfl k (BZ rfl k (BZ rfl k (c5 k hk)))
 obtain⟨d1,d2⟩:=eL hs.wf NX (t3.trans c3)
 exact⟨E2,_,h,⟨⟨by rw[d1];exact hs.sim.1,hs.sim.2⟩,⟨G,t1⟩,d2⟩,⟨NX,fun t _=>by rw[t3.trans c3],.AJ _ _,rfl,fun _ _=>rfl⟩⟩
theorem RY {c:EX TB} {w:World} {fr:List SV} {a:Act}:∀ (rows:List (Nat×Ty)) {E:Env} {L:AM},St c E fr L a w->∃ E',St c E' fr (H7 rows L) a w/\Ext [] E fr L E' fr (H7 rows L)
 | [],E,L,hs=>⟨E,hs,.refl _ _ _ _⟩
 |q::r,E,L,hs=>by
  have h1:∃ E',St c E' fr (AE2 L q.1) a w/\Ext [] E fr L E' fr (AE2 L q.1):=by
   unfold AE2
   split
   ·rename_i t xss h hl
    split
    ·rename_i ys u hc
     obtain⟨G,hG⟩:=hs.hd
     obtain⟨E',k1,k2,k3,k4,k5,k6,k7⟩:=iT (AQ:=look L) (fun _ _ h=>h) hG hl hc
     obtain⟨d1,d2⟩:=eL hs.wf (fun n hn=>⟨k2 n,k5 n hn⟩) k3
     exact⟨E',⟨⟨by rw[d1];exact hs.sim.1,hs.sim.2⟩,⟨G,k1⟩,d2⟩,⟨fun n hn=>⟨k2 n,k5 n hn⟩,fun t _=>by rw[k3],.AJ _ _,rfl,fun _ _=>rfl⟩⟩
    ·exact⟨E,hs,.refl _ _ _ _⟩
   ·exact⟨E,hs,.refl _ _ _ _⟩
  obtain⟨E1,h1,h2⟩:=h1
  obtain⟨E2,h3,h4⟩:=RY r h1
  exact⟨E2,h3,h2.trans h4⟩
set_option maxHeartbeats 1000000 in
theorem A46 (hcx:cx.Ok P):∀ (c:Code) (α:Type) (YS:Nat) (K:Exit->List SV->AM->Option α) (fr:List SV) (L:AM) (r0:α),rk P cx c α YS K fr L=some r0→
  ∀ (cf:EX cx.tb) (E:Env) (a:Act) (w:World),St cf E fr L a w->c.wp P (AAM (writes c) cf E fr L K r0) a w:=by
 intro c
 induction c with
 |skip=>exact fun α YS K fr L r0 h cf E a w hs=>wp_skip ⟨E,fr,L,hs,.refl _ _ _ _,h⟩
 |label l=>exact fun α YS K fr L r0 h cf E a w hs=>wp_label ⟨E,fr,L,hs,.refl _ _ _ _,h⟩
 |ret=>exact fun α YS K fr L r0 h cf E a w hs=>wp_ret ⟨E,fr,L,hs,.refl _ _ _ _,h⟩
 |exit id=>exact fun α YS K fr L r0 h cf E a w hs=>wp_exit ⟨E,fr,L,hs,.refl _ _ _ _,h⟩
 |region id ops draw=>
  intro α YS K fr L r0 h cf E a w hs
  have hW:∀ o∈ops.toList,∀ d,o.dst=some d->d∈writes (.region id ops draw):=by
   intro o ho d hd
   exact ALX.2 ⟨o,ho,hd⟩
  simp only[rk] at h
  obtain⟨E1,L1,h,hs,hx0⟩:=AT8 h hs
  have hx0:Ext (writes (.region id ops draw)) E fr L E1 fr L1:=hx0.mono (fun _ h=>by cases h)
  refine wp_mono (Q:=AAM (writes (.region id ops draw)) cf E1 fr L1 K r0) ?_ (fun e a' w' ⟨E',fr',L',k1,k2,k3⟩=>⟨E',fr',L',k1,hx0.trans k2,k3⟩)
  clear hx0
  generalize E1=E at hs ⊢
  generalize L1=L at hs h ⊢
  split at h
  ·split at h
   rotate_left
   ·cases h
   rename_i hck
   simp only[IZ] at hck
   refine wp_region_any hck.2 ?_
   obtain⟨s',fs,r1,r2,r3,_⟩:=AHE ops.toList 0 [] fr L (by simp) h
   have hs' :St cf E fr L a { w with drawn:=w.drawn+1 }:=⟨hs.sim,(by
    obtain⟨G,hG⟩:=hs.hd
    exact⟨G,hG.world rfl ⟨rfl,rfl,rfl⟩⟩),hs.wf⟩
   have:=A17 (P:=P) (Q:=AAM (writes (.region id ops true)) cf E fr L K r0) hcx hck.1 (W:=writes (.region id ops true)) (fun i o ho d hd=>hW o (by rw[<-mH] at ho;exact bZ ho) d hd) (fr0:=fr) (L0:=L) (E0:=E) (s' :=s')
    (fun E' a' w' h1 h2=>⟨E',s'.1,s'.2,h1,h2,r2⟩) ops.size (List.range' 0 ops.toList.length) (Array.replicate ops.size false) fs (fr,L) E a _ (by simp) ⟨by simp,fun i=> ?_, ?_, ?_⟩ r1 r3 hs' (.refl _ _ _ _)
   ·exact this
   ·simp only[List.mem_range'_1,oI,lQ,NV,Array.length_toList]
    constructor
    ·intro hi;exact⟨hi,AN6 _ _⟩
    ·exact fun hi=>hi.1
   ·exact List.pairwise_lt_range'
   ·intro i o _ hl
    exact absurd hl (AN6 _ _)
  ·refine wp_region ?_
   have:=AHB hcx (ops:=ops) (Q:=AAM (writes (.region id ops false)) cf E fr L K r0) (W:=writes (.region id ops false)) (c:=cf) (fr0:=fr) (L0:=L) (E0:=E)
    (K:=fun fr' L' =>K .normal fr' L') (r0:=r0) (fun E' fr' L' a' w' h1 h2 h3=>⟨E',fr',L',h1,h2,h3⟩) ops.toList 0 (by simp) hW E fr L a w hs (.refl _ _ _ _) h
   rw[ARE]
   simpa using this
 |seq x y ihx ihy=>
  intro α YS K fr L r0 h cf E a w hs
  refine wp_seq ?_
  have hx:∀ t,t∈writes x->t∈writes (.seq x y):=fun t ht=>FG.2 (.inl ht)
  have hy:∀ t,t∈writes y->t∈writes (.seq x y):=fun t ht=>FG.2 (.inr ht)
  simp only[rk] at h
  split at h
  ·refine wp_mono (ihx α YS _ fr L r0 h cf E a w hs) ?_
   rintro e a' w' ⟨E',fr',L',h1,h2,h3⟩
   cases e with
   |normal=>
    refine wp_mono (ihy α YS K fr' L' r0 h3 cf E' a' w' h1) ?_
    rintro e a'' w'' ⟨E'',A1F,L'',k1,k2,k3⟩
    exact⟨E'',A1F,L'',k1,(h2.mono hx).trans (k2.mono hy),k3⟩
   |exit id=>exact⟨E',fr',L',h1,h2.mono hx,h3⟩
   |goto id=>exact⟨E',fr',L',h1,h2.mono hx,h3⟩
   |ret=>exact⟨E',fr',L',h1,h2.mono hx,h3⟩
   |panic ch=>exact⟨E',fr',L',h1,h2.mono hx,h3⟩
   |outgrown=>exact⟨E',fr',L',h1,h2.mono hx,h3⟩
  ·rename_i BY _
   split at h
   rotate_left
   ·cases h
   rename_i hwr
   rw[AFR] at h
   obtain⟨q,hq,hk⟩:=h
   obtain⟨Ec,hsc,hxc⟩:=RY BY.rows hs
   obtain⟨G0,hG0⟩:=hsc.hd
   refine wp_mono (ihx _ YS _ fr _ q hq cf Ec a w hsc) ?_
   rintro e a' w' ⟨E',fr',L',h1,h2,h3⟩
   have other:∀ e',(K e' fr' L').map Sum.inr=some q->AAM (writes (.seq x y)) cf E fr L K r0 e' a' w' :=by
    intro e' hm
    obtain⟨b,hb,rfl⟩:=map_inr hm
    simp only[A_] at hk
    subst hk
    exact⟨E',fr',L',h1,(hxc.mono (fun _ h=>by cases h)).trans (h2.mono hx),hb⟩
   cases e with
   |normal=>
    obtain⟨s,hp,rfl⟩:=map_inl h3
    obtain⟨Ed,hsd,hxd⟩:=RY BY.rows h1
    obtain⟨E2,g1,g2⟩:=AT7 hwr hG0 hsc.wf hsd (h2.trans (hxd.mono (fun _ h=>by cases h))) hp
    refine wp_mono (ihy α YS K _ _ r0 hk cf E2 a' w' g1) ?_
    rintro e a'' w'' ⟨E'',A1F,L'',k1,k2,k3⟩
    exact⟨E'',A1F,L'',k1,(hxc.mono (fun _ h=>by cases h)).trans ((g2.mono hx).trans (k2.mono hy)),k3⟩
   |exit id=>exact other _ h3
   |goto id=>exact other _ h3
   |ret=>exact other _ h3
   |panic ch=>exact other _ h3
   |outgrown=>exact other _ h3
 |cond c x y ihx ihy=>
  intro α YS K fr L r0 h cf E a w hs
  have hx:∀ t,t∈writes x->t∈writes (.cond c x y):=fun t ht=>FG.2 (.inl ht)
  have hy:∀ t,t∈writes y->t∈writes (.cond c x y):=fun t ht=>FG.2 (.inr ht)
  have kx:rk P cx x α YS K fr L=some r0->x.wp P (AAM (writes (.cond c x y)) cf E fr L K r0) a w:=fun h=>
   wp_mono (ihx α YS K fr L r0 h cf E a w hs) fun e a' w' ⟨E',fr',L',h1,h2,h3⟩=>⟨E',fr',L',h1,h2.mono hx,h3⟩
  have ky:rk P cx y α YS K fr L=some r0->y.wp P (AAM (writes (.cond c x y)) cf E fr L K r0) a w:=fun h=>
   wp_mono (ihy α YS K fr L r0 h cf E a w hs) fun e a' w' ⟨E',fr',L',h1,h2,h3⟩=>⟨E',fr',L',h1,h2.mono hy,h3⟩
  have he:=ARM hs.sim c
  simp only[rk] at h
  split at h
  ·rename_i b hb
   rw[hb] at he
   split at h
   ·exact wp_cond_true he (kx h)
   ·exact wp_cond_false he (ky h)
  ·rename_i b hb
   rw[hb] at he
   split at h
   ·rename_i hbt;subst hbt;exact wp_cond_true he (kx h)
   ·rename_i hbt
    have:b=false:=by simpa using hbt
    subst this;exact wp_cond_false he (ky h)
  ·rename_i p d hb
   rw[hb] at he
   by_cases hp:p
   ·simp only[hp,HP] at h;exact wp_cond_true (by rw[he];simp [SV.den,hp]) (kx h)
   ·simp only[hp,KK] at h;exact wp_cond_false (by rw[he];simp [SV.den,hp]) (ky h)
  ·cases h
 |block id c ih=>
  intro α YS K fr L r0 h cf E a w hs
  refine wp_block ?_
  simp only[rk] at h
  refine wp_mono (ih α id _ fr L r0 h cf E a w hs) ?_
  rintro e a' w' ⟨E',fr',L',h1,h2,h3⟩
  cases e with
  |exit i=>
   simp only[Exit.inBlock]
   simp only at h3
   split at h3
   ·rename_i hi;rw[AA hi];exact⟨E',fr',L',h1,h2,h3⟩
   ·rename_i hi;rw[AE hi];exact⟨E',fr',L',h1,h2,h3⟩
  |normal=>exact⟨E',fr',L',h1,h2,h3⟩
  |goto id=>exact⟨E',fr',L',h1,h2,h3⟩
  |ret=>exact⟨E',fr',L',h1,h2,h3⟩
  |panic ch=>exact⟨E',fr',L',h1,h2,h3⟩
  |outgrown=>exact⟨E',fr',L',h1,h2,h3⟩
 |scope c ih=>
  intro α YS K fr L r0 h cf E a w hs
  refine wp_scope_straight ?_
  refine wp_mono (ih α YS _ fr L r0 h cf E a w hs) ?_
  rintro e a' w' ⟨E',fr',L',h1,h2,h3⟩
  cases e with
  |goto id=>cases h3
  |exit i=>exact⟨E',fr',L',h1,h2,h3⟩
  |normal=>exact⟨E',fr',L',h1,h2,h3⟩
  |ret=>exact⟨E',fr',L',h1,h2,h3⟩
  |panic ch=>exact⟨E',fr',L',h1,h2,h3⟩
  |outgrown=>exact⟨E',fr',L',h1,h2,h3⟩
 |loop c ih=>
  intro α YS K fr L r0 h cf E a w hs
  simp only[rk] at h
  split at h
  ·cases h
  rename_i BY _
  split at h
  rotate_left
  ·cases h
  rename_i hwr
  split at h
  ·cases h
  rename_i s0 hp0
  obtain⟨n,hn⟩:=WD.1 h
  refine wp_loop_rounds n ?_
  obtain⟨Ec,hsc,A47⟩:=RY BY.rows hs
  have hxc:Ext (writes c) E fr L Ec fr (H7 BY.rows L):=A47.mono (fun _ h=>by cases h)
  clear A47
  generalize H7 BY.rows L=Lc at h hn hp0 hsc hxc
  obtain⟨G0,hG0⟩:=hsc.hd
  obtain⟨E1,g1,g2⟩:=AT7 hwr hG0 hsc.wf hsc (.refl (writes c) Ec fr Lc) hp0
  have vT:=hsc.wf
  have hH0:∃ w0 G0,AT cf G0 w0 Ec Lc:=⟨w,G0,hG0⟩
  clear h hp0 hs hsc hG0 G0
  obtain⟨w0,G0,hG0⟩:=hH0
  induction n generalizing s0 E1 a w with
  |zero=>cases hn
  |succ n ihn=>
   rw[rounds_succ]
   rw[XZ] at hn
   have fin:∀ x,rk P cx c (BY.T ⊕ α) YS (fun e fr' L' =>match e with
     | .normal=>(eN BY Lc fr' (H7 BY.rows L')).map Sum.inl
     |e=>(K e fr' L').map Sum.inr) (aD BY fr s0) (Y4 BY.pins (AJ Lc (LH BY s0)))=some x->(∀ s',x= .inl s' ->XZ (fun s=>rk P cx c (BY.T ⊕ α) YS (fun e fr' L' =>match e with
     | .normal=>(eN BY Lc fr' (H7 BY.rows L')).map Sum.inl
     |e=>(K e fr' L').map Sum.inr) (aD BY fr s) (Y4 BY.pins (AJ Lc (LH BY s)))) n s' =some r0)->(∀ b,x= .inr b->b=r0)->c.wp P (Exit.then (Code.rounds P c (AAM (writes (.loop c)) cf E fr L K r0) n) (AAM (writes (.loop c)) cf E fr L K r0)) a w:=by
    intro x hx hl hr
    refine wp_mono (ih _ YS _ _ _ x hx cf E1 a w g1) ?_
    rintro e a' w' ⟨E',fr',L',h1,h2,h3⟩
    have other:∀ e',(K e' fr' L').map Sum.inr=some x->AAM (writes (.loop c)) cf E fr L K r0 e' a' w' :=by
     intro e' hm
     obtain⟨b,hb,hxb⟩:=map_inr hm
     rw[hr b hxb] at hb
     exact⟨E',fr',L',h1,hxc.trans (g2.trans h2),hb⟩
    cases e with
    |normal=>
     obtain⟨s',hp,hxs⟩:=map_inl h3
     obtain⟨Ed,hsd,hxd⟩:=RY BY.rows h1
     obtain⟨E2,k1,k2⟩:=AT7 hwr hG0 vT hsd (g2.trans (h2.trans (hxd.mono (fun _ h=>by cases h)))) hp
     exact ihn a' w' s' (hl s' hxs) E2 k1 k2
    |goto id=>exact other _ h3
    |exit i=>exact other _ h3
    |ret=>exact other _ h3
    |panic ch=>exact other _ h3
    |outgrown=>exact other _ h3
   split at hn
   ·cases hn
   ·rename_i s' hf
    exact fin _ hf (fun s'' he=>by cases he;exact hn) (fun b he=>by cases he)
   ·rename_i b hf
    simp only[A_] at hn
    exact fin _ hf (fun s'' he=>by cases he) (fun b' he=>by cases he;exact hn)
 |_=>exact fun α YS K fr L r0 h=>(by simp only[rk] at h;cases h)
def AT9 (P:Program) (fr:List SV) (L:AM):ResultVar->Option SV
 | .tmp t=>(match ACC (fr.getD t BK) with
  |true=>none
  |false=>some (fr.getD t BK))
 | .cell t ty=>(match fr.getD t BK,P.info? ty,P.underlying ty with
  | .loc i off,some q,some _=>if off=0 then (match look L i with
   |some (.box cs)=>(match HG P ty with
    |true=>if q.size=cs.length then some (.agg cs) else none
    |false=>(match cs with
     | [v]=>some v
     |_=>none))
   |_=>none) else none
  |_,_,_=>none)
def yR (P:Program) (fr:List SV) (L:AM):List ResultVar->Option (List SV)
 | []=>some []
 |r::rs=>match AT9 P fr L r with
  |some v=>(match yR P fr L rs with
   |some vs=>some (v::vs)
   |none=>none)
  |none=>none
def lW:List CT->List Nat->List SV
 |d::r,i::is=>(match d.ptr with
  |true=> .loc i 0
  |false=> .NT i)::lW r is
 |_,_=>[]
def AX8 (P:Program) (rvs:List ResultVar) (cl:List (Nat×Ty)) (pins:List (Nat×Nat×Nat×Nat)) (ios:List Nat) (os:List CT) (cs:List CT):Exit->List SV->AM->Option (HT cs):=fun e fr L0=>
 match (match e with
  | .normal=>true
  | .ret=>true
  |_=>false) with
 |false=>none
 |true=>match yR P fr (H7 cl L0) rvs with
  |none=>none
  |some vs=>match KC .jO (look (H7 cl L0)) cs (vs++lW os ios) with
   |none=>none
   |some a=>match okA a && pins.all (fun q=>iM a.nes[q.1]? q.2.2.1) with
    |true=>some a.x
    |false=>none
def AE5 (ps:List CT) (x:HT ps) (N:Nat):AM:=AJ (List.replicate (cnts ps+N) (0,.MB)) (E5 ps x 0)
def ACI (ps:List CT) (rR:List (Nat×Nat)) (x:HT ps) (N:Nat):AM:=AJ (AE5 ps x N) (rR.map fun q=>(q.1,.ptr q.2))
def shOk (fi:FnI) (N:Nat):Bool:=fi.rR.all (fun q=>decide (cnts fi.ps<=q.1) && decide (q.1<cnts fi.ps+N) && decide (q.2<cnts fi.ps)) && decide (fi.rR.map (·.1)).Nodup && fi.sh.all fun s=>match s with
 | .pp n=>(fi.rR.map (·.1)).contains n
 |_=>true
def AHN (ps:List CT) (sh:List Sh) (x:HT ps) (n:Nat):List SV:=foldA sh (outSVs ps x 0)++List.replicate (n-(foldA sh (outSVs ps x 0)).length) BK
theorem AKP {rvs:List ResultVar} {c:EX TB} {fr:List SV} (hs:St c E fr L a w):∀ (rvs:List ResultVar) (vs:List SV),yR P fr L rvs=some vs→
  vs.length=rvs.length/\MT E L vs/\(rvs.mapM (m:=Sem) fun
   | .tmp t=>pure (a.tmps.getD t undef)
   | .cell x t=>do loadVar t (<-asAddr (a.tmps.getD x undef))).run P w= .ok (AN E vs) w:=by
 have AX7:∀ t,a.tmps.getD t undef=(fr.getD t BK).den E:=by
  intro t
  rw[hs.sim.1]
  have:=ABQ (E:=E) fr t
  simpa using this
 intro rvs
 induction rvs with
 |nil=>intro vs h;simp only[yR,A_] at h;subst h;exact⟨rfl,trivial,rfl⟩
 |cons r rs ih=>
  intro vs h
  simp only[yR] at h
  split at h
  rotate_left
  ·cases h
  rename_i v hv
  split at h
  rotate_left
  ·cases h
  rename_i vs' A6T
  simp only[A_] at h
  subst h
  obtain⟨i1,i2,i3⟩:=ih vs' A6T
  have AWD:v.wf E L/\((fun r:ResultVar=>(match r with
   | .tmp t=>pure (a.tmps.getD t undef)
   | .cell x t=>do loadVar t (<-asAddr (a.tmps.getD x undef)):Sem Value)) r).run P w= .ok (v.den E) w:=by
   cases r with
   |tmp t=>
    simp only[AT9] at hv
    split at hv
    ·cases hv
    ·rename_i hu
     simp only[A_] at hv
     subst hv
     refine⟨?_,by simp only[AX7];rfl⟩
     rcases hs.wf t with h|h
     ·exact h
     ·rw[h] at hu;simp [ACC] at hu
   |cell x t=>
    simp only[AT9] at hv
    split at hv
    rotate_left
    ·cases hv
    rename_i i off q d hx hq hd
    split at hv
    rotate_left
    ·cases hv
    rename_i ho
    subst ho
    split at hv
    rotate_left
    ·cases hv
    rename_i cs hl
    obtain⟨G,hG⟩:=hs.hd
    obtain⟨h1,h2,h3,h4,⟨ty,h5⟩,h6⟩:=hG.MQ i _ hl
    have RX:(asAddr (a.tmps.getD x undef)).run P w= .ok ⟨(E.nm i).CN,(E.nm i).pp.pre.length,none⟩ w:=by
     rw[AX7,hx]
     simp [SV.den,asAddr,h2]
    split at hv
    ·rename_i ha
     split at hv
     rotate_left
     ·cases hv
     rename_i b8
     simp only[A_] at hv
     subst hv
     refine⟨h6, ?_⟩
     have:=run_loadCells (P:=P) w h5 (off:=(E.nm i).pp.pre.length) (n:=q.size) (by rw[Nm.xW,AU];omega)
     have hcl:=Nm.AC4 (E.nm i) (l:=AN E cs) (off:=0) (n:=q.size) (by rw[AU];omega)
     rw[P6] at hcl
     rw[hcl] at this
     simp only[Sem.run_bind,RX,Result.andThen,loadVar,MV w hd,ha,HP,sizeOf,typeInfo]
     simp [hq,this,SV.den]
     unfold BT
     rw[xA,AFY (by simp [AU];omega)]
    ·rename_i ha
     split at hv
     rotate_left
     ·cases hv
     rename_i u
     simp only[A_] at hv
     subst hv
     refine⟨h6.1, ?_⟩
     have hg:=Nm.ADO (E.nm i) (l:=AN E [u]) (k:=0) (by simp [AN])
     rw[P6] at hg
     have:w.cell? ⟨(E.nm i).CN,(E.nm i).pp.pre.length,none⟩=some (u.den E):=by
      simp only[World.cell?,h5,hg]
      simp [AN]
     simp only[Sem.run_bind,RX,Result.andThen,loadVar,MV w hd,ha]
     simp [this]
  refine⟨by simp [i1],⟨AWD.1,i2⟩, ?_⟩
  rw[List.mapM_cons,Sem.run_bind]
  have h1:=AWD.2
  simp only at h1
  rw[h1]
  simp only[Result.andThen,Sem.run_bind,i3,Sem.run_pure]
  rfl
theorem pB:∀ (zas bs:List CT) (x:HT (zas++bs)) (n:Nat),outSVs (zas++bs) x n=outSVs zas (HT.left zas bs x) n++outSVs bs (HT.right zas bs x) (n+cnts zas)
 | [],bs,x,n=>rfl
 |d::r,bs,x,n=>by
  have hh:HT.hd d r (HT.left (d::r) bs x)=HT.hd d (r++bs) x:=by cases r <;> rfl
  have ht:HT.tl d r (HT.left (d::r) bs x)=HT.left r bs (HT.tl d (r++bs) x):=by cases r <;> rfl
  have k1:outSVs (d::r++bs) x n=V8 d (HT.hd d (r++bs) x) n::outSVs (r++bs) (HT.tl d (r++bs) x) (n+d.cnt):=rfl
  have k2:outSVs (d::r) (HT.left (d::r) bs x) n=V8 d (HT.hd d r (HT.left (d::r) bs x)) n::outSVs r (HT.tl d r (HT.left (d::r) bs x)) (n+d.cnt):=rfl
  rw[k1,k2,hh,ht,pB r bs]
  simp only[cnts,w8,PC]
  rfl
theorem ACJ:∀ (os:List CT) (is:List Nat) (v:SV),v∈lW os is->∃ i∈is,v= .loc i 0\/v= .NT i
 | [],_,v,h=>by simp [lW] at h
 |_::_,[],v,h=>by simp [lW] at h
 |d::r,i::is,v,h=>by
  simp only[lW,GH] at h
  rcases h with rfl|h
  ·refine⟨i,by simp, ?_⟩
   cases d.ptr with
   |true=>exact .inl rfl
   |false=>exact .inr rfl
  ·obtain⟨k,h1,h2⟩:=ACJ r is v h
   exact⟨k,by simp [h1],h2⟩
theorem eS:∀ (cs:List CT) (a b:Nat),OX cs (a+b)=(OX cs b).map (fun k=>a+k)
 | [],_,_=>rfl
 |e::s,a,b=>by
  simp only[OX]
  rw[PC,eS s]
  simp
theorem AN7 {md:PM} {AQ:Nat->Option A9} {E:Env}:∀ (os:List CT) (is:List Nat) (a:M0 (HT os)),KC md AQ os (lW os is)=some a->os.all okO=true->os.length=is.length->(OX os 0).map (D4 E a.nes)=is.map E.nm
 | [],[],a,_,_,_=>rfl
 | [],_::_,a,_,_,h=>by simp at h
 |_::_,[],a,_,_,h=>by simp at h
 |d::r,i::is,a,h,ZZ,hl=>by
  simp only[xB,IZ] at ZZ
  obtain⟨v,vs',a1,a2,he,h1,h2,rfl⟩:=RT h
  simp only[lW,mI] at he
  obtain⟨rfl,rfl⟩:=he
  have ih:=AN7 (E:=E) r is a2 h2 ZZ.2 (by simpa using hl)
  have l1:=SO h1
  obtain⟨k1,k2⟩:=MY E a1.nes a2.nes
  have hd:D4 E a1.nes 0=E.nm i/\0<a1.nes.length:=by
   obtain⟨mL,u,nes,x,p1,p2,p3,p4,p5⟩:=LU h1
   rcases p3 with ⟨hp,j,hj,hl,e1,e2⟩|⟨hp,hag,e1,e2⟩
   ·rw[hp] at hj
    simp only[SV.loc.injEq,and_true] at hj
    subst hj
    rw[e1]
    exact⟨rfl,by simp⟩
   ·have hk:=ZZ.1
    simp only[okO,hp,AM9,IZ,b6] at hk
    obtain⟨⟨ho,A6U⟩,Q8⟩:=hk
    rcases hag with ⟨hx,_⟩|⟨_,rfl⟩
    ·rw[A6U] at hx;cases hx
    rw[hp] at p1
    rw[e1]
    rw[AA ho] at p1
    clear h h1 h2 ih k1 k2 l1 p2 p4 p5 e1 e2
    revert x
    cases ht:d.t with
    |slice b=>
     intro x p1
     simp only[FY,N4] at p1
     revert p1
     split
     ·rename_i q hq
      intro p1
      simp only[A_,DG] at p1
      obtain⟨-, -,rfl, -⟩:=p1
      revert hq
      split
      ·split
       ·intro hq;cases hq
       ·intro hq;cases hq
      ·split
       ·split
        ·intro hq;cases hq
        ·intro hq
         simp only[A_,DG] at hq
         obtain⟨-,rfl, -⟩:=hq
         exact⟨rfl,by simp⟩
       ·intro hq;cases hq
      ·split
       ·rename_i hb
        rw[ht,←hb] at Q8
        simp [Ty.ABS,Ty.u6] at Q8
       ·intro hq;cases hq
      ·split
       ·rename_i hb
        rw[ht,←hb] at Q8
        simp [Ty.ABS,Ty.u6] at Q8
       ·intro hq;cases hq
      ·intro hq;cases hq
     ·intro p1;cases p1
    |_=>rw[ht] at Q8;simp [Ty.ABS] at Q8
  simp only[OX,JS]
  have hs:=eS r d.cnt 0
  rw[P6] at hs
  rw[NV,hs,XB,←ih]
  show D4 E (a1.nes++a2.nes) 0::_=_
  rw[k1 0 hd.2,hd.1]
  congr 1
  apply W9
  intro k _
  show D4 E (a1.nes++a2.nes) (d.cnt+k)=_
  rw[<-l1];exact k2 k
theorem ATA {md:PM} {AQ:Nat->Option A9} {E:Env}:∀ (zas os:List CT) (vs:List SV) (is:List Nat) (a:M0 (HT (zas++os))),KC md AQ (zas++os) (vs++lW os is)=some a->vs.length=zas.length->os.all okO=true->os.length=is.length→
  (OX os (cnts zas)).map (D4 E a.nes)=is.map E.nm
 | [],os,[],is,a,h,_,ZZ,hl=>AN7 os is a h ZZ hl
 | [],_,_::_,_,_,_,h,_,_=>by simp at h
 |_::_,_,[],_,_,_,h,_,_=>by simp at h
 |d::r,os,v0::vs,is,a,h,hv,ZZ,hl=>by
  obtain⟨v,vs',a1,a2,he,h1,h2,rfl⟩:=RT (c:=d) (r:=r++os) h
  simp only[w8,mI] at he
  obtain⟨rfl,rfl⟩:=he
  have ih:=ATA (E:=E) r os vs is a2 h2 (by simpa using hv) ZZ hl
  have l1:=SO h1
  obtain⟨k1,k2⟩:=MY E a1.nes a2.nes
  rw[cnts,eS,XB,←ih]
  apply W9
  intro k _
  show D4 E (a1.nes++a2.nes) (d.cnt+k)=_
  rw[<-l1];exact k2 k
variable {f:FuncId}
theorem calleeRuns_of {fn : Func} {c : Code} (hf : P.funcs[f]? = some fn) (hb : fn.body = some c) (hn : (fn.name == "runtime.NumGoroutine") = false) : CalleeRuns P f := by
 intro args w
 have hn' : ¬ fn.name = "runtime.NumGoroutine" := by simpa using hn
 simp [callFunc,hf,hn',hb]
theorem AT.AN8 {TB:Tb} {c:EX TB} {G:Nat->Prop} {w:World} {ms:Nat->Nm}:∀ (rR:List (Nat×Nat)) {L:AM},AT c G w (LF ms) L->(∀ q∈rR,look L q.1=some .MB/\Al L q.2/\c.Old (ms q.1).CN∧
   ∃ arr ty fz,c.w0.heap[(ms q.1).CN]? =some (.cells arr ty fz)/\arr[(ms q.1).off]? =some (.pointer (some ⟨(ms q.2).CN,(ms q.2).off,none⟩)))->(rR.map (·.1)).Nodup→
  AT c G w (LF ms) (AJ L (rR.map fun q=>(q.1,.ptr q.2)))/\(∀ n,Al L n->Al (AJ L (rR.map fun q=>(q.1,.ptr q.2))) n)/\∀ q∈rR,Al (AJ L (rR.map fun q=>(q.1,.ptr q.2))) q.1
 | [],L,h,_,_=>⟨h,fun _ hn=>hn,fun q hq=>by cases hq⟩
 |p::r,L,h,hp,hn=>by
  obtain⟨p1,p2,p3,p4⟩:=hp p (by simp)
  simp only[JS,VE] at hn
  have DY:=AR p1
  have h1:=h.change (i:=p.1) (e' := .ptr p.2) (m:=(LF ms).nm p.1) (w' :=w) DY (.refl _) (EH _) (fun _=>rfl) rfl (fun _ _ _=>rfl) (fun b hb=>by cases hb) (fun _ _ _ _ _ _ hb=>by cases hb)
   (fun _=>by rw[eD];exact⟨p3,p4,BZ rfl _ p2⟩)
  rw[eD] at h1
  obtain⟨r1,r2,r3⟩:=AT.AN8 r h1 (fun q hq=>by
   obtain⟨q1,q2,q3,q4⟩:=hp q (by simp [hq])
   refine⟨?_,BZ rfl _ q2,q3,q4⟩
   rw[BB DY,AE]
   ·exact q1
   ·intro he
    exact hn.1 (he ▸ DH.2 ⟨q,hq,rfl⟩)) hn.2
  refine⟨r1,fun n hn=>r2 n (BZ rfl n hn),fun q hq=> ?_⟩
  rcases GH.1 hq with rfl|hq
  ·exact r2 _ ⟨.ptr q.2,by rw[BB DY,AA rfl],rfl⟩
  ·exact r3 q hq
variable {n:Nat}
set_option maxHeartbeats 1000000 in
theorem callsV_of_rk (hcx:cx.Ok P) {fn:Func} {c:Code} {N:Nat} {rvs:List ResultVar} {fi:FnI}
  (hf : P.funcs[f]? = some fn) (hb : fn.body = some c) (hnm : (fn.name == "runtime.NumGoroutine") = false) (hn : fn.ntmps = n) (hres : fn.results = rvs.toArray) (hps : ∀ x, (foldA fi.sh (outSVs fi.ps x 0)).length ≤ n)
  (hst:(rvs.length=fi.rs.length/\fi.os.all okO=true/\fi.os.length=fi.bk.length/\(fi.bk.all fun i=>decide (i<cnts fi.ps))=true/\(fi.pin.all fun q=>decide (q.2.2.1<cnts fi.ps))=true/\shOk fi N=true))
  (hrk:∀ x,fi.F x=rk P cx c (HT (fi.rs++fi.os)) 1000000 (AX8 P rvs fi.cl fi.pin fi.bk fi.os (fi.rs++fi.os)) (AHN fi.ps fi.sh x n) (ACI fi.ps fi.rR x N)):CallsV P cx.tb f fi:=by
 refine⟨calleeRuns_of hf hb hnm,fun x r hr w G ms hG A0N HN A0O A6V=> ?_⟩
 rw[hrk] at hr
 refine calls_of_wp hf hb ?_
 let cf:EX cx.tb:=⟨w,fun b=>b∈C2 fi.ps x ms,G⟩
 have h0:AT cf G w (LF ms) (List.replicate (cnts fi.ps+N) (0,.MB)):=by
  refine⟨.refl _,EH _,fun _ _=>rfl,hG,fun _ h=>h,fun _ h=> .inl h, ?_, ?_, ?_,A0O⟩
  ·intro k e he
   unfold look at he
   rw[AA6] at he
   split at he
   ·rename_i q hq
    split at hq
    ·simp only[A_] at hq;subst hq
     simp only[A_] at he;subst he;trivial
    ·cases hq
   ·cases he
  ·intro k t xss q he
   unfold look at he
   rw[AA6] at he
   split at he
   ·rename_i q hq
    split at hq
    ·simp only[A_] at hq;subst hq
     simp only[A_] at he;cases he
    ·cases hq
   ·cases he
  ·intro k j e f' b _ he _ hb
   unfold look at he
   rw[AA6] at he
   split at he
   ·rename_i q hq
    split at hq
    ·simp only[A_] at hq;subst hq
     simp only[A_] at he;subst he;rcases hb with hb|⟨hb,_⟩|⟨hb,_⟩ <;> cases hb
    ·cases hq
   ·cases he
 have A6W:∀ j,j<cnts fi.ps->look (List.replicate (cnts fi.ps+N) (0,A9.MB)) (0+j)=some .MB:=by
  intro j hj
  unfold look
  rw[AA6,ab]
 have XS:∀ b∈C2 fi.ps x ms,JP (LF ms) (List.replicate (cnts fi.ps+N) (0,A9.MB)) b:=by
  intro b _ k e he hb
  unfold look at he
  rw[AA6] at he
  split at he
  ·rename_i q hq
   split at hq
   ·simp only[A_] at hq;subst hq
    simp only[A_] at he;subst he;rcases hb with hb|⟨hb,_⟩|⟨hb,_⟩ <;> cases hb
   ·cases hq
  ·cases he
 obtain⟨a1,a2,a3⟩:=h0.oQ fi.ps x A6W A0N HN XS
 have eE:(LF ms).put 0 (cnts fi.ps) ms=LF ms:=by
  refine MD (fun k=> ?_) rfl (fun k=> ?_) <;> simp only[Env.put,LF] <;> split <;> simp
 rw[eE] at a1 a3
 have hL:AE5 fi.ps x N=AJ (List.replicate (cnts fi.ps+N) (0,.MB)) (E5 fi.ps x 0):=rfl
 rw[<-hL] at a1 a2 a3
 have XU:=hst.2.2.2.2.2
 simp only[shOk,IZ,LD] at XU
 obtain⟨⟨sh1,sh2⟩,sh3⟩:=XU
 have hpt:∀ q∈fi.rR,look (AE5 fi.ps x N) q.1=some .MB/\Al (AE5 fi.ps x N) q.2/\cf.Old (ms q.1).CN∧
   ∃ arr ty fz,cf.w0.heap[(ms q.1).CN]? =some (.cells arr ty fz)/\arr[(ms q.1).off]? =some (.pointer (some ⟨(ms q.2).CN,(ms q.2).off,none⟩)):=by
  intro q hq
  have h1:=KI.1 sh1 q hq
  simp only[IZ,LD] at h1
  obtain⟨p1,p2,p3⟩:=A6V q hq
  refine⟨?_,(a2 q.2).1 ⟨oI _,by omega⟩,⟨p1,p2⟩,p3⟩
  rw[(a2 q.1).2 (by omega)]
  unfold look
  rw[AA6,ab]
 obtain⟨b1,b2,b3⟩:=AT.AN8 fi.rR a1 hpt sh2
 have a1:=b1
 have a3:=oS fi.sh _ (fun n hn=>by
  have:=KI.1 sh3 _ hn
  simp only[ALR] at this
  obtain⟨q,hq,rfl⟩:=DH.1 this
  exact b3 q hq) (MC b2 (fun _ _=>rfl) _ a3).1
 have a2:∀ k,0<=k/\k<0+cnts fi.ps->Al (ACI fi.ps fi.rR x N) k:=fun k hk=>b2 k ((a2 k).1 hk)
 have hs:St cf (LF ms) (AHN fi.ps fi.sh x n) (ACI fi.ps fi.rR x N) { tmps:=(AN (LF ms) (foldA fi.sh (outSVs fi.ps x 0))).toArray++Array.replicate (fn.ntmps-(AN (LF ms) (foldA fi.sh (outSVs fi.ps x 0))).toArray.size) undef,defers:=[] } w:=by
  refine⟨⟨?_,rfl⟩,⟨G,a1⟩, ?_⟩
  ·simp only[AHN,G7,hn]
   apply dT
   simp [AU]
   rw[GM,List.map_replicate]
   rfl
  ·intro t
   left
   unfold AHN
   simp only[List.getD]
   by_cases ht:t<(foldA fi.sh (outSVs fi.ps x 0)).length
   ·rw[V4 ht]
    have:=B1.1 a3 _ (ABI ht)
    rw[O6 ht]
    exact this
   ·rw[SI (by omega),AA6]
    split <;> exact yE _ _
 refine wp_mono (A46 hcx c _ _ _ _ _ _ hr cf (LF ms) _ w hs) ?_
 rintro e a' w' ⟨E',fr',L',h1,h2,h3⟩
 have fin:AX8 P rvs fi.cl fi.pin fi.bk fi.os (fi.rs++fi.os) .ret fr' L' =some r->a'.defers=[]/\∃ v,(results fn a'.tmps).run P w' = .ok v w' ∧
   (∃ G' ms',Ending.returned v= .returned ((XT (outSVs fi.rs (HT.left fi.rs fi.os r) 0)).den (LF ms'))∧
   Rest w w' /\w.heap.size<=w'.heap.size/\(∀ b,b<w.heap.size->b∉C2 fi.ps x ms->w'.heap[b]? =w.heap[b]?)∧
   (∀ b,G b->G' b)/\(∀ b,G' b->G b\/w.heap.size<=b\/b∈C2 fi.ps x ms)/\(∀ b,G' b->b<w'.heap.size)∧
   PS (⟨w,fun b=>b∈C2 fi.ps x ms,G⟩:EX cx.tb) G' w' (fi.rs++fi.os) r ms' /\(C2 (fi.rs++fi.os) r ms').Nodup∧
   (OX fi.os (cnts fi.rs)).map ms' =fi.bk.map ms/\∀ q∈fi.pin,ms' q.1=ms q.2.2.1):=by
  intro hk
  simp only[AX8] at hk
  obtain⟨Ec,h1,hxc⟩:=RY fi.cl h1
  have h2:=h2.trans (hxc.mono (fun _ h=>by cases h))
  clear hxc
  generalize H7 fi.cl L' =L' at hk h1 h2
  generalize Ec=E' at h1 h2
  split at hk
  ·cases hk
  rename_i vs hvs
  split at hk
  ·cases hk
  rename_i tk htk
  split at hk
  rotate_left
  ·cases hk
  rename_i ZZ
  simp only[IZ] at ZZ
  obtain⟨ZZ,A0L⟩:=ZZ
  simp only[A_] at hk
  obtain⟨l1,l2,l3⟩:=AKP (rvs:=rvs) h1 rvs vs hvs
  obtain⟨G3,hG3⟩:=h1.hd
  have hio:∀ i∈fi.bk,Al (ACI fi.ps fi.rR x N) i:=fun i hi=>a2 i ⟨oI _,by have:=KI.1 hst.2.2.2.1 i hi;simpa using this⟩
  have hwv:MT E' L' (vs++lW fi.os fi.bk):=by
   refine B1.2 fun v hv=> ?_
   rcases FG.1 hv with hv|hv
   ·exact B1.1 l2 v hv
   ·obtain⟨i,hi,rfl|rfl⟩:=ACJ _ _ _ hv
    ·exact (h2.nm i (hio i hi)).2
    ·exact (h2.nm i (hio i hi)).2
  obtain⟨G1,G2,t1,t2,t3,t4,t5,t6,t7,t8,t9,t10,t11⟩:=hG3.take (md:= .jO) (by simp) (fun n e h=>h) htk ZZ hwv
  rw[t4 rfl] at t9
  obtain⟨q1,q2⟩:=Y0 E' _ _ _ htk
  have mR:=q2 (LF (D4 E' tk.nes)) 0 (fun k _=>by simp [LF])
  rw[hk,pB,G7,G7] at mR
  have hlen:(AN E' vs).length=(AN (LF (D4 E' tk.nes)) (outSVs fi.rs (HT.left fi.rs fi.os r) 0)).length:=by
   rw[AU,AU,OZ,l1,hst.1]
  have yS:=(List.append_inj mR hlen).1
  refine⟨h1.sim.2,(XT vs).den E', ?_,G1,D4 E' tk.nes, ?_,t1.rest,t1.size, ?_,t1.glo, ?_,t1.gin,by rw[hk] at t9;exact t9,by rw[hk] at t10;exact t10, ?_,fun q hq=> ?_⟩
  ·unfold results
   rw[Sem.run_bind,hres,Array.mapM_eq_mapM_toList,map_eq_pure_bind,Sem.run_bind]
   have e0:rvs.toArray.toList=rvs:=by simp
   rw[e0]
   erw [l3]
   simp only[Result.andThen,Sem.run_pure]
   congr 1
   match vs with
   | []=>rfl
   | [v]=>simp [XT,AN]
   |v::u::r=>simp [XT,SV.den,AN]
  ·rw[ABV yS]
  ·intro b hb hbn
   exact t1.old b ⟨hb,hbn⟩
  ·intro b hb
   rcases t1.ghi b hb with h|h
   ·exact .inl h
   ·right
    by_cases DY:b<w.heap.size
    ·right
     exact AA5 fun hx=>h ⟨DY,hx⟩
    ·left;omega
  ·rw[ATA (E:=E') fi.rs fi.os vs fi.bk tk htk (by rw[l1,hst.1]) hst.2.1 hst.2.2.1]
   apply W9
   intro i hi
   exact (h2.nm i (hio i hi)).1
  ·have p1:=KI.1 A0L q hq
   have p2:=KI.1 hst.2.2.2.2.1 q hq
   simp only[LD] at p2
   have rB:Al (ACI fi.ps fi.rR x N) q.2.2.1:=a2 q.2.2.1 ⟨oI _,by simpa using p2⟩
   unfold iM at p1
   split at p1
   ·rename_i i hi
    have hi2:i=q.2.2.1:=by simpa using p1
    simp only[D4,hi,NE.nm,hi2]
    exact (h2.nm _ rB).1
   ·cases p1
 cases e with
 |normal=>exact fin h3
 |ret=>exact fin h3
 |exit id=>cases h3
 |goto l=>cases h3
 |panic ch=>cases h3
 |outgrown=>cases h3
def APQ (l:List (Nat×FnI)) (n:FuncId):Option FnI:=lk l n
def AL (P:Program) (TB:Tb) (l:List (Nat×FnI)):Prop:=∀ n fi,lk l n=some fi->CallsV P TB n fi
theorem AL.nil:AL P TB []:=by intro n g h;cases h
theorem AL.cons {l:List (Nat×FnI)} {n:FuncId} {g:FnI} (h:CallsV P TB n g) (hl:AL P TB l):AL P TB ((n,g)::l):=by
 intro k g' hk
 simp only[lk] at hk
 split at hk
 ·rename_i he;subst he;simp only[A_] at hk;subst hk;exact h
 ·exact hl k g' hk
theorem BC {nm:List (Nat×Nat×Nat)} {CQ:List Nat} {loops oV:List (Nat×dL)} {l:List (Nat×FnI)} (h:AL P TB l) {x:List (Nat×Xt)} (hx:∀ n e,lk x n=some e->BA P n e) {y z u dy:List Nat} {op:List (Nat×(Nat×Nat×Nat))}:Cx.Ok P { nm:=nm,CQ:=CQ,fns:=APQ l,loops:=loops,oV:=oV,tb:=TB,exts:=x,lets:=y,A3H:=z,A3I:=u,opens:=op,dyns:=dy }:=⟨h,hx⟩
theorem BA.nil:∀ n e,lk ([]:List (Nat×Xt)) n=some e->BA P n e:=by intro n e h;cases h
theorem BA.cons {x:List (Nat×Xt)} {m:Nat} {d:Xt} (h:BA P m d) (hx:∀ n e,lk x n=some e->BA P n e):∀ n e,lk ((m,d)::x) n=some e->BA P n e:=by
 intro k g hk
 simp only[lk] at hk
 split at hk
 ·rename_i he;subst he;simp only[A_] at hk;subst hk;exact h
 ·exact hx k g hk
end
end Go.V3
namespace Go.V3
open Go
def AG (e:Int):Int:=IntKind.wrap .i64 e
def gl {α:Type} (d:α) (xs:List α) (k:Nat):α:=xs.getD k d
end Go.V3
namespace Go.V3
open Go Go.RowKit
variable {TB:Tb}
theorem iX {a:Int} (h:(Lit.int .i64 a).wf=true):I64 a:=by
 simp [Lit.wf,IntKind.min,IntKind.max,IntKind.signed,IntKind.bits] at h
 exact⟨by omega,by omega⟩
theorem APR {a:Int} (h:(Lit.int .u64 a).wf=true):∃ x:BitVec 64,a=(x.toNat:Int):=by
 simp [Lit.wf,IntKind.min,IntKind.max,IntKind.signed,IntKind.bits] at h
 refine⟨BitVec.ofNat 64 a.toNat, ?_⟩
 rw[uZ]
 have:a.toNat<2 ^ 64:=by omega
 rw[rG this]
 omega
def nm0:Nm:=⟨0,0,true,0,0,none⟩
def AX9 (TB:Tb) (w:World):Prop:=∀ q∈TB,q.1<w.heap.size/\∃ ty fz,w.heap[q.1]? =some (.cells q.2 ty fz)
end Go.V3
namespace Go.V3
open Go Go.RowKit Go.ChangeShapes Go.WideShapes
variable {TB:Tb}
def Wf:(t:Ty)->t.T->Prop
 | .int k,x=>(Lit.int k x).wf=true
 | .pair a b,x=>Wf a x.1/\Wf b x.2
 | .slice a,xs=>(xs:List a.T).length<=maxLen/\∀ x∈(xs:List a.T),Wf a x
 | .UA,x=>(x:Nat)<18446744073709551616
 |_,_=>True
def yU (P:Program) (f:TypeId->Ty->Bool):List Field->Ty->Nat->Bool
 | [],_,_=>false
 | [x],T,off=>x.offset==off && P.cellsOf x.type==T.sz && f x.type T
 |x::r,.pair a b,off=>x.offset==off && P.cellsOf x.type==a.sz && f x.type a && yU P f r b (off+a.sz)
 |_::_,_,_=>false
def laid (P:Program):Nat->TypeId->Ty->Bool
 |0,_,_=>false
 |n+1,t,T=>match P.underlying t with
  |some (.int .u64)=>(match T with| .u64=>true|_=>false)
  |some (.int k)=>(match T with| .int k' =>decide (k=k')|_=>false)
  |some .bool=>(match T with| .bool=>true|_=>false)
  |some .string=>(match T with| .str=>true|_=>false)
  |some (.float .f64)=>(match T with| .UA=>true|_=>false)
  |some (.slice e)=>(match T with| .slice a=>P.cellsOf e==a.sz && decide (0<a.sz) && laid P n e a|_=>false)
  |some (.struct fs)=>P.cellsOf t==T.sz && yU P (laid P n) fs.toList T 0
  |_=>false
variable {n:Nat} {w:World}
theorem pC {a:Addr} {l:List Value} (h:w.cells? 0 a n=some l) (hn:0<n):
  a.spot=none/\∃ arr ty fz,w.heap[a.block]? =some (.cells arr ty fz)/\l=BT arr a.off n/\l.length=n:=by
 obtain⟨-,hl,hc⟩:=World.cells?_some h
 have hs:a.spot=none:=by
  have h0:=hc 0 hn
  rw[O6 (by omega)] at h0
  unfold World.cell? at h0
  split at h0
  ·split at h0
   ·cases h0
   ·rename_i hsp
    have e:a.add 0=a:=by simp [Addr.add]
    rw[e] at hsp
    simpa using hsp
  ·cases h0
 refine⟨hs, ?_⟩
 have AXA:∀ i,(a.add i).block=a.block/\(a.add i).off=a.off+i/\(a.add i).spot=none:=by
  intro i
  unfold Addr.add
  split
  ·rename_i h0;subst h0;exact⟨rfl,rfl,hs⟩
  ·exact⟨rfl,rfl,by first|rfl|exact hs⟩
 have h0:=hc 0 hn
 rw[O6 (by omega)] at h0
 unfold World.cell? at h0
 rw[(AXA 0).1] at h0
 split at h0
 rotate_left
 ·cases h0
 rename_i arr ty fz hb
 refine⟨arr,ty,fz,hb, ?_,hl⟩
 apply XA
 intro i
 unfold BT
 rw[n_]
 split
 ·rename_i hi
  rw[<-hc i hi]
  unfold World.cell?
  rw[(AXA i).1,hb]
  simp only[(AXA i).2.2,(AXA i).2.1]
  simp [dM]
 ·rename_i hi
  exact IF (by omega)
section
variable {H:Type} {enc:TypeId×Value->H} {P:Program} {w:World} {held:Bool}
theorem AKQ:∀ (n:Nat) (t:TypeId) (T:Ty),laid P n t T=true->∀ (fuel:Nat) (cs:List Value) (x:DataW H×List MemPlace),DataW.trod enc P w 0 (fun _=>true) held fuel t cs=some x→
  ∃ y:T.T,Rp (fun b=>b<w.heap.size) w T y cs/\Wf T y:=by
 intro n
 induction n with
 |zero=>intro t T h;cases h
 |succ n ih=>
  intro t T h fuel cs x hx
  unfold laid at h
  split at h
  ·rename_i hu
   split at h
   ·obtain⟨m,rfl, -,hw⟩:=DataW.trod_int hu hx
    obtain⟨y,rfl⟩:=APR hw
    exact⟨y,rfl,trivial⟩
   ·cases h
  ·rename_i k hk hu
   split at h
   ·rename_i k'
    have:=SJ h
    subst this
    obtain⟨m,rfl, -,hw⟩:=DataW.trod_int hu hx
    exact⟨m,rfl,hw⟩
   ·cases h
  ·rename_i hu
   split at h
   ·obtain⟨b,rfl, -⟩:=DataW.trod_bool hu hx
    exact⟨b,rfl,trivial⟩
   ·cases h
  ·rename_i hu
   split at h
   ·obtain⟨s,rfl, -⟩:=DataW.trod_string hu hx
    exact⟨s,rfl,trivial⟩
   ·cases h
  ·rename_i hu
   split at h
   ·cases fuel with
    |zero=>simp [DataW.trod] at hx
    |succ m=>
     unfold DataW.trod at hx
     rw[hu] at hx
     split at hx <;> simp_all
     rename_i b1 heq
     subst heq
     refine⟨b1,rfl, ?_⟩
     simp only[Lit.wf,LD] at*
     show b1<18446744073709551616
     omega
   ·cases h
  ·rename_i e hu
   split at h
   ·rename_i a
    simp only[IZ,XM,LD] at h
    obtain⟨⟨b8,aA⟩,hl⟩:=h
    rcases DataW.trod_slice hu hx with ⟨rfl, -⟩|⟨ad,len,cap,elems,rest,m,rfl,rfl, -, -,hlc,u9,hlen,hel, -, -⟩
    ·exact⟨([]:List a.T),⟨nm0,rfl,rfl,EH _,.inl rfl⟩,oI _,by simp⟩
    ·have key:∀ i,i<len->∃ y:a.T,(ad.add (i*a.sz)).spot=none/\∃ arr ty fz,w.heap[ad.block]? =some (.cells arr ty fz)/\Rp (fun b=>b<w.heap.size) w a y (BT arr (ad.off+i*a.sz) a.sz)/\Wf a y:=by
      intro i hi
      have he:=hel i hi
      rw[O6 (by omega),AFR] at he
      obtain⟨l,h1,h2⟩:=he
      rw[b8] at h1
      obtain⟨h0,arr,ty,fz,h3,h4,h5⟩:=pC h1 aA
      obtain⟨y,h6,h7⟩:=ih e a hl m l _ h2
      refine⟨y,h0,arr,ty,fz, ?_, ?_,h7⟩
      ·have:(ad.add (i*a.sz)).block=ad.block:=by unfold Addr.add;split <;> rfl
       rw[this] at h3;exact h3
      ·have:(ad.add (i*a.sz)).off=ad.off+i*a.sz:=by
        unfold Addr.add;split
        ·rename_i h0;simp [h0]
        ·rfl
       rw[this] at h4;rw[<-h4];exact h6
     by_cases hl0:len=0
     ·subst hl0
      refine⟨([]:List a.T),⟨⟨0,0,true,0,cap,some ad⟩,rfl,rfl,hlc,.inl rfl⟩,oI _,by simp⟩
     ·obtain⟨y0,AZ9,arr,ty,fz,hb, -, -⟩:=key 0 (by omega)
      have AZ9:ad.spot=none:=by simpa [Addr.add] using AZ9
      have A48:∀ i,i<len->∃ y:a.T,Rp (fun b=>b<w.heap.size) w a y (BT arr (ad.off+i*a.sz) a.sz)/\Wf a y:=by
       intro i hi
       obtain⟨y, -,Z8,ty',fz',UB,h1,h2⟩:=key i hi
       rw[hb] at UB
       simp only[A_,Obj.cells.injEq] at UB
       obtain⟨rfl, -, -⟩:=UB
       exact⟨y,h1,h2⟩
      have QF:∃ ys:List a.T,ys.length=len/\∀ i y,ys[i]? =some y->Rp (fun b=>b<w.heap.size) w a y (BT arr (ad.off+i*a.sz) a.sz)/\Wf a y:=by
       clear hel hlen hx hlc u9 hl0 key
       induction len with
       |zero=>exact⟨[],rfl,by simp⟩
       |succ len ihl=>
        obtain⟨ys,h1,h2⟩:=ihl (fun i hi=>A48 i (by omega))
        obtain⟨y,h3,h4⟩:=A48 len (by omega)
        refine⟨ys++ [y],by simp [h1], ?_⟩
        intro i z hz
        by_cases hi:i<ys.length
        ·rw[V4 hi] at hz;exact h2 i z hz
        ·rw[SI (by omega)] at hz
         have:i=len:=by
          have:=(AA4.1 hz).1
          simp at this;omega
         subst this
         rw[h1] at hz
         simp at hz
         subst hz
         exact⟨h3,h4⟩
      obtain⟨ys,h1,h2⟩:=QF
      have A6X:ad.block<w.heap.size:=by
       rcases IG ad.block w.heap.size with h|h
       ·exact h
       ·rw[wV h] at hb;cases hb
      refine⟨ys,⟨⟨ad.block,ad.off,false,len,cap,none⟩, ?_,h1.symm,hlc,.inr ⟨rfl,A6X,arr,ty,fz,hb,fun i y hy=>(h2 i y hy).1⟩⟩,by rw[h1];omega, ?_⟩
      ·simp [Nm.ad]
       cases ad;simp_all
      ·intro y hy
       obtain⟨i,hi⟩:=List.getElem?_of_mem hy
       exact (h2 i y hi).2
   ·cases h
  ·rename_i fs hu
   simp only[IZ,XM] at h
   obtain⟨b8,hl⟩:=h
   obtain⟨xs,m,rfl, -,hlen,hxs,hel⟩:=DataW.trod_struct hu hx
   have A1G:∀ f∈fs.toList,∃ z,DataW.trod enc P w 0 (fun _=>true) held m f.type ((cs.drop f.offset).take (P.cellsOf f.type))=some z:=by
    intro f hf
    obtain⟨i,hi⟩:=List.getElem?_of_mem hf
    have:=hel i f (by simpa using hi)
    have hi2:i<xs.length:=by
     have:=(AA4.1 hi).1
     rw[hxs];simpa using this
    rw[O6 hi2] at this
    exact⟨_,this⟩
   have go:∀ (l:List Field) (T:Ty) (off:Nat),yU P (laid P n) l T off=true->(∀ f∈l,∃ z,DataW.trod enc P w 0 (fun _=>true) held m f.type ((cs.drop f.offset).take (P.cellsOf f.type))=some z)→
     ∃ y:T.T,Rp (fun b=>b<w.heap.size) w T y ((cs.drop off).take T.sz)/\Wf T y:=by
    intro l
    induction l with
    |nil=>intro T off h;simp [yU] at h
    |cons f r ihr=>
     intro T off h hf
     cases r with
     |nil=>
      simp only[yU,IZ,XM] at h
      obtain⟨⟨rfl,h2⟩,h3⟩:=h
      obtain⟨z,hz⟩:=hf f (by simp)
      rw[h2] at hz
      exact ih _ _ h3 _ _ _ hz
     |cons g r=>
      cases T with
      |pair a b=>
       simp only[yU,IZ,XM] at h
       obtain⟨⟨⟨rfl,h2⟩,h3⟩,h4⟩:=h
       obtain⟨z,hz⟩:=hf f (by simp)
       rw[h2] at hz
       obtain⟨y,hy,wy⟩:=ih _ _ h3 _ _ _ hz
       obtain⟨y2,hy2,wy2⟩:=ihr b (f.offset+a.sz) h4 (fun q hq=>hf q (by simp [hq]))
       refine⟨(y,y2),⟨_,_, ?_,hy,hy2⟩,wy,wy2⟩
       rw[Ty.sz,List.take_add,ABL]
      |_=>simp [yU] at h
   obtain⟨y,hy,wy⟩:=go fs.toList T 0 hl A1G
   refine⟨y, ?_,wy⟩
   rw[xA,AFY (by omega)] at hy
   exact hy
  ·cases h
end
structure AE6 (w:World) (ps:List CT) (x:HT ps) (ms:Nat->Nm) (vals:List Value):Prop where
 all:∀ (TB:Tb) (c:EX TB),PS c (fun b=>b<w.heap.size) w ps x ms
 own:C2 ps x ms=[]
 den:AN (LF ms) (outSVs ps x 0)=vals
theorem AE6.nil (w:World):AE6 w [] () (fun _=>nm0) []:=⟨fun _ _=>trivial,rfl,rfl⟩
theorem AE6.cons {w:World} {r:List CT} {x:HT r} {ms:Nat->Nm} {vals:List Value} (h:AE6 w r x ms vals) {t:Ty} {ag:Bool} {v:Value} {cs:List Value} (hv:(ag=true/\v= .agg cs.toArray)\/(ag=false/\cs=[v])) (y:t.T) (hy:Rp (fun b=>b<w.heap.size) w t y cs):
  ∃ ms',AE6 w (⟨t,ag,false,false⟩::r) (HT.mk ⟨t,ag,false,false⟩ r y x) ms' (v::vals):=by
 obtain⟨m,e,hs⟩:=hy.out
 let ms' :Nat->Nm:=fun k=>if k<t.HH then m k else ms (k-t.HH)
 have rS:(CT.mk t ag false false).cnt=t.HH:=by simp [CT.cnt,CT.pn]
 have hm1:∀ k,k<t.HH->ms' k=m k:=fun k hk=>AA hk
 have hm2:(fun k=>ms' (t.HH+k))=ms:=by
  funext k
  show (if t.HH+k<t.HH then _ else ms (t.HH+k-t.HH))=_
  rw[af]
  congr 1;omega
 refine⟨ms',fun TB c=>⟨⟨fun j e he=> ?_,fun h=>by cases h⟩, ?_⟩, ?_, ?_⟩
 ·rw[HT.tU] at he
  have hj:j<t.HH:=by
   have:=(AA4.1 he).1
   rwa [BJ] at this
  have hE:=hs j e he
  show mN c _ w (ms' (0+j)) e
  rw[NV,hm1 j hj]
  cases e with
  |shr t xs=>exact hE
  |dead=>trivial
  |_=>exact hE.elim
 ·rw[HT.tV,rS,hm2];exact h.all TB c
 ·rw[C2,HT.tV,rS,hm2,h.own,N5,HT.tU]
  rw[iL];rfl
 ·have hd:AN (LF ms') (I1 t y 0)=cs:=by
   rw[XQ,e]
   exact IH _ _ fun k hk=>by rw[NV];exact hm1 k hk
  simp only[outSVs,AN,HT.tU,HT.tV,mI]
  refine⟨?_, ?_⟩
  ·unfold V8
   rcases hv with ⟨rfl,rfl⟩|⟨rfl,rfl⟩
   ·simp only[SV.den,hd]
   ·simp only
    cases hu:I1 t y 0 with
    |nil=>rw[hu] at hd;simp [AN] at hd
    |cons q l=>rw[hu] at hd;simp only[AN,mI] at hd;exact hd.1
  ·rw[rS,NV,←h.den]
   refine mQ _ _ fun k hk=> ?_
   show ms' (t.HH+k)=ms (0+k)
   rw[congrFun hm2 k,NV]
variable {f:FuncId} {P:Program}
theorem yV {fi:FnI} (hc:CallsV P TB f fi) {vals:Array Value} (hT:AX9 TB w) {x:HT fi.ps} {ms:Nat->Nm} {r:HT (fi.rs++fi.os)}
  (ha:AE6 w fi.ps x ms vals.toList) (hr:fi.F x=some r) (ht:∀ ms,(XT (outSVs fi.rs (HT.left fi.rs fi.os r) 0)).den (LF ms)= .bool true) (XU:fi.sh=[]:=by rfl) (hpp:fi.rR=[]:=by rfl):
  Calls P f vals w (fun e w' =>e= .returned (.bool true)/\Below w.heap.size w w'):=by
 have h:=hc.2 x r hr w (fun b=>b<w.heap.size) ms (fun _ h=>h) (ha.all _ _) (by rw[ha.own];exact dP) (fun q hq=>⟨⟨(hT q hq).1,by rw[ha.own];exact wU⟩,(hT q hq).2⟩) (by rw[hpp];exact fun q hq=>by cases hq)
 rw[XU] at h
 replace h:Calls P f (AN (LF ms) (outSVs fi.ps x 0)).toArray w _:=h
 rw[ha.den] at h
 have e:vals.toList.toArray=vals:=by simp
 rw[e] at h
 refine h.mono ?_
 rintro e w' ⟨G',ms',rfl,eF,hs,hold, -⟩
 refine⟨by rw[ht],⟨eF.os,eF.tape,eF.output,hs,fun b hb=>hold b hb ?_⟩⟩
 rw[ha.own]
 exact wU
theorem PV {W:World} {r:Reach} {base:Nat} {t:TypeId} {v:Value} (ha:HG P t=false) (h:Value.okWide P W r base t v):v.cells.toList=[v]:=by
 unfold Value.okWide at h
 unfold HG at ha
 split at h
 ·simp_all
 ·simp_all
 ·unfold Cell.okWide Cell.ok at h
  cases v <;> simp_all [Value.cells]
theorem AN9 {W:World} {r:Reach} {base:Nat} {t:TypeId} {v:Value} (ha:HG P t=true) (h:Value.okWide P W r base t v):v= .agg v.cells.toList.toArray:=by
 unfold Value.okWide at h
 unfold HG at ha
 split at h
 ·obtain⟨cs,rfl, -⟩:=h;simp [Value.cells]
 ·obtain⟨cs,rfl, -⟩:=h;simp [Value.cells]
 ·split at ha <;> simp_all
theorem handed {H:Type} {enc:TypeId×Value->H} {W:World} {r:Reach} {base:Nat} {held:Bool} {t:TypeId} {v:Value} {d:DataW H} {ps:List MemPlace} (n:Nat) (T:Ty) (hl:laid P n t T=true)
  (N7:Value.okWide P W r base t v) (h:DataW.Trod enc P W 0 (fun _=>true) held t v d ps):∃ y:T.T,Rp (fun b=>b<W.heap.size) W T y v.cells.toList/\Wf T y:=by
 obtain⟨fuel,h⟩:=h
 exact AKQ n t T hl fuel _ _ h
end Go.V3
namespace Go.V3
open Go Go.ChangeShapes Go.WideShapes Go.RowKit
theorem ACK {H:Type} {enc:TypeId×Value->H} {P:Program} {w:World} {e:TypeId} {k:IntKind} (he:P.underlying e=some (.int k)) (hc:P.cellsOf e=1):
  ∀ (m:Nat) (ns:List Int) (cs:List Value),cs.length=ns.length->(∀ i,i<ns.length->∃ x ps,DataW.trod enc P w 0 (fun _=>true) false m e ((cs.drop i).take 1)=some (x,ps)/\ns[i]?.map (fun n=>(DataW.lit (.int k n):DataW H))=some x)->cs=ns.map (Value.int k)
 |m,[],cs,hl,_=>by simpa using hl
 |m,n::ns,[],hl,_=>by simp at hl
 |m,n::ns,c::cs,hl,h=>by
  obtain⟨x,ps,h1,h2⟩:=h 0 (by simp)
  obtain⟨q,e1,e2,_⟩:=DataW.trod_int he h1
  simp only[xA,List.take_succ_cons,AM7,mI,and_true] at e1
  simp only[DG] at e2
  simp only[MU,dO,A_] at h2
  rw[e2.1] at h2
  simp only[DataW.lit.injEq,Lit.int.injEq,lQ] at h2
  rw[JS,e1,h2]
  congr 1
  refine ACK (enc:=enc) (w:=w) he hc m ns cs (by simpa using hl) fun i hi=> ?_
  obtain⟨x,ps,h3,h4⟩:=h (i+1) (by simpa using hi)
  exact⟨x,ps,by simpa using h3,by simpa using h4⟩
variable {P:Program}
theorem eT {W:World} {nm:String} {d:DataW Unit} (h:laidMetH P [(nm,d)] W) (hp:([(nm,d)].all fun x=>x.2.handleName?.isNone)=true) {g t e:Nat} {len:Nat} {k:IntKind} (hg:P.globalNamed nm=some g)
  (ht:(P.globals[g]?).map (·.type)=some t) (hu:P.underlying t=some (.array len e)) (he:P.underlying e=some (.int k)) (hc:P.cellsOf e=1) (hct:P.cellsOf t=len) (ns:List Int) (hd:d= .agg (ns.map fun n=> .lit (.int k n))):
  g<W.heap.size/\∃ ty fz,W.heap[g]? =some (.cells (ns.map (Value.int k)).toArray ty fz):=by
 rw[MakeChecks.laidMetH_plain _ _ _ hp] at h
 obtain⟨ps,⟨g0,t0,cs0,f0,p0,q0,hg0,ht0,hv0,hd0,_⟩,_⟩:=h
 obtain rfl:=HO (hg.symm.trans hg0)
 obtain rfl:=HO (ht.symm.trans ht0)
 obtain⟨xs,m,rfl,hx,hlen,vB,hel⟩:=DataW.trod_array hu hd0
 simp only[DG] at hx
 have hxs:=hx.1
 subst hd
 simp only[DataW.agg.injEq] at hxs
 have b_:ns.length=xs.length:=by
  have:=KL List.length hxs
  simpa using this
 have hcs:cs0.toList=ns.map (Value.int k):=by
  refine ACK (enc:=fun _=>()) (w:=W) he hc m ns cs0.toList (by rw[hlen,hct,b_,vB]) fun i hi=> ?_
  have h1:=hel i (by omega)
  rw[hc,tQ] at h1
  obtain⟨⟨x,q⟩,hxi⟩:∃ y,xs[i]? =some y:=⟨_,O6 (by omega)⟩
  rw[hxi] at h1
  refine⟨x,q,h1, ?_⟩
  have:=KL (fun l=>l[i]?) hxs
  simp only[ABD,hxi,dO] at this
  exact this
 unfold World.var? at hv0
 rw[hg] at hv0
 simp only[AW] at hv0
 split at hv0
 ·rename_i cs ty fz hb
  simp only[A_] at hv0
  subst hv0
  have e:cs=(ns.map (Value.int k)).toArray:=by
   rw[<-hcs]
  refine⟨?_,ty,fz,by rw[hb,e]⟩
  rcases IG g W.heap.size with h1|h1
  ·exact h1
  ·rw[wV h1] at hb;cases hb
 ·cases hv0
end Go.V3
namespace Go.V3
open Go
variable {TB:Tb} {P:Program}
section
variable (P) (cx:Cx) (rest tail:Code) (W:List Nat) (YS:Nat) (fr:List SV) (s:ByteArray)
end
end Go.V3
namespace Go.V3
open Go
theorem AB {e:Int} (h1: -9223372036854775808<=e) (h2:e<=9223372036854775807):AG e=e:=InK.wrap (k:= .i64) (show I64 e from ⟨h1,h2⟩)
theorem ah {e:Int} (h1: -9223372036854775808<=e:=by omega) (h2:e<=9223372036854775807:=by omega):AG e=e:=AB h1 h2
variable {β σ:Type}
theorem PW {f:σ->Option (σ ⊕ β)} (I:Nat->σ->Prop) (Q:β->Prop)
  (hs:∀ n s,I n s->(∃ b,f s=some (.inr b)/\Q b)\/(∃ m s',m<n/\f s=some (.inl s')/\I m s')):∀ n s,I n s->∃ b,AH f s=some b/\Q b:=by
 intro n
 induction n using Nat.strongRecOn with
 |ind n ih=>
  intro s h
  rcases hs n s h with ⟨b,hb,hq⟩|⟨m,s',hm,hf,hi⟩
  ·exact⟨b,by rw[F4,hb],hq⟩
  ·obtain⟨b,hb,hq⟩:=ih m hm s' hi
   exact⟨b,by rw[F4,hf];exact hb,hq⟩
variable {n:Nat}
theorem LI {f:σ->Option (σ ⊕ β)} {b:β} (I:Nat->σ->Prop)
  (hs:∀ n s,I n s->f s=some (.inr b)\/(∃ m s',m<n/\f s=some (.inl s')/\I m s')) {s:σ} (h:I n s):AH f s=some b:=by
 obtain⟨c,h1,h2⟩:=PW I (fun c=>c=b) (fun n s h=>(hs n s h).imp (fun h=>⟨b,h,rfl⟩) id) n s h
 rw[h1,h2]
theorem AKR (k:Nat) (hk:k<63) {a:Int} (h0:0<=a) (h1:a<=9223372036854775807):xE .and a (2 ^ k-1)=a%2 ^ k:=by
 obtain⟨n,rfl⟩:=ALN h0
 have e1:((2:Int) ^ k-1)=((2 ^ k-1:Nat):Int):=by
  have:0<2 ^ k:=ABK k
  have h2:((2 ^ k:Nat):Int)=(2:Int) ^ k:=by push_cast;rfl
  omega
 have hp:2 ^ k<=2 ^ 62:=ALT (by omega) (by omega)
 have hp' :(2:Nat) ^ 62=4611686018427387904:=by decide
 have e2:(BitVec.ofInt 64 (n:Int) &&& BitVec.ofInt 64 ((2 ^ k-1:Nat):Int)).toNat=n%2 ^ k:=by
  rw[ABJ,AG0,AG0,uZ,uZ,rG (by omega),rG (by omega),AR1]
 unfold xE
 rw[e1]
 show IntKind.i64.wrap _=_
 rw[e2]
 have hl:n%2 ^ k<2 ^ k:=ABP _ (ABK k)
 have:=ah (e:=((n%2 ^ k:Nat):Int))
 rw[AG] at this
 rw[this]
 push_cast
 rfl
variable {α:Type}
theorem AAN {xs:List α} {v:α} (hl:xs.length=n) (h:∀ j,j<n->xs[j]? =some v):xs=List.replicate n v:=by
 apply XA
 intro j
 rw[AA6]
 split
 ·rename_i hj;exact h j hj
 ·rename_i hj;exact IF (by omega)
end Go.V3
namespace Go.Proofs.YtokeceeccmgcmaaGreatDoor
open Go Go.V3
def ATB:Array Value:=(([0,1,56,2,57,49,28,3,61,58,42,50,38,29,17,4,62,47,59,36,45,43,51,22,53,39,33,30,24,18,12,5,63,55,48,27,60,41,37,16,46,35,44,21,52,32,23,11,54,26,40,15,34,20,31,10,25,14,19,9,13,8,7,6]:List Int).map (Value.int .u8)).toArray
def vI:Tb:=[(0,ATB)]
abbrev ATC:Ty:= .slice .u64
abbrev A49:Ty:= .slice .bool
abbrev AZ:Type:=Int×Int×Int
abbrev A1H:Ty:= .pair A49 ATC
abbrev FJ:Type:=List (BitVec 64)
abbrev EY:Type:=(List Int)×Int
abbrev AAO:Type:=List (Int×Int)
abbrev APS:Type:=Int×Bool×Int
abbrev KJ:Type:=(List Int)×FJ
abbrev AHO:Ty:= .slice (.int .i64)
abbrev AZA:Ty:= .pair AHO ATC
abbrev A4A:Ty:= .pair A49 AHO
abbrev CC:Type:=(List Bool)×FJ
abbrev BM:Type:=Nat×Int×Int×Int
abbrev Q_:Type:=Int×Int×Int×Int
abbrev AS:Type:=Int×Int×(List Int)
abbrev A4B:Ty:= .pair (.int .i64) AHO
abbrev AZB:Ty:= .pair AHO (.int .i64)
abbrev ATD:Ty:= .pair (.int .i64) A4B
abbrev ATE:Ty:= .slice ATD
abbrev AP:Type:=Int×FJ×(List AZ)
abbrev AZC:Ty:= .pair (.slice AZA) A4A
abbrev AD:Type:=Int×Int×Int×Int×Int
abbrev B0:Type:=List (List AD)
abbrev uL:Type:=(List AD)×APS×Bool
abbrev AZD:Ty:= .pair (.int .i64) (.int .i64)
abbrev AHP:Ty:= .slice AZD
abbrev eU:Ty:= .pair (.int .i64) AZD
abbrev AZE:Ty:= .slice eU
abbrev A4C:Ty:= .pair ATC AZE
abbrev AZF:Ty:= .pair .UA eU
abbrev A4D:Ty:= .slice AZF
abbrev ANA:Ty:= .pair (.int .i64) eU
abbrev bS:Ty:= .pair (.int .i64) ANA
abbrev ACL:Ty:= .slice bS
abbrev ATF:Ty:= .slice ACL
abbrev yW:Ty:= .pair (.int .i64) A4C
abbrev A4E:Ty:= .pair A4D (.int .i64)
abbrev ATG:Ty:= .pair .str A4E
abbrev A4F:Ty:= .pair (.int .i64) bS
abbrev A4G:Ty:= .pair (.int .i64) A4F
abbrev A4H:Ty:= .pair (.int .i64) A4G
abbrev A4I:Ty:= .pair (.int .i64) A4H
abbrev A4J:Ty:= .pair A4I .bool
abbrev A4K:Ty:= .pair (.int .i64) A4J
abbrev A4L:Ty:= .pair A1H A4K
abbrev A4M:Ty:= .pair ATE A4L
abbrev A4N:Ty:= .pair (.int .i64) A4M
abbrev A4O:Ty:= .pair ATF A4N
abbrev A4P:Ty:= .pair yW A4O
abbrev ANB:Ty:= .pair ATG A4P
abbrev B7:Type:=ByteArray×(List BM)×Int
abbrev AZG:Ty:= .pair .u64 (.pair bS AHP)
abbrev bT:Type:=AP×AD×AAO×FJ×Int
abbrev UM:Type:=(Bool×Int) ⊕ bT
abbrev lX:Type:=AP×(BitVec 64)×AD×AAO
abbrev NA:Type:=(List KJ)×(List Bool)×(List Int)
abbrev uM:Type:=AP×(List AD)×AD×AAO×Int
abbrev AZH:Ty:= .pair (.int .i64) (.pair .bool (.int .i64))
abbrev CR:Type:=Int×Int×Int×Int×Int×Int×Int×Int×Int
abbrev AO:CT:=⟨(.int .i64),false,false,false⟩
abbrev CS:CT:=⟨(.int .i64),false,true,false⟩
abbrev AKS:CT:=⟨(.pair (.int .i64) .u64),true,false,false⟩
abbrev A1I:CT:=⟨(.pair yW (.pair (.sl bS) (.pair bS (.pair AHP (.int .i64))))),true,true,false⟩
abbrev A4Q:CT:=⟨(.pair yW (.pair (.sl bS) (.pair bS (.pair AHP (.int .i64))))),true,true,true⟩
abbrev AXB:CT:=⟨(.pair yW AZG),true,true,false⟩
abbrev AXC:CT:=⟨(.pair yW AZG),true,true,true⟩
abbrev nA:CT:=⟨.bool,false,false,false⟩
abbrev HK:CT:=⟨.bool,false,true,false⟩
abbrev VK:CT:=⟨.u64,false,false,false⟩
abbrev bU:CT:=⟨.u64,false,true,false⟩
abbrev lY:CT:=⟨ATC,false,false,false⟩
abbrev QK:CT:=⟨ATC,false,true,false⟩
abbrev yX:CT:=⟨AZB,true,false,false⟩
abbrev O0:CT:=⟨AZB,true,false,true⟩
abbrev ACN:CT:=⟨ATE,false,false,false⟩
abbrev eV:CT:=⟨ATE,false,true,false⟩
abbrev X1:CT:=⟨AZC,true,false,false⟩
abbrev ATH:CT:=⟨AZC,true,true,false⟩
abbrev ATI:CT:=⟨AHP,false,false,false⟩
abbrev ANC:CT:=⟨AHP,false,true,false⟩
abbrev uN:CT:=⟨AZE,false,true,false⟩
abbrev yY:CT:=⟨A1H,true,false,false⟩
abbrev AND:CT:=⟨A1H,true,true,false⟩
abbrev ACO:CT:=⟨ANA,true,false,false⟩
abbrev LJ:CT:=⟨bS,true,false,false⟩
abbrev eW:CT:=⟨bS,true,true,false⟩
abbrev RA:CT:=⟨ACL,false,false,false⟩
abbrev AHQ:CT:=⟨ACL,false,true,false⟩
abbrev X2:CT:=⟨ATF,false,false,false⟩
abbrev AHR:CT:=⟨ATF,false,true,false⟩
abbrev DF:CT:=⟨yW,true,false,false⟩
abbrev PX:CT:=⟨yW,true,true,false⟩
abbrev pD:CT:=⟨ATG,true,false,false⟩
abbrev ANE:CT:=⟨ATG,true,true,false⟩
abbrev G8:CT:=⟨ANB,true,false,false⟩
abbrev X3:CT:=⟨ANB,true,true,false⟩
abbrev ANF:CT:=⟨AZH,true,false,false⟩
abbrev SZ:CT:=⟨AHO,false,false,false⟩
abbrev ANG:CT:=⟨AHO,false,false,true⟩
abbrev IC:CT:=⟨AHO,false,true,false⟩
abbrev ACP:CT:=⟨AHO,false,true,true⟩
def B8 (l b:List (Nat×CT)) (r:List (Nat×Ty)) (d o:List Nat) (n:Nat):dL:={ live:=l,boxes:=b,rows:=r,dead:=d,lost:=o,base:=n }
def BE (a:List (Nat×Nat×Nat)) (b:List Nat) (c:List (Nat×FnI)) (d e:List (Nat×dL)):Cx:={ nm:=a,CQ:=b,fns:=APQ c,loops:=d,oV:=e,tb:=vI,exts:=[],lets:=[] }
@[reducible] noncomputable def BP (a b:List CT) (f:HT a->Option (HT (b++ []))):FnI:={ ps:=a,rs:=b,os:=[],bk:=[],F:=f }
def E6:List (Nat×Nat)->List Nat
 | []=>[]
 |q::r=>(List.range q.2).map (fun i=>q.1+i)++E6 r
abbrev CV:=CallsV Tryz.prog vI
def EqV (i:FnI) (cx:Cx) (c:Code) (rvs:List ResultVar) (n N:Nat):Prop:=(fun x:HT i.ps=>i.F x)=fun x=>rk Tryz.prog cx c (HT (i.rs++i.os)) 1000000 (AX8 Tryz.prog rvs i.cl i.pin i.bk i.os (i.rs++i.os)) (AHN i.ps i.sh x n) (ACI i.ps i.rR x N)
variable {f:FuncId}
theorem okW {fn : Func} {i : FnI} (cx : Cx) (rvs : List ResultVar) (n N : Nat) (hcx : cx.Ok Tryz.prog) (hf : Tryz.prog.funcs[f]? = some fn) (hb : fn.body = some (fn.body.getD .skip) := by rfl) (hnm : (fn.name == "runtime.NumGoroutine") = false := by kernel_rfl) (hn : fn.ntmps = n := by rfl) (hres : fn.results = rvs.toArray := by rfl) (hps : ∀ x, (foldA i.sh (outSVs i.ps x 0)).length ≤ n := by exact fun x => Nat.le_of_ble_eq_true rfl) (hst : (rvs.length = i.rs.length ∧ i.os.all okO = true ∧ i.os.length = i.bk.length ∧ (i.bk.all fun j => decide (j < cnts i.ps)) = true ∧ (i.pin.all fun q => decide (q.2.2.1 < cnts i.ps)) = true ∧ shOk i N = true) := by decide) (he : EqV i cx (fn.body.getD .skip) rvs n N := by unfold EqV; kernel_rfl) : CallsV Tryz.prog cx.tb f i := callsV_of_rk hcx hf hb hnm hn hres hps hst fun x => congrFun he x
end Go.Proofs.YtokeceeccmgcmaaGreatDoor
namespace Go.V3
open Go
variable {β σ:Type}
theorem AK {f:σ->Option (σ ⊕ β)} (I:Nat->σ->Prop) (Q:β->Prop) (n:Nat)
  (hs:∀ k s,k<n->I k s->(∃ s',f s=some (.inl s')/\I (k+1) s')\/(∃ b,f s=some (.inr b)/\Q b))
  (he:∀ s,I n s->∃ b,f s=some (.inr b)/\Q b) {s:σ} (h:I 0 s):∃ b,AH f s=some b/\Q b:=by
 refine PW (fun m s=>m<=n/\I (n-m) s) Q ?_ n s ⟨EH _,by rw[bL];exact h⟩
 rintro m s ⟨hm,hi⟩
 rcases ALY m with rfl|h0
 ·left;exact he s (by simpa using hi)
 ·rcases hs (n-m) s (by omega) hi with ⟨s',h1,h2⟩|h1
  ·right
   refine⟨m-1,s',by omega,h1,by omega, ?_⟩
   rw[show n-(m-1)=n-m+1 from by omega];exact h2
  ·left;exact h1
abbrev Fr:Type:=Int×Int×Int
abbrev frT:Ty:= .pair (.int .i64) (.pair (.int .i64) (.int .i64))
abbrev Sp:Type:=Int×List (BitVec 64)×List Fr
abbrev AI:Type:=Int×Int×Int×Int×Int
def fr (fs:List Fr) (i:Int):Fr:=gl (0,0,0) fs i.toNat
def nx (fs:List Fr) (i:Int):Int:=if 0<=i/\i<fs.length then (fr fs i).2.2 else -1
def sz (s:Int):Int:=2 ^ s.toNat
theorem BU (s:Int):0<sz s:=Int.pow_pos (by decide)
variable {s:Int}
theorem ATJ (h:3<=s/\s<=8):sz s=8\/sz s=16\/sz s=32\/sz s=64\/sz s=128\/sz s=256:=by
 have:s=3\/s=4\/s=5\/s=6\/s=7\/s=8:=by omega
 rcases this with rfl|rfl|rfl|rfl|rfl|rfl <;> decide
theorem MF (h:3<=s/\s<=8):8<=sz s/\sz s<=256:=by
 have:=ATJ h;omega
theorem A1J (h:3<=s/\s<=8):min (BitVec.ofInt 64 s).toNat 64=s.toNat:=by
 have:s=3\/s=4\/s=5\/s=6\/s=7\/s=8:=by omega
 rcases this with rfl|rfl|rfl|rfl|rfl|rfl <;> rfl
theorem JK (h:3<=s/\s<=8):(2:Int) ^ min (BitVec.ofInt 64 s).toNat 64=sz s:=by rw[A1J h];rfl
variable {i:Int}
theorem eX {n:Int} (h:3<=s/\s<=8) (h0:0<=i) (h1:i<=n):0<=i*sz s/\i*sz s<=n*sz s:=by
 obtain⟨h2,h3⟩:=MF h
 exact⟨ABM h0 (by omega),rE h1 (by omega)⟩
theorem II {n:Int} (h:3<=s/\s<=8) (h0:0<=n) {m:Int} (h1:n<=m):0<=n*sz s/\n*sz s<=m*256:=by
 obtain⟨h2,h3⟩:=MF h
 exact⟨ABM h0 (by omega),Int.mul_le_mul h1 h3 (by omega) (by omega)⟩
theorem JL (i s:Int):(i+1)*sz s=i*sz s+sz s:=by rw[dS,lP]
variable {k:Nat} {α:Type}
theorem DJ {d:α} {xs:List α} (h:k<xs.length):gl d xs k=xs[k]:=by
 unfold gl;simp [List.getD,h]
theorem AE7 {d:α} {xs:List α} (h:k<xs.length):xs[k]? =some (gl d xs k):=by
 rw[DJ h];exact O6 h
theorem DS {d:α} {xs:List α} {j:Nat} {x:α} (h:j<xs.length):gl d (xs.set j x) k=if k=j then x else gl d xs k:=by
 unfold gl
 simp only[n9,wR]
 by_cases hk:j=k
 ·subst hk;simp [h]
 ·rw[AE hk,AE (fun e=>hk e.symm)]
theorem JM {d:α} {xs ys:List α} (h:k<xs.length):gl d (xs++ys) k=gl d xs k:=by
 unfold gl
 rw[n9,n9,V4 h]
variable {n:Nat}
theorem NB {d:α} {i:Nat} {v:α} (h:i<n):gl d (List.replicate n v) i=v:=by
 unfold gl;simp [List.getD,h]
variable {fs:List Fr}
theorem YI {j:Int} {x:Fr} (h0:0<=j) (h1:j<fs.length) (hi:0<=i):fr (fs.set j.toNat x) i=if i=j then x else fr fs i:=by
 unfold fr
 rw[DS (by omega)]
 by_cases h:i=j
 ·subst h;simp
 ·rw[AE h,af]
theorem HS (h0:0<=i) (h1:i<fs.length):nx fs i=(fr fs i).2.2:=by
 unfold nx;rw[AA ⟨h0,h1⟩]
theorem A1K (fs:List Fr):nx fs (-1)= -1:=by unfold nx;rw[af]
def Pa (fs:List Fr):Int->List Int->Prop
 |i,[]=>i= -1
 |i,a::r=>i=a/\0<=a/\a<fs.length/\Pa fs (nx fs a) r
theorem Pa.fn {fs:List Fr}:∀ {l l' :List Int} {i:Int},Pa fs i l->Pa fs i l' ->l=l'
 | [],[],_,_,_=>rfl
 | [],a::r,i,h,h' =>by obtain⟨rfl,h0,_⟩:=h';rw[Pa] at h;omega
 |a::r,[],i,h,h' =>by obtain⟨rfl,h0,_⟩:=h;rw[Pa] at h';omega
 |a::r,b::r',i,h,h' =>by
  obtain⟨rfl,_,_,h1⟩:=h
  obtain⟨rfl,_,_,h2⟩:=h'
  rw[Pa.fn h1 h2]
theorem Pa.mem {fs:List Fr}:∀ {l:List Int} {i x:Int},Pa fs i l->x∈l->0<=x/\x<fs.length
 | [],_,_,_,hx=>by cases hx
 |a::r,i,x,h,hx=>by
  obtain⟨rfl,h0,h1,h2⟩:=h
  rcases GH.1 hx with rfl|hx
  ·exact⟨h0,h1⟩
  ·exact h2.mem hx
theorem Pa.drop {fs:List Fr}:∀ {l:List Int} {i:Int} (k:Nat),Pa fs i l->(hk:k<l.length)->Pa fs l[k] (l.drop k)
 | [],_,k,_,hk=>by simp at hk
 |a::r,i,0,h,_=>by
  obtain⟨rfl,h0,h1,h2⟩:=h
  exact⟨rfl,h0,h1,h2⟩
 |a::r,i,k+1,h,hk=>by
  obtain⟨rfl,h0,h1,h2⟩:=h
  simp only[List.getElem_cons_succ,List.drop_succ_cons]
  exact h2.drop k (by simpa using hk)
theorem Pa.nodup {fs:List Fr}:∀ {l:List Int} {i:Int},Pa fs i l->l.Nodup
 | [],_,_=>dP
 |a::r,i,h=>by
  have h' :=h
  obtain⟨rfl,h0,h1,h2⟩:=h
  refine VE.2 ⟨fun hm=> ?_,h2.nodup⟩
  obtain⟨k,hk,he⟩:=wP hm
  have h3:=h2.drop k hk
  rw[he] at h3
  have:=KL List.length (h'.fn h3)
  simp at this
  omega
theorem S0:∀ (n:Nat) (l:List Int),l.Nodup->(∀ x∈l,0<=x/\x<n)->l.length<=n
 |0,l,_,h=>by
  cases l with
  |nil=>simp
  |cons a r=>have:=h a (by simp);omega
 |n+1,l,hd,h=>by
  have h1:=S0 n (l.erase (n:Int)) (hd.erase _) (fun x hx=>by
   have h2:=(hd.mem_erase_iff).1 hx
   have:=h x h2.2
   have:=h2.1
   omega)
  rw[List.length_erase] at h1
  split at h1 <;> omega
theorem Pa.length {fs:List Fr} {l:List Int} {i:Int} (h:Pa fs i l):l.length<=fs.length:=
 S0 _ _ h.nodup fun x hx=>h.mem hx
def sF (fs:List Fr):Nat->Int->Int
 |0,i=>i
 |k+1,i=>nx fs (sF fs k i)
theorem ACQ (fs:List Fr) (k:Nat) (i:Int):sF fs (k+1) i=sF fs k (nx fs i):=by
 induction k with
 |zero=>rfl
 |succ k ih=>rw[sF,ih];rfl
theorem AE8 (fs:List Fr) (k:Nat):sF fs k (-1)= -1:=by
 induction k with
 |zero=>rfl
 |succ k ih=>rw[sF,ih,A1K]
theorem v_ (fs:List Fr) (a b:Nat) (i:Int):sF fs (a+b) i=sF fs b (sF fs a i):=by
 induction b with
 |zero=>rfl
 |succ b ih=>rw[<-PC,sF,ih];rfl
def Rng (fs:List Fr):Prop:=∀ i:Int,0<=i->i<fs.length→-1<=nx fs i/\nx fs i<fs.length
theorem Pa.AE9 {fs:List Fr} (hr:Rng fs):∀ (k:Nat) (i:Int), -1<=i->i<fs.length->sF fs k i= -1->∃ l,Pa fs i l
 |0,i,_,_,h=>⟨[],h⟩
 |k+1,i,h0,h1,h=>by
  by_cases hi:i= -1
  ·exact⟨[],hi⟩
  ·rw[ACQ] at h
   obtain⟨l,hl⟩:=Pa.AE9 hr k (nx fs i) (hr i (by omega) h1).1 (hr i (by omega) h1).2 h
   exact⟨i::l,rfl,by omega,h1,hl⟩
theorem Pa.ends {fs:List Fr}:∀ {l:List Int} {i:Int},Pa fs i l->∀ m,l.length<=m->sF fs m i= -1
 | [],i,h,m,_=>by rw[Pa] at h;rw[h,AE8]
 |a::r,i,h,m,hm=>by
  obtain⟨rfl,_,_,h2⟩:=h
  obtain⟨m,rfl⟩:∃ k,m=k+1:=⟨m-1,by simp at hm;omega⟩
  rw[ACQ]
  exact h2.ends m (by simpa using hm)
theorem A1L:∀ (n:Nat) (f:Nat->Int),(∀ k,k<=n->0<=f k/\f k<n)->∃ a b,a<b/\b<=n/\f a=f b:=by
 intro n f h
 have hd:¬((List.range (n+1)).map f).Nodup:=fun hd=>by
  have:=S0 n _ hd (fun x hx=>by
   obtain⟨k,hk,rfl⟩:=DH.1 hx
   exact h k (by have:=dQ.1 hk;omega))
  simp at this
  omega
 rw[AR3,AFQ] at hd
 simp only[V6,AG2,rH,List.getElem_range,Classical.not_forall] at hd
 obtain⟨a,b,ha,hb,xV,he⟩:=hd
 exact⟨a,b,xV,by omega,by simpa using he⟩
theorem Pa.AHS (hr:Rng fs) (h:∀ i:Int,0<=i->i<fs.length->∀ k:Nat,1<=k->k<=fs.length->sF fs k i≠i) (i:Int) (h0:0<=i) (h1:i<fs.length):∃ l,Pa fs i l:=by
 refine Pa.AE9 hr (fs.length) i (by omega) h1 ?_
 apply AA5
 intro hn
 have MR:∀ k,k<=fs.length->0<=sF fs k i/\sF fs k i<fs.length:=by
  intro k
  induction k with
  |zero=>exact fun _=>⟨h0,h1⟩
  |succ k ih=>
   intro hk
   obtain⟨h2,h3⟩:=ih (by omega)
   have h4:=hr _ h2 h3
   refine⟨?_,h4.2⟩
   have h5:sF fs (k+1) i≠-1:=by
    intro h6
    obtain⟨d,hd⟩:=ALM hk
    rw[hd,v_,h6,AE8] at hn
    exact hn rfl
   rw[sF] at h5 ⊢
   omega
 obtain⟨a,b,xV,hb,he⟩:=A1L fs.length (fun k=>sF fs k i) MR
 obtain⟨d,rfl⟩:=ALM (Nat.le_of_lt xV)
 simp only[v_] at he
 obtain⟨h2,h3⟩:=MR a (by omega)
 exact h _ h2 h3 d (by omega) (by omega) he.symm
theorem Pa.ATK {l:List Int} (h:Pa fs i l) (h0:0<=i) (k:Nat) (hk:1<=k):sF fs k i≠i:=by
 intro he
 have hm:∀ m:Nat,sF fs (m*k) i=i:=by
  intro m
  induction m with
  |zero=>rw[ABN];rfl
  |succ m ih=>rw[Nat.succ_mul,v_,ih,he]
 have h1:=h.ends (l.length*k) (Nat.le_mul_of_pos_right _ hk)
 rw[hm] at h1
 omega
def Stamped (f:Fr):Prop:=0<=f.1/\f.1<=4294967295/\∃ b:Int,0<=b/\b<4/\f.2.1=f.1+b*4294967296
def APT (f:Fr):Prop:=f=(-1, -1, -1)
def Zero (s:Sp) (i:Int):Prop:=∀ a:Nat,i*sz s.1<=a->(a:Int)<(i+1)*sz s.1->gl 0#64 s.2.1 a=0#64
def aF (fs:List Fr) (i:Int):Prop:=
 Stamped (fr fs i)∧-1<=(fr fs i).2.2/\(fr fs i).2.2<fs.length/\(fr fs i).2.2≠i/\((fr fs i).2.2≠-1->(fr fs (fr fs i).2.2).1=(fr fs i).1/\(fr fs (fr fs i).2.2).2.1=(fr fs i).2.1)
def AXD (s:Sp) (i:Int):Prop:=(APT (fr s.2.2 i)/\Zero s i)\/aF s.2.2 i
structure VS (s:Sp):Prop where
 sh:3<=s.1/\s.1<=8
 n:2<=s.2.2.length/\s.2.2.length<=64
 w:(s.2.1.length:Int)=s.2.2.length*sz s.1
 fr:∀ i:Int,0<=i->i<s.2.2.length->AXD s i
 inj:∀ i j:Int,0<=i->i<s.2.2.length->0<=j->j<s.2.2.length->nx s.2.2 i=nx s.2.2 j->nx s.2.2 i≠-1->i=j
 acy:∀ i:Int,0<=i->i<s.2.2.length->∃ l,Pa s.2.2 i l
theorem yZ (x:BitVec 64) (n:Nat):(x >>> n) &&& 1#64=1#64↔x.getLsbD n=true:=by
 constructor
 ·intro h
  have:=KL (fun v=>v.getLsbD 0) h
  simpa using this
 ·intro h
  apply AFX
  intro i hi
  simp only[AM0,BitVec.getLsbD_ushiftRight,BitVec.getLsbD_one]
  by_cases h0:i=0
  ·subst h0;simp [h]
  ·simp [h0]
theorem AEA (x:BitVec 64) {m:Nat} (j:Nat) (hm:m<64):(x|||(1#64 <<< m)).getLsbD j=(x.getLsbD j||decide (m=j)):=by
 simp only[BitVec.getLsbD_or,BitVec.getLsbD_shiftLeft,BitVec.getLsbD_one]
 congr 1
 rw[jN]
 simp
 omega
theorem sG (h0:0<=i) (h1:i<64):(BitVec.ofInt 64 i).toNat=i.toNat:=by
 rw[jK]
 congr 1
 exact AM2 h0 (by omega)
theorem ANH {d:α} {xs:List α} {lo j:Nat} (h:j<n):gl d (BF xs lo n) j=gl d xs (lo+j):=by
 unfold gl BF
 simp only[n9,n_,dM]
 rw[AA h]
theorem AHT {xs:List α} {lo:Nat} (h:lo+n<=xs.length):(BF xs lo n).length=n:=by
 unfold BF;simp;omega
end Go.V3
set_option maxRecDepth 100000
namespace Go.Proofs.YtokeceeccmgcmaaGreatDoor
open Go Go.V3
noncomputable section
def DT (a0:Int) (a1:Int):Option Int:=
if ¬a1=0 then
if (Int.tmod a0 a1)<0 then
some (AG ((Int.tmod a0 a1)+a1))
else some (Int.tmod a0 a1)
else none
@[reducible] def QL:FnI:=BP [AO,AO] [CS] fun x=>DT x.1 x.2
def pE:Cx:=BE [] [] [] [] []
theorem WG:CV 26 QL:=okW pE [.tmp 4] 15 0 (BC AL.nil BA.nil) Tryz.func26
def IJ (a0:(List Int)):Option EY:=
some ((a0,0))
@[reducible] def MG:FnI:=BP [SZ] [O0] fun x=>IJ x
def pF:Cx:=BE [(5,(1,1))] [] [] [] []
theorem PD:CV 9 MG:=okW pF [.tmp 2] 6 1 (BC AL.nil BA.nil) Tryz.func9
def GA (a0:Int):Option Bool:=
if a0≥3 then
some (decide (a0<=8))
else some (false)
@[reducible] def I8:FnI:=BP [AO] [HK] fun x=>GA x
def eY:Cx:=BE [] [] [] [] []
theorem LX:CV 56 I8:=okW eY [.tmp 2] 9 0 (BC AL.nil BA.nil) Tryz.func56
def D9 (a0:AZ):Option Bool:=
if a0.1<0 then
some (false)
else if a0.1>4294967295 then
some (false)
else AH (σ:=Int) (β:=Bool) (fun s1=>
if s1<4 then
if a0.2.1=(AG (a0.1+(AG (s1*4294967296)))) then
some (Sum.inr (true))
else some (Sum.inl (AG (s1+1)))
else some (Sum.inr (false))) (0)
@[reducible] def QM:FnI:=BP [⟨eU,true,false,false⟩] [HK] fun x=>D9 x
def aG:Cx:=BE [(1,(0,1))] [] [] [(0,B8 [(3,AO)] [] [] (E6 [(2,1),(12,12)]) [] 1)] []
theorem ZC:CV 57 QM:=okW aG [.tmp 2] 24 1 (BC AL.nil BA.nil) Tryz.func57
def zbb (a0:AP):=AG ((a0.2.2.length:Int)*2 ^ min (BitVec.ofInt 64 a0.1).toNat 64)
def za8 (a0:AP) (s1:(Int×(List Int))):=gl ((0,0,0):AZ) a0.2.2 s1.1.toNat
def za3 (a0:AP) (s1:(Int×(List Int))):=((za8 a0 s1).2).2
def zbd (s1:(Int×(List Int))) (a0:AP):=AG ((gl (0:Int) s1.2 ((za3 a0 s1).toNat))+1)
def za2 (a0:AP) (s1:(Int×(List Int))):Option ((Int×(List Int))⊕Bool):=Option.bind (D9 ((za8 a0 s1).1,((za8 a0 s1).2))) (fun r2=>
if (!r2)=true then
some (Sum.inr (false))
else if (za3 a0 s1)<(-1) then
some (Sum.inr (false))
else if (za3 a0 s1)≥(a0.2.2.length:Int) then
some (Sum.inr (false))
else if (za3 a0 s1)=s1.1 then
some (Sum.inr (false))
else if (za3 a0 s1)=(-1) then
some (Sum.inl ((AG (s1.1+1),s1.2)))
else if 0<=(za3 a0 s1)/\(za3 a0 s1)<(a0.2.2.length:Int) then
if (0<=(za3 a0 s1)/\(za3 a0 s1)<((64:Nat):Int))/\(za3 a0 s1)<(s1.2.length:Int) then
if (0<=(za3 a0 s1)/\(za3 a0 s1)<((64:Nat):Int))/\(za3 a0 s1)<(s1.2.length:Int) then
if ¬((gl ((0,0,0):AZ) a0.2.2 ((za3 a0 s1).toNat)).1)=((za8 a0 s1).1) then
some (Sum.inr (false))
else if ¬(((gl ((0,0,0):AZ) a0.2.2 ((za3 a0 s1).toNat)).2).1)=(((za8 a0 s1).2).1) then
some (Sum.inr (false))
else if (0<=(za3 a0 s1)/\(za3 a0 s1)<((64:Nat):Int))/\(za3 a0 s1)<((s1.2.set ((za3 a0 s1).toNat) (zbd s1 a0)).length:Int) then
if (gl (0:Int) (s1.2.set ((za3 a0 s1).toNat) (zbd s1 a0)) ((za3 a0 s1).toNat))>1 then
some (Sum.inr (false))
else some (Sum.inl ((AG (s1.1+1),s1.2.set ((za3 a0 s1).toNat) (zbd s1 a0))))
else none
else none
else none
else none)
def zba (s4:(Int×Int)) (a0:AP):Option ((Int×Int)⊕(Int ⊕ Bool)):=if 0<=s4.1/\s4.1<(a0.2.2.length:Int) then
some (Sum.inl ((((gl ((0,0,0):AZ) a0.2.2 s4.1.toNat).2).2,AG (s4.2+1))))
else none
def C8 (a0:AP):Option Bool:=
Option.bind (GA a0.1) (fun r1=>
if (!r1)=true then
some (false)
else if (a0.2.2.length:Int)<2 then
some (false)
else if (a0.2.2.length:Int)>64 then
some (false)
else if True then
if ¬(a0.2.1.length:Int)=(zbb a0) then
some (false)
else AH (σ:=(Int×(List Int))) (β:=Bool) (fun s1=>
if s1.1<(a0.2.2.length:Int) then
if 0<=s1.1/\s1.1<(a0.2.2.length:Int) then
if ((za8 a0 s1).1)=(-1) then
if (((za8 a0 s1).2).1)=(-1) then
if (za3 a0 s1)=(-1) then
if True then
AH (σ:=Int) (β:=((Int×(List Int)) ⊕ Bool)) (fun s2=>
if True then
if s2<(AG ((AG (s1.1+1))*2 ^ min (BitVec.ofInt 64 a0.1).toNat 64)) then
if 0<=s2/\s2<(a0.2.1.length:Int) then
if ¬(gl (0#64:(BitVec 64)) a0.2.1 s2.toNat)=(0#64) then
some (Sum.inr (Sum.inr (false)))
else some (Sum.inl (AG (s2+1)))
else none
else some (Sum.inr (Sum.inl ((AG (s1.1+1),s1.2))))
else none) (AG (s1.1*2 ^ min (BitVec.ofInt 64 a0.1).toNat 64))
else none
else za2 a0 s1
else za2 a0 s1
else za2 a0 s1
else none
else Option.map Sum.inr (AH (σ:=Int) (β:=Bool) (fun s3=>
if s3<(a0.2.2.length:Int) then
AH (σ:=(Int×Int)) (β:=(Int ⊕ Bool)) (fun s4=>
if s4.2<=(a0.2.2.length:Int) then
if ¬s4.1=(-1) then
zba s4 a0
else Option.map Sum.inr (if ¬s4.1=(-1) then
some (Sum.inr (false))
else some (Sum.inl (AG (s3+1))))
else Option.map Sum.inr (if ¬s4.1=(-1) then
some (Sum.inr (false))
else some (Sum.inl (AG (s3+1))))) ((s3,0))
else some (Sum.inr (true))) (0))) ((0,List.replicate 64 (0:Int)))
else none)
@[reducible] def G9:FnI:=BP [DF] [HK] fun x=>C8 x
def eZ:Cx:=BE [(1,(2,1)),(4,(3,1)),(6,(4,1)),(8,(5,1))] [4] [(56,I8),(57,QM)] [(0,B8 [(41,AO)] [] [(3,(.int .i64))] (E6 [(2,1),(5,4),(42,93)]) [] 4),(2,B8 [(7,AO)] [] [] (E6 [(2,1),(64,16)]) [] 5),(4,B8 [(138,AO)] [] [] (E6 [(2,1),(9,3),(139,21)]) [] 6),(6,B8 [(10,AO),(11,AO)] [] [] (E6 [(142,15)]) [] 6)] []
theorem IU:CV 35 G9:=okW eZ [.tmp 2] 160 4 (BC (.cons LX (.cons ZC AL.nil)) BA.nil) Tryz.func35
def za6 (a1:Int) (a0:Int):=AG (a1*2 ^ min (BitVec.ofInt 64 a0).toNat 64)
def I9 (a0:Int) (a1:Int):Option (AP×Int):=
Option.bind (GA a0) (fun r1=>
if (!r1)=true then
some (((0,[],[]),1))
else if a1<2 then
some (((0,[],[]),1))
else if a1>64 then
some (((0,[],[]),1))
else if True then
if 0<=(za6 a1 a0)/\(za6 a1 a0)<=(za6 a1 a0)/\(za6 a1 a0)*((8:Nat):Int)<=140737488355328 then
if 0<=a1/\a1<=a1/\a1*((24:Nat):Int)<=140737488355328 then
AH (σ:=(Int×(List AZ))) (β:=(AP×Int)) (fun s1=>
if s1.1<((List.replicate a1.toNat ((0,0,0):AZ)).length:Int) then
if 0<=s1.1/\s1.1<(s1.2.length:Int) then
some (Sum.inl ((AG (s1.1+1),s1.2.set s1.1.toNat ((-1),(-1),(-1)))))
else none
else some (Sum.inr (((a0,List.replicate (za6 a1 a0).toNat (0#64:(BitVec 64)),s1.2),0)))) ((0,List.replicate a1.toNat ((0,0,0):AZ)))
else none
else none
else none)
@[reducible] def PE:FnI:=BP [AO,AO] [PX,CS] fun x=>I9 x.1 x.2
def nB:Cx:=BE [(4,(0,1)),(6,(3,1)),(25,(1,1)),(27,(2,1))] [25,27] [(56,I8)] [(0,B8 [(32,AO)] [] [(2,eU)] (E6 [(7,1),(33,8)]) [] 4)] []
theorem UN:CV 40 PE:=okW nB [.cell 4 25,.tmp 5] 42 4 (BC (.cons LX AL.nil) BA.nil) Tryz.func40
def JT (a0:AP) (a1:Int):Option (List Int):=
AH (σ:=EY) (β:=(List Int)) (fun s1=>
if ¬s1.2=(-1) then
if (s1.1.length+([s1.2]:List Int).length)*8<=140737488355328 then
if 0<=s1.2/\s1.2<(a0.2.2.length:Int) then
some (Sum.inl ((s1.1++([s1.2]:List Int),((gl ((0,0,0):AZ) a0.2.2 s1.2.toNat).2).2)))
else none
else none
else some (Sum.inr (s1.1))) (([],a1))
@[reducible] def S1:FnI:=BP [DF,AO] [IC] fun x=>JT x.1 x.2
def e_:Cx:=BE [(2,(2,1)),(18,(4,1)),(19,(5,1))] [19] [] [(0,B8 [(5,IC),(6,AO)] [] [] (E6 [(8,12)]) [] 3)] []
theorem cB:CV 58 S1:=okW e_ [.tmp 4] 21 4 (BC AL.nil BA.nil) Tryz.func58
def IM (a0:Int) (a1:Int):Option Int:=
if a0<0 then
some (0)
else if a0>1099511627776 then
some (0)
else if a1<0 then
some (0)
else if a1>20 then
some (0)
else if True then
if True then
some ((AG ((AG (a0+(AG ((1:Int)*2 ^ min (BitVec.ofInt 64 a1).toNat 64))))-1)) / 2 ^ min (BitVec.ofInt 64 a1).toNat 64)
else none
else none
@[reducible] def N8:FnI:=BP [AO,AO] [CS] fun x=>IM x.1 x.2
def jQ:Cx:=BE [] [] [] [] []
theorem S2:CV 89 N8:=okW jQ [.tmp 4] 28 0 (BC AL.nil BA.nil) Tryz.func89
def CF (a0:AP) (a1:AD):Option Int:=
Option.bind (IM a1.2.2.2.2 a0.1) (fun r1=>
some (r1))
@[reducible] def D_:FnI:=BP [DF,LJ] [CS] fun x=>CF x.1 x.2
def cC:Cx:=BE [(2,(2,1)),(3,(3,1))] [] [(89,N8)] [] []
theorem ET:CV 59 D_:=okW cC [.tmp 4] 10 2 (BC (.cons S2 AL.nil) BA.nil) Tryz.func59
def C3 (a0:AP) (a1:AD):Option Bool:=
if a1.1<0 then
some (false)
else if a1.1>4294967295 then
some (false)
else if a1.2.1<0 then
some (false)
else if a1.2.1≥4 then
some (false)
else if a1.2.2.2.2<0 then
some (false)
else if a1.2.2.2.2>(a0.2.1.length:Int) then
some (false)
else if a1.2.2.2.2=0 then
if a1.2.2.1=(-1) then
some (decide (a1.2.2.2.1=(-1)))
else some (false)
else if a1.2.2.1<0 then
some (false)
else if a1.2.2.1≥(a0.2.2.length:Int) then
some (false)
else if 0<=a1.2.2.1/\a1.2.2.1<(a0.2.2.length:Int) then
if ¬((gl ((0,0,0):AZ) a0.2.2 a1.2.2.1.toNat).1)=a1.1 then
some (false)
else if ¬(((gl ((0,0,0):AZ) a0.2.2 a1.2.2.1.toNat).2).1)=(AG ((AG (a1.2.1*4294967296))+a1.1)) then
some (false)
else Option.bind (JT a0 a1.2.2.1) (fun r1=>
AH (σ:=(Int×Int)) (β:=Bool) (fun s1=>
if s1.2<(a0.2.2.length:Int) then
if 0<=s1.2/\s1.2<(a0.2.2.length:Int) then
if ((gl ((0,0,0):AZ) a0.2.2 s1.2.toNat).1)=a1.1 then
some (Sum.inl ((AG (s1.1+1),AG (s1.2+1))))
else some (Sum.inl ((s1.1,AG (s1.2+1))))
else none
else Option.map Sum.inr (Option.bind (CF a0 a1) (fun r2=>
if (r1.length:Int)=r2 then
if (r1.length:Int)=s1.1 then
if 0<=(AG ((r1.length:Int)-1))/\(AG ((r1.length:Int)-1))<(r1.length:Int) then
some (decide ((gl (0:Int) r1 ((AG ((r1.length:Int)-1)).toNat))=a1.2.2.2.1))
else none
else some (false)
else some (false)))) ((0,0)))
else none
@[reducible] def N9:FnI:=BP [DF,LJ] [HK] fun x=>C3 x.1 x.2
def jR:Cx:=BE [(2,(2,1)),(3,(3,1)),(5,(4,1)),(9,(6,1)),(88,(5,1))] [] [(58,S1),(59,D_)] [(0,B8 [(7,AO),(92,AO)] [] [] (E6 [(9,1),(93,11)]) [] 6)] []
theorem S3:CV 36 N9:=okW jR [.tmp 4] 127 5 (BC (.cons cB (.cons ET AL.nil)) BA.nil) Tryz.func36
def JU (a0:AP) (a1:AD):Option Bool:=
Option.bind (C8 a0) (fun r1=>
if r1=true then
Option.bind (C3 a0 a1) (fun r2=>
some (r2))
else some (false))
@[reducible] def S4:FnI:=BP [DF,LJ] [HK] fun x=>JU x.1 x.2
def fA:Cx:=BE [(2,(2,1)),(3,(3,1))] [] [(35,G9),(36,N9)] [] []
theorem cD:CV 62 S4:=okW fA [.tmp 4] 12 2 (BC (.cons IU (.cons S3 AL.nil)) BA.nil) Tryz.func62
def GS (a0:AP) (a1:Int):Option Bool:=
AH (σ:=Int) (β:=Bool) (fun s1=>
if s1<(a0.2.2.length:Int) then
if 0<=s1/\s1<(a0.2.2.length:Int) then
if ((gl ((0,0,0):AZ) a0.2.2 s1.toNat).1)=a1 then
some (Sum.inr (true))
else some (Sum.inl (AG (s1+1)))
else none
else some (Sum.inr (false))) (0)
@[reducible] def N_:FnI:=BP [DF,AO] [HK] fun x=>GS x.1 x.2
def jS:Cx:=BE [(2,(2,1)),(6,(3,1))] [] [] [(0,B8 [(10,AO)] [] [] (E6 [(4,1),(6,1),(11,8)]) [] 3)] []
theorem S5:CV 37 N_:=okW jS [.tmp 4] 19 2 (BC AL.nil BA.nil) Tryz.func37
def JV (a0:FJ):Option FJ:=
if (([]:List (BitVec 64)).length+a0.length)*8<=140737488355328 then
some (([]:List (BitVec 64))++a0)
else none
@[reducible] def S6:FnI:=BP [lY] [QK] fun x=>JV x
def fB:Cx:=BE [(4,(1,1))] [4] [] [] []
theorem cE:CV 46 S6:=okW fB [.tmp 2] 5 1 (BC AL.nil BA.nil) Tryz.func46
def BG (a0:AP):Option AP:=
Option.bind (JV a0.2.1) (fun r1=>
if (([]:List AZ).length+a0.2.2.length)*24<=140737488355328 then
some ((a0.1,r1,([]:List AZ)++a0.2.2))
else none)
@[reducible] def EZ:FnI:=BP [DF] [PX] fun x=>BG x
def jT:Cx:=BE [(1,(2,1)),(2,(3,1)),(7,(4,1)),(10,(5,1))] [10] [(46,S6)] [] []
theorem FQ:CV 25 EZ:=okW jT [.cell 2 25] 12 4 (BC (.cons cE AL.nil) BA.nil) Tryz.func25
def HU (a0:AP) (a1:AD) (a2:Int):Option Int:=
Option.bind (IM (AG (a1.2.2.2.2+a2)) a0.1) (fun r1=>
Option.bind (CF a0 a1) (fun r2=>
some (AG (r1-r2))))
@[reducible] def NC:FnI:=BP [DF,LJ,AO] [CS] fun x=>HU x.1 x.2.1 x.2.2
def fC:Cx:=BE [(3,(2,1)),(4,(3,1))] [] [(59,D_),(89,N8)] [] []
theorem RB:CV 91 NC:=okW fC [.tmp 6] 18 2 (BC (.cons ET (.cons S2 AL.nil)) BA.nil) Tryz.func91
def DZ (a0:AP):Option (List Int):=
AH (σ:=EY) (β:=(List Int)) (fun s1=>
if s1.2<(a0.2.2.length:Int) then
if 0<=s1.2/\s1.2<(a0.2.2.length:Int) then
if ((gl ((0,0,0):AZ) a0.2.2 s1.2.toNat).1)=(-1) then
if (s1.1.length+([s1.2]:List Int).length)*8<=140737488355328 then
some (Sum.inl ((s1.1++([s1.2]:List Int),AG (s1.2+1))))
else none
else some (Sum.inl ((s1.1,AG (s1.2+1))))
else none
else some (Sum.inr (s1.1))) (([],0))
@[reducible] def HW:FnI:=BP [DF] [IC] fun x=>DZ x
def jU:Cx:=BE [(1,(2,1)),(5,(4,1)),(19,(5,1)),(20,(6,1))] [20] [] [(0,B8 [(3,IC),(9,AO)] [] [] (E6 [(4,2),(10,12)]) [] 3)] []
theorem I_:CV 92 HW:=okW jU [.tmp 2] 23 5 (BC AL.nil BA.nil) Tryz.func92
def IN (a0:AP) (a1:Int) (a2:Int):Option AP:=
AH (σ:=Int) (β:=AP) (fun s1=>
if s1<(a0.2.2.length:Int) then
if 0<=s1/\s1<(a0.2.2.length:Int) then
if ((gl ((0,0,0):AZ) a0.2.2 s1.toNat).1)=(-1) then
if 0<=s1/\s1<(a0.2.2.length:Int) then
some (Sum.inr ((s1,a0.2.1,a0.2.2.set s1.toNat (a1,AG ((AG (a2*4294967296))+a1),(-1)))))
else none
else some (Sum.inl (AG (s1+1)))
else none
else some (Sum.inr (((-1),a0.2.1,a0.2.2)))) (0)
@[reducible] def UO:FnI:={ ps:=[PX,AO,AO],rs:=[CS],os:=[QK,uN],bk:=[0,1],F:=fun x=>IN x.1 x.2.1 x.2.2 }
def jV:Cx:=BE [(3,(2,1)),(8,(3,1))] [] [] [(0,B8 [(12,AO)] [] [] (E6 [(6,3),(13,19)]) [] 3)] []
theorem fD:CV 93 UO:=okW jV [.tmp 6] 32 2 (BC AL.nil BA.nil) Tryz.func93
def za5 (a0:AP):=AG ((1:Int)*2 ^ min (BitVec.ofInt 64 a0.1).toNat 64)
def AX (a0:AP) (a1:Int) (a2:Int):Option (Int×Int):=
if a1<0 then
some ((0,2))
else if a1≥(a0.2.1.length:Int) then
some ((0,2))
else if a2<0 then
some ((0,2))
else if True then
if True then
if 0<=(a1 / 2 ^ min (BitVec.ofInt 64 a0.1).toNat 64)/\(a1 / 2 ^ min (BitVec.ofInt 64 a0.1).toNat 64)<(a0.2.2.length:Int) then
if ((gl ((0,0,0):AZ) a0.2.2 ((a1 / 2 ^ min (BitVec.ofInt 64 a0.1).toNat 64).toNat)).1)=(-1) then
some ((0,5))
else AH (σ:=AZ) (β:=(Int×Int)) (fun s1=>
if True then
if s1.1≥(AG ((za5 a0)-s1.2.2)) then
if True then
if 0<=s1.2.1/\s1.2.1<(a0.2.2.length:Int) then
if (((gl ((0,0,0):AZ) a0.2.2 s1.2.1.toNat).2).2)=(-1) then
some (Sum.inr ((0,2)))
else some (Sum.inl ((AG (s1.1-(AG ((za5 a0)-s1.2.2))),((gl ((0,0,0):AZ) a0.2.2 s1.2.1.toNat).2).2,0)))
else none
else none
else Option.map Sum.inr (if True then
some ((AG ((AG ((AG (s1.2.1*2 ^ min (BitVec.ofInt 64 a0.1).toNat 64))+s1.2.2))+s1.1),0))
else none)
else none) ((a2,a1 / 2 ^ min (BitVec.ofInt 64 a0.1).toNat 64,xE .and a1 (AG ((za5 a0)-1))))
else none
else none
else none
@[reducible] def DV:FnI:=BP [DF,AO,AO] [CS,CS] fun x=>AX x.1 x.2.1 x.2.2
def pG:Cx:=BE [(3,(2,1))] [] [] [(0,B8 [(2,AO),(8,AO),(9,AO)] [] [] (E6 [(6,2),(42,24)]) [] 3)] []
theorem D0:CV 19 DV:=okW pG [.tmp 6,.tmp 7] 75 1 (BC AL.nil BA.nil) Tryz.func19
def C4 (a0:AP) (a1:AD) (a2:Int):Option (AD×Int×Int×FJ×(List AZ)):=
Option.bind (HU a0 a1 a2) (fun r1=>
Option.bind (DZ a0) (fun r2=>
if r1>(r2.length:Int) then
some (((0,0,0,0,0),0,4,a0.2.1,a0.2.2))
else AH (σ:=(Int×AD×FJ×(List AZ))) (β:=(AD×Int×Int×FJ×(List AZ))) (fun s1=>
if s1.1>0 then
Option.bind (IN (a0.1,s1.2.2) s1.2.1.1 s1.2.1.2.1) (fun r3=>
if s1.2.1.2.2.1=(-1) then
some (Sum.inl ((AG (s1.1-1),(s1.2.1.1,s1.2.1.2.1,r3.1,r3.1,s1.2.1.2.2.2.2),r3.2.1,r3.2.2)))
else if 0<=s1.2.1.2.2.2.1/\s1.2.1.2.2.2.1<(r3.2.2.length:Int) then
some (Sum.inl ((AG (s1.1-1),(s1.2.1.1,s1.2.1.2.1,s1.2.1.2.2.1,r3.1,s1.2.1.2.2.2.2),r3.2.1,r3.2.2.set s1.2.1.2.2.2.1.toNat ((gl ((0,0,0):AZ) r3.2.2 s1.2.1.2.2.2.1.toNat).1,((gl ((0,0,0):AZ) r3.2.2 s1.2.1.2.2.2.1.toNat).2).1,r3.1))))
else none)
else Option.map Sum.inr (if True then
Option.bind (AX (a0.1,s1.2.2) (AG (s1.2.1.2.2.1*2 ^ min (BitVec.ofInt 64 a0.1).toNat 64)) a1.2.2.2.2) (fun r4=>
some (((s1.2.1.1,s1.2.1.2.1,s1.2.1.2.2.1,s1.2.1.2.2.2.1,AG (s1.2.1.2.2.2.2+a2)),r4.1,0,s1.2.2.1,s1.2.2.2)))
else none)) ((r1,a1,a0.2.1,a0.2.2))))
@[reducible] def JW:FnI:={ ps:=[PX,LJ,AO],rs:=[eW,CS,CS],os:=[QK,uN],bk:=[0,1],F:=fun x=>C4 x.1 x.2.1 x.2.2 }
def jW:Cx:=BE [(3,(2,1)),(4,(3,1)),(6,(4,1)),(20,(5,1))] [] [(19,DV),(91,NC),(92,HW),(93,UO)] [(0,B8 [(9,AO)] [(3,LJ)] [(0,.u64),(1,eU)] (E6 [(11,1),(26,24)]) [] 6)] []
theorem ND:CV 63 JW:=okW jW [.cell 6 28,.tmp 7,.tmp 8] 69 4 (BC (.cons D0 (.cons RB (.cons I_ (.cons fD AL.nil)))) BA.nil) Tryz.func63
def za7 (a0:AP) (a1:AD) (a2:Int):Option (AP×AD×Int×Int):=Option.bind (BG a0) (fun r3=>
Option.bind (C4 r3 a1 a2) (fun r4=>
if ¬r4.2.2.1=0 then
some (((0,[],[]),(0,0,0,0,0),0,r4.2.2.1))
else some (((r3.1,r4.2.2.2),r4.1,r4.2.1,0))))
def DR (a0:AP) (a1:AD) (a2:Int):Option (AP×AD×Int×Int):=
Option.bind (JU a0 a1) (fun r1=>
if (!r1)=true then
some (((0,[],[]),(0,0,0,0,0),0,1))
else if a2<1 then
some (((0,[],[]),(0,0,0,0,0),0,1))
else if a2>48 then
some (((0,[],[]),(0,0,0,0,0),0,1))
else if a1.2.2.2.2=0 then
Option.bind (GS a0 a1.1) (fun r2=>
if r2=true then
some (((0,[],[]),(0,0,0,0,0),0,5))
else za7 a0 a1 a2)
else za7 a0 a1 a2)
@[reducible] def S7:FnI:=BP [DF,LJ,AO] [PX,eW,CS,CS] fun x=>DR x.1 x.2.1 x.2.2
def fE:Cx:=BE [(3,(2,1)),(4,(3,1)),(6,(4,1)),(7,(5,1)),(10,(8,1)),(11,(9,1)),(40,(6,2))] [] [(25,EZ),(37,N_),(62,S4),(63,JW)] [] []
theorem cF:CV 41 S7:=okW fE [.cell 6 25,.cell 7 28,.tmp 8,.tmp 9] 57 8 (BC (.cons FQ (.cons S5 (.cons cD (.cons ND AL.nil)))) BA.nil) Tryz.func41
def D1 (a0:Int) (a1:Int):Option ((BitVec 64)×Int):=
if a0<0 then
some ((0#64,13))
else if a0>15 then
some ((0#64,13))
else if a1<0 then
some ((0#64,13))
else if a1>32 then
some ((0#64,13))
else some ((BitVec.ofInt 64 (AG ((AG ((AG ((AG ((1:Int)+a0))+a1))*256))+(AG (a0*2)))),0))
@[reducible] def JX:FnI:=BP [AO,AO] [bU,CS] fun x=>D1 x.1 x.2
def jX:Cx:=BE [] [] [] [] []
theorem NF:CV 94 JX:=okW jX [.tmp 4,.tmp 5] 29 0 (BC AL.nil BA.nil) Tryz.func94
def EI (a0:AP) (a1:Int) (a2:Int) (a3:Int):Option AP:=
Option.bind (D1 a2 a3) (fun r1=>
if ¬r1.2=0 then
some ((r1.2,a0.2.1,a0.2.2))
else Option.bind (AX a0 a1 (AG (a2+a3))) (fun r2=>
if ¬r2.2=0 then
some ((r2.2,a0.2.1,a0.2.2))
else if 0<=a1/\a1<(a0.2.1.length:Int) then
AH (σ:=(Int×FJ)) (β:=AP) (fun s1=>
if s1.1<=(AG (a2+a3)) then
Option.bind (AX (a0.1,s1.2,a0.2.2) a1 s1.1) (fun r3=>
if 0<=r3.1/\r3.1<(s1.2.length:Int) then
some (Sum.inl ((AG (s1.1+1),s1.2.set r3.1.toNat (0#64))))
else none)
else some (Sum.inr ((0,s1.2,a0.2.2)))) ((1,a0.2.1.set a1.toNat r1.1))
else none))
@[reducible] def OA:FnI:={ ps:=[PX,AO,AO,AO],rs:=[CS],os:=[QK,uN],bk:=[0,1],F:=fun x=>EI x.1 x.2.1 x.2.2.1 x.2.2.2 }
def jY:Cx:=BE [(4,(2,1))] [] [(19,DV),(94,JX)] [(0,B8 [(13,AO)] [] [(0,.u64)] (E6 [(14,2),(42,18)]) [] 3)] []
theorem S8:CV 64 OA:=okW jY [.tmp 8] 60 1 (BC (.cons D0 (.cons NF AL.nil)) BA.nil) Tryz.func64
def FL (a0:AP) (a1:Int) (a2:Int) (a3:Int):Option (AP×Int):=
Option.bind (C8 a0) (fun r1=>
if (!r1)=true then
some (((0,[],[]),1))
else Option.bind (BG a0) (fun r2=>
Option.bind (EI r2 a1 a2 a3) (fun r3=>
if ¬r3.1=0 then
some (((0,[],[]),r3.1))
else some (((r2.1,r3.2),0)))))
@[reducible] def UP:FnI:=BP [DF,AO,AO,AO] [PX,CS] fun x=>FL x.1 x.2.1 x.2.2.1 x.2.2.2
def jZ:Cx:=BE [(4,(2,1)),(8,(3,1)),(10,(6,1)),(17,(4,2))] [] [(25,EZ),(35,G9),(64,OA)] [] []
theorem fF:CV 42 UP:=okW jZ [.cell 8 25,.tmp 9] 28 5 (BC (.cons FQ (.cons IU (.cons S8 AL.nil))) BA.nil) Tryz.func42
def NY (a0:Int):Option Bool:=
if a0≥3 then
some (decide (a0<=8))
else some (false)
@[reducible] def SG:FnI:=BP [AO] [HK] fun x=>NY x
def AAP:Cx:=BE [] [] [] [] []
theorem WH:CV 76 SG:=okW AAP [.tmp 2] 9 0 (BC AL.nil BA.nil) Tryz.func76
def X4 (a0:FJ):Option Bool:=
AH (σ:=Int) (β:=Bool) (fun s1=>
if s1<(a0.length:Int) then
if 0<=s1/\s1<(a0.length:Int) then
if ¬(gl (0#64:(BitVec 64)) a0 s1.toNat)=(0#64) then
some (Sum.inr (false))
else some (Sum.inl (AG (s1+1)))
else none
else some (Sum.inr (true))) (0)
@[reducible] def pH:FnI:=BP [lY] [HK] fun x=>X4 x
def AEB:Cx:=BE [] [] [] [(0,B8 [(7,AO)] [] [] [2,4,8,9,10,11,12,13] [] 1)] []
theorem AAQ:CV 77 pH:=okW AEB [.tmp 2] 14 0 (BC AL.nil BA.nil) Tryz.func77
def O7 (a0:AP):Option Bool:=
AH (σ:=Int) (β:=Bool) (fun s1=>
if s1<(a0.2.2.length:Int) then
if 0<=s1/\s1<(a0.2.2.length:Int) then
AH (σ:=(Int×Int)) (β:=(Int ⊕ Bool)) (fun s2=>
if s2.1≥0 then
if s2.2<(a0.2.2.length:Int) then
if s2.1=s1 then
some (Sum.inr (Sum.inr (false)))
else zba s2 a0
else some (Sum.inr (Sum.inl (AG (s1+1))))
else some (Sum.inr (Sum.inl (AG (s1+1))))) ((((gl ((0,0,0):AZ) a0.2.2 s1.toNat).2).2,0))
else none
else some (Sum.inr (true))) (0)
@[reducible] def ZD:FnI:=BP [DF] [HK] fun x=>O7 x
def sH:Cx:=BE [(1,(2,1))] [] [] [(0,B8 [(9,AO)] [] [] (E6 [(2,4),(10,29)]) [] 3),(2,B8 [(4,AO),(5,AO)] [] [] (E6 [(2,1),(18,20)]) [] 3)] []
theorem pI:CV 78 ZD:=okW sH [.tmp 2] 39 1 (BC AL.nil BA.nil) Tryz.func78
def za4 (a0:AP) (s1:((BitVec 64)×Int)):=gl ((0,0,0):AZ) a0.2.2 s1.2.toNat
def zbc (s1:((BitVec 64)×Int)) (a0:AP):=AG (s1.2*2 ^ min (BitVec.ofInt 64 a0.1).toNat 64)
def za9 (s1:((BitVec 64)×Int)) (a0:AP):=AG ((AG (s1.2+1))*2 ^ min (BitVec.ofInt 64 a0.1).toNat 64)
def H8 (a0:AP):Option Bool:=
Option.bind (NY a0.1) (fun r1=>
if (!r1)=true then
some (false)
else if (a0.2.2.length:Int)<2 then
some (false)
else if (a0.2.2.length:Int)>64 then
some (false)
else if True then
if ¬(a0.2.1.length:Int)=(zbb a0) then
some (false)
else AH (σ:=((BitVec 64)×Int)) (β:=Bool) (fun s1=>
if s1.2<(a0.2.2.length:Int) then
if 0<=s1.2/\s1.2<(a0.2.2.length:Int) then
if ((za4 a0 s1).1)=(-1) then
if ¬(((za4 a0 s1).2).1)=(-1) then
some (Sum.inr (false))
else if ¬(((za4 a0 s1).2).2)=(-1) then
some (Sum.inr (false))
else if True then
if True then
if Bd (some (zbc s1 a0)) (some (za9 s1 a0)) ((za9 s1 a0).toNat) a0.2.1.length then
Option.bind (X4 (BF a0.2.1 ((zbc s1 a0).toNat) (((za9 s1 a0).toNat)-((zbc s1 a0).toNat)))) (fun r2=>
if (!r2)=true then
some (Sum.inr (false))
else some (Sum.inl ((s1.1,AG (s1.2+1)))))
else none
else none
else none
else if ((za4 a0 s1).1)<0 then
some (Sum.inr (false))
else if ((za4 a0 s1).1)>4294967295 then
some (Sum.inr (false))
else if (((za4 a0 s1).2).1)<0 then
some (Sum.inr (false))
else if ¬(4294967296:Int)=0 then
if ¬(Int.tmod (((za4 a0 s1).2).1) 4294967296)=((za4 a0 s1).1) then
some (Sum.inr (false))
else if ¬(4294967296:Int)=0 then
if (AG (Int.tdiv (((za4 a0 s1).2).1) 4294967296))≥4 then
some (Sum.inr (false))
else if (((za4 a0 s1).2).2)<(-1) then
some (Sum.inr (false))
else if (((za4 a0 s1).2).2)≥(a0.2.2.length:Int) then
some (Sum.inr (false))
else if (((za4 a0 s1).2).2)=s1.2 then
some (Sum.inr (false))
else if (((za4 a0 s1).2).2)<0 then
some (Sum.inl ((s1.1,AG (s1.2+1))))
else if 0<=(((za4 a0 s1).2).2)/\(((za4 a0 s1).2).2)<(a0.2.2.length:Int) then
if True then
if ((s1.1 >>> (BitVec.ofInt 64 (((za4 a0 s1).2).2)).toNat) &&& (1#64))=(1#64) then
some (Sum.inr (false))
else if ¬((gl ((0,0,0):AZ) a0.2.2 ((((za4 a0 s1).2).2).toNat)).1)=((za4 a0 s1).1) then
some (Sum.inr (false))
else if ¬(((gl ((0,0,0):AZ) a0.2.2 ((((za4 a0 s1).2).2).toNat)).2).1)=(((za4 a0 s1).2).1) then
some (Sum.inr (false))
else if True then
some (Sum.inl ((s1.1|||((1#64) <<< (BitVec.ofInt 64 (((za4 a0 s1).2).2)).toNat),AG (s1.2+1))))
else none
else none
else none
else none
else none
else none
else Option.map Sum.inr (Option.bind (O7 a0) (fun r3=>
some (r3)))) ((0#64,0))
else none)
@[reducible] def O1:FnI:=BP [DF] [HK] fun x=>H8 x
def AAR:Cx:=BE [(1,(2,1)),(6,(3,1)),(7,(5,1)),(67,(4,1))] [] [(76,SG),(77,pH),(78,ZD)] [(0,B8 [(4,VK),(37,AO)] [] [] (E6 [(2,1),(5,3),(38,114)]) [] 3)] []
theorem QN:CV 47 O1:=okW AAR [.tmp 2] 154 4 (BC (.cons WH (.cons AAQ (.cons pI AL.nil))) BA.nil) Tryz.func47
def S9 (a0:AP):Option Int:=
Option.bind (NY a0.1) (fun r1=>
if (!r1)=true then
some (0)
else if True then
some (za5 a0)
else none)
@[reducible] def pJ:FnI:=BP [DF] [CS] fun x=>S9 x
def AEC:Cx:=BE [(1,(2,1))] [] [(76,SG)] [] []
theorem AAS:CV 138 pJ:=okW AEC [.tmp 2] 11 1 (BC (.cons WH AL.nil) BA.nil) Tryz.func138
def AF (a0:EY) (a1:Int):Option (Int×EY):=
if a0.2≥(a0.1.length:Int) then
some ((0,a0))
else if 0<=(AG ((AG (a0.2+1))-1))/\(AG ((AG (a0.2+1))-1))<(a0.1.length:Int) then
Option.bind (DT (gl (0:Int) a0.1 ((AG ((AG (a0.2+1))-1)).toNat)) a1) (fun r1=>
some ((r1,(a0.1,AG (a0.2+1)))))
else none
@[reducible] def C7:FnI:={ ps:=[O0,AO],rs:=[CS],os:=[O0],bk:=[0],F:=fun x=>AF x.1 x.2 }
def ZE:Cx:=BE [] [] [(26,QL)] [] []
theorem DI:CV 23 C7:=okW ZE [.tmp 4] 35 0 (BC (.cons WG AL.nil) BA.nil) Tryz.func23
end
end Go.Proofs.YtokeceeccmgcmaaGreatDoor
