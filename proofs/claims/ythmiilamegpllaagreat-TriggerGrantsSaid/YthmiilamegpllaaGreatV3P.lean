import Derived.Test.YthmiilamegpllaaGreatV3J
import Derived.LoopN
import Derived.ProofKit
import Derived.OpenShut
import Derived.ChangeOld
import Derived.Below
import Derived.LaidMore
import Derived.MakeChecks
import Derived.Stop.Joined
import Derived.Test.YthmiilamegpllaaGreatProg
import Derived.Test.YthmiilamegpllaaGreatChecked
import Derived.KernelRfl
set_option linter.unusedVariables false
set_option linter.unusedSimpArgs false
namespace Go.V3
open Go
variable {TB:Tb}
def P4 (o:Oper):List Nat:=(o.after.toList.filter (Region.binds .any)).map (·.on)
def AC0 (ops:List Oper):Nat->List Nat->List Nat->List Nat
 |0,_,seen=>seen
 |_+1,[],seen=>seen
 |n+1,i::todo,seen=>if seen.contains i then AC0 ops n todo seen else match ops[i]? with
  |some o=>AC0 ops n (P4 o++todo) (i::seen)
  |none=>AC0 ops n todo seen
def AHA (ops:List Oper) (o:Oper):List Nat:=AC0 ops 4000 (P4 o) []
def W7 (all:List Oper) (o:Oper):List Nat:=
 (o.op.operands.toList.filterMap fun| .tmp t=>some t|_=>none)++(match o.guard with
  |some (g,_)=>(match all[g]? with
   |some oj=>oj.dst.toList
   |none=>[])
  |none=>[])
mutual
def AME:SV->List Nat
 | .loc i _=>[i]
 | .el i _ _ _=>[i]
 | .MB i=>[i]
 | .sub i _ _ _=>[i]
 | .agg cs=>sG cs
 | .tup vs=>sG vs
 | .mpv i=>[i]
 | .tsl i _ _=>[i]
 | .tel i _ _ _=>[i]
 | .vN _ cs=>sG cs
 |_=>[]
def sG:List SV->List Nat
 | []=>[]
 |v::r=>AME v++sG r
end
def UR (fr:List SV) (o:Oper):List Nat:=o.op.operands.toList.flatMap fun x=>AME (evc fr x)
def TH (AQ:Nat->Option AW) (i:Nat):List Nat:=match AQ i with
 |some (.box cs)=>sG cs
 |some (.deep _ _ (some (_,j)))=>[j]
 |_=>[]
def AXC:Op->Bool
 | .move _=>true
 | .assign _=>true
 |_=>false
def V5 (fr:List SV):Op->Bool
 | .load _ x=>(match evc fr x with
  | .loc _ _=>true
  |_=>false)
 | .fieldAddr _ x _=>(match evc fr x with
  | .loc _ _=>true
  |_=>false)
 | .nilCheck x=>(match evc fr x with
  | .loc _ _=>true
  |_=>false)
 |_=>false
def V6 (fr:List SV):Op->Bool
 | .call { callee:= .value f,.. }=>(match evc fr f with
  | .vN _ _=>true
  |_=>false)
 |_=>false
def OE (cx:Cx) (fr:List SV) (AQ:Nat->Option AW) (o:Oper):List Nat:=match AXC o.op && !cx.AQ8 o.dst with
 |true=>[]
 |false=>UR fr o++(match V5 fr o.op with
  |true=>[]
  |false=>(UR fr o).flatMap (TH AQ)++(match V6 fr o.op with
   |true=>((UR fr o).flatMap (TH AQ)).flatMap (TH AQ)
   |false=>[]))++(List.range (cx.HJ o.dst).2).map fun k=>(cx.HJ o.dst).1+k
def oE (ft:List Nat) (AQ:Nat->Option AW) (n:Nat):Option AW:=match ft.contains n with
 |true=>AQ n
 |false=>none
structure Met where
 i:Nat
 dst:Option Nat
 lks:List Nat
 rd:List Nat
 wr:List Nat
def mV (x y:Met):Bool:=
 (match x.dst with
 |some d=> !y.lks.contains d && !(y.dst==some d)
 |none=>true) && (match y.dst with
 |some d=> !x.lks.contains d
 |none=>true) && x.wr.all (fun n=> !y.rd.contains n && !y.wr.contains n) && y.wr.all (fun n=> !x.rd.contains n)
section
variable {α:Type}
def AUL (P:Program) (cx:Cx) (all:List Oper):List Oper->Nat->List Met->List SV->AJ->(List SV->AJ->Option α)->Option α
 | [],_,_,fr,L,K=>K fr L
 |o::r,k,acc,fr,L,K=>aB P cx all o k fr (oE (OE cx fr (look L) o) (look L)) (fun v u=>
  match acc.all (fun q=>(AHA all o).contains q.i||mV q ⟨k,o.dst,W7 all o,OE cx fr (look L) o,u.map (·.1)⟩) with
  |true=>AUL P cx all r (k+1) (⟨k,o.dst,W7 all o,OE cx fr (look L) o,u.map (·.1)⟩::acc) (P_ fr o.dst v) (AI L u) K
  |false=>none)
end
def AC1 (all:List Oper):List Oper->Nat->Bool
 | [],_=>true
 |o::r,k=>(P4 o).all (fun j=>decide (j<k)) && AC1 all r (k+1)
def sst (P:Program) (cx:Cx) (all:List Oper) (i:Nat) (s:List SV×AJ):Option ((List SV×AJ)×Met):=
 match all[i]? with
 |none=>none
 |some o=>match aB P cx all o i s.1 (oE (OE cx s.1 (look s.2) o) (look s.2)) pr with
  |some (v,u)=>some ((P_ s.1 o.dst v,AI s.2 u),⟨i,o.dst,W7 all o,OE cx s.1 (look s.2) o,u.map (·.1)⟩)
  |none=>none
def Run (P:Program) (cx:Cx) (all:List Oper):List Nat->List SV×AJ->List SV×AJ->List Met->Prop
 | [],s,s',fs=>s' =s/\fs=[]
 |i::l,s,s',fs=>∃ s1 f p_,sst P cx all i s=some (s1,f)/\Run P cx all l s1 s' p_ /\fs=f::p_
def AQP (all:List Oper) (x y:Met):Prop:=(∃ o,all[y.i]? =some o/\x.i∈AHA all o)\/mV x y=true
section
variable {P:Program} {cx:Cx} {all:List Oper}
theorem AC2 {α:Type} {K:List SV->AJ->Option α} {r0:α}:∀ (rest:List Oper) (k:Nat) (acc:List Met) (fr:List SV) (L:AJ),all.drop k=rest->AUL P cx all rest k acc fr L K=some r0→
  ∃ s' fs,Run P cx all (List.range' k rest.length) (fr,L) s' fs/\K s'.1 s'.2=some r0/\fs.Pairwise (AQP all)/\∀ q∈acc,∀ f∈fs,AQP all q f
 | [],k,acc,fr,L,_,h=>⟨(fr,L),[],⟨rfl,rfl⟩,h,List.Pairwise.nil,fun _ _ _ hf=>by cases hf⟩
 |o::rest,k,acc,fr,L,hd,h=>by
  have RL:all[k]? =some o:=by
   have:=N5 (fun l=>l[0]?) hd
   simpa [ZQ] using this
  have hd' :all.drop (k+1)=rest:=by
   have:=N5 (List.drop 1) hd
   simpa [List.drop_drop,Nat.add_comm] using this
  obtain⟨v,u,h1,h2⟩:=sD h
  split at h1
  rotate_left
  ·cases h1
  rename_i AQQ
  obtain⟨s',fs,r1,r2,r3,r4⟩:=AC2 rest (k+1) _ _ _ hd' h1
  refine⟨s',⟨k,o.dst,W7 all o,OE cx fr (look L) o,u.map (·.1)⟩::fs,⟨(P_ fr o.dst v,AI L u),⟨k,o.dst,W7 all o,OE cx fr (look L) o,u.map (·.1)⟩,fs, ?_,r1,rfl⟩,r2, ?_, ?_⟩
  ·simp only[sst,RL,h2]
  ·exact List.Pairwise.cons (fun f hf=>r4 _ (by simp) f hf) r3
  ·intro q hq f hf
   rcases F7.1 hf with rfl|hf
   ·have:=J9.1 AQQ q hq
    rcases nS _ _ ▸ this with h|h
    ·exact .inl ⟨o,RL,by simpa using h⟩
    ·exact .inr h
   ·exact r4 q (by simp [hq]) f hf
theorem AFI {α:Type} {AQ:Nat->Option AW} {dst:Option Tmp} {ρ ρ' :Operand->SV} {K:SV->CW->Option α} {op:Op} (h:∀ x∈op.operands.toList,ρ x=ρ' x):core P cx AQ dst ρ K op=core P cx AQ dst ρ' K op:=by
 have ASY:∀ ps:Array (Nat×Operand),(∀ x∈ps.toList.map (·.2),ρ x=ρ' x)->(ps.toList.map fun q=>(q.1,ρ q.2))=(ps.toList.map fun q=>(q.1,ρ' q.2)):=fun ps hp=>
  T7 fun p hm=>by
   obtain⟨i,x⟩:=p
   simp only[hp x (C0.2 ⟨(i,x),hm,rfl⟩)]
 have hfz:P3 AQ ρ K op=P3 AQ ρ' K op:=by
  cases op <;> simp only[Op.operands] at h <;> simp only[P3]
  all_goals rw[h _ (by simp)]
 unfold core
 rw[hfz]
 split
 ·rfl
 unfold core0
 cases op <;> simp only[Op.operands] at h <;> simp only[ZZ,ABM]
 case build t ps=>rw[ASY ps fun x hx=>h x (by simpa using hx)]
 case buildSlice t n ps=>rw[ASY ps fun x hx=>h x (by simpa using hx)]
 case call c=>
  obtain⟨callee,args,ts⟩:=c
  have MZ:args.toList.map ρ=args.toList.map ρ' :=T7 fun x hx=>h x (by simp [Call.operands];exact .inr (by simpa using hx))
  cases callee with
  |builtin b=>cases b <;> simp only[MZ]
  |value f=>
   have hf:ρ f=ρ' f:=h f (by simp [Call.operands])
   simp only[hf,MZ]
  |_=>rfl
 case slice t x lo hi mx=>cases lo <;> cases hi <;> cases mx <;> simp_all
 case makeFunc fn first captured=>
  have hc:captured.toList.map ρ=captured.toList.map ρ' :=T7 fun x hx=>h x (by simp;exact .inr (by simpa using hx))
  simp only[hc]
 case makeMap t r=>cases r <;> rfl
 case binOp op t x y rt=>
  have hx:ρ x=ρ' x:=h x (by simp)
  have hy:ρ y=ρ' y:=h y (by simp)
  cases op <;> simp only[hx,hy]
 all_goals first|rfl|(simp_all;done)
theorem AMF {fr:List SV} {d:Option Tmp} {v:SV} {x:Operand} (h:∀ t,d=some t->x≠ .tmp t):ev (P_ fr d v) x=ev fr x:=by
 cases d with
 |none=>rfl
 |some d=>
  cases x with
  |tmp t=>
   show (fr.set d v).getD t AV=fr.getD t AV
   rw[ES,AB]
   rintro⟨rfl,_⟩
   exact h d rfl rfl
  |_=>rfl
theorem AJQ {fr:List SV} {x y:Option Tmp} {u v:SV} (h:∀ d,x=some d->y≠some d):P_ (P_ fr x u) y v=P_ (P_ fr y v) x u:=by
 cases x with
 |none=>rfl
 |some d=>
  cases y with
  |none=>rfl
  |some e=>
   have CJ:d≠e:=fun he=>h d rfl (he ▸ rfl)
   simp [P_,List.set_comm _ _ CJ]
theorem GW {L:AJ} {u:CW} {n:Nat} (h:n∉u.map (·.1)):look (AI L u) n=look L n/\(AI L u)[n]? =L[n]? :=by
 induction u generalizing L with
 |nil=>exact⟨rfl,rfl⟩
 |cons q r ih=>
  simp only[K0,F7,not_or] at h
  obtain⟨i1,i2⟩:=ih (L:=C5 L q) h.2
  have hu:(C5 L q)[n]? =L[n]? :=by
   unfold C5
   split
   ·rw[List.getElem?_set_ne (fun he=>h.1 he.symm)]
   ·rfl
  have e2:(AI L (q::r))[n]? =L[n]? :=i2.trans hu
  exact⟨by unfold look;rw[e2],e2⟩
theorem AC3 {L L' :AJ} {u:CW} {n:Nat} (h:L[n]? =L'[n]?):(AI L u)[n]? =(AI L' u)[n]? :=by
 induction u generalizing L L' with
 |nil=>exact h
 |cons q r ih=>
  refine ih (L:=C5 L q) (L' :=C5 L' q) ?_
  by_cases hn:q.1=n
  ·subst hn
   unfold C5
   rw[<-h]
   cases hx:L[q.1]? with
   |none=>simp only;rw[hx,←h,hx]
   |some p=>
    obtain⟨v,e⟩:=p
    simp only
    have h1:q.1<L.length:=by
     rcases GY q.1 L.length with h' |h'
     ·exact h'
     ·rw[SO h'] at hx;cases hx
    have h2:q.1<L'.length:=by
     rcases GY q.1 L'.length with h' |h'
     ·exact h'
     ·rw[h,SO h'] at hx;cases hx
    rw[List.getElem?_set_self h1,List.getElem?_set_self h2]
  ·have e:∀ L:AJ,(C5 L q)[n]? =L[n]? :=by
    intro L
    unfold C5
    split
    ·rw[List.getElem?_set_ne hn]
    ·rfl
   rw[e,e,h]
theorem AJR {L:AJ} {u v:CW} (h:∀ n∈u.map (·.1),n∉v.map (·.1)):AI (AI L u) v=AI (AI L v) u:=by
 apply T9
 intro n
 by_cases hu:n∈u.map (·.1)
 ·have hv:=h n hu
  rw[(GW hv).2]
  exact AC3 ((GW hv).2).symm
 ·rw[(GW hu).2]
  exact AC3 (GW hu).2
theorem AC4 {ft:List Nat} {f g:Nat->Option AW} (h:∀ n∈ft,f n=g n):oE ft f=oE ft g:=by
 funext n
 unfold oE
 cases hc:ft.contains n with
 |true=>exact h n (by simpa using hc)
 |false=>rfl
theorem AJS {o:Oper} {t:Nat} (h:Operand.tmp t∈o.op.operands.toList):t∈W7 all o:=EV.2 (.inl (List.mem_filterMap.2 ⟨.tmp t,h,rfl⟩))
theorem wR {i:Nat} {o:Oper} (ho:all[i]? =some o) {fr fr' :List SV} {L L' :AJ} (hev:∀ x∈o.op.operands.toList,ev fr' x=ev fr x) (hg:aA all o fr' =aA all o fr) (hL:∀ n∈OE cx fr (look L) o,look L' n=look L n):
  OE cx fr' (look L') o=OE cx fr (look L) o∧
   aB P cx all o i fr' (oE (OE cx fr' (look L') o) (look L')) pr=aB P cx all o i fr (oE (OE cx fr (look L) o) (look L)) pr:=by
 have hd:UR fr' o=UR fr o:=by
  unfold UR
  rw[List.flatMap_def,List.flatMap_def]
  congr 1
  apply T7
  intro x hx
  simp only[evc,hev x hx]
 have hf:OE cx fr' (look L') o=OE cx fr (look L) o:=by
  cases hm:AXC o.op && !cx.AQ8 o.dst with
  |true=>unfold OE;rw[hm]
  |false=>
   have hbl:V5 fr' o.op=V5 fr o.op:=by
    unfold V5
    cases EB:o.op <;> try rfl
    all_goals rw[EB] at hev
    all_goals simp only[evc]
    all_goals rw[hev _ (by simp [Op.operands])]
   have hcc:V6 fr' o.op=V6 fr o.op:=by
    unfold V6
    cases EB:o.op <;> try rfl
    rename_i cl
    obtain⟨cal,args,ats⟩:=cl
    cases cal <;> try rfl
    rename_i f
    rw[EB] at hev
    simp only[evc]
    rw[hev f (by simp [Op.operands,Go.Call.operands])]
   unfold OE
   rw[hm,hd,hbl]
   simp only
   congr 2
   cases hb:V5 fr o.op with
   |true=>rfl
   |false=>
   simp only
   have h1:(UR fr o).flatMap (TH (look L'))=(UR fr o).flatMap (TH (look L)):=by
    rw[List.flatMap_def,List.flatMap_def]
    congr 1
    apply T7
    intro n hn
    unfold TH
    rw[hL n (by unfold OE;rw[hm];exact EV.2 (.inl (EV.2 (.inl hn))))]
   rw[h1,hcc]
   congr 1
   cases hc:V6 fr o.op with
   |false=>rfl
   |true=>
   simp only
   rw[List.flatMap_def,List.flatMap_def]
   congr 1
   apply T7
   intro n hn
   have hn' :n∈OE cx fr (look L) o:=by
    unfold OE;rw[hm,hb];exact EV.2 (.inl (EV.2 (.inr (EV.2 (.inl hn)))))
   unfold TH
   rw[hL n hn']
 refine⟨hf, ?_⟩
 rw[hf,AC4 hL]
 unfold aB
 rw[hg]
 have hnu:AH7 fr' o.op=AH7 fr o.op:=by
  unfold AH7
  rw[gO]
  simp only[J9]
  constructor
  ·intro h x hx;rw[<-hev x hx];exact h x hx
  ·intro h x hx;rw[hev x hx];exact h x hx
 rw[hnu]
 split
 ·rfl
 ·rfl
 ·split
  ·rfl
  ·exact AFI fun x hx=>by simp only[evc,hev x hx]
theorem AC5 {x y:Met} (h:mV x y=true):(∀ d,x.dst=some d->d∉y.lks)/\(∀ d,x.dst=some d->y.dst≠some d)/\(∀ d,y.dst=some d->d∉x.lks)/\(∀ n∈x.wr,n∉y.rd/\n∉y.wr)/\(∀ n∈y.wr,n∉x.rd):=by
 unfold mV at h
 simp only[G4,J9,RM,xZ,YK] at h
 obtain⟨⟨⟨h1,h2⟩,h3⟩,h4⟩:=h
 refine⟨fun d hd=> ?_,fun d hd=> ?_,fun d hd=> ?_,h3,h4⟩
 ·rw[hd] at h1;simp at h1;exact h1.1
 ·rw[hd] at h1;simp at h1;exact h1.2
 ·rw[hd] at h2;simpa using h2
theorem oF {o:Oper} {fr:List SV} {d:Option Tmp} {v:SV} (h:∀ t,d=some t->t∉W7 all o):aA all o (P_ fr d v)=aA all o fr:=by
 unfold aA
 cases hg:o.guard with
 |none=>rfl
 |some q=>
  obtain⟨j,want⟩:=q
  simp only
  cases hj:all[j]? with
  |none=>rfl
  |some oj=>
   simp only
   cases hd:oj.dst with
   |none=>rfl
   |some t=>
    simp only
    have:(P_ fr d v).getD t AV=fr.getD t AV:=by
     cases d with
     |none=>rfl
     |some d=>
      simp only[P_,ES]
      rw[AB]
      rintro⟨rfl,_⟩
      refine h d rfl ?_
      unfold W7
      rw[hg]
      simp [hj,hd]
    rw[this]
theorem sH {o:Oper} {fr:List SV} {d:Option Tmp} {v:SV} (h:∀ t,d=some t->t∉W7 all o):∀ x∈o.op.operands.toList,ev (P_ fr d v) x=ev fr x:=by
 intro x hx
 refine AMF fun t ht he=>h t ht ?_
 subst he
 exact AJS hx
theorem AMG {x i:Nat} {s s1 s2:List SV×AJ} {f g:Met} (h1:sst P cx all x s=some (s1,f)) (h2:sst P cx all i s1=some (s2,g)) (ha:mV f g=true):
  ∃ s1',sst P cx all i s=some (s1',g)/\sst P cx all x s1' =some (s2,f):=by
 obtain⟨fr,L⟩:=s
 unfold sst at h1 h2
 split at h1
 ·cases h1
 rename_i ox hox
 split at h1
 rotate_left
 ·cases h1
 rename_i vx ux hx
 simp only[AY,C3] at h1
 obtain⟨rfl,rfl⟩:=h1
 split at h2
 ·cases h2
 rename_i oi hoi
 split at h2
 rotate_left
 ·cases h2
 rename_i vi ui hi
 simp only[AY,C3] at h2
 obtain⟨rfl,rfl⟩:=h2
 obtain⟨a1,a2,a3,a4,a5⟩:=AC5 ha
 simp only at a1 a2 a3 a4 a5 hi hx
 obtain⟨f1,f2⟩:=wR (P:=P) (cx:=cx) hoi (fr:=P_ fr ox.dst vx) (fr' :=fr) (L:=AI L ux) (L' :=L) (fun y hy=>(sH a1 y hy).symm) (oF a1).symm
  (fun n hn=>((GW (fun hw=>(a4 n hw).1 hn)).1).symm)
 obtain⟨g1,g2⟩:=wR (P:=P) (cx:=cx) hox (fr:=fr) (fr' :=P_ fr oi.dst vi) (L:=L) (L' :=AI L ui) (fun y hy=>sH a3 y hy) (oF a3)
  (fun n hn=>(GW (fun hw=>a5 n hw hn)).1)
 refine⟨(P_ fr oi.dst vi,AI L ui), ?_, ?_⟩
 ·unfold sst
  rw[hoi]
  simp only
  rw[f2,hi]
  simp only[f1]
 ·unfold sst
  rw[hox]
  simp only
  rw[g2,hx]
  simp only[g1]
  rw[AJQ (fr:=fr) (x:=ox.dst) (y:=oi.dst) (u:=vx) (v:=vi) a2,AJR (L:=L) (u:=ux) (v:=ui) (fun n hn=>(a4 n hn).2)]
theorem sI {i:Nat}:∀ (l1 l2:List Nat) (s s' :List SV×AJ) (fs:List Met),Run P cx all (l1++i::l2) s s' fs->fs.Pairwise (AQP all)->(∀ x∈l1,∀ o,all[i]? =some o->x∉AHA all o)→
  ∃ g p_,Run P cx all (i::(l1++l2)) s s' (g::p_)/\g∈fs/\g.i=i/\p_.Sublist fs
 | [],l2,s,s',fs,h,_,_=>by
  obtain⟨s1,f,p_,h1,h2,rfl⟩:=h
  refine⟨f,p_,⟨s1,f,p_,h1,h2,rfl⟩,by simp, ?_,List.sublist_cons_self _ _⟩
  unfold sst at h1
  split at h1
  ·cases h1
  ·split at h1
   ·simp only[AY,C3] at h1;rw[<-h1.2]
   ·cases h1
 |x::l1,l2,s,s',fs,h,hp,ha=>by
  obtain⟨s1,f,fs1,h1,h2,rfl⟩:=h
  rw[ZR] at hp
  obtain⟨g,p_,k1,k2,k3,k4⟩:=sI l1 l2 s1 s' fs1 h2 hp.2 (fun y hy=>ha y (by simp [hy]))
  obtain⟨s2,g',fs2,k5,k6,k7⟩:=k1
  simp only[jH] at k7
  obtain⟨rfl,rfl⟩:=k7
  have hfi:f.i=x:=by
   unfold sst at h1
   split at h1
   ·cases h1
   ·split at h1
    ·simp only[AY,C3] at h1;rw[<-h1.2]
    ·cases h1
  have hap:mV f g=true:=by
   rcases hp.1 g k2 with ⟨o,ho,hx⟩|h
   ·rw[k3] at ho
    rw[hfi] at hx
    exact absurd hx (ha x (by simp) o ho)
   ·exact h
  obtain⟨s1',q1,q2⟩:=AMG h1 k5 hap
  exact⟨g,f::p_,⟨s1',g,_,q1,⟨s2,f,_,q2,k6,rfl⟩,rfl⟩,by simp [k2],k3,k4.cons_cons f⟩
end
section
variable {P:Program} {ops:Array Oper} {Q:Exit->Act->World->Prop}
def isL (listed:Array Bool) (i:Nat):Prop:=listed.getD i false=true
theorem AC6 {listed:Array Bool} (hc:∀ i o,ops[i]? =some o->isL listed i->∀ j∈P4 o,isL listed j):∀ (n:Nat) (todo seen:List Nat),(∀ j∈todo,isL listed j)->(∀ j∈seen,isL listed j)->∀ j∈AC0 ops.toList n todo seen,isL listed j:=by
 intro n
 induction n with
 |zero=>intro todo seen _ h2 j hj;exact h2 j (by simpa [AC0] using hj)
 |succ n ih=>
  intro todo seen h1 h2
  cases todo with
  |nil=>intro j hj;exact h2 j (by simpa [AC0] using hj)
  |cons i todo=>
   have hi:=h1 i (by simp)
   have ht:∀ j∈todo,isL listed j:=fun j hj=>h1 j (by simp [hj])
   simp only[AC0]
   split
   ·exact ih todo seen ht h2
   ·split
    ·rename_i o ho
     refine ih _ _ ?_ ?_
     ·intro j hj
      rcases EV.1 hj with hj|hj
      ·exact hc i o (by rw[<-gM];exact ho) hi j hj
      ·exact ht j hj
     ·intro j hj
      rcases F7.1 hj with rfl|hj
      ·exact hi
      ·exact h2 j hj
    ·exact ih todo seen ht h2
theorem sJ:∀ (l:List Oper) (k:Nat),AC1 ops.toList l k=true->∀ (i:Nat) (o:Oper),l[i]? =some o->∀ j∈P4 o,j<k+i
 | [],_,_,i,o,h=>by simp at h
 |o' ::r,k,h,i,o,ho=>by
  simp only[AC1,G4,J9,IQ] at h
  cases i with
  |zero=>simp only[O1,AY] at ho;subst ho;exact h.1
  |succ i=>
   intro j hj
   have:=sJ r (k+1) h.2 i o (by simpa using ho) j hj
   omega
theorem oG {o:Oper} {j:Nat}:j∈P4 o↔∃ e∈o.after,Region.binds .any e=true/\e.on=j:=by
 unfold P4
 simp only[C0,YN]
 constructor
 ·rintro⟨e,⟨h1,h2⟩,h3⟩;exact⟨e,by simpa using h1,h2,h3⟩
 ·rintro⟨e,h1,h2,h3⟩;exact⟨e,⟨by simpa using h1,h2⟩,h3⟩
structure Sg (ops:Array Oper) (listed:Array Bool) (l:List Nat):Prop where
 size:listed.size=ops.size
 mem:∀ i,i∈l↔i<ops.size/\¬isL listed i
 sorted:l.Pairwise (·< ·)
 closed:∀ i o,ops[i]? =some o->isL listed i->∀ j∈P4 o,isL listed j
theorem AUM {cx:Cx} (hcx:cx.Ok P) (AXD:AC1 ops.toList ops.toList 0=true) {W:List Nat} (hW:∀ (i:Nat) (o:Oper),ops[i]? =some o->∀ d,o.dst=some d->d∈W) {c:DN cx.tb} {fr0:List SV} {L0:AJ} {E0:Env} {s' :List SV×AJ}
  (hK:∀ E' a' w',St c E' s'.1 s'.2 a' w' ->Ext W E0 fr0 L0 E' s'.1 s'.2->Q .normal a' w'):
  ∀ (n:Nat) (l:List Nat) (listed:Array Bool) (fs:List Met) (s:List SV×AJ) (E:Env) (a:Act) (w:World),l.length=n->Sg ops listed l->Run P cx ops.toList l s s' fs->fs.Pairwise (AQP ops.toList)->St c E s.1 s.2 a w->Ext W E0 fr0 L0 E s.1 s.2→
   wpAny P .any ops Q n listed a w:=by
 have AFJ:∀ (listed:Array Bool) (l:List Nat),Sg ops listed l->∀ i,i∈Region.ready .any ops listed↔i∈l/\∃ o,ops[i]? =some o/\∀ j∈P4 o,isL listed j:=by
  intro listed l hs i
  rw[mem_ready]
  constructor
  ·rintro⟨h1,o,ho,h2⟩
   have C7:i<ops.size:=(Array.getElem?_eq_some_iff.1 ho).1
   have mH:i<listed.size:=by rw[hs.size];exact C7
   refine⟨(hs.mem i).2 ⟨C7,fun hx=> ?_⟩,o,ho,fun j hj=> ?_⟩
   ·unfold isL at hx
    simp [mH] at h1 hx
    rw[h1] at hx;cases hx
   ·obtain⟨e,he,hb,rfl⟩:=oG.1 hj
    exact h2 e he hb
  ·rintro⟨h1,o,ho,h2⟩
   obtain⟨C7,hn⟩:=(hs.mem i).1 h1
   have mH:i<listed.size:=by rw[hs.size];exact C7
   refine⟨?_,o,ho,fun e he hb=>h2 _ (oG.2 ⟨e,he,hb,rfl⟩)⟩
   unfold isL at hn
   simp [mH] at hn ⊢
   exact hn
 intro n
 induction n with
 |zero=>
  intro l listed fs s E a w hl hs IX hpw hst K8
  obtain rfl:l=[]:=List.eq_nil_of_length_eq_zero hl
  obtain⟨rfl,rfl⟩:=IX
  refine⟨List.eq_nil_iff_forall_not_mem.2 fun i hi=> ?_,hK E a w hst K8⟩
  have:=((AFJ _ _ hs i).1 hi).1
  cases this
 |succ n ih=>
  intro l listed fs s E a w hl hs IX hpw hst K8
  refine⟨fun h0=> ?_,fun i hi=> ?_⟩
  ·exfalso
   cases l with
   |nil=>simp at hl
   |cons k r=>
    obtain⟨C7,hn⟩:=(hs.mem k).1 (by simp)
    have ho:ops[k]? =some ops[k]:=Array.getElem?_eq_getElem C7
    have:k∈Region.ready .any ops listed:=(AFJ _ _ hs k).2 ⟨by simp,_,ho,fun j hj=>by
     have gC:=sJ ops.toList 0 AXD k ops[k] (by rw[gM];exact ho) j hj
     rw[I7] at gC
     refine uB fun hx=> ?_
     have pD:=(hs.mem j).2 ⟨by omega,hx⟩
     rcases F7.1 pD with rfl|pD
     ·omega
     ·have:=(ZR.1 hs.sorted).1 j pD
      omega⟩
    rw[h0] at this;cases this
  ·obtain⟨hil,o,ho,AXE⟩:=(AFJ _ _ hs i).1 hi
   obtain⟨l1,l2,rfl⟩:=List.append_of_mem hil
   have ho' :ops.toList[i]? =some o:=by rw[gM];exact ho
   have AZY:∀ x∈l1,∀ o',ops.toList[i]? =some o' ->x∉AHA ops.toList o' :=by
    intro x hx o' ho2 ND
    rw[ho'] at ho2
    simp only[AY] at ho2
    subst ho2
    have:=AC6 hs.closed 4000 (P4 o) [] AXE (by simp) x ND
    exact ((hs.mem x).1 (by simp [hx])).2 this
   obtain⟨g,fs2,⟨s1,g',A1J,k5,k6,k7⟩,k2,k3,k4⟩:=sI l1 l2 s s' fs IX hpw AZY
   obtain⟨e1,e2⟩:=List.cons.inj k7
   subst e1
   rw[<-e2] at k6
   unfold sst at k5
   rw[ho'] at k5
   simp only at k5
   split at k5
   rotate_left
   ·cases k5
   rename_i v u kB
   simp only[AY,C3] at k5
   obtain⟨rfl, -⟩:=k5
   refine AH8 hcx ho hst (fun n e h=> ?_) kB fun E' a' w' sF hnm hds=> ?_
   ·unfold oE at h
    split at h
    ·exact h
    ·cases h
   ·have H8:(l1++i::l2).Nodup:=hs.sorted.imp (fun h=>Nat.ne_of_lt h)
    have C7:i<ops.size:=((hs.mem i).1 hil).1
    have UD:∀ j,isL (listed.setIfInBounds i true) j↔j=i\/isL listed j:=by
     intro j
     unfold isL
     by_cases hji:i=j
     ·subst hji
      have:i<listed.size:=by rw[hs.size];exact C7
      simp [this]
     ·simp [Array.getElem?_setIfInBounds_ne hji,Ne.symm hji]
    refine ih (l1++l2) (listed.setIfInBounds i true) fs2 _ E' a' w' (by simp at hl ⊢;omega) ⟨by simp [hs.size],fun j=> ?_, ?_, ?_⟩ k6 (hpw.sublist k4) sF (K8.trans ?_)
    ·rw[UD,not_or]
     constructor
     ·intro hj
      have pD:j∈l1++i::l2:=by
       rcases EV.1 hj with h|h
       ·exact EV.2 (.inl h)
       ·exact EV.2 (.inr (by simp [h]))
      obtain⟨q1,q2⟩:=(hs.mem j).1 pD
      refine⟨q1, ?_,q2⟩
      rintro rfl
      rw[PL] at H8
      rcases EV.1 hj with h|h
      ·exact H8.2.2 j h j (by simp) rfl
      ·exact (T_.1 H8.2.1).1 h
     ·rintro⟨q1,q2,q3⟩
      have:=(hs.mem j).2 ⟨q1,q3⟩
      rcases EV.1 this with h|h
      ·exact EV.2 (.inl h)
      ·rcases F7.1 h with h|h
       ·exact absurd h q2
       ·exact EV.2 (.inr h)
    ·exact hs.sorted.sublist (List.Sublist.append_left (List.sublist_cons_self _ _) _)
    ·intro j oj hj hlj k hk
     rw[UD] at hlj ⊢
     right
     rcases hlj with rfl|hlj
     ·rw[ho] at hj;simp only[AY] at hj;subst hj;exact AXE k hk
     ·exact hs.closed j oj hj hlj k hk
    ·exact⟨hnm,fun t _=>by rw[hds],YR.AI _ _,oD _ _ _,AH9 fun t ht=>hW i o ho t ht⟩
end
end Go.V3
namespace Go.V3
open Go
variable {TB:Tb}
def QI {σ β:Type} (f:σ->Option (σ ⊕ β)):Nat->σ->Option β
 |0,_=>none
 |n+1,s=>match f s with
  |none=>none
  |some (.inl s')=>QI f n s'
  |some (.inr b)=>some b
open Classical in
noncomputable def AM {σ β:Type} (f:σ->Option (σ ⊕ β)) (s:σ):Option β:=
 if h:∃ b,∃ n,QI f n s=some b then some h.choose else none
theorem sK {σ β:Type} {f:σ->Option (σ ⊕ β)}:∀ {n:Nat} {s:σ} {b:β},QI f n s=some b->QI f (n+1) s=some b
 |0,s,b,h=>by cases h
 |n+1,s,b,h=>by
  rw[QI] at h ⊢
  split
  ·rename_i hf;rw[hf] at h;cases h
  ·rename_i s' hf;rw[hf] at h;exact sK h
  ·rename_i b' hf;rw[hf] at h;exact h
theorem AC7 {σ β:Type} {f:σ->Option (σ ⊕ β)} {n m:Nat} {s:σ} {b:β} (h:QI f n s=some b) (hm:n<=m):QI f m s=some b:=by
 induction hm with
 |refl=>exact h
 |step _ ih=>exact sK ih
theorem PT {σ β:Type} {f:σ->Option (σ ⊕ β)} {s:σ} {b:β}:AM f s=some b↔∃ n,QI f n s=some b:=by
 unfold AM
 constructor
 ·intro h
  split at h
  ·rename_i hx
   simp only[AY] at h
   rw[<-h];exact hx.choose_spec
  ·cases h
 ·rintro⟨n,hn⟩
  have hx:∃ b,∃ n,QI f n s=some b:=⟨b,n,hn⟩
  rw[dif_pos hx]
  obtain⟨m,hm⟩:=hx.choose_spec
  have h1:=AC7 hn (Nat.le_max_left n m)
  have h2:=AC7 hm (Nat.le_max_right n m)
  rw[h1] at h2
  exact h2.symm
theorem QJ {σ β:Type} (f:σ->Option (σ ⊕ β)) (s:σ):AM f s=match f s with
  |none=>none
  |some (.inl s')=>AM f s'
  |some (.inr b)=>some b:=by
 have key:∀ b,AM f s=some b↔(match f s with
  |none=>none
  |some (.inl s')=>AM f s'
  |some (.inr b)=>some b)=some b:=by
  intro b
  rw[PT]
  constructor
  ·rintro⟨n,hn⟩
   cases n with
   |zero=>cases hn
   |succ n=>
    rw[QI] at hn
    split at hn
    ·cases hn
    ·rename_i s' hf
     first|exact PT.2 ⟨n,hn⟩|(rw[hf];exact PT.2 ⟨n,hn⟩)
    ·rename_i b' hf
     first|exact hn|(rw[hf];exact hn)
  ·intro h
   split at h
   ·cases h
   ·rename_i s' hf
    obtain⟨n,hn⟩:=PT.1 h
    exact⟨n+1,by rw[QI,hf];exact hn⟩
   ·rename_i b' hf
    exact⟨1,by rw[QI,hf];exact h⟩
 cases h1:AM f s with
 |some b=>exact ((key b).1 h1).symm
 |none=>
  cases h2:(match f s with
  |none=>none
  |some (.inl s')=>AM f s'
  |some (.inr b)=>some b:Option β) with
  |none=>rfl
  |some b=>rw[(key b).2 h2] at h1;cases h1
def writes:Code->List Nat
 | .region _ ops _=>ops.toList.filterMap (·.dst)
 | .seq a b=>writes a++writes b
 | .cond _ a b=>writes a++writes b
 | .block _ c=>writes c
 | .loop c=>writes c
 | .scope c=>writes c
 |_=>[]
def HT.app:(zas bs:List CT)->HT zas->HT bs->HT (zas++bs)
 | [],_,_,y=>y
 | [_],bs,x,y=>HT.mk _ bs x y
 |_::d::r,bs,x,y=>(x.1,HT.app (d::r) bs x.2 y)
theorem HT.AC8:∀ (zas bs:List CT) (x:HT zas) (y:HT bs),HT.left zas bs (HT.app zas bs x y)=x
 | [],_,_,_=>rfl
 | [c],bs,x,y=>HT.nU c bs x y
 |c::d::r,bs,x,y=>by
  show (x.1,HT.left (d::r) bs (HT.app (d::r) bs x.2 y))=x
  rw[HT.AC8 (d::r) bs x.2 y]
theorem HT.wU:∀ (zas bs:List CT) (x:HT zas) (y:HT bs),HT.right zas bs (HT.app zas bs x y)=y
 | [],_,_,_=>rfl
 | [c],bs,x,y=>HT.nV c bs x y
 |c::d::r,bs,x,y=>by
  show HT.right (d::r) bs (HT.app (d::r) bs x.2 y)=y
  exact HT.wU (d::r) bs x.2 y
def KM (a:Ty):CT:=⟨.slice a,false,true,false⟩
@[reducible] def Z9.S3 (BJ:Z9):List CT:=BJ.live.map (·.2)++BJ.boxes.map (·.2)
@[reducible] def Z9.csR (BJ:Z9):List CT:=BJ.rows.map fun q=>KM q.2
abbrev Z9.T (BJ:Z9):Type:=HT (BJ.S3++BJ.csR)
def aD (AQ:Nat->Option AW):List (Nat×CT)->Option (List SV)
 | []=>some []
 |(n,c)::r=>match AQ n with
  |some (.box cs)=>(match aD AQ r with
   |some l=>(match c.agg with
    |true=>some (.agg cs::l)
    |false=>(match cs with
     | [v]=>some (v::l)
     |_=>none))
   |none=>none)
  |_=>none
def sL (AQ:Nat->Option AW):(rows:List (Nat×Ty))->Option (HT (rows.map fun q=>KM q.2))
 | []=>some ()
 |(n,a)::r=>match AQ n with
  |some (.row t xs)=>if h:t=a then (if a.o9=true then none else match sL AQ r with
   |some y=>some (HT.mk (KM a) (r.map fun q=>KM q.2) (GU h xs) y)
   |none=>none) else none
  |some (.deep t xss none)=>if h:Ty.slice t=a then (match sL AQ r with
   |some y=>some (HT.mk (KM a) (r.map fun q=>KM q.2) (GU h xss) y)
   |none=>none) else none
  |some (.map xs)=>if h:Ty.kv=a then (match sL AQ r with
   |some y=>some (HT.mk (KM a) (r.map fun q=>KM q.2) (GU h xs) y)
   |none=>none) else none
  |_=>none
def ver (L:AJ) (n:Nat):Nat:=match L[n]? with
 |some q=>q.1
 |none=>0
def G6 (L:AJ) (n:Nat):Bool:=match look L n with
 |some .KI=>true
 |_=>false
def AHB (L:AJ) (n:Nat):Bool:=match look L n with
 |some e=> !e.G6
 |none=>false
def Z9.uO (BJ:Z9):List Nat:=BJ.lost++(List.range (cnts BJ.S3)).map (fun k=>BJ.base+k)++BJ.boxes.map (·.1)++BJ.rows.map (·.1)
def AXF (BJ:Z9) (L0 L:AJ) (on:List Nat) (fz:CW):Bool:=
 decide BJ.uO.Nodup && (List.range (cnts BJ.S3)).all (fun k=>G6 L0 (BJ.base+k)) && (BJ.boxes.map (·.1)++BJ.rows.map (·.1)++BJ.lost).all (fun n=>AHB L0 n) &&
 (BJ.boxes.map (·.1)++BJ.rows.map (·.1)).all (fun n=> !on.contains n && !(fz.map (·.1)).contains n) &&
 (List.range L0.length).all (fun n=>G6 L0 n||BJ.uO.contains n||(ver L0 n==ver L n && !on.contains n && !(fz.map (·.1)).contains n)) &&
 BJ.S3.all (fun c=> !c.ptr)
def VY:List (Nat×Nat×Nat)->AJ->AJ
 | [],L=>L
 |(k,o,i)::r,L=>match look L k,look L o,look L i with
  |some (.row t xs),some .dead,some (.box cs)=>VY r (AI L [(k,.dead),(o,.row t xs),(i,.box (cs.map (uJ k o)))])
  |_,_,_=>VY r L
def AUN (BJ:Z9) (L0:AJ) (nes:List NE):Bool:=BJ.pins.all fun p=>decide (BJ.base<=p.1) && decide (p.1<BJ.base+cnts BJ.S3) && cY nes[p.1-BJ.base]? p.2.1 && AHB L0 p.2.1
def W8 (BJ:Z9) (L0:AJ) (fr:List SV) (L:AJ):Option BJ.T:=
 match aD (look L) BJ.boxes with
 |none=>none
 |some bs=>match IW .dS (look L) BJ.S3 (BJ.live.map (fun q=>fr.getD q.1 AV)++bs) with
  |none=>none
  |some a=>match sL (look L) BJ.rows with
   |none=>none
   |some y=>match okA a && AXF BJ L0 L a.on a.fz && BJ.live.all (fun q=> !wP (fr.getD q.1 AV)) && AUN BJ L0 a.nes with
    |true=>some (HT.app BJ.S3 BJ.csR a.x y)
    |false=>none
def O6:(cs:List CT)->HT cs->List AW
 | [],_=>[]
 |c::r,x=>BY c.own c.t (HT.hd c r x)++O6 r (HT.tl c r x)
def aE:List (Nat×CT)->List SV->CW
 |(n,_)::r,v::vs=>(n,.box (BD v))::aE r vs
 |_,_=>[]
def iB:(rows:List (Nat×Ty))->HT (rows.map fun q=>KM q.2)->CW
 | [],_=>[]
 |(n,a)::r,x=>(n,IU a (HT.hd (KM a) (r.map fun q=>KM q.2) x))::iB r (HT.tl (KM a) (r.map fun q=>KM q.2) x)
def Z9.svs (BJ:Z9) (s:BJ.T):List SV:=outSVs BJ.S3 (HT.left BJ.S3 BJ.csR s) BJ.base
def J0 (BJ:Z9) (s:BJ.T):CW:=
 BJ.lost.map (fun n=>(n,.dead))++(CK BJ.base (O6 BJ.S3 (HT.left BJ.S3 BJ.csR s))++(aE BJ.boxes ((BJ.svs s).drop BJ.live.length)++iB BJ.rows (HT.right BJ.S3 BJ.csR s)))
def PU (fr:List SV):List (Nat×SV)->List SV
 | []=>fr
 |(t,v)::r=>PU (fr.set t v) r
def W9 (BJ:Z9) (fr:List SV) (s:BJ.T):List SV:=PU (PU fr (BJ.dead.map fun t=>(t,.l5 t))) ((BJ.live.map (·.1)).zip (BJ.svs s))
def AFK (BJ:Z9) (ws:List Nat):Bool:=ws.all (fun t=>(BJ.live.map (·.1)).contains t||BJ.dead.contains t) && (BJ.live.map (·.1)).all ws.contains && BJ.dead.all ws.contains && decide (BJ.live.map (·.1)++BJ.dead).Nodup
def US:Code->Option Nat
 | .region id _ _=>some id
 | .seq a b=>(match US a with
  |some i=>some i
  |none=>US b)
 | .cond _ a b=>(match US a with
  |some i=>some i
  |none=>US b)
 | .block _ c=>US c
 | .loop c=>US c
 | .scope c=>US c
 |_=>none
def AUO (cx:Cx) (b:Code):Option Z9:=match US b with
 |some i=>lk cx.AO i
 |none=>none
def zA (L:AJ) (n:Nat):AJ:=match look L n with
 |some (.deep t xss h)=>(match mL (look L) n t xss h with
  |some (_,u)=>AI L u
  |none=>L)
 |_=>L
def GQ:List (Nat×Ty)->AJ->AJ
 | [],L=>L
 |q::r,L=>GQ r (zA L q.1)
def AMH {α:Type} (cx:Cx) (id:Nat) (fr:List SV) (L:AJ) (K:AJ->Option α):Option α:=match lk cx.opens id with
 |none=>K L
 |some (s,t,bs)=>(match fr.getD s AV,idxOf (fr.getD t AV) with
  | .MB i,some n=>(match look L i with
   |some (.deep a xss h)=>(match H6 (look L) bs 1 with
    |true=>(match mL (look L) i a xss h with
     |some (ys,u)=>if 0<=n/\n<(ys.length:Int) then K (AI L (u++ [(bs,.dead),(i,.deep a ys (some (n.toNat,bs))),(bs,.row a (ys.getD n.toNat []))])) else none
     |none=>none)
    |false=>none)
   |_=>none)
  |_,_=>none)
noncomputable def rk (P:Program) (cx:Cx):Code->(α:Type)->Nat->(Exit->List SV->AJ->Option α)->List SV->AJ->Option α
 | .skip,_,_,K,fr,L=>K .normal fr L
 | .label _,_,_,K,fr,L=>K .normal fr L
 | .ret,_,_,K,fr,L=>K .ret fr L
 | .exit id,_,_,K,fr,L=>K (.exit id) fr L
 | .region id ops draw,_,_,K,fr,L=>AMH cx id fr L (fun L=>match draw with
  |true=>(match AC1 ops.toList ops.toList 0 && P.follows .mixedOrders with
   |true=>AUL P cx ops.toList ops.toList 0 [] fr L (fun fr' L' =>K .normal fr' L')
   |false=>none)
  |false=>AMC P cx ops.toList ops.toList 0 fr L (fun fr' L' =>K .normal fr' L'))
 | .seq a b,α,KN,K,fr,L=>(match AUO cx b with
  |none=>rk P cx a α KN (fun e fr' L' =>match e with
   | .normal=>rk P cx b α KN K fr' L'
   |e=>K e fr' L') fr L
  |some BJ=>(match AFK BJ (writes a) with
   |true=>(rk P cx a (BJ.T ⊕ α) KN (fun e fr' L' =>match e with
    | .normal=>(W8 BJ (GQ BJ.rows L) fr' (GQ BJ.rows L')).map Sum.inl
    |e=>(K e fr' L').map Sum.inr) fr (GQ BJ.rows L)).bind (fun r=>match r with
     | .inl s=>rk P cx b α KN K (W9 BJ fr s) (VY BJ.pins (AI (GQ BJ.rows L) (J0 BJ s)))
     | .inr b=>some b)
   |false=>none))
 | .cond c x y,α,KN,K,fr,L=>(match ev fr c with
  | .NJ b=>(match b with
   |true=>rk P cx x α KN K fr L
   |false=>rk P cx y α KN K fr L)
  | .bool b=>if b=true then rk P cx x α KN K fr L else rk P cx y α KN K fr L
  | .prop p d=> @ite _ p d (rk P cx x α KN K fr L) (rk P cx y α KN K fr L)
  |_=>none)
 | .block id c,α,_,K,fr,L=>rk P cx c α id (fun e fr' L' =>match e with
  | .exit i=>if i=id then K .normal fr' L' else K (.exit i) fr' L'
  |e=>K e fr' L') fr L
 | .scope c,α,KN,K,fr,L=>rk P cx c α KN (fun e fr' L' =>match e with
  | .goto _=>none
  |e=>K e fr' L') fr L
 | .loop c,α,KN,K,fr,L=>(match lk cx.loops KN with
  |none=>none
  |some BJ=>(match AFK BJ (writes c) with
   |true=>(match W8 BJ (GQ BJ.rows L) fr (GQ BJ.rows L) with
    |none=>none
    |some s0=>AM (fun s=>rk P cx c (BJ.T ⊕ α) KN (fun e fr' L' =>match e with
     | .normal=>(W8 BJ (GQ BJ.rows L) fr' (GQ BJ.rows L')).map Sum.inl
     |e=>(K e fr' L').map Sum.inr) (W9 BJ fr s) (VY BJ.pins (AI (GQ BJ.rows L) (J0 BJ s)))) s0)
   |false=>none))
 |_,_,_,_,_,_=>none
end Go.V3
namespace Go.V3
open Go
variable {TB:Tb}
theorem aF {c:DN TB} {G:Nat->Prop} {w:World}:∀ (cs:List CT) (x:HT cs) (ms:Nat->Nm),(cs.all fun d=> !d.ptr)=true→
  (O6 cs x).length=cnts cs/\(PS c G w cs x ms->∀ j e,(O6 cs x)[j]? =some e->gU c G w (ms j) e)/\B6 cs x ms=GB (O6 cs x) ms/\(∀ e∈O6 cs x,e.G6=false)
 | [],_,_,_=>⟨rfl,fun _ j e h=>by simp [O6] at h,rfl,fun e h=>by simp [O6] at h⟩
 |d::r,x,ms,hp=>by
  simp only[List.all_cons,G4,RM] at hp
  have hpn:d.pn=0:=by simp [CT.pn,hp.1]
  have mJ:d.cnt=d.t.GN:=by simp [CT.cnt,hpn]
  obtain⟨i1,i2,i3,i4⟩:=aF (c:=c) (G:=G) (w:=w) r (HT.tl d r x) (fun k=>ms (d.cnt+k)) hp.2
  have hoc:ME d (HT.hd d r x) ms=GB (BY d.own d.t (HT.hd d r x)) ms:=by
   unfold ME;rw[hp.1,hpn];simp
  refine⟨by simp [O6,A_,i1,cnts,mJ],fun hps j e he=> ?_, ?_, ?_⟩
  ·simp only[O6] at he
   by_cases hj:j<(BY d.own d.t (HT.hd d r x)).length
   ·rw[T6 hj] at he
    have:=hps.1.1 j e he
    rw[hpn,I7] at this
    exact this
   ·rw[T5 (by omega)] at he
    have:=i2 hps.2 _ e he
    rw[A_] at this hj
    have e2:d.cnt+(j-d.t.GN)=j:=by omega
    rw[e2] at this
    exact this
  ·rw[mJ] at i3
   simp only[B6,O6,W5,hoc,A_,mJ]
   rw[i3]
  ·intro e he
   rcases EV.1 he with he|he
   ·obtain⟨j,hj,rfl⟩:=qT he
    exact VP (NB hj)
   ·exact i4 e he
theorem mW {b:Nat}:∀ (es:List AW) (ms:Nat->Nm),(GB es ms).Nodup->∀ (j k:Nat) (e f:AW),j<k->es[j]? =some e->es[k]? =some f->b∈e.VO (ms j)->¬b∈f.VO (ms k)
 | [],_,_,j,k,e,f,_,h,_,_=>by simp at h
 |x::r,ms,H8,0,0,e,f,gC,_,_,_=>by omega
 |x::r,ms,H8,j+1,0,e,f,gC,_,_,_=>by omega
 |x::r,ms,H8,0,k+1,e,f,_,h1,h2,hb=>by
  simp only[O1,AY] at h1;subst h1
  simp only[uC] at h2
  intro hf
  have:=PL.1 H8
  exact this.2.2 b hb b (HF r k (fun k=>ms (k+1)) h2 hf) rfl
 |x::r,ms,H8,j+1,k+1,e,f,gC,h1,h2,hb=>by
  simp only[uC] at h1 h2
  exact mW r (fun k=>ms (k+1)) (PL.1 H8).2.1 j k e f (by omega) h1 h2 hb
theorem zB (n:Nat) (es:List AW):(CK n es).map (·.1)=(List.range es.length).map (fun k=>n+k):=by
 induction es generalizing n with
 |nil=>rfl
 |cons e r ih=>
  simp only[CK,K0,ih,N3,List.range_succ_eq_map,S8,L3,jH,true_and]
  apply T7
  intro k _
  simp;omega
theorem zC {n:Nat} {es:List AW} {q:Nat×AW} (h:q∈CK n es):∃ j,q.1=n+j/\es[j]? =some q.2:=by
 induction es generalizing n with
 |nil=>cases h
 |cons e r ih=>
  rcases F7.1 h with rfl|h
  ·exact⟨0,rfl,rfl⟩
  ·obtain⟨j,h1,h2⟩:=ih h
   exact⟨j+1,by rw[h1];omega,by simpa using h2⟩
theorem M0:∀ (cs:List CT) (x:HT cs) (n:Nat),(outSVs cs x n).length=cs.length
 | [],_,_=>rfl
 |d::r,x,n=>by simp [outSVs,M0 r]
theorem sM:∀ (bs:List (Nat×CT)) (vs:List SV),vs.length=bs.length->(aE bs vs).map (·.1)=bs.map (·.1)
 | [],[],_=>rfl
 | [],_::_,h=>by simp at h
 |_::_,[],h=>by simp at h
 |(n,c)::r,v::vs,h=>by simp only[aE,K0];rw[sM r vs (by simpa using h)]
theorem iC:∀ (rows:List (Nat×Ty)) (x:HT (rows.map fun q=>KM q.2)),(iB rows x).map (·.1)=rows.map (·.1)
 | [],_=>rfl
 |(n,a)::r,x=>by simp only[iB,K0];rw[iC r]
theorem AJT (BJ:Z9) (s:BJ.T) (hp:(BJ.S3.all fun d=> !d.ptr)=true):(J0 BJ s).map (·.1)=BJ.uO:=by
 unfold J0 Z9.uO
 have hl:((BJ.svs s).drop BJ.live.length).length=BJ.boxes.length:=by
  unfold Z9.svs
  rw[List.length_drop,M0]
  simp [Z9.S3]
 obtain⟨e1,_⟩:=aF (c:=(⟨default,fun _=>False,fun _=>False⟩:DN [])) (G:=fun _=>False) (w:=default) BJ.S3 (HT.left BJ.S3 BJ.csR s) (fun _=>⟨0,0,true,0,0,none⟩) hp
 have h1:(BJ.lost.map (fun n=>(n,AW.dead))).map (·.1)=BJ.lost:=by simp [rA]
 have h2:=iC BJ.rows (HT.right BJ.S3 BJ.csR s)
 rw[ZS,ZS,ZS,h1,zB,e1,sM _ _ hl,I6,I6]
 congr 3
theorem YH:∀ (u:CW) (L:AJ),(u.map (·.1)).Nodup->(∀ n∈u.map (·.1),n<L.length)->∀ q∈u,look (AI L u) q.1=some q.2
 | [],_,_,_,q,h=>by cases h
 |p::r,L,H8,C7,q,hq=>by
  simp only[K0,T_] at H8
  rcases F7.1 hq with rfl|hq
  ·show look (AI (C5 L q) r) q.1=_
   rw[(GW H8.1).1,AZ (C7 _ (by simp)),AA rfl]
  ·exact YH r (C5 L p) H8.2 (fun n hn=>by rw[FK];exact C7 n (by simp [hn])) q hq
theorem wV:∀ (cs:List CT) (x:HT cs) (n:Nat) {E:Env} {L:AJ},(cs.all fun d=> !d.ptr)=true->(∀ k,k<cnts cs->Al L (n+k))->KJ E L (outSVs cs x n)
 | [],_,_,_,_,_,_=>trivial
 |d::r,x,n,E,L,hp,h=>by
  simp only[List.all_cons,G4,RM] at hp
  have mJ:d.cnt=d.t.GN:=by simp [CT.cnt,CT.pn,hp.1]
  refine⟨?_,wV r _ _ hp.2 fun k hk=>by rw[NI];exact h _ (by simp [cnts];omega)⟩
  have hu:KJ E L (HH d.t (HT.hd d r x) n):=rI _ _ _ fun j hj=>h j (by simp [cnts,mJ];omega)
  unfold R2
  rw[hp.1]
  cases d.agg with
  |true=>exact hu
  |false=>
   show SV.wf _ _ ((HH d.t (HT.hd d r x) n).headD AV)
   cases hx:HH d.t (HT.hd d r x) n with
   |nil=>trivial
   |cons v r=>rw[hx] at hu;exact hu.1
theorem AJU (t:Ty) (x:t.T) (n:Nat):∀ v∈HH t x n,BD v=[v]:=by
 induction t generalizing n with
 |pair a b T1 T3=>
  intro v hv
  rcases EV.1 hv with hv|hv
  ·exact T1 _ _ v hv
  ·exact T3 _ _ v hv
 |_=>intro v hv;simp only[HH,F6] at hv;subst hv;rfl
theorem sN:∀ (cs:List CT) (x:HT cs) (n k:Nat) (v:SV),(outSVs cs x n)[k]? =some v->∃ (d:CT) (y:d.t.T) (m:Nat),cs[k]? =some d/\v=R2 d y m/\n<=m/\m+d.cnt<=n+cnts cs
 | [],_,_,_,_,h=>by simp [outSVs] at h
 |d::r,x,n,0,v,h=>by
  simp only[outSVs,O1,AY] at h
  exact⟨d,_,n,rfl,h.symm,ED _,by simp [cnts]⟩
 |d::r,x,n,k+1,v,h=>by
  simp only[outSVs,uC] at h
  obtain⟨d',y,m,h1,h2,h3,h4⟩:=sN r _ _ k v h
  exact⟨d',y,m,by simpa using h1,h2,by omega,by simp only[cnts];omega⟩
theorem M1 (fr:List SV) (l:List (Nat×SV)):(PU fr l).length=fr.length:=by
 induction l generalizing fr with
 |nil=>rfl
 |cons q r ih=>obtain⟨t,v⟩:=q;simp [PU,ih]
theorem PV (fr:List SV) (l:List (Nat×SV)) (t:Nat) (h:∀ q∈l,q.1≠t):(PU fr l).getD t AV=fr.getD t AV:=by
 induction l generalizing fr with
 |nil=>rfl
 |cons q r ih=>
  obtain⟨k,v⟩:=q
  simp only[PU]
  rw[ih _ (fun q hq=>h q (by simp [hq])),ES,AB]
  rintro⟨rfl,_⟩
  exact h (k,v) (by simp) rfl
theorem V7 (fr:List SV) (l:List (Nat×SV)) (H8:(l.map (·.1)).Nodup) {t:Nat} {v:SV} (h:(t,v)∈l) (ht:t<fr.length):(PU fr l).getD t AV=v:=by
 induction l generalizing fr with
 |nil=>cases h
 |cons q r ih=>
  obtain⟨k,u⟩:=q
  simp only[K0,T_] at H8
  simp only[PU]
  rcases F7.1 h with he|h
  ·cases he
   rw[PV _ _ _ (fun q hq he=>H8.1 (C0.2 ⟨q,hq,he⟩)),ES,AA ⟨rfl,ht⟩]
  ·exact ih _ H8.2 h (by simpa using ht)
theorem W_ {AQ:Nat->Option AW}:∀ (bs:List (Nat×CT)) (l:List SV),aD AQ bs=some l->l.length=bs.length/\∀ (j n:Nat) (c:CT),bs[j]? =some (n,c)->∃ cs,AQ n=some (.box cs)/\((c.agg=true/\l[j]? =some (.agg cs))\/(c.agg=false/\∃ v,cs=[v]/\l[j]? =some v))
 | [],l,h=>by simp only[aD,AY] at h;subst h;exact⟨rfl,fun j n c h=>by simp at h⟩
 |(n,c)::r,l,h=>by
  simp only[aD] at h
  split at h
  rotate_left
  ·cases h
  rename_i cs hl
  split at h
  rotate_left
  ·cases h
  rename_i l' vT
  obtain⟨i1,i2⟩:=W_ r l' vT
  split at h
  ·rename_i ha
   simp only[AY] at h;subst h
   refine⟨by simp [i1],fun j n' c' hj=> ?_⟩
   cases j with
   |zero=>simp only[O1,AY,C3] at hj;obtain⟨rfl,rfl⟩:=hj;exact⟨cs,hl,.inl ⟨ha,rfl⟩⟩
   |succ j=>exact i2 j n' c' (by simpa using hj)
  ·rename_i ha
   split at h
   rotate_left
   ·cases h
   rename_i v
   simp only[AY] at h;subst h
   refine⟨by simp [i1],fun j n' c' hj=> ?_⟩
   cases j with
   |zero=>simp only[O1,AY,C3] at hj;obtain⟨rfl,rfl⟩:=hj;exact⟨[v],hl,.inr ⟨ha,v,rfl,rfl⟩⟩
   |succ j=>exact i2 j n' c' (by simpa using hj)
theorem sO:∀ (bs:List (Nat×CT)) (vs:List SV) (q:Nat×AW),q∈aE bs vs->∃ (j:Nat) (c:CT) (v:SV),bs[j]? =some (q.1,c)/\vs[j]? =some v/\q.2= .box (BD v)
 | [],_,_,h=>by simp [aE] at h
 |_::_,[],_,h=>by simp [aE] at h
 |(n,c)::r,v::vs,q,h=>by
  simp only[aE] at h
  rcases F7.1 h with rfl|h
  ·exact⟨0,c,v,rfl,rfl,rfl⟩
  ·obtain⟨j,c',v',h1,h2,h3⟩:=sO r vs q h
   exact⟨j+1,c',v',by simpa using h1,by simpa using h2,h3⟩
theorem sP {AQ:Nat->Option AW}:∀ (rows:List (Nat×Ty)) (y:HT (rows.map fun q=>KM q.2)),sL AQ rows=some y->∀ q∈iB rows y,∃ (a:Ty) (xs:List a.T),AQ q.1=some (IU a xs)/\q.2=IU a xs
 | [],_,_,q,h=>by simp [iB] at h
 |(n,a)::r,y,hp,q,h=>by
  have key:∃ (xs:List a.T) (y' :HT (r.map fun q=>KM q.2)),AQ n=some (IU a xs)/\sL AQ r=some y' /\y=HT.mk (KM a) (r.map fun q=>KM q.2) xs y' :=by
   simp only[sL] at hp
   split at hp
   ·rename_i t xs hl
    split at hp
    rotate_left
    ·cases hp
    rename_i ht
    subst ht
    split at hp
    ·cases hp
    rename_i O4
    split at hp
    rotate_left
    ·cases hp
    rename_i y' wW
    simp only[AY] at hp
    exact⟨xs,y',by rw[K1 (by simpa using O4)];exact hl,wW,hp.symm⟩
   ·rename_i t xss hl
    split at hp
    rotate_left
    ·cases hp
    rename_i ht
    subst ht
    split at hp
    rotate_left
    ·cases hp
    rename_i y' wW
    simp only[AY] at hp
    exact⟨xss,y',hl,wW,hp.symm⟩
   ·rename_i xs hl
    split at hp
    rotate_left
    ·cases hp
    rename_i ht
    subst ht
    split at hp
    rotate_left
    ·cases hp
    rename_i y' wW
    simp only[AY] at hp
    exact⟨xs,y',hl,wW,hp.symm⟩
   ·cases hp
  obtain⟨xs,y',hl,wW,rfl⟩:=key
  simp only[iB] at h
  rcases F7.1 h with rfl|h
  ·refine⟨a,xs,hl, ?_⟩
   exact N5 (IU a) (HT.nU (KM a) (r.map fun q=>KM q.2) xs y')
  ·refine sP r y' wW q ?_
   have e:HT.tl (KM a) (r.map fun q=>KM q.2) (HT.mk (KM a) (r.map fun q=>KM q.2) xs y')=y' :=HT.nV _ _ _ _
   rw[e] at h;exact h
theorem aG {L L' :AJ} (h:YR L L') {n:Nat} {e:AW} (he:look L n=some e) (hv:ver L n=ver L' n):look L' n=some e:=by
 have C7:=AP he
 have AUP :n<L'.length:=by rw[h.1];exact C7
 have e1:L[n]? =some (L[n].1,L[n].2):=NB C7
 have e2:L'[n]? =some (L'[n].1,L'[n].2):=NB AUP
 have hve:L'[n].1=L[n].1:=by
  unfold ver at hv
  rw[e1,e2] at hv
  exact hv.symm
 have hfe:=(h.2 n _ _ _ _ e1 e2).2 hve
 unfold look at he ⊢
 rw[e1] at he
 rw[e2]
 simp only[hfe]
 exact he
set_option maxHeartbeats 1000000 in
theorem AUQ {BJ:Z9} {W:List Nat} (hwr:AFK BJ W=true) {c:DN TB} {w0:World} {E:Env} {fr:List SV} {L:AJ} {G0:Nat->Prop} (hH0:AS c G0 w0 E L) (hF0:sE E L fr)
  {E' :Env} {fr' :List SV} {L' :AJ} {a:Act} {w:World} (hst:St c E' fr' L' a w) (K8:Ext W E fr L E' fr' L') {s:BJ.T} (hp:W8 BJ L fr' L' =some s):
  ∃ E2,St c E2 (W9 BJ fr s) (AI L (J0 BJ s)) a w/\Ext W E fr L E2 (W9 BJ fr s) (AI L (J0 BJ s))/\∀ p∈BJ.pins,E2.nm p.1=E2.nm p.2.1:=by
 unfold W8 at hp
 split at hp
 ·cases hp
 rename_i bs KZ
 split at hp
 ·cases hp
 rename_i tk htk
 split at hp
 ·cases hp
 rename_i y hy
 split at hp
 rotate_left
 ·cases hp
 rename_i hck
 simp only[AY] at hp
 simp only[G4] at hck
 obtain⟨⟨⟨AZZ,AXG⟩,hnu⟩,AXH⟩:=hck
 simp only[AXF,G4,IQ] at AXG
 obtain⟨⟨⟨⟨⟨o1,o2⟩,o3⟩,o4⟩,o5⟩,o6⟩:=AXG
 simp only[AFK,G4,IQ] at hwr
 obtain⟨⟨⟨wr1,wr2⟩,wr3⟩,wr4⟩:=hwr
 have AC9:HT.left BJ.S3 BJ.csR s=tk.x:=by rw[<-hp];exact HT.AC8 _ _ _ _
 have AUR:HT.right BJ.S3 BJ.csR s=y:=by rw[<-hp];exact HT.wU _ _ _ _
 obtain⟨G,hG⟩:=hst.hd
 have AXI:KJ E' L' (BJ.live.map (fun q=>fr'.getD q.1 AV)++bs):=by
  refine BP.2 fun v hv=> ?_
  rcases EV.1 hv with hv|hv
  ·obtain⟨q,hq,rfl⟩:=C0.1 hv
   rcases hst.wf q.1 with h|h
   ·exact h
   ·have:=J9.1 hnu q hq
    rw[h] at this;simp [wP] at this
  ·obtain⟨j,hj,rfl⟩:=qT hv
   obtain⟨b1,b2⟩:=W_ _ _ KZ
   have hjb:j<BJ.boxes.length:=by omega
   obtain⟨cs,h1,h2⟩:=b2 j _ _ (NB hjb)
   have hwc:=(hG.KY _ _ h1).2.2.2.2.2
   rcases h2 with ⟨_,h3⟩|⟨_,v,rfl,h3⟩
   ·rw[NB hj] at h3;simp only[AY] at h3;rw[h3];exact hwc
   ·rw[NB hj] at h3;simp only[AY] at h3;rw[h3];exact hwc.1
 obtain⟨G1,G2,t1,t2,t3,t4,t5,t6,t7,t8,t9,t10,t11⟩:=hG.take (md:= .dS) (by simp) (fun n e h=>h) htk AZZ AXI
 have h21:=t4 rfl
 rw[h21] at t9
 obtain⟨AGT,gY⟩:=VR E' _ _ _ htk
 obtain⟨f1,f2,f3,f4⟩:=aF (c:=c) (G:=G1) (w:=w) BJ.S3 tk.x (DY E' tk.nes) o6
 have f2:=f2 t9
 rw[f3] at t10 t11
 let E2:Env:={ nm:=fun n=>if BJ.base<=n/\n<BJ.base+cnts BJ.S3 then DY E' tk.nes (n-BJ.base) else E'.nm n,ds:=fun t=>if t∈BJ.dead then (fr'.getD t AV).den E' else E'.ds t,ins:=⟨fun n=>if BJ.base<=n/\n<BJ.base+cnts BJ.S3 then (DY E' tk.nes (n-BJ.base)).ins.l else E'.ins.l n⟩ }
 have sQ:∀ n,(BJ.base<=n/\n<BJ.base+cnts BJ.S3)->look L n=some .KI:=by
  intro n hn
  have:=J9.1 o2 (n-BJ.base) (l9.2 (by omega))
  have e:BJ.base+(n-BJ.base)=n:=by omega
  rw[e] at this
  unfold G6 at this
  split at this
  ·assumption
  ·cases this
 have ASZ:∀ n,Al L n->¬(BJ.base<=n/\n<BJ.base+cnts BJ.S3):=fun n hn hx=>EF (sQ n hx) hn
 have pI :∀ n,Al L n->E2.nm n=E'.nm n:=fun n hn=>AB (ASZ n hn)
 have hE2:∀ n,Al L n->E2.nm n=E.nm n:=fun n hn=>(pI n hn).trans (K8.nm n hn).1
 have AMI:∀ j,j<cnts BJ.S3->E2.nm (BJ.base+j)=DY E' tk.nes j:=by
  intro j hj
  show (if _ then _ else _)=_
  rw[AA ⟨by omega,by omega⟩]
  congr 1;omega
 have AMJ :∀ n,Al L n->E2.ins.l n=E'.ins.l n:=fun n hn=>AB (ASZ n hn)
 have AXJ:∀ j,j<cnts BJ.S3->E2.ins.l (BJ.base+j)=(DY E' tk.nes j).ins.l:=by
  intro j hj
  show (if _ then _ else _)=_
  rw[AA ⟨by omega,by omega⟩]
  congr 3;omega
 have aH:∀ n,n∈BJ.boxes.map (·.1)++BJ.rows.map (·.1)++BJ.lost->Al L n:=by
  intro n hn
  have:=J9.1 o3 n hn
  unfold AHB at this
  split at this
  ·rename_i e he;exact⟨e,he,by simpa using this⟩
  ·cases this
 have AFL:=AJT BJ s o6
 have A00:∀ n∈(J0 BJ s).map (·.1),n<L.length:=by
  intro n hn
  rw[AFL] at hn
  simp only[Z9.uO,EV] at hn
  rcases hn with ((hn|hn)|hn)|hn
  ·obtain⟨e,he,_⟩:=aH n (by simp only[EV];exact .inr hn);exact AP he
  ·obtain⟨k,hk,rfl⟩:=C0.1 hn
   exact AP (sQ _ ⟨by omega,by have:=l9.1 hk;omega⟩)
  ·obtain⟨e,he,_⟩:=aH n (by simp only[EV];exact .inl (.inl hn));exact AP he
  ·obtain⟨e,he,_⟩:=aH n (by simp only[EV];exact .inl (.inr hn));exact AP he
 have AMK:=YH (J0 BJ s) L (by rw[AFL];exact o1) A00
 have AHC:∀ n,n∉BJ.uO->look (AI L (J0 BJ s)) n=look L n:=fun n hn=>(GW (by rw[AFL];exact hn)).1
 have AHD:∀ q∈J0 BJ s,(q.2= .dead/\q.1∈BJ.lost)\/(∃ j,q.1=BJ.base+j/\(O6 BJ.S3 tk.x)[j]? =some q.2)∨
   (∃ (j:Nat) (d:CT) (v:SV),BJ.boxes[j]? =some (q.1,d)/\(outSVs BJ.S3 tk.x BJ.base)[BJ.live.length+j]? =some v/\q.2= .box (BD v))\/(∃ (a:Ty) (xs:List a.T),look L' q.1=some (IU a xs)/\q.2=IU a xs/\q.1∈BJ.rows.map (·.1)):=by
  intro q hq
  simp only[J0,EV] at hq
  rcases hq with hq|hq|hq|hq
  ·obtain⟨n,hn,rfl⟩:=C0.1 hq;exact .inl ⟨rfl,hn⟩
  ·rw[AC9] at hq;exact .inr (.inl (zC hq))
  ·obtain⟨j,d,v,h1,h2,h3⟩:=sO _ _ _ hq
   refine .inr (.inr (.inl ⟨j,d,v,h1, ?_,h3⟩))
   rw[ZQ] at h2
   unfold Z9.svs at h2
   rw[AC9] at h2
   exact h2
  ·refine .inr (.inr (.inr ?_))
   have O5 :=hq
   rw[AUR] at hq
   obtain⟨a,xs,h1,h2⟩:=sP _ _ hy q hq
   refine⟨a,xs,h1,h2, ?_⟩
   rw[<-iC BJ.rows (HT.right BJ.S3 BJ.csR s)]
   exact C0.2 ⟨q,O5,rfl⟩
 have NS:∀ n,Al L n->Al (AI L (J0 BJ s)) n:=by
  intro n hn
  by_cases yY:n∈BJ.uO
  ·rw[<-AFL] at yY
   obtain⟨q,hq,rfl⟩:=C0.1 yY
   refine⟨q.2,AMK q hq, ?_⟩
   rcases AHD q hq with ⟨h,_⟩|⟨j,_,h⟩|⟨_,_,_,_,_,h⟩|⟨_,_,_,h,_⟩
   ·rw[h];rfl
   ·exact f4 _ (YL h)
   ·rw[h];rfl
   ·rw[h];exact gS _ _
  ·obtain⟨e,rJ,he2⟩:=hn
   exact⟨e,by rw[AHC n yY];exact rJ,he2⟩
 have A01:∀ k,k<cnts BJ.S3->Al (AI L (J0 BJ s)) (BJ.base+k):=by
  intro k hk
  have C7:k<(O6 BJ.S3 tk.x).length:=by rw[f1];exact hk
  have hq:(BJ.base+k,(O6 BJ.S3 tk.x)[k])∈J0 BJ s:=by
   simp only[J0,EV]
   refine .inr (.inl ?_)
   rw[AC9]
   have key:∀ (es:List AW) (n k:Nat) (h:k<es.length),(n+k,es[k])∈CK n es:=by
    intro es
    induction es with
    |nil=>intro n k h;simp at h
    |cons e r ih=>
     intro n k h
     cases k with
     |zero=>simp [CK]
     |succ k=>
      simp only[CK,List.getElem_cons_succ]
      have:=ih (n+1) k (by simpa using h)
      have e1:n+1+k=n+(k+1):=by omega
      rw[e1] at this
      exact S7 _ this
   exact key _ _ _ C7
  exact⟨_,AMK _ hq,f4 _ (List.getElem_mem C7)⟩
 have Z3:∀ n,n∈BJ.boxes.map (·.1)++BJ.rows.map (·.1)->look (AI L' tk.C2) n=look L' n:=by
  intro n hn
  have:=J9.1 o4 n hn
  simp only[G4,RM,xZ,YK] at this
  exact t7 n this.1 this.2
 have AT0:KJ E2 (AI L (J0 BJ s)) (outSVs BJ.S3 tk.x BJ.base):=wV _ _ _ o6 A01
 have AML:AK E' (BJ.live.map (fun q=>fr'.getD q.1 AV)++bs)=AK E2 (outSVs BJ.S3 tk.x BJ.base):=gY E2 BJ.base AMI
 have ABG:∀ (j:Nat) (n:Nat) (d:CT) (v:SV),BJ.boxes[j]? =some (n,d)->(outSVs BJ.S3 tk.x BJ.base)[BJ.live.length+j]? =some v→
   ∃ cs,look L' n=some (.box cs)/\AK E2 (BD v)=AK E' cs/\KJ E2 (AI L (J0 BJ s)) (BD v):=by
  intro j n d v hj hv
  obtain⟨b1,b2⟩:=W_ _ _ KZ
  obtain⟨cs,h1,h2⟩:=b2 j n d hj
  have hvw:v.wf E2 (AI L (J0 BJ s)):=BP.1 AT0 v (YL hv)
  refine⟨cs,h1, ?_,PR hvw⟩
  have pD:j<bs.length:=by
   rcases h2 with ⟨_,h3⟩|⟨_,_,_,h3⟩
   all_goals
    rcases GY j bs.length with h|h
    ·exact h
    ·rw[SO h] at h3;cases h3
  have hdv:v.den E2=(bs[j]).den E' :=by
   have:=N5 (fun l=>l[BJ.live.length+j]?) AML
   simp only[FJ,hv,ZT] at this
   rw[T5 (by simp),WW,Nat.add_sub_cancel_left,NB pD] at this
   simp only[ZT,AY] at this
   exact this.symm
  obtain⟨d',z,m,g1,g2,_,_⟩:=sN _ _ _ _ _ hv
  have hd' :d' =d:=by
   have:BJ.S3[BJ.live.length+j]? =some d:=by
    unfold Z9.S3
    rw[T5 (by simp),WW,Nat.add_sub_cancel_left,List.getElem?_map,hj];rfl
   rw[this] at g1;simp only[AY] at g1;exact g1.symm
  subst hd'
  have AQ2:d'.ptr=false:=by
   have:=J9.1 o6 d' (YL g1)
   simpa using this
  rcases h2 with ⟨ha,h3⟩|⟨ha,u,rfl,h3⟩
  ·rw[NB pD] at h3
   simp only[AY] at h3
   rw[h3,g2] at hdv
   rw[g2]
   unfold R2 at hdv ⊢
   rw[AQ2,ha] at hdv ⊢
   simp only[SV.den,Value.agg.injEq] at hdv
   have:=N5 Array.toList hdv
   simpa [BD] using this
  ·rw[NB pD] at h3
   simp only[AY] at h3
   rw[h3] at hdv
   have hcv:BD v=[v]:=by
    rw[g2]
    unfold R2
    rw[AQ2,ha]
    simp only
    cases hu:HH d'.t z m with
    |nil=>rfl
    |cons x r=>exact AJU d'.t z m x (by rw[hu];simp)
   rw[hcv]
   simp [AK,hdv]
 have AFM:∀ (n:Nat) (e:AW) (b:Nat),look (AI L (J0 BJ s)) n=some e->e.ow E2 n b→
   (∃ j,n=BJ.base+j/\(O6 BJ.S3 tk.x)[j]? =some e/\b∈e.VO (DY E' tk.nes j))\/(∃ f,look (AI L' tk.C2) n=some f/\f.ow E' n b):=by
  intro n e b he hb
  by_cases yY:n∈BJ.uO
  ·rw[<-AFL] at yY
   obtain⟨q,hq,rfl⟩:=C0.1 yY
   have:=AMK q hq
   rw[he] at this
   simp only[AY] at this
   subst this
   rcases AHD q hq with ⟨h,_⟩|⟨j,h1,h2⟩|⟨j,d,v,h1,h2,h3⟩|⟨a',xs,h1,h2,h3⟩
   ·rw[h] at hb;rcases hb with hb|⟨hb,_⟩|⟨hb,_⟩ <;> cases hb
   ·have hj:j<cnts BJ.S3:=by
     rcases GY j (O6 BJ.S3 tk.x).length with h|h
     ·rwa [f1] at h
     ·rw[SO h] at h2;cases h2
    rw[h1,AW.yJ (AMI j hj) (AXJ j hj)] at hb
    exact .inl ⟨j,h1,h2,hb⟩
   ·obtain⟨cs,k1,_,_⟩:=ABG j q.1 d v h1 h2
    have ND:q.1∈BJ.boxes.map (·.1):=C0.2 ⟨_,YL h1,rfl⟩
    have l6:=aH q.1 (by simp only[EV];exact .inl (.inl ND))
    rw[AW.cW ⟨pI _ l6,AMJ _ l6⟩,h3,AW.cU rfl] at hb
    exact .inr ⟨.box cs,by rw[Z3 q.1 (EV.2 (.inl ND))];exact k1,.inl hb⟩
   ·have l6:=aH q.1 (by simp only[EV];exact .inl (.inr h3))
    rw[AW.cW ⟨pI _ l6,AMJ _ l6⟩,h2] at hb
    exact .inr ⟨IU a' xs,by rw[Z3 q.1 (EV.2 (.inr h3))];exact h1,hb⟩
  ·rw[AHC n yY] at he
   have C7:=AP he
   have hnr:e.G6=false:=by cases e <;> first|rfl|(rcases hb with hb|⟨hb,_⟩|⟨hb,_⟩ <;> cases hb)
   have l6:Al L n:=⟨e,he,hnr⟩
   have h5:=J9.1 o5 n (l9.2 C7)
   simp only[nS,G4,UH,RM,xZ,YK,IQ] at h5
   rcases h5 with (h5|h5)|⟨⟨h5,h6⟩,h7⟩
   ·unfold G6 at h5;rw[he] at h5;cases e <;> first|(cases hnr;done)|(cases h5;done)
   ·exact absurd h5 yY
   ·rw[AW.cW ⟨pI _ l6,AMJ _ l6⟩] at hb
    right
    have AUP :n<L'.length:=by rw[K8.pH.1];exact C7
    have CD:look L' n=some e:=aG K8.pH he h5
    exact⟨e,by rw[t7 n h6 h7];exact CD,hb⟩
 have AUS:AS c G1 w E2 (AI L (J0 BJ s)):=by
  refine⟨t1.rest,t1.size,t1.old,t1.tV,t1.glo,t1.ghi, ?_, ?_, ?_,t1.tab⟩
  ·intro n e he
   by_cases yY:n∈BJ.uO
   ·rw[<-AFL] at yY
    obtain⟨q,hq,rfl⟩:=C0.1 yY
    have:=AMK q hq
    rw[he] at this
    simp only[AY] at this
    subst this
    rcases AHD q hq with ⟨h,_⟩|⟨j,h1,h2⟩|⟨j,d,v,h1,h2,h3⟩|⟨a',xs,h1,h2,h3⟩
    ·rw[h];trivial
    ·have hj:j<cnts BJ.S3:=by
      rcases GY j (O6 BJ.S3 tk.x).length with h|h
      ·rwa [f1] at h
      ·rw[SO h] at h2;cases h2
     have hm:=f2 j _ h2
     rw[h1,AMI j hj]
     generalize q.2=e at hm
     cases e <;> first|exact hm|exact hm.elim|trivial
    ·obtain⟨cs,k1,k2,k3⟩:=ABG j q.1 d v h1 h2
     have ND:q.1∈BJ.boxes.map (·.1):=C0.2 ⟨_,YL h1,rfl⟩
     have l6:=aH q.1 (by simp only[EV];exact .inl (.inl ND))
     obtain⟨p1,p2,p3,p4,⟨ty,p5⟩,p6⟩:=t1.KY q.1 (.box cs) (by rw[Z3 q.1 (EV.2 (.inl ND))];exact k1)
     rw[h3,pI _ l6]
     exact⟨p1,p2,p3,p4,⟨ty,by rw[k2];exact p5⟩,k3⟩
    ·have l6:=aH q.1 (by simp only[EV];exact .inl (.inr h3))
     have:=t1.KY q.1 (IU a' xs) (by rw[Z3 q.1 (EV.2 (.inr h3))];exact h1)
     rw[h2,pI _ l6]
     cases a' with
     |pair a b=>cases a <;> cases b <;> exact this
     |_=>exact this
   ·have he0:=he
    rw[AHC n yY] at he
    have C7:=AP he
    cases hr:e.G6 with
    |true=>cases e <;> first|trivial|cases hr
    |false=>
     have l6:Al L n:=⟨e,he,hr⟩
     have h5:=J9.1 o5 n (l9.2 C7)
     simp only[nS,G4,UH,RM,xZ,YK,IQ] at h5
     rcases h5 with (h5|h5)|⟨⟨h5,h6⟩,h7⟩
     ·unfold G6 at h5;rw[he] at h5;cases e <;> first|(cases hr;done)|(cases h5;done)
     ·exact absurd h5 yY
     ·have AUP :n<L'.length:=by rw[K8.pH.1];exact C7
      have CD:look L' n=some e:=aG K8.pH he h5
      have rT:=t1.KY n e (by rw[t7 n h6 h7];exact CD)
      have ACA:=hH0.KY n e he
      rw[pI _ l6]
      cases e with
      |box cs=>
       obtain⟨p1,p2,p3,p4,⟨ty,p5⟩,p6⟩:=rT
       obtain⟨x1,x2⟩:=KK NS hE2 cs ACA.2.2.2.2.2
       obtain⟨_,x4⟩:=KK (fun n hn=>(K8.nm n hn).2) (fun n hn=>(K8.nm n hn).1) cs ACA.2.2.2.2.2
       exact⟨p1,p2,p3,p4,⟨ty,by rw[x2,←x4];exact p5⟩,x1⟩
      |ptr j=>
       obtain⟨y1,⟨arr,ty,fz,y2,y3⟩,_⟩:=rT
       have y4:=ACA.2.2
       exact⟨y1,⟨arr,ty,fz,y2,by rw[pI j y4];exact y3⟩,NS j y4⟩
      |_=>exact rT
  ·intro n t xss hq he
   by_cases yY:n∈BJ.uO
   ·rw[<-AFL] at yY
    obtain⟨q,O5,rfl⟩:=C0.1 yY
    have:=AMK q O5
    rw[he] at this
    simp only[AY] at this
    rcases AHD q O5 with ⟨h,_⟩|⟨j,h1,h2⟩|⟨j,d,v,h1,h2,h3⟩|⟨a',xs,h1,h2,h3⟩
    ·rw[h] at this;cases this
    ·have hj:j<cnts BJ.S3:=by
      rcases GY j (O6 BJ.S3 tk.x).length with h|h
      ·rwa [f1] at h
      ·rw[SO h] at h2;cases h2
     have hm:=f2 j _ h2
     rw[<-this] at hm
     obtain⟨rfl,hm⟩:=hm
     rw[h1,AMI j hj,AXJ j hj]
     exact hm.env ⟨rfl,rfl,rfl,rfl,rfl⟩
    ·rw[h3] at this;cases this
    ·have l6:=aH q.1 (by simp only[EV];exact .inl (.inr h3))
     rw[h2] at this
     cases a' with
     |slice b=>
      simp only[IU,AW.deep.injEq] at this
      obtain⟨rfl,hx,rfl⟩:=this
      cases hx
      have:=t1.dp q.1 t xss none (by rw[Z3 q.1 (EV.2 (.inr h3))];exact h1)
      rw[pI _ l6,AMJ _ l6]
      exact this.env ⟨rfl,rfl,rfl,rfl,rfl⟩
     |pair a b=>cases a <;> cases b <;> cases this
     |_=>cases this
   ·rw[AHC n yY] at he
    have C7:=AP he
    have l6:Al L n:=⟨_,he,rfl⟩
    have h5:=J9.1 o5 n (l9.2 C7)
    simp only[nS,G4,UH,RM,xZ,YK,IQ] at h5
    rcases h5 with (h5|h5)|⟨⟨h5,h6⟩,h7⟩
    ·unfold G6 at h5;rw[he] at h5;cases h5
    ·exact absurd h5 yY
    ·have CD:look L' n=some _:=aG K8.pH he h5
     have rT:=t1.dp n t xss hq (by rw[t7 n h6 h7];exact CD)
     have ACA:=hH0.dp n t xss hq he
     rw[pI _ l6,AMJ _ l6]
     refine⟨rT.len,rT.off,rT.nd,rT.all, ?_⟩
     rcases rT.cs with hc|⟨h1,h2,h3,arr,ty,hs,h4,h5,h6,h7,h8,h9⟩
     ·exact .inl hc
     ·refine .inr ⟨h1,h2,h3,arr,ty,hs,h4,h5,h6,h7,h8,fun k j hk hl=> ?_⟩
      have hAj:Al L j:=by
       rcases ACA.cs with ⟨_,hc,_⟩|⟨_,_,_,_,_,_,_,_,_,_,_,g9⟩
       ·rw[hc] at hl;cases hl
       ·exact (g9 k j hk hl).2
      exact⟨by rw[pI _ hAj];exact (h9 k j hk hl).1,NS j hAj⟩
  ·intro n k e f b hnk hn hk he hf
   rcases AFM n e b hn he with ⟨j,rfl,yV,hj2⟩|⟨g,hg1,hg2⟩
   ·rcases AFM k f b hk hf with ⟨j',rfl,AQR,AQS⟩|⟨g,hg1,hg2⟩
    ·rcases Nat.lt_or_gt_of_ne (show j≠j' by omega) with C7|C7
     ·exact mW _ _ t10 j j' e f C7 yV AQR hj2 AQS
     ·exact mW _ _ t10 j' j f e C7 AQR yV AQS hj2
    ·exact t11 b (HF _ _ _ yV hj2) k g hg1 hg2
   ·rcases AFM k f b hk hf with ⟨j',rfl,AQR,AQS⟩|⟨g',A02,A03⟩
    ·exact t11 b (HF _ _ _ AQR AQS) n g hg1 hg2
    ·exact t1.inj n k g g' b hnk hg1 A02 hg2 A03
 rw[PL] at wr4
 obtain⟨nd1,nd2,nd3⟩:=wr4
 have AMM:(W9 BJ fr s).length=fr'.length:=by unfold W9;rw[M1,M1,K8.len]
 have AUT:((BJ.live.map (·.1)).zip (BJ.svs s)).map (·.1)=BJ.live.map (·.1):=by
  apply List.map_fst_zip
  unfold Z9.svs
  rw[M0]
  simp [Z9.S3]
 have wX:∀ t,t<fr'.length->((W9 BJ fr s).getD t AV).den E2=(fr'.getD t AV).den E' /\(((W9 BJ fr s).getD t AV).wf E2 (AI L (J0 BJ s))\/(W9 BJ fr s).getD t AV= .l5 t):=by
  intro t ht
  have htf:t<fr.length:=by rw[<-K8.len];exact ht
  by_cases K7:t∈BJ.live.map (·.1)
  ·obtain⟨j,hj,hjt⟩:=qT K7
   have pD:j<BJ.live.length:=by simpa using hj
   have hjs:j<(outSVs BJ.S3 tk.x BJ.base).length:=by rw[M0];simp [Z9.S3];omega
   have A04 :j<(BJ.svs s).length:=by unfold Z9.svs;rw[AC9];exact hjs
   have ND:(t,(BJ.svs s)[j])∈(BJ.live.map (·.1)).zip (BJ.svs s):=by
    rw[<-hjt]
    have:((BJ.live.map (·.1)).zip (BJ.svs s))[j]'(by simp;omega)=((BJ.live.map (·.1))[j],(BJ.svs s)[j]):=List.getElem_zip
    rw[<-this]
    exact List.getElem_mem _
   have AQT:(W9 BJ fr s).getD t AV=(BJ.svs s)[j]:=V7 _ _ (by rw[AUT];exact nd1) ND (by rw[M1];exact htf)
   have hsv:(BJ.svs s)[j]? =(outSVs BJ.S3 tk.x BJ.base)[j]? :=by unfold Z9.svs;rw[AC9]
   rw[NB A04,NB hjs] at hsv
   simp only[AY] at hsv
   rw[AQT,hsv]
   refine⟨?_,.inl (BP.1 AT0 _ (List.getElem_mem hjs))⟩
   have:=N5 (fun l=>l[j]?) AML
   simp only[FJ] at this
   rw[T6 (by simpa using pD),NB hjs,List.getElem?_map,NB pD] at this
   simp only[ZT,AY] at this
   rw[<-this]
   simp only[qX] at hjt
   rw[hjt]
  ·have h1:(W9 BJ fr s).getD t AV=(PU fr (BJ.dead.map fun t=>(t,.l5 t))).getD t AV:=by
    unfold W9
    refine PV _ _ _ fun q hq he=>K7 ?_
    rw[<-he,←AUT]
    exact C0.2 ⟨q,hq,rfl⟩
   by_cases VX:t∈BJ.dead
   ·have h2:(PU fr (BJ.dead.map fun t=>(t,.l5 t))).getD t AV= .l5 t:=
     V7 _ _ (by rw[S8];have:(BJ.dead.map ((·.1)∘fun t=>(t,SV.l5 t)))=BJ.dead:=(by simp [rA]);rw[this];exact nd2) (C0.2 ⟨t,VX,rfl⟩) htf
    rw[h1,h2]
    exact⟨by show (if t∈BJ.dead then _ else _)=_;rw[AA VX],.inr rfl⟩
   ·have h2:(PU fr (BJ.dead.map fun t=>(t,.l5 t))).getD t AV=fr.getD t AV:=PV _ _ _ fun q hq he=>by
     obtain⟨t',ht',rfl⟩:=C0.1 hq
     simp only at he;subst he
     exact VX ht'
    have hW:t∉W:=by
     intro hw
     have:=J9.1 wr1 t hw
     simp only[nS,xZ,IQ] at this
     rcases this with h|h
     ·exact K7 h
     ·exact VX h
    rw[h1,h2,K8.out t hW]
    rcases hF0 t with nW|A05
    ·obtain⟨x1,x2⟩:=W2 NS hE2 _ nW
     obtain⟨_,x4⟩:=W2 (fun n hn=>(K8.nm n hn).2) (fun n hn=>(K8.nm n hn).1) _ nW
     exact⟨x2.trans x4.symm,.inl x1⟩
    ·rw[A05]
     exact⟨by show (if t∈BJ.dead then _ else _)=_;rw[AB VX];rfl,.inr rfl⟩
 refine⟨E2,⟨⟨?_,hst.pG.2⟩,⟨G1,AUS⟩, ?_⟩, ?_,fun p hp' => ?_⟩
 rotate_right
 ·have h:=J9.1 AXH p hp'
  simp only[G4,IQ] at h
  obtain⟨⟨⟨h1,h2⟩,h3⟩,h4⟩:=h
  have l6:Al L p.2.1:=by
   unfold AHB at h4
   split at h4
   ·rename_i e he;exact⟨e,he,by simpa using h4⟩
   ·cases h4
  have e1:=AMI (p.1-BJ.base) (by omega)
  rw[show BJ.base+(p.1-BJ.base)=p.1 by omega] at e1
  rw[e1,pI _ l6]
  unfold cY at h3
  split at h3
  ·rename_i i hi
   have:i=p.2.1:=by simpa using h3
   simp only[DY,hi,NE.nm,this]
  ·cases h3
 ·rw[hst.pG.1]
  congr 1
  apply T9
  intro i
  rw[FJ,FJ]
  by_cases hi:i<fr'.length
  ·have:=(wX i hi).1
   have hi2:i<(W9 BJ fr s).length:=by rw[AMM];exact hi
   simp only[List.getD,NB hi,NB hi2,jI] at this
   rw[NB hi,NB hi2]
   simp [this]
  ·rw[SO (by omega),SO (by omega)];rfl
 ·intro t
  by_cases ht:t<fr'.length
  ·exact (wX t ht).2
  ·left
   have:(W9 BJ fr s).getD t AV=AV:=by
    simp only[List.getD]
    rw[SO (by omega)];rfl
   rw[this];trivial
 ·refine⟨fun n hn=>⟨hE2 n hn,NS n hn⟩,fun t ht=> ?_,YR.AI _ _,by rw[AMM,K8.len],fun t ht=> ?_⟩
  ·have hd:t∉BJ.dead:=fun hd=>ht (by have:=J9.1 wr3 t hd;simpa using this)
   show (if t∈BJ.dead then _ else _)=_
   rw[AB hd];exact K8.ds t ht
  ·have hd:t∉BJ.dead:=fun hd=>ht (by have:=J9.1 wr3 t hd;simpa using this)
   have hl:t∉BJ.live.map (·.1):=fun hd=>ht (by have:=J9.1 wr2 t hd;simpa using this)
   unfold W9
   rw[PV _ _ _ (fun q hq he=>hl (by rw[<-he,←AUT];exact C0.2 ⟨q,hq,rfl⟩)),PV _ _ _ fun q hq he=>by
    obtain⟨t',ht',rfl⟩:=C0.1 hq
    simp only at he;subst he
    exact hd ht']
theorem sR {c:DN TB} {W:List Nat} {E:Env} {fr:List SV} {L:AJ} {E2:Env} {mX:List SV} {a:Act} {w:World}:∀ (pins:List (Nat×Nat×Nat)) (L2:AJ),St c E2 mX L2 a w->Ext W E fr L E2 mX L2->(∀ p∈pins,E2.nm p.1=E2.nm p.2.1)→
  St c E2 mX (VY pins L2) a w/\Ext W E fr L E2 mX (VY pins L2)
 | [],L2,h1,h2,_=>⟨h1,h2⟩
 |(k,o,i)::r,L2,h1,h2,hp=>by
  unfold VY
  split
  ·rename_i t xs cs k1 k2 k3
   obtain⟨G,hG⟩:=h1.hd
   obtain⟨r1,r2⟩:=vY hG k1 k2 k3 (hp _ (by simp:(k,o,i)∈(k,o,i)::r))
   refine sR r _ ⟨h1.pG,⟨G,r1⟩,fun t=> ?_⟩ ⟨fun n hn=>⟨(h2.nm n hn).1,r2 n (h2.nm n hn).2⟩,h2.ds,h2.pH.trans (YR.AI _ _),h2.len,h2.out⟩ (fun p hp' =>hp p (by simp [hp']))
   rcases h1.wf t with h|h
   ·exact .inl (W2 r2 (fun _ _=>rfl) _ h).1
   ·exact .inr h
  ·exact sR r _ h1 h2 (fun p hp' =>hp p (by simp [hp']))
theorem ACB {BJ:Z9} {W:List Nat} (hwr:AFK BJ W=true) {c:DN TB} {w0:World} {E:Env} {fr:List SV} {L:AJ} {G0:Nat->Prop} (hH0:AS c G0 w0 E L) (hF0:sE E L fr)
  {E' :Env} {fr' :List SV} {L' :AJ} {a:Act} {w:World} (hst:St c E' fr' L' a w) (K8:Ext W E fr L E' fr' L') {s:BJ.T} (hp:W8 BJ L fr' L' =some s):
  ∃ E2,St c E2 (W9 BJ fr s) (VY BJ.pins (AI L (J0 BJ s))) a w/\Ext W E fr L E2 (W9 BJ fr s) (VY BJ.pins (AI L (J0 BJ s))):=by
 obtain⟨E2,h1,h2,h3⟩:=AUQ hwr hH0 hF0 hst K8 hp
 exact⟨E2,sR _ _ h1 h2 h3⟩
end Go.V3
namespace Go.V3
open Go
variable {TB:Tb}
section
variable {P:Program}
def uP {α:Type} (W:List Nat) (c:DN TB) (E:Env) (fr:List SV) (L:AJ) (K:Exit->List SV->AJ->Option α) (r0:α):Exit->Act->World->Prop:=
 fun e a' w' =>∃ E' fr' L',St c E' fr' L' a' w' /\Ext W E fr L E' fr' L' /\K e fr' L' =some r0
theorem map_inl {α β:Type} {x:Option α} {r:α ⊕ β} (h:x.map Sum.inl=some r):∃ y,x=some y/\r= .inl y:=by
 cases x with
 |none=>cases h
 |some y=>simp only[ZT,AY] at h;exact⟨y,rfl,h.symm⟩
theorem map_inr {α β:Type} {x:Option β} {r:α ⊕ β} (h:x.map Sum.inr=some r):∃ y,x=some y/\r= .inr y:=by
 cases x with
 |none=>cases h
 |some y=>simp only[ZT,AY] at h;exact⟨y,rfl,h.symm⟩
theorem AHE (n i:Nat):¬isL (Array.replicate n false) i:=by
 unfold isL
 simp only[Array.getD_eq_getD_getElem?,Array.getElem?_replicate]
 split <;> simp
theorem AMN {α:Type} {cx:Cx} {id:Nat} {c:DN cx.tb} {w:World} {fr:List SV} {a:Act} {E:Env} {L:AJ} {K:AJ->Option α} {r:α} (h:AMH cx id fr L K=some r) (hs:St c E fr L a w):
  ∃ E' L',K L' =some r/\St c E' fr L' a w/\Ext [] E fr L E' fr L' :=by
 unfold AMH at h
 split at h
 ·exact⟨E,L,h,hs,.refl _ _ _ _⟩
 split at h
 rotate_left
 ·cases h
 rename_i s t bs _ _ _ i n hv hn
 split at h
 rotate_left
 ·cases h
 rename_i ty xss h' hl
 split at h
 rotate_left
 ·cases h
 rename_i DC
 split at h
 rotate_left
 ·cases h
 rename_i ys u hcl
 split at h
 rotate_left
 ·cases h
 rename_i hb
 have KZ:look L bs=some .KI:=by have:=CM DC 0 (by omega);simpa using this
 obtain⟨G,hG⟩:=hs.hd
 obtain⟨E1,c1,c2,c3,c4,c5,c6,c7⟩:=dE (AQ:=look L) (fun _ _ h=>h) hG hl hcl
 have SX:(E1.nm i).nil=false:=by
  rcases (c1.dp i _ _ _ c4).cs with ⟨_,hc,_⟩|⟨hn,_⟩
  ·rw[hc] at hb;simp at hb;omega
  ·exact hn
 obtain⟨E2,t1,t2,t3,arr,tt,t4,t5⟩:=c1.ASR c4 (c6 bs KZ) SX (by omega:n.toNat<ys.length)
 rw[<-BG] at t1
 have NS:∀ k,Al L k->E2.nm k=E.nm k/\Al (AI L (u++ [(bs,.dead),(i,.deep ty ys (some (n.toNat,bs))),(bs,.row ty (ys.getD n.toNat []))])) k:=by
  intro k hk
  refine⟨by rw[t2 k (fun he=>EF (he ▸ KZ) hk),c2], ?_⟩
  rw[BG]
  exact BM rfl k (BM rfl k (BM rfl k (c5 k hk)))
 obtain⟨d1,d2⟩:=aC hs.wf NS (t3.trans c3)
 exact⟨E2,_,h,⟨⟨by rw[d1];exact hs.pG.1,hs.pG.2⟩,⟨G,t1⟩,d2⟩,⟨NS,fun t _=>by rw[t3.trans c3],.AI _ _,rfl,fun _ _=>rfl⟩⟩
theorem PW {c:DN TB} {w:World} {fr:List SV} {a:Act}:∀ (rows:List (Nat×Ty)) {E:Env} {L:AJ},St c E fr L a w->∃ E',St c E' fr (GQ rows L) a w/\Ext [] E fr L E' fr (GQ rows L)
 | [],E,L,hs=>⟨E,hs,.refl _ _ _ _⟩
 |q::r,E,L,hs=>by
  have h1:∃ E',St c E' fr (zA L q.1) a w/\Ext [] E fr L E' fr (zA L q.1):=by
   unfold zA
   split
   ·rename_i t xss h hl
    split
    ·rename_i ys u hc
     obtain⟨G,hG⟩:=hs.hd
     obtain⟨E',k1,k2,k3,k4,k5,k6,k7⟩:=dE (AQ:=look L) (fun _ _ h=>h) hG hl hc
     obtain⟨d1,d2⟩:=aC hs.wf (fun n hn=>⟨k2 n,k5 n hn⟩) k3
     exact⟨E',⟨⟨by rw[d1];exact hs.pG.1,hs.pG.2⟩,⟨G,k1⟩,d2⟩,⟨fun n hn=>⟨k2 n,k5 n hn⟩,fun t _=>by rw[k3],.AI _ _,rfl,fun _ _=>rfl⟩⟩
    ·exact⟨E,hs,.refl _ _ _ _⟩
   ·exact⟨E,hs,.refl _ _ _ _⟩
  obtain⟨E1,h1,h2⟩:=h1
  obtain⟨E2,h3,h4⟩:=PW r h1
  exact⟨E2,h3,h2.trans h4⟩
set_option maxHeartbeats 1000000 in
theorem ACC {cx:Cx} (hcx:cx.Ok P):∀ (c:Code) (α:Type) (KN:Nat) (K:Exit->List SV->AJ->Option α) (fr:List SV) (L:AJ) (r0:α),rk P cx c α KN K fr L=some r0→
  ∀ (cf:DN cx.tb) (E:Env) (a:Act) (w:World),St cf E fr L a w->c.wp P (uP (writes c) cf E fr L K r0) a w:=by
 intro c
 induction c with
 |skip=>exact fun α KN K fr L r0 h cf E a w hs=>wp_skip ⟨E,fr,L,hs,.refl _ _ _ _,h⟩
 |label l=>exact fun α KN K fr L r0 h cf E a w hs=>wp_label ⟨E,fr,L,hs,.refl _ _ _ _,h⟩
 |ret=>exact fun α KN K fr L r0 h cf E a w hs=>wp_ret ⟨E,fr,L,hs,.refl _ _ _ _,h⟩
 |exit id=>exact fun α KN K fr L r0 h cf E a w hs=>wp_exit ⟨E,fr,L,hs,.refl _ _ _ _,h⟩
 |region id ops draw=>
  intro α KN K fr L r0 h cf E a w hs
  have hW:∀ o∈ops.toList,∀ d,o.dst=some d->d∈writes (.region id ops draw):=by
   intro o ho d hd
   exact List.mem_filterMap.2 ⟨o,ho,hd⟩
  simp only[rk] at h
  obtain⟨E1,L1,h,hs,hx0⟩:=AMN h hs
  have hx0:Ext (writes (.region id ops draw)) E fr L E1 fr L1:=hx0.mono (fun _ h=>by cases h)
  refine wp_mono (Q:=uP (writes (.region id ops draw)) cf E1 fr L1 K r0) ?_ (fun e a' w' ⟨E',fr',L',k1,k2,k3⟩=>⟨E',fr',L',k1,hx0.trans k2,k3⟩)
  clear hx0
  generalize E1=E at hs ⊢
  generalize L1=L at hs h ⊢
  split at h
  ·split at h
   rotate_left
   ·cases h
   rename_i hck
   simp only[G4] at hck
   refine wp_region_any hck.2 ?_
   obtain⟨s',fs,r1,r2,r3,_⟩:=AC2 ops.toList 0 [] fr L (by simp) h
   have hs' :St cf E fr L a { w with drawn:=w.drawn+1 }:=⟨hs.pG,(by
    obtain⟨G,hG⟩:=hs.hd
    exact⟨G,hG.world rfl ⟨rfl,rfl,rfl⟩⟩),hs.wf⟩
   have:=AUM (P:=P) (Q:=uP (writes (.region id ops true)) cf E fr L K r0) hcx hck.1 (W:=writes (.region id ops true)) (fun i o ho d hd=>hW o (by rw[<-gM] at ho;exact YL ho) d hd) (fr0:=fr) (L0:=L) (E0:=E) (s' :=s')
    (fun E' a' w' h1 h2=>⟨E',s'.1,s'.2,h1,h2,r2⟩) ops.size (List.range' 0 ops.toList.length) (Array.replicate ops.size false) fs (fr,L) E a _ (by simp) ⟨by simp,fun i=> ?_, ?_, ?_⟩ r1 r3 hs' (.refl _ _ _ _)
   ·exact this
   ·simp only[List.mem_range'_1,Nat.zero_le,true_and,I7,Array.length_toList]
    constructor
    ·intro hi;exact⟨hi,AHE _ _⟩
    ·exact fun hi=>hi.1
   ·exact List.pairwise_lt_range'
   ·intro i o _ hl
    exact absurd hl (AHE _ _)
  ·refine wp_region ?_
   have:=ABZ hcx (ops:=ops) (Q:=uP (writes (.region id ops false)) cf E fr L K r0) (W:=writes (.region id ops false)) (c:=cf) (fr0:=fr) (L0:=L) (E0:=E)
    (K:=fun fr' L' =>K .normal fr' L') (r0:=r0) (fun E' fr' L' a' w' h1 h2 h3=>⟨E',fr',L',h1,h2,h3⟩) ops.toList 0 (by simp) hW E fr L a w hs (.refl _ _ _ _) h
   rw[List.range_eq_range']
   simpa using this
 |seq x y ihx ihy=>
  intro α KN K fr L r0 h cf E a w hs
  refine wp_seq ?_
  have hx:∀ t,t∈writes x->t∈writes (.seq x y):=fun t ht=>EV.2 (.inl ht)
  have hy:∀ t,t∈writes y->t∈writes (.seq x y):=fun t ht=>EV.2 (.inr ht)
  simp only[rk] at h
  split at h
  ·refine wp_mono (ihx α KN _ fr L r0 h cf E a w hs) ?_
   rintro e a' w' ⟨E',fr',L',h1,h2,h3⟩
   cases e with
   |normal=>
    refine wp_mono (ihy α KN K fr' L' r0 h3 cf E' a' w' h1) ?_
    rintro e a'' w'' ⟨E'',AJV,L'',k1,k2,k3⟩
    exact⟨E'',AJV,L'',k1,(h2.mono hx).trans (k2.mono hy),k3⟩
   |exit id=>exact⟨E',fr',L',h1,h2.mono hx,h3⟩
   |goto id=>exact⟨E',fr',L',h1,h2.mono hx,h3⟩
   |ret=>exact⟨E',fr',L',h1,h2.mono hx,h3⟩
   |panic ch=>exact⟨E',fr',L',h1,h2.mono hx,h3⟩
   |outgrown=>exact⟨E',fr',L',h1,h2.mono hx,h3⟩
  ·rename_i BJ _
   split at h
   rotate_left
   ·cases h
   rename_i hwr
   rw[AAQ] at h
   obtain⟨q,hq,hk⟩:=h
   obtain⟨Ec,hsc,hxc⟩:=PW BJ.rows hs
   obtain⟨G0,hG0⟩:=hsc.hd
   refine wp_mono (ihx _ KN _ fr _ q hq cf Ec a w hsc) ?_
   rintro e a' w' ⟨E',fr',L',h1,h2,h3⟩
   have other:∀ e',(K e' fr' L').map Sum.inr=some q->uP (writes (.seq x y)) cf E fr L K r0 e' a' w' :=by
    intro e' hm
    obtain⟨b,hb,rfl⟩:=map_inr hm
    simp only[AY] at hk
    subst hk
    exact⟨E',fr',L',h1,(hxc.mono (fun _ h=>by cases h)).trans (h2.mono hx),hb⟩
   cases e with
   |normal=>
    obtain⟨s,hp,rfl⟩:=map_inl h3
    obtain⟨Ed,hsd,hxd⟩:=PW BJ.rows h1
    obtain⟨E2,g1,g2⟩:=ACB hwr hG0 hsc.wf hsd (h2.trans (hxd.mono (fun _ h=>by cases h))) hp
    refine wp_mono (ihy α KN K _ _ r0 hk cf E2 a' w' g1) ?_
    rintro e a'' w'' ⟨E'',AJV,L'',k1,k2,k3⟩
    exact⟨E'',AJV,L'',k1,(hxc.mono (fun _ h=>by cases h)).trans ((g2.mono hx).trans (k2.mono hy)),k3⟩
   |exit id=>exact other _ h3
   |goto id=>exact other _ h3
   |ret=>exact other _ h3
   |panic ch=>exact other _ h3
   |outgrown=>exact other _ h3
 |cond c x y ihx ihy=>
  intro α KN K fr L r0 h cf E a w hs
  have hx:∀ t,t∈writes x->t∈writes (.cond c x y):=fun t ht=>EV.2 (.inl ht)
  have hy:∀ t,t∈writes y->t∈writes (.cond c x y):=fun t ht=>EV.2 (.inr ht)
  have kx:rk P cx x α KN K fr L=some r0->x.wp P (uP (writes (.cond c x y)) cf E fr L K r0) a w:=fun h=>
   wp_mono (ihx α KN K fr L r0 h cf E a w hs) fun e a' w' ⟨E',fr',L',h1,h2,h3⟩=>⟨E',fr',L',h1,h2.mono hx,h3⟩
  have ky:rk P cx y α KN K fr L=some r0->y.wp P (uP (writes (.cond c x y)) cf E fr L K r0) a w:=fun h=>
   wp_mono (ihy α KN K fr L r0 h cf E a w hs) fun e a' w' ⟨E',fr',L',h1,h2,h3⟩=>⟨E',fr',L',h1,h2.mono hy,h3⟩
  have he:=S_ hs.pG c
  simp only[rk] at h
  split at h
  ·rename_i b hb
   rw[hb] at he
   split at h
   ·exact wp_cond_true he (kx h)
   ·exact wp_cond_false he (ky h)
  ·rename_i b hb
   rw[hb] at he
   split at h
   ·rename_i hbt;subst hbt;exact wp_cond_true he (kx h)
   ·rename_i hbt
    have:b=false:=by simpa using hbt
    subst this;exact wp_cond_false he (ky h)
  ·rename_i p d hb
   rw[hb] at he
   by_cases hp:p
   ·simp only[hp,GA] at h;exact wp_cond_true (by rw[he];simp [SV.den,hp]) (kx h)
   ·simp only[hp,I9] at h;exact wp_cond_false (by rw[he];simp [SV.den,hp]) (ky h)
  ·cases h
 |block id c ih=>
  intro α KN K fr L r0 h cf E a w hs
  refine wp_block ?_
  simp only[rk] at h
  refine wp_mono (ih α id _ fr L r0 h cf E a w hs) ?_
  rintro e a' w' ⟨E',fr',L',h1,h2,h3⟩
  cases e with
  |exit i=>
   simp only[Exit.inBlock]
   simp only at h3
   split at h3
   ·rename_i hi;rw[AA hi];exact⟨E',fr',L',h1,h2,h3⟩
   ·rename_i hi;rw[AB hi];exact⟨E',fr',L',h1,h2,h3⟩
  |normal=>exact⟨E',fr',L',h1,h2,h3⟩
  |goto id=>exact⟨E',fr',L',h1,h2,h3⟩
  |ret=>exact⟨E',fr',L',h1,h2,h3⟩
  |panic ch=>exact⟨E',fr',L',h1,h2,h3⟩
  |outgrown=>exact⟨E',fr',L',h1,h2,h3⟩
 |scope c ih=>
  intro α KN K fr L r0 h cf E a w hs
  refine wp_scope_straight ?_
  refine wp_mono (ih α KN _ fr L r0 h cf E a w hs) ?_
  rintro e a' w' ⟨E',fr',L',h1,h2,h3⟩
  cases e with
  |goto id=>cases h3
  |exit i=>exact⟨E',fr',L',h1,h2,h3⟩
  |normal=>exact⟨E',fr',L',h1,h2,h3⟩
  |ret=>exact⟨E',fr',L',h1,h2,h3⟩
  |panic ch=>exact⟨E',fr',L',h1,h2,h3⟩
  |outgrown=>exact⟨E',fr',L',h1,h2,h3⟩
 |loop c ih=>
  intro α KN K fr L r0 h cf E a w hs
  simp only[rk] at h
  split at h
  ·cases h
  rename_i BJ _
  split at h
  rotate_left
  ·cases h
  rename_i hwr
  split at h
  ·cases h
  rename_i s0 hp0
  obtain⟨n,hn⟩:=PT.1 h
  refine wp_loop_rounds n ?_
  obtain⟨Ec,hsc,AXK⟩:=PW BJ.rows hs
  have hxc:Ext (writes c) E fr L Ec fr (GQ BJ.rows L):=AXK.mono (fun _ h=>by cases h)
  clear AXK
  generalize GQ BJ.rows L=Lc at h hn hp0 hsc hxc
  obtain⟨G0,hG0⟩:=hsc.hd
  obtain⟨E1,g1,g2⟩:=ACB hwr hG0 hsc.wf hsc (.refl (writes c) Ec fr Lc) hp0
  have nW:=hsc.wf
  have hH0:∃ w0 G0,AS cf G0 w0 Ec Lc:=⟨w,G0,hG0⟩
  clear h hp0 hs hsc hG0 G0
  obtain⟨w0,G0,hG0⟩:=hH0
  induction n generalizing s0 E1 a w with
  |zero=>cases hn
  |succ n ihn=>
   rw[rounds_succ]
   rw[QI] at hn
   have fin:∀ x,rk P cx c (BJ.T ⊕ α) KN (fun e fr' L' =>match e with
     | .normal=>(W8 BJ Lc fr' (GQ BJ.rows L')).map Sum.inl
     |e=>(K e fr' L').map Sum.inr) (W9 BJ fr s0) (VY BJ.pins (AI Lc (J0 BJ s0)))=some x->(∀ s',x= .inl s' ->QI (fun s=>rk P cx c (BJ.T ⊕ α) KN (fun e fr' L' =>match e with
     | .normal=>(W8 BJ Lc fr' (GQ BJ.rows L')).map Sum.inl
     |e=>(K e fr' L').map Sum.inr) (W9 BJ fr s) (VY BJ.pins (AI Lc (J0 BJ s)))) n s' =some r0)->(∀ b,x= .inr b->b=r0)->c.wp P (Exit.then (Code.rounds P c (uP (writes (.loop c)) cf E fr L K r0) n) (uP (writes (.loop c)) cf E fr L K r0)) a w:=by
    intro x hx hl hr
    refine wp_mono (ih _ KN _ _ _ x hx cf E1 a w g1) ?_
    rintro e a' w' ⟨E',fr',L',h1,h2,h3⟩
    have other:∀ e',(K e' fr' L').map Sum.inr=some x->uP (writes (.loop c)) cf E fr L K r0 e' a' w' :=by
     intro e' hm
     obtain⟨b,hb,hxb⟩:=map_inr hm
     rw[hr b hxb] at hb
     exact⟨E',fr',L',h1,hxc.trans (g2.trans h2),hb⟩
    cases e with
    |normal=>
     obtain⟨s',hp,hxs⟩:=map_inl h3
     obtain⟨Ed,hsd,hxd⟩:=PW BJ.rows h1
     obtain⟨E2,k1,k2⟩:=ACB hwr hG0 nW hsd (g2.trans (h2.trans (hxd.mono (fun _ h=>by cases h)))) hp
     exact ihn a' w' s' (hl s' hxs) E2 k1 k2
    |goto id=>exact other _ h3
    |exit i=>exact other _ h3
    |ret=>exact other _ h3
    |panic ch=>exact other _ h3
    |outgrown=>exact other _ h3
   split at hn
   ·cases hn
   ·rename_i s' hf
    exact fin _ hf (fun s'' he=>by cases he;exact hn) (fun b he=>by cases he)
   ·rename_i b hf
    simp only[AY] at hn
    exact fin _ hf (fun s'' he=>by cases he) (fun b' he=>by cases he;exact hn)
 |_=>exact fun α KN K fr L r0 h=>(by simp only[rk] at h;cases h)
def AMO (P:Program) (fr:List SV) (L:AJ):ResultVar->Option SV
 | .tmp t=>(match wP (fr.getD t AV) with
  |true=>none
  |false=>some (fr.getD t AV))
 | .cell t ty=>(match fr.getD t AV,P.info? ty,P.underlying ty with
  | .loc i off,some q,some _=>if off=0 then (match look L i with
   |some (.box cs)=>(match HY P ty with
    |true=>if q.size=cs.length then some (.agg cs) else none
    |false=>(match cs with
     | [v]=>some v
     |_=>none))
   |_=>none) else none
  |_,_,_=>none)
def sS (P:Program) (fr:List SV) (L:AJ):List ResultVar->Option (List SV)
 | []=>some []
 |r::rs=>match AMO P fr L r with
  |some v=>(match sS P fr L rs with
   |some vs=>some (v::vs)
   |none=>none)
  |none=>none
def gD:List CT->List Nat->List SV
 |d::r,i::is=>(match d.ptr with
  |true=> .loc i 0
  |false=> .MB i)::gD r is
 |_,_=>[]
def AQU (P:Program) (rvs:List ResultVar) (cl:List (Nat×Ty)) (pins:List (Nat×Nat×Nat×Nat)) (ios:List Nat) (os:List CT) (cs:List CT):Exit->List SV->AJ->Option (HT cs):=fun e fr L0=>
 match (match e with
  | .normal=>true
  | .ret=>true
  |_=>false) with
 |false=>none
 |true=>match sS P fr (GQ cl L0) rvs with
  |none=>none
  |some vs=>match IW .dS (look (GQ cl L0)) cs (vs++gD os ios) with
   |none=>none
   |some a=>match okA a && pins.all (fun q=>cY a.nes[q.1]? q.2.2.1) with
    |true=>some a.x
    |false=>none
def zD (ps:List CT) (x:HT ps) (N:Nat):AJ:=AI (List.replicate (cnts ps+N) (0,.KI)) (D8 ps x 0)
def wY (ps:List CT) (mI:List (Nat×Nat)) (x:HT ps) (N:Nat):AJ:=AI (zD ps x N) (mI.map fun q=>(q.1,.ptr q.2))
def shOk (fi:FnI) (N:Nat):Bool:=fi.mI.all (fun q=>decide (cnts fi.ps<=q.1) && decide (q.1<cnts fi.ps+N) && decide (q.2<cnts fi.ps)) && decide (fi.mI.map (·.1)).Nodup && fi.sh.all fun s=>match s with
 | .pp n=>(fi.mI.map (·.1)).contains n
 |_=>true
def ACD (ps:List CT) (sh:List Sh) (x:HT ps) (n:Nat):List SV:=foldA sh (outSVs ps x 0)++List.replicate (n-(foldA sh (outSVs ps x 0)).length) AV
theorem AFN {rvs:List ResultVar} {c:DN TB} {E:Env} {fr:List SV} {L:AJ} {a:Act} {w:World} (hs:St c E fr L a w):∀ (rvs:List ResultVar) (vs:List SV),sS P fr L rvs=some vs→
  vs.length=rvs.length/\KJ E L vs/\(rvs.mapM (m:=Sem) fun
   | .tmp t=>pure (a.tmps.getD t undef)
   | .cell x t=>do loadVar t (<-asAddr (a.tmps.getD x undef))).run P w= .ok (AK E vs) w:=by
 have AQT:∀ t,a.tmps.getD t undef=(fr.getD t AV).den E:=by
  intro t
  rw[hs.pG.1]
  have:=vO (E:=E) fr t
  simpa using this
 intro rvs
 induction rvs with
 |nil=>intro vs h;simp only[sS,AY] at h;subst h;exact⟨rfl,trivial,rfl⟩
 |cons r rs ih=>
  intro vs h
  simp only[sS] at h
  split at h
  rotate_left
  ·cases h
  rename_i v hv
  split at h
  rotate_left
  ·cases h
  rename_i vs' A06
  simp only[AY] at h
  subst h
  obtain⟨i1,i2,i3⟩:=ih vs' A06
  have APZ:v.wf E L/\((fun r:ResultVar=>(match r with
   | .tmp t=>pure (a.tmps.getD t undef)
   | .cell x t=>do loadVar t (<-asAddr (a.tmps.getD x undef)):Sem Value)) r).run P w= .ok (v.den E) w:=by
   cases r with
   |tmp t=>
    simp only[AMO] at hv
    split at hv
    ·cases hv
    ·rename_i hu
     simp only[AY] at hv
     subst hv
     refine⟨?_,by simp only[AQT];rfl⟩
     rcases hs.wf t with h|h
     ·exact h
     ·rw[h] at hu;simp [wP] at hu
   |cell x t=>
    simp only[AMO] at hv
    split at hv
    rotate_left
    ·cases hv
    rename_i i off q d hx hq hd
    split at hv
    rotate_left
    ·cases hv
    rename_i ho
    subst ho
    split at hv
    rotate_left
    ·cases hv
    rename_i cs hl
    obtain⟨G,hG⟩:=hs.hd
    obtain⟨h1,h2,h3,h4,⟨ty,h5⟩,h6⟩:=hG.KY i _ hl
    have yS:(asAddr (a.tmps.getD x undef)).run P w= .ok ⟨(E.nm i).B5,(E.nm i).pp.pre.length,none⟩ w:=by
     rw[AQT,hx]
     simp [SV.den,asAddr,h2]
    split at hv
    ·rename_i ha
     split at hv
     rotate_left
     ·cases hv
     rename_i YO
     simp only[AY] at hv
     subst hv
     refine⟨h6, ?_⟩
     have:=run_loadCells (P:=P) w h5 (off:=(E.nm i).pp.pre.length) (n:=q.size) (by rw[Nm.rQ,AT];omega)
     have hcl:=Nm.wG (E.nm i) (l:=AK E cs) (off:=0) (n:=q.size) (by rw[AT];omega)
     rw[L3] at hcl
     rw[hcl] at this
     simp only[Sem.run_bind,yS,Result.andThen,loadVar,NK w hd,ha,GA,sizeOf,typeInfo]
     simp [hq,this,SV.den]
     unfold BH
     rw[List.drop_zero,List.take_of_length_le (by simp [AT];omega)]
    ·rename_i ha
     split at hv
     rotate_left
     ·cases hv
     rename_i u
     simp only[AY] at hv
     subst hv
     refine⟨h6.1, ?_⟩
     have hg:=Nm.yP (E.nm i) (l:=AK E [u]) (k:=0) (by simp [AK])
     rw[L3] at hg
     have:w.cell? ⟨(E.nm i).B5,(E.nm i).pp.pre.length,none⟩=some (u.den E):=by
      simp only[World.cell?,h5,hg]
      simp [AK]
     simp only[Sem.run_bind,yS,Result.andThen,loadVar,NK w hd,ha]
     simp [this]
  refine⟨by simp [i1],⟨APZ.1,i2⟩, ?_⟩
  rw[List.mapM_cons,Sem.run_bind]
  have h1:=APZ.2
  simp only at h1
  rw[h1]
  simp only[Result.andThen,Sem.run_bind,i3,Sem.run_pure]
  rfl
theorem kC:∀ (zas bs:List CT) (x:HT (zas++bs)) (n:Nat),outSVs (zas++bs) x n=outSVs zas (HT.left zas bs x) n++outSVs bs (HT.right zas bs x) (n+cnts zas)
 | [],bs,x,n=>rfl
 |d::r,bs,x,n=>by
  have hh:HT.hd d r (HT.left (d::r) bs x)=HT.hd d (r++bs) x:=by cases r <;> rfl
  have ht:HT.tl d r (HT.left (d::r) bs x)=HT.left r bs (HT.tl d (r++bs) x):=by cases r <;> rfl
  have k1:outSVs (d::r++bs) x n=R2 d (HT.hd d (r++bs) x) n::outSVs (r++bs) (HT.tl d (r++bs) x) (n+d.cnt):=rfl
  have k2:outSVs (d::r) (HT.left (d::r) bs x) n=R2 d (HT.hd d r (HT.left (d::r) bs x)) n::outSVs r (HT.tl d r (HT.left (d::r) bs x)) (n+d.cnt):=rfl
  rw[k1,k2,hh,ht,kC r bs]
  simp only[cnts,nQ,NI]
  rfl
theorem wZ:∀ (os:List CT) (is:List Nat) (v:SV),v∈gD os is->∃ i∈is,v= .loc i 0\/v= .MB i
 | [],_,v,h=>by simp [gD] at h
 |_::_,[],v,h=>by simp [gD] at h
 |d::r,i::is,v,h=>by
  simp only[gD,F7] at h
  rcases h with rfl|h
  ·refine⟨i,by simp, ?_⟩
   cases d.ptr with
   |true=>exact .inl rfl
   |false=>exact .inr rfl
  ·obtain⟨k,h1,h2⟩:=wZ r is v h
   exact⟨k,by simp [h1],h2⟩
theorem aI:∀ (cs:List CT) (a b:Nat),K4 cs (a+b)=(K4 cs b).map (fun k=>a+k)
 | [],_,_=>rfl
 |e::s,a,b=>by
  simp only[K4]
  rw[NI,aI s]
  simp
theorem AHF {md:PM} {AQ:Nat->Option AW} {E:Env}:∀ (os:List CT) (is:List Nat) (a:K3 (HT os)),IW md AQ os (gD os is)=some a->os.all okO=true->os.length=is.length->(K4 os 0).map (DY E a.nes)=is.map E.nm
 | [],[],a,_,_,_=>rfl
 | [],_::_,a,_,_,h=>by simp at h
 |_::_,[],a,_,_,h=>by simp at h
 |d::r,i::is,a,h,RL,hl=>by
  simp only[List.all_cons,G4] at RL
  obtain⟨v,vs',a1,a2,he,h1,h2,rfl⟩:=PO h
  simp only[gD,jH] at he
  obtain⟨rfl,rfl⟩:=he
  have ih:=AHF (E:=E) r is a2 h2 RL.2 (by simpa using hl)
  have l1:=QB h1
  obtain⟨k1,k2⟩:=K2 E a1.nes a2.nes
  have hd:DY E a1.nes 0=E.nm i/\0<a1.nes.length:=by
   obtain⟨gR,u,nes,x,p1,p2,p3,p4,p5⟩:=J6 h1
   rcases p3 with ⟨hp,j,hj,hl,e1,e2⟩|⟨hp,hag,e1,e2⟩
   ·rw[hp] at hj
    simp only[SV.loc.injEq,and_true] at hj
    subst hj
    rw[e1]
    exact⟨rfl,by simp⟩
   ·have hk:=RL.1
    simp only[okO,hp,Bool.false_or,G4,RM] at hk
    obtain⟨⟨ho,A07⟩,O4⟩:=hk
    rcases hag with ⟨hx,_⟩|⟨_,rfl⟩
    ·rw[A07] at hx;cases hx
    rw[hp] at p1
    rw[e1]
    rw[AA ho] at p1
    clear h h1 h2 ih k1 k2 l1 p2 p4 p5 e1 e2
    revert x
    cases ht:d.t with
    |slice b=>
     intro x p1
     simp only[FA,MD] at p1
     revert p1
     split
     ·rename_i q hq
      intro p1
      simp only[AY,C3] at p1
      obtain⟨-, -,rfl, -⟩:=p1
      revert hq
      split
      ·split
       ·intro hq;cases hq
       ·intro hq;cases hq
      ·split
       ·split
        ·intro hq;cases hq
        ·intro hq
         simp only[AY,C3] at hq
         obtain⟨-,rfl, -⟩:=hq
         exact⟨rfl,by simp⟩
       ·intro hq;cases hq
      ·split
       ·rename_i hb
        rw[ht,←hb] at O4
        simp [Ty.vU,Ty.o9] at O4
       ·intro hq;cases hq
      ·split
       ·rename_i hb
        rw[ht,←hb] at O4
        simp [Ty.vU,Ty.o9] at O4
       ·intro hq;cases hq
      ·intro hq;cases hq
     ·intro p1;cases p1
    |_=>rw[ht] at O4;simp [Ty.vU] at O4
  simp only[K4,K0]
  have hs:=aI r d.cnt 0
  rw[L3] at hs
  rw[I7,hs,S8,←ih]
  show DY E (a1.nes++a2.nes) 0::_=_
  rw[k1 0 hd.2,hd.1]
  congr 1
  apply T7
  intro k _
  show DY E (a1.nes++a2.nes) (d.cnt+k)=_
  rw[<-l1];exact k2 k
theorem AMP {md:PM} {AQ:Nat->Option AW} {E:Env}:∀ (zas os:List CT) (vs:List SV) (is:List Nat) (a:K3 (HT (zas++os))),IW md AQ (zas++os) (vs++gD os is)=some a->vs.length=zas.length->os.all okO=true->os.length=is.length→
  (K4 os (cnts zas)).map (DY E a.nes)=is.map E.nm
 | [],os,[],is,a,h,_,RL,hl=>AHF os is a h RL hl
 | [],_,_::_,_,_,_,h,_,_=>by simp at h
 |_::_,_,[],_,_,_,h,_,_=>by simp at h
 |d::r,os,v0::vs,is,a,h,hv,RL,hl=>by
  obtain⟨v,vs',a1,a2,he,h1,h2,rfl⟩:=PO (c:=d) (r:=r++os) h
  simp only[nQ,jH] at he
  obtain⟨rfl,rfl⟩:=he
  have ih:=AMP (E:=E) r os vs is a2 h2 (by simpa using hv) RL hl
  have l1:=QB h1
  obtain⟨k1,k2⟩:=K2 E a1.nes a2.nes
  rw[cnts,aI,S8,←ih]
  apply T7
  intro k _
  show DY E (a1.nes++a2.nes) (d.cnt+k)=_
  rw[<-l1];exact k2 k
theorem calleeRuns_of {f : FuncId} {fn : Func} {c : Code} (hf : P.funcs[f]? = some fn) (hb : fn.body = some c) (hn : (fn.name == "runtime.NumGoroutine") = false) : CalleeRuns P f := by
 intro args w
 have hn' : ¬ fn.name = "runtime.NumGoroutine" := by simpa using hn
 simp [callFunc,hf,hn',hb]
theorem AS.AHG {TB:Tb} {c:DN TB} {G:Nat->Prop} {w:World} {ms:Nat->Nm}:∀ (mI:List (Nat×Nat)) {L:AJ},AS c G w (G7 ms) L->(∀ q∈mI,look L q.1=some .KI/\Al L q.2/\c.Old (ms q.1).B5∧
   ∃ arr ty fz,c.w0.heap[(ms q.1).B5]? =some (.cells arr ty fz)/\arr[(ms q.1).off]? =some (.pointer (some ⟨(ms q.2).B5,(ms q.2).off,none⟩)))->(mI.map (·.1)).Nodup→
  AS c G w (G7 ms) (AI L (mI.map fun q=>(q.1,.ptr q.2)))/\(∀ n,Al L n->Al (AI L (mI.map fun q=>(q.1,.ptr q.2))) n)/\∀ q∈mI,Al (AI L (mI.map fun q=>(q.1,.ptr q.2))) q.1
 | [],L,h,_,_=>⟨h,fun _ hn=>hn,fun q hq=>by cases hq⟩
 |p::r,L,h,hp,hn=>by
  obtain⟨p1,p2,p3,p4⟩:=hp p (by simp)
  simp only[K0,T_] at hn
  have C7:=AP p1
  have h1:=h.change (i:=p.1) (e' := .ptr p.2) (m:=(G7 ms).nm p.1) (w' :=w) C7 (.refl _) (ED _) (fun _=>rfl) rfl (fun _ _ _=>rfl) (fun b hb=>by cases hb) (fun _ _ _ _ _ _ hb=>by cases hb)
   (fun _=>by rw[Z5];exact⟨p3,p4,BM rfl _ p2⟩)
  rw[Z5] at h1
  obtain⟨r1,r2,r3⟩:=AS.AHG r h1 (fun q hq=>by
   obtain⟨q1,q2,q3,q4⟩:=hp q (by simp [hq])
   refine⟨?_,BM rfl _ q2,q3,q4⟩
   rw[AZ C7,AB]
   ·exact q1
   ·intro he
    exact hn.1 (he ▸ C0.2 ⟨q,hq,rfl⟩)) hn.2
  refine⟨r1,fun n hn=>r2 n (BM rfl n hn),fun q hq=> ?_⟩
  rcases F7.1 hq with rfl|hq
  ·exact r2 _ ⟨.ptr q.2,by rw[AZ C7,AA rfl],rfl⟩
  ·exact r3 q hq
set_option maxHeartbeats 1000000 in
theorem callsV_of_rk {cx:Cx} (hcx:cx.Ok P) {f:FuncId} {fn:Func} {c:Code} {n N:Nat} {rvs:List ResultVar} {fi:FnI}
  (hf : P.funcs[f]? = some fn) (hb : fn.body = some c) (hnm : (fn.name == "runtime.NumGoroutine") = false) (hn : fn.ntmps = n) (hres : fn.results = rvs.toArray) (hps : ∀ x, (foldA fi.sh (outSVs fi.ps x 0)).length ≤ n)
  (hst:(rvs.length=fi.rs.length/\fi.os.all okO=true/\fi.os.length=fi.bk.length/\(fi.bk.all fun i=>decide (i<cnts fi.ps))=true/\(fi.pin.all fun q=>decide (q.2.2.1<cnts fi.ps))=true/\shOk fi N=true))
  (hrk:∀ x,fi.F x=rk P cx c (HT (fi.rs++fi.os)) 1000000 (AQU P rvs fi.cl fi.pin fi.bk fi.os (fi.rs++fi.os)) (ACD fi.ps fi.sh x n) (wY fi.ps fi.mI x N)):CallsV P cx.tb f fi:=by
 refine⟨calleeRuns_of hf hb hnm,fun x r hr w G ms hG AQ3 H8 ALK A08=> ?_⟩
 rw[hrk] at hr
 refine calls_of_wp hf hb ?_
 let cf:DN cx.tb:=⟨w,fun b=>b∈B6 fi.ps x ms,G⟩
 have h0:AS cf G w (G7 ms) (List.replicate (cnts fi.ps+N) (0,.KI)):=by
  refine⟨.refl _,ED _,fun _ _=>rfl,hG,fun _ h=>h,fun _ h=> .inl h, ?_, ?_, ?_,ALK⟩
  ·intro k e he
   unfold look at he
   rw[qQ] at he
   split at he
   ·rename_i q hq
    split at hq
    ·simp only[AY] at hq;subst hq
     simp only[AY] at he;subst he;trivial
    ·cases hq
   ·cases he
  ·intro k t xss q he
   unfold look at he
   rw[qQ] at he
   split at he
   ·rename_i q hq
    split at hq
    ·simp only[AY] at hq;subst hq
     simp only[AY] at he;cases he
    ·cases hq
   ·cases he
  ·intro k j e f' b _ he _ hb
   unfold look at he
   rw[qQ] at he
   split at he
   ·rename_i q hq
    split at hq
    ·simp only[AY] at hq;subst hq
     simp only[AY] at he;subst he;rcases hb with hb|⟨hb,_⟩|⟨hb,_⟩ <;> cases hb
    ·cases hq
   ·cases he
 have A09:∀ j,j<cnts fi.ps->look (List.replicate (cnts fi.ps+N) (0,AW.KI)) (0+j)=some .KI:=by
  intro j hj
  unfold look
  rw[qQ,AA (by omega)]
 have VK:∀ b∈B6 fi.ps x ms,H5 (G7 ms) (List.replicate (cnts fi.ps+N) (0,AW.KI)) b:=by
  intro b _ k e he hb
  unfold look at he
  rw[qQ] at he
  split at he
  ·rename_i q hq
   split at hq
   ·simp only[AY] at hq;subst hq
    simp only[AY] at he;subst he;rcases hb with hb|⟨hb,_⟩|⟨hb,_⟩ <;> cases hb
   ·cases hq
  ·cases he
 obtain⟨a1,a2,a3⟩:=h0.jR fi.ps x A09 AQ3 H8 VK
 have eE:(G7 ms).put 0 (cnts fi.ps) ms=G7 ms:=by
  refine KL (fun k=> ?_) rfl (fun k=> ?_) <;> simp only[Env.put,G7] <;> split <;> simp
 rw[eE] at a1 a3
 have hL:zD fi.ps x N=AI (List.replicate (cnts fi.ps+N) (0,.KI)) (D8 fi.ps x 0):=rfl
 rw[<-hL] at a1 a2 a3
 have tW:=hst.2.2.2.2.2
 simp only[shOk,G4,IQ] at tW
 obtain⟨⟨sh1,sh2⟩,sh3⟩:=tW
 have hpt:∀ q∈fi.mI,look (zD fi.ps x N) q.1=some .KI/\Al (zD fi.ps x N) q.2/\cf.Old (ms q.1).B5∧
   ∃ arr ty fz,cf.w0.heap[(ms q.1).B5]? =some (.cells arr ty fz)/\arr[(ms q.1).off]? =some (.pointer (some ⟨(ms q.2).B5,(ms q.2).off,none⟩)):=by
  intro q hq
  have h1:=J9.1 sh1 q hq
  simp only[G4,IQ] at h1
  obtain⟨p1,p2,p3⟩:=A08 q hq
  refine⟨?_,(a2 q.2).1 ⟨Nat.zero_le _,by omega⟩,⟨p1,p2⟩,p3⟩
  rw[(a2 q.1).2 (by omega)]
  unfold look
  rw[qQ,AA (by omega)]
 obtain⟨b1,b2,b3⟩:=AS.AHG fi.mI a1 hpt sh2
 have a1:=b1
 have a3:=jT fi.sh _ (fun n hn=>by
  have:=J9.1 sh3 _ hn
  simp only[List.contains_iff_mem] at this
  obtain⟨q,hq,rfl⟩:=C0.1 this
  exact b3 q hq) (KK b2 (fun _ _=>rfl) _ a3).1
 have a2:∀ k,0<=k/\k<0+cnts fi.ps->Al (wY fi.ps fi.mI x N) k:=fun k hk=>b2 k ((a2 k).1 hk)
 have hs:St cf (G7 ms) (ACD fi.ps fi.sh x n) (wY fi.ps fi.mI x N) { tmps:=(AK (G7 ms) (foldA fi.sh (outSVs fi.ps x 0))).toArray++Array.replicate (fn.ntmps-(AK (G7 ms) (foldA fi.sh (outSVs fi.ps x 0))).toArray.size) undef,defers:=[] } w:=by
  refine⟨⟨?_,rfl⟩,⟨G,a1⟩, ?_⟩
  ·simp only[ACD,FW,hn]
   apply YC
   simp [AT]
   rw[EW,List.map_replicate]
   rfl
  ·intro t
   left
   unfold ACD
   simp only[List.getD]
   by_cases ht:t<(foldA fi.sh (outSVs fi.ps x 0)).length
   ·rw[T6 ht]
    have:=BP.1 a3 _ (List.getElem_mem ht)
    rw[NB ht]
    exact this
   ·rw[T5 (by omega),qQ]
    split <;> exact kA _ _
 refine wp_mono (ACC hcx c _ _ _ _ _ _ hr cf (G7 ms) _ w hs) ?_
 rintro e a' w' ⟨E',fr',L',h1,h2,h3⟩
 have fin:AQU P rvs fi.cl fi.pin fi.bk fi.os (fi.rs++fi.os) .ret fr' L' =some r->a'.defers=[]/\∃ v,(results fn a'.tmps).run P w' = .ok v w' ∧
   (∃ G' ms',Ending.returned v= .returned ((R3 (outSVs fi.rs (HT.left fi.rs fi.os r) 0)).den (G7 ms'))∧
   Rest w w' /\w.heap.size<=w'.heap.size/\(∀ b,b<w.heap.size->b∉B6 fi.ps x ms->w'.heap[b]? =w.heap[b]?)∧
   (∀ b,G b->G' b)/\(∀ b,G' b->G b\/w.heap.size<=b\/b∈B6 fi.ps x ms)/\(∀ b,G' b->b<w'.heap.size)∧
   PS (⟨w,fun b=>b∈B6 fi.ps x ms,G⟩:DN cx.tb) G' w' (fi.rs++fi.os) r ms' /\(B6 (fi.rs++fi.os) r ms').Nodup∧
   (K4 fi.os (cnts fi.rs)).map ms' =fi.bk.map ms/\∀ q∈fi.pin,ms' q.1=ms q.2.2.1):=by
  intro hk
  simp only[AQU] at hk
  obtain⟨Ec,h1,hxc⟩:=PW fi.cl h1
  have h2:=h2.trans (hxc.mono (fun _ h=>by cases h))
  clear hxc
  generalize GQ fi.cl L' =L' at hk h1 h2
  generalize Ec=E' at h1 h2
  split at hk
  ·cases hk
  rename_i vs hvs
  split at hk
  ·cases hk
  rename_i tk htk
  split at hk
  rotate_left
  ·cases hk
  rename_i RL
  simp only[G4] at RL
  obtain⟨RL,AU1⟩:=RL
  simp only[AY] at hk
  obtain⟨l1,l2,l3⟩:=AFN (rvs:=rvs) h1 rvs vs hvs
  obtain⟨G3,hG3⟩:=h1.hd
  have hio:∀ i∈fi.bk,Al (wY fi.ps fi.mI x N) i:=fun i hi=>a2 i ⟨Nat.zero_le _,by have:=J9.1 hst.2.2.2.1 i hi;simpa using this⟩
  have hwv:KJ E' L' (vs++gD fi.os fi.bk):=by
   refine BP.2 fun v hv=> ?_
   rcases EV.1 hv with hv|hv
   ·exact BP.1 l2 v hv
   ·obtain⟨i,hi,rfl|rfl⟩:=wZ _ _ _ hv
    ·exact (h2.nm i (hio i hi)).2
    ·exact (h2.nm i (hio i hi)).2
  obtain⟨G1,G2,t1,t2,t3,t4,t5,t6,t7,t8,t9,t10,t11⟩:=hG3.take (md:= .dS) (by simp) (fun n e h=>h) htk RL hwv
  rw[t4 rfl] at t9
  obtain⟨q1,q2⟩:=VR E' _ _ _ htk
  have gY:=q2 (G7 (DY E' tk.nes)) 0 (fun k _=>by simp [G7])
  rw[hk,kC,FW,FW] at gY
  have hlen:(AK E' vs).length=(AK (G7 (DY E' tk.nes)) (outSVs fi.rs (HT.left fi.rs fi.os r) 0)).length:=by
   rw[AT,AT,M0,l1,hst.1]
  have hd1:=(List.append_inj gY hlen).1
  refine⟨h1.pG.2,(R3 vs).den E', ?_,G1,DY E' tk.nes, ?_,t1.rest,t1.size, ?_,t1.glo, ?_,t1.tV,by rw[hk] at t9;exact t9,by rw[hk] at t10;exact t10, ?_,fun q hq=> ?_⟩
  ·unfold results
   rw[Sem.run_bind,hres,Array.mapM_eq_mapM_toList,map_eq_pure_bind,Sem.run_bind]
   have e0:rvs.toArray.toList=rvs:=by simp
   rw[e0]
   erw [l3]
   simp only[Result.andThen,Sem.run_pure]
   congr 1
   match vs with
   | []=>rfl
   | [v]=>simp [R3,AK]
   |v::u::r=>simp [R3,SV.den,AK]
  ·rw[vX hd1]
  ·intro b hb hbn
   exact t1.old b ⟨hb,hbn⟩
  ·intro b hb
   rcases t1.ghi b hb with h|h
   ·exact .inl h
   ·right
    by_cases C7:b<w.heap.size
    ·right
     exact uB fun hx=>h ⟨C7,hx⟩
    ·left;omega
  ·rw[AMP (E:=E') fi.rs fi.os vs fi.bk tk htk (by rw[l1,hst.1]) hst.2.1 hst.2.2.1]
   apply T7
   intro i hi
   exact (h2.nm i (hio i hi)).1
  ·have p1:=J9.1 AU1 q hq
   have p2:=J9.1 hst.2.2.2.2.1 q hq
   simp only[IQ] at p2
   have l6:Al (wY fi.ps fi.mI x N) q.2.2.1:=a2 q.2.2.1 ⟨Nat.zero_le _,by simpa using p2⟩
   unfold cY at p1
   split at p1
   ·rename_i i hi
    have hi2:i=q.2.2.1:=by simpa using p1
    simp only[DY,hi,NE.nm,hi2]
    exact (h2.nm _ l6).1
   ·cases p1
 cases e with
 |normal=>exact fin h3
 |ret=>exact fin h3
 |exit id=>cases h3
 |goto l=>cases h3
 |panic ch=>cases h3
 |outgrown=>cases h3
def BA (l:List (Nat×FnI)) (n:FuncId):Option FnI:=lk l n
def AN (P:Program) (TB:Tb) (l:List (Nat×FnI)):Prop:=∀ n fi,lk l n=some fi->CallsV P TB n fi
theorem AN.nil:AN P TB []:=by intro n g h;cases h
theorem AN.cons {l:List (Nat×FnI)} {n:FuncId} {g:FnI} (h:CallsV P TB n g) (hl:AN P TB l):AN P TB ((n,g)::l):=by
 intro k g' hk
 simp only[lk] at hk
 split at hk
 ·rename_i he;subst he;simp only[AY] at hk;subst hk;exact h
 ·exact hl k g' hk
theorem BB {nm:List (Nat×Nat×Nat)} {AL:List Nat} {loops AO:List (Nat×Z9)} {l:List (Nat×FnI)} (h:AN P TB l) {x:List (Nat×Xt)} (hx:∀ n e,lk x n=some e->A3 P n e) {y z u dy:List Nat} {op:List (Nat×(Nat×Nat×Nat))}:Cx.Ok P { nm:=nm,AL:=AL,fns:=BA l,loops:=loops,AO:=AO,tb:=TB,exts:=x,lets:=y,AWU:=z,AWV:=u,opens:=op,AU6:=dy }:=⟨h,hx⟩
theorem A3.nil:∀ n e,lk ([]:List (Nat×Xt)) n=some e->A3 P n e:=by intro n e h;cases h
theorem A3.cons {x:List (Nat×Xt)} {m:Nat} {d:Xt} (h:A3 P m d) (hx:∀ n e,lk x n=some e->A3 P n e):∀ n e,lk ((m,d)::x) n=some e->A3 P n e:=by
 intro k g hk
 simp only[lk] at hk
 split at hk
 ·rename_i he;subst he;simp only[AY] at hk;subst hk;exact h
 ·exact hx k g hk
end
end Go.V3
namespace Go.V3
open Go
def AG (e:Int):Int:=IntKind.wrap .i64 e
def gl {α:Type} (d:α) (xs:List α) (k:Nat):α:=xs.getD k d
end Go.V3
namespace Go.V3
open Go Go.RowKit
variable {TB:Tb}
theorem AJW {a:Int} (h:(Lit.int .i64 a).wf=true):I64 a:=by
 simp [Lit.wf,IntKind.min,IntKind.max,IntKind.signed,IntKind.bits] at h
 exact⟨by omega,by omega⟩
theorem AJX {a:Int} (h:(Lit.int .u64 a).wf=true):∃ x:BitVec 64,a=(x.toNat:Int):=by
 simp [Lit.wf,IntKind.min,IntKind.max,IntKind.signed,IntKind.bits] at h
 refine⟨BitVec.ofNat 64 a.toNat, ?_⟩
 rw[oY]
 have:a.toNat<2 ^ 64:=by omega
 rw[YM this]
 omega
def nm0:Nm:=⟨0,0,true,0,0,none⟩
def AMQ (TB:Tb) (w:World):Prop:=∀ q∈TB,q.1<w.heap.size/\∃ ty fz,w.heap[q.1]? =some (.cells q.2 ty fz)
theorem AMQ.nil (w:World):AMQ [] w:=fun q h=>by cases h
end Go.V3
namespace Go.V3
open Go Go.RowKit Go.ChangeShapes Go.WideShapes
variable {TB:Tb}
def Wf:(t:Ty)->t.T->Prop
 | .int k,x=>(Lit.int k x).wf=true
 | .pair a b,x=>Wf a x.1/\Wf b x.2
 | .slice a,xs=>(xs:List a.T).length<=maxLen/\∀ x∈(xs:List a.T),Wf a x
 | .NC,x=>(x:Nat)<18446744073709551616
 |_,_=>True
def sT (P:Program) (f:TypeId->Ty->Bool):List Field->Ty->Nat->Bool
 | [],_,_=>false
 | [x],T,off=>x.offset==off && P.cellsOf x.type==T.sz && f x.type T
 |x::r,.pair a b,off=>x.offset==off && P.cellsOf x.type==a.sz && f x.type a && sT P f r b (off+a.sz)
 |_::_,_,_=>false
def laid (P:Program):Nat->TypeId->Ty->Bool
 |0,_,_=>false
 |n+1,t,T=>match P.underlying t with
  |some (.int .u64)=>(match T with| .u64=>true|_=>false)
  |some (.int k)=>(match T with| .int k' =>decide (k=k')|_=>false)
  |some .bool=>(match T with| .bool=>true|_=>false)
  |some .string=>(match T with| .str=>true|_=>false)
  |some (.float .f64)=>(match T with| .NC=>true|_=>false)
  |some (.slice e)=>(match T with| .slice a=>P.cellsOf e==a.sz && decide (0<a.sz) && laid P n e a|_=>false)
  |some (.struct fs)=>P.cellsOf t==T.sz && sT P (laid P n) fs.toList T 0
  |_=>false
theorem kD {w:World} {a:Addr} {n:Nat} {l:List Value} (h:w.cells? 0 a n=some l) (hn:0<n):
  a.spot=none/\∃ arr ty fz,w.heap[a.block]? =some (.cells arr ty fz)/\l=BH arr a.off n/\l.length=n:=by
 obtain⟨-,hl,hc⟩:=World.cells?_some h
 have hs:a.spot=none:=by
  have h0:=hc 0 hn
  rw[NB (by omega)] at h0
  unfold World.cell? at h0
  split at h0
  ·split at h0
   ·cases h0
   ·rename_i hsp
    have e:a.add 0=a:=by simp [Addr.add]
    rw[e] at hsp
    simpa using hsp
  ·cases h0
 refine⟨hs, ?_⟩
 have AQV:∀ i,(a.add i).block=a.block/\(a.add i).off=a.off+i/\(a.add i).spot=none:=by
  intro i
  unfold Addr.add
  split
  ·rename_i h0;subst h0;exact⟨rfl,rfl,hs⟩
  ·exact⟨rfl,rfl,by first|rfl|exact hs⟩
 have h0:=hc 0 hn
 rw[NB (by omega)] at h0
 unfold World.cell? at h0
 rw[(AQV 0).1] at h0
 split at h0
 rotate_left
 ·cases h0
 rename_i arr ty fz hb
 refine⟨arr,ty,fz,hb, ?_,hl⟩
 apply T9
 intro i
 unfold BH
 rw[jG]
 split
 ·rename_i hi
  rw[<-hc i hi]
  unfold World.cell?
  rw[(AQV i).1,hb]
  simp only[(AQV i).2.2,(AQV i).2.1]
  simp [ZQ]
 ·rename_i hi
  exact SO (by omega)
section
variable {H:Type} {enc:TypeId×Value->H} {P:Program} {w:World} {held:Bool}
theorem AFO:∀ (n:Nat) (t:TypeId) (T:Ty),laid P n t T=true->∀ (fuel:Nat) (cs:List Value) (x:DataW H×List MemPlace),DataW.trod enc P w 0 (fun _=>true) held fuel t cs=some x→
  ∃ y:T.T,Rp (fun b=>b<w.heap.size) w T y cs/\Wf T y:=by
 intro n
 induction n with
 |zero=>intro t T h;cases h
 |succ n ih=>
  intro t T h fuel cs x hx
  unfold laid at h
  split at h
  ·rename_i hu
   split at h
   ·obtain⟨m,rfl, -,hw⟩:=DataW.trod_int hu hx
    obtain⟨y,rfl⟩:=AJX hw
    exact⟨y,rfl,trivial⟩
   ·cases h
  ·rename_i k hk hu
   split at h
   ·rename_i k'
    have:=gN h
    subst this
    obtain⟨m,rfl, -,hw⟩:=DataW.trod_int hu hx
    exact⟨m,rfl,hw⟩
   ·cases h
  ·rename_i hu
   split at h
   ·obtain⟨b,rfl, -⟩:=DataW.trod_bool hu hx
    exact⟨b,rfl,trivial⟩
   ·cases h
  ·rename_i hu
   split at h
   ·obtain⟨s,rfl, -⟩:=DataW.trod_string hu hx
    exact⟨s,rfl,trivial⟩
   ·cases h
  ·rename_i hu
   split at h
   ·cases fuel with
    |zero=>simp [DataW.trod] at hx
    |succ m=>
     unfold DataW.trod at hx
     rw[hu] at hx
     split at hx <;> simp_all
     rename_i b1 heq
     subst heq
     refine⟨b1,rfl, ?_⟩
     simp only[Lit.wf,IQ] at*
     show b1<18446744073709551616
     omega
   ·cases h
  ·rename_i e hu
   split at h
   ·rename_i a
    simp only[G4,UH,IQ] at h
    obtain⟨⟨YO,U9⟩,hl⟩:=h
    rcases DataW.trod_slice hu hx with ⟨rfl, -⟩|⟨ad,len,cap,elems,rest,m,rfl,rfl, -, -,hlc,dU,hlen,hel, -, -⟩
    ·exact⟨([]:List a.T),⟨nm0,rfl,rfl,ED _,.inl rfl⟩,Nat.zero_le _,by simp⟩
    ·have key:∀ i,i<len->∃ y:a.T,(ad.add (i*a.sz)).spot=none/\∃ arr ty fz,w.heap[ad.block]? =some (.cells arr ty fz)/\Rp (fun b=>b<w.heap.size) w a y (BH arr (ad.off+i*a.sz) a.sz)/\Wf a y:=by
      intro i hi
      have he:=hel i hi
      rw[NB (by omega),AAQ] at he
      obtain⟨l,h1,h2⟩:=he
      rw[YO] at h1
      obtain⟨h0,arr,ty,fz,h3,h4,h5⟩:=kD h1 U9
      obtain⟨y,h6,h7⟩:=ih e a hl m l _ h2
      refine⟨y,h0,arr,ty,fz, ?_, ?_,h7⟩
      ·have:(ad.add (i*a.sz)).block=ad.block:=by unfold Addr.add;split <;> rfl
       rw[this] at h3;exact h3
      ·have:(ad.add (i*a.sz)).off=ad.off+i*a.sz:=by
        unfold Addr.add;split
        ·rename_i h0;simp [h0]
        ·rfl
       rw[this] at h4;rw[<-h4];exact h6
     by_cases hl0:len=0
     ·subst hl0
      refine⟨([]:List a.T),⟨⟨0,0,true,0,cap,some ad⟩,rfl,rfl,hlc,.inl rfl⟩,Nat.zero_le _,by simp⟩
     ·obtain⟨y0,AT1,arr,ty,fz,hb, -, -⟩:=key 0 (by omega)
      have AT1:ad.spot=none:=by simpa [Addr.add] using AT1
      have AXL:∀ i,i<len->∃ y:a.T,Rp (fun b=>b<w.heap.size) w a y (BH arr (ad.off+i*a.sz) a.sz)/\Wf a y:=by
       intro i hi
       obtain⟨y, -,W3,ty',fz',RZ,h1,h2⟩:=key i hi
       rw[hb] at RZ
       simp only[AY,Obj.cells.injEq] at RZ
       obtain⟨rfl, -, -⟩:=RZ
       exact⟨y,h1,h2⟩
      have Z7:∃ ys:List a.T,ys.length=len/\∀ i y,ys[i]? =some y->Rp (fun b=>b<w.heap.size) w a y (BH arr (ad.off+i*a.sz) a.sz)/\Wf a y:=by
       clear hel hlen hx hlc dU hl0 key
       induction len with
       |zero=>exact⟨[],rfl,by simp⟩
       |succ len ihl=>
        obtain⟨ys,h1,h2⟩:=ihl (fun i hi=>AXL i (by omega))
        obtain⟨y,h3,h4⟩:=AXL len (by omega)
        refine⟨ys++ [y],by simp [h1], ?_⟩
        intro i z hz
        by_cases hi:i<ys.length
        ·rw[T6 hi] at hz;exact h2 i z hz
        ·rw[T5 (by omega)] at hz
         have:i=len:=by
          have:=(uA.1 hz).1
          simp at this;omega
         subst this
         rw[h1] at hz
         simp at hz
         subst hz
         exact⟨h3,h4⟩
      obtain⟨ys,h1,h2⟩:=Z7
      have A0A:ad.block<w.heap.size:=by
       rcases GY ad.block w.heap.size with h|h
       ·exact h
       ·rw[AAR h] at hb;cases hb
      refine⟨ys,⟨⟨ad.block,ad.off,false,len,cap,none⟩, ?_,h1.symm,hlc,.inr ⟨rfl,A0A,arr,ty,fz,hb,fun i y hy=>(h2 i y hy).1⟩⟩,by rw[h1];omega, ?_⟩
      ·simp [Nm.ad]
       cases ad;simp_all
      ·intro y hy
       obtain⟨i,hi⟩:=List.getElem?_of_mem hy
       exact (h2 i y hi).2
   ·cases h
  ·rename_i fs hu
   simp only[G4,UH] at h
   obtain⟨YO,hl⟩:=h
   obtain⟨xs,m,rfl, -,hlen,hxs,hel⟩:=DataW.trod_struct hu hx
   have AUU:∀ f∈fs.toList,∃ z,DataW.trod enc P w 0 (fun _=>true) held m f.type ((cs.drop f.offset).take (P.cellsOf f.type))=some z:=by
    intro f hf
    obtain⟨i,hi⟩:=List.getElem?_of_mem hf
    have:=hel i f (by simpa using hi)
    have hi2:i<xs.length:=by
     have:=(uA.1 hi).1
     rw[hxs];simpa using this
    rw[NB hi2] at this
    exact⟨_,this⟩
   have go:∀ (l:List Field) (T:Ty) (off:Nat),sT P (laid P n) l T off=true->(∀ f∈l,∃ z,DataW.trod enc P w 0 (fun _=>true) held m f.type ((cs.drop f.offset).take (P.cellsOf f.type))=some z)→
     ∃ y:T.T,Rp (fun b=>b<w.heap.size) w T y ((cs.drop off).take T.sz)/\Wf T y:=by
    intro l
    induction l with
    |nil=>intro T off h;simp [sT] at h
    |cons f r ihr=>
     intro T off h hf
     cases r with
     |nil=>
      simp only[sT,G4,UH] at h
      obtain⟨⟨rfl,h2⟩,h3⟩:=h
      obtain⟨z,hz⟩:=hf f (by simp)
      rw[h2] at hz
      exact ih _ _ h3 _ _ _ hz
     |cons g r=>
      cases T with
      |pair a b=>
       simp only[sT,G4,UH] at h
       obtain⟨⟨⟨rfl,h2⟩,h3⟩,h4⟩:=h
       obtain⟨z,hz⟩:=hf f (by simp)
       rw[h2] at hz
       obtain⟨y,hy,wy⟩:=ih _ _ h3 _ _ _ hz
       obtain⟨y2,hy2,wy2⟩:=ihr b (f.offset+a.sz) h4 (fun q hq=>hf q (by simp [hq]))
       refine⟨(y,y2),⟨_,_, ?_,hy,hy2⟩,wy,wy2⟩
       rw[Ty.sz,List.take_add,List.drop_drop]
      |_=>simp [sT] at h
   obtain⟨y,hy,wy⟩:=go fs.toList T 0 hl AUU
   refine⟨y, ?_,wy⟩
   rw[List.drop_zero,List.take_of_length_le (by omega)] at hy
   exact hy
  ·cases h
end
structure AFP (w:World) (ps:List CT) (x:HT ps) (ms:Nat->Nm) (vals:List Value):Prop where
 all:∀ (TB:Tb) (c:DN TB),PS c (fun b=>b<w.heap.size) w ps x ms
 own:B6 ps x ms=[]
 den:AK (G7 ms) (outSVs ps x 0)=vals
theorem AFP.nil (w:World):AFP w [] () (fun _=>nm0) []:=⟨fun _ _=>trivial,rfl,rfl⟩
theorem AFP.cons {w:World} {r:List CT} {x:HT r} {ms:Nat->Nm} {vals:List Value} (h:AFP w r x ms vals) {t:Ty} {ag:Bool} {v:Value} {cs:List Value} (hv:(ag=true/\v= .agg cs.toArray)\/(ag=false/\cs=[v])) (y:t.T) (hy:Rp (fun b=>b<w.heap.size) w t y cs):
  ∃ ms',AFP w (⟨t,ag,false,false⟩::r) (HT.mk ⟨t,ag,false,false⟩ r y x) ms' (v::vals):=by
 obtain⟨m,e,hs⟩:=hy.out
 let ms' :Nat->Nm:=fun k=>if k<t.GN then m k else ms (k-t.GN)
 have mJ:(CT.mk t ag false false).cnt=t.GN:=by simp [CT.cnt,CT.pn]
 have hm1:∀ k,k<t.GN->ms' k=m k:=fun k hk=>AA hk
 have hm2:(fun k=>ms' (t.GN+k))=ms:=by
  funext k
  show (if t.GN+k<t.GN then _ else ms (t.GN+k-t.GN))=_
  rw[AB (by omega)]
  congr 1;omega
 refine⟨ms',fun TB c=>⟨⟨fun j e he=> ?_,fun h=>by cases h⟩, ?_⟩, ?_, ?_⟩
 ·rw[HT.nU] at he
  have hj:j<t.GN:=by
   have:=(uA.1 he).1
   rwa [A_] at this
  have hE:=hs j e he
  show gU c _ w (ms' (0+j)) e
  rw[I7,hm1 j hj]
  cases e with
  |shr t xs=>exact hE
  |dead=>trivial
  |_=>exact hE.elim
 ·rw[HT.nV,mJ,hm2];exact h.all TB c
 ·rw[B6,HT.nV,mJ,hm2,h.own,ME,HT.nU]
  rw[cX];rfl
 ·have hd:AK (G7 ms') (HH t y 0)=cs:=by
   rw[UL,e]
   exact GZ _ _ fun k hk=>by rw[I7];exact hm1 k hk
  simp only[outSVs,AK,HT.nU,HT.nV,jH]
  refine⟨?_, ?_⟩
  ·unfold R2
   rcases hv with ⟨rfl,rfl⟩|⟨rfl,rfl⟩
   ·simp only[SV.den,hd]
   ·simp only
    cases hu:HH t y 0 with
    |nil=>rw[hu] at hd;simp [AK] at hd
    |cons q l=>rw[hu] at hd;simp only[AK,jH] at hd;exact hd.1
  ·rw[mJ,I7,←h.den]
   refine gX _ _ fun k hk=> ?_
   show ms' (t.GN+k)=ms (0+k)
   rw[congrFun hm2 k,I7]
theorem AMR {P:Program} {f:FuncId} {fi:FnI} (hc:CallsV P TB f fi) {vals:Array Value} {w:World} (hT:AMQ TB w) {x:HT fi.ps} {ms:Nat->Nm} {r:HT (fi.rs++fi.os)}
  (ha:AFP w fi.ps x ms vals.toList) (hr:fi.F x=some r) (ht:∀ ms,(R3 (outSVs fi.rs (HT.left fi.rs fi.os r) 0)).den (G7 ms)= .bool true) (tW:fi.sh=[]:=by rfl) (hpp:fi.mI=[]:=by rfl):
  Calls P f vals w (fun e w' =>e= .returned (.bool true)/\Below w.heap.size w w'):=by
 have h:=hc.2 x r hr w (fun b=>b<w.heap.size) ms (fun _ h=>h) (ha.all _ _) (by rw[ha.own];exact dR) (fun q hq=>⟨⟨(hT q hq).1,by rw[ha.own];exact rB⟩,(hT q hq).2⟩) (by rw[hpp];exact fun q hq=>by cases hq)
 rw[tW] at h
 replace h:Calls P f (AK (G7 ms) (outSVs fi.ps x 0)).toArray w _:=h
 rw[ha.den] at h
 have e:vals.toList.toArray=vals:=by simp
 rw[e] at h
 refine h.mono ?_
 rintro e w' ⟨G',ms',rfl,Z6,hs,hold, -⟩
 refine⟨by rw[ht],⟨Z6.os,Z6.tape,Z6.output,hs,fun b hb=>hold b hb ?_⟩⟩
 rw[ha.own]
 exact rB
theorem w4 {P:Program} {W:World} {r:Reach} {base:Nat} {t:TypeId} {v:Value} (ha:HY P t=false) (h:Value.okWide P W r base t v):v.cells.toList=[v]:=by
 unfold Value.okWide at h
 unfold HY at ha
 split at h
 ·simp_all
 ·simp_all
 ·unfold Cell.okWide Cell.ok at h
  cases v <;> simp_all [Value.cells]
theorem AMS {H:Type} {enc:TypeId×Value->H} {P:Program} {W:World} {r:Reach} {base:Nat} {held:Bool} {t:TypeId} {v:Value} {d:DataW H} {ps:List MemPlace} (n:Nat) (T:Ty) (hl:laid P n t T=true)
  (AJY:Value.okWide P W r base t v) (h:DataW.Trod enc P W 0 (fun _=>true) held t v d ps):∃ y:T.T,Rp (fun b=>b<W.heap.size) W T y v.cells.toList/\Wf T y:=by
 obtain⟨fuel,h⟩:=h
 exact AFO n t T hl fuel _ _ h
end Go.V3
namespace Go.V3
open Go Go.ChangeShapes Go.WideShapes Go.RowKit
end Go.V3
namespace Go.V3
open Go
variable {TB:Tb} {P:Program}
def Inv (w w' :World):Prop:=Rest w w' /\w.heap.size<=w'.heap.size/\∀ b,b<w.heap.size->w'.heap[b]? =w.heap[b]?
theorem Inv.refl (w:World):Inv w w:=⟨.refl _,ED _,fun _ _=>rfl⟩
theorem Inv.trans {a b c:World} (h:Inv a b) (k:Inv b c):Inv a c:=
 ⟨h.1.trans k.1,fX h.2.1 k.2.1,fun x hx=>(k.2.2 x (oZ hx h.2.1)).trans (h.2.2 x hx)⟩
def cfN (TB:Tb) (G:Nat->Prop) (w:World):DN TB:=⟨w,fun _=>False,G⟩
theorem holdsNil {G:Nat->Prop} {w w' :World} (h:Inv w w') (hG:∀ b,G b->b<w.heap.size) (ht:(cfN TB G w).Tab) (E:Env):AS (cfN TB G w') G w' E []:=by
 refine⟨.refl _,ED _,fun _ _=>rfl,fun b hb=>oZ (hG b hb) h.2.1,fun _ h=>h,fun _ h=> .inl h, ?_, ?_, ?_, ?_⟩
 ·intro n e he;simp [look] at he
 ·intro n t xss q he;simp [look] at he
 ·intro n k e f b _ he;simp [look] at he
 ·intro q hq
  obtain⟨⟨h1,_⟩,ty,fz,h2⟩:=ht q hq
  exact⟨⟨oZ h1 h.2.1,fun x=>x⟩,ty,fz,by rw[show (cfN TB G w').w0=w' from rfl,h.2.2 _ h1];exact h2⟩
theorem St.inv {G:Nat->Prop} {w w' :World} {E:Env} {fr:List SV} {L:AJ} {a:Act} (h:St (cfN TB G w) E fr L a w'):Inv w w' :=by
 obtain⟨G',hG⟩:=h.hd
 exact⟨hG.rest,hG.size,fun b hb=>hG.old b ⟨hb,fun x=>x⟩⟩
theorem St.AMT {c c' :DN TB} {E:Env} {fr:List SV} {L:AJ} {a:Act} {w w' :World} (h:St c E fr L a w) (hd:Hd c' w' E L):St c' E fr L a w' :=⟨h.pG,hd,h.wf⟩
theorem sU {L:AJ} (h:YR [] L):L=[]:=List.length_eq_zero_iff.1 h.1
def AMU (W:List Nat):Z9:={ live:=[],boxes:=[],rows:=[],dead:=W,lost:=[],base:=0 }
def K_ (W:List Nat) (fr:List SV):List SV:=PU fr (W.map fun t=>(t,.l5 t))
def ACE (fr:List SV):Option Bool:=toB (fr.getD 2 AV)
section
variable (P) (cx:Cx) (rest tail:Code) (W:List Nat) (KN:Nat) (fr:List SV) (s:ByteArray)
noncomputable def AMV (fr' :List SV):Option Bool:=rk P cx tail Bool 1000000 (fun e AJV _=>match e with
 | .normal=>ACE AJV
 | .ret=>ACE AJV
 |_=>none) fr' []
noncomputable def sV (p:Nat):Option (Nat ⊕ Bool):=cond (decide (p<s.size))
 (rk P cx rest (Nat ⊕ Bool) KN (fun e fr' _=>match e with
   | .normal=>some (.inl (p+(Utf8.decode s p).2))
   | .ret=>(ACE fr').map .inr
   | .exit id=>if id=KN then (AMV P cx tail fr').map .inr else none
   |_=>none) (((K_ W fr).set 25 (.tup [.NJ true,.int .i64 (p:Int),.int .i32 ((Utf8.decode s p).1:Int)])).set 26 (.NJ true)) [])
 (rk P cx rest (Nat ⊕ Bool) KN (fun e fr' _=>match e with
   | .ret=>(ACE fr').map .inr
   | .exit id=>if id=KN then (AMV P cx tail fr').map .inr else none
   |_=>none) (((K_ W fr).set 25 (.tup [.NJ false])).set 26 (.NJ false)) [])
noncomputable def AHH:Option Bool:=AM (σ:=Nat) (β:=Bool) (sV P cx rest tail W KN fr s) 0
end
theorem sW {ops:Array Oper} {i:Nat} {o:Oper} (ho:ops[i]? =some o) (hg:o.guard=none) {a:Act} {w w' :World} {v:Value} {K:Act->World->Prop} {Q:Exit->Act->World->Prop}
  (hr:(execOp a.eval o).run P w= .ok (.value v) w') (hK:K (a.put o.dst v) w'):wpOp P ops Q i K a w:=by
 unfold wpOp
 rw[ho]
 simp only[Region.wanted,hg,GA]
 refine .inl ?_
 show o.upon P a K Q ((execOp a.eval o).run P w)
 rw[hr]
 exact hK
def w5 (w:World) (o:Obj):World:={ w with heap:=w.heap.push o }
theorem AJZ {ρ:Operand->Value} {o:Oper} {t:TypeId} {x:Operand} (ho:o.op= .range t x) (hu:P.underlying t=some .string) {s:ByteArray} (hx:ρ x= .string s) (w:World):
  (execOp ρ o).run P w= .ok (.value (.pointer (some ⟨w.heap.size,0,none⟩))) (w5 w (.stringIter s 0)):=by
 unfold execOp
 rw[ho]
 simp only[Instr.range,hx]
 have h1:=run_underlying (w:=w) hu
 simp [h1,newObj,Sem.run,w5]
theorem AK0 {ρ:Operand->Value} {o:Oper} {x:Operand} (ho:o.op= .next x true) {b:Nat} (hx:ρ x= .pointer (some ⟨b,0,none⟩)) {w:World} {s:ByteArray} {p:Nat} (hb:w.heap[b]? =some (.stringIter s p)):
  (p<s.size->∃ w',(execOp ρ o).run P w= .ok (.value (.tuple #[.bool true,.int .i64 (p:Int),.int .i32 ((Utf8.decode s p).1:Int)])) w' /\Rest w w' /\w'.heap.size=w.heap.size/\w'.heap[b]? =some (.stringIter s (p+(Utf8.decode s p).2))/\∀ c,c≠b->w'.heap[c]? =w.heap[c]?)∧
  (¬p<s.size->(execOp ρ o).run P w= .ok (.value (.tuple #[.bool false])) w):=by
 have C7:b<w.heap.size:=by
  rcases GY b w.heap.size with h|h
  ·exact h
  ·rw[AAR h] at hb;cases hb
 constructor
 ·intro hp
  refine⟨{ w with heap:=w.heap.setIfInBounds b (.stringIter s (p+(Utf8.decode s p).2)) }, ?_,⟨rfl,rfl,rfl⟩,by simp,by simp [C7],fun c hc=>by simp [Ne.symm hc]⟩
  unfold execOp
  rw[ho]
  simp [Instr.next,hx,getObj,setObj,Sem.run,hb,hp,goInt]
 ·intro hp
  unfold execOp
  rw[ho]
  simp [Instr.next,hx,getObj,Sem.run,hb,hp]
theorem run_move {ρ:Operand->Value} {o:Oper} {x:Operand} (ho:o.op= .move x) (w:World):(execOp ρ o).run P w= .ok (.value (ρ x)) w:=by
 unfold execOp;rw[ho];rfl
theorem AMW {ρ:Operand->Value} {o:Oper} {x:Operand} (ho:o.op= .extract x 0) {v:Value} {vs:Array Value} (hx:ρ x= .tuple vs) (hv:vs[0]? =some v) (w:World):(execOp ρ o).run P w= .ok (.value v) w:=by
 unfold execOp;rw[ho];simp [Instr.extract,hx,hv]
def sq1:Code->Code
 | .seq a _=>a
 |c=>c
def oH:Code->Code
 | .seq _ b=>b
 |c=>c
def AQW:Code->Code
 | .block _ c=>c
 |c=>c
def lpC:Code->Code
 | .loop c=>c
 |c=>c
def AQX (c:Code) (i:Nat):Oper:=match c with
 | .region _ ops _=>ops.toList.getD i default
 |_=>default
theorem AQY {c:DN TB} {E:Env} {fr:List SV} {L:AJ} {a:Act} {w:World} (h:St c E fr L a w) {r:Bool} (hf:ACE fr=some r) {fn:Func} (hres:fn.results= #[.tmp 2]):(results fn a.tmps).run P w= .ok (.bool r) w:=by
 have hd:a.tmps.getD 2 undef= .bool r:=by
  have:=S_ h.pG (.tmp 2)
  show a.eval (.tmp 2)=_
  rw[this]
  exact UJ hf
 unfold results
 rw[hres]
 have hd' :a.tmps[2]?.getD undef= .bool r:=by simpa using hd
 simp [hd']
theorem AMX {W:List Nat} {E:Env} {fr:List SV} {L:AJ} (h25:25∈W) (h26:26∈W) (u v:SV):Ext W E fr L E ((fr.set 25 u).set 26 v) L:=by
 refine⟨fun _ h=>⟨rfl,h⟩,fun _ _=>rfl,.refl _,by simp,fun t ht=> ?_⟩
 rw[ES,ES,AB (fun (h:26=t/\_)=>ht (h.1 ▸ h26)),AB (fun (h:25=t/\_)=>ht (h.1 ▸ h25))]
theorem w7 {W:List Nat} {fr:List SV} {t:Nat} (h:t∉W):(K_ W fr).getD t AV=fr.getD t AV:=by
 unfold K_
 refine PV _ _ _ fun q hq=> ?_
 obtain⟨x,hx,rfl⟩:=C0.1 hq
 rintro rfl
 exact h hx
theorem ACF {fr:List SV} {t:Nat} (h:fr.length<=t):fr.getD t AV=AV:=by simp [List.getD,SO h]
theorem AK1 {a b:List SV} (hl:a.length=b.length) (h:∀ t,a.getD t AV=b.getD t AV):a=b:=by
 apply List.ext_getElem hl
 intro i h1 h2
 have:=h i
 simpa [List.getD,NB h1,NB h2] using this
theorem AHI (W:List Nat):(W.map fun t=>(t,SV.l5 t)).map (·.1)=W:=by simp [S8,rA]
theorem AK2 {W:List Nat} (H8:W.Nodup) {t:Nat} (ht:t∈W) (fr:List SV) (v:SV):K_ W (fr.set t v)=K_ W fr:=by
 have hl:∀ l:List SV,(K_ W l).length=l.length:=fun l=>M1 _ _
 refine AK1 (by rw[hl,hl,ER]) fun k=> ?_
 have hm:((W.map fun t=>(t,SV.l5 t)).map (·.1)).Nodup:=by rw[AHI];exact H8
 by_cases hk:k∈W
 ·by_cases C7:k<fr.length
  ·have h1:=V7 (fr.set t v) (W.map fun t=>(t,SV.l5 t)) hm (C0.2 ⟨k,hk,rfl⟩) (by simpa using C7)
   have h2:=V7 fr (W.map fun t=>(t,SV.l5 t)) hm (C0.2 ⟨k,hk,rfl⟩) C7
   exact h1.trans h2.symm
  ·rw[ACF (by rw[hl,ER];omega),ACF (by rw[hl];omega)]
 ·rw[w7 hk,w7 hk,ES,AB (fun (h:t=k/\_)=>hk (h.1 ▸ ht))]
theorem AMY {W:List Nat} (H8:W.Nodup) {t:Nat} (ht:t∈W) {fr:List SV} (hl:t<fr.length):(K_ W fr).getD t AV= .l5 t:=
 V7 fr (W.map fun t=>(t,SV.l5 t)) (by rw[AHI];exact H8) (C0.2 ⟨t,ht,rfl⟩) hl
set_option maxHeartbeats 1000000 in
theorem AFQ {cx:Cx} (hcx:cx.Ok P) {f:FuncId} {fn:Func} {r0 pre rest tail:Code} {i3 i4 KN n:Nat} {o1 o2 o3 o4:Oper} {t:TypeId} {W:List Nat} {F:ByteArray->Option Bool}
  (hf:P.funcs[f]? =some fn) (hb:fn.body=some (.seq r0 (.seq pre (.seq (.seq (.region i3 #[o1,o2] false) (.block KN (.loop (.seq (.region i4 #[o3,o4] false) rest)))) tail))))
  (hnm : (fn.name == "runtime.NumGoroutine") = false) (hn : fn.ntmps = n) (hn1 : 27 ≤ n) (hres : fn.results = #[.tmp 2])
  (h1:o1.op= .move (.tmp 0)/\o1.dst=some 23/\o1.guard=none) (h2:o2.op= .range t (.tmp 23)/\o2.dst=some 24/\o2.guard=none) (hu:P.underlying t=some .string)
  (h3:o3.op= .next (.tmp 24) true/\o3.dst=some 25/\o3.guard=none) (h4:o4.op= .extract (.tmp 25) 0/\o4.dst=some 26/\o4.guard=none)
  (hW:AFK (AMU W) (24::writes (.seq (.region i4 #[o3,o4] false) rest))=true) (hW2:(!W.contains 24|| !W.contains 25|| !W.contains 26||(writes r0).contains 0||(writes pre).contains 0||(writes rest).contains 24)=false)
  (hF:∀ s,F s=rk P cx r0 Bool 1000000 (fun e fr L=>match e with
   | .normal=>rk P cx pre Bool 1000000 (fun e fr _=>match e with
    | .normal=>AHH P cx rest tail W KN (fr.set 23 (.str s)) s
    | .ret=>ACE fr
    |_=>none) fr L
   |_=>none) (.str s::List.replicate (n-1) AV) []):
  CallsV P cx.tb f { ps:=[⟨.str,false,false,false⟩],rs:=[⟨.bool,false,false,false⟩],os:=[],bk:=[],F:=F }:=by
 refine⟨calleeRuns_of hf hb hnm,fun x r hr w G ms hG AQ3 H8 ALK _=> ?_⟩
 have dI :F x=some r:=hr
 rw[hF] at dI
 have ht:(cfN cx.tb G w).Tab:=fun q hq=>by
  obtain⟨⟨q1,_⟩,q2⟩:=ALK q hq
  exact⟨⟨q1,fun x=>x⟩,q2⟩
 refine calls_of_wp hf hb ?_
 generalize hQ:bodyPost P fn (fun e w' =>∃ G' ms',e= .returned ((R3 (outSVs [⟨.bool,false,false,false⟩] (HT.left [⟨.bool,false,false,false⟩] [] r) 0)).den (G7 ms'))∧
   Rest w w' /\w.heap.size<=w'.heap.size/\(∀ b,b<w.heap.size->b∉B6 [⟨.str,false,false,false⟩] x ms->w'.heap[b]? =w.heap[b]?)∧
   (∀ b,G b->G' b)/\(∀ b,G' b->G b\/w.heap.size<=b\/b∈B6 [⟨.str,false,false,false⟩] x ms)/\(∀ b,G' b->b<w'.heap.size)∧
   PS (⟨w,fun b=>b∈B6 [⟨.str,false,false,false⟩] x ms,G⟩:DN cx.tb) G' w' ([⟨.bool,false,false,false⟩]++ []) r ms' /\(B6 ([⟨.bool,false,false,false⟩]++ []) r ms').Nodup∧
   (K4 [] (cnts [⟨.bool,false,false,false⟩])).map ms' =[].map ms/\∀ q∈([]:List (Nat×Nat×Nat×Nat)),ms' q.1=ms q.2.2.1)=Q
 have fin:∀ (c:DN cx.tb) (E:Env) (fr:List SV) (L:AJ) (a:Act) (w' :World),St c E fr L a w' ->Inv w w' ->ACE fr=some r->Q .ret a w' /\Q .normal a w' :=by
  intro c E fr L a w' hst hinv NL
  subst hQ
  have key:a.defers=[]/\∃ v,(results fn a.tmps).run P w' = .ok v w' /\(∃ G' ms',Ending.returned v= .returned ((R3 (outSVs [⟨.bool,false,false,false⟩] (HT.left [⟨.bool,false,false,false⟩] [] r) 0)).den (G7 ms'))∧
   Rest w w' /\w.heap.size<=w'.heap.size/\(∀ b,b<w.heap.size->b∉B6 [⟨.str,false,false,false⟩] x ms->w'.heap[b]? =w.heap[b]?)∧
   (∀ b,G b->G' b)/\(∀ b,G' b->G b\/w.heap.size<=b\/b∈B6 [⟨.str,false,false,false⟩] x ms)/\(∀ b,G' b->b<w'.heap.size)∧
   PS (⟨w,fun b=>b∈B6 [⟨.str,false,false,false⟩] x ms,G⟩:DN cx.tb) G' w' ([⟨.bool,false,false,false⟩]++ []) r ms' /\(B6 ([⟨.bool,false,false,false⟩]++ []) r ms').Nodup∧
   (K4 [] (cnts [⟨.bool,false,false,false⟩])).map ms' =[].map ms/\∀ q∈([]:List (Nat×Nat×Nat×Nat)),ms' q.1=ms q.2.2.1):=by
   refine⟨hst.pG.2,_,AQY hst NL hres,G,ms,rfl,hinv.1,hinv.2.1,fun b hb _=>hinv.2.2 b hb,fun _ h=>h,fun _ h=> .inl h,fun b hb=>oZ (hG b hb) hinv.2.1,⟨⟨?_, ?_⟩,trivial⟩,dR,rfl,fun q hq=>by cases hq⟩
   ·intro j e he;simp [BY] at he
   ·intro h;cases h
  exact⟨key,key⟩
 have hold:∀ wi,Inv w wi->∀ E,Hd (cfN cx.tb G wi) wi E []:=fun wi hi E=>⟨G,holdsNil hi hG ht E⟩
 simp only[Bool.or_eq_false_iff,Bool.not_eq_false',xZ,YK,IQ] at hW2
 obtain⟨⟨⟨⟨⟨g24,g25⟩,g26⟩,gr0⟩,A0B⟩,AT2⟩:=hW2
 have hs0:St (cfN cx.tb G w) (G7 ms) (.str x::List.replicate (n-1) AV) [] { tmps:=(AK (G7 ms) (outSVs [⟨.str,false,false,false⟩] x 0)).toArray++Array.replicate (fn.ntmps-(AK (G7 ms) (outSVs [⟨.str,false,false,false⟩] x 0)).toArray.size) undef,defers:=[] } w:=by
  refine⟨⟨?_,rfl⟩,hold w (.refl w) _, ?_⟩
  ·apply YC
   simp [outSVs,R2,HH,AK,SV.den,hn]
   rw[EW,List.map_replicate]
   exact⟨rfl,rfl⟩
  ·intro k
   left
   cases k with
   |zero=>trivial
   |succ k=>
    simp only[List.getD,uC,qQ]
    split <;> exact kA _ _
 refine wp_seq (wp_mono (ACC hcx r0 Bool 1000000 _ _ [] r dI (cfN cx.tb G w) (G7 ms) _ w hs0) ?_)
 rintro e a1 w1 ⟨E1,fr1,L1,st1,AUV,k1⟩
 obtain rfl:=sU AUV.pH
 cases e with
 |normal=>
  have inv1:Inv w w1:=st1.inv
  have A0C :=st1.AMT (hold w1 inv1 E1)
  refine wp_seq (wp_mono (ACC hcx pre Bool 1000000 _ _ [] r k1 (cfN cx.tb G w1) E1 _ w1 A0C) ?_)
  rintro e a2 w2 ⟨E2,mX,L2,st2,AUW,k2⟩
  obtain rfl:=sU AUW.pH
  have inv2:Inv w w2:=inv1.trans st2.inv
  have hf0:mX.getD 0 AV= .str x:=by
   rw[AUW.out 0 A0B,AUV.out 0 gr0];rfl
  have mH:mX.length=n:=by
   rw[AUW.len,AUV.len];simp;omega
  cases e with
  |ret=>exact (fin _ _ _ _ _ _ st2 inv2 k2).1
  |normal=>
   show (Code.seq (.seq (.region i3 #[o1,o2] false) (.block KN (.loop (.seq (.region i4 #[o3,o4] false) rest)))) tail).wp P Q a2 w2
   have k3:AHH P cx rest tail W KN (mX.set 23 (.str x)) x=some r:=k2
   unfold AHH at k3
   obtain⟨m,hm⟩:=PT.1 k3
   generalize hB:w2.heap.size=B
   refine wp_seq (wp_seq (wp_region ?_))
   rw[show List.range (#[o1,o2]:Array Oper).size=[0,1] from rfl,wpOps_cons]
   have hx0:a2.eval (.tmp 0)= .string x:=by
    rw[S_ st2.pG (.tmp 0)]
    show (mX.getD 0 AV).den E2=_
    rw[hf0];rfl
   refine sW (o:=o1) rfl h1.2.2 (run_move h1.1 w2) ?_
   rw[hx0,h1.2.1,wpOps_cons]
   have sm1:Sim E2 (mX.set 23 (.str x)) (a2.put (some 23) (.string x)):=st2.pG.put (some 23) (.str x)
   have yI:(a2.put (some 23) (.string x)).eval (.tmp 23)= .string x:=by
    rw[S_ sm1 (.tmp 23)]
    show ((mX.set 23 (.str x)).getD 23 AV).den E2=_
    rw[ES,AA ⟨rfl,by omega⟩];rfl
   refine sW (o:=o2) rfl h2.2.2 (AJZ h2.1 hu yI w2) ?_
   rw[h2.2.1,hB]
   have sm2:Sim E2 ((mX.set 23 (.str x)).set 24 (.ptr (some ⟨B,0,none⟩))) ((a2.put (some 23) (.string x)).put (some 24) (.pointer (some ⟨B,0,none⟩))):=sm1.put (some 24) (.ptr (some ⟨B,0,none⟩))
   generalize hw3:w5 w2 (.stringIter x 0)=w3
   have AUX:Inv w w3:=by
    refine inv2.trans ⟨?_, ?_, ?_⟩
    ·subst hw3;exact⟨rfl,rfl,rfl⟩
    ·subst hw3;simp [w5]
    ·intro b hb;subst hw3;simp only[w5];rw[x6,AB (by omega)]
   have hit:w3.heap[B]? =some (.stringIter x 0):=by
    rw[<-hw3,←hB]
    exact Array.getElem?_push_size
   have hBw:w.heap.size<=B:=by rw[<-hB];exact inv2.2.1
   have hBs:B<w3.heap.size:=by subst hw3;subst hB;simp [w5]
   generalize AQZ:(mX.set 23 (.str x)).set 24 (.ptr (some ⟨B,0,none⟩))=YI at sm2
   have hl3:YI.length=n:=by subst AQZ;simpa using mH
   have wf3:sE E2 [] YI:=by
    subst AQZ
    intro k
    rw[ES,ES]
    split
    ·exact .inl trivial
    ·split
     ·exact .inl trivial
     ·exact st2.wf k
   generalize ((a2.put (some 23) (.string x)).put (some 24) (.pointer (some ⟨B,0,none⟩)))=a3 at sm2
   have st3:St (cfN cx.tb G w3) E2 YI [] a3 w3:=⟨sm2,hold w3 AUX E2,wf3⟩
   have H8:W.Nodup:=by
    have:=hW
    unfold AFK AMU at this
    simp only[G4,IQ,List.map_nil,o8] at this
    exact this.2
   have hhd:K_ W YI=K_ W (mX.set 23 (.str x)):=by
    rw[<-AQZ];exact AK2 H8 g24 _ _
   generalize hVW:24::writes (.seq (.region i4 #[o3,o4] false) rest)=VW at hW
   have v24:24∈VW:=by rw[<-hVW];simp
   have v25:25∈VW:=by rw[<-hVW];exact S7 _ (EV.2 (.inl (List.mem_filterMap.2 ⟨o3,by simp,h3.2.1⟩)))
   have v26:26∈VW:=by rw[<-hVW];exact S7 _ (EV.2 (.inl (List.mem_filterMap.2 ⟨o4,by simp,h4.2.1⟩)))
   have AXM:∀ t,t∈writes rest->t∈VW:=by
    intro t ht
    rw[<-hVW]
    exact S7 _ (EV.2 (.inr ht))
   have hpk:∀ fr' :List SV,W8 (AMU W) [] fr' []=some ():=by
    intro fr'
    rfl
   obtain⟨E4,st4,A0D⟩:=ACB (BJ:=AMU W) hW (holdsNil AUX hG ht E2) wf3 st3 (.refl VW E2 YI []) (hpk YI)
   have he3:a3.eval (.tmp 24)= .pointer (some ⟨B,0,none⟩):=by
    rw[S_ sm2 (.tmp 24)]
    show (YI.getD 24 AV).den E2=_
    rw[<-AQZ,ES,AA ⟨rfl,by simp;omega⟩];rfl
   have hl4:(K_ W YI).length=n:=by rw[show (K_ W YI).length=YI.length from M1 _ _];exact hl3
   generalize hQ' :Exit.then (tail.wp P Q) Q=Q'
   have loop:∀ (m p:Nat) (a:Act) (wi:World) (E:Env),QI (sV P cx rest tail W KN (mX.set 23 (.str x)) x) m p=some r->St (cfN cx.tb G wi) E (K_ W YI) [] a wi->Ext VW E2 YI [] E (K_ W YI) []→
     a.eval (.tmp 24)= .pointer (some ⟨B,0,none⟩)->Inv w wi->wi.heap[B]? =some (.stringIter x p)->Code.rounds P (.seq (.region i4 #[o3,o4] false) rest) (Exit.inBlock KN Q') m a wi:=by
    intro m
    induction m with
    |zero=>intro p a wi E hm;cases hm
    |succ m ih=>
     intro p a wi E hm hst K8 he hinv QA
     have hBi:B<wi.heap.size:=by
      rcases GY B wi.heap.size with h|h
      ·exact h
      ·rw[AAR h] at QA;cases QA
     rw[rounds_succ]
     refine wp_seq (wp_region ?_)
     rw[show List.range (#[o3,o4]:Array Oper).size=[0,1] from rfl,wpOps_cons]
     obtain⟨n1,n2⟩:=AK0 (P:=P) (ρ:=a.eval) h3.1 he QA
     rw[QI] at hm
     have after:∀ (sv:SV) (b:Bool) (wj:World) (K:Exit->List SV->AJ->Option (Nat ⊕ Bool)) (y:Nat ⊕ Bool),sv.wf E []->(∃ vs:Array Value,sv.den E= .tuple vs/\vs[0]? =some (.bool b))->Inv w wj→
       rk P cx rest (Nat ⊕ Bool) KN K (((K_ W YI).set 25 sv).set 26 (.NJ b)) []=some y→
       (∀ (E' :Env) (fr' :List SV) (a' :Act) (w' :World),St (cfN cx.tb G wj) E' fr' [] a' w' ->Ext VW E2 YI [] E' fr' []->a'.eval (.tmp 24)= .pointer (some ⟨B,0,none⟩)->∀ e,K e fr' []=some y->Exit.then (Code.rounds P (.seq (.region i4 #[o3,o4] false) rest) (Exit.inBlock KN Q') m) (Exit.inBlock KN Q') e a' w')→
       wpOps P #[o3,o4] (Exit.then (rest.wp P (Exit.then (Code.rounds P (.seq (.region i4 #[o3,o4] false) rest) (Exit.inBlock KN Q') m) (Exit.inBlock KN Q'))) (Exit.then (Code.rounds P (.seq (.region i4 #[o3,o4] false) rest) (Exit.inBlock KN Q') m) (Exit.inBlock KN Q'))) [1] (a.put o3.dst (sv.den E)) wj:=by
      intro sv b wj K y nW ⟨vs,hv1,hv2⟩ jD hrk hK
      rw[wpOps_cons,h3.2.1]
      have sm:Sim E ((K_ W YI).set 25 sv) (a.put (some 25) (sv.den E)):=hst.pG.put (some 25) sv
      have A0E:(a.put (some 25) (sv.den E)).eval (.tmp 25)= .tuple vs:=by
       rw[S_ sm (.tmp 25)]
       show (((K_ W YI).set 25 sv).getD 25 AV).den E=_
       rw[ES,AA ⟨rfl,by omega⟩];exact hv1
      refine sW (o:=o4) rfl h4.2.2 (AMW h4.1 A0E hv2 wj) ?_
      rw[h4.2.1]
      have sm' :Sim E (((K_ W YI).set 25 sv).set 26 (.NJ b)) ((a.put (some 25) (sv.den E)).put (some 26) (.bool b)):=sm.put (some 26) (.NJ b)
      have wf' :sE E [] (((K_ W YI).set 25 sv).set 26 (.NJ b)):=by
       intro k
       rw[ES,ES]
       split
       ·exact .inl trivial
       ·split
        ·exact .inl nW
        ·exact hst.wf k
      have st' :St (cfN cx.tb G wj) E (((K_ W YI).set 25 sv).set 26 (.NJ b)) [] ((a.put (some 25) (sv.den E)).put (some 26) (.bool b)) wj:=⟨sm',hold wj jD E,wf'⟩
      have A0F:((a.put (some 25) (sv.den E)).put (some 26) (.bool b)).eval (.tmp 24)= .pointer (some ⟨B,0,none⟩):=by
       rw[S_ sm' (.tmp 24)]
       show ((((K_ W YI).set 25 sv).set 26 (.NJ b)).getD 24 AV).den E=_
       rw[ES,AB (by omega),ES,AB (by omega),←he,S_ hst.pG (.tmp 24)]
       rfl
      refine wp_mono (ACC hcx rest (Nat ⊕ Bool) KN K _ [] y hrk (cfN cx.tb G wj) E _ wj st') ?_
      rintro e a' w' ⟨E',fr',L',s1,s2,s3⟩
      obtain rfl:=sU s2.pH
      refine hK E' fr' a' w' s1 ((K8.trans (AMX v25 v26 _ _)).trans (s2.mono AXM)) ?_ e s3
      rw[S_ s1.pG (.tmp 24)]
      show (fr'.getD 24 AV).den E' =_
      have u24:(((K_ W YI).set 25 sv).set 26 (.NJ b)).getD 24 AV= .l5 24:=by
       rw[ES,AB (by omega),ES,AB (by omega),AMY H8 g24 (by omega)]
      rw[s2.out 24 AT2,u24]
      show E'.ds 24=_
      rw[s2.ds 24 AT2]
      have:=S_ sm' (.tmp 24)
      rw[A0F] at this
      have h5:(ev (((K_ W YI).set 25 sv).set 26 (.NJ b)) (.tmp 24))= .l5 24:=u24
      rw[h5] at this
      exact this.symm
     have AMZ:∀ (c:DN cx.tb) (E' :Env) (fr' :List SV) (a' :Act) (w' :World),St c E' fr' [] a' w' ->Inv w w' ->AMV P cx tail fr' =some r->tail.wp P Q a' w' :=by
      intro c E' fr' a' w' s1 s2 s3
      have s1' :=s1.AMT (hold w' s2 E')
      refine wp_mono (ACC hcx tail Bool 1000000 _ _ [] r s3 (cfN cx.tb G w') E' _ w' s1') ?_
      rintro e a6 w6 ⟨E6,fr6,L6,q1,q2,q3⟩
      have q4:=s2.trans q1.inv
      cases e with
      |normal=>exact (fin _ _ _ _ _ _ q1 q4 q3).2
      |ret=>exact (fin _ _ _ _ _ _ q1 q4 q3).1
      |exit id=>cases q3
      |goto l=>cases q3
      |panic ch=>cases q3
      |outgrown=>cases q3
     by_cases hp:p<x.size
     ·obtain⟨wj,r1,r2,r3,r4,r5⟩:=n1 hp
      have jD:Inv w wj:=⟨hinv.1.trans r2,by have:=hinv.2.1;omega,fun b hb=>(r5 b (by omega)).trans (hinv.2.2 b hb)⟩
      refine sW (o:=o3) rfl h3.2.2 r1 ?_
      have hd:(SV.tup [.NJ true,.int .i64 (p:Int),.int .i32 ((Utf8.decode x p).1:Int)]).den E= .tuple #[.bool true,.int .i64 (p:Int),.int .i32 ((Utf8.decode x p).1:Int)]:=by simp [SV.den,AK]
      rw[<-hd]
      have common:∀ y,sV P cx rest tail W KN (mX.set 23 (.str x)) x p=some y->(∀ s',y= .inl s' ->QI (sV P cx rest tail W KN (mX.set 23 (.str x)) x) m s' =some r)->(∀ b,y= .inr b->b=r)->wpOps P #[o3,o4] (Exit.then (rest.wp P (Exit.then (Code.rounds P (.seq (.region i4 #[o3,o4] false) rest) (Exit.inBlock KN Q') m) (Exit.inBlock KN Q'))) (Exit.then (Code.rounds P (.seq (.region i4 #[o3,o4] false) rest) (Exit.inBlock KN Q') m) (Exit.inBlock KN Q'))) [1] (a.put o3.dst ((SV.tup [.NJ true,.int .i64 (p:Int),.int .i32 ((Utf8.decode x p).1:Int)]).den E)) wj:=by
       intro y hy hl pZ
       unfold sV at hy
       rw[HX hp,←hhd] at hy
       refine after _ true wj _ y (by simp [SV.wf,KJ]) ⟨_,hd,rfl⟩ jD hy ?_
       intro E' fr' a' w' s1 s2 s3 e hk
       have ACG:=jD.trans s1.inv
       have AUY :w'.heap[B]? =some (.stringIter x (p+(Utf8.decode x p).2)):=by
        rw[s1.inv.2.2 B (by rw[r3];exact hBi)];exact r4
       cases e with
       |normal=>
        simp only[AY] at hk
        obtain⟨E7,t1,t2⟩:=ACB (BJ:=AMU W) hW (holdsNil ACG hG ht E2) wf3 (s1.AMT (hold w' ACG E')) s2 (hpk fr')
        exact ih _ a' w' E7 (hl _ hk.symm) t1 t2 s3 ACG AUY
       |ret=>
        obtain⟨z,z1,z2⟩:=map_inr hk
        have:=(fin _ _ _ _ _ _ s1 ACG (by rw[z1,pZ z z2])).1
        subst hQ'
        exact this
       |exit id=>
        simp only at hk
        split at hk
        ·rename_i hid
         obtain⟨z,z1,z2⟩:=map_inr hk
         subst hQ'
         simp only[Exit.then,Exit.inBlock]
         rw[AA hid]
         exact AMZ _ E' fr' a' w' s1 ACG (by rw[z1,pZ z z2])
        ·cases hk
       |goto l=>cases hk
       |panic ch=>cases hk
       |outgrown=>cases hk
      split at hm
      ·cases hm
      ·rename_i s' sF
       exact common _ sF (fun s'' h=>by cases h;exact hm) (fun b h=>by cases h)
      ·rename_i b sF
       simp only[AY] at hm
       exact common _ sF (fun s'' h=>by cases h) (fun b' h=>by cases h;exact hm)
     ·refine sW (o:=o3) rfl h3.2.2 (n2 hp) ?_
      have hd:(SV.tup [.NJ false]).den E= .tuple #[.bool false]:=by simp [SV.den,AK]
      rw[<-hd]
      have common:∀ y,sV P cx rest tail W KN (mX.set 23 (.str x)) x p=some y->(∀ b,y= .inr b->b=r)->wpOps P #[o3,o4] (Exit.then (rest.wp P (Exit.then (Code.rounds P (.seq (.region i4 #[o3,o4] false) rest) (Exit.inBlock KN Q') m) (Exit.inBlock KN Q'))) (Exit.then (Code.rounds P (.seq (.region i4 #[o3,o4] false) rest) (Exit.inBlock KN Q') m) (Exit.inBlock KN Q'))) [1] (a.put o3.dst ((SV.tup [.NJ false]).den E)) wi:=by
       intro y hy pZ
       unfold sV at hy
       rw[MV hp,←hhd] at hy
       refine after _ false wi _ y (by simp [SV.wf,KJ]) ⟨_,hd,rfl⟩ hinv hy ?_
       intro E' fr' a' w' s1 s2 s3 e hk
       have ACG:=hinv.trans s1.inv
       cases e with
       |ret=>
        obtain⟨z,z1,z2⟩:=map_inr hk
        have:=(fin _ _ _ _ _ _ s1 ACG (by rw[z1,pZ z z2])).1
        subst hQ'
        exact this
       |exit id=>
        simp only at hk
        split at hk
        ·rename_i hid
         obtain⟨z,z1,z2⟩:=map_inr hk
         subst hQ'
         simp only[Exit.then,Exit.inBlock]
         rw[AA hid]
         exact AMZ _ E' fr' a' w' s1 ACG (by rw[z1,pZ z z2])
        ·cases hk
       |normal=>cases hk
       |goto l=>cases hk
       |panic ch=>cases hk
       |outgrown=>cases hk
      split at hm
      ·cases hm
      ·rename_i s' sF
       exact common _ sF (fun b h=>by cases h)
      ·rename_i b sF
       simp only[AY] at hm
       exact common _ sF (fun b' h=>by cases h;exact hm)
   exact wp_block (wp_loop_rounds m (loop m 0 a3 w3 E4 hm st4 A0D he3 AUX hit))
  |exit id=>cases k2
  |goto l=>cases k2
  |panic ch=>cases k2
  |outgrown=>cases k2
 |ret=>cases k1
 |exit id=>cases k1
 |goto l=>cases k1
 |panic ch=>cases k1
 |outgrown=>cases k1
end Go.V3
namespace Go.V3
open Go
theorem AD {e:Int} (h1: -9223372036854775808<=e) (h2:e<=9223372036854775807):AG e=e:=InK.wrap (k:= .i64) (show I64 e from ⟨h1,h2⟩)
theorem PX {σ β:Type} {f:σ->Option (σ ⊕ β)} (I:Nat->σ->Prop) (Q:β->Prop)
  (hs:∀ n s,I n s->(∃ b,f s=some (.inr b)/\Q b)\/(∃ m s',m<n/\f s=some (.inl s')/\I m s')):∀ n s,I n s->∃ b,AM f s=some b/\Q b:=by
 intro n
 induction n using Nat.strongRecOn with
 |ind n ih=>
  intro s h
  rcases hs n s h with ⟨b,hb,hq⟩|⟨m,s',hm,hf,hi⟩
  ·exact⟨b,by rw[QJ,hb],hq⟩
  ·obtain⟨b,hb,hq⟩:=ih m hm s' hi
   exact⟨b,by rw[QJ,hf];exact hb,hq⟩
theorem LA {σ β:Type} {f:σ->Option (σ ⊕ β)} {b:β} (I:Nat->σ->Prop)
  (hs:∀ n s,I n s->f s=some (.inr b)\/(∃ m s',m<n/\f s=some (.inl s')/\I m s')) {n:Nat} {s:σ} (h:I n s):AM f s=some b:=by
 obtain⟨c,h1,h2⟩:=PX I (fun c=>c=b) (fun n s h=>(hs n s h).imp (fun h=>⟨b,h,rfl⟩) id) n s h
 rw[h1,h2]
theorem sX (k:Nat) (hk:k<63) {a:Int} (h0:0<=a) (h1:a<=9223372036854775807):vP .and a (2 ^ k-1)=a%2 ^ k:=by
 obtain⟨n,rfl⟩:=Int.eq_ofNat_of_zero_le h0
 have e1:((2:Int) ^ k-1)=((2 ^ k-1:Nat):Int):=by
  have:0<2 ^ k:=jK k
  have h2:((2 ^ k:Nat):Int)=(2:Int) ^ k:=by push_cast;rfl
  omega
 have hp:2 ^ k<=2 ^ 62:=Nat.pow_le_pow_right (by omega) (by omega)
 have hp' :(2:Nat) ^ 62=4611686018427387904:=by decide
 have e2:(BitVec.ofInt 64 (n:Int) &&& BitVec.ofInt 64 ((2 ^ k-1:Nat):Int)).toNat=n%2 ^ k:=by
  rw[rC,BitVec.ofInt_natCast,BitVec.ofInt_natCast,oY,oY,YM (by omega),YM (by omega),AIN]
 unfold vP
 rw[e1]
 show IntKind.i64.wrap _=_
 rw[e2]
 have hl:n%2 ^ k<2 ^ k:=P9 _ (jK k)
 have:=AD (e:=((n%2 ^ k:Nat):Int)) (by omega) (by omega)
 rw[AG] at this
 rw[this]
 push_cast
 rfl
theorem uQ {α:Type} {xs:List α} {n:Nat} {v:α} (hl:xs.length=n) (h:∀ j,j<n->xs[j]? =some v):xs=List.replicate n v:=by
 apply T9
 intro j
 rw[qQ]
 split
 ·rename_i hj;exact h j hj
 ·rename_i hj;exact SO (by omega)
end Go.V3
namespace Go.Proofs.YthmiilamegpllaaGreat
open Go Go.V3
def A8:Tb:=[]
abbrev YS:Ty:= .slice .u64
abbrev AXN:Ty:= .slice .bool
abbrev A4:Type:=Int×Int×Int
abbrev pJ:Ty:= .pair AXN YS
abbrev M3:Type:=List (BitVec 64)
abbrev FC:Type:=(List Int)×Int
abbrev AK3:Type:=Int×Bool×Int
abbrev I8:Type:=(List Int)×M3
abbrev H0:Ty:= .slice (.int .i64)
abbrev AXO:Ty:= .pair H0 YS
abbrev AXP:Ty:= .pair AXN H0
abbrev V8:Type:=(List Bool)×M3
abbrev AX:Type:=Nat×Int×Int×Int
abbrev O7:Type:=Int×Int×Int×Int
abbrev BS:Type:=Int×Int×(List Int)
abbrev AXQ:Ty:= .pair (.int .i64) H0
abbrev LB:Ty:= .pair H0 (.int .i64)
abbrev AN0:Ty:= .pair (.int .i64) AXQ
abbrev O8:Ty:= .slice AN0
abbrev CE:Type:=Int×M3×(List A4)
abbrev QK:Ty:= .pair (.slice AXO) AXP
abbrev AE:Type:=Int×Int×Int×Int×Int
abbrev GC:Type:=List (List AE)
abbrev AT3:Type:=Int×AE×Int
abbrev oI:Type:=(List AE)×AK3×Bool
abbrev AHJ:Ty:= .pair (.int .i64) (.int .i64)
abbrev gE:Ty:= .pair (.int .i64) AHJ
abbrev oJ:Ty:= .slice gE
abbrev AXR:Ty:= .pair YS oJ
abbrev AT4:Ty:= .pair .NC gE
abbrev AXS:Ty:= .slice AT4
abbrev kE:Ty:= .pair (.int .i64) gE
abbrev GX:Ty:= .pair (.int .i64) kE
abbrev LC:Ty:= .slice GX
abbrev IY:Ty:= .slice LC
abbrev CN:Ty:= .pair (.int .i64) AXR
abbrev AXT:Ty:= .pair AXS (.int .i64)
abbrev M4:Ty:= .pair .str AXT
abbrev AXU:Ty:= .pair (.int .i64) GX
abbrev AXV:Ty:= .pair (.int .i64) AXU
abbrev AXW:Ty:= .pair (.int .i64) AXV
abbrev AXX:Ty:= .pair (.int .i64) AXW
abbrev AXY:Ty:= .pair AXX .bool
abbrev AXZ:Ty:= .pair (.int .i64) AXY
abbrev AY0:Ty:= .pair pJ AXZ
abbrev AY1:Ty:= .pair O8 AY0
abbrev AY2:Ty:= .pair (.int .i64) AY1
abbrev AY3:Ty:= .pair IY AY2
abbrev AY4:Ty:= .pair CN AY3
abbrev D4:Ty:= .pair M4 AY4
abbrev J1:Type:=ByteArray×(List AX)×Int
abbrev LD:Type:=(List I8)×(List Bool)×(List Int)
abbrev ACH:Ty:= .pair (.int .i64) (.pair .bool (.int .i64))
abbrev ACI:Ty:= .pair GX (.pair (.slice AHJ) (.int .i64))
abbrev AY5:Type:=Int×Int×Int×Int×Int×Int×Int×Int×Int
abbrev oK:Type:=CE×(List AE)×AE×(List (Int×Int))×Int
abbrev CU:Type:=J1×CE×GC×Int×(List BS)×V8×Int×AY5×Bool
abbrev AHK:Type:=AE×(List (Int×Int))×M3×Int×M3×(List A4)×(List AE)
def FU:List (Nat×Nat)->List Nat
 | []=>[]
 |q::r=>(List.range q.2).map (fun i=>q.1+i)++FU r
abbrev CV:=CallsV Tryz.prog A8
def EqV (i:FnI) (cx:Cx) (c:Code) (rvs:List ResultVar) (n N:Nat):Prop:=(fun x:HT i.ps=>i.F x)=fun x=>rk Tryz.prog cx c (HT (i.rs++i.os)) 1000000 (AQU Tryz.prog rvs i.cl i.pin i.bk i.os (i.rs++i.os)) (ACD i.ps i.sh x n) (wY i.ps i.mI x N)
theorem okW {f : FuncId} {fn : Func} {i : FnI} (cx : Cx) (rvs : List ResultVar) (n N : Nat) (hcx : cx.Ok Tryz.prog) (hf : Tryz.prog.funcs[f]? = some fn) (hb : fn.body = some (fn.body.getD .skip) := by rfl) (hnm : (fn.name == "runtime.NumGoroutine") = false := by kernel_rfl) (hn : fn.ntmps = n := by rfl) (hres : fn.results = rvs.toArray := by rfl) (hps : ∀ x, (foldA i.sh (outSVs i.ps x 0)).length ≤ n := by exact fun x => Nat.le_of_ble_eq_true rfl) (hst : (rvs.length = i.rs.length ∧ i.os.all okO = true ∧ i.os.length = i.bk.length ∧ (i.bk.all fun j => decide (j < cnts i.ps)) = true ∧ (i.pin.all fun q => decide (q.2.2.1 < cnts i.ps)) = true ∧ shOk i N = true) := by decide) (he : EqV i cx (fn.body.getD .skip) rvs n N := by unfold EqV; kernel_rfl) : CallsV Tryz.prog cx.tb f i := callsV_of_rk hcx hf hb hnm hn hres hps hst fun x => congrFun he x
end Go.Proofs.YthmiilamegpllaaGreat
namespace Go.V3
open Go
theorem AR {σ β:Type} {f:σ->Option (σ ⊕ β)} (I:Nat->σ->Prop) (Q:β->Prop) (n:Nat)
  (hs:∀ k s,k<n->I k s->(∃ s',f s=some (.inl s')/\I (k+1) s')\/(∃ b,f s=some (.inr b)/\Q b))
  (he:∀ s,I n s->∃ b,f s=some (.inr b)/\Q b) {s:σ} (h:I 0 s):∃ b,AM f s=some b/\Q b:=by
 refine PX (fun m s=>m<=n/\I (n-m) s) Q ?_ n s ⟨ED _,by rw[Nat.sub_self];exact h⟩
 rintro m s ⟨hm,hi⟩
 rcases Nat.eq_zero_or_pos m with rfl|h0
 ·left;exact he s (by simpa using hi)
 ·rcases hs (n-m) s (by omega) hi with ⟨s',h1,h2⟩|h1
  ·right
   refine⟨m-1,s',by omega,h1,by omega, ?_⟩
   rw[show n-(m-1)=n-m+1 from by omega];exact h2
  ·left;exact h1
abbrev Fr:Type:=Int×Int×Int
abbrev Sp:Type:=Int×List (BitVec 64)×List Fr
abbrev AH:Type:=Int×Int×Int×Int×Int
def fr (fs:List Fr) (i:Int):Fr:=gl (0,0,0) fs i.toNat
def nx (fs:List Fr) (i:Int):Int:=if 0<=i/\i<fs.length then (fr fs i).2.2 else -1
def sz (s:Int):Int:=2 ^ s.toNat
theorem CA (s:Int):0<sz s:=Int.pow_pos (by decide)
theorem AN1 {s:Int} (h:3<=s/\s<=8):sz s=8\/sz s=16\/sz s=32\/sz s=64\/sz s=128\/sz s=256:=by
 have:s=3\/s=4\/s=5\/s=6\/s=7\/s=8:=by omega
 rcases this with rfl|rfl|rfl|rfl|rfl|rfl <;> decide
theorem LF {s:Int} (h:3<=s/\s<=8):8<=sz s/\sz s<=256:=by
 have:=AN1 h;omega
theorem AUZ {s:Int} (h:3<=s/\s<=8):min (BitVec.ofInt 64 s).toNat 64=s.toNat:=by
 have:s=3\/s=4\/s=5\/s=6\/s=7\/s=8:=by omega
 rcases this with rfl|rfl|rfl|rfl|rfl|rfl <;> rfl
theorem OF {s:Int} (h:3<=s/\s<=8):(2:Int) ^ min (BitVec.ofInt 64 s).toNat 64=sz s:=by rw[AUZ h];rfl
theorem aJ {s i n:Int} (h:3<=s/\s<=8) (h0:0<=i) (h1:i<=n):0<=i*sz s/\i*sz s<=n*sz s:=by
 obtain⟨h2,h3⟩:=LF h
 exact⟨Int.mul_nonneg h0 (by omega),AAO h1 (by omega)⟩
theorem J7 {s n:Int} (h:3<=s/\s<=8) (h0:0<=n) {m:Int} (h1:n<=m):0<=n*sz s/\n*sz s<=m*256:=by
 obtain⟨h2,h3⟩:=LF h
 exact⟨Int.mul_nonneg h0 (by omega),Int.mul_le_mul h1 h3 (by omega) (by omega)⟩
theorem H2 (i s:Int):(i+1)*sz s=i*sz s+sz s:=by rw[Int.add_mul,Int.one_mul]
theorem DZ {α:Type} {d:α} {xs:List α} {k:Nat} (h:k<xs.length):gl d xs k=xs[k]:=by
 unfold gl;simp [List.getD,h]
theorem AR0 {α:Type} {d:α} {xs:List α} {k:Nat} (h:k<xs.length):xs[k]? =some (gl d xs k):=by
 rw[DZ h];exact NB h
theorem D0 {α:Type} {d:α} {xs:List α} {k j:Nat} {x:α} (h:j<xs.length):gl d (xs.set j x) k=if k=j then x else gl d xs k:=by
 unfold gl
 simp only[qP,qW]
 by_cases hk:j=k
 ·subst hk;simp [h]
 ·rw[AB hk,AB (fun e=>hk e.symm)]
theorem XA {α:Type} {d:α} {xs ys:List α} {k:Nat} (h:k<xs.length):gl d (xs++ys) k=gl d xs k:=by
 unfold gl
 rw[qP,qP,T6 h]
theorem RS {α:Type} {d:α} {n i:Nat} {v:α} (h:i<n):gl d (List.replicate n v) i=v:=by
 unfold gl;simp [List.getD,h]
theorem XB {fs:List Fr} {i j:Int} {x:Fr} (h0:0<=j) (h1:j<fs.length) (hi:0<=i):fr (fs.set j.toNat x) i=if i=j then x else fr fs i:=by
 unfold fr
 rw[D0 (by omega)]
 by_cases h:i=j
 ·subst h;simp
 ·rw[AB h,AB (by omega)]
theorem HL {fs:List Fr} {i:Int} (h0:0<=i) (h1:i<fs.length):nx fs i=(fr fs i).2.2:=by
 unfold nx;rw[AA ⟨h0,h1⟩]
theorem AV0 (fs:List Fr):nx fs (-1)= -1:=by unfold nx;rw[AB (by omega)]
def Pa (fs:List Fr):Int->List Int->Prop
 |i,[]=>i= -1
 |i,a::r=>i=a/\0<=a/\a<fs.length/\Pa fs (nx fs a) r
theorem Pa.fn {fs:List Fr}:∀ {l l' :List Int} {i:Int},Pa fs i l->Pa fs i l' ->l=l'
 | [],[],_,_,_=>rfl
 | [],a::r,i,h,h' =>by obtain⟨rfl,h0,_⟩:=h';rw[Pa] at h;omega
 |a::r,[],i,h,h' =>by obtain⟨rfl,h0,_⟩:=h;rw[Pa] at h';omega
 |a::r,b::r',i,h,h' =>by
  obtain⟨rfl,_,_,h1⟩:=h
  obtain⟨rfl,_,_,h2⟩:=h'
  rw[Pa.fn h1 h2]
theorem Pa.mem {fs:List Fr}:∀ {l:List Int} {i x:Int},Pa fs i l->x∈l->0<=x/\x<fs.length
 | [],_,_,_,hx=>by cases hx
 |a::r,i,x,h,hx=>by
  obtain⟨rfl,h0,h1,h2⟩:=h
  rcases F7.1 hx with rfl|hx
  ·exact⟨h0,h1⟩
  ·exact h2.mem hx
theorem Pa.drop {fs:List Fr}:∀ {l:List Int} {i:Int} (k:Nat),Pa fs i l->(hk:k<l.length)->Pa fs l[k] (l.drop k)
 | [],_,k,_,hk=>by simp at hk
 |a::r,i,0,h,_=>by
  obtain⟨rfl,h0,h1,h2⟩:=h
  exact⟨rfl,h0,h1,h2⟩
 |a::r,i,k+1,h,hk=>by
  obtain⟨rfl,h0,h1,h2⟩:=h
  simp only[List.getElem_cons_succ,List.drop_succ_cons]
  exact h2.drop k (by simpa using hk)
theorem Pa.nodup {fs:List Fr}:∀ {l:List Int} {i:Int},Pa fs i l->l.Nodup
 | [],_,_=>dR
 |a::r,i,h=>by
  have h' :=h
  obtain⟨rfl,h0,h1,h2⟩:=h
  refine T_.2 ⟨fun hm=> ?_,h2.nodup⟩
  obtain⟨k,hk,he⟩:=qT hm
  have h3:=h2.drop k hk
  rw[he] at h3
  have:=N5 List.length (h'.fn h3)
  simp at this
  omega
theorem QL:∀ (n:Nat) (l:List Int),l.Nodup->(∀ x∈l,0<=x/\x<n)->l.length<=n
 |0,l,_,h=>by
  cases l with
  |nil=>simp
  |cons a r=>have:=h a (by simp);omega
 |n+1,l,hd,h=>by
  have h1:=QL n (l.erase (n:Int)) (hd.erase _) (fun x hx=>by
   have h2:=(hd.mem_erase_iff).1 hx
   have:=h x h2.2
   have:=h2.1
   omega)
  rw[List.length_erase] at h1
  split at h1 <;> omega
theorem Pa.length {fs:List Fr} {l:List Int} {i:Int} (h:Pa fs i l):l.length<=fs.length:=
 QL _ _ h.nodup fun x hx=>h.mem hx
def mY (fs:List Fr):Nat->Int->Int
 |0,i=>i
 |k+1,i=>nx fs (mY fs k i)
theorem w8 (fs:List Fr) (k:Nat) (i:Int):mY fs (k+1) i=mY fs k (nx fs i):=by
 induction k with
 |zero=>rfl
 |succ k ih=>rw[mY,ih];rfl
theorem zE (fs:List Fr) (k:Nat):mY fs k (-1)= -1:=by
 induction k with
 |zero=>rfl
 |succ k ih=>rw[mY,ih,AV0]
theorem qA (fs:List Fr) (a b:Nat) (i:Int):mY fs (a+b) i=mY fs b (mY fs a i):=by
 induction b with
 |zero=>rfl
 |succ b ih=>rw[<-NI,mY,ih];rfl
def Rng (fs:List Fr):Prop:=∀ i:Int,0<=i->i<fs.length→-1<=nx fs i/\nx fs i<fs.length
theorem Pa.zF {fs:List Fr} (hr:Rng fs):∀ (k:Nat) (i:Int), -1<=i->i<fs.length->mY fs k i= -1->∃ l,Pa fs i l
 |0,i,_,_,h=>⟨[],h⟩
 |k+1,i,h0,h1,h=>by
  by_cases hi:i= -1
  ·exact⟨[],hi⟩
  ·rw[w8] at h
   obtain⟨l,hl⟩:=Pa.zF hr k (nx fs i) (hr i (by omega) h1).1 (hr i (by omega) h1).2 h
   exact⟨i::l,rfl,by omega,h1,hl⟩
theorem Pa.ends {fs:List Fr}:∀ {l:List Int} {i:Int},Pa fs i l->∀ m,l.length<=m->mY fs m i= -1
 | [],i,h,m,_=>by rw[Pa] at h;rw[h,zE]
 |a::r,i,h,m,hm=>by
  obtain⟨rfl,_,_,h2⟩:=h
  obtain⟨m,rfl⟩:∃ k,m=k+1:=⟨m-1,by simp at hm;omega⟩
  rw[w8]
  exact h2.ends m (by simpa using hm)
theorem AV1:∀ (n:Nat) (f:Nat->Int),(∀ k,k<=n->0<=f k/\f k<n)->∃ a b,a<b/\b<=n/\f a=f b:=by
 intro n f h
 have hd:¬((List.range (n+1)).map f).Nodup:=fun hd=>by
  have:=QL n _ hd (fun x hx=>by
   obtain⟨k,hk,rfl⟩:=C0.1 hx
   exact h k (by have:=l9.1 hk;omega))
  simp at this
  omega
 rw[List.nodup_iff_pairwise_ne,AE8] at hd
 simp only[WW,List.length_range,qX,List.getElem_range,Classical.not_forall] at hd
 obtain⟨a,b,ha,hb,wF,he⟩:=hd
 exact⟨a,b,wF,by omega,by simpa using he⟩
theorem Pa.ACJ {fs:List Fr} (hr:Rng fs) (h:∀ i:Int,0<=i->i<fs.length->∀ k:Nat,1<=k->k<=fs.length->mY fs k i≠i) (i:Int) (h0:0<=i) (h1:i<fs.length):∃ l,Pa fs i l:=by
 refine Pa.zF hr (fs.length) i (by omega) h1 ?_
 apply uB
 intro hn
 have ND:∀ k,k<=fs.length->0<=mY fs k i/\mY fs k i<fs.length:=by
  intro k
  induction k with
  |zero=>exact fun _=>⟨h0,h1⟩
  |succ k ih=>
   intro hk
   obtain⟨h2,h3⟩:=ih (by omega)
   have h4:=hr _ h2 h3
   refine⟨?_,h4.2⟩
   have h5:mY fs (k+1) i≠-1:=by
    intro h6
    obtain⟨d,hd⟩:=Nat.exists_eq_add_of_le hk
    rw[hd,qA,h6,zE] at hn
    exact hn rfl
   rw[mY] at h5 ⊢
   omega
 obtain⟨a,b,wF,hb,he⟩:=AV1 fs.length (fun k=>mY fs k i) ND
 obtain⟨d,rfl⟩:=Nat.exists_eq_add_of_le (Nat.le_of_lt wF)
 simp only[qA] at he
 obtain⟨h2,h3⟩:=ND a (by omega)
 exact h _ h2 h3 d (by omega) (by omega) he.symm
theorem Pa.AN2 {fs:List Fr} {l:List Int} {i:Int} (h:Pa fs i l) (h0:0<=i) (k:Nat) (hk:1<=k):mY fs k i≠i:=by
 intro he
 have hm:∀ m:Nat,mY fs (m*k) i=i:=by
  intro m
  induction m with
  |zero=>rw[Nat.zero_mul];rfl
  |succ m ih=>rw[Nat.succ_mul,qA,ih,he]
 have h1:=h.ends (l.length*k) (Nat.le_mul_of_pos_right _ hk)
 rw[hm] at h1
 omega
def Stamped (f:Fr):Prop:=0<=f.1/\f.1<=4294967295/\∃ b:Int,0<=b/\b<4/\f.2.1=f.1+b*4294967296
def AK4 (f:Fr):Prop:=f=(-1, -1, -1)
def Zero (s:Sp) (i:Int):Prop:=∀ a:Nat,i*sz s.1<=a->(a:Int)<(i+1)*sz s.1->gl 0#64 s.2.1 a=0#64
def XC (fs:List Fr) (i:Int):Prop:=
 Stamped (fr fs i)∧-1<=(fr fs i).2.2/\(fr fs i).2.2<fs.length/\(fr fs i).2.2≠i/\((fr fs i).2.2≠-1->(fr fs (fr fs i).2.2).1=(fr fs i).1/\(fr fs (fr fs i).2.2).2.1=(fr fs i).2.1)
def AR1 (s:Sp) (i:Int):Prop:=(AK4 (fr s.2.2 i)/\Zero s i)\/XC s.2.2 i
structure VS (s:Sp):Prop where
 sh:3<=s.1/\s.1<=8
 n:2<=s.2.2.length/\s.2.2.length<=64
 w:(s.2.1.length:Int)=s.2.2.length*sz s.1
 fr:∀ i:Int,0<=i->i<s.2.2.length->AR1 s i
 inj:∀ i j:Int,0<=i->i<s.2.2.length->0<=j->j<s.2.2.length->nx s.2.2 i=nx s.2.2 j->nx s.2.2 i≠-1->i=j
 acy:∀ i:Int,0<=i->i<s.2.2.length->∃ l,Pa s.2.2 i l
theorem ACK (x:BitVec 64) (n:Nat):(x >>> n) &&& 1#64=1#64↔x.getLsbD n=true:=by
 constructor
 ·intro h
  have:=N5 (fun v=>v.getLsbD 0) h
  simpa using this
 ·intro h
  apply BitVec.eq_of_getLsbD_eq
  intro i hi
  simp only[BitVec.getLsbD_and,BitVec.getLsbD_ushiftRight,BitVec.getLsbD_one]
  by_cases h0:i=0
  ·subst h0;simp [h]
  ·simp [h0]
theorem AHL (x:BitVec 64) {m:Nat} (j:Nat) (hm:m<64):(x|||(1#64 <<< m)).getLsbD j=(x.getLsbD j||decide (m=j)):=by
 simp only[BitVec.getLsbD_or,BitVec.getLsbD_shiftLeft,BitVec.getLsbD_one]
 congr 1
 rw[gO]
 simp
 omega
theorem w9 {i:Int} (h0:0<=i) (h1:i<64):(BitVec.ofInt 64 i).toNat=i.toNat:=by
 rw[qV]
 congr 1
 exact Int.emod_eq_of_lt h0 (by omega)
theorem AHM {α:Type} {d:α} {xs:List α} {lo n j:Nat} (h:j<n):gl d (BX xs lo n) j=gl d xs (lo+j):=by
 unfold gl BX
 simp only[qP,jG,ZQ]
 rw[AA h]
theorem ACL {α:Type} {xs:List α} {lo n:Nat} (h:lo+n<=xs.length):(BX xs lo n).length=n:=by
 unfold BX;simp;omega
end Go.V3
set_option maxRecDepth 100000
namespace Go.Proofs.YthmiilamegpllaaGreat
open Go Go.V3
noncomputable section
def IZ (a0:Int) (a1:Int):Option Int:=
if ¬a1=0 then
if (Int.tmod a0 a1)<0 then
some (AG ((Int.tmod a0 a1)+a1))
else some (Int.tmod a0 a1)
else none
@[reducible] def OG:FnI:={ ps:=[⟨(.int .i64),false,false,false⟩,⟨(.int .i64),false,false,false⟩],rs:=[⟨(.int .i64),false,true,false⟩],os:=[],bk:=[],F:=fun x=>IZ x.1 x.2 }
def kF:Cx:={ nm:=[],AL:=[],fns:=BA [],loops:=[],AO:=[],tb:=A8,exts:=[],lets:=[] }
theorem TI:CV 14 OG:=okW kF [.tmp 4] 15 0 (BB AN.nil A3.nil) Tryz.func14
def L5 (a0:(List Int)):Option FC:=
some ((a0,0))
@[reducible] def UT:FnI:={ ps:=[⟨H0,false,false,false⟩],rs:=[⟨LB,true,false,true⟩],os:=[],bk:=[],F:=fun x=>L5 x }
def kG:Cx:={ nm:=[(5,(1,1))],AL:=[],fns:=BA [],loops:=[],AO:=[],tb:=A8,exts:=[],lets:=[] }
theorem iD:CV 11 UT:=okW kG [.tmp 2] 6 1 (BB AN.nil A3.nil) Tryz.func11
def E3 (a0:Int):Option Bool:=
if a0≥3 then
some (decide (a0<=8))
else some (false)
@[reducible] def HM:FnI:={ ps:=[⟨(.int .i64),false,false,false⟩],rs:=[⟨.bool,false,true,false⟩],os:=[],bk:=[],F:=fun x=>E3 x }
def aK:Cx:={ nm:=[],AL:=[],fns:=BA [],loops:=[],AO:=[],tb:=A8,exts:=[],lets:=[] }
theorem KA:CV 82 HM:=okW aK [.tmp 2] 9 0 (BB AN.nil A3.nil) Tryz.func82
def DH (a0:A4):Option Bool:=
if a0.1<0 then
some (false)
else if a0.1>4294967295 then
some (false)
else AM (σ:=Int) (β:=Bool) (fun s1=>
if s1<4 then
if a0.2.1=(AG (a0.1+(AG (s1*4294967296)))) then
some (Sum.inr (true))
else some (Sum.inl (AG (s1+1)))
else some (Sum.inr (false))) (0)
@[reducible] def OH:FnI:={ ps:=[⟨gE,true,false,false⟩],rs:=[⟨.bool,false,true,false⟩],os:=[],bk:=[],F:=fun x=>DH x }
def XD:Cx:={ nm:=[(1,(0,1))],AL:=[],fns:=BA [],loops:=[(0,{ live:=[(3,⟨(.int .i64),false,false,false⟩)],boxes:=[],rows:=[],dead:=FU [(2,1),(12,12)],lost:=[],base:=1 })],AO:=[],tb:=A8,exts:=[],lets:=[] }
theorem V9:CV 117 OH:=okW XD [.tmp 2] 24 1 (BB AN.nil A3.nil) Tryz.func117
def GD (a0:CE):Option Bool:=
Option.bind (E3 a0.1) (fun r1=>
if (!r1)=true then
some (false)
else if (a0.2.2.length:Int)<2 then
some (false)
else if (a0.2.2.length:Int)>64 then
some (false)
else if True then
if ¬(a0.2.1.length:Int)=(AG ((a0.2.2.length:Int)*2 ^ min (BitVec.ofInt 64 a0.1).toNat 64)) then
some (false)
else AM (σ:=(Int×(List Int))) (β:=Bool) (fun s1=>
if s1.1<(a0.2.2.length:Int) then
if 0<=s1.1/\s1.1<(a0.2.2.length:Int) then
if ((gl ((0,0,0):A4) a0.2.2 s1.1.toNat).1)=(-1) then
if (((gl ((0,0,0):A4) a0.2.2 s1.1.toNat).2).1)=(-1) then
if (((gl ((0,0,0):A4) a0.2.2 s1.1.toNat).2).2)=(-1) then
if True then
AM (σ:=Int) (β:=((Int×(List Int)) ⊕ Bool)) (fun s2=>
if True then
if s2<(AG ((AG (s1.1+1))*2 ^ min (BitVec.ofInt 64 a0.1).toNat 64)) then
if 0<=s2/\s2<(a0.2.1.length:Int) then
if ¬(gl (0#64:(BitVec 64)) a0.2.1 s2.toNat)=(0#64) then
some (Sum.inr (Sum.inr (false)))
else some (Sum.inl (AG (s2+1)))
else none
else some (Sum.inr (Sum.inl ((AG (s1.1+1),s1.2))))
else none) (AG (s1.1*2 ^ min (BitVec.ofInt 64 a0.1).toNat 64))
else none
else Option.bind (DH ((gl ((0,0,0):A4) a0.2.2 s1.1.toNat).1,((gl ((0,0,0):A4) a0.2.2 s1.1.toNat).2))) (fun r2=>
if (!r2)=true then
some (Sum.inr (false))
else if (((gl ((0,0,0):A4) a0.2.2 s1.1.toNat).2).2)<(-1) then
some (Sum.inr (false))
else if (((gl ((0,0,0):A4) a0.2.2 s1.1.toNat).2).2)≥(a0.2.2.length:Int) then
some (Sum.inr (false))
else if (((gl ((0,0,0):A4) a0.2.2 s1.1.toNat).2).2)=s1.1 then
some (Sum.inr (false))
else if (((gl ((0,0,0):A4) a0.2.2 s1.1.toNat).2).2)=(-1) then
some (Sum.inl ((AG (s1.1+1),s1.2)))
else if 0<=(((gl ((0,0,0):A4) a0.2.2 s1.1.toNat).2).2)/\(((gl ((0,0,0):A4) a0.2.2 s1.1.toNat).2).2)<(a0.2.2.length:Int) then
if (0<=(((gl ((0,0,0):A4) a0.2.2 s1.1.toNat).2).2)/\(((gl ((0,0,0):A4) a0.2.2 s1.1.toNat).2).2)<((64:Nat):Int))/\(((gl ((0,0,0):A4) a0.2.2 s1.1.toNat).2).2)<(s1.2.length:Int) then
if (0<=(((gl ((0,0,0):A4) a0.2.2 s1.1.toNat).2).2)/\(((gl ((0,0,0):A4) a0.2.2 s1.1.toNat).2).2)<((64:Nat):Int))/\(((gl ((0,0,0):A4) a0.2.2 s1.1.toNat).2).2)<(s1.2.length:Int) then
if ¬((gl ((0,0,0):A4) a0.2.2 ((((gl ((0,0,0):A4) a0.2.2 s1.1.toNat).2).2).toNat)).1)=((gl ((0,0,0):A4) a0.2.2 s1.1.toNat).1) then
some (Sum.inr (false))
else if ¬(((gl ((0,0,0):A4) a0.2.2 ((((gl ((0,0,0):A4) a0.2.2 s1.1.toNat).2).2).toNat)).2).1)=(((gl ((0,0,0):A4) a0.2.2 s1.1.toNat).2).1) then
some (Sum.inr (false))
else if (0<=(((gl ((0,0,0):A4) a0.2.2 s1.1.toNat).2).2)/\(((gl ((0,0,0):A4) a0.2.2 s1.1.toNat).2).2)<((64:Nat):Int))/\(((gl ((0,0,0):A4) a0.2.2 s1.1.toNat).2).2)<((s1.2.set ((((gl ((0,0,0):A4) a0.2.2 s1.1.toNat).2).2).toNat) (AG ((gl (0:Int) s1.2 ((((gl ((0,0,0):A4) a0.2.2 s1.1.toNat).2).2).toNat))+1))).length:Int) then
if (gl (0:Int) (s1.2.set ((((gl ((0,0,0):A4) a0.2.2 s1.1.toNat).2).2).toNat) (AG ((gl (0:Int) s1.2 ((((gl ((0,0,0):A4) a0.2.2 s1.1.toNat).2).2).toNat))+1))) ((((gl ((0,0,0):A4) a0.2.2 s1.1.toNat).2).2).toNat))>1 then
some (Sum.inr (false))
else some (Sum.inl ((AG (s1.1+1),s1.2.set ((((gl ((0,0,0):A4) a0.2.2 s1.1.toNat).2).2).toNat) (AG ((gl (0:Int) s1.2 ((((gl ((0,0,0):A4) a0.2.2 s1.1.toNat).2).2).toNat))+1)))))
else none
else none
else none
else none)
else Option.bind (DH ((gl ((0,0,0):A4) a0.2.2 s1.1.toNat).1,((gl ((0,0,0):A4) a0.2.2 s1.1.toNat).2))) (fun r3=>
if (!r3)=true then
some (Sum.inr (false))
else if (((gl ((0,0,0):A4) a0.2.2 s1.1.toNat).2).2)<(-1) then
some (Sum.inr (false))
else if (((gl ((0,0,0):A4) a0.2.2 s1.1.toNat).2).2)≥(a0.2.2.length:Int) then
some (Sum.inr (false))
else if (((gl ((0,0,0):A4) a0.2.2 s1.1.toNat).2).2)=s1.1 then
some (Sum.inr (false))
else if (((gl ((0,0,0):A4) a0.2.2 s1.1.toNat).2).2)=(-1) then
some (Sum.inl ((AG (s1.1+1),s1.2)))
else if 0<=(((gl ((0,0,0):A4) a0.2.2 s1.1.toNat).2).2)/\(((gl ((0,0,0):A4) a0.2.2 s1.1.toNat).2).2)<(a0.2.2.length:Int) then
if (0<=(((gl ((0,0,0):A4) a0.2.2 s1.1.toNat).2).2)/\(((gl ((0,0,0):A4) a0.2.2 s1.1.toNat).2).2)<((64:Nat):Int))/\(((gl ((0,0,0):A4) a0.2.2 s1.1.toNat).2).2)<(s1.2.length:Int) then
if (0<=(((gl ((0,0,0):A4) a0.2.2 s1.1.toNat).2).2)/\(((gl ((0,0,0):A4) a0.2.2 s1.1.toNat).2).2)<((64:Nat):Int))/\(((gl ((0,0,0):A4) a0.2.2 s1.1.toNat).2).2)<(s1.2.length:Int) then
if ¬((gl ((0,0,0):A4) a0.2.2 ((((gl ((0,0,0):A4) a0.2.2 s1.1.toNat).2).2).toNat)).1)=((gl ((0,0,0):A4) a0.2.2 s1.1.toNat).1) then
some (Sum.inr (false))
else if ¬(((gl ((0,0,0):A4) a0.2.2 ((((gl ((0,0,0):A4) a0.2.2 s1.1.toNat).2).2).toNat)).2).1)=(((gl ((0,0,0):A4) a0.2.2 s1.1.toNat).2).1) then
some (Sum.inr (false))
else if (0<=(((gl ((0,0,0):A4) a0.2.2 s1.1.toNat).2).2)/\(((gl ((0,0,0):A4) a0.2.2 s1.1.toNat).2).2)<((64:Nat):Int))/\(((gl ((0,0,0):A4) a0.2.2 s1.1.toNat).2).2)<((s1.2.set ((((gl ((0,0,0):A4) a0.2.2 s1.1.toNat).2).2).toNat) (AG ((gl (0:Int) s1.2 ((((gl ((0,0,0):A4) a0.2.2 s1.1.toNat).2).2).toNat))+1))).length:Int) then
if (gl (0:Int) (s1.2.set ((((gl ((0,0,0):A4) a0.2.2 s1.1.toNat).2).2).toNat) (AG ((gl (0:Int) s1.2 ((((gl ((0,0,0):A4) a0.2.2 s1.1.toNat).2).2).toNat))+1))) ((((gl ((0,0,0):A4) a0.2.2 s1.1.toNat).2).2).toNat))>1 then
some (Sum.inr (false))
else some (Sum.inl ((AG (s1.1+1),s1.2.set ((((gl ((0,0,0):A4) a0.2.2 s1.1.toNat).2).2).toNat) (AG ((gl (0:Int) s1.2 ((((gl ((0,0,0):A4) a0.2.2 s1.1.toNat).2).2).toNat))+1)))))
else none
else none
else none
else none)
else Option.bind (DH ((gl ((0,0,0):A4) a0.2.2 s1.1.toNat).1,((gl ((0,0,0):A4) a0.2.2 s1.1.toNat).2))) (fun r4=>
if (!r4)=true then
some (Sum.inr (false))
else if (((gl ((0,0,0):A4) a0.2.2 s1.1.toNat).2).2)<(-1) then
some (Sum.inr (false))
else if (((gl ((0,0,0):A4) a0.2.2 s1.1.toNat).2).2)≥(a0.2.2.length:Int) then
some (Sum.inr (false))
else if (((gl ((0,0,0):A4) a0.2.2 s1.1.toNat).2).2)=s1.1 then
some (Sum.inr (false))
else if (((gl ((0,0,0):A4) a0.2.2 s1.1.toNat).2).2)=(-1) then
some (Sum.inl ((AG (s1.1+1),s1.2)))
else if 0<=(((gl ((0,0,0):A4) a0.2.2 s1.1.toNat).2).2)/\(((gl ((0,0,0):A4) a0.2.2 s1.1.toNat).2).2)<(a0.2.2.length:Int) then
if (0<=(((gl ((0,0,0):A4) a0.2.2 s1.1.toNat).2).2)/\(((gl ((0,0,0):A4) a0.2.2 s1.1.toNat).2).2)<((64:Nat):Int))/\(((gl ((0,0,0):A4) a0.2.2 s1.1.toNat).2).2)<(s1.2.length:Int) then
if (0<=(((gl ((0,0,0):A4) a0.2.2 s1.1.toNat).2).2)/\(((gl ((0,0,0):A4) a0.2.2 s1.1.toNat).2).2)<((64:Nat):Int))/\(((gl ((0,0,0):A4) a0.2.2 s1.1.toNat).2).2)<(s1.2.length:Int) then
if ¬((gl ((0,0,0):A4) a0.2.2 ((((gl ((0,0,0):A4) a0.2.2 s1.1.toNat).2).2).toNat)).1)=((gl ((0,0,0):A4) a0.2.2 s1.1.toNat).1) then
some (Sum.inr (false))
else if ¬(((gl ((0,0,0):A4) a0.2.2 ((((gl ((0,0,0):A4) a0.2.2 s1.1.toNat).2).2).toNat)).2).1)=(((gl ((0,0,0):A4) a0.2.2 s1.1.toNat).2).1) then
some (Sum.inr (false))
else if (0<=(((gl ((0,0,0):A4) a0.2.2 s1.1.toNat).2).2)/\(((gl ((0,0,0):A4) a0.2.2 s1.1.toNat).2).2)<((64:Nat):Int))/\(((gl ((0,0,0):A4) a0.2.2 s1.1.toNat).2).2)<((s1.2.set ((((gl ((0,0,0):A4) a0.2.2 s1.1.toNat).2).2).toNat) (AG ((gl (0:Int) s1.2 ((((gl ((0,0,0):A4) a0.2.2 s1.1.toNat).2).2).toNat))+1))).length:Int) then
if (gl (0:Int) (s1.2.set ((((gl ((0,0,0):A4) a0.2.2 s1.1.toNat).2).2).toNat) (AG ((gl (0:Int) s1.2 ((((gl ((0,0,0):A4) a0.2.2 s1.1.toNat).2).2).toNat))+1))) ((((gl ((0,0,0):A4) a0.2.2 s1.1.toNat).2).2).toNat))>1 then
some (Sum.inr (false))
else some (Sum.inl ((AG (s1.1+1),s1.2.set ((((gl ((0,0,0):A4) a0.2.2 s1.1.toNat).2).2).toNat) (AG ((gl (0:Int) s1.2 ((((gl ((0,0,0):A4) a0.2.2 s1.1.toNat).2).2).toNat))+1)))))
else none
else none
else none
else none)
else none
else Option.map Sum.inr (AM (σ:=Int) (β:=Bool) (fun s3=>
if s3<(a0.2.2.length:Int) then
AM (σ:=(Int×Int)) (β:=(Int ⊕ Bool)) (fun s4=>
if s4.2<=(a0.2.2.length:Int) then
if ¬s4.1=(-1) then
if 0<=s4.1/\s4.1<(a0.2.2.length:Int) then
some (Sum.inl ((((gl ((0,0,0):A4) a0.2.2 s4.1.toNat).2).2,AG (s4.2+1))))
else none
else Option.map Sum.inr (if ¬s4.1=(-1) then
some (Sum.inr (false))
else some (Sum.inl (AG (s3+1))))
else Option.map Sum.inr (if ¬s4.1=(-1) then
some (Sum.inr (false))
else some (Sum.inl (AG (s3+1))))) ((s3,0))
else some (Sum.inr (true))) (0))) ((0,List.replicate 64 (0:Int)))
else none)
@[reducible] def QM:FnI:={ ps:=[⟨CN,true,false,false⟩],rs:=[⟨.bool,false,true,false⟩],os:=[],bk:=[],F:=fun x=>GD x }
def aL:Cx:={ nm:=[(1,(2,1)),(4,(3,1)),(6,(4,1)),(8,(5,1))],AL:=[4],fns:=BA [(82,HM),(117,OH)],loops:=[(0,{ live:=[(41,⟨(.int .i64),false,false,false⟩)],boxes:=[],rows:=[(3,(.int .i64))],dead:=FU [(2,1),(5,4),(42,93)],lost:=[],base:=4 }),(2,{ live:=[(7,⟨(.int .i64),false,false,false⟩)],boxes:=[],rows:=[],dead:=FU [(2,1),(64,16)],lost:=[],base:=5 }),(4,{ live:=[(138,⟨(.int .i64),false,false,false⟩)],boxes:=[],rows:=[],dead:=FU [(2,1),(9,3),(139,21)],lost:=[],base:=6 }),(6,{ live:=[(10,⟨(.int .i64),false,false,false⟩),(11,⟨(.int .i64),false,false,false⟩)],boxes:=[],rows:=[],dead:=FU [(142,15)],lost:=[],base:=6 })],AO:=[],tb:=A8,exts:=[],lets:=[] }
theorem YT:CV 79 QM:=okW aL [.tmp 2] 160 4 (BB (.cons KA (.cons V9 AN.nil)) A3.nil) Tryz.func79
def KO (a0:Int) (a1:Int):Option (CE×Int):=
Option.bind (E3 a0) (fun r1=>
if (!r1)=true then
some (((0,[],[]),1))
else if a1<2 then
some (((0,[],[]),1))
else if a1>64 then
some (((0,[],[]),1))
else if True then
if 0<=(AG (a1*2 ^ min (BitVec.ofInt 64 a0).toNat 64))/\(AG (a1*2 ^ min (BitVec.ofInt 64 a0).toNat 64))<=(AG (a1*2 ^ min (BitVec.ofInt 64 a0).toNat 64))/\(AG (a1*2 ^ min (BitVec.ofInt 64 a0).toNat 64))*((8:Nat):Int)<=140737488355328 then
if 0<=a1/\a1<=a1/\a1*((24:Nat):Int)<=140737488355328 then
AM (σ:=(Int×(List A4))) (β:=(CE×Int)) (fun s1=>
if s1.1<((List.replicate a1.toNat ((0,0,0):A4)).length:Int) then
if 0<=s1.1/\s1.1<(s1.2.length:Int) then
some (Sum.inl ((AG (s1.1+1),s1.2.set s1.1.toNat ((-1),(-1),(-1)))))
else none
else some (Sum.inr (((a0,List.replicate (AG (a1*2 ^ min (BitVec.ofInt 64 a0).toNat 64)).toNat (0#64:(BitVec 64)),s1.2),0)))) ((0,List.replicate a1.toNat ((0,0,0):A4)))
else none
else none
else none)
@[reducible] def TJ:FnI:={ ps:=[⟨(.int .i64),false,false,false⟩,⟨(.int .i64),false,false,false⟩],rs:=[⟨CN,true,true,false⟩,⟨(.int .i64),false,true,false⟩],os:=[],bk:=[],F:=fun x=>KO x.1 x.2 }
def iE:Cx:={ nm:=[(4,(0,1)),(6,(3,1)),(25,(1,1)),(27,(2,1))],AL:=[25,27],fns:=BA [(82,HM)],loops:=[(0,{ live:=[(32,⟨(.int .i64),false,false,false⟩)],boxes:=[],rows:=[(2,gE)],dead:=FU [(7,1),(33,8)],lost:=[],base:=4 })],AO:=[],tb:=A8,exts:=[],lets:=[] }
theorem dV:CV 52 TJ:=okW iE [.cell 4 28,.tmp 5] 42 4 (BB (.cons KA AN.nil) A3.nil) Tryz.func52
def H_ (a0:CE) (a1:Int):Option (List Int):=
AM (σ:=FC) (β:=(List Int)) (fun s1=>
if ¬s1.2=(-1) then
if (s1.1.length+([s1.2]:List Int).length)*8<=140737488355328 then
if 0<=s1.2/\s1.2<(a0.2.2.length:Int) then
some (Sum.inl ((s1.1++([s1.2]:List Int),((gl ((0,0,0):A4) a0.2.2 s1.2.toNat).2).2)))
else none
else none
else some (Sum.inr (s1.1))) (([],a1))
@[reducible] def QN:FnI:={ ps:=[⟨CN,true,false,false⟩,⟨(.int .i64),false,false,false⟩],rs:=[⟨H0,false,true,false⟩],os:=[],bk:=[],F:=fun x=>H_ x.1 x.2 }
def aM:Cx:={ nm:=[(2,(2,1)),(18,(4,1)),(19,(5,1))],AL:=[19],fns:=BA [],loops:=[(0,{ live:=[(5,⟨H0,false,true,false⟩),(6,⟨(.int .i64),false,false,false⟩)],boxes:=[],rows:=[],dead:=FU [(8,12)],lost:=[],base:=3 })],AO:=[],tb:=A8,exts:=[],lets:=[] }
theorem YU:CV 118 QN:=okW aM [.tmp 4] 21 4 (BB AN.nil A3.nil) Tryz.func118
def G8 (a0:Int) (a1:Int):Option Int:=
if a0<0 then
some (0)
else if a0>1099511627776 then
some (0)
else if a1<0 then
some (0)
else if a1>20 then
some (0)
else if True then
if True then
some ((AG ((AG (a0+(AG ((1:Int)*2 ^ min (BitVec.ofInt 64 a1).toNat 64))))-1)) / 2 ^ min (BitVec.ofInt 64 a1).toNat 64)
else none
else none
@[reducible] def MF:FnI:={ ps:=[⟨(.int .i64),false,false,false⟩,⟨(.int .i64),false,false,false⟩],rs:=[⟨(.int .i64),false,true,false⟩],os:=[],bk:=[],F:=fun x=>G8 x.1 x.2 }
def dW:Cx:={ nm:=[],AL:=[],fns:=BA [],loops:=[],AO:=[],tb:=A8,exts:=[],lets:=[] }
theorem QO:CV 50 MF:=okW dW [.tmp 4] 28 0 (BB AN.nil A3.nil) Tryz.func50
def BW (a0:CE) (a1:AE):Option Int:=
Option.bind (G8 a1.2.2.2.2 a0.1) (fun r1=>
some (r1))
@[reducible] def DI:FnI:={ ps:=[⟨CN,true,false,false⟩,⟨GX,true,false,false⟩],rs:=[⟨(.int .i64),false,true,false⟩],os:=[],bk:=[],F:=fun x=>BW x.1 x.2 }
def YV:Cx:={ nm:=[(2,(2,1)),(3,(3,1))],AL:=[],fns:=BA [(50,MF)],loops:=[],AO:=[],tb:=A8,exts:=[],lets:=[] }
theorem D1:CV 46 DI:=okW YV [.tmp 4] 10 2 (BB (.cons QO AN.nil) A3.nil) Tryz.func46
def JE (a0:CE) (a1:AE):Option Bool:=
if a1.1<0 then
some (false)
else if a1.1>4294967295 then
some (false)
else if a1.2.1<0 then
some (false)
else if a1.2.1≥4 then
some (false)
else if a1.2.2.2.2<0 then
some (false)
else if a1.2.2.2.2>(a0.2.1.length:Int) then
some (false)
else if a1.2.2.2.2=0 then
if a1.2.2.1=(-1) then
some (decide (a1.2.2.2.1=(-1)))
else some (false)
else if a1.2.2.1<0 then
some (false)
else if a1.2.2.1≥(a0.2.2.length:Int) then
some (false)
else if 0<=a1.2.2.1/\a1.2.2.1<(a0.2.2.length:Int) then
if ¬((gl ((0,0,0):A4) a0.2.2 a1.2.2.1.toNat).1)=a1.1 then
some (false)
else if ¬(((gl ((0,0,0):A4) a0.2.2 a1.2.2.1.toNat).2).1)=(AG ((AG (a1.2.1*4294967296))+a1.1)) then
some (false)
else Option.bind (H_ a0 a1.2.2.1) (fun r1=>
AM (σ:=(Int×Int)) (β:=Bool) (fun s1=>
if s1.2<(a0.2.2.length:Int) then
if 0<=s1.2/\s1.2<(a0.2.2.length:Int) then
if ((gl ((0,0,0):A4) a0.2.2 s1.2.toNat).1)=a1.1 then
some (Sum.inl ((AG (s1.1+1),AG (s1.2+1))))
else some (Sum.inl ((s1.1,AG (s1.2+1))))
else none
else Option.map Sum.inr (Option.bind (BW a0 a1) (fun r2=>
if (r1.length:Int)=r2 then
if (r1.length:Int)=s1.1 then
if 0<=(AG ((r1.length:Int)-1))/\(AG ((r1.length:Int)-1))<(r1.length:Int) then
some (decide ((gl (0:Int) r1 ((AG ((r1.length:Int)-1)).toNat))=a1.2.2.2.1))
else none
else some (false)
else some (false)))) ((0,0)))
else none
@[reducible] def R4:FnI:={ ps:=[⟨CN,true,false,false⟩,⟨GX,true,false,false⟩],rs:=[⟨.bool,false,true,false⟩],os:=[],bk:=[],F:=fun x=>JE x.1 x.2 }
def dX:Cx:={ nm:=[(2,(2,1)),(3,(3,1)),(5,(4,1)),(9,(6,1)),(88,(5,1))],AL:=[],fns:=BA [(46,DI),(118,QN)],loops:=[(0,{ live:=[(7,⟨(.int .i64),false,false,false⟩),(92,⟨(.int .i64),false,false,false⟩)],boxes:=[],rows:=[],dead:=FU [(9,1),(93,11)],lost:=[],base:=6 })],AO:=[],tb:=A8,exts:=[],lets:=[] }
theorem aN:CV 84 R4:=okW dX [.tmp 4] 127 5 (BB (.cons D1 (.cons YU AN.nil)) A3.nil) Tryz.func84
def IA (a0:CE) (a1:AE):Option Bool:=
Option.bind (GD a0) (fun r1=>
if r1=true then
Option.bind (JE a0 a1) (fun r2=>
some (r2))
else some (false))
@[reducible] def QP:FnI:={ ps:=[⟨CN,true,false,false⟩,⟨GX,true,false,false⟩],rs:=[⟨.bool,false,true,false⟩],os:=[],bk:=[],F:=fun x=>IA x.1 x.2 }
def aO:Cx:={ nm:=[(2,(2,1)),(3,(3,1))],AL:=[],fns:=BA [(79,QM),(84,R4)],loops:=[],AO:=[],tb:=A8,exts:=[],lets:=[] }
theorem YW:CV 47 QP:=okW aO [.tmp 4] 12 2 (BB (.cons YT (.cons aN AN.nil)) A3.nil) Tryz.func47
def JF (a0:CE) (a1:Int):Option Bool:=
AM (σ:=Int) (β:=Bool) (fun s1=>
if s1<(a0.2.2.length:Int) then
if 0<=s1/\s1<(a0.2.2.length:Int) then
if ((gl ((0,0,0):A4) a0.2.2 s1.toNat).1)=a1 then
some (Sum.inr (true))
else some (Sum.inl (AG (s1+1)))
else none
else some (Sum.inr (false))) (0)
@[reducible] def R5:FnI:={ ps:=[⟨CN,true,false,false⟩,⟨(.int .i64),false,false,false⟩],rs:=[⟨.bool,false,true,false⟩],os:=[],bk:=[],F:=fun x=>JF x.1 x.2 }
def dY:Cx:={ nm:=[(2,(2,1)),(6,(3,1))],AL:=[],fns:=BA [],loops:=[(0,{ live:=[(10,⟨(.int .i64),false,false,false⟩)],boxes:=[],rows:=[],dead:=FU [(4,1),(6,1),(11,8)],lost:=[],base:=3 })],AO:=[],tb:=A8,exts:=[],lets:=[] }
theorem aP:CV 48 R5:=okW dY [.tmp 4] 19 2 (BB AN.nil A3.nil) Tryz.func48
def IB (a0:M3):Option M3:=
if (([]:List (BitVec 64)).length+a0.length)*8<=140737488355328 then
some (([]:List (BitVec 64))++a0)
else none
@[reducible] def QQ:FnI:={ ps:=[⟨YS,false,false,false⟩],rs:=[⟨YS,false,true,false⟩],os:=[],bk:=[],F:=fun x=>IB x }
def aQ:Cx:={ nm:=[(4,(1,1))],AL:=[4],fns:=BA [],loops:=[],AO:=[],tb:=A8,exts:=[],lets:=[] }
theorem YX:CV 63 QQ:=okW aQ [.tmp 2] 5 1 (BB AN.nil A3.nil) Tryz.func63
def DO (a0:CE):Option CE:=
Option.bind (IB a0.2.1) (fun r1=>
if (([]:List A4).length+a0.2.2.length)*24<=140737488355328 then
some ((a0.1,r1,([]:List A4)++a0.2.2))
else none)
@[reducible] def MG:FnI:={ ps:=[⟨CN,true,false,false⟩],rs:=[⟨CN,true,true,false⟩],os:=[],bk:=[],F:=fun x=>DO x }
def dZ:Cx:={ nm:=[(1,(2,1)),(2,(3,1)),(7,(4,1)),(10,(5,1))],AL:=[10],fns:=BA [(63,QQ)],loops:=[],AO:=[],tb:=A8,exts:=[],lets:=[] }
theorem QR:CV 30 MG:=okW dZ [.cell 2 28] 12 4 (BB (.cons YX AN.nil) A3.nil) Tryz.func30
def D6 (a0:CE) (a1:AE) (a2:Int):Option Int:=
Option.bind (G8 (AG (a1.2.2.2.2+a2)) a0.1) (fun r1=>
Option.bind (BW a0 a1) (fun r2=>
some (AG (r1-r2))))
@[reducible] def HN:FnI:={ ps:=[⟨CN,true,false,false⟩,⟨GX,true,false,false⟩,⟨(.int .i64),false,false,false⟩],rs:=[⟨(.int .i64),false,true,false⟩],os:=[],bk:=[],F:=fun x=>D6 x.1 x.2.1 x.2.2 }
def aR:Cx:={ nm:=[(3,(2,1)),(4,(3,1))],AL:=[],fns:=BA [(46,DI),(50,MF)],loops:=[],AO:=[],tb:=A8,exts:=[],lets:=[] }
theorem KB:CV 22 HN:=okW aR [.tmp 6] 18 2 (BB (.cons D1 (.cons QO AN.nil)) A3.nil) Tryz.func22
def C8 (a0:CE):Option (List Int):=
AM (σ:=FC) (β:=(List Int)) (fun s1=>
if s1.2<(a0.2.2.length:Int) then
if 0<=s1.2/\s1.2<(a0.2.2.length:Int) then
if ((gl ((0,0,0):A4) a0.2.2 s1.2.toNat).1)=(-1) then
if (s1.1.length+([s1.2]:List Int).length)*8<=140737488355328 then
some (Sum.inl ((s1.1++([s1.2]:List Int),AG (s1.2+1))))
else none
else some (Sum.inl ((s1.1,AG (s1.2+1))))
else none
else some (Sum.inr (s1.1))) (([],0))
@[reducible] def GF:FnI:={ ps:=[⟨CN,true,false,false⟩],rs:=[⟨H0,false,true,false⟩],os:=[],bk:=[],F:=fun x=>C8 x }
def d_:Cx:={ nm:=[(1,(2,1)),(5,(4,1)),(19,(5,1)),(20,(6,1))],AL:=[20],fns:=BA [],loops:=[(0,{ live:=[(3,⟨H0,false,true,false⟩),(9,⟨(.int .i64),false,false,false⟩)],boxes:=[],rows:=[],dead:=FU [(4,2),(10,12)],lost:=[],base:=3 })],AO:=[],tb:=A8,exts:=[],lets:=[] }
theorem HO:CV 83 GF:=okW d_ [.tmp 2] 23 5 (BB AN.nil A3.nil) Tryz.func83
def G9 (a0:CE) (a1:Int) (a2:Int):Option CE:=
AM (σ:=Int) (β:=CE) (fun s1=>
if s1<(a0.2.2.length:Int) then
if 0<=s1/\s1<(a0.2.2.length:Int) then
if ((gl ((0,0,0):A4) a0.2.2 s1.toNat).1)=(-1) then
if 0<=s1/\s1<(a0.2.2.length:Int) then
some (Sum.inr ((s1,a0.2.1,a0.2.2.set s1.toNat (a1,AG ((AG (a2*4294967296))+a1),(-1)))))
else none
else some (Sum.inl (AG (s1+1)))
else none
else some (Sum.inr (((-1),a0.2.1,a0.2.2)))) (0)
@[reducible] def R6:FnI:={ ps:=[⟨CN,true,true,false⟩,⟨(.int .i64),false,false,false⟩,⟨(.int .i64),false,false,false⟩],rs:=[⟨(.int .i64),false,true,false⟩],os:=[⟨YS,false,true,false⟩,⟨oJ,false,true,false⟩],bk:=[0,1],F:=fun x=>G9 x.1 x.2.1 x.2.2 }
def eA:Cx:={ nm:=[(3,(2,1)),(8,(3,1))],AL:=[],fns:=BA [],loops:=[(0,{ live:=[(12,⟨(.int .i64),false,false,false⟩)],boxes:=[],rows:=[],dead:=FU [(6,3),(13,19)],lost:=[],base:=3 })],AO:=[],tb:=A8,exts:=[],lets:=[] }
theorem aS:CV 85 R6:=okW eA [.tmp 6] 32 2 (BB AN.nil A3.nil) Tryz.func85
def A5 (a0:CE) (a1:Int) (a2:Int):Option (Int×Int):=
if a1<0 then
some ((0,2))
else if a1≥(a0.2.1.length:Int) then
some ((0,2))
else if a2<0 then
some ((0,2))
else if True then
if True then
if 0<=(a1 / 2 ^ min (BitVec.ofInt 64 a0.1).toNat 64)/\(a1 / 2 ^ min (BitVec.ofInt 64 a0.1).toNat 64)<(a0.2.2.length:Int) then
if ((gl ((0,0,0):A4) a0.2.2 ((a1 / 2 ^ min (BitVec.ofInt 64 a0.1).toNat 64).toNat)).1)=(-1) then
some ((0,5))
else AM (σ:=A4) (β:=(Int×Int)) (fun s1=>
if True then
if s1.1≥(AG ((AG ((1:Int)*2 ^ min (BitVec.ofInt 64 a0.1).toNat 64))-s1.2.2)) then
if True then
if 0<=s1.2.1/\s1.2.1<(a0.2.2.length:Int) then
if (((gl ((0,0,0):A4) a0.2.2 s1.2.1.toNat).2).2)=(-1) then
some (Sum.inr ((0,2)))
else some (Sum.inl ((AG (s1.1-(AG ((AG ((1:Int)*2 ^ min (BitVec.ofInt 64 a0.1).toNat 64))-s1.2.2))),((gl ((0,0,0):A4) a0.2.2 s1.2.1.toNat).2).2,0)))
else none
else none
else Option.map Sum.inr (if True then
some ((AG ((AG ((AG (s1.2.1*2 ^ min (BitVec.ofInt 64 a0.1).toNat 64))+s1.2.2))+s1.1),0))
else none)
else none) ((a2,a1 / 2 ^ min (BitVec.ofInt 64 a0.1).toNat 64,vP .and a1 (AG ((AG ((1:Int)*2 ^ min (BitVec.ofInt 64 a0.1).toNat 64))-1))))
else none
else none
else none
@[reducible] def D9:FnI:={ ps:=[⟨CN,true,false,false⟩,⟨(.int .i64),false,false,false⟩,⟨(.int .i64),false,false,false⟩],rs:=[⟨(.int .i64),false,true,false⟩,⟨(.int .i64),false,true,false⟩],os:=[],bk:=[],F:=fun x=>A5 x.1 x.2.1 x.2.2 }
def kH:Cx:={ nm:=[(3,(2,1))],AL:=[],fns:=BA [],loops:=[(0,{ live:=[(2,⟨(.int .i64),false,false,false⟩),(8,⟨(.int .i64),false,false,false⟩),(9,⟨(.int .i64),false,false,false⟩)],boxes:=[],rows:=[],dead:=FU [(6,2),(42,24)],lost:=[],base:=3 })],AO:=[],tb:=A8,exts:=[],lets:=[] }
theorem EM:CV 86 D9:=okW kH [.tmp 6,.tmp 7] 75 1 (BB AN.nil A3.nil) Tryz.func86
def CG (a0:CE) (a1:AE) (a2:Int):Option (AE×Int×Int×M3×(List A4)):=
Option.bind (D6 a0 a1 a2) (fun r1=>
Option.bind (C8 a0) (fun r2=>
if r1>(r2.length:Int) then
some (((0,0,0,0,0),0,4,a0.2.1,a0.2.2))
else AM (σ:=(Int×AE×M3×(List A4))) (β:=(AE×Int×Int×M3×(List A4))) (fun s1=>
if s1.1>0 then
Option.bind (G9 (a0.1,s1.2.2) s1.2.1.1 s1.2.1.2.1) (fun r3=>
if s1.2.1.2.2.1=(-1) then
some (Sum.inl ((AG (s1.1-1),(s1.2.1.1,s1.2.1.2.1,r3.1,r3.1,s1.2.1.2.2.2.2),r3.2.1,r3.2.2)))
else if 0<=s1.2.1.2.2.2.1/\s1.2.1.2.2.2.1<(r3.2.2.length:Int) then
some (Sum.inl ((AG (s1.1-1),(s1.2.1.1,s1.2.1.2.1,s1.2.1.2.2.1,r3.1,s1.2.1.2.2.2.2),r3.2.1,r3.2.2.set s1.2.1.2.2.2.1.toNat ((gl ((0,0,0):A4) r3.2.2 s1.2.1.2.2.2.1.toNat).1,((gl ((0,0,0):A4) r3.2.2 s1.2.1.2.2.2.1.toNat).2).1,r3.1))))
else none)
else Option.map Sum.inr (if True then
Option.bind (A5 (a0.1,s1.2.2) (AG (s1.2.1.2.2.1*2 ^ min (BitVec.ofInt 64 a0.1).toNat 64)) a1.2.2.2.2) (fun r4=>
some (((s1.2.1.1,s1.2.1.2.1,s1.2.1.2.2.1,s1.2.1.2.2.2.1,AG (s1.2.1.2.2.2.2+a2)),r4.1,0,s1.2.2.1,s1.2.2.2)))
else none)) ((r1,a1,a0.2.1,a0.2.2))))
@[reducible] def IC:FnI:={ ps:=[⟨CN,true,true,false⟩,⟨GX,true,false,false⟩,⟨(.int .i64),false,false,false⟩],rs:=[⟨GX,true,true,false⟩,⟨(.int .i64),false,true,false⟩,⟨(.int .i64),false,true,false⟩],os:=[⟨YS,false,true,false⟩,⟨oJ,false,true,false⟩],bk:=[0,1],F:=fun x=>CG x.1 x.2.1 x.2.2 }
def eB:Cx:={ nm:=[(3,(2,1)),(4,(3,1)),(6,(4,1)),(20,(5,1))],AL:=[],fns:=BA [(22,HN),(83,GF),(85,R6),(86,D9)],loops:=[(0,{ live:=[(9,⟨(.int .i64),false,false,false⟩)],boxes:=[(3,⟨GX,true,false,false⟩)],rows:=[(0,.u64),(1,gE)],dead:=FU [(11,1),(26,24)],lost:=[],base:=6 })],AO:=[],tb:=A8,exts:=[],lets:=[] }
theorem LG:CV 49 IC:=okW eB [.cell 6 57,.tmp 7,.tmp 8] 69 4 (BB (.cons KB (.cons HO (.cons aS (.cons EM AN.nil)))) A3.nil) Tryz.func49
def CY (a0:CE) (a1:AE) (a2:Int):Option (CE×AE×Int×Int):=
Option.bind (IA a0 a1) (fun r1=>
if (!r1)=true then
some (((0,[],[]),(0,0,0,0,0),0,1))
else if a2<1 then
some (((0,[],[]),(0,0,0,0,0),0,1))
else if a2>48 then
some (((0,[],[]),(0,0,0,0,0),0,1))
else if a1.2.2.2.2=0 then
Option.bind (JF a0 a1.1) (fun r2=>
if r2=true then
some (((0,[],[]),(0,0,0,0,0),0,5))
else Option.bind (DO a0) (fun r3=>
Option.bind (CG r3 a1 a2) (fun r4=>
if ¬r4.2.2.1=0 then
some (((0,[],[]),(0,0,0,0,0),0,r4.2.2.1))
else some (((r3.1,r4.2.2.2),r4.1,r4.2.1,0)))))
else Option.bind (DO a0) (fun r5=>
Option.bind (CG r5 a1 a2) (fun r6=>
if ¬r6.2.2.1=0 then
some (((0,[],[]),(0,0,0,0,0),0,r6.2.2.1))
else some (((r5.1,r6.2.2.2),r6.1,r6.2.1,0)))))
@[reducible] def QS:FnI:={ ps:=[⟨CN,true,false,false⟩,⟨GX,true,false,false⟩,⟨(.int .i64),false,false,false⟩],rs:=[⟨CN,true,true,false⟩,⟨GX,true,true,false⟩,⟨(.int .i64),false,true,false⟩,⟨(.int .i64),false,true,false⟩],os:=[],bk:=[],F:=fun x=>CY x.1 x.2.1 x.2.2 }
def aT:Cx:={ nm:=[(3,(2,1)),(4,(3,1)),(6,(4,1)),(7,(5,1)),(10,(8,1)),(11,(9,1)),(40,(6,2))],AL:=[],fns:=BA [(30,MG),(47,QP),(48,R5),(49,IC)],loops:=[],AO:=[],tb:=A8,exts:=[],lets:=[] }
theorem YY:CV 21 QS:=okW aT [.cell 6 28,.cell 7 57,.tmp 8,.tmp 9] 57 8 (BB (.cons QR (.cons YW (.cons aP (.cons LG AN.nil)))) A3.nil) Tryz.func21
def C9 (a0:Int) (a1:Int):Option ((BitVec 64)×Int):=
if a0<0 then
some ((0#64,13))
else if a0>15 then
some ((0#64,13))
else if a1<0 then
some ((0#64,13))
else if a1>32 then
some ((0#64,13))
else some ((BitVec.ofInt 64 (AG ((AG ((AG ((AG ((1:Int)+a0))+a1))*256))+(AG (a0*2)))),0))
@[reducible] def ID:FnI:={ ps:=[⟨(.int .i64),false,false,false⟩,⟨(.int .i64),false,false,false⟩],rs:=[⟨.u64,false,true,false⟩,⟨(.int .i64),false,true,false⟩],os:=[],bk:=[],F:=fun x=>C9 x.1 x.2 }
def eC:Cx:={ nm:=[],AL:=[],fns:=BA [],loops:=[],AO:=[],tb:=A8,exts:=[],lets:=[] }
theorem LH:CV 119 ID:=okW eC [.tmp 4,.tmp 5] 29 0 (BB AN.nil A3.nil) Tryz.func119
def FL (a0:CE) (a1:Int) (a2:Int) (a3:Int):Option CE:=
Option.bind (C9 a2 a3) (fun r1=>
if ¬r1.2=0 then
some ((r1.2,a0.2.1,a0.2.2))
else Option.bind (A5 a0 a1 (AG (a2+a3))) (fun r2=>
if ¬r2.2=0 then
some ((r2.2,a0.2.1,a0.2.2))
else if 0<=a1/\a1<(a0.2.1.length:Int) then
AM (σ:=(Int×M3)) (β:=CE) (fun s1=>
if s1.1<=(AG (a2+a3)) then
Option.bind (A5 (a0.1,s1.2,a0.2.2) a1 s1.1) (fun r3=>
if 0<=r3.1/\r3.1<(s1.2.length:Int) then
some (Sum.inl ((AG (s1.1+1),s1.2.set r3.1.toNat (0#64))))
else none)
else some (Sum.inr ((0,s1.2,a0.2.2)))) ((1,a0.2.1.set a1.toNat r1.1))
else none))
@[reducible] def R7:FnI:={ ps:=[⟨CN,true,true,false⟩,⟨(.int .i64),false,false,false⟩,⟨(.int .i64),false,false,false⟩,⟨(.int .i64),false,false,false⟩],rs:=[⟨(.int .i64),false,true,false⟩],os:=[⟨YS,false,true,false⟩,⟨oJ,false,true,false⟩],bk:=[0,1],F:=fun x=>FL x.1 x.2.1 x.2.2.1 x.2.2.2 }
def eD:Cx:={ nm:=[(4,(2,1))],AL:=[],fns:=BA [(86,D9),(119,ID)],loops:=[(0,{ live:=[(13,⟨(.int .i64),false,false,false⟩)],boxes:=[],rows:=[(0,.u64)],dead:=FU [(14,2),(42,18)],lost:=[],base:=3 })],AO:=[],tb:=A8,exts:=[],lets:=[] }
theorem aU:CV 139 R7:=okW eD [.tmp 8] 60 1 (BB (.cons EM (.cons LH AN.nil)) A3.nil) Tryz.func139
def OI (a0:Int):Option Bool:=
if a0≥3 then
some (decide (a0<=8))
else some (false)
@[reducible] def VB:FnI:={ ps:=[⟨(.int .i64),false,false,false⟩],rs:=[⟨.bool,false,true,false⟩],os:=[],bk:=[],F:=fun x=>OI x }
def uR:Cx:={ nm:=[],AL:=[],fns:=BA [],loops:=[],AO:=[],tb:=A8,exts:=[],lets:=[] }
theorem aV:CV 108 VB:=okW uR [.tmp 2] 9 0 (BB AN.nil A3.nil) Tryz.func108
def UU (a0:M3):Option Bool:=
AM (σ:=Int) (β:=Bool) (fun s1=>
if s1<(a0.length:Int) then
if 0<=s1/\s1<(a0.length:Int) then
if ¬(gl (0#64:(BitVec 64)) a0 s1.toNat)=(0#64) then
some (Sum.inr (false))
else some (Sum.inl (AG (s1+1)))
else none
else some (Sum.inr (true))) (0)
@[reducible] def kI:FnI:={ ps:=[⟨YS,false,false,false⟩],rs:=[⟨.bool,false,true,false⟩],os:=[],bk:=[],F:=fun x=>UU x }
def zG:Cx:={ nm:=[],AL:=[],fns:=BA [],loops:=[(0,{ live:=[(7,⟨(.int .i64),false,false,false⟩)],boxes:=[],rows:=[],dead:=[2,4,8,9,10,11,12,13],lost:=[],base:=1 })],AO:=[],tb:=A8,exts:=[],lets:=[] }
theorem uS:CV 109 kI:=okW zG [.tmp 2] 14 0 (BB AN.nil A3.nil) Tryz.func109
def NF (a0:CE):Option Bool:=
AM (σ:=Int) (β:=Bool) (fun s1=>
if s1<(a0.2.2.length:Int) then
if 0<=s1/\s1<(a0.2.2.length:Int) then
AM (σ:=(Int×Int)) (β:=(Int ⊕ Bool)) (fun s2=>
if s2.1≥0 then
if s2.2<(a0.2.2.length:Int) then
if s2.1=s1 then
some (Sum.inr (Sum.inr (false)))
else if 0<=s2.1/\s2.1<(a0.2.2.length:Int) then
some (Sum.inl ((((gl ((0,0,0):A4) a0.2.2 s2.1.toNat).2).2,AG (s2.2+1))))
else none
else some (Sum.inr (Sum.inl (AG (s1+1))))
else some (Sum.inr (Sum.inl (AG (s1+1))))) ((((gl ((0,0,0):A4) a0.2.2 s1.toNat).2).2,0))
else none
else some (Sum.inr (true))) (0)
@[reducible] def V_:FnI:={ ps:=[⟨CN,true,false,false⟩],rs:=[⟨.bool,false,true,false⟩],os:=[],bk:=[],F:=fun x=>NF x }
def mZ:Cx:={ nm:=[(1,(2,1))],AL:=[],fns:=BA [],loops:=[(0,{ live:=[(9,⟨(.int .i64),false,false,false⟩)],boxes:=[],rows:=[],dead:=FU [(2,4),(10,29)],lost:=[],base:=3 }),(2,{ live:=[(4,⟨(.int .i64),false,false,false⟩),(5,⟨(.int .i64),false,false,false⟩)],boxes:=[],rows:=[],dead:=FU [(2,1),(18,20)],lost:=[],base:=3 })],AO:=[],tb:=A8,exts:=[],lets:=[] }
theorem kJ:CV 110 V_:=okW mZ [.tmp 2] 39 1 (BB AN.nil A3.nil) Tryz.func110
def HP (a0:CE):Option Bool:=
Option.bind (OI a0.1) (fun r1=>
if (!r1)=true then
some (false)
else if (a0.2.2.length:Int)<2 then
some (false)
else if (a0.2.2.length:Int)>64 then
some (false)
else if True then
if ¬(a0.2.1.length:Int)=(AG ((a0.2.2.length:Int)*2 ^ min (BitVec.ofInt 64 a0.1).toNat 64)) then
some (false)
else AM (σ:=((BitVec 64)×Int)) (β:=Bool) (fun s1=>
if s1.2<(a0.2.2.length:Int) then
if 0<=s1.2/\s1.2<(a0.2.2.length:Int) then
if ((gl ((0,0,0):A4) a0.2.2 s1.2.toNat).1)=(-1) then
if ¬(((gl ((0,0,0):A4) a0.2.2 s1.2.toNat).2).1)=(-1) then
some (Sum.inr (false))
else if ¬(((gl ((0,0,0):A4) a0.2.2 s1.2.toNat).2).2)=(-1) then
some (Sum.inr (false))
else if True then
if True then
if Bd (some (AG (s1.2*2 ^ min (BitVec.ofInt 64 a0.1).toNat 64))) (some (AG ((AG (s1.2+1))*2 ^ min (BitVec.ofInt 64 a0.1).toNat 64))) ((AG ((AG (s1.2+1))*2 ^ min (BitVec.ofInt 64 a0.1).toNat 64)).toNat) a0.2.1.length then
Option.bind (UU (BX a0.2.1 ((AG (s1.2*2 ^ min (BitVec.ofInt 64 a0.1).toNat 64)).toNat) (((AG ((AG (s1.2+1))*2 ^ min (BitVec.ofInt 64 a0.1).toNat 64)).toNat)-((AG (s1.2*2 ^ min (BitVec.ofInt 64 a0.1).toNat 64)).toNat)))) (fun r2=>
if (!r2)=true then
some (Sum.inr (false))
else some (Sum.inl ((s1.1,AG (s1.2+1)))))
else none
else none
else none
else if ((gl ((0,0,0):A4) a0.2.2 s1.2.toNat).1)<0 then
some (Sum.inr (false))
else if ((gl ((0,0,0):A4) a0.2.2 s1.2.toNat).1)>4294967295 then
some (Sum.inr (false))
else if (((gl ((0,0,0):A4) a0.2.2 s1.2.toNat).2).1)<0 then
some (Sum.inr (false))
else if ¬(4294967296:Int)=0 then
if ¬(Int.tmod (((gl ((0,0,0):A4) a0.2.2 s1.2.toNat).2).1) 4294967296)=((gl ((0,0,0):A4) a0.2.2 s1.2.toNat).1) then
some (Sum.inr (false))
else if ¬(4294967296:Int)=0 then
if (AG (Int.tdiv (((gl ((0,0,0):A4) a0.2.2 s1.2.toNat).2).1) 4294967296))≥4 then
some (Sum.inr (false))
else if (((gl ((0,0,0):A4) a0.2.2 s1.2.toNat).2).2)<(-1) then
some (Sum.inr (false))
else if (((gl ((0,0,0):A4) a0.2.2 s1.2.toNat).2).2)≥(a0.2.2.length:Int) then
some (Sum.inr (false))
else if (((gl ((0,0,0):A4) a0.2.2 s1.2.toNat).2).2)=s1.2 then
some (Sum.inr (false))
else if (((gl ((0,0,0):A4) a0.2.2 s1.2.toNat).2).2)<0 then
some (Sum.inl ((s1.1,AG (s1.2+1))))
else if 0<=(((gl ((0,0,0):A4) a0.2.2 s1.2.toNat).2).2)/\(((gl ((0,0,0):A4) a0.2.2 s1.2.toNat).2).2)<(a0.2.2.length:Int) then
if True then
if ((s1.1 >>> (BitVec.ofInt 64 (((gl ((0,0,0):A4) a0.2.2 s1.2.toNat).2).2)).toNat) &&& (1#64))=(1#64) then
some (Sum.inr (false))
else if ¬((gl ((0,0,0):A4) a0.2.2 ((((gl ((0,0,0):A4) a0.2.2 s1.2.toNat).2).2).toNat)).1)=((gl ((0,0,0):A4) a0.2.2 s1.2.toNat).1) then
some (Sum.inr (false))
else if ¬(((gl ((0,0,0):A4) a0.2.2 ((((gl ((0,0,0):A4) a0.2.2 s1.2.toNat).2).2).toNat)).2).1)=(((gl ((0,0,0):A4) a0.2.2 s1.2.toNat).2).1) then
some (Sum.inr (false))
else if True then
some (Sum.inl ((s1.1|||((1#64) <<< (BitVec.ofInt 64 (((gl ((0,0,0):A4) a0.2.2 s1.2.toNat).2).2)).toNat),AG (s1.2+1))))
else none
else none
else none
else none
else none
else none
else Option.map Sum.inr (Option.bind (NF a0) (fun r3=>
some (r3)))) ((0#64,0))
else none)
@[reducible] def P5:FnI:={ ps:=[⟨CN,true,false,false⟩],rs:=[⟨.bool,false,true,false⟩],os:=[],bk:=[],F:=fun x=>HP x }
def uT:Cx:={ nm:=[(1,(2,1)),(6,(3,1)),(7,(5,1)),(67,(4,1))],AL:=[],fns:=BA [(108,VB),(109,kI),(110,V_)],loops:=[(0,{ live:=[(4,⟨.u64,false,false,false⟩),(37,⟨(.int .i64),false,false,false⟩)],boxes:=[],rows:=[],dead:=FU [(2,1),(5,3),(38,114)],lost:=[],base:=3 })],AO:=[],tb:=A8,exts:=[],lets:=[] }
theorem TK:CV 67 P5:=okW uT [.tmp 2] 154 4 (BB (.cons aV (.cons uS (.cons kJ AN.nil))) A3.nil) Tryz.func67
def UW (a0:CE):Option Int:=
Option.bind (OI a0.1) (fun r1=>
if (!r1)=true then
some (0)
else if True then
some (AG ((1:Int)*2 ^ min (BitVec.ofInt 64 a0.1).toNat 64))
else none)
@[reducible] def kK:FnI:={ ps:=[⟨CN,true,false,false⟩],rs:=[⟨(.int .i64),false,true,false⟩],os:=[],bk:=[],F:=fun x=>UW x }
def zH:Cx:={ nm:=[(1,(2,1))],AL:=[],fns:=BA [(108,VB)],loops:=[],AO:=[],tb:=A8,exts:=[],lets:=[] }
theorem uU:CV 71 kK:=okW zH [.tmp 2] 11 1 (BB (.cons aV AN.nil) A3.nil) Tryz.func71
def AF (a0:FC) (a1:Int):Option (Int×FC):=
if a0.2≥(a0.1.length:Int) then
some ((0,a0))
else if 0<=(AG ((AG (a0.2+1))-1))/\(AG ((AG (a0.2+1))-1))<(a0.1.length:Int) then
Option.bind (IZ (gl (0:Int) a0.1 ((AG ((AG (a0.2+1))-1)).toNat)) a1) (fun r1=>
some ((r1,(a0.1,AG (a0.2+1)))))
else none
@[reducible] def C1:FnI:={ ps:=[⟨LB,true,false,true⟩,⟨(.int .i64),false,false,false⟩],rs:=[⟨(.int .i64),false,true,false⟩],os:=[⟨LB,true,false,true⟩],bk:=[0],F:=fun x=>AF x.1 x.2 }
def WA:Cx:={ nm:=[],AL:=[],fns:=BA [(14,OG)],loops:=[],AO:=[],tb:=A8,exts:=[],lets:=[] }
theorem DE:CV 56 C1:=okW WA [.tmp 4] 35 0 (BB (.cons TI AN.nil) A3.nil) Tryz.func56
end
end Go.Proofs.YthmiilamegpllaaGreat
