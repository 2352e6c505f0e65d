import Derived.Test.YtjbojdpdkikioaaGreatDoorV3J
import Derived.LoopN
import Derived.ProofKit
import Derived.OpenShut
import Derived.ChangeOld
import Derived.Below
import Derived.LaidMore
import Derived.MakeChecks
import Derived.Stop.Joined
import Derived.Test.YtjbojdpdkikioaaGreatDoorProg
import Derived.Test.YtjbojdpdkikioaaGreatDoorChecked
import Derived.KernelRfl
set_option linter.unusedVariables false
set_option linter.unusedSimpArgs false
namespace Go.V3
open Go
variable {TB:Tb}
def QT (o:Oper):List Nat:=(o.after.toList.filter (Region.binds .any)).map (·.on)
def AE2 (ops:List Oper):Nat->List Nat->List Nat->List Nat
 |0,_,seen=>seen
 |_+1,[],seen=>seen
 |n+1,i::todo,seen=>if seen.contains i then AE2 ops n todo seen else match ops[i]? with
  |some o=>AE2 ops n (QT o++todo) (i::seen)
  |none=>AE2 ops n todo seen
def AJW (ops:List Oper) (o:Oper):List Nat:=AE2 ops 4000 (QT o) []
def YF (all:List Oper) (o:Oper):List Nat:=
 (o.op.operands.toList.filterMap fun| .tmp t=>some t|_=>none)++(match o.guard with
  |some (g,_)=>(match all[g]? with
   |some oj=>oj.dst.toList
   |none=>[])
  |none=>[])
mutual
def APS:SV->List Nat
 | .loc i _=>[i]
 | .el i _ _ _=>[i]
 | .MT i=>[i]
 | .sub i _ _ _=>[i]
 | .agg cs=>uC cs
 | .tup vs=>uC vs
 | .mpv i=>[i]
 | .tsl i _ _=>[i]
 | .tel i _ _ _=>[i]
 | .xW _ cs=>uC cs
 |_=>[]
def uC:List SV->List Nat
 | []=>[]
 |v::r=>APS v++uC r
end
def V8 (fr:List SV) (o:Oper):List Nat:=o.op.operands.toList.flatMap fun x=>APS (evc fr x)
def UW (AP:Nat->Option AW) (i:Nat):List Nat:=match AP i with
 |some (.box cs)=>uC cs
 |some (.deep _ _ (some (_,j)))=>[j]
 |_=>[]
def A0U:Op->Bool
 | .move _=>true
 | .assign _=>true
 |_=>false
def XE (fr:List SV):Op->Bool
 | .load _ x=>(match evc fr x with
  | .loc _ _=>true
  |_=>false)
 | .fieldAddr _ x _=>(match evc fr x with
  | .loc _ _=>true
  |_=>false)
 | .nilCheck x=>(match evc fr x with
  | .loc _ _=>true
  |_=>false)
 |_=>false
def XF (fr:List SV):Op->Bool
 | .call { callee:= .value f,.. }=>(match evc fr f with
  | .xW _ _=>true
  |_=>false)
 |_=>false
def O1 (cx:Cx) (fr:List SV) (AP:Nat->Option AW) (o:Oper):List Nat:=match A0U o.op && !cx.ATI o.dst with
 |true=>[]
 |false=>V8 fr o++(match XE fr o.op with
  |true=>[]
  |false=>(V8 fr o).flatMap (UW AP)++(match XF fr o.op with
   |true=>((V8 fr o).flatMap (UW AP)).flatMap (UW AP)
   |false=>[]))++(List.range (cx.IA o.dst).2).map fun k=>(cx.IA o.dst).1+k
def pS (ft:List Nat) (AP:Nat->Option AW) (n:Nat):Option AW:=match ft.contains n with
 |true=>AP n
 |false=>none
structure Met where
 i:Nat
 dst:Option Nat
 lks:List Nat
 rd:List Nat
 wr:List Nat
def n9 (x y:Met):Bool:=
 (match x.dst with
 |some d=> !y.lks.contains d && !(y.dst==some d)
 |none=>true) && (match y.dst with
 |some d=> !x.lks.contains d
 |none=>true) && x.wr.all (fun n=> !y.rd.contains n && !y.wr.contains n) && y.wr.all (fun n=> !x.rd.contains n)
section
variable {α:Type}
def AXX (P:Program) (cx:Cx) (all:List Oper):List Oper->Nat->List Met->List SV->AK->(List SV->AK->Option α)->Option α
 | [],_,_,fr,L,K=>K fr L
 |o::r,k,acc,fr,L,K=>bQ P cx all o k fr (pS (O1 cx fr (look L) o) (look L)) (fun v u=>
  match acc.all (fun q=>(AJW all o).contains q.i||n9 q ⟨k,o.dst,YF all o,O1 cx fr (look L) o,u.map (·.1)⟩) with
  |true=>AXX P cx all r (k+1) (⟨k,o.dst,YF all o,O1 cx fr (look L) o,u.map (·.1)⟩::acc) (Q0 fr o.dst v) (AI L u) K
  |false=>none)
end
def AE3 (all:List Oper):List Oper->Nat->Bool
 | [],_=>true
 |o::r,k=>(QT o).all (fun j=>decide (j<k)) && AE3 all r (k+1)
def sst (P:Program) (cx:Cx) (all:List Oper) (i:Nat) (s:List SV×AK):Option ((List SV×AK)×Met):=
 match all[i]? with
 |none=>none
 |some o=>match bQ P cx all o i s.1 (pS (O1 cx s.1 (look s.2) o) (look s.2)) pr with
  |some (v,u)=>some ((Q0 s.1 o.dst v,AI s.2 u),⟨i,o.dst,YF all o,O1 cx s.1 (look s.2) o,u.map (·.1)⟩)
  |none=>none
def Run (P:Program) (cx:Cx) (all:List Oper):List Nat->List SV×AK->List SV×AK->List Met->Prop
 | [],s,s',fs=>s' =s/\fs=[]
 |i::l,s,s',fs=>∃ s1 f rT,sst P cx all i s=some (s1,f)/\Run P cx all l s1 s' rT /\fs=f::rT
def AU0 (all:List Oper) (x y:Met):Prop:=(∃ o,all[y.i]? =some o/\x.i∈AJW all o)\/n9 x y=true
section
variable {P:Program} {cx:Cx} {all:List Oper}
theorem AE4 {α:Type} {K:List SV->AK->Option α} {r0:α}:∀ (rest:List Oper) (k:Nat) (acc:List Met) (fr:List SV) (L:AK),all.drop k=rest->AXX P cx all rest k acc fr L K=some r0→
  ∃ s' fs,Run P cx all (List.range' k rest.length) (fr,L) s' fs/\K s'.1 s'.2=some r0/\fs.Pairwise (AU0 all)/\∀ q∈acc,∀ f∈fs,AU0 all q f
 | [],k,acc,fr,L,_,h=>⟨(fr,L),[],⟨rfl,rfl⟩,h,List.Pairwise.nil,fun _ _ _ hf=>by cases hf⟩
 |o::rest,k,acc,fr,L,hd,h=>by
  have QQ:all[k]? =some o:=by
   have:=MS (fun l=>l[0]?) hd
   simpa [aX] using this
  have hd' :all.drop (k+1)=rest:=by
   have:=MS (List.drop 1) hd
   simpa [ACV,Nat.add_comm] using this
  obtain⟨v,u,h1,h2⟩:=t_ h
  split at h1
  rotate_left
  ·cases h1
  rename_i AU1
  obtain⟨s',fs,r1,r2,r3,r4⟩:=AE4 rest (k+1) _ _ _ hd' h1
  refine⟨s',⟨k,o.dst,YF all o,O1 cx fr (look L) o,u.map (·.1)⟩::fs,⟨(Q0 fr o.dst v,AI L u),⟨k,o.dst,YF all o,O1 cx fr (look L) o,u.map (·.1)⟩,fs, ?_,r1,rfl⟩,r2, ?_, ?_⟩
  ·simp only[sst,QQ,h2]
  ·exact List.Pairwise.cons (fun f hf=>r4 _ (by simp) f hf) r3
  ·intro q hq f hf
   rcases GD.1 hf with rfl|hf
   ·have:=JV.1 AU1 q hq
    rcases o9 _ _ ▸ this with h|h
    ·exact .inl ⟨o,QQ,by simpa using h⟩
    ·exact .inr h
   ·exact r4 q (by simp [hq]) f hf
theorem AHI {α:Type} {AP:Nat->Option AW} {dst:Option Tmp} {ρ ρ' :Operand->SV} {K:SV->C8->Option α} {op:Op} (h:∀ x∈op.operands.toList,ρ x=ρ' x):core P cx AP dst ρ K op=core P cx AP dst ρ' K op:=by
 have AW2:∀ ps:Array (Nat×Operand),(∀ x∈ps.toList.map (·.2),ρ x=ρ' x)->(ps.toList.map fun q=>(q.1,ρ q.2))=(ps.toList.map fun q=>(q.1,ρ' q.2)):=fun ps hp=>
  VK fun p hm=>by
   obtain⟨i,x⟩:=p
   simp only[hp x (C6.2 ⟨(i,x),hm,rfl⟩)]
 have hfz:QR AP ρ K op=QR AP ρ' K op:=by
  cases op <;> simp only[Op.operands] at h <;> simp only[QR]
  all_goals rw[h _ (by simp)]
 unfold core
 rw[hfz]
 split
 ·rfl
 unfold core0
 cases op <;> simp only[Op.operands] at h <;> simp only[bE,ADO]
 case build t ps=>rw[AW2 ps fun x hx=>h x (by simpa using hx)]
 case buildSlice t n ps=>rw[AW2 ps fun x hx=>h x (by simpa using hx)]
 case call c=>
  obtain⟨callee,args,ts⟩:=c
  have MX:args.toList.map ρ=args.toList.map ρ' :=VK fun x hx=>h x (by simp [Call.operands];exact .inr (by simpa using hx))
  cases callee with
  |builtin b=>cases b <;> simp only[MX]
  |value f=>
   have hf:ρ f=ρ' f:=h f (by simp [Call.operands])
   simp only[hf,MX]
  |_=>rfl
 case slice t x lo hi mx=>cases lo <;> cases hi <;> cases mx <;> simp_all
 case makeFunc fn first captured=>
  have hc:captured.toList.map ρ=captured.toList.map ρ' :=VK fun x hx=>h x (by simp;exact .inr (by simpa using hx))
  simp only[hc]
 case makeMap t r=>cases r <;> rfl
 case binOp op t x y rt=>
  have hx:ρ x=ρ' x:=h x (by simp)
  have hy:ρ y=ρ' y:=h y (by simp)
  cases op <;> simp only[hx,hy]
 all_goals first|rfl|(simp_all;done)
theorem APT {fr:List SV} {d:Option Tmp} {v:SV} {x:Operand} (h:∀ t,d=some t->x≠ .tmp t):ev (Q0 fr d v) x=ev fr x:=by
 cases d with
 |none=>rfl
 |some d=>
  cases x with
  |tmp t=>
   show (fr.set d v).getD t AV=fr.getD t AV
   rw[EZ,AD]
   rintro⟨rfl,_⟩
   exact h d rfl rfl
  |_=>rfl
theorem AMG {fr:List SV} {x y:Option Tmp} {u v:SV} (h:∀ d,x=some d->y≠some d):Q0 (Q0 fr x u) y v=Q0 (Q0 fr y v) x u:=by
 cases x with
 |none=>rfl
 |some d=>
  cases y with
  |none=>rfl
  |some e=>
   have CO:d≠e:=fun he=>h d rfl (he ▸ rfl)
   simp [Q0,List.set_comm _ _ CO]
theorem HN {L:AK} {u:C8} {n:Nat} (h:n∉u.map (·.1)):look (AI L u) n=look L n/\(AI L u)[n]? =L[n]? :=by
 induction u generalizing L with
 |nil=>exact⟨rfl,rfl⟩
 |cons q r ih=>
  simp only[KU,GD,not_or] at h
  obtain⟨i1,i2⟩:=ih (L:=DE L q) h.2
  have hu:(DE L q)[n]? =L[n]? :=by
   unfold DE
   split
   ·rw[AIU (fun he=>h.1 he.symm)]
   ·rfl
  have e2:(AI L (q::r))[n]? =L[n]? :=i2.trans hu
  exact⟨by unfold look;rw[e2],e2⟩
theorem AE5 {L L' :AK} {u:C8} {n:Nat} (h:L[n]? =L'[n]?):(AI L u)[n]? =(AI L' u)[n]? :=by
 induction u generalizing L L' with
 |nil=>exact h
 |cons q r ih=>
  refine ih (L:=DE L q) (L' :=DE L' q) ?_
  by_cases hn:q.1=n
  ·subst hn
   unfold DE
   rw[<-h]
   cases hx:L[q.1]? with
   |none=>simp only;rw[hx,←h,hx]
   |some p=>
    obtain⟨v,e⟩:=p
    simp only
    have h1:q.1<L.length:=by
     rcases GS q.1 L.length with h' |h'
     ·exact h'
     ·rw[T3 h'] at hx;cases hx
    have h2:q.1<L'.length:=by
     rcases GS q.1 L'.length with h' |h'
     ·exact h'
     ·rw[h,T3 h'] at hx;cases hx
    rw[AIP h1,AIP h2]
  ·have e:∀ L:AK,(DE L q)[n]? =L[n]? :=by
    intro L
    unfold DE
    split
    ·rw[AIU hn]
    ·rfl
   rw[e,e,h]
theorem AMH {L:AK} {u v:C8} (h:∀ n∈u.map (·.1),n∉v.map (·.1)):AI (AI L u) v=AI (AI L v) u:=by
 apply VM
 intro n
 by_cases hu:n∈u.map (·.1)
 ·have hv:=h n hu
  rw[(HN hv).2]
  exact AE5 ((HN hv).2).symm
 ·rw[(HN hu).2]
  exact AE5 (HN hu).2
theorem AE6 {ft:List Nat} {f g:Nat->Option AW} (h:∀ n∈ft,f n=g n):pS ft f=pS ft g:=by
 funext n
 unfold pS
 cases hc:ft.contains n with
 |true=>exact h n (by simpa using hc)
 |false=>rfl
theorem AMI {o:Oper} {t:Nat} (h:Operand.tmp t∈o.op.operands.toList):t∈YF all o:=EY.2 (.inl (xL.2 ⟨.tmp t,h,rfl⟩))
theorem yW {i:Nat} {o:Oper} (ho:all[i]? =some o) {fr fr' :List SV} {L L' :AK} (hev:∀ x∈o.op.operands.toList,ev fr' x=ev fr x) (hg:bP all o fr' =bP all o fr) (hL:∀ n∈O1 cx fr (look L) o,look L' n=look L n):
  O1 cx fr' (look L') o=O1 cx fr (look L) o∧
   bQ P cx all o i fr' (pS (O1 cx fr' (look L') o) (look L')) pr=bQ P cx all o i fr (pS (O1 cx fr (look L) o) (look L)) pr:=by
 have hd:V8 fr' o=V8 fr o:=by
  unfold V8
  rw[xP,xP]
  congr 1
  apply VK
  intro x hx
  simp only[evc,hev x hx]
 have hf:O1 cx fr' (look L') o=O1 cx fr (look L) o:=by
  cases hm:A0U o.op && !cx.ATI o.dst with
  |true=>unfold O1;rw[hm]
  |false=>
   have hbl:XE fr' o.op=XE fr o.op:=by
    unfold XE
    cases FU:o.op <;> try rfl
    all_goals rw[FU] at hev
    all_goals simp only[evc]
    all_goals rw[hev _ (by simp [Op.operands])]
   have hcc:XF fr' o.op=XF fr o.op:=by
    unfold XF
    cases FU:o.op <;> try rfl
    rename_i cl
    obtain⟨cal,args,ats⟩:=cl
    cases cal <;> try rfl
    rename_i f
    rw[FU] at hev
    simp only[evc]
    rw[hev f (by simp [Op.operands,Go.Call.operands])]
   unfold O1
   rw[hm,hd,hbl]
   simp only
   congr 2
   cases hb:XE fr o.op with
   |true=>rfl
   |false=>
   simp only
   have h1:(V8 fr o).flatMap (UW (look L'))=(V8 fr o).flatMap (UW (look L)):=by
    rw[xP,xP]
    congr 1
    apply VK
    intro n hn
    unfold UW
    rw[hL n (by unfold O1;rw[hm];exact EY.2 (.inl (EY.2 (.inl hn))))]
   rw[h1,hcc]
   congr 1
   cases hc:XF fr o.op with
   |false=>rfl
   |true=>
   simp only
   rw[xP,xP]
   congr 1
   apply VK
   intro n hn
   have hn' :n∈O1 cx fr (look L) o:=by
    unfold O1;rw[hm,hb];exact EY.2 (.inl (EY.2 (.inr (EY.2 (.inl hn)))))
   unfold UW
   rw[hL n hn']
 refine⟨hf, ?_⟩
 rw[hf,AE6 hL]
 unfold bQ
 rw[hg]
 have hnu:AJT fr' o.op=AJT fr o.op:=by
  unfold AJT
  rw[ZP]
  simp only[JV]
  constructor
  ·intro h x hx;rw[<-hev x hx];exact h x hx
  ·intro h x hx;rw[hev x hx];exact h x hx
 rw[hnu]
 split
 ·rfl
 ·rfl
 ·split
  ·rfl
  ·exact AHI fun x hx=>by simp only[evc,hev x hx]
theorem AE7 {x y:Met} (h:n9 x y=true):(∀ d,x.dst=some d->d∉y.lks)/\(∀ d,x.dst=some d->y.dst≠some d)/\(∀ d,y.dst=some d->d∉x.lks)/\(∀ n∈x.wr,n∉y.rd/\n∉y.wr)/\(∀ n∈y.wr,n∉x.rd):=by
 unfold n9 at h
 simp only[HQ,JV,T4,AA7,aV] at h
 obtain⟨⟨⟨h1,h2⟩,h3⟩,h4⟩:=h
 refine⟨fun d hd=> ?_,fun d hd=> ?_,fun d hd=> ?_,h3,h4⟩
 ·rw[hd] at h1;simp at h1;exact h1.1
 ·rw[hd] at h1;simp at h1;exact h1.2
 ·rw[hd] at h2;simpa using h2
theorem pT {o:Oper} {fr:List SV} {d:Option Tmp} {v:SV} (h:∀ t,d=some t->t∉YF all o):bP all o (Q0 fr d v)=bP all o fr:=by
 unfold bP
 cases hg:o.guard with
 |none=>rfl
 |some q=>
  obtain⟨j,want⟩:=q
  simp only
  cases hj:all[j]? with
  |none=>rfl
  |some oj=>
   simp only
   cases hd:oj.dst with
   |none=>rfl
   |some t=>
    simp only
    have:(Q0 fr d v).getD t AV=fr.getD t AV:=by
     cases d with
     |none=>rfl
     |some d=>
      simp only[Q0,EZ]
      rw[AD]
      rintro⟨rfl,_⟩
      refine h d rfl ?_
      unfold YF
      rw[hg]
      simp [hj,hd]
    rw[this]
theorem uD {o:Oper} {fr:List SV} {d:Option Tmp} {v:SV} (h:∀ t,d=some t->t∉YF all o):∀ x∈o.op.operands.toList,ev (Q0 fr d v) x=ev fr x:=by
 intro x hx
 refine APT fun t ht he=>h t ht ?_
 subst he
 exact AMI hx
theorem APU {x i:Nat} {s s1 s2:List SV×AK} {f g:Met} (h1:sst P cx all x s=some (s1,f)) (h2:sst P cx all i s1=some (s2,g)) (ha:n9 f g=true):
  ∃ s1',sst P cx all i s=some (s1',g)/\sst P cx all x s1' =some (s2,f):=by
 obtain⟨fr,L⟩:=s
 unfold sst at h1 h2
 split at h1
 ·cases h1
 rename_i ox hox
 split at h1
 rotate_left
 ·cases h1
 rename_i vx ux hx
 simp only[AX,DB] at h1
 obtain⟨rfl,rfl⟩:=h1
 split at h2
 ·cases h2
 rename_i oi hoi
 split at h2
 rotate_left
 ·cases h2
 rename_i vi ui hi
 simp only[AX,DB] at h2
 obtain⟨rfl,rfl⟩:=h2
 obtain⟨a1,a2,a3,a4,a5⟩:=AE7 ha
 simp only at a1 a2 a3 a4 a5 hi hx
 obtain⟨f1,f2⟩:=yW (P:=P) (cx:=cx) hoi (fr:=Q0 fr ox.dst vx) (fr' :=fr) (L:=AI L ux) (L' :=L) (fun y hy=>(uD a1 y hy).symm) (pT a1).symm
  (fun n hn=>((HN (fun hw=>(a4 n hw).1 hn)).1).symm)
 obtain⟨g1,g2⟩:=yW (P:=P) (cx:=cx) hox (fr:=fr) (fr' :=Q0 fr oi.dst vi) (L:=L) (L' :=AI L ui) (fun y hy=>uD a3 y hy) (pT a3)
  (fun n hn=>(HN (fun hw=>a5 n hw hn)).1)
 refine⟨(Q0 fr oi.dst vi,AI L ui), ?_, ?_⟩
 ·unfold sst
  rw[hoi]
  simp only
  rw[f2,hi]
  simp only[f1]
 ·unfold sst
  rw[hox]
  simp only
  rw[g2,hx]
  simp only[g1]
  rw[AMG (fr:=fr) (x:=ox.dst) (y:=oi.dst) (u:=vx) (v:=vi) a2,AMH (L:=L) (u:=ux) (v:=ui) (fun n hn=>(a4 n hn).2)]
theorem uE {i:Nat}:∀ (l1 l2:List Nat) (s s' :List SV×AK) (fs:List Met),Run P cx all (l1++i::l2) s s' fs->fs.Pairwise (AU0 all)->(∀ x∈l1,∀ o,all[i]? =some o->x∉AJW all o)→
  ∃ g rT,Run P cx all (i::(l1++l2)) s s' (g::rT)/\g∈fs/\g.i=i/\rT.Sublist fs
 | [],l2,s,s',fs,h,_,_=>by
  obtain⟨s1,f,rT,h1,h2,rfl⟩:=h
  refine⟨f,rT,⟨s1,f,rT,h1,h2,rfl⟩,by simp, ?_,List.sublist_cons_self _ _⟩
  unfold sst at h1
  split at h1
  ·cases h1
  ·split at h1
   ·simp only[AX,DB] at h1;rw[<-h1.2]
   ·cases h1
 |x::l1,l2,s,s',fs,h,hp,ha=>by
  obtain⟨s1,f,fs1,h1,h2,rfl⟩:=h
  rw[aY] at hp
  obtain⟨g,rT,k1,k2,k3,k4⟩:=uE l1 l2 s1 s' fs1 h2 hp.2 (fun y hy=>ha y (by simp [hy]))
  obtain⟨s2,g',fs2,k5,k6,k7⟩:=k1
  simp only[iZ] at k7
  obtain⟨rfl,rfl⟩:=k7
  have hfi:f.i=x:=by
   unfold sst at h1
   split at h1
   ·cases h1
   ·split at h1
    ·simp only[AX,DB] at h1;rw[<-h1.2]
    ·cases h1
  have hap:n9 f g=true:=by
   rcases hp.1 g k2 with ⟨o,ho,hx⟩|h
   ·rw[k3] at ho
    rw[hfi] at hx
    exact absurd hx (ha x (by simp) o ho)
   ·exact h
  obtain⟨s1',q1,q2⟩:=APU h1 k5 hap
  exact⟨g,f::rT,⟨s1',g,_,q1,⟨s2,f,_,q2,k6,rfl⟩,rfl⟩,by simp [k2],k3,k4.cons_cons f⟩
end
section
variable {P:Program} {ops:Array Oper} {Q:Exit->Act->World->Prop}
def isL (listed:Array Bool) (i:Nat):Prop:=listed.getD i false=true
theorem AE8 {listed:Array Bool} (hc:∀ i o,ops[i]? =some o->isL listed i->∀ j∈QT o,isL listed j):∀ (n:Nat) (todo seen:List Nat),(∀ j∈todo,isL listed j)->(∀ j∈seen,isL listed j)->∀ j∈AE2 ops.toList n todo seen,isL listed j:=by
 intro n
 induction n with
 |zero=>intro todo seen _ h2 j hj;exact h2 j (by simpa [AE2] using hj)
 |succ n ih=>
  intro todo seen h1 h2
  cases todo with
  |nil=>intro j hj;exact h2 j (by simpa [AE2] using hj)
  |cons i todo=>
   have hi:=h1 i (by simp)
   have ht:∀ j∈todo,isL listed j:=fun j hj=>h1 j (by simp [hj])
   simp only[AE2]
   split
   ·exact ih todo seen ht h2
   ·split
    ·rename_i o ho
     refine ih _ _ ?_ ?_
     ·intro j hj
      rcases EY.1 hj with hj|hj
      ·exact hc i o (by rw[<-iX];exact ho) hi j hj
      ·exact ht j hj
     ·intro j hj
      rcases GD.1 hj with rfl|hj
      ·exact hi
      ·exact h2 j hj
    ·exact ih todo seen ht h2
theorem uF:∀ (l:List Oper) (k:Nat),AE3 ops.toList l k=true->∀ (i:Nat) (o:Oper),l[i]? =some o->∀ j∈QT o,j<k+i
 | [],_,_,i,o,h=>by simp at h
 |o' ::r,k,h,i,o,ho=>by
  simp only[AE3,HQ,JV,IW] at h
  cases i with
  |zero=>simp only[OS,AX] at ho;subst ho;exact h.1
  |succ i=>
   intro j hj
   have:=uF r (k+1) h.2 i o (by simpa using ho) j hj
   omega
theorem pU {o:Oper} {j:Nat}:j∈QT o↔∃ e∈o.after,Region.binds .any e=true/\e.on=j:=by
 unfold QT
 simp only[C6,WY]
 constructor
 ·rintro⟨e,⟨h1,h2⟩,h3⟩;exact⟨e,by simpa using h1,h2,h3⟩
 ·rintro⟨e,h1,h2,h3⟩;exact⟨e,⟨by simpa using h1,h2⟩,h3⟩
structure Sg (ops:Array Oper) (listed:Array Bool) (l:List Nat):Prop where
 size:listed.size=ops.size
 mem:∀ i,i∈l↔i<ops.size/\¬isL listed i
 sorted:l.Pairwise (·< ·)
 closed:∀ i o,ops[i]? =some o->isL listed i->∀ j∈QT o,isL listed j
theorem AXY {cx:Cx} (hcx:cx.Ok P) (A0V:AE3 ops.toList ops.toList 0=true) {W:List Nat} (hW:∀ (i:Nat) (o:Oper),ops[i]? =some o->∀ d,o.dst=some d->d∈W) {c:DW cx.tb} {fr0:List SV} {L0:AK} {E0:Env} {s' :List SV×AK}
  (hK:∀ E' a' w',St c E' s'.1 s'.2 a' w' ->Ext W E0 fr0 L0 E' s'.1 s'.2->Q .normal a' w'):
  ∀ (n:Nat) (l:List Nat) (listed:Array Bool) (fs:List Met) (s:List SV×AK) (E:Env) (a:Act) (w:World),l.length=n->Sg ops listed l->Run P cx ops.toList l s s' fs->fs.Pairwise (AU0 ops.toList)->St c E s.1 s.2 a w->Ext W E0 fr0 L0 E s.1 s.2→
   wpAny P .any ops Q n listed a w:=by
 have AHJ:∀ (listed:Array Bool) (l:List Nat),Sg ops listed l->∀ i,i∈Region.ready .any ops listed↔i∈l/\∃ o,ops[i]? =some o/\∀ j∈QT o,isL listed j:=by
  intro listed l hs i
  rw[mem_ready]
  constructor
  ·rintro⟨h1,o,ho,h2⟩
   have DM:i<ops.size:=(Array.getElem?_eq_some_iff.1 ho).1
   have lF:i<listed.size:=by rw[hs.size];exact DM
   refine⟨(hs.mem i).2 ⟨DM,fun hx=> ?_⟩,o,ho,fun j hj=> ?_⟩
   ·unfold isL at hx
    simp [lF] at h1 hx
    rw[h1] at hx;cases hx
   ·obtain⟨e,he,hb,rfl⟩:=pU.1 hj
    exact h2 e he hb
  ·rintro⟨h1,o,ho,h2⟩
   obtain⟨DM,hn⟩:=(hs.mem i).1 h1
   have lF:i<listed.size:=by rw[hs.size];exact DM
   refine⟨?_,o,ho,fun e he hb=>h2 _ (pU.2 ⟨e,he,hb,rfl⟩)⟩
   unfold isL at hn
   simp [lF] at hn ⊢
   exact hn
 intro n
 induction n with
 |zero=>
  intro l listed fs s E a w hl hs JN hpw hst LV
  obtain rfl:l=[]:=List.eq_nil_of_length_eq_zero hl
  obtain⟨rfl,rfl⟩:=JN
  refine⟨ANT.2 fun i hi=> ?_,hK E a w hst LV⟩
  have:=((AHJ _ _ hs i).1 hi).1
  cases this
 |succ n ih=>
  intro l listed fs s E a w hl hs JN hpw hst LV
  refine⟨fun h0=> ?_,fun i hi=> ?_⟩
  ·exfalso
   cases l with
   |nil=>simp at hl
   |cons k r=>
    obtain⟨DM,hn⟩:=(hs.mem k).1 (by simp)
    have ho:ops[k]? =some ops[k]:=ANX DM
    have:k∈Region.ready .any ops listed:=(AHJ _ _ hs k).2 ⟨by simp,_,ho,fun j hj=>by
     have kP:=uF ops.toList 0 A0V k ops[k] (by rw[iX];exact ho) j hj
     rw[ML] at kP
     refine vV fun hx=> ?_
     have qX:=(hs.mem j).2 ⟨by omega,hx⟩
     rcases GD.1 qX with rfl|qX
     ·omega
     ·have:=(aY.1 hs.sorted).1 j qX
      omega⟩
    rw[h0] at this;cases this
  ·obtain⟨hil,o,ho,A0W⟩:=(AHJ _ _ hs i).1 hi
   obtain⟨l1,l2,rfl⟩:=List.append_of_mem hil
   have ho' :ops.toList[i]? =some o:=by rw[iX];exact ho
   have A3I:∀ x∈l1,∀ o',ops.toList[i]? =some o' ->x∉AJW ops.toList o' :=by
    intro x hx o' ho2 OE
    rw[ho'] at ho2
    simp only[AX] at ho2
    subst ho2
    have:=AE8 hs.closed 4000 (QT o) [] A0W (by simp) x OE
    exact ((hs.mem x).1 (by simp [hx])).2 this
   obtain⟨g,fs2,⟨s1,g',A56,k5,k6,k7⟩,k2,k3,k4⟩:=uE l1 l2 s s' fs JN hpw A3I
   obtain⟨e1,e2⟩:=List.cons.inj k7
   subst e1
   rw[<-e2] at k6
   unfold sst at k5
   rw[ho'] at k5
   simp only at k5
   split at k5
   rotate_left
   ·cases k5
   rename_i v u lS
   simp only[AX,DB] at k5
   obtain⟨rfl, -⟩:=k5
   refine AJU hcx ho hst (fun n e h=> ?_) lS fun E' a' w' uB hnm hds=> ?_
   ·unfold pS at h
    split at h
    ·exact h
    ·cases h
   ·have H9:(l1++i::l2).Nodup:=hs.sorted.imp (fun h=>Nat.ne_of_lt h)
    have DM:i<ops.size:=((hs.mem i).1 hil).1
    have VR:∀ j,isL (listed.setIfInBounds i true) j↔j=i\/isL listed j:=by
     intro j
     unfold isL
     by_cases hji:i=j
     ·subst hji
      have:i<listed.size:=by rw[hs.size];exact DM
      simp [this]
     ·simp [Array.getElem?_setIfInBounds_ne hji,Ne.symm hji]
    refine ih (l1++l2) (listed.setIfInBounds i true) fs2 _ E' a' w' (by simp at hl ⊢;omega) ⟨by simp [hs.size],fun j=> ?_, ?_, ?_⟩ k6 (hpw.sublist k4) uB (LV.trans ?_)
    ·rw[VR,not_or]
     constructor
     ·intro hj
      have qX:j∈l1++i::l2:=by
       rcases EY.1 hj with h|h
       ·exact EY.2 (.inl h)
       ·exact EY.2 (.inr (by simp [h]))
      obtain⟨q1,q2⟩:=(hs.mem j).1 qX
      refine⟨q1, ?_,q2⟩
      rintro rfl
      rw[QA] at H9
      rcases EY.1 hj with h|h
      ·exact H9.2.2 j h j (by simp) rfl
      ·exact (UM.1 H9.2.1).1 h
     ·rintro⟨q1,q2,q3⟩
      have:=(hs.mem j).2 ⟨q1,q3⟩
      rcases EY.1 this with h|h
      ·exact EY.2 (.inl h)
      ·rcases GD.1 h with h|h
       ·exact absurd h q2
       ·exact EY.2 (.inr h)
    ·exact hs.sorted.sublist (List.Sublist.append_left (List.sublist_cons_self _ _) _)
    ·intro j oj hj hlj k hk
     rw[VR] at hlj ⊢
     right
     rcases hlj with rfl|hlj
     ·rw[ho] at hj;simp only[AX] at hj;subst hj;exact A0W k hk
     ·exact hs.closed j oj hj hlj k hk
    ·exact⟨hnm,fun t _=>by rw[hds],ZV.AI _ _,pR _ _ _,AJV fun t ht=>hW i o ho t ht⟩
end
end Go.V3
namespace Go.V3
open Go
variable {TB:Tb}
def Q9 {σ β:Type} (f:σ->Option (σ ⊕ β)):Nat->σ->Option β
 |0,_=>none
 |n+1,s=>match f s with
  |none=>none
  |some (.inl s')=>Q9 f n s'
  |some (.inr b)=>some b
open Classical in
noncomputable def AJ {σ β:Type} (f:σ->Option (σ ⊕ β)) (s:σ):Option β:=
 if h:∃ b,∃ n,Q9 f n s=some b then some h.choose else none
theorem uG {σ β:Type} {f:σ->Option (σ ⊕ β)}:∀ {n:Nat} {s:σ} {b:β},Q9 f n s=some b->Q9 f (n+1) s=some b
 |0,s,b,h=>by cases h
 |n+1,s,b,h=>by
  rw[Q9] at h ⊢
  split
  ·rename_i hf;rw[hf] at h;cases h
  ·rename_i s' hf;rw[hf] at h;exact uG h
  ·rename_i b' hf;rw[hf] at h;exact h
theorem AE9 {σ β:Type} {f:σ->Option (σ ⊕ β)} {n m:Nat} {s:σ} {b:β} (h:Q9 f n s=some b) (hm:n<=m):Q9 f m s=some b:=by
 induction hm with
 |refl=>exact h
 |step _ ih=>exact uG ih
theorem QG {σ β:Type} {f:σ->Option (σ ⊕ β)} {s:σ} {b:β}:AJ f s=some b↔∃ n,Q9 f n s=some b:=by
 unfold AJ
 constructor
 ·intro h
  split at h
  ·rename_i hx
   simp only[AX] at h
   rw[<-h];exact hx.choose_spec
  ·cases h
 ·rintro⟨n,hn⟩
  have hx:∃ b,∃ n,Q9 f n s=some b:=⟨b,n,hn⟩
  rw[dif_pos hx]
  obtain⟨m,hm⟩:=hx.choose_spec
  have h1:=AE9 hn (Nat.le_max_left n m)
  have h2:=AE9 hm (Nat.le_max_right n m)
  rw[h1] at h2
  exact h2.symm
theorem Q_ {σ β:Type} (f:σ->Option (σ ⊕ β)) (s:σ):AJ f s=match f s with
  |none=>none
  |some (.inl s')=>AJ f s'
  |some (.inr b)=>some b:=by
 have key:∀ b,AJ f s=some b↔(match f s with
  |none=>none
  |some (.inl s')=>AJ f s'
  |some (.inr b)=>some b)=some b:=by
  intro b
  rw[QG]
  constructor
  ·rintro⟨n,hn⟩
   cases n with
   |zero=>cases hn
   |succ n=>
    rw[Q9] at hn
    split at hn
    ·cases hn
    ·rename_i s' hf
     first|exact QG.2 ⟨n,hn⟩|(rw[hf];exact QG.2 ⟨n,hn⟩)
    ·rename_i b' hf
     first|exact hn|(rw[hf];exact hn)
  ·intro h
   split at h
   ·cases h
   ·rename_i s' hf
    obtain⟨n,hn⟩:=QG.1 h
    exact⟨n+1,by rw[Q9,hf];exact hn⟩
   ·rename_i b' hf
    exact⟨1,by rw[Q9,hf];exact h⟩
 cases h1:AJ f s with
 |some b=>exact ((key b).1 h1).symm
 |none=>
  cases h2:(match f s with
  |none=>none
  |some (.inl s')=>AJ f s'
  |some (.inr b)=>some b:Option β) with
  |none=>rfl
  |some b=>rw[(key b).2 h2] at h1;cases h1
def writes:Code->List Nat
 | .region _ ops _=>ops.toList.filterMap (·.dst)
 | .seq a b=>writes a++writes b
 | .cond _ a b=>writes a++writes b
 | .block _ c=>writes c
 | .loop c=>writes c
 | .scope c=>writes c
 |_=>[]
def HT.app:(zas bs:List CT)->HT zas->HT bs->HT (zas++bs)
 | [],_,_,y=>y
 | [_],bs,x,y=>HT.mk _ bs x y
 |_::d::r,bs,x,y=>(x.1,HT.app (d::r) bs x.2 y)
theorem HT.AEA:∀ (zas bs:List CT) (x:HT zas) (y:HT bs),HT.left zas bs (HT.app zas bs x y)=x
 | [],_,_,_=>rfl
 | [c],bs,x,y=>HT.pD c bs x y
 |c::d::r,bs,x,y=>by
  show (x.1,HT.left (d::r) bs (HT.app (d::r) bs x.2 y))=x
  rw[HT.AEA (d::r) bs x.2 y]
theorem HT.yX:∀ (zas bs:List CT) (x:HT zas) (y:HT bs),HT.right zas bs (HT.app zas bs x y)=y
 | [],_,_,_=>rfl
 | [c],bs,x,y=>HT.pE c bs x y
 |c::d::r,bs,x,y=>by
  show HT.right (d::r) bs (HT.app (d::r) bs x.2 y)=y
  exact HT.yX (d::r) bs x.2 y
def K9 (a:Ty):CT:=⟨.slice a,false,true,false⟩
@[reducible] def ZU.UI (BP:ZU):List CT:=BP.live.map (·.2)++BP.boxes.map (·.2)
@[reducible] def ZU.csR (BP:ZU):List CT:=BP.rows.map fun q=>K9 q.2
abbrev ZU.T (BP:ZU):Type:=HT (BP.UI++BP.csR)
def bS (AP:Nat->Option AW):List (Nat×CT)->Option (List SV)
 | []=>some []
 |(n,c)::r=>match AP n with
  |some (.box cs)=>(match bS AP r with
   |some l=>(match c.agg with
    |true=>some (.agg cs::l)
    |false=>(match cs with
     | [v]=>some (v::l)
     |_=>none))
   |none=>none)
  |_=>none
def uH (AP:Nat->Option AW):(rows:List (Nat×Ty))->Option (HT (rows.map fun q=>K9 q.2))
 | []=>some ()
 |(n,a)::r=>match AP n with
  |some (.row t xs)=>if h:t=a then (if a.qQ=true then none else match uH AP r with
   |some y=>some (HT.mk (K9 a) (r.map fun q=>K9 q.2) (HM h xs) y)
   |none=>none) else none
  |some (.deep t xss none)=>if h:Ty.slice t=a then (match uH AP r with
   |some y=>some (HT.mk (K9 a) (r.map fun q=>K9 q.2) (HM h xss) y)
   |none=>none) else none
  |some (.map xs)=>if h:Ty.kv=a then (match uH AP r with
   |some y=>some (HT.mk (K9 a) (r.map fun q=>K9 q.2) (HM h xs) y)
   |none=>none) else none
  |_=>none
def ver (L:AK) (n:Nat):Nat:=match L[n]? with
 |some q=>q.1
 |none=>0
def HR (L:AK) (n:Nat):Bool:=match look L n with
 |some .K5=>true
 |_=>false
def AJX (L:AK) (n:Nat):Bool:=match look L n with
 |some e=> !e.HR
 |none=>false
def ZU.wI (BP:ZU):List Nat:=BP.lost++(List.range (cnts BP.UI)).map (fun k=>BP.base+k)++BP.boxes.map (·.1)++BP.rows.map (·.1)
def A0X (BP:ZU) (L0 L:AK) (on:List Nat) (fz:C8):Bool:=
 decide BP.wI.Nodup && (List.range (cnts BP.UI)).all (fun k=>HR L0 (BP.base+k)) && (BP.boxes.map (·.1)++BP.rows.map (·.1)++BP.lost).all (fun n=>AJX L0 n) &&
 (BP.boxes.map (·.1)++BP.rows.map (·.1)).all (fun n=> !on.contains n && !(fz.map (·.1)).contains n) &&
 (List.range L0.length).all (fun n=>HR L0 n||BP.wI.contains n||(ver L0 n==ver L n && !on.contains n && !(fz.map (·.1)).contains n)) &&
 BP.UI.all (fun c=> !c.ptr)
def W8:List (Nat×Nat×Nat)->AK->AK
 | [],L=>L
 |(k,o,i)::r,L=>match look L k,look L o,look L i with
  |some (.row t xs),some .dead,some (.box cs)=>W8 r (AI L [(k,.dead),(o,.row t xs),(i,.box (cs.map (wC k o)))])
  |_,_,_=>W8 r L
def AXZ (BP:ZU) (L0:AK) (nes:List NE):Bool:=BP.pins.all fun p=>decide (BP.base<=p.1) && decide (p.1<BP.base+cnts BP.UI) && eQ nes[p.1-BP.base]? p.2.1 && AJX L0 p.2.1
def YG (BP:ZU) (L0:AK) (fr:List SV) (L:AK):Option BP.T:=
 match bS (look L) BP.boxes with
 |none=>none
 |some bs=>match JM .fM (look L) BP.UI (BP.live.map (fun q=>fr.getD q.1 AV)++bs) with
  |none=>none
  |some a=>match uH (look L) BP.rows with
   |none=>none
   |some y=>match okA a && A0X BP L0 L a.on a.fz && BP.live.all (fun q=> !yU (fr.getD q.1 AV)) && AXZ BP L0 a.nes with
    |true=>some (HT.app BP.UI BP.csR a.x y)
    |false=>none
def PU:(cs:List CT)->HT cs->List AW
 | [],_=>[]
 |c::r,x=>B6 c.own c.t (HT.hd c r x)++PU r (HT.tl c r x)
def bT:List (Nat×CT)->List SV->C8
 |(n,_)::r,v::vs=>(n,.box (BI v))::bT r vs
 |_,_=>[]
def jR:(rows:List (Nat×Ty))->HT (rows.map fun q=>K9 q.2)->C8
 | [],_=>[]
 |(n,a)::r,x=>(n,JK a (HT.hd (K9 a) (r.map fun q=>K9 q.2) x))::jR r (HT.tl (K9 a) (r.map fun q=>K9 q.2) x)
def ZU.svs (BP:ZU) (s:BP.T):List SV:=outSVs BP.UI (HT.left BP.UI BP.csR s) BP.base
def KJ (BP:ZU) (s:BP.T):C8:=
 BP.lost.map (fun n=>(n,.dead))++(CX BP.base (PU BP.UI (HT.left BP.UI BP.csR s))++(bT BP.boxes ((BP.svs s).drop BP.live.length)++jR BP.rows (HT.right BP.UI BP.csR s)))
def QH (fr:List SV):List (Nat×SV)->List SV
 | []=>fr
 |(t,v)::r=>QH (fr.set t v) r
def YH (BP:ZU) (fr:List SV) (s:BP.T):List SV:=QH (QH fr (BP.dead.map fun t=>(t,.nF t))) ((BP.live.map (·.1)).zip (BP.svs s))
def AHK (BP:ZU) (ws:List Nat):Bool:=ws.all (fun t=>(BP.live.map (·.1)).contains t||BP.dead.contains t) && (BP.live.map (·.1)).all ws.contains && BP.dead.all ws.contains && decide (BP.live.map (·.1)++BP.dead).Nodup
def V9:Code->Option Nat
 | .region id _ _=>some id
 | .seq a b=>(match V9 a with
  |some i=>some i
  |none=>V9 b)
 | .cond _ a b=>(match V9 a with
  |some i=>some i
  |none=>V9 b)
 | .block _ c=>V9 c
 | .loop c=>V9 c
 | .scope c=>V9 c
 |_=>none
def AY0 (cx:Cx) (b:Code):Option ZU:=match V9 b with
 |some i=>lk cx.bN i
 |none=>none
def AB2 (L:AK) (n:Nat):AK:=match look L n with
 |some (.deep t xss h)=>(match nT (look L) n t xss h with
  |some (_,u)=>AI L u
  |none=>L)
 |_=>L
def HJ:List (Nat×Ty)->AK->AK
 | [],L=>L
 |q::r,L=>HJ r (AB2 L q.1)
def APV {α:Type} (cx:Cx) (id:Nat) (fr:List SV) (L:AK) (K:AK->Option α):Option α:=match lk cx.opens id with
 |none=>K L
 |some (s,t,bs)=>(match fr.getD s AV,idxOf (fr.getD t AV) with
  | .MT i,some n=>(match look L i with
   |some (.deep a xss h)=>(match IV (look L) bs 1 with
    |true=>(match nT (look L) i a xss h with
     |some (ys,u)=>if 0<=n/\n<(ys.length:Int) then K (AI L (u++ [(bs,.dead),(i,.deep a ys (some (n.toNat,bs))),(bs,.row a (ys.getD n.toNat []))])) else none
     |none=>none)
    |false=>none)
   |_=>none)
  |_,_=>none)
noncomputable def rk (P:Program) (cx:Cx):Code->(α:Type)->Nat->(Exit->List SV->AK->Option α)->List SV->AK->Option α
 | .skip,_,_,K,fr,L=>K .normal fr L
 | .label _,_,_,K,fr,L=>K .normal fr L
 | .ret,_,_,K,fr,L=>K .ret fr L
 | .exit id,_,_,K,fr,L=>K (.exit id) fr L
 | .region id ops draw,_,_,K,fr,L=>APV cx id fr L (fun L=>match draw with
  |true=>(match AE3 ops.toList ops.toList 0 && P.follows .mixedOrders with
   |true=>AXX P cx ops.toList ops.toList 0 [] fr L (fun fr' L' =>K .normal fr' L')
   |false=>none)
  |false=>APQ P cx ops.toList ops.toList 0 fr L (fun fr' L' =>K .normal fr' L'))
 | .seq a b,α,K_,K,fr,L=>(match AY0 cx b with
  |none=>rk P cx a α K_ (fun e fr' L' =>match e with
   | .normal=>rk P cx b α K_ K fr' L'
   |e=>K e fr' L') fr L
  |some BP=>(match AHK BP (writes a) with
   |true=>(rk P cx a (BP.T ⊕ α) K_ (fun e fr' L' =>match e with
    | .normal=>(YG BP (HJ BP.rows L) fr' (HJ BP.rows L')).map Sum.inl
    |e=>(K e fr' L').map Sum.inr) fr (HJ BP.rows L)).bind (fun r=>match r with
     | .inl s=>rk P cx b α K_ K (YH BP fr s) (W8 BP.pins (AI (HJ BP.rows L) (KJ BP s)))
     | .inr b=>some b)
   |false=>none))
 | .cond c x y,α,K_,K,fr,L=>(match ev fr c with
  | .N1 b=>(match b with
   |true=>rk P cx x α K_ K fr L
   |false=>rk P cx y α K_ K fr L)
  | .bool b=>if b=true then rk P cx x α K_ K fr L else rk P cx y α K_ K fr L
  | .prop p d=> @ite _ p d (rk P cx x α K_ K fr L) (rk P cx y α K_ K fr L)
  |_=>none)
 | .block id c,α,_,K,fr,L=>rk P cx c α id (fun e fr' L' =>match e with
  | .exit i=>if i=id then K .normal fr' L' else K (.exit i) fr' L'
  |e=>K e fr' L') fr L
 | .scope c,α,K_,K,fr,L=>rk P cx c α K_ (fun e fr' L' =>match e with
  | .goto _=>none
  |e=>K e fr' L') fr L
 | .loop c,α,K_,K,fr,L=>(match lk cx.loops K_ with
  |none=>none
  |some BP=>(match AHK BP (writes c) with
   |true=>(match YG BP (HJ BP.rows L) fr (HJ BP.rows L) with
    |none=>none
    |some s0=>AJ (fun s=>rk P cx c (BP.T ⊕ α) K_ (fun e fr' L' =>match e with
     | .normal=>(YG BP (HJ BP.rows L) fr' (HJ BP.rows L')).map Sum.inl
     |e=>(K e fr' L').map Sum.inr) (YH BP fr s) (W8 BP.pins (AI (HJ BP.rows L) (KJ BP s)))) s0)
   |false=>none))
 |_,_,_,_,_,_=>none
end Go.V3
namespace Go.V3
open Go
variable {TB:Tb}
theorem bU {c:DW TB} {G:Nat->Prop} {w:World}:∀ (cs:List CT) (x:HT cs) (ms:Nat->Nm),(cs.all fun d=> !d.ptr)=true→
  (PU cs x).length=cnts cs/\(PS c G w cs x ms->∀ j e,(PU cs x)[j]? =some e->jE c G w (ms j) e)/\CA cs x ms=G5 (PU cs x) ms/\(∀ e∈PU cs x,e.HR=false)
 | [],_,_,_=>⟨rfl,fun _ j e h=>by simp [PU] at h,rfl,fun e h=>by simp [PU] at h⟩
 |d::r,x,ms,hp=>by
  simp only[sS,HQ,T4] at hp
  have hpn:d.pn=0:=by simp [CT.pn,hp.1]
  have nS:d.cnt=d.t.HE:=by simp [CT.cnt,hpn]
  obtain⟨i1,i2,i3,i4⟩:=bU (c:=c) (G:=G) (w:=w) r (HT.tl d r x) (fun k=>ms (d.cnt+k)) hp.2
  have hoc:MW d (HT.hd d r x) ms=G5 (B6 d.own d.t (HT.hd d r x)) ms:=by
   unfold MW;rw[hp.1,hpn];simp
  refine⟨by simp [PU,BE,i1,cnts,nS],fun hps j e he=> ?_, ?_, ?_⟩
  ·simp only[PU] at he
   by_cases hj:j<(B6 d.own d.t (HT.hd d r x)).length
   ·rw[VI hj] at he
    have:=hps.1.1 j e he
    rw[hpn,ML] at this
    exact this
   ·rw[VH (by omega)] at he
    have:=i2 hps.2 _ e he
    rw[BE] at this hj
    have e2:d.cnt+(j-d.t.HE)=j:=by omega
    rw[e2] at this
    exact this
  ·rw[nS] at i3
   simp only[CA,PU,YC,hoc,BE,nS]
   rw[i3]
  ·intro e he
   rcases EY.1 he with he|he
   ·obtain⟨j,hj,rfl⟩:=fJ he
    exact W2 (NH hj)
   ·exact i4 e he
theorem n_ {b:Nat}:∀ (es:List AW) (ms:Nat->Nm),(G5 es ms).Nodup->∀ (j k:Nat) (e f:AW),j<k->es[j]? =some e->es[k]? =some f->b∈e.W1 (ms j)->¬b∈f.W1 (ms k)
 | [],_,_,j,k,e,f,_,h,_,_=>by simp at h
 |x::r,ms,H9,0,0,e,f,kP,_,_,_=>by omega
 |x::r,ms,H9,j+1,0,e,f,kP,_,_,_=>by omega
 |x::r,ms,H9,0,k+1,e,f,_,h1,h2,hb=>by
  simp only[OS,AX] at h1;subst h1
  simp only[vW] at h2
  intro hf
  have:=QA.1 H9
  exact this.2.2 b hb b (H8 r k (fun k=>ms (k+1)) h2 hf) rfl
 |x::r,ms,H9,j+1,k+1,e,f,kP,h1,h2,hb=>by
  simp only[vW] at h1 h2
  exact n_ r (fun k=>ms (k+1)) (QA.1 H9).2.1 j k e f (by omega) h1 h2 hb
theorem AB3 (n:Nat) (es:List AW):(CX n es).map (·.1)=(List.range es.length).map (fun k=>n+k):=by
 induction es generalizing n with
 |nil=>rfl
 |cons e r ih=>
  simp only[CX,KU,ih,NZ,List.range_succ_eq_map,UN,NJ,iZ,iH]
  apply VK
  intro k _
  simp;omega
theorem AB4 {n:Nat} {es:List AW} {q:Nat×AW} (h:q∈CX n es):∃ j,q.1=n+j/\es[j]? =some q.2:=by
 induction es generalizing n with
 |nil=>cases h
 |cons e r ih=>
  rcases GD.1 h with rfl|h
  ·exact⟨0,rfl,rfl⟩
  ·obtain⟨j,h1,h2⟩:=ih h
   exact⟨j+1,by rw[h1];omega,by simpa using h2⟩
theorem NN:∀ (cs:List CT) (x:HT cs) (n:Nat),(outSVs cs x n).length=cs.length
 | [],_,_=>rfl
 |d::r,x,n=>by simp [outSVs,NN r]
theorem uI:∀ (bs:List (Nat×CT)) (vs:List SV),vs.length=bs.length->(bT bs vs).map (·.1)=bs.map (·.1)
 | [],[],_=>rfl
 | [],_::_,h=>by simp at h
 |_::_,[],h=>by simp at h
 |(n,c)::r,v::vs,h=>by simp only[bT,KU];rw[uI r vs (by simpa using h)]
theorem jS:∀ (rows:List (Nat×Ty)) (x:HT (rows.map fun q=>K9 q.2)),(jR rows x).map (·.1)=rows.map (·.1)
 | [],_=>rfl
 |(n,a)::r,x=>by simp only[jR,KU];rw[jS r]
theorem AMJ (BP:ZU) (s:BP.T) (hp:(BP.UI.all fun d=> !d.ptr)=true):(KJ BP s).map (·.1)=BP.wI:=by
 unfold KJ ZU.wI
 have hl:((BP.svs s).drop BP.live.length).length=BP.boxes.length:=by
  unfold ZU.svs
  rw[xQ,NN]
  simp [ZU.UI]
 obtain⟨e1,_⟩:=bU (c:=(⟨default,fun _=>False,fun _=>False⟩:DW [])) (G:=fun _=>False) (w:=default) BP.UI (HT.left BP.UI BP.csR s) (fun _=>⟨0,0,true,0,0,none⟩) hp
 have h1:(BP.lost.map (fun n=>(n,AW.dead))).map (·.1)=BP.lost:=by simp [sO]
 have h2:=jS BP.rows (HT.right BP.UI BP.csR s)
 rw[ZQ,ZQ,ZQ,h1,AB3,e1,uI _ _ hl,JH,JH]
 congr 3
theorem ZI:∀ (u:C8) (L:AK),(u.map (·.1)).Nodup->(∀ n∈u.map (·.1),n<L.length)->∀ q∈u,look (AI L u) q.1=some q.2
 | [],_,_,_,q,h=>by cases h
 |p::r,L,H9,DM,q,hq=>by
  simp only[KU,UM] at H9
  rcases GD.1 hq with rfl|hq
  ·show look (AI (DE L q) r) q.1=_
   rw[(HN H9.1).1,AZ (DM _ (by simp)),AB rfl]
  ·exact ZI r (DE L p) H9.2 (fun n hn=>by rw[F5];exact DM n (by simp [hn])) q hq
theorem yY:∀ (cs:List CT) (x:HT cs) (n:Nat) {E:Env} {L:AK},(cs.all fun d=> !d.ptr)=true->(∀ k,k<cnts cs->Al L (n+k))->K6 E L (outSVs cs x n)
 | [],_,_,_,_,_,_=>trivial
 |d::r,x,n,E,L,hp,h=>by
  simp only[sS,HQ,T4] at hp
  have nS:d.cnt=d.t.HE:=by simp [CT.cnt,CT.pn,hp.1]
  refine⟨?_,yY r _ _ hp.2 fun k hk=>by rw[N0];exact h _ (by simp [cnts];omega)⟩
  have hu:K6 E L (H_ d.t (HT.hd d r x) n):=tF _ _ _ fun j hj=>h j (by simp [cnts,nS];omega)
  unfold S8
  rw[hp.1]
  cases d.agg with
  |true=>exact hu
  |false=>
   show SV.wf _ _ ((H_ d.t (HT.hd d r x) n).headD AV)
   cases hx:H_ d.t (HT.hd d r x) n with
   |nil=>trivial
   |cons v r=>rw[hx] at hu;exact hu.1
theorem AMK (t:Ty) (x:t.T) (n:Nat):∀ v∈H_ t x n,BI v=[v]:=by
 induction t generalizing n with
 |pair a b VE VF=>
  intro v hv
  rcases EY.1 hv with hv|hv
  ·exact VE _ _ v hv
  ·exact VF _ _ v hv
 |_=>intro v hv;simp only[H_,GO] at hv;subst hv;rfl
theorem uJ:∀ (cs:List CT) (x:HT cs) (n k:Nat) (v:SV),(outSVs cs x n)[k]? =some v->∃ (d:CT) (y:d.t.T) (m:Nat),cs[k]? =some d/\v=S8 d y m/\n<=m/\m+d.cnt<=n+cnts cs
 | [],_,_,_,_,h=>by simp [outSVs] at h
 |d::r,x,n,0,v,h=>by
  simp only[outSVs,OS,AX] at h
  exact⟨d,_,n,rfl,h.symm,EL _,by simp [cnts]⟩
 |d::r,x,n,k+1,v,h=>by
  simp only[outSVs,vW] at h
  obtain⟨d',y,m,h1,h2,h3,h4⟩:=uJ r _ _ k v h
  exact⟨d',y,m,by simpa using h1,h2,by omega,by simp only[cnts];omega⟩
theorem NO (fr:List SV) (l:List (Nat×SV)):(QH fr l).length=fr.length:=by
 induction l generalizing fr with
 |nil=>rfl
 |cons q r ih=>obtain⟨t,v⟩:=q;simp [QH,ih]
theorem QI (fr:List SV) (l:List (Nat×SV)) (t:Nat) (h:∀ q∈l,q.1≠t):(QH fr l).getD t AV=fr.getD t AV:=by
 induction l generalizing fr with
 |nil=>rfl
 |cons q r ih=>
  obtain⟨k,v⟩:=q
  simp only[QH]
  rw[ih _ (fun q hq=>h q (by simp [hq])),EZ,AD]
  rintro⟨rfl,_⟩
  exact h (k,v) (by simp) rfl
theorem XG (fr:List SV) (l:List (Nat×SV)) (H9:(l.map (·.1)).Nodup) {t:Nat} {v:SV} (h:(t,v)∈l) (ht:t<fr.length):(QH fr l).getD t AV=v:=by
 induction l generalizing fr with
 |nil=>cases h
 |cons q r ih=>
  obtain⟨k,u⟩:=q
  simp only[KU,UM] at H9
  simp only[QH]
  rcases GD.1 h with he|h
  ·cases he
   rw[QI _ _ _ (fun q hq he=>H9.1 (C6.2 ⟨q,hq,he⟩)),EZ,AB ⟨rfl,ht⟩]
  ·exact ih _ H9.2 h (by simpa using ht)
theorem YI {AP:Nat->Option AW}:∀ (bs:List (Nat×CT)) (l:List SV),bS AP bs=some l->l.length=bs.length/\∀ (j n:Nat) (c:CT),bs[j]? =some (n,c)->∃ cs,AP n=some (.box cs)/\((c.agg=true/\l[j]? =some (.agg cs))\/(c.agg=false/\∃ v,cs=[v]/\l[j]? =some v))
 | [],l,h=>by simp only[bS,AX] at h;subst h;exact⟨rfl,fun j n c h=>by simp at h⟩
 |(n,c)::r,l,h=>by
  simp only[bS] at h
  split at h
  rotate_left
  ·cases h
  rename_i cs hl
  split at h
  rotate_left
  ·cases h
  rename_i l' x7
  obtain⟨i1,i2⟩:=YI r l' x7
  split at h
  ·rename_i ha
   simp only[AX] at h;subst h
   refine⟨by simp [i1],fun j n' c' hj=> ?_⟩
   cases j with
   |zero=>simp only[OS,AX,DB] at hj;obtain⟨rfl,rfl⟩:=hj;exact⟨cs,hl,.inl ⟨ha,rfl⟩⟩
   |succ j=>exact i2 j n' c' (by simpa using hj)
  ·rename_i ha
   split at h
   rotate_left
   ·cases h
   rename_i v
   simp only[AX] at h;subst h
   refine⟨by simp [i1],fun j n' c' hj=> ?_⟩
   cases j with
   |zero=>simp only[OS,AX,DB] at hj;obtain⟨rfl,rfl⟩:=hj;exact⟨[v],hl,.inr ⟨ha,v,rfl,rfl⟩⟩
   |succ j=>exact i2 j n' c' (by simpa using hj)
theorem uK:∀ (bs:List (Nat×CT)) (vs:List SV) (q:Nat×AW),q∈bT bs vs->∃ (j:Nat) (c:CT) (v:SV),bs[j]? =some (q.1,c)/\vs[j]? =some v/\q.2= .box (BI v)
 | [],_,_,h=>by simp [bT] at h
 |_::_,[],_,h=>by simp [bT] at h
 |(n,c)::r,v::vs,q,h=>by
  simp only[bT] at h
  rcases GD.1 h with rfl|h
  ·exact⟨0,c,v,rfl,rfl,rfl⟩
  ·obtain⟨j,c',v',h1,h2,h3⟩:=uK r vs q h
   exact⟨j+1,c',v',by simpa using h1,by simpa using h2,h3⟩
theorem uL {AP:Nat->Option AW}:∀ (rows:List (Nat×Ty)) (y:HT (rows.map fun q=>K9 q.2)),uH AP rows=some y->∀ q∈jR rows y,∃ (a:Ty) (xs:List a.T),AP q.1=some (JK a xs)/\q.2=JK a xs
 | [],_,_,q,h=>by simp [jR] at h
 |(n,a)::r,y,hp,q,h=>by
  have key:∃ (xs:List a.T) (y' :HT (r.map fun q=>K9 q.2)),AP n=some (JK a xs)/\uH AP r=some y' /\y=HT.mk (K9 a) (r.map fun q=>K9 q.2) xs y' :=by
   simp only[uH] at hp
   split at hp
   ·rename_i t xs hl
    split at hp
    rotate_left
    ·cases hp
    rename_i ht
    subst ht
    split at hp
    ·cases hp
    rename_i PO
    split at hp
    rotate_left
    ·cases hp
    rename_i y' yZ
    simp only[AX] at hp
    exact⟨xs,y',by rw[LN (by simpa using PO)];exact hl,yZ,hp.symm⟩
   ·rename_i t xss hl
    split at hp
    rotate_left
    ·cases hp
    rename_i ht
    subst ht
    split at hp
    rotate_left
    ·cases hp
    rename_i y' yZ
    simp only[AX] at hp
    exact⟨xss,y',hl,yZ,hp.symm⟩
   ·rename_i xs hl
    split at hp
    rotate_left
    ·cases hp
    rename_i ht
    subst ht
    split at hp
    rotate_left
    ·cases hp
    rename_i y' yZ
    simp only[AX] at hp
    exact⟨xs,y',hl,yZ,hp.symm⟩
   ·cases hp
  obtain⟨xs,y',hl,yZ,rfl⟩:=key
  simp only[jR] at h
  rcases GD.1 h with rfl|h
  ·refine⟨a,xs,hl, ?_⟩
   exact MS (JK a) (HT.pD (K9 a) (r.map fun q=>K9 q.2) xs y')
  ·refine uL r y' yZ q ?_
   have e:HT.tl (K9 a) (r.map fun q=>K9 q.2) (HT.mk (K9 a) (r.map fun q=>K9 q.2) xs y')=y' :=HT.pE _ _ _ _
   rw[e] at h;exact h
theorem bV {L L' :AK} (h:ZV L L') {n:Nat} {e:AW} (he:look L n=some e) (hv:ver L n=ver L' n):look L' n=some e:=by
 have DM:=AO he
 have AY1 :n<L'.length:=by rw[h.1];exact DM
 have e1:L[n]? =some (L[n].1,L[n].2):=NH DM
 have e2:L'[n]? =some (L'[n].1,L'[n].2):=NH AY1
 have hve:L'[n].1=L[n].1:=by
  unfold ver at hv
  rw[e1,e2] at hv
  exact hv.symm
 have hfe:=(h.2 n _ _ _ _ e1 e2).2 hve
 unfold look at he ⊢
 rw[e1] at he
 rw[e2]
 simp only[hfe]
 exact he
set_option maxHeartbeats 1000000 in
theorem AY2 {BP:ZU} {W:List Nat} (hwr:AHK BP W=true) {c:DW TB} {w0:World} {E:Env} {fr:List SV} {L:AK} {G0:Nat->Prop} (hH0:AR c G0 w0 E L) (hF0:uA E L fr)
  {E' :Env} {fr' :List SV} {L' :AK} {a:Act} {w:World} (hst:St c E' fr' L' a w) (LV:Ext W E fr L E' fr' L') {s:BP.T} (hp:YG BP L fr' L' =some s):
  ∃ E2,St c E2 (YH BP fr s) (AI L (KJ BP s)) a w/\Ext W E fr L E2 (YH BP fr s) (AI L (KJ BP s))/\∀ p∈BP.pins,E2.nm p.1=E2.nm p.2.1:=by
 unfold YG at hp
 split at hp
 ·cases hp
 rename_i bs LL
 split at hp
 ·cases hp
 rename_i tk htk
 split at hp
 ·cases hp
 rename_i y hy
 split at hp
 rotate_left
 ·cases hp
 rename_i hck
 simp only[AX] at hp
 simp only[HQ] at hck
 obtain⟨⟨⟨A3J,A0Y⟩,hnu⟩,A0Z⟩:=hck
 simp only[A0X,HQ,IW] at A0Y
 obtain⟨⟨⟨⟨⟨o1,o2⟩,o3⟩,o4⟩,o5⟩,o6⟩:=A0Y
 simp only[AHK,HQ,IW] at hwr
 obtain⟨⟨⟨wr1,wr2⟩,wr3⟩,wr4⟩:=hwr
 have AEB:HT.left BP.UI BP.csR s=tk.x:=by rw[<-hp];exact HT.AEA _ _ _ _
 have AY3:HT.right BP.UI BP.csR s=y:=by rw[<-hp];exact HT.yX _ _ _ _
 obtain⟨G,hG⟩:=hst.hd
 have A12:K6 E' L' (BP.live.map (fun q=>fr'.getD q.1 AV)++bs):=by
  refine BW.2 fun v hv=> ?_
  rcases EY.1 hv with hv|hv
  ·obtain⟨q,hq,rfl⟩:=C6.1 hv
   rcases hst.wf q.1 with h|h
   ·exact h
   ·have:=JV.1 hnu q hq
    rw[h] at this;simp [yU] at this
  ·obtain⟨j,hj,rfl⟩:=fJ hv
   obtain⟨b1,b2⟩:=YI _ _ LL
   have hjb:j<BP.boxes.length:=by omega
   obtain⟨cs,h1,h2⟩:=b2 j _ _ (NH hjb)
   have hwc:=(hG.LK _ _ h1).2.2.2.2.2
   rcases h2 with ⟨_,h3⟩|⟨_,v,rfl,h3⟩
   ·rw[NH hj] at h3;simp only[AX] at h3;rw[h3];exact hwc
   ·rw[NH hj] at h3;simp only[AX] at h3;rw[h3];exact hwc.1
 obtain⟨G1,G2,t1,t2,t3,t4,t5,t6,t7,t8,t9,t10,t11⟩:=hG.take (md:= .fM) (by simp) (fun n e h=>h) htk A3J A12
 have h21:=t4 rfl
 rw[h21] at t9
 obtain⟨AJE,jI⟩:=W4 E' _ _ _ htk
 obtain⟨f1,f2,f3,f4⟩:=bU (c:=c) (G:=G1) (w:=w) BP.UI tk.x (D7 E' tk.nes) o6
 have f2:=f2 t9
 rw[f3] at t10 t11
 let E2:Env:={ nm:=fun n=>if BP.base<=n/\n<BP.base+cnts BP.UI then D7 E' tk.nes (n-BP.base) else E'.nm n,ds:=fun t=>if t∈BP.dead then (fr'.getD t AV).den E' else E'.ds t,ins:=⟨fun n=>if BP.base<=n/\n<BP.base+cnts BP.UI then (D7 E' tk.nes (n-BP.base)).ins.l else E'.ins.l n⟩ }
 have uM:∀ n,(BP.base<=n/\n<BP.base+cnts BP.UI)->look L n=some .K5:=by
  intro n hn
  have:=JV.1 o2 (n-BP.base) (i_.2 (by omega))
  have e:BP.base+(n-BP.base)=n:=by omega
  rw[e] at this
  unfold HR at this
  split at this
  ·assumption
  ·cases this
 have AW3:∀ n,Al L n->¬(BP.base<=n/\n<BP.base+cnts BP.UI):=fun n hn hx=>EJ (uM n hx) hn
 have rB :∀ n,Al L n->E2.nm n=E'.nm n:=fun n hn=>AD (AW3 n hn)
 have hE2:∀ n,Al L n->E2.nm n=E.nm n:=fun n hn=>(rB n hn).trans (LV.nm n hn).1
 have APW:∀ j,j<cnts BP.UI->E2.nm (BP.base+j)=D7 E' tk.nes j:=by
  intro j hj
  show (if _ then _ else _)=_
  rw[AB ⟨by omega,by omega⟩]
  congr 1;omega
 have APX :∀ n,Al L n->E2.ins.l n=E'.ins.l n:=fun n hn=>AD (AW3 n hn)
 have A13:∀ j,j<cnts BP.UI->E2.ins.l (BP.base+j)=(D7 E' tk.nes j).ins.l:=by
  intro j hj
  show (if _ then _ else _)=_
  rw[AB ⟨by omega,by omega⟩]
  congr 3;omega
 have bW:∀ n,n∈BP.boxes.map (·.1)++BP.rows.map (·.1)++BP.lost->Al L n:=by
  intro n hn
  have:=JV.1 o3 n hn
  unfold AJX at this
  split at this
  ·rename_i e he;exact⟨e,he,by simpa using this⟩
  ·cases this
 have AHL:=AMJ BP s o6
 have A3K:∀ n∈(KJ BP s).map (·.1),n<L.length:=by
  intro n hn
  rw[AHL] at hn
  simp only[ZU.wI,EY] at hn
  rcases hn with ((hn|hn)|hn)|hn
  ·obtain⟨e,he,_⟩:=bW n (by simp only[EY];exact .inr hn);exact AO he
  ·obtain⟨k,hk,rfl⟩:=C6.1 hn
   exact AO (uM _ ⟨by omega,by have:=i_.1 hk;omega⟩)
  ·obtain⟨e,he,_⟩:=bW n (by simp only[EY];exact .inl (.inl hn));exact AO he
  ·obtain⟨e,he,_⟩:=bW n (by simp only[EY];exact .inl (.inr hn));exact AO he
 have APY:=ZI (KJ BP s) L (by rw[AHL];exact o1) A3K
 have AJY:∀ n,n∉BP.wI->look (AI L (KJ BP s)) n=look L n:=fun n hn=>(HN (by rw[AHL];exact hn)).1
 have AJZ:∀ q∈KJ BP s,(q.2= .dead/\q.1∈BP.lost)\/(∃ j,q.1=BP.base+j/\(PU BP.UI tk.x)[j]? =some q.2)∨
   (∃ (j:Nat) (d:CT) (v:SV),BP.boxes[j]? =some (q.1,d)/\(outSVs BP.UI tk.x BP.base)[BP.live.length+j]? =some v/\q.2= .box (BI v))\/(∃ (a:Ty) (xs:List a.T),look L' q.1=some (JK a xs)/\q.2=JK a xs/\q.1∈BP.rows.map (·.1)):=by
  intro q hq
  simp only[KJ,EY] at hq
  rcases hq with hq|hq|hq|hq
  ·obtain⟨n,hn,rfl⟩:=C6.1 hq;exact .inl ⟨rfl,hn⟩
  ·rw[AEB] at hq;exact .inr (.inl (AB4 hq))
  ·obtain⟨j,d,v,h1,h2,h3⟩:=uK _ _ _ hq
   refine .inr (.inr (.inl ⟨j,d,v,h1, ?_,h3⟩))
   rw[aX] at h2
   unfold ZU.svs at h2
   rw[AEB] at h2
   exact h2
  ·refine .inr (.inr (.inr ?_))
   have PT :=hq
   rw[AY3] at hq
   obtain⟨a,xs,h1,h2⟩:=uL _ _ hy q hq
   refine⟨a,xs,h1,h2, ?_⟩
   rw[<-jS BP.rows (HT.right BP.UI BP.csR s)]
   exact C6.2 ⟨q,PT,rfl⟩
 have MY:∀ n,Al L n->Al (AI L (KJ BP s)) n:=by
  intro n hn
  by_cases hns:n∈BP.wI
  ·rw[<-AHL] at hns
   obtain⟨q,hq,rfl⟩:=C6.1 hns
   refine⟨q.2,APY q hq, ?_⟩
   rcases AJZ q hq with ⟨h,_⟩|⟨j,_,h⟩|⟨_,_,_,_,_,h⟩|⟨_,_,_,h,_⟩
   ·rw[h];rfl
   ·exact f4 _ (ZO h)
   ·rw[h];rfl
   ·rw[h];exact jC _ _
  ·obtain⟨e,tG,he2⟩:=hn
   exact⟨e,by rw[AJY n hns];exact tG,he2⟩
 have A3L:∀ k,k<cnts BP.UI->Al (AI L (KJ BP s)) (BP.base+k):=by
  intro k hk
  have DM:k<(PU BP.UI tk.x).length:=by rw[f1];exact hk
  have hq:(BP.base+k,(PU BP.UI tk.x)[k])∈KJ BP s:=by
   simp only[KJ,EY]
   refine .inr (.inl ?_)
   rw[AEB]
   have key:∀ (es:List AW) (n k:Nat) (h:k<es.length),(n+k,es[k])∈CX n es:=by
    intro es
    induction es with
    |nil=>intro n k h;simp at h
    |cons e r ih=>
     intro n k h
     cases k with
     |zero=>simp [CX]
     |succ k=>
      simp only[CX,List.getElem_cons_succ]
      have:=ih (n+1) k (by simpa using h)
      have e1:n+1+k=n+(k+1):=by omega
      rw[e1] at this
      exact VJ _ this
   exact key _ _ _ DM
  exact⟨_,APY _ hq,f4 _ (ACT DM)⟩
 have bI:∀ n,n∈BP.boxes.map (·.1)++BP.rows.map (·.1)->look (AI L' tk.DD) n=look L' n:=by
  intro n hn
  have:=JV.1 o4 n hn
  simp only[HQ,T4,AA7,aV] at this
  exact t7 n this.1 this.2
 have AW4:K6 E2 (AI L (KJ BP s)) (outSVs BP.UI tk.x BP.base):=yY _ _ _ o6 A3L
 have APZ:AL E' (BP.live.map (fun q=>fr'.getD q.1 AV)++bs)=AL E2 (outSVs BP.UI tk.x BP.base):=jI E2 BP.base APW
 have ADI:∀ (j:Nat) (n:Nat) (d:CT) (v:SV),BP.boxes[j]? =some (n,d)->(outSVs BP.UI tk.x BP.base)[BP.live.length+j]? =some v→
   ∃ cs,look L' n=some (.box cs)/\AL E2 (BI v)=AL E' cs/\K6 E2 (AI L (KJ BP s)) (BI v):=by
  intro j n d v hj hv
  obtain⟨b1,b2⟩:=YI _ _ LL
  obtain⟨cs,h1,h2⟩:=b2 j n d hj
  have hvw:v.wf E2 (AI L (KJ BP s)):=BW.1 AW4 v (ZO hv)
  refine⟨cs,h1, ?_,QF hvw⟩
  have qX:j<bs.length:=by
   rcases h2 with ⟨_,h3⟩|⟨_,_,_,h3⟩
   all_goals
    rcases GS j bs.length with h|h
    ·exact h
    ·rw[T3 h] at h3;cases h3
  have hdv:v.den E2=(bs[j]).den E' :=by
   have:=MS (fun l=>l[BP.live.length+j]?) APZ
   simp only[FJ,hv,aZ] at this
   rw[VH (by simp),QY,Nat.add_sub_cancel_left,NH qX] at this
   simp only[aZ,AX] at this
   exact this.symm
  obtain⟨d',z,m,g1,g2,_,_⟩:=uJ _ _ _ _ _ hv
  have hd' :d' =d:=by
   have:BP.UI[BP.live.length+j]? =some d:=by
    unfold ZU.UI
    rw[VH (by simp),QY,Nat.add_sub_cancel_left,xM,hj];rfl
   rw[this] at g1;simp only[AX] at g1;exact g1.symm
  subst hd'
  have ATC:d'.ptr=false:=by
   have:=JV.1 o6 d' (ZO g1)
   simpa using this
  rcases h2 with ⟨ha,h3⟩|⟨ha,u,rfl,h3⟩
  ·rw[NH qX] at h3
   simp only[AX] at h3
   rw[h3,g2] at hdv
   rw[g2]
   unfold S8 at hdv ⊢
   rw[ATC,ha] at hdv ⊢
   simp only[SV.den,Value.agg.injEq] at hdv
   have:=MS Array.toList hdv
   simpa [BI] using this
  ·rw[NH qX] at h3
   simp only[AX] at h3
   rw[h3] at hdv
   have hcv:BI v=[v]:=by
    rw[g2]
    unfold S8
    rw[ATC,ha]
    simp only
    cases hu:H_ d'.t z m with
    |nil=>rfl
    |cons x r=>exact AMK d'.t z m x (by rw[hu];simp)
   rw[hcv]
   simp [AL,hdv]
 have AHM:∀ (n:Nat) (e:AW) (b:Nat),look (AI L (KJ BP s)) n=some e->e.ow E2 n b→
   (∃ j,n=BP.base+j/\(PU BP.UI tk.x)[j]? =some e/\b∈e.W1 (D7 E' tk.nes j))\/(∃ f,look (AI L' tk.DD) n=some f/\f.ow E' n b):=by
  intro n e b he hb
  by_cases hns:n∈BP.wI
  ·rw[<-AHL] at hns
   obtain⟨q,hq,rfl⟩:=C6.1 hns
   have:=APY q hq
   rw[he] at this
   simp only[AX] at this
   subst this
   rcases AJZ q hq with ⟨h,_⟩|⟨j,h1,h2⟩|⟨j,d,v,h1,h2,h3⟩|⟨a',xs,h1,h2,h3⟩
   ·rw[h] at hb;rcases hb with hb|⟨hb,_⟩|⟨hb,_⟩ <;> cases hb
   ·have hj:j<cnts BP.UI:=by
     rcases GS j (PU BP.UI tk.x).length with h|h
     ·rwa [f1] at h
     ·rw[T3 h] at h2;cases h2
    rw[h1,AW.AAK (APW j hj) (A13 j hj)] at hb
    exact .inl ⟨j,h1,h2,hb⟩
   ·obtain⟨cs,k1,_,_⟩:=ADI j q.1 d v h1 h2
    have OE:q.1∈BP.boxes.map (·.1):=C6.2 ⟨_,ZO h1,rfl⟩
    have nG:=bW q.1 (by simp only[EY];exact .inl (.inl OE))
    rw[AW.eO ⟨rB _ nG,APX _ nG⟩,h3,AW.eM rfl] at hb
    exact .inr ⟨.box cs,by rw[bI q.1 (EY.2 (.inl OE))];exact k1,.inl hb⟩
   ·have nG:=bW q.1 (by simp only[EY];exact .inl (.inr h3))
    rw[AW.eO ⟨rB _ nG,APX _ nG⟩,h2] at hb
    exact .inr ⟨JK a' xs,by rw[bI q.1 (EY.2 (.inr h3))];exact h1,hb⟩
  ·rw[AJY n hns] at he
   have DM:=AO he
   have hnr:e.HR=false:=by cases e <;> first|rfl|(rcases hb with hb|⟨hb,_⟩|⟨hb,_⟩ <;> cases hb)
   have nG:Al L n:=⟨e,he,hnr⟩
   have h5:=JV.1 o5 n (i_.2 DM)
   simp only[o9,HQ,VZ,T4,AA7,aV,IW] at h5
   rcases h5 with (h5|h5)|⟨⟨h5,h6⟩,h7⟩
   ·unfold HR at h5;rw[he] at h5;cases e <;> first|(cases hnr;done)|(cases h5;done)
   ·exact absurd h5 hns
   ·rw[AW.eO ⟨rB _ nG,APX _ nG⟩] at hb
    right
    have AY1 :n<L'.length:=by rw[LV.rA.1];exact DM
    have CP:look L' n=some e:=bV LV.rA he h5
    exact⟨e,by rw[t7 n h6 h7];exact CP,hb⟩
 have AY4:AR c G1 w E2 (AI L (KJ BP s)):=by
  refine⟨t1.rest,t1.size,t1.old,t1.vR,t1.glo,t1.ghi, ?_, ?_, ?_,t1.tab⟩
  ·intro n e he
   by_cases hns:n∈BP.wI
   ·rw[<-AHL] at hns
    obtain⟨q,hq,rfl⟩:=C6.1 hns
    have:=APY q hq
    rw[he] at this
    simp only[AX] at this
    subst this
    rcases AJZ q hq with ⟨h,_⟩|⟨j,h1,h2⟩|⟨j,d,v,h1,h2,h3⟩|⟨a',xs,h1,h2,h3⟩
    ·rw[h];trivial
    ·have hj:j<cnts BP.UI:=by
      rcases GS j (PU BP.UI tk.x).length with h|h
      ·rwa [f1] at h
      ·rw[T3 h] at h2;cases h2
     have hm:=f2 j _ h2
     rw[h1,APW j hj]
     generalize q.2=e at hm
     cases e <;> first|exact hm|exact hm.elim|trivial
    ·obtain⟨cs,k1,k2,k3⟩:=ADI j q.1 d v h1 h2
     have OE:q.1∈BP.boxes.map (·.1):=C6.2 ⟨_,ZO h1,rfl⟩
     have nG:=bW q.1 (by simp only[EY];exact .inl (.inl OE))
     obtain⟨p1,p2,p3,p4,⟨ty,p5⟩,p6⟩:=t1.LK q.1 (.box cs) (by rw[bI q.1 (EY.2 (.inl OE))];exact k1)
     rw[h3,rB _ nG]
     exact⟨p1,p2,p3,p4,⟨ty,by rw[k2];exact p5⟩,k3⟩
    ·have nG:=bW q.1 (by simp only[EY];exact .inl (.inr h3))
     have:=t1.LK q.1 (JK a' xs) (by rw[bI q.1 (EY.2 (.inr h3))];exact h1)
     rw[h2,rB _ nG]
     cases a' with
     |pair a b=>cases a <;> cases b <;> exact this
     |_=>exact this
   ·have he0:=he
    rw[AJY n hns] at he
    have DM:=AO he
    cases hr:e.HR with
    |true=>cases e <;> first|trivial|cases hr
    |false=>
     have nG:Al L n:=⟨e,he,hr⟩
     have h5:=JV.1 o5 n (i_.2 DM)
     simp only[o9,HQ,VZ,T4,AA7,aV,IW] at h5
     rcases h5 with (h5|h5)|⟨⟨h5,h6⟩,h7⟩
     ·unfold HR at h5;rw[he] at h5;cases e <;> first|(cases hr;done)|(cases h5;done)
     ·exact absurd h5 hns
     ·have AY1 :n<L'.length:=by rw[LV.rA.1];exact DM
      have CP:look L' n=some e:=bV LV.rA he h5
      have tP:=t1.LK n e (by rw[t7 n h6 h7];exact CP)
      have AEC:=hH0.LK n e he
      rw[rB _ nG]
      cases e with
      |box cs=>
       obtain⟨p1,p2,p3,p4,⟨ty,p5⟩,p6⟩:=tP
       obtain⟨x1,x2⟩:=K7 MY hE2 cs AEC.2.2.2.2.2
       obtain⟨_,x4⟩:=K7 (fun n hn=>(LV.nm n hn).2) (fun n hn=>(LV.nm n hn).1) cs AEC.2.2.2.2.2
       exact⟨p1,p2,p3,p4,⟨ty,by rw[x2,←x4];exact p5⟩,x1⟩
      |ptr j=>
       obtain⟨y1,⟨arr,ty,fz,y2,y3⟩,_⟩:=tP
       have y4:=AEC.2.2
       exact⟨y1,⟨arr,ty,fz,y2,by rw[rB j y4];exact y3⟩,MY j y4⟩
      |_=>exact tP
  ·intro n t xss hq he
   by_cases hns:n∈BP.wI
   ·rw[<-AHL] at hns
    obtain⟨q,PT,rfl⟩:=C6.1 hns
    have:=APY q PT
    rw[he] at this
    simp only[AX] at this
    rcases AJZ q PT with ⟨h,_⟩|⟨j,h1,h2⟩|⟨j,d,v,h1,h2,h3⟩|⟨a',xs,h1,h2,h3⟩
    ·rw[h] at this;cases this
    ·have hj:j<cnts BP.UI:=by
      rcases GS j (PU BP.UI tk.x).length with h|h
      ·rwa [f1] at h
      ·rw[T3 h] at h2;cases h2
     have hm:=f2 j _ h2
     rw[<-this] at hm
     obtain⟨rfl,hm⟩:=hm
     rw[h1,APW j hj,A13 j hj]
     exact hm.env ⟨rfl,rfl,rfl,rfl,rfl⟩
    ·rw[h3] at this;cases this
    ·have nG:=bW q.1 (by simp only[EY];exact .inl (.inr h3))
     rw[h2] at this
     cases a' with
     |slice b=>
      simp only[JK,AW.deep.injEq] at this
      obtain⟨rfl,hx,rfl⟩:=this
      cases hx
      have:=t1.dp q.1 t xss none (by rw[bI q.1 (EY.2 (.inr h3))];exact h1)
      rw[rB _ nG,APX _ nG]
      exact this.env ⟨rfl,rfl,rfl,rfl,rfl⟩
     |pair a b=>cases a <;> cases b <;> cases this
     |_=>cases this
   ·rw[AJY n hns] at he
    have DM:=AO he
    have nG:Al L n:=⟨_,he,rfl⟩
    have h5:=JV.1 o5 n (i_.2 DM)
    simp only[o9,HQ,VZ,T4,AA7,aV,IW] at h5
    rcases h5 with (h5|h5)|⟨⟨h5,h6⟩,h7⟩
    ·unfold HR at h5;rw[he] at h5;cases h5
    ·exact absurd h5 hns
    ·have CP:look L' n=some _:=bV LV.rA he h5
     have tP:=t1.dp n t xss hq (by rw[t7 n h6 h7];exact CP)
     have AEC:=hH0.dp n t xss hq he
     rw[rB _ nG,APX _ nG]
     refine⟨tP.len,tP.off,tP.nd,tP.all, ?_⟩
     rcases tP.cs with hc|⟨h1,h2,h3,arr,ty,hs,h4,h5,h6,h7,h8,h9⟩
     ·exact .inl hc
     ·refine .inr ⟨h1,h2,h3,arr,ty,hs,h4,h5,h6,h7,h8,fun k j hk hl=> ?_⟩
      have hAj:Al L j:=by
       rcases AEC.cs with ⟨_,hc,_⟩|⟨_,_,_,_,_,_,_,_,_,_,_,g9⟩
       ·rw[hc] at hl;cases hl
       ·exact (g9 k j hk hl).2
      exact⟨by rw[rB _ hAj];exact (h9 k j hk hl).1,MY j hAj⟩
  ·intro n k e f b hnk hn hk he hf
   rcases AHM n e b hn he with ⟨j,rfl,hj1,hj2⟩|⟨g,hg1,hg2⟩
   ·rcases AHM k f b hk hf with ⟨j',rfl,AU2,AU3⟩|⟨g,hg1,hg2⟩
    ·rcases Nat.lt_or_gt_of_ne (show j≠j' by omega) with DM|DM
     ·exact n_ _ _ t10 j j' e f DM hj1 AU2 hj2 AU3
     ·exact n_ _ _ t10 j' j f e DM AU2 hj1 AU3 hj2
    ·exact t11 b (H8 _ _ _ hj1 hj2) k g hg1 hg2
   ·rcases AHM k f b hk hf with ⟨j',rfl,AU2,AU3⟩|⟨g',A3M,A3N⟩
    ·exact t11 b (H8 _ _ _ AU2 AU3) n g hg1 hg2
    ·exact t1.inj n k g g' b hnk hg1 A3M hg2 A3N
 rw[QA] at wr4
 obtain⟨nd1,nd2,nd3⟩:=wr4
 have AQ0:(YH BP fr s).length=fr'.length:=by unfold YH;rw[NO,NO,LV.len]
 have AY5:((BP.live.map (·.1)).zip (BP.svs s)).map (·.1)=BP.live.map (·.1):=by
  apply List.map_fst_zip
  unfold ZU.svs
  rw[NN]
  simp [ZU.UI]
 have y_:∀ t,t<fr'.length->((YH BP fr s).getD t AV).den E2=(fr'.getD t AV).den E' /\(((YH BP fr s).getD t AV).wf E2 (AI L (KJ BP s))\/(YH BP fr s).getD t AV= .nF t):=by
  intro t ht
  have htf:t<fr.length:=by rw[<-LV.len];exact ht
  by_cases LU:t∈BP.live.map (·.1)
  ·obtain⟨j,hj,hjt⟩:=fJ LU
   have qX:j<BP.live.length:=by simpa using hj
   have hjs:j<(outSVs BP.UI tk.x BP.base).length:=by rw[NN];simp [ZU.UI];omega
   have A3O :j<(BP.svs s).length:=by unfold ZU.svs;rw[AEB];exact hjs
   have OE:(t,(BP.svs s)[j])∈(BP.live.map (·.1)).zip (BP.svs s):=by
    rw[<-hjt]
    have:((BP.live.map (·.1)).zip (BP.svs s))[j]'(by simp;omega)=((BP.live.map (·.1))[j],(BP.svs s)[j]):=List.getElem_zip
    rw[<-this]
    exact ACT _
   have AU4:(YH BP fr s).getD t AV=(BP.svs s)[j]:=XG _ _ (by rw[AY5];exact nd1) OE (by rw[NO];exact htf)
   have hsv:(BP.svs s)[j]? =(outSVs BP.UI tk.x BP.base)[j]? :=by unfold ZU.svs;rw[AEB]
   rw[NH A3O,NH hjs] at hsv
   simp only[AX] at hsv
   rw[AU4,hsv]
   refine⟨?_,.inl (BW.1 AW4 _ (ACT hjs))⟩
   have:=MS (fun l=>l[j]?) APZ
   simp only[FJ] at this
   rw[VI (by simpa using qX),NH hjs,xM,NH qX] at this
   simp only[aZ,AX] at this
   rw[<-this]
   simp only[sI] at hjt
   rw[hjt]
  ·have h1:(YH BP fr s).getD t AV=(QH fr (BP.dead.map fun t=>(t,.nF t))).getD t AV:=by
    unfold YH
    refine QI _ _ _ fun q hq he=>LU ?_
    rw[<-he,←AY5]
    exact C6.2 ⟨q,hq,rfl⟩
   by_cases W7:t∈BP.dead
   ·have h2:(QH fr (BP.dead.map fun t=>(t,.nF t))).getD t AV= .nF t:=
     XG _ _ (by rw[UN];have:(BP.dead.map ((·.1)∘fun t=>(t,SV.nF t)))=BP.dead:=(by simp [sO]);rw[this];exact nd2) (C6.2 ⟨t,W7,rfl⟩) htf
    rw[h1,h2]
    exact⟨by show (if t∈BP.dead then _ else _)=_;rw[AB W7],.inr rfl⟩
   ·have h2:(QH fr (BP.dead.map fun t=>(t,.nF t))).getD t AV=fr.getD t AV:=QI _ _ _ fun q hq he=>by
     obtain⟨t',ht',rfl⟩:=C6.1 hq
     simp only at he;subst he
     exact W7 ht'
    have hW:t∉W:=by
     intro hw
     have:=JV.1 wr1 t hw
     simp only[o9,AA7,IW] at this
     rcases this with h|h
     ·exact LU h
     ·exact W7 h
    rw[h1,h2,LV.out t hW]
    rcases hF0 t with pF|A3P
    ·obtain⟨x1,x2⟩:=X_ MY hE2 _ pF
     obtain⟨_,x4⟩:=X_ (fun n hn=>(LV.nm n hn).2) (fun n hn=>(LV.nm n hn).1) _ pF
     exact⟨x2.trans x4.symm,.inl x1⟩
    ·rw[A3P]
     exact⟨by show (if t∈BP.dead then _ else _)=_;rw[AD W7];rfl,.inr rfl⟩
 refine⟨E2,⟨⟨?_,hst.q_.2⟩,⟨G1,AY4⟩, ?_⟩, ?_,fun p hp' => ?_⟩
 rotate_right
 ·have h:=JV.1 A0Z p hp'
  simp only[HQ,IW] at h
  obtain⟨⟨⟨h1,h2⟩,h3⟩,h4⟩:=h
  have nG:Al L p.2.1:=by
   unfold AJX at h4
   split at h4
   ·rename_i e he;exact⟨e,he,by simpa using h4⟩
   ·cases h4
  have e1:=APW (p.1-BP.base) (by omega)
  rw[show BP.base+(p.1-BP.base)=p.1 by omega] at e1
  rw[e1,rB _ nG]
  unfold eQ at h3
  split at h3
  ·rename_i i hi
   have:i=p.2.1:=by simpa using h3
   simp only[D7,hi,NE.nm,this]
  ·cases h3
 ·rw[hst.q_.1]
  congr 1
  apply VM
  intro i
  rw[FJ,FJ]
  by_cases hi:i<fr'.length
  ·have:=(y_ i hi).1
   have hi2:i<(YH BP fr s).length:=by rw[AQ0];exact hi
   simp only[List.getD,NH hi,NH hi2,xO] at this
   rw[NH hi,NH hi2]
   simp [this]
  ·rw[T3 (by omega),T3 (by omega)];rfl
 ·intro t
  by_cases ht:t<fr'.length
  ·exact (y_ t ht).2
  ·left
   have:(YH BP fr s).getD t AV=AV:=by
    simp only[List.getD]
    rw[T3 (by omega)];rfl
   rw[this];trivial
 ·refine⟨fun n hn=>⟨hE2 n hn,MY n hn⟩,fun t ht=> ?_,ZV.AI _ _,by rw[AQ0,LV.len],fun t ht=> ?_⟩
  ·have hd:t∉BP.dead:=fun hd=>ht (by have:=JV.1 wr3 t hd;simpa using this)
   show (if t∈BP.dead then _ else _)=_
   rw[AD hd];exact LV.ds t ht
  ·have hd:t∉BP.dead:=fun hd=>ht (by have:=JV.1 wr3 t hd;simpa using this)
   have hl:t∉BP.live.map (·.1):=fun hd=>ht (by have:=JV.1 wr2 t hd;simpa using this)
   unfold YH
   rw[QI _ _ _ (fun q hq he=>hl (by rw[<-he,←AY5];exact C6.2 ⟨q,hq,rfl⟩)),QI _ _ _ fun q hq he=>by
    obtain⟨t',ht',rfl⟩:=C6.1 hq
    simp only at he;subst he
    exact hd ht']
theorem uN {c:DW TB} {W:List Nat} {E:Env} {fr:List SV} {L:AK} {E2:Env} {oA:List SV} {a:Act} {w:World}:∀ (pins:List (Nat×Nat×Nat)) (L2:AK),St c E2 oA L2 a w->Ext W E fr L E2 oA L2->(∀ p∈pins,E2.nm p.1=E2.nm p.2.1)→
  St c E2 oA (W8 pins L2) a w/\Ext W E fr L E2 oA (W8 pins L2)
 | [],L2,h1,h2,_=>⟨h1,h2⟩
 |(k,o,i)::r,L2,h1,h2,hp=>by
  unfold W8
  split
  ·rename_i t xs cs k1 k2 k3
   obtain⟨G,hG⟩:=h1.hd
   obtain⟨r1,r2⟩:=yB hG k1 k2 k3 (hp _ (by simp:(k,o,i)∈(k,o,i)::r))
   refine uN r _ ⟨h1.q_,⟨G,r1⟩,fun t=> ?_⟩ ⟨fun n hn=>⟨(h2.nm n hn).1,r2 n (h2.nm n hn).2⟩,h2.ds,h2.rA.trans (ZV.AI _ _),h2.len,h2.out⟩ (fun p hp' =>hp p (by simp [hp']))
   rcases h1.wf t with h|h
   ·exact .inl (X_ r2 (fun _ _=>rfl) _ h).1
   ·exact .inr h
  ·exact uN r _ h1 h2 (fun p hp' =>hp p (by simp [hp']))
theorem AED {BP:ZU} {W:List Nat} (hwr:AHK BP W=true) {c:DW TB} {w0:World} {E:Env} {fr:List SV} {L:AK} {G0:Nat->Prop} (hH0:AR c G0 w0 E L) (hF0:uA E L fr)
  {E' :Env} {fr' :List SV} {L' :AK} {a:Act} {w:World} (hst:St c E' fr' L' a w) (LV:Ext W E fr L E' fr' L') {s:BP.T} (hp:YG BP L fr' L' =some s):
  ∃ E2,St c E2 (YH BP fr s) (W8 BP.pins (AI L (KJ BP s))) a w/\Ext W E fr L E2 (YH BP fr s) (W8 BP.pins (AI L (KJ BP s))):=by
 obtain⟨E2,h1,h2,h3⟩:=AY2 hwr hH0 hF0 hst LV hp
 exact⟨E2,uN _ _ h1 h2 h3⟩
end Go.V3
namespace Go.V3
open Go
variable {TB:Tb}
section
variable {P:Program}
def wJ {α:Type} (W:List Nat) (c:DW TB) (E:Env) (fr:List SV) (L:AK) (K:Exit->List SV->AK->Option α) (r0:α):Exit->Act->World->Prop:=
 fun e a' w' =>∃ E' fr' L',St c E' fr' L' a' w' /\Ext W E fr L E' fr' L' /\K e fr' L' =some r0
theorem map_inl {α β:Type} {x:Option α} {r:α ⊕ β} (h:x.map Sum.inl=some r):∃ y,x=some y/\r= .inl y:=by
 cases x with
 |none=>cases h
 |some y=>simp only[aZ,AX] at h;exact⟨y,rfl,h.symm⟩
theorem map_inr {α β:Type} {x:Option β} {r:α ⊕ β} (h:x.map Sum.inr=some r):∃ y,x=some y/\r= .inr y:=by
 cases x with
 |none=>cases h
 |some y=>simp only[aZ,AX] at h;exact⟨y,rfl,h.symm⟩
theorem AK0 (n i:Nat):¬isL (Array.replicate n false) i:=by
 unfold isL
 simp only[Array.getD_eq_getD_getElem?,Array.getElem?_replicate]
 split <;> simp
theorem AQ1 {α:Type} {cx:Cx} {id:Nat} {c:DW cx.tb} {w:World} {fr:List SV} {a:Act} {E:Env} {L:AK} {K:AK->Option α} {r:α} (h:APV cx id fr L K=some r) (hs:St c E fr L a w):
  ∃ E' L',K L' =some r/\St c E' fr L' a w/\Ext [] E fr L E' fr L' :=by
 unfold APV at h
 split at h
 ·exact⟨E,L,h,hs,.refl _ _ _ _⟩
 split at h
 rotate_left
 ·cases h
 rename_i s t bs _ _ _ i n hv hn
 split at h
 rotate_left
 ·cases h
 rename_i ty xss h' hl
 split at h
 rotate_left
 ·cases h
 rename_i DR
 split at h
 rotate_left
 ·cases h
 rename_i ys u hcl
 split at h
 rotate_left
 ·cases h
 rename_i hb
 have LL:look L bs=some .K5:=by have:=CZ DR 0 (by omega);simpa using this
 obtain⟨G,hG⟩:=hs.hd
 obtain⟨E1,c1,c2,c3,c4,c5,c6,c7⟩:=eW (AP:=look L) (fun _ _ h=>h) hG hl hcl
 have UB:(E1.nm i).nil=false:=by
  rcases (c1.dp i _ _ _ c4).cs with ⟨_,hc,_⟩|⟨hn,_⟩
  ·rw[hc] at hb;simp at hb;omega
  ·exact hn
 obtain⟨E2,t1,t2,t3,arr,tt,t4,t5⟩:=c1.AVV c4 (c6 bs LL) UB (by omega:n.toNat<ys.length)
 rw[<-BM] at t1
 have MY:∀ k,Al L k->E2.nm k=E.nm k/\Al (AI L (u++ [(bs,.dead),(i,.deep ty ys (some (n.toNat,bs))),(bs,.row ty (ys.getD n.toNat []))])) k:=by
  intro k hk
  refine⟨by rw[t2 k (fun he=>EJ (he ▸ LL) hk),c2], ?_⟩
  rw[BM]
  exact BU rfl k (BU rfl k (BU rfl k (c5 k hk)))
 obtain⟨d1,d2⟩:=bR hs.wf MY (t3.trans c3)
 exact⟨E2,_,h,⟨⟨by rw[d1];exact hs.q_.1,hs.q_.2⟩,⟨G,t1⟩,d2⟩,⟨MY,fun t _=>by rw[t3.trans c3],.AI _ _,rfl,fun _ _=>rfl⟩⟩
theorem QJ {c:DW TB} {w:World} {fr:List SV} {a:Act}:∀ (rows:List (Nat×Ty)) {E:Env} {L:AK},St c E fr L a w->∃ E',St c E' fr (HJ rows L) a w/\Ext [] E fr L E' fr (HJ rows L)
 | [],E,L,hs=>⟨E,hs,.refl _ _ _ _⟩
 |q::r,E,L,hs=>by
  have h1:∃ E',St c E' fr (AB2 L q.1) a w/\Ext [] E fr L E' fr (AB2 L q.1):=by
   unfold AB2
   split
   ·rename_i t xss h hl
    split
    ·rename_i ys u hc
     obtain⟨G,hG⟩:=hs.hd
     obtain⟨E',k1,k2,k3,k4,k5,k6,k7⟩:=eW (AP:=look L) (fun _ _ h=>h) hG hl hc
     obtain⟨d1,d2⟩:=bR hs.wf (fun n hn=>⟨k2 n,k5 n hn⟩) k3
     exact⟨E',⟨⟨by rw[d1];exact hs.q_.1,hs.q_.2⟩,⟨G,k1⟩,d2⟩,⟨fun n hn=>⟨k2 n,k5 n hn⟩,fun t _=>by rw[k3],.AI _ _,rfl,fun _ _=>rfl⟩⟩
    ·exact⟨E,hs,.refl _ _ _ _⟩
   ·exact⟨E,hs,.refl _ _ _ _⟩
  obtain⟨E1,h1,h2⟩:=h1
  obtain⟨E2,h3,h4⟩:=QJ r h1
  exact⟨E2,h3,h2.trans h4⟩
set_option maxHeartbeats 1000000 in
theorem AEE {cx:Cx} (hcx:cx.Ok P):∀ (c:Code) (α:Type) (K_:Nat) (K:Exit->List SV->AK->Option α) (fr:List SV) (L:AK) (r0:α),rk P cx c α K_ K fr L=some r0→
  ∀ (cf:DW cx.tb) (E:Env) (a:Act) (w:World),St cf E fr L a w->c.wp P (wJ (writes c) cf E fr L K r0) a w:=by
 intro c
 induction c with
 |skip=>exact fun α K_ K fr L r0 h cf E a w hs=>wp_skip ⟨E,fr,L,hs,.refl _ _ _ _,h⟩
 |label l=>exact fun α K_ K fr L r0 h cf E a w hs=>wp_label ⟨E,fr,L,hs,.refl _ _ _ _,h⟩
 |ret=>exact fun α K_ K fr L r0 h cf E a w hs=>wp_ret ⟨E,fr,L,hs,.refl _ _ _ _,h⟩
 |exit id=>exact fun α K_ K fr L r0 h cf E a w hs=>wp_exit ⟨E,fr,L,hs,.refl _ _ _ _,h⟩
 |region id ops draw=>
  intro α K_ K fr L r0 h cf E a w hs
  have hW:∀ o∈ops.toList,∀ d,o.dst=some d->d∈writes (.region id ops draw):=by
   intro o ho d hd
   exact xL.2 ⟨o,ho,hd⟩
  simp only[rk] at h
  obtain⟨E1,L1,h,hs,hx0⟩:=AQ1 h hs
  have hx0:Ext (writes (.region id ops draw)) E fr L E1 fr L1:=hx0.mono (fun _ h=>by cases h)
  refine wp_mono (Q:=wJ (writes (.region id ops draw)) cf E1 fr L1 K r0) ?_ (fun e a' w' ⟨E',fr',L',k1,k2,k3⟩=>⟨E',fr',L',k1,hx0.trans k2,k3⟩)
  clear hx0
  generalize E1=E at hs ⊢
  generalize L1=L at hs h ⊢
  split at h
  ·split at h
   rotate_left
   ·cases h
   rename_i hck
   simp only[HQ] at hck
   refine wp_region_any hck.2 ?_
   obtain⟨s',fs,r1,r2,r3,_⟩:=AE4 ops.toList 0 [] fr L (by simp) h
   have hs' :St cf E fr L a { w with drawn:=w.drawn+1 }:=⟨hs.q_,(by
    obtain⟨G,hG⟩:=hs.hd
    exact⟨G,hG.world rfl ⟨rfl,rfl,rfl⟩⟩),hs.wf⟩
   have:=AXY (P:=P) (Q:=wJ (writes (.region id ops true)) cf E fr L K r0) hcx hck.1 (W:=writes (.region id ops true)) (fun i o ho d hd=>hW o (by rw[<-iX] at ho;exact ZO ho) d hd) (fr0:=fr) (L0:=L) (E0:=E) (s' :=s')
    (fun E' a' w' h1 h2=>⟨E',s'.1,s'.2,h1,h2,r2⟩) ops.size (List.range' 0 ops.toList.length) (Array.replicate ops.size false) fs (fr,L) E a _ (by simp) ⟨by simp,fun i=> ?_, ?_, ?_⟩ r1 r3 hs' (.refl _ _ _ _)
   ·exact this
   ·simp only[List.mem_range'_1,kW,iH,ML,Array.length_toList]
    constructor
    ·intro hi;exact⟨hi,AK0 _ _⟩
    ·exact fun hi=>hi.1
   ·exact List.pairwise_lt_range'
   ·intro i o _ hl
    exact absurd hl (AK0 _ _)
  ·refine wp_region ?_
   have:=AE1 hcx (ops:=ops) (Q:=wJ (writes (.region id ops false)) cf E fr L K r0) (W:=writes (.region id ops false)) (c:=cf) (fr0:=fr) (L0:=L) (E0:=E)
    (K:=fun fr' L' =>K .normal fr' L') (r0:=r0) (fun E' fr' L' a' w' h1 h2 h3=>⟨E',fr',L',h1,h2,h3⟩) ops.toList 0 (by simp) hW E fr L a w hs (.refl _ _ _ _) h
   rw[AO8]
   simpa using this
 |seq x y ihx ihy=>
  intro α K_ K fr L r0 h cf E a w hs
  refine wp_seq ?_
  have hx:∀ t,t∈writes x->t∈writes (.seq x y):=fun t ht=>EY.2 (.inl ht)
  have hy:∀ t,t∈writes y->t∈writes (.seq x y):=fun t ht=>EY.2 (.inr ht)
  simp only[rk] at h
  split at h
  ·refine wp_mono (ihx α K_ _ fr L r0 h cf E a w hs) ?_
   rintro e a' w' ⟨E',fr',L',h1,h2,h3⟩
   cases e with
   |normal=>
    refine wp_mono (ihy α K_ K fr' L' r0 h3 cf E' a' w' h1) ?_
    rintro e a'' w'' ⟨E'',AML,L'',k1,k2,k3⟩
    exact⟨E'',AML,L'',k1,(h2.mono hx).trans (k2.mono hy),k3⟩
   |exit id=>exact⟨E',fr',L',h1,h2.mono hx,h3⟩
   |goto id=>exact⟨E',fr',L',h1,h2.mono hx,h3⟩
   |ret=>exact⟨E',fr',L',h1,h2.mono hx,h3⟩
   |panic ch=>exact⟨E',fr',L',h1,h2.mono hx,h3⟩
   |outgrown=>exact⟨E',fr',L',h1,h2.mono hx,h3⟩
  ·rename_i BP _
   split at h
   rotate_left
   ·cases h
   rename_i hwr
   rw[ACH] at h
   obtain⟨q,hq,hk⟩:=h
   obtain⟨Ec,hsc,hxc⟩:=QJ BP.rows hs
   obtain⟨G0,hG0⟩:=hsc.hd
   refine wp_mono (ihx _ K_ _ fr _ q hq cf Ec a w hsc) ?_
   rintro e a' w' ⟨E',fr',L',h1,h2,h3⟩
   have other:∀ e',(K e' fr' L').map Sum.inr=some q->wJ (writes (.seq x y)) cf E fr L K r0 e' a' w' :=by
    intro e' hm
    obtain⟨b,hb,rfl⟩:=map_inr hm
    simp only[AX] at hk
    subst hk
    exact⟨E',fr',L',h1,(hxc.mono (fun _ h=>by cases h)).trans (h2.mono hx),hb⟩
   cases e with
   |normal=>
    obtain⟨s,hp,rfl⟩:=map_inl h3
    obtain⟨Ed,hsd,hxd⟩:=QJ BP.rows h1
    obtain⟨E2,g1,g2⟩:=AED hwr hG0 hsc.wf hsd (h2.trans (hxd.mono (fun _ h=>by cases h))) hp
    refine wp_mono (ihy α K_ K _ _ r0 hk cf E2 a' w' g1) ?_
    rintro e a'' w'' ⟨E'',AML,L'',k1,k2,k3⟩
    exact⟨E'',AML,L'',k1,(hxc.mono (fun _ h=>by cases h)).trans ((g2.mono hx).trans (k2.mono hy)),k3⟩
   |exit id=>exact other _ h3
   |goto id=>exact other _ h3
   |ret=>exact other _ h3
   |panic ch=>exact other _ h3
   |outgrown=>exact other _ h3
 |cond c x y ihx ihy=>
  intro α K_ K fr L r0 h cf E a w hs
  have hx:∀ t,t∈writes x->t∈writes (.cond c x y):=fun t ht=>EY.2 (.inl ht)
  have hy:∀ t,t∈writes y->t∈writes (.cond c x y):=fun t ht=>EY.2 (.inr ht)
  have kx:rk P cx x α K_ K fr L=some r0->x.wp P (wJ (writes (.cond c x y)) cf E fr L K r0) a w:=fun h=>
   wp_mono (ihx α K_ K fr L r0 h cf E a w hs) fun e a' w' ⟨E',fr',L',h1,h2,h3⟩=>⟨E',fr',L',h1,h2.mono hx,h3⟩
  have ky:rk P cx y α K_ K fr L=some r0->y.wp P (wJ (writes (.cond c x y)) cf E fr L K r0) a w:=fun h=>
   wp_mono (ihy α K_ K fr L r0 h cf E a w hs) fun e a' w' ⟨E',fr',L',h1,h2,h3⟩=>⟨E',fr',L',h1,h2.mono hy,h3⟩
  have he:=UO hs.q_ c
  simp only[rk] at h
  split at h
  ·rename_i b hb
   rw[hb] at he
   split at h
   ·exact wp_cond_true he (kx h)
   ·exact wp_cond_false he (ky h)
  ·rename_i b hb
   rw[hb] at he
   split at h
   ·rename_i hbt;subst hbt;exact wp_cond_true he (kx h)
   ·rename_i hbt
    have:b=false:=by simpa using hbt
    subst this;exact wp_cond_false he (ky h)
  ·rename_i p d hb
   rw[hb] at he
   by_cases hp:p
   ·simp only[hp,G4] at h;exact wp_cond_true (by rw[he];simp [SV.den,hp]) (kx h)
   ·simp only[hp,QZ] at h;exact wp_cond_false (by rw[he];simp [SV.den,hp]) (ky h)
  ·cases h
 |block id c ih=>
  intro α K_ K fr L r0 h cf E a w hs
  refine wp_block ?_
  simp only[rk] at h
  refine wp_mono (ih α id _ fr L r0 h cf E a w hs) ?_
  rintro e a' w' ⟨E',fr',L',h1,h2,h3⟩
  cases e with
  |exit i=>
   simp only[Exit.inBlock]
   simp only at h3
   split at h3
   ·rename_i hi;rw[AB hi];exact⟨E',fr',L',h1,h2,h3⟩
   ·rename_i hi;rw[AD hi];exact⟨E',fr',L',h1,h2,h3⟩
  |normal=>exact⟨E',fr',L',h1,h2,h3⟩
  |goto id=>exact⟨E',fr',L',h1,h2,h3⟩
  |ret=>exact⟨E',fr',L',h1,h2,h3⟩
  |panic ch=>exact⟨E',fr',L',h1,h2,h3⟩
  |outgrown=>exact⟨E',fr',L',h1,h2,h3⟩
 |scope c ih=>
  intro α K_ K fr L r0 h cf E a w hs
  refine wp_scope_straight ?_
  refine wp_mono (ih α K_ _ fr L r0 h cf E a w hs) ?_
  rintro e a' w' ⟨E',fr',L',h1,h2,h3⟩
  cases e with
  |goto id=>cases h3
  |exit i=>exact⟨E',fr',L',h1,h2,h3⟩
  |normal=>exact⟨E',fr',L',h1,h2,h3⟩
  |ret=>exact⟨E',fr',L',h1,h2,h3⟩
  |panic ch=>exact⟨E',fr',L',h1,h2,h3⟩
  |outgrown=>exact⟨E',fr',L',h1,h2,h3⟩
 |loop c ih=>
  intro α K_ K fr L r0 h cf E a w hs
  simp only[rk] at h
  split at h
  ·cases h
  rename_i BP _
  split at h
  rotate_left
  ·cases h
  rename_i hwr
  split at h
  ·cases h
  rename_i s0 hp0
  obtain⟨n,hn⟩:=QG.1 h
  refine wp_loop_rounds n ?_
  obtain⟨Ec,hsc,A14⟩:=QJ BP.rows hs
  have hxc:Ext (writes c) E fr L Ec fr (HJ BP.rows L):=A14.mono (fun _ h=>by cases h)
  clear A14
  generalize HJ BP.rows L=Lc at h hn hp0 hsc hxc
  obtain⟨G0,hG0⟩:=hsc.hd
  obtain⟨E1,g1,g2⟩:=AED hwr hG0 hsc.wf hsc (.refl (writes c) Ec fr Lc) hp0
  have pF:=hsc.wf
  have hH0:∃ w0 G0,AR cf G0 w0 Ec Lc:=⟨w,G0,hG0⟩
  clear h hp0 hs hsc hG0 G0
  obtain⟨w0,G0,hG0⟩:=hH0
  induction n generalizing s0 E1 a w with
  |zero=>cases hn
  |succ n ihn=>
   rw[rounds_succ]
   rw[Q9] at hn
   have fin:∀ x,rk P cx c (BP.T ⊕ α) K_ (fun e fr' L' =>match e with
     | .normal=>(YG BP Lc fr' (HJ BP.rows L')).map Sum.inl
     |e=>(K e fr' L').map Sum.inr) (YH BP fr s0) (W8 BP.pins (AI Lc (KJ BP s0)))=some x->(∀ s',x= .inl s' ->Q9 (fun s=>rk P cx c (BP.T ⊕ α) K_ (fun e fr' L' =>match e with
     | .normal=>(YG BP Lc fr' (HJ BP.rows L')).map Sum.inl
     |e=>(K e fr' L').map Sum.inr) (YH BP fr s) (W8 BP.pins (AI Lc (KJ BP s)))) n s' =some r0)->(∀ b,x= .inr b->b=r0)->c.wp P (Exit.then (Code.rounds P c (wJ (writes (.loop c)) cf E fr L K r0) n) (wJ (writes (.loop c)) cf E fr L K r0)) a w:=by
    intro x hx hl hr
    refine wp_mono (ih _ K_ _ _ _ x hx cf E1 a w g1) ?_
    rintro e a' w' ⟨E',fr',L',h1,h2,h3⟩
    have other:∀ e',(K e' fr' L').map Sum.inr=some x->wJ (writes (.loop c)) cf E fr L K r0 e' a' w' :=by
     intro e' hm
     obtain⟨b,hb,hxb⟩:=map_inr hm
     rw[hr b hxb] at hb
     exact⟨E',fr',L',h1,hxc.trans (g2.trans h2),hb⟩
    cases e with
    |normal=>
     obtain⟨s',hp,hxs⟩:=map_inl h3
     obtain⟨Ed,hsd,hxd⟩:=QJ BP.rows h1
     obtain⟨E2,k1,k2⟩:=AED hwr hG0 pF hsd (g2.trans (h2.trans (hxd.mono (fun _ h=>by cases h)))) hp
     exact ihn a' w' s' (hl s' hxs) E2 k1 k2
    |goto id=>exact other _ h3
    |exit i=>exact other _ h3
    |ret=>exact other _ h3
    |panic ch=>exact other _ h3
    |outgrown=>exact other _ h3
   split at hn
   ·cases hn
   ·rename_i s' hf
    exact fin _ hf (fun s'' he=>by cases he;exact hn) (fun b he=>by cases he)
   ·rename_i b hf
    simp only[AX] at hn
    exact fin _ hf (fun s'' he=>by cases he) (fun b' he=>by cases he;exact hn)
 |_=>exact fun α K_ K fr L r0 h=>(by simp only[rk] at h;cases h)
def AQ2 (P:Program) (fr:List SV) (L:AK):ResultVar->Option SV
 | .tmp t=>(match yU (fr.getD t AV) with
  |true=>none
  |false=>some (fr.getD t AV))
 | .cell t ty=>(match fr.getD t AV,P.info? ty,P.underlying ty with
  | .loc i off,some q,some _=>if off=0 then (match look L i with
   |some (.box cs)=>(match GU P ty with
    |true=>if q.size=cs.length then some (.agg cs) else none
    |false=>(match cs with
     | [v]=>some v
     |_=>none))
   |_=>none) else none
  |_,_,_=>none)
def uO (P:Program) (fr:List SV) (L:AK):List ResultVar->Option (List SV)
 | []=>some []
 |r::rs=>match AQ2 P fr L r with
  |some v=>(match uO P fr L rs with
   |some vs=>some (v::vs)
   |none=>none)
  |none=>none
def iM:List CT->List Nat->List SV
 |d::r,i::is=>(match d.ptr with
  |true=> .loc i 0
  |false=> .MT i)::iM r is
 |_,_=>[]
def AU5 (P:Program) (rvs:List ResultVar) (cl:List (Nat×Ty)) (pins:List (Nat×Nat×Nat×Nat)) (ios:List Nat) (os:List CT) (cs:List CT):Exit->List SV->AK->Option (HT cs):=fun e fr L0=>
 match (match e with
  | .normal=>true
  | .ret=>true
  |_=>false) with
 |false=>none
 |true=>match uO P fr (HJ cl L0) rvs with
  |none=>none
  |some vs=>match JM .fM (look (HJ cl L0)) cs (vs++iM os ios) with
   |none=>none
   |some a=>match okA a && pins.all (fun q=>eQ a.nes[q.1]? q.2.2.1) with
    |true=>some a.x
    |false=>none
def AB5 (ps:List CT) (x:HT ps) (N:Nat):AK:=AI (List.replicate (cnts ps+N) (0,.K5)) (EC ps x 0)
def zA (ps:List CT) (nR:List (Nat×Nat)) (x:HT ps) (N:Nat):AK:=AI (AB5 ps x N) (nR.map fun q=>(q.1,.ptr q.2))
def shOk (fi:FnI) (N:Nat):Bool:=fi.nR.all (fun q=>decide (cnts fi.ps<=q.1) && decide (q.1<cnts fi.ps+N) && decide (q.2<cnts fi.ps)) && decide (fi.nR.map (·.1)).Nodup && fi.sh.all fun s=>match s with
 | .pp n=>(fi.nR.map (·.1)).contains n
 |_=>true
def AEF (ps:List CT) (sh:List Sh) (x:HT ps) (n:Nat):List SV:=foldA sh (outSVs ps x 0)++List.replicate (n-(foldA sh (outSVs ps x 0)).length) AV
theorem AHN {rvs:List ResultVar} {c:DW TB} {E:Env} {fr:List SV} {L:AK} {a:Act} {w:World} (hs:St c E fr L a w):∀ (rvs:List ResultVar) (vs:List SV),uO P fr L rvs=some vs→
  vs.length=rvs.length/\K6 E L vs/\(rvs.mapM (m:=Sem) fun
   | .tmp t=>pure (a.tmps.getD t undef)
   | .cell x t=>do loadVar t (<-asAddr (a.tmps.getD x undef))).run P w= .ok (AL E vs) w:=by
 have AU4:∀ t,a.tmps.getD t undef=(fr.getD t AV).den E:=by
  intro t
  rw[hs.q_.1]
  have:=xX (E:=E) fr t
  simpa using this
 intro rvs
 induction rvs with
 |nil=>intro vs h;simp only[uO,AX] at h;subst h;exact⟨rfl,trivial,rfl⟩
 |cons r rs ih=>
  intro vs h
  simp only[uO] at h
  split at h
  rotate_left
  ·cases h
  rename_i v hv
  split at h
  rotate_left
  ·cases h
  rename_i vs' A3Q
  simp only[AX] at h
  subst h
  obtain⟨i1,i2,i3⟩:=ih vs' A3Q
  have AT9:v.wf E L/\((fun r:ResultVar=>(match r with
   | .tmp t=>pure (a.tmps.getD t undef)
   | .cell x t=>do loadVar t (<-asAddr (a.tmps.getD x undef)):Sem Value)) r).run P w= .ok (v.den E) w:=by
   cases r with
   |tmp t=>
    simp only[AQ2] at hv
    split at hv
    ·cases hv
    ·rename_i hu
     simp only[AX] at hv
     subst hv
     refine⟨?_,by simp only[AU4];rfl⟩
     rcases hs.wf t with h|h
     ·exact h
     ·rw[h] at hu;simp [yU] at hu
   |cell x t=>
    simp only[AQ2] at hv
    split at hv
    rotate_left
    ·cases hv
    rename_i i off q d hx hq hd
    split at hv
    rotate_left
    ·cases hv
    rename_i ho
    subst ho
    split at hv
    rotate_left
    ·cases hv
    rename_i cs hl
    obtain⟨G,hG⟩:=hs.hd
    obtain⟨h1,h2,h3,h4,⟨ty,h5⟩,h6⟩:=hG.LK i _ hl
    have AAT:(asAddr (a.tmps.getD x undef)).run P w= .ok ⟨(E.nm i).B_,(E.nm i).pp.pre.length,none⟩ w:=by
     rw[AU4,hx]
     simp [SV.den,asAddr,h2]
    split at hv
    ·rename_i ha
     split at hv
     rotate_left
     ·cases hv
     rename_i ZR
     simp only[AX] at hv
     subst hv
     refine⟨h6, ?_⟩
     have:=run_loadCells (P:=P) w h5 (off:=(E.nm i).pp.pre.length) (n:=q.size) (by rw[Nm.tN,AS];omega)
     have hcl:=Nm.yK (E.nm i) (l:=AL E cs) (off:=0) (n:=q.size) (by rw[AS];omega)
     rw[NJ] at hcl
     rw[hcl] at this
     simp only[Sem.run_bind,AAT,Result.andThen,loadVar,LM w hd,ha,G4,sizeOf,typeInfo]
     simp [hq,this,SV.den]
     unfold BN
     rw[o_,ACK (by simp [AS];omega)]
    ·rename_i ha
     split at hv
     rotate_left
     ·cases hv
     rename_i u
     simp only[AX] at hv
     subst hv
     refine⟨h6.1, ?_⟩
     have hg:=Nm.AAQ (E.nm i) (l:=AL E [u]) (k:=0) (by simp [AL])
     rw[NJ] at hg
     have:w.cell? ⟨(E.nm i).B_,(E.nm i).pp.pre.length,none⟩=some (u.den E):=by
      simp only[World.cell?,h5,hg]
      simp [AL]
     simp only[Sem.run_bind,AAT,Result.andThen,loadVar,LM w hd,ha]
     simp [this]
  refine⟨by simp [i1],⟨AT9.1,i2⟩, ?_⟩
  rw[List.mapM_cons,Sem.run_bind]
  have h1:=AT9.2
  simp only at h1
  rw[h1]
  simp only[Result.andThen,Sem.run_bind,i3,Sem.run_pure]
  rfl
theorem lT:∀ (zas bs:List CT) (x:HT (zas++bs)) (n:Nat),outSVs (zas++bs) x n=outSVs zas (HT.left zas bs x) n++outSVs bs (HT.right zas bs x) (n+cnts zas)
 | [],bs,x,n=>rfl
 |d::r,bs,x,n=>by
  have hh:HT.hd d r (HT.left (d::r) bs x)=HT.hd d (r++bs) x:=by cases r <;> rfl
  have ht:HT.tl d r (HT.left (d::r) bs x)=HT.left r bs (HT.tl d (r++bs) x):=by cases r <;> rfl
  have k1:outSVs (d::r++bs) x n=S8 d (HT.hd d (r++bs) x) n::outSVs (r++bs) (HT.tl d (r++bs) x) (n+d.cnt):=rfl
  have k2:outSVs (d::r) (HT.left (d::r) bs x) n=S8 d (HT.hd d r (HT.left (d::r) bs x)) n::outSVs r (HT.tl d r (HT.left (d::r) bs x)) (n+d.cnt):=rfl
  rw[k1,k2,hh,ht,lT r bs]
  simp only[cnts,sR,N0]
  rfl
theorem zB:∀ (os:List CT) (is:List Nat) (v:SV),v∈iM os is->∃ i∈is,v= .loc i 0\/v= .MT i
 | [],_,v,h=>by simp [iM] at h
 |_::_,[],v,h=>by simp [iM] at h
 |d::r,i::is,v,h=>by
  simp only[iM,GD] at h
  rcases h with rfl|h
  ·refine⟨i,by simp, ?_⟩
   cases d.ptr with
   |true=>exact .inl rfl
   |false=>exact .inr rfl
  ·obtain⟨k,h1,h2⟩:=zB r is v h
   exact⟨k,by simp [h1],h2⟩
theorem bX:∀ (cs:List CT) (a b:Nat),LQ cs (a+b)=(LQ cs b).map (fun k=>a+k)
 | [],_,_=>rfl
 |e::s,a,b=>by
  simp only[LQ]
  rw[N0,bX s]
  simp
theorem AK1 {md:PM} {AP:Nat->Option AW} {E:Env}:∀ (os:List CT) (is:List Nat) (a:LP (HT os)),JM md AP os (iM os is)=some a->os.all okO=true->os.length=is.length->(LQ os 0).map (D7 E a.nes)=is.map E.nm
 | [],[],a,_,_,_=>rfl
 | [],_::_,a,_,_,h=>by simp at h
 |_::_,[],a,_,_,h=>by simp at h
 |d::r,i::is,a,h,QQ,hl=>by
  simp only[sS,HQ] at QQ
  obtain⟨v,vs',a1,a2,he,h1,h2,rfl⟩:=QD h
  simp only[iM,iZ] at he
  obtain⟨rfl,rfl⟩:=he
  have ih:=AK1 (E:=E) r is a2 h2 QQ.2 (by simpa using hl)
  have l1:=Q2 h1
  obtain⟨k1,k2⟩:=LO E a1.nes a2.nes
  have hd:D7 E a1.nes 0=E.nm i/\0<a1.nes.length:=by
   obtain⟨jB,u,nes,x,p1,p2,p3,p4,p5⟩:=KR h1
   rcases p3 with ⟨hp,j,hj,hl,e1,e2⟩|⟨hp,hag,e1,e2⟩
   ·rw[hp] at hj
    simp only[SV.loc.injEq,and_true] at hj
    subst hj
    rw[e1]
    exact⟨rfl,by simp⟩
   ·have hk:=QQ.1
    simp only[okO,hp,Bool.false_or,HQ,T4] at hk
    obtain⟨⟨ho,A3R⟩,PO⟩:=hk
    rcases hag with ⟨hx,_⟩|⟨_,rfl⟩
    ·rw[A3R] at hx;cases hx
    rw[hp] at p1
    rw[e1]
    rw[AB ho] at p1
    clear h h1 h2 ih k1 k2 l1 p2 p4 p5 e1 e2
    revert x
    cases ht:d.t with
    |slice b=>
     intro x p1
     simp only[FQ,MV] at p1
     revert p1
     split
     ·rename_i q hq
      intro p1
      simp only[AX,DB] at p1
      obtain⟨-, -,rfl, -⟩:=p1
      revert hq
      split
      ·split
       ·intro hq;cases hq
       ·intro hq;cases hq
      ·split
       ·split
        ·intro hq;cases hq
        ·intro hq
         simp only[AX,DB] at hq
         obtain⟨-,rfl, -⟩:=hq
         exact⟨rfl,by simp⟩
       ·intro hq;cases hq
      ·split
       ·rename_i hb
        rw[ht,←hb] at PO
        simp [Ty.x8,Ty.qQ] at PO
       ·intro hq;cases hq
      ·split
       ·rename_i hb
        rw[ht,←hb] at PO
        simp [Ty.x8,Ty.qQ] at PO
       ·intro hq;cases hq
      ·intro hq;cases hq
     ·intro p1;cases p1
    |_=>rw[ht] at PO;simp [Ty.x8] at PO
  simp only[LQ,KU]
  have hs:=bX r d.cnt 0
  rw[NJ] at hs
  rw[ML,hs,UN,←ih]
  show D7 E (a1.nes++a2.nes) 0::_=_
  rw[k1 0 hd.2,hd.1]
  congr 1
  apply VK
  intro k _
  show D7 E (a1.nes++a2.nes) (d.cnt+k)=_
  rw[<-l1];exact k2 k
theorem AQ3 {md:PM} {AP:Nat->Option AW} {E:Env}:∀ (zas os:List CT) (vs:List SV) (is:List Nat) (a:LP (HT (zas++os))),JM md AP (zas++os) (vs++iM os is)=some a->vs.length=zas.length->os.all okO=true->os.length=is.length→
  (LQ os (cnts zas)).map (D7 E a.nes)=is.map E.nm
 | [],os,[],is,a,h,_,QQ,hl=>AK1 os is a h QQ hl
 | [],_,_::_,_,_,_,h,_,_=>by simp at h
 |_::_,_,[],_,_,_,h,_,_=>by simp at h
 |d::r,os,v0::vs,is,a,h,hv,QQ,hl=>by
  obtain⟨v,vs',a1,a2,he,h1,h2,rfl⟩:=QD (c:=d) (r:=r++os) h
  simp only[sR,iZ] at he
  obtain⟨rfl,rfl⟩:=he
  have ih:=AQ3 (E:=E) r os vs is a2 h2 (by simpa using hv) QQ hl
  have l1:=Q2 h1
  obtain⟨k1,k2⟩:=LO E a1.nes a2.nes
  rw[cnts,bX,UN,←ih]
  apply VK
  intro k _
  show D7 E (a1.nes++a2.nes) (d.cnt+k)=_
  rw[<-l1];exact k2 k
theorem calleeRuns_of {f : FuncId} {fn : Func} {c : Code} (hf : P.funcs[f]? = some fn) (hb : fn.body = some c) (hn : (fn.name == "runtime.NumGoroutine") = false) : CalleeRuns P f := by
 intro args w
 have hn' : ¬ fn.name = "runtime.NumGoroutine" := by simpa using hn
 simp [callFunc,hf,hn',hb]
theorem AR.AK2 {TB:Tb} {c:DW TB} {G:Nat->Prop} {w:World} {ms:Nat->Nm}:∀ (nR:List (Nat×Nat)) {L:AK},AR c G w (HS ms) L->(∀ q∈nR,look L q.1=some .K5/\Al L q.2/\c.Old (ms q.1).B_∧
   ∃ arr ty fz,c.w0.heap[(ms q.1).B_]? =some (.cells arr ty fz)/\arr[(ms q.1).off]? =some (.pointer (some ⟨(ms q.2).B_,(ms q.2).off,none⟩)))->(nR.map (·.1)).Nodup→
  AR c G w (HS ms) (AI L (nR.map fun q=>(q.1,.ptr q.2)))/\(∀ n,Al L n->Al (AI L (nR.map fun q=>(q.1,.ptr q.2))) n)/\∀ q∈nR,Al (AI L (nR.map fun q=>(q.1,.ptr q.2))) q.1
 | [],L,h,_,_=>⟨h,fun _ hn=>hn,fun q hq=>by cases hq⟩
 |p::r,L,h,hp,hn=>by
  obtain⟨p1,p2,p3,p4⟩:=hp p (by simp)
  simp only[KU,UM] at hn
  have DM:=AO p1
  have h1:=h.change (i:=p.1) (e' := .ptr p.2) (m:=(HS ms).nm p.1) (w' :=w) DM (.refl _) (EL _) (fun _=>rfl) rfl (fun _ _ _=>rfl) (fun b hb=>by cases hb) (fun _ _ _ _ _ _ hb=>by cases hb)
   (fun _=>by rw[bK];exact⟨p3,p4,BU rfl _ p2⟩)
  rw[bK] at h1
  obtain⟨r1,r2,r3⟩:=AR.AK2 r h1 (fun q hq=>by
   obtain⟨q1,q2,q3,q4⟩:=hp q (by simp [hq])
   refine⟨?_,BU rfl _ q2,q3,q4⟩
   rw[AZ DM,AD]
   ·exact q1
   ·intro he
    exact hn.1 (he ▸ C6.2 ⟨q,hq,rfl⟩)) hn.2
  refine⟨r1,fun n hn=>r2 n (BU rfl n hn),fun q hq=> ?_⟩
  rcases GD.1 hq with rfl|hq
  ·exact r2 _ ⟨.ptr q.2,by rw[AZ DM,AB rfl],rfl⟩
  ·exact r3 q hq
set_option maxHeartbeats 1000000 in
theorem callsV_of_rk {cx:Cx} (hcx:cx.Ok P) {f:FuncId} {fn:Func} {c:Code} {n N:Nat} {rvs:List ResultVar} {fi:FnI}
  (hf : P.funcs[f]? = some fn) (hb : fn.body = some c) (hnm : (fn.name == "runtime.NumGoroutine") = false) (hn : fn.ntmps = n) (hres : fn.results = rvs.toArray) (hps : ∀ x, (foldA fi.sh (outSVs fi.ps x 0)).length ≤ n)
  (hst:(rvs.length=fi.rs.length/\fi.os.all okO=true/\fi.os.length=fi.bk.length/\(fi.bk.all fun i=>decide (i<cnts fi.ps))=true/\(fi.pin.all fun q=>decide (q.2.2.1<cnts fi.ps))=true/\shOk fi N=true))
  (hrk:∀ x,fi.F x=rk P cx c (HT (fi.rs++fi.os)) 1000000 (AU5 P rvs fi.cl fi.pin fi.bk fi.os (fi.rs++fi.os)) (AEF fi.ps fi.sh x n) (zA fi.ps fi.nR x N)):CallsV P cx.tb f fi:=by
 refine⟨calleeRuns_of hf hb hnm,fun x r hr w G ms hG ATD H9 AOY A3S=> ?_⟩
 rw[hrk] at hr
 refine calls_of_wp hf hb ?_
 let cf:DW cx.tb:=⟨w,fun b=>b∈CA fi.ps x ms,G⟩
 have h0:AR cf G w (HS ms) (List.replicate (cnts fi.ps+N) (0,.K5)):=by
  refine⟨.refl _,EL _,fun _ _=>rfl,hG,fun _ h=>h,fun _ h=> .inl h, ?_, ?_, ?_,AOY⟩
  ·intro k e he
   unfold look at he
   rw[sD] at he
   split at he
   ·rename_i q hq
    split at hq
    ·simp only[AX] at hq;subst hq
     simp only[AX] at he;subst he;trivial
    ·cases hq
   ·cases he
  ·intro k t xss q he
   unfold look at he
   rw[sD] at he
   split at he
   ·rename_i q hq
    split at hq
    ·simp only[AX] at hq;subst hq
     simp only[AX] at he;cases he
    ·cases hq
   ·cases he
  ·intro k j e f' b _ he _ hb
   unfold look at he
   rw[sD] at he
   split at he
   ·rename_i q hq
    split at hq
    ·simp only[AX] at hq;subst hq
     simp only[AX] at he;subst he;rcases hb with hb|⟨hb,_⟩|⟨hb,_⟩ <;> cases hb
    ·cases hq
   ·cases he
 have A3T:∀ j,j<cnts fi.ps->look (List.replicate (cnts fi.ps+N) (0,AW.K5)) (0+j)=some .K5:=by
  intro j hj
  unfold look
  rw[sD,AB (by omega)]
 have WX:∀ b∈CA fi.ps x ms,IU (HS ms) (List.replicate (cnts fi.ps+N) (0,AW.K5)) b:=by
  intro b _ k e he hb
  unfold look at he
  rw[sD] at he
  split at he
  ·rename_i q hq
   split at hq
   ·simp only[AX] at hq;subst hq
    simp only[AX] at he;subst he;rcases hb with hb|⟨hb,_⟩|⟨hb,_⟩ <;> cases hb
   ·cases hq
  ·cases he
 obtain⟨a1,a2,a3⟩:=h0.lD fi.ps x A3T ATD H9 WX
 have eE:(HS ms).put 0 (cnts fi.ps) ms=HS ms:=by
  refine K8 (fun k=> ?_) rfl (fun k=> ?_) <;> simp only[Env.put,HS] <;> split <;> simp
 rw[eE] at a1 a3
 have hL:AB5 fi.ps x N=AI (List.replicate (cnts fi.ps+N) (0,.K5)) (EC fi.ps x 0):=rfl
 rw[<-hL] at a1 a2 a3
 have rN:=hst.2.2.2.2.2
 simp only[shOk,HQ,IW] at rN
 obtain⟨⟨sh1,sh2⟩,sh3⟩:=rN
 have hpt:∀ q∈fi.nR,look (AB5 fi.ps x N) q.1=some .K5/\Al (AB5 fi.ps x N) q.2/\cf.Old (ms q.1).B_∧
   ∃ arr ty fz,cf.w0.heap[(ms q.1).B_]? =some (.cells arr ty fz)/\arr[(ms q.1).off]? =some (.pointer (some ⟨(ms q.2).B_,(ms q.2).off,none⟩)):=by
  intro q hq
  have h1:=JV.1 sh1 q hq
  simp only[HQ,IW] at h1
  obtain⟨p1,p2,p3⟩:=A3S q hq
  refine⟨?_,(a2 q.2).1 ⟨kW _,by omega⟩,⟨p1,p2⟩,p3⟩
  rw[(a2 q.1).2 (by omega)]
  unfold look
  rw[sD,AB (by omega)]
 obtain⟨b1,b2,b3⟩:=AR.AK2 fi.nR a1 hpt sh2
 have a1:=b1
 have a3:=lG fi.sh _ (fun n hn=>by
  have:=JV.1 sh3 _ hn
  simp only[AIR] at this
  obtain⟨q,hq,rfl⟩:=C6.1 this
  exact b3 q hq) (K7 b2 (fun _ _=>rfl) _ a3).1
 have a2:∀ k,0<=k/\k<0+cnts fi.ps->Al (zA fi.ps fi.nR x N) k:=fun k hk=>b2 k ((a2 k).1 hk)
 have hs:St cf (HS ms) (AEF fi.ps fi.sh x n) (zA fi.ps fi.nR x N) { tmps:=(AL (HS ms) (foldA fi.sh (outSVs fi.ps x 0))).toArray++Array.replicate (fn.ntmps-(AL (HS ms) (foldA fi.sh (outSVs fi.ps x 0))).toArray.size) undef,defers:=[] } w:=by
  refine⟨⟨?_,rfl⟩,⟨G,a1⟩, ?_⟩
  ·simp only[AEF,GH,hn]
   apply ZD
   simp [AS]
   rw[FB,List.map_replicate]
   rfl
  ·intro t
   left
   unfold AEF
   simp only[List.getD]
   by_cases ht:t<(foldA fi.sh (outSVs fi.ps x 0)).length
   ·rw[VI ht]
    have:=BW.1 a3 _ (ACT ht)
    rw[NH ht]
    exact this
   ·rw[VH (by omega),sD]
    split <;> exact lR _ _
 refine wp_mono (AEE hcx c _ _ _ _ _ _ hr cf (HS ms) _ w hs) ?_
 rintro e a' w' ⟨E',fr',L',h1,h2,h3⟩
 have fin:AU5 P rvs fi.cl fi.pin fi.bk fi.os (fi.rs++fi.os) .ret fr' L' =some r->a'.defers=[]/\∃ v,(results fn a'.tmps).run P w' = .ok v w' ∧
   (∃ G' ms',Ending.returned v= .returned ((S9 (outSVs fi.rs (HT.left fi.rs fi.os r) 0)).den (HS ms'))∧
   Rest w w' /\w.heap.size<=w'.heap.size/\(∀ b,b<w.heap.size->b∉CA fi.ps x ms->w'.heap[b]? =w.heap[b]?)∧
   (∀ b,G b->G' b)/\(∀ b,G' b->G b\/w.heap.size<=b\/b∈CA fi.ps x ms)/\(∀ b,G' b->b<w'.heap.size)∧
   PS (⟨w,fun b=>b∈CA fi.ps x ms,G⟩:DW cx.tb) G' w' (fi.rs++fi.os) r ms' /\(CA (fi.rs++fi.os) r ms').Nodup∧
   (LQ fi.os (cnts fi.rs)).map ms' =fi.bk.map ms/\∀ q∈fi.pin,ms' q.1=ms q.2.2.1):=by
  intro hk
  simp only[AU5] at hk
  obtain⟨Ec,h1,hxc⟩:=QJ fi.cl h1
  have h2:=h2.trans (hxc.mono (fun _ h=>by cases h))
  clear hxc
  generalize HJ fi.cl L' =L' at hk h1 h2
  generalize Ec=E' at h1 h2
  split at hk
  ·cases hk
  rename_i vs hvs
  split at hk
  ·cases hk
  rename_i tk htk
  split at hk
  rotate_left
  ·cases hk
  rename_i QQ
  simp only[HQ] at QQ
  obtain⟨QQ,AXD⟩:=QQ
  simp only[AX] at hk
  obtain⟨l1,l2,l3⟩:=AHN (rvs:=rvs) h1 rvs vs hvs
  obtain⟨G3,hG3⟩:=h1.hd
  have hio:∀ i∈fi.bk,Al (zA fi.ps fi.nR x N) i:=fun i hi=>a2 i ⟨kW _,by have:=JV.1 hst.2.2.2.1 i hi;simpa using this⟩
  have hwv:K6 E' L' (vs++iM fi.os fi.bk):=by
   refine BW.2 fun v hv=> ?_
   rcases EY.1 hv with hv|hv
   ·exact BW.1 l2 v hv
   ·obtain⟨i,hi,rfl|rfl⟩:=zB _ _ _ hv
    ·exact (h2.nm i (hio i hi)).2
    ·exact (h2.nm i (hio i hi)).2
  obtain⟨G1,G2,t1,t2,t3,t4,t5,t6,t7,t8,t9,t10,t11⟩:=hG3.take (md:= .fM) (by simp) (fun n e h=>h) htk QQ hwv
  rw[t4 rfl] at t9
  obtain⟨q1,q2⟩:=W4 E' _ _ _ htk
  have jI:=q2 (HS (D7 E' tk.nes)) 0 (fun k _=>by simp [HS])
  rw[hk,lT,GH,GH] at jI
  have hlen:(AL E' vs).length=(AL (HS (D7 E' tk.nes)) (outSVs fi.rs (HT.left fi.rs fi.os r) 0)).length:=by
   rw[AS,AS,NN,l1,hst.1]
  have hd1:=(List.append_inj jI hlen).1
  refine⟨h1.q_.2,(S9 vs).den E', ?_,G1,D7 E' tk.nes, ?_,t1.rest,t1.size, ?_,t1.glo, ?_,t1.vR,by rw[hk] at t9;exact t9,by rw[hk] at t10;exact t10, ?_,fun q hq=> ?_⟩
  ·unfold results
   rw[Sem.run_bind,hres,Array.mapM_eq_mapM_toList,map_eq_pure_bind,Sem.run_bind]
   have e0:rvs.toArray.toList=rvs:=by simp
   rw[e0]
   erw [l3]
   simp only[Result.andThen,Sem.run_pure]
   congr 1
   match vs with
   | []=>rfl
   | [v]=>simp [S9,AL]
   |v::u::r=>simp [S9,SV.den,AL]
  ·rw[yA hd1]
  ·intro b hb hbn
   exact t1.old b ⟨hb,hbn⟩
  ·intro b hb
   rcases t1.ghi b hb with h|h
   ·exact .inl h
   ·right
    by_cases DM:b<w.heap.size
    ·right
     exact vV fun hx=>h ⟨DM,hx⟩
    ·left;omega
  ·rw[AQ3 (E:=E') fi.rs fi.os vs fi.bk tk htk (by rw[l1,hst.1]) hst.2.1 hst.2.2.1]
   apply VK
   intro i hi
   exact (h2.nm i (hio i hi)).1
  ·have p1:=JV.1 AXD q hq
   have p2:=JV.1 hst.2.2.2.2.1 q hq
   simp only[IW] at p2
   have nG:Al (zA fi.ps fi.nR x N) q.2.2.1:=a2 q.2.2.1 ⟨kW _,by simpa using p2⟩
   unfold eQ at p1
   split at p1
   ·rename_i i hi
    have hi2:i=q.2.2.1:=by simpa using p1
    simp only[D7,hi,NE.nm,hi2]
    exact (h2.nm _ nG).1
   ·cases p1
 cases e with
 |normal=>exact fin h3
 |ret=>exact fin h3
 |exit id=>cases h3
 |goto l=>cases h3
 |panic ch=>cases h3
 |outgrown=>cases h3
def AEG (l:List (Nat×FnI)) (n:FuncId):Option FnI:=lk l n
def AM (P:Program) (TB:Tb) (l:List (Nat×FnI)):Prop:=∀ n fi,lk l n=some fi->CallsV P TB n fi
theorem AM.nil:AM P TB []:=by intro n g h;cases h
theorem AM.cons {l:List (Nat×FnI)} {n:FuncId} {g:FnI} (h:CallsV P TB n g) (hl:AM P TB l):AM P TB ((n,g)::l):=by
 intro k g' hk
 simp only[lk] at hk
 split at hk
 ·rename_i he;subst he;simp only[AX] at hk;subst hk;exact h
 ·exact hl k g' hk
theorem BG {nm:List (Nat×Nat×Nat)} {CG:List Nat} {loops bN:List (Nat×ZU)} {l:List (Nat×FnI)} (h:AM P TB l) {x:List (Nat×Xt)} (hx:∀ n e,lk x n=some e->BD P n e) {y z u dy:List Nat} {op:List (Nat×(Nat×Nat×Nat))}:Cx.Ok P { nm:=nm,CG:=CG,fns:=AEG l,loops:=loops,bN:=bN,tb:=TB,exts:=x,lets:=y,AXI:=z,A0E:=u,opens:=op,dyns:=dy }:=⟨h,hx⟩
theorem BD.nil:∀ n e,lk ([]:List (Nat×Xt)) n=some e->BD P n e:=by intro n e h;cases h
theorem BD.cons {x:List (Nat×Xt)} {m:Nat} {d:Xt} (h:BD P m d) (hx:∀ n e,lk x n=some e->BD P n e):∀ n e,lk ((m,d)::x) n=some e->BD P n e:=by
 intro k g hk
 simp only[lk] at hk
 split at hk
 ·rename_i he;subst he;simp only[AX] at hk;subst hk;exact h
 ·exact hx k g hk
end
end Go.V3
namespace Go.V3
open Go
def AG (e:Int):Int:=IntKind.wrap .i64 e
def gl {α:Type} (d:α) (xs:List α) (k:Nat):α:=xs.getD k d
end Go.V3
namespace Go.V3
open Go Go.RowKit
variable {TB:Tb}
theorem UJ {a:Int} (h:(Lit.int .i64 a).wf=true):I64 a:=by
 simp [Lit.wf,IntKind.min,IntKind.max,IntKind.signed,IntKind.bits] at h
 exact⟨by omega,by omega⟩
theorem AMM {a:Int} (h:(Lit.int .u64 a).wf=true):∃ x:BitVec 64,a=(x.toNat:Int):=by
 simp [Lit.wf,IntKind.min,IntKind.max,IntKind.signed,IntKind.bits] at h
 refine⟨BitVec.ofNat 64 a.toNat, ?_⟩
 rw[AAB]
 have:a.toNat<2 ^ 64:=by omega
 rw[o8 this]
 omega
def nm0:Nm:=⟨0,0,true,0,0,none⟩
def AY6 (TB:Tb) (w:World):Prop:=∀ q∈TB,q.1<w.heap.size/\∃ ty fz,w.heap[q.1]? =some (.cells q.2 ty fz)
end Go.V3
namespace Go.V3
open Go Go.RowKit Go.ChangeShapes Go.WideShapes
variable {TB:Tb}
def Wf:(t:Ty)->t.T->Prop
 | .int k,x=>(Lit.int k x).wf=true
 | .pair a b,x=>Wf a x.1/\Wf b x.2
 | .slice a,xs=>(xs:List a.T).length<=maxLen/\∀ x∈(xs:List a.T),Wf a x
 | .QP,x=>(x:Nat)<18446744073709551616
 |_,_=>True
def uP (P:Program) (f:TypeId->Ty->Bool):List Field->Ty->Nat->Bool
 | [],_,_=>false
 | [x],T,off=>x.offset==off && P.cellsOf x.type==T.sz && f x.type T
 |x::r,.pair a b,off=>x.offset==off && P.cellsOf x.type==a.sz && f x.type a && uP P f r b (off+a.sz)
 |_::_,_,_=>false
def laid (P:Program):Nat->TypeId->Ty->Bool
 |0,_,_=>false
 |n+1,t,T=>match P.underlying t with
  |some (.int .u64)=>(match T with| .u64=>true|_=>false)
  |some (.int k)=>(match T with| .int k' =>decide (k=k')|_=>false)
  |some .bool=>(match T with| .bool=>true|_=>false)
  |some .string=>(match T with| .str=>true|_=>false)
  |some (.float .f64)=>(match T with| .QP=>true|_=>false)
  |some (.slice e)=>(match T with| .slice a=>P.cellsOf e==a.sz && decide (0<a.sz) && laid P n e a|_=>false)
  |some (.struct fs)=>P.cellsOf t==T.sz && uP P (laid P n) fs.toList T 0
  |_=>false
theorem lU {w:World} {a:Addr} {n:Nat} {l:List Value} (h:w.cells? 0 a n=some l) (hn:0<n):
  a.spot=none/\∃ arr ty fz,w.heap[a.block]? =some (.cells arr ty fz)/\l=BN arr a.off n/\l.length=n:=by
 obtain⟨-,hl,hc⟩:=World.cells?_some h
 have hs:a.spot=none:=by
  have h0:=hc 0 hn
  rw[NH (by omega)] at h0
  unfold World.cell? at h0
  split at h0
  ·split at h0
   ·cases h0
   ·rename_i hsp
    have e:a.add 0=a:=by simp [Addr.add]
    rw[e] at hsp
    simpa using hsp
  ·cases h0
 refine⟨hs, ?_⟩
 have AU6:∀ i,(a.add i).block=a.block/\(a.add i).off=a.off+i/\(a.add i).spot=none:=by
  intro i
  unfold Addr.add
  split
  ·rename_i h0;subst h0;exact⟨rfl,rfl,hs⟩
  ·exact⟨rfl,rfl,by first|rfl|exact hs⟩
 have h0:=hc 0 hn
 rw[NH (by omega)] at h0
 unfold World.cell? at h0
 rw[(AU6 0).1] at h0
 split at h0
 rotate_left
 ·cases h0
 rename_i arr ty fz hb
 refine⟨arr,ty,fz,hb, ?_,hl⟩
 apply VM
 intro i
 unfold BN
 rw[kQ]
 split
 ·rename_i hi
  rw[<-hc i hi]
  unfold World.cell?
  rw[(AU6 i).1,hb]
  simp only[(AU6 i).2.2,(AU6 i).2.1]
  simp [aX]
 ·rename_i hi
  exact T3 (by omega)
section
variable {H:Type} {enc:TypeId×Value->H} {P:Program} {w:World} {held:Bool}
theorem AHO:∀ (n:Nat) (t:TypeId) (T:Ty),laid P n t T=true->∀ (fuel:Nat) (cs:List Value) (x:DataW H×List MemPlace),DataW.trod enc P w 0 (fun _=>true) held fuel t cs=some x→
  ∃ y:T.T,Rp (fun b=>b<w.heap.size) w T y cs/\Wf T y:=by
 intro n
 induction n with
 |zero=>intro t T h;cases h
 |succ n ih=>
  intro t T h fuel cs x hx
  unfold laid at h
  split at h
  ·rename_i hu
   split at h
   ·obtain⟨m,rfl, -,hw⟩:=DataW.trod_int hu hx
    obtain⟨y,rfl⟩:=AMM hw
    exact⟨y,rfl,trivial⟩
   ·cases h
  ·rename_i k hk hu
   split at h
   ·rename_i k'
    have:=QX h
    subst this
    obtain⟨m,rfl, -,hw⟩:=DataW.trod_int hu hx
    exact⟨m,rfl,hw⟩
   ·cases h
  ·rename_i hu
   split at h
   ·obtain⟨b,rfl, -⟩:=DataW.trod_bool hu hx
    exact⟨b,rfl,trivial⟩
   ·cases h
  ·rename_i hu
   split at h
   ·obtain⟨s,rfl, -⟩:=DataW.trod_string hu hx
    exact⟨s,rfl,trivial⟩
   ·cases h
  ·rename_i hu
   split at h
   ·cases fuel with
    |zero=>simp [DataW.trod] at hx
    |succ m=>
     unfold DataW.trod at hx
     rw[hu] at hx
     split at hx <;> simp_all
     rename_i b1 heq
     subst heq
     refine⟨b1,rfl, ?_⟩
     simp only[Lit.wf,IW] at*
     show b1<18446744073709551616
     omega
   ·cases h
  ·rename_i e hu
   split at h
   ·rename_i a
    simp only[HQ,VZ,IW] at h
    obtain⟨⟨ZR,ZT⟩,hl⟩:=h
    rcases DataW.trod_slice hu hx with ⟨rfl, -⟩|⟨ad,len,cap,elems,rest,m,rfl,rfl, -, -,hlc,qT,hlen,hel, -, -⟩
    ·exact⟨([]:List a.T),⟨nm0,rfl,rfl,EL _,.inl rfl⟩,kW _,by simp⟩
    ·have key:∀ i,i<len->∃ y:a.T,(ad.add (i*a.sz)).spot=none/\∃ arr ty fz,w.heap[ad.block]? =some (.cells arr ty fz)/\Rp (fun b=>b<w.heap.size) w a y (BN arr (ad.off+i*a.sz) a.sz)/\Wf a y:=by
      intro i hi
      have he:=hel i hi
      rw[NH (by omega),ACH] at he
      obtain⟨l,h1,h2⟩:=he
      rw[ZR] at h1
      obtain⟨h0,arr,ty,fz,h3,h4,h5⟩:=lU h1 ZT
      obtain⟨y,h6,h7⟩:=ih e a hl m l _ h2
      refine⟨y,h0,arr,ty,fz, ?_, ?_,h7⟩
      ·have:(ad.add (i*a.sz)).block=ad.block:=by unfold Addr.add;split <;> rfl
       rw[this] at h3;exact h3
      ·have:(ad.add (i*a.sz)).off=ad.off+i*a.sz:=by
        unfold Addr.add;split
        ·rename_i h0;simp [h0]
        ·rfl
       rw[this] at h4;rw[<-h4];exact h6
     by_cases hl0:len=0
     ·subst hl0
      refine⟨([]:List a.T),⟨⟨0,0,true,0,cap,some ad⟩,rfl,rfl,hlc,.inl rfl⟩,kW _,by simp⟩
     ·obtain⟨y0,AW5,arr,ty,fz,hb, -, -⟩:=key 0 (by omega)
      have AW5:ad.spot=none:=by simpa [Addr.add] using AW5
      have A15:∀ i,i<len->∃ y:a.T,Rp (fun b=>b<w.heap.size) w a y (BN arr (ad.off+i*a.sz) a.sz)/\Wf a y:=by
       intro i hi
       obtain⟨y, -,YA,ty',fz',SQ,h1,h2⟩:=key i hi
       rw[hb] at SQ
       simp only[AX,Obj.cells.injEq] at SQ
       obtain⟨rfl, -, -⟩:=SQ
       exact⟨y,h1,h2⟩
      have SZ:∃ ys:List a.T,ys.length=len/\∀ i y,ys[i]? =some y->Rp (fun b=>b<w.heap.size) w a y (BN arr (ad.off+i*a.sz) a.sz)/\Wf a y:=by
       clear hel hlen hx hlc qT hl0 key
       induction len with
       |zero=>exact⟨[],rfl,by simp⟩
       |succ len ihl=>
        obtain⟨ys,h1,h2⟩:=ihl (fun i hi=>A15 i (by omega))
        obtain⟨y,h3,h4⟩:=A15 len (by omega)
        refine⟨ys++ [y],by simp [h1], ?_⟩
        intro i z hz
        by_cases hi:i<ys.length
        ·rw[VI hi] at hz;exact h2 i z hz
        ·rw[VH (by omega)] at hz
         have:i=len:=by
          have:=(vU.1 hz).1
          simp at this;omega
         subst this
         rw[h1] at hz
         simp at hz
         subst hz
         exact⟨h3,h4⟩
      obtain⟨ys,h1,h2⟩:=SZ
      have A3U:ad.block<w.heap.size:=by
       rcases GS ad.block w.heap.size with h|h
       ·exact h
       ·rw[AA5 h] at hb;cases hb
      refine⟨ys,⟨⟨ad.block,ad.off,false,len,cap,none⟩, ?_,h1.symm,hlc,.inr ⟨rfl,A3U,arr,ty,fz,hb,fun i y hy=>(h2 i y hy).1⟩⟩,by rw[h1];omega, ?_⟩
      ·simp [Nm.ad]
       cases ad;simp_all
      ·intro y hy
       obtain⟨i,hi⟩:=List.getElem?_of_mem hy
       exact (h2 i y hi).2
   ·cases h
  ·rename_i fs hu
   simp only[HQ,VZ] at h
   obtain⟨ZR,hl⟩:=h
   obtain⟨xs,m,rfl, -,hlen,hxs,hel⟩:=DataW.trod_struct hu hx
   have AY7:∀ f∈fs.toList,∃ z,DataW.trod enc P w 0 (fun _=>true) held m f.type ((cs.drop f.offset).take (P.cellsOf f.type))=some z:=by
    intro f hf
    obtain⟨i,hi⟩:=List.getElem?_of_mem hf
    have:=hel i f (by simpa using hi)
    have hi2:i<xs.length:=by
     have:=(vU.1 hi).1
     rw[hxs];simpa using this
    rw[NH hi2] at this
    exact⟨_,this⟩
   have go:∀ (l:List Field) (T:Ty) (off:Nat),uP P (laid P n) l T off=true->(∀ f∈l,∃ z,DataW.trod enc P w 0 (fun _=>true) held m f.type ((cs.drop f.offset).take (P.cellsOf f.type))=some z)→
     ∃ y:T.T,Rp (fun b=>b<w.heap.size) w T y ((cs.drop off).take T.sz)/\Wf T y:=by
    intro l
    induction l with
    |nil=>intro T off h;simp [uP] at h
    |cons f r ihr=>
     intro T off h hf
     cases r with
     |nil=>
      simp only[uP,HQ,VZ] at h
      obtain⟨⟨rfl,h2⟩,h3⟩:=h
      obtain⟨z,hz⟩:=hf f (by simp)
      rw[h2] at hz
      exact ih _ _ h3 _ _ _ hz
     |cons g r=>
      cases T with
      |pair a b=>
       simp only[uP,HQ,VZ] at h
       obtain⟨⟨⟨rfl,h2⟩,h3⟩,h4⟩:=h
       obtain⟨z,hz⟩:=hf f (by simp)
       rw[h2] at hz
       obtain⟨y,hy,wy⟩:=ih _ _ h3 _ _ _ hz
       obtain⟨y2,hy2,wy2⟩:=ihr b (f.offset+a.sz) h4 (fun q hq=>hf q (by simp [hq]))
       refine⟨(y,y2),⟨_,_, ?_,hy,hy2⟩,wy,wy2⟩
       rw[Ty.sz,List.take_add,ACV]
      |_=>simp [uP] at h
   obtain⟨y,hy,wy⟩:=go fs.toList T 0 hl AY7
   refine⟨y, ?_,wy⟩
   rw[o_,ACK (by omega)] at hy
   exact hy
  ·cases h
end
structure AEH (w:World) (ps:List CT) (x:HT ps) (ms:Nat->Nm) (vals:List Value):Prop where
 all:∀ (TB:Tb) (c:DW TB),PS c (fun b=>b<w.heap.size) w ps x ms
 own:CA ps x ms=[]
 den:AL (HS ms) (outSVs ps x 0)=vals
theorem AEH.nil (w:World):AEH w [] () (fun _=>nm0) []:=⟨fun _ _=>trivial,rfl,rfl⟩
theorem AEH.cons {w:World} {r:List CT} {x:HT r} {ms:Nat->Nm} {vals:List Value} (h:AEH w r x ms vals) {t:Ty} {ag:Bool} {v:Value} {cs:List Value} (hv:(ag=true/\v= .agg cs.toArray)\/(ag=false/\cs=[v])) (y:t.T) (hy:Rp (fun b=>b<w.heap.size) w t y cs):
  ∃ ms',AEH w (⟨t,ag,false,false⟩::r) (HT.mk ⟨t,ag,false,false⟩ r y x) ms' (v::vals):=by
 obtain⟨m,e,hs⟩:=hy.out
 let ms' :Nat->Nm:=fun k=>if k<t.HE then m k else ms (k-t.HE)
 have nS:(CT.mk t ag false false).cnt=t.HE:=by simp [CT.cnt,CT.pn]
 have hm1:∀ k,k<t.HE->ms' k=m k:=fun k hk=>AB hk
 have hm2:(fun k=>ms' (t.HE+k))=ms:=by
  funext k
  show (if t.HE+k<t.HE then _ else ms (t.HE+k-t.HE))=_
  rw[AD (by omega)]
  congr 1;omega
 refine⟨ms',fun TB c=>⟨⟨fun j e he=> ?_,fun h=>by cases h⟩, ?_⟩, ?_, ?_⟩
 ·rw[HT.pD] at he
  have hj:j<t.HE:=by
   have:=(vU.1 he).1
   rwa [BE] at this
  have hE:=hs j e he
  show jE c _ w (ms' (0+j)) e
  rw[ML,hm1 j hj]
  cases e with
  |shr t xs=>exact hE
  |dead=>trivial
  |_=>exact hE.elim
 ·rw[HT.pE,nS,hm2];exact h.all TB c
 ·rw[CA,HT.pE,nS,hm2,h.own,MW,HT.pD]
  rw[eP];rfl
 ·have hd:AL (HS ms') (H_ t y 0)=cs:=by
   rw[V2,e]
   exact HP _ _ fun k hk=>by rw[ML];exact hm1 k hk
  simp only[outSVs,AL,HT.pD,HT.pE,iZ]
  refine⟨?_, ?_⟩
  ·unfold S8
   rcases hv with ⟨rfl,rfl⟩|⟨rfl,rfl⟩
   ·simp only[SV.den,hd]
   ·simp only
    cases hu:H_ t y 0 with
    |nil=>rw[hu] at hd;simp [AL] at hd
    |cons q l=>rw[hu] at hd;simp only[AL,iZ] at hd;exact hd.1
  ·rw[nS,ML,←h.den]
   refine jH _ _ fun k hk=> ?_
   show ms' (t.HE+k)=ms (0+k)
   rw[congrFun hm2 k,ML]
theorem AEI {P:Program} {f:FuncId} {fi:FnI} (hc:CallsV P TB f fi) {vals:Array Value} {w:World} (hT:AY6 TB w) {x:HT fi.ps} {ms:Nat->Nm} {r:HT (fi.rs++fi.os)}
  (ha:AEH w fi.ps x ms vals.toList) (hr:fi.F x=some r) (ht:∀ ms,(S9 (outSVs fi.rs (HT.left fi.rs fi.os r) 0)).den (HS ms)= .bool true) (rN:fi.sh=[]:=by rfl) (hpp:fi.nR=[]:=by rfl):
  Calls P f vals w (fun e w' =>e= .returned (.bool true)/\Below w.heap.size w w'):=by
 have h:=hc.2 x r hr w (fun b=>b<w.heap.size) ms (fun _ h=>h) (ha.all _ _) (by rw[ha.own];exact fL) (fun q hq=>⟨⟨(hT q hq).1,by rw[ha.own];exact kS⟩,(hT q hq).2⟩) (by rw[hpp];exact fun q hq=>by cases hq)
 rw[rN] at h
 replace h:Calls P f (AL (HS ms) (outSVs fi.ps x 0)).toArray w _:=h
 rw[ha.den] at h
 have e:vals.toList.toArray=vals:=by simp
 rw[e] at h
 refine h.mono ?_
 rintro e w' ⟨G',ms',rfl,bL,hs,hold, -⟩
 refine⟨by rw[ht],⟨bL.os,bL.tape,bL.output,hs,fun b hb=>hold b hb ?_⟩⟩
 rw[ha.own]
 exact kS
theorem MN {P:Program} {W:World} {r:Reach} {base:Nat} {t:TypeId} {v:Value} (ha:GU P t=false) (h:Value.okWide P W r base t v):v.cells.toList=[v]:=by
 unfold Value.okWide at h
 unfold GU at ha
 split at h
 ·simp_all
 ·simp_all
 ·unfold Cell.okWide Cell.ok at h
  cases v <;> simp_all [Value.cells]
theorem AB6 {P:Program} {W:World} {r:Reach} {base:Nat} {t:TypeId} {v:Value} (ha:GU P t=true) (h:Value.okWide P W r base t v):v= .agg v.cells.toList.toArray:=by
 unfold Value.okWide at h
 unfold GU at ha
 split at h
 ·obtain⟨cs,rfl, -⟩:=h;simp [Value.cells]
 ·obtain⟨cs,rfl, -⟩:=h;simp [Value.cells]
 ·split at ha <;> simp_all
theorem handed {H:Type} {enc:TypeId×Value->H} {P:Program} {W:World} {r:Reach} {base:Nat} {held:Bool} {t:TypeId} {v:Value} {d:DataW H} {ps:List MemPlace} (n:Nat) (T:Ty) (hl:laid P n t T=true)
  (PQ:Value.okWide P W r base t v) (h:DataW.Trod enc P W 0 (fun _=>true) held t v d ps):∃ y:T.T,Rp (fun b=>b<W.heap.size) W T y v.cells.toList/\Wf T y:=by
 obtain⟨fuel,h⟩:=h
 exact AHO n t T hl fuel _ _ h
end Go.V3
namespace Go.V3
open Go Go.ChangeShapes Go.WideShapes Go.RowKit
theorem zC {H:Type} {enc:TypeId×Value->H} {P:Program} {w:World} {e:TypeId} {k:IntKind} (he:P.underlying e=some (.int k)) (hc:P.cellsOf e=1):
  ∀ (m:Nat) (ns:List Int) (cs:List Value),cs.length=ns.length->(∀ i,i<ns.length->∃ x ps,DataW.trod enc P w 0 (fun _=>true) false m e ((cs.drop i).take 1)=some (x,ps)/\ns[i]?.map (fun n=>(DataW.lit (.int k n):DataW H))=some x)->cs=ns.map (Value.int k)
 |m,[],cs,hl,_=>by simpa using hl
 |m,n::ns,[],hl,_=>by simp at hl
 |m,n::ns,c::cs,hl,h=>by
  obtain⟨x,ps,h1,h2⟩:=h 0 (by simp)
  obtain⟨q,e1,e2,_⟩:=DataW.trod_int he h1
  simp only[o_,AOB,ACW,iZ,and_true] at e1
  simp only[DB] at e2
  simp only[OS,aZ,AX] at h2
  rw[e2.1] at h2
  simp only[DataW.lit.injEq,Lit.int.injEq,iH] at h2
  rw[KU,e1,h2]
  congr 1
  refine zC (enc:=enc) (w:=w) he hc m ns cs (by simpa using hl) fun i hi=> ?_
  obtain⟨x,ps,h3,h4⟩:=h (i+1) (by simpa using hi)
  exact⟨x,ps,by simpa using h3,by simpa using h4⟩
theorem pV {P:Program} {W:World} {nm:String} {d:DataW Unit} (h:laidMetH P [(nm,d)] W) (hp:([(nm,d)].all fun x=>x.2.handleName?.isNone)=true) {g t e:Nat} {len:Nat} {k:IntKind} (hg:P.globalNamed nm=some g)
  (ht:(P.globals[g]?).map (·.type)=some t) (hu:P.underlying t=some (.array len e)) (he:P.underlying e=some (.int k)) (hc:P.cellsOf e=1) (hct:P.cellsOf t=len) (ns:List Int) (hd:d= .agg (ns.map fun n=> .lit (.int k n))):
  g<W.heap.size/\∃ ty fz,W.heap[g]? =some (.cells (ns.map (Value.int k)).toArray ty fz):=by
 rw[MakeChecks.laidMetH_plain _ _ _ hp] at h
 obtain⟨ps,⟨g0,t0,cs0,f0,p0,q0,hg0,ht0,hv0,hd0,_⟩,_⟩:=h
 obtain rfl:=T6 (hg.symm.trans hg0)
 obtain rfl:=T6 (ht.symm.trans ht0)
 obtain⟨xs,m,rfl,hx,hlen,qW,hel⟩:=DataW.trod_array hu hd0
 simp only[DB] at hx
 have hxs:=hx.1
 subst hd
 simp only[DataW.agg.injEq] at hxs
 have lF:ns.length=xs.length:=by
  have:=MS List.length hxs
  simpa using this
 have hcs:cs0.toList=ns.map (Value.int k):=by
  refine zC (enc:=fun _=>()) (w:=W) he hc m ns cs0.toList (by rw[hlen,hct,lF,qW]) fun i hi=> ?_
  have h1:=hel i (by omega)
  rw[hc,pB] at h1
  obtain⟨⟨x,q⟩,hxi⟩:∃ y,xs[i]? =some y:=⟨_,NH (by omega)⟩
  rw[hxi] at h1
  refine⟨x,q,h1, ?_⟩
  have:=MS (fun l=>l[i]?) hxs
  simp only[xM,hxi,aZ] at this
  exact this
 unfold World.var? at hv0
 rw[hg] at hv0
 simp only[BC] at hv0
 split at hv0
 ·rename_i cs ty fz hb
  simp only[AX] at hv0
  subst hv0
  have e:cs=(ns.map (Value.int k)).toArray:=by
   rw[<-hcs]
  refine⟨?_,ty,fz,by rw[hb,e]⟩
  rcases GS g W.heap.size with h1|h1
  ·exact h1
  ·rw[AA5 h1] at hb;cases hb
 ·cases hv0
end Go.V3
namespace Go.V3
open Go
variable {TB:Tb} {P:Program}
def Inv (w w' :World):Prop:=Rest w w' /\w.heap.size<=w'.heap.size/\∀ b,b<w.heap.size->w'.heap[b]? =w.heap[b]?
theorem Inv.refl (w:World):Inv w w:=⟨.refl _,EL _,fun _ _=>rfl⟩
theorem Inv.trans {a b c:World} (h:Inv a b) (k:Inv b c):Inv a c:=
 ⟨h.1.trans k.1,WZ h.2.1 k.2.1,fun x hx=>(k.2.2 x (qN hx h.2.1)).trans (h.2.2 x hx)⟩
def cfN (TB:Tb) (G:Nat->Prop) (w:World):DW TB:=⟨w,fun _=>False,G⟩
theorem holdsNil {G:Nat->Prop} {w w' :World} (h:Inv w w') (hG:∀ b,G b->b<w.heap.size) (ht:(cfN TB G w).Tab) (E:Env):AR (cfN TB G w') G w' E []:=by
 refine⟨.refl _,EL _,fun _ _=>rfl,fun b hb=>qN (hG b hb) h.2.1,fun _ h=>h,fun _ h=> .inl h, ?_, ?_, ?_, ?_⟩
 ·intro n e he;simp [look] at he
 ·intro n t xss q he;simp [look] at he
 ·intro n k e f b _ he;simp [look] at he
 ·intro q hq
  obtain⟨⟨h1,_⟩,ty,fz,h2⟩:=ht q hq
  exact⟨⟨qN h1 h.2.1,fun x=>x⟩,ty,fz,by rw[show (cfN TB G w').w0=w' from rfl,h.2.2 _ h1];exact h2⟩
theorem St.inv {G:Nat->Prop} {w w' :World} {E:Env} {fr:List SV} {L:AK} {a:Act} (h:St (cfN TB G w) E fr L a w'):Inv w w' :=by
 obtain⟨G',hG⟩:=h.hd
 exact⟨hG.rest,hG.size,fun b hb=>hG.old b ⟨hb,fun x=>x⟩⟩
theorem St.AQ4 {c c' :DW TB} {E:Env} {fr:List SV} {L:AK} {a:Act} {w w' :World} (h:St c E fr L a w) (hd:Hd c' w' E L):St c' E fr L a w' :=⟨h.q_,hd,h.wf⟩
theorem uQ {L:AK} (h:ZV [] L):L=[]:=AO0.1 h.1
def AQ5 (W:List Nat):ZU:={ live:=[],boxes:=[],rows:=[],dead:=W,lost:=[],base:=0 }
def LX (W:List Nat) (fr:List SV):List SV:=QH fr (W.map fun t=>(t,.nF t))
def AEJ (fr:List SV):Option Bool:=toB (fr.getD 2 AV)
section
variable (P) (cx:Cx) (rest tail:Code) (W:List Nat) (K_:Nat) (fr:List SV) (s:ByteArray)
noncomputable def AQ6 (fr' :List SV):Option Bool:=rk P cx tail Bool 1000000 (fun e AML _=>match e with
 | .normal=>AEJ AML
 | .ret=>AEJ AML
 |_=>none) fr' []
noncomputable def uR (p:Nat):Option (Nat ⊕ Bool):=cond (decide (p<s.size))
 (rk P cx rest (Nat ⊕ Bool) K_ (fun e fr' _=>match e with
   | .normal=>some (.inl (p+(Utf8.decode s p).2))
   | .ret=>(AEJ fr').map .inr
   | .exit id=>if id=K_ then (AQ6 P cx tail fr').map .inr else none
   |_=>none) (((LX W fr).set 25 (.tup [.N1 true,.int .i64 (p:Int),.int .i32 ((Utf8.decode s p).1:Int)])).set 26 (.N1 true)) [])
 (rk P cx rest (Nat ⊕ Bool) K_ (fun e fr' _=>match e with
   | .ret=>(AEJ fr').map .inr
   | .exit id=>if id=K_ then (AQ6 P cx tail fr').map .inr else none
   |_=>none) (((LX W fr).set 25 (.tup [.N1 false])).set 26 (.N1 false)) [])
noncomputable def AK3:Option Bool:=AJ (σ:=Nat) (β:=Bool) (uR P cx rest tail W K_ fr s) 0
end
theorem uS {ops:Array Oper} {i:Nat} {o:Oper} (ho:ops[i]? =some o) (hg:o.guard=none) {a:Act} {w w' :World} {v:Value} {K:Act->World->Prop} {Q:Exit->Act->World->Prop}
  (hr:(execOp a.eval o).run P w= .ok (.value v) w') (hK:K (a.put o.dst v) w'):wpOp P ops Q i K a w:=by
 unfold wpOp
 rw[ho]
 simp only[Region.wanted,hg,G4]
 refine .inl ?_
 show o.upon P a K Q ((execOp a.eval o).run P w)
 rw[hr]
 exact hK
def zD (w:World) (o:Obj):World:={ w with heap:=w.heap.push o }
theorem AMN {ρ:Operand->Value} {o:Oper} {t:TypeId} {x:Operand} (ho:o.op= .range t x) (hu:P.underlying t=some .string) {s:ByteArray} (hx:ρ x= .string s) (w:World):
  (execOp ρ o).run P w= .ok (.value (.pointer (some ⟨w.heap.size,0,none⟩))) (zD w (.stringIter s 0)):=by
 unfold execOp
 rw[ho]
 simp only[Instr.range,hx]
 have h1:=run_underlying (w:=w) hu
 simp [h1,newObj,Sem.run,zD]
theorem AMO {ρ:Operand->Value} {o:Oper} {x:Operand} (ho:o.op= .next x true) {b:Nat} (hx:ρ x= .pointer (some ⟨b,0,none⟩)) {w:World} {s:ByteArray} {p:Nat} (hb:w.heap[b]? =some (.stringIter s p)):
  (p<s.size->∃ w',(execOp ρ o).run P w= .ok (.value (.tuple #[.bool true,.int .i64 (p:Int),.int .i32 ((Utf8.decode s p).1:Int)])) w' /\Rest w w' /\w'.heap.size=w.heap.size/\w'.heap[b]? =some (.stringIter s (p+(Utf8.decode s p).2))/\∀ c,c≠b->w'.heap[c]? =w.heap[c]?)∧
  (¬p<s.size->(execOp ρ o).run P w= .ok (.value (.tuple #[.bool false])) w):=by
 have DM:b<w.heap.size:=by
  rcases GS b w.heap.size with h|h
  ·exact h
  ·rw[AA5 h] at hb;cases hb
 constructor
 ·intro hp
  refine⟨{ w with heap:=w.heap.setIfInBounds b (.stringIter s (p+(Utf8.decode s p).2)) }, ?_,⟨rfl,rfl,rfl⟩,by simp,by simp [DM],fun c hc=>by simp [Ne.symm hc]⟩
  unfold execOp
  rw[ho]
  simp [Instr.next,hx,getObj,setObj,Sem.run,hb,hp,goInt]
 ·intro hp
  unfold execOp
  rw[ho]
  simp [Instr.next,hx,getObj,Sem.run,hb,hp]
theorem run_move {ρ:Operand->Value} {o:Oper} {x:Operand} (ho:o.op= .move x) (w:World):(execOp ρ o).run P w= .ok (.value (ρ x)) w:=by
 unfold execOp;rw[ho];rfl
theorem AQ7 {ρ:Operand->Value} {o:Oper} {x:Operand} (ho:o.op= .extract x 0) {v:Value} {vs:Array Value} (hx:ρ x= .tuple vs) (hv:vs[0]? =some v) (w:World):(execOp ρ o).run P w= .ok (.value v) w:=by
 unfold execOp;rw[ho];simp [Instr.extract,hx,hv]
def sq1:Code->Code
 | .seq a _=>a
 |c=>c
def pW:Code->Code
 | .seq _ b=>b
 |c=>c
def AU7:Code->Code
 | .block _ c=>c
 |c=>c
def lpC:Code->Code
 | .loop c=>c
 |c=>c
def AU8 (c:Code) (i:Nat):Oper:=match c with
 | .region _ ops _=>ops.toList.getD i default
 |_=>default
theorem AU9 {c:DW TB} {E:Env} {fr:List SV} {L:AK} {a:Act} {w:World} (h:St c E fr L a w) {r:Bool} (hf:AEJ fr=some r) {fn:Func} (hres:fn.results= #[.tmp 2]):(results fn a.tmps).run P w= .ok (.bool r) w:=by
 have hd:a.tmps.getD 2 undef= .bool r:=by
  have:=UO h.q_ (.tmp 2)
  show a.eval (.tmp 2)=_
  rw[this]
  exact T7 hf
 unfold results
 rw[hres]
 have hd' :a.tmps[2]?.getD undef= .bool r:=by simpa using hd
 simp [hd']
theorem AQ8 {W:List Nat} {E:Env} {fr:List SV} {L:AK} (h25:25∈W) (h26:26∈W) (u v:SV):Ext W E fr L E ((fr.set 25 u).set 26 v) L:=by
 refine⟨fun _ h=>⟨rfl,h⟩,fun _ _=>rfl,.refl _,by simp,fun t ht=> ?_⟩
 rw[EZ,EZ,AD (fun (h:26=t/\_)=>ht (h.1 ▸ h26)),AD (fun (h:25=t/\_)=>ht (h.1 ▸ h25))]
theorem zE {W:List Nat} {fr:List SV} {t:Nat} (h:t∉W):(LX W fr).getD t AV=fr.getD t AV:=by
 unfold LX
 refine QI _ _ _ fun q hq=> ?_
 obtain⟨x,hx,rfl⟩:=C6.1 hq
 rintro rfl
 exact h hx
theorem AEK {fr:List SV} {t:Nat} (h:fr.length<=t):fr.getD t AV=AV:=by simp [List.getD,T3 h]
theorem AMP {a b:List SV} (hl:a.length=b.length) (h:∀ t,a.getD t AV=b.getD t AV):a=b:=by
 apply List.ext_getElem hl
 intro i h1 h2
 have:=h i
 simpa [List.getD,NH h1,NH h2] using this
theorem AK4 (W:List Nat):(W.map fun t=>(t,SV.nF t)).map (·.1)=W:=by simp [UN,sO]
theorem AMQ {W:List Nat} (H9:W.Nodup) {t:Nat} (ht:t∈W) (fr:List SV) (v:SV):LX W (fr.set t v)=LX W fr:=by
 have hl:∀ l:List SV,(LX W l).length=l.length:=fun l=>NO _ _
 refine AMP (by rw[hl,hl,EP]) fun k=> ?_
 have hm:((W.map fun t=>(t,SV.nF t)).map (·.1)).Nodup:=by rw[AK4];exact H9
 by_cases hk:k∈W
 ·by_cases DM:k<fr.length
  ·have h1:=XG (fr.set t v) (W.map fun t=>(t,SV.nF t)) hm (C6.2 ⟨k,hk,rfl⟩) (by simpa using DM)
   have h2:=XG fr (W.map fun t=>(t,SV.nF t)) hm (C6.2 ⟨k,hk,rfl⟩) DM
   exact h1.trans h2.symm
  ·rw[AEK (by rw[hl,EP];omega),AEK (by rw[hl];omega)]
 ·rw[zE hk,zE hk,EZ,AD (fun (h:t=k/\_)=>hk (h.1 ▸ ht))]
theorem AQ9 {W:List Nat} (H9:W.Nodup) {t:Nat} (ht:t∈W) {fr:List SV} (hl:t<fr.length):(LX W fr).getD t AV= .nF t:=
 XG fr (W.map fun t=>(t,SV.nF t)) (by rw[AK4];exact H9) (C6.2 ⟨t,ht,rfl⟩) hl
set_option maxHeartbeats 1000000 in
theorem AHP {cx:Cx} (hcx:cx.Ok P) {f:FuncId} {fn:Func} {r0 pre rest tail:Code} {i3 i4 K_ n:Nat} {o1 o2 o3 o4:Oper} {t:TypeId} {W:List Nat} {F:ByteArray->Option Bool}
  (hf:P.funcs[f]? =some fn) (hb:fn.body=some (.seq r0 (.seq pre (.seq (.seq (.region i3 #[o1,o2] false) (.block K_ (.loop (.seq (.region i4 #[o3,o4] false) rest)))) tail))))
  (hnm : (fn.name == "runtime.NumGoroutine") = false) (hn : fn.ntmps = n) (hn1 : 27 ≤ n) (hres : fn.results = #[.tmp 2])
  (h1:o1.op= .move (.tmp 0)/\o1.dst=some 23/\o1.guard=none) (h2:o2.op= .range t (.tmp 23)/\o2.dst=some 24/\o2.guard=none) (hu:P.underlying t=some .string)
  (h3:o3.op= .next (.tmp 24) true/\o3.dst=some 25/\o3.guard=none) (h4:o4.op= .extract (.tmp 25) 0/\o4.dst=some 26/\o4.guard=none)
  (hW:AHK (AQ5 W) (24::writes (.seq (.region i4 #[o3,o4] false) rest))=true) (hW2:(!W.contains 24|| !W.contains 25|| !W.contains 26||(writes r0).contains 0||(writes pre).contains 0||(writes rest).contains 24)=false)
  (hF:∀ s,F s=rk P cx r0 Bool 1000000 (fun e fr L=>match e with
   | .normal=>rk P cx pre Bool 1000000 (fun e fr _=>match e with
    | .normal=>AK3 P cx rest tail W K_ (fr.set 23 (.str s)) s
    | .ret=>AEJ fr
    |_=>none) fr L
   |_=>none) (.str s::List.replicate (n-1) AV) []):
  CallsV P cx.tb f { ps:=[⟨.str,false,false,false⟩],rs:=[⟨.bool,false,false,false⟩],os:=[],bk:=[],F:=F }:=by
 refine⟨calleeRuns_of hf hb hnm,fun x r hr w G ms hG ATD H9 AOY _=> ?_⟩
 have e_ :F x=some r:=hr
 rw[hF] at e_
 have ht:(cfN cx.tb G w).Tab:=fun q hq=>by
  obtain⟨⟨q1,_⟩,q2⟩:=AOY q hq
  exact⟨⟨q1,fun x=>x⟩,q2⟩
 refine calls_of_wp hf hb ?_
 generalize hQ:bodyPost P fn (fun e w' =>∃ G' ms',e= .returned ((S9 (outSVs [⟨.bool,false,false,false⟩] (HT.left [⟨.bool,false,false,false⟩] [] r) 0)).den (HS ms'))∧
   Rest w w' /\w.heap.size<=w'.heap.size/\(∀ b,b<w.heap.size->b∉CA [⟨.str,false,false,false⟩] x ms->w'.heap[b]? =w.heap[b]?)∧
   (∀ b,G b->G' b)/\(∀ b,G' b->G b\/w.heap.size<=b\/b∈CA [⟨.str,false,false,false⟩] x ms)/\(∀ b,G' b->b<w'.heap.size)∧
   PS (⟨w,fun b=>b∈CA [⟨.str,false,false,false⟩] x ms,G⟩:DW cx.tb) G' w' ([⟨.bool,false,false,false⟩]++ []) r ms' /\(CA ([⟨.bool,false,false,false⟩]++ []) r ms').Nodup∧
   (LQ [] (cnts [⟨.bool,false,false,false⟩])).map ms' =[].map ms/\∀ q∈([]:List (Nat×Nat×Nat×Nat)),ms' q.1=ms q.2.2.1)=Q
 have fin:∀ (c:DW cx.tb) (E:Env) (fr:List SV) (L:AK) (a:Act) (w' :World),St c E fr L a w' ->Inv w w' ->AEJ fr=some r->Q .ret a w' /\Q .normal a w' :=by
  intro c E fr L a w' hst hinv LY
  subst hQ
  have key:a.defers=[]/\∃ v,(results fn a.tmps).run P w' = .ok v w' /\(∃ G' ms',Ending.returned v= .returned ((S9 (outSVs [⟨.bool,false,false,false⟩] (HT.left [⟨.bool,false,false,false⟩] [] r) 0)).den (HS ms'))∧
   Rest w w' /\w.heap.size<=w'.heap.size/\(∀ b,b<w.heap.size->b∉CA [⟨.str,false,false,false⟩] x ms->w'.heap[b]? =w.heap[b]?)∧
   (∀ b,G b->G' b)/\(∀ b,G' b->G b\/w.heap.size<=b\/b∈CA [⟨.str,false,false,false⟩] x ms)/\(∀ b,G' b->b<w'.heap.size)∧
   PS (⟨w,fun b=>b∈CA [⟨.str,false,false,false⟩] x ms,G⟩:DW cx.tb) G' w' ([⟨.bool,false,false,false⟩]++ []) r ms' /\(CA ([⟨.bool,false,false,false⟩]++ []) r ms').Nodup∧
   (LQ [] (cnts [⟨.bool,false,false,false⟩])).map ms' =[].map ms/\∀ q∈([]:List (Nat×Nat×Nat×Nat)),ms' q.1=ms q.2.2.1):=by
   refine⟨hst.q_.2,_,AU9 hst LY hres,G,ms,rfl,hinv.1,hinv.2.1,fun b hb _=>hinv.2.2 b hb,fun _ h=>h,fun _ h=> .inl h,fun b hb=>qN (hG b hb) hinv.2.1,⟨⟨?_, ?_⟩,trivial⟩,fL,rfl,fun q hq=>by cases hq⟩
   ·intro j e he;simp [B6] at he
   ·intro h;cases h
  exact⟨key,key⟩
 have hold:∀ wi,Inv w wi->∀ E,Hd (cfN cx.tb G wi) wi E []:=fun wi hi E=>⟨G,holdsNil hi hG ht E⟩
 simp only[Bool.or_eq_false_iff,Bool.not_eq_false',AA7,aV,IW] at hW2
 obtain⟨⟨⟨⟨⟨g24,g25⟩,g26⟩,gr0⟩,A3V⟩,AW6⟩:=hW2
 have hs0:St (cfN cx.tb G w) (HS ms) (.str x::List.replicate (n-1) AV) [] { tmps:=(AL (HS ms) (outSVs [⟨.str,false,false,false⟩] x 0)).toArray++Array.replicate (fn.ntmps-(AL (HS ms) (outSVs [⟨.str,false,false,false⟩] x 0)).toArray.size) undef,defers:=[] } w:=by
  refine⟨⟨?_,rfl⟩,hold w (.refl w) _, ?_⟩
  ·apply ZD
   simp [outSVs,S8,H_,AL,SV.den,hn]
   rw[FB,List.map_replicate]
   exact⟨rfl,rfl⟩
  ·intro k
   left
   cases k with
   |zero=>trivial
   |succ k=>
    simp only[List.getD,vW,sD]
    split <;> exact lR _ _
 refine wp_seq (wp_mono (AEE hcx r0 Bool 1000000 _ _ [] r e_ (cfN cx.tb G w) (HS ms) _ w hs0) ?_)
 rintro e a1 w1 ⟨E1,fr1,L1,st1,AY8,k1⟩
 obtain rfl:=uQ AY8.rA
 cases e with
 |normal=>
  have inv1:Inv w w1:=st1.inv
  have A3W :=st1.AQ4 (hold w1 inv1 E1)
  refine wp_seq (wp_mono (AEE hcx pre Bool 1000000 _ _ [] r k1 (cfN cx.tb G w1) E1 _ w1 A3W) ?_)
  rintro e a2 w2 ⟨E2,oA,L2,st2,AY9,k2⟩
  obtain rfl:=uQ AY9.rA
  have inv2:Inv w w2:=inv1.trans st2.inv
  have hf0:oA.getD 0 AV= .str x:=by
   rw[AY9.out 0 A3V,AY8.out 0 gr0];rfl
  have lF:oA.length=n:=by
   rw[AY9.len,AY8.len];simp;omega
  cases e with
  |ret=>exact (fin _ _ _ _ _ _ st2 inv2 k2).1
  |normal=>
   show (Code.seq (.seq (.region i3 #[o1,o2] false) (.block K_ (.loop (.seq (.region i4 #[o3,o4] false) rest)))) tail).wp P Q a2 w2
   have k3:AK3 P cx rest tail W K_ (oA.set 23 (.str x)) x=some r:=k2
   unfold AK3 at k3
   obtain⟨m,hm⟩:=QG.1 k3
   generalize hB:w2.heap.size=B
   refine wp_seq (wp_seq (wp_region ?_))
   rw[show List.range (#[o1,o2]:Array Oper).size=[0,1] from rfl,wpOps_cons]
   have hx0:a2.eval (.tmp 0)= .string x:=by
    rw[UO st2.q_ (.tmp 0)]
    show (oA.getD 0 AV).den E2=_
    rw[hf0];rfl
   refine uS (o:=o1) rfl h1.2.2 (run_move h1.1 w2) ?_
   rw[hx0,h1.2.1,wpOps_cons]
   have sm1:Sim E2 (oA.set 23 (.str x)) (a2.put (some 23) (.string x)):=st2.q_.put (some 23) (.str x)
   have x5:(a2.put (some 23) (.string x)).eval (.tmp 23)= .string x:=by
    rw[UO sm1 (.tmp 23)]
    show ((oA.set 23 (.str x)).getD 23 AV).den E2=_
    rw[EZ,AB ⟨rfl,by omega⟩];rfl
   refine uS (o:=o2) rfl h2.2.2 (AMN h2.1 hu x5 w2) ?_
   rw[h2.2.1,hB]
   have sm2:Sim E2 ((oA.set 23 (.str x)).set 24 (.ptr (some ⟨B,0,none⟩))) ((a2.put (some 23) (.string x)).put (some 24) (.pointer (some ⟨B,0,none⟩))):=sm1.put (some 24) (.ptr (some ⟨B,0,none⟩))
   generalize hw3:zD w2 (.stringIter x 0)=w3
   have AYA:Inv w w3:=by
    refine inv2.trans ⟨?_, ?_, ?_⟩
    ·subst hw3;exact⟨rfl,rfl,rfl⟩
    ·subst hw3;simp [zD]
    ·intro b hb;subst hw3;simp only[zD];rw[AA9,AD (by omega)]
   have hit:w3.heap[B]? =some (.stringIter x 0):=by
    rw[<-hw3,←hB]
    exact Array.getElem?_push_size
   have hBw:w.heap.size<=B:=by rw[<-hB];exact inv2.2.1
   have hBs:B<w3.heap.size:=by subst hw3;subst hB;simp [zD]
   generalize AUA:(oA.set 23 (.str x)).set 24 (.ptr (some ⟨B,0,none⟩))=ZJ at sm2
   have hl3:ZJ.length=n:=by subst AUA;simpa using lF
   have wf3:uA E2 [] ZJ:=by
    subst AUA
    intro k
    rw[EZ,EZ]
    split
    ·exact .inl trivial
    ·split
     ·exact .inl trivial
     ·exact st2.wf k
   generalize ((a2.put (some 23) (.string x)).put (some 24) (.pointer (some ⟨B,0,none⟩)))=a3 at sm2
   have st3:St (cfN cx.tb G w3) E2 ZJ [] a3 w3:=⟨sm2,hold w3 AYA E2,wf3⟩
   have H9:W.Nodup:=by
    have:=hW
    unfold AHK AQ5 at this
    simp only[HQ,IW,pA,nI] at this
    exact this.2
   have hhd:LX W ZJ=LX W (oA.set 23 (.str x)):=by
    rw[<-AUA];exact AMQ H9 g24 _ _
   generalize hVW:24::writes (.seq (.region i4 #[o3,o4] false) rest)=VW at hW
   have v24:24∈VW:=by rw[<-hVW];simp
   have v25:25∈VW:=by rw[<-hVW];exact VJ _ (EY.2 (.inl (xL.2 ⟨o3,by simp,h3.2.1⟩)))
   have v26:26∈VW:=by rw[<-hVW];exact VJ _ (EY.2 (.inl (xL.2 ⟨o4,by simp,h4.2.1⟩)))
   have A16:∀ t,t∈writes rest->t∈VW:=by
    intro t ht
    rw[<-hVW]
    exact VJ _ (EY.2 (.inr ht))
   have hpk:∀ fr' :List SV,YG (AQ5 W) [] fr' []=some ():=by
    intro fr'
    rfl
   obtain⟨E4,st4,A3X⟩:=AED (BP:=AQ5 W) hW (holdsNil AYA hG ht E2) wf3 st3 (.refl VW E2 ZJ []) (hpk ZJ)
   have he3:a3.eval (.tmp 24)= .pointer (some ⟨B,0,none⟩):=by
    rw[UO sm2 (.tmp 24)]
    show (ZJ.getD 24 AV).den E2=_
    rw[<-AUA,EZ,AB ⟨rfl,by simp;omega⟩];rfl
   have hl4:(LX W ZJ).length=n:=by rw[show (LX W ZJ).length=ZJ.length from NO _ _];exact hl3
   generalize hQ' :Exit.then (tail.wp P Q) Q=Q'
   have loop:∀ (m p:Nat) (a:Act) (wi:World) (E:Env),Q9 (uR P cx rest tail W K_ (oA.set 23 (.str x)) x) m p=some r->St (cfN cx.tb G wi) E (LX W ZJ) [] a wi->Ext VW E2 ZJ [] E (LX W ZJ) []→
     a.eval (.tmp 24)= .pointer (some ⟨B,0,none⟩)->Inv w wi->wi.heap[B]? =some (.stringIter x p)->Code.rounds P (.seq (.region i4 #[o3,o4] false) rest) (Exit.inBlock K_ Q') m a wi:=by
    intro m
    induction m with
    |zero=>intro p a wi E hm;cases hm
    |succ m ih=>
     intro p a wi E hm hst LV he hinv Q1
     have hBi:B<wi.heap.size:=by
      rcases GS B wi.heap.size with h|h
      ·exact h
      ·rw[AA5 h] at Q1;cases Q1
     rw[rounds_succ]
     refine wp_seq (wp_region ?_)
     rw[show List.range (#[o3,o4]:Array Oper).size=[0,1] from rfl,wpOps_cons]
     obtain⟨n1,n2⟩:=AMO (P:=P) (ρ:=a.eval) h3.1 he Q1
     rw[Q9] at hm
     have after:∀ (sv:SV) (b:Bool) (wj:World) (K:Exit->List SV->AK->Option (Nat ⊕ Bool)) (y:Nat ⊕ Bool),sv.wf E []->(∃ vs:Array Value,sv.den E= .tuple vs/\vs[0]? =some (.bool b))->Inv w wj→
       rk P cx rest (Nat ⊕ Bool) K_ K (((LX W ZJ).set 25 sv).set 26 (.N1 b)) []=some y→
       (∀ (E' :Env) (fr' :List SV) (a' :Act) (w' :World),St (cfN cx.tb G wj) E' fr' [] a' w' ->Ext VW E2 ZJ [] E' fr' []->a'.eval (.tmp 24)= .pointer (some ⟨B,0,none⟩)->∀ e,K e fr' []=some y->Exit.then (Code.rounds P (.seq (.region i4 #[o3,o4] false) rest) (Exit.inBlock K_ Q') m) (Exit.inBlock K_ Q') e a' w')→
       wpOps P #[o3,o4] (Exit.then (rest.wp P (Exit.then (Code.rounds P (.seq (.region i4 #[o3,o4] false) rest) (Exit.inBlock K_ Q') m) (Exit.inBlock K_ Q'))) (Exit.then (Code.rounds P (.seq (.region i4 #[o3,o4] false) rest) (Exit.inBlock K_ Q') m) (Exit.inBlock K_ Q'))) [1] (a.put o3.dst (sv.den E)) wj:=by
      intro sv b wj K y pF ⟨vs,hv1,hv2⟩ kL hrk hK
      rw[wpOps_cons,h3.2.1]
      have sm:Sim E ((LX W ZJ).set 25 sv) (a.put (some 25) (sv.den E)):=hst.q_.put (some 25) sv
      have A3Y:(a.put (some 25) (sv.den E)).eval (.tmp 25)= .tuple vs:=by
       rw[UO sm (.tmp 25)]
       show (((LX W ZJ).set 25 sv).getD 25 AV).den E=_
       rw[EZ,AB ⟨rfl,by omega⟩];exact hv1
      refine uS (o:=o4) rfl h4.2.2 (AQ7 h4.1 A3Y hv2 wj) ?_
      rw[h4.2.1]
      have sm' :Sim E (((LX W ZJ).set 25 sv).set 26 (.N1 b)) ((a.put (some 25) (sv.den E)).put (some 26) (.bool b)):=sm.put (some 26) (.N1 b)
      have wf' :uA E [] (((LX W ZJ).set 25 sv).set 26 (.N1 b)):=by
       intro k
       rw[EZ,EZ]
       split
       ·exact .inl trivial
       ·split
        ·exact .inl pF
        ·exact hst.wf k
      have st' :St (cfN cx.tb G wj) E (((LX W ZJ).set 25 sv).set 26 (.N1 b)) [] ((a.put (some 25) (sv.den E)).put (some 26) (.bool b)) wj:=⟨sm',hold wj kL E,wf'⟩
      have A3Z:((a.put (some 25) (sv.den E)).put (some 26) (.bool b)).eval (.tmp 24)= .pointer (some ⟨B,0,none⟩):=by
       rw[UO sm' (.tmp 24)]
       show ((((LX W ZJ).set 25 sv).set 26 (.N1 b)).getD 24 AV).den E=_
       rw[EZ,AD (by omega),EZ,AD (by omega),←he,UO hst.q_ (.tmp 24)]
       rfl
      refine wp_mono (AEE hcx rest (Nat ⊕ Bool) K_ K _ [] y hrk (cfN cx.tb G wj) E _ wj st') ?_
      rintro e a' w' ⟨E',fr',L',s1,s2,s3⟩
      obtain rfl:=uQ s2.rA
      refine hK E' fr' a' w' s1 ((LV.trans (AQ8 v25 v26 _ _)).trans (s2.mono A16)) ?_ e s3
      rw[UO s1.q_ (.tmp 24)]
      show (fr'.getD 24 AV).den E' =_
      have u24:(((LX W ZJ).set 25 sv).set 26 (.N1 b)).getD 24 AV= .nF 24:=by
       rw[EZ,AD (by omega),EZ,AD (by omega),AQ9 H9 g24 (by omega)]
      rw[s2.out 24 AW6,u24]
      show E'.ds 24=_
      rw[s2.ds 24 AW6]
      have:=UO sm' (.tmp 24)
      rw[A3Z] at this
      have h5:(ev (((LX W ZJ).set 25 sv).set 26 (.N1 b)) (.tmp 24))= .nF 24:=u24
      rw[h5] at this
      exact this.symm
     have AQA:∀ (c:DW cx.tb) (E' :Env) (fr' :List SV) (a' :Act) (w' :World),St c E' fr' [] a' w' ->Inv w w' ->AQ6 P cx tail fr' =some r->tail.wp P Q a' w' :=by
      intro c E' fr' a' w' s1 s2 s3
      have s1' :=s1.AQ4 (hold w' s2 E')
      refine wp_mono (AEE hcx tail Bool 1000000 _ _ [] r s3 (cfN cx.tb G w') E' _ w' s1') ?_
      rintro e a6 w6 ⟨E6,fr6,L6,q1,q2,q3⟩
      have q4:=s2.trans q1.inv
      cases e with
      |normal=>exact (fin _ _ _ _ _ _ q1 q4 q3).2
      |ret=>exact (fin _ _ _ _ _ _ q1 q4 q3).1
      |exit id=>cases q3
      |goto l=>cases q3
      |panic ch=>cases q3
      |outgrown=>cases q3
     by_cases hp:p<x.size
     ·obtain⟨wj,r1,r2,r3,r4,r5⟩:=n1 hp
      have kL:Inv w wj:=⟨hinv.1.trans r2,by have:=hinv.2.1;omega,fun b hb=>(r5 b (by omega)).trans (hinv.2.2 b hb)⟩
      refine uS (o:=o3) rfl h3.2.2 r1 ?_
      have hd:(SV.tup [.N1 true,.int .i64 (p:Int),.int .i32 ((Utf8.decode x p).1:Int)]).den E= .tuple #[.bool true,.int .i64 (p:Int),.int .i32 ((Utf8.decode x p).1:Int)]:=by simp [SV.den,AL]
      rw[<-hd]
      have common:∀ y,uR P cx rest tail W K_ (oA.set 23 (.str x)) x p=some y->(∀ s',y= .inl s' ->Q9 (uR P cx rest tail W K_ (oA.set 23 (.str x)) x) m s' =some r)->(∀ b,y= .inr b->b=r)->wpOps P #[o3,o4] (Exit.then (rest.wp P (Exit.then (Code.rounds P (.seq (.region i4 #[o3,o4] false) rest) (Exit.inBlock K_ Q') m) (Exit.inBlock K_ Q'))) (Exit.then (Code.rounds P (.seq (.region i4 #[o3,o4] false) rest) (Exit.inBlock K_ Q') m) (Exit.inBlock K_ Q'))) [1] (a.put o3.dst ((SV.tup [.N1 true,.int .i64 (p:Int),.int .i32 ((Utf8.decode x p).1:Int)]).den E)) wj:=by
       intro y hy hl rS
       unfold uR at hy
       rw[HF hp,←hhd] at hy
       refine after _ true wj _ y (by simp [SV.wf,K6]) ⟨_,hd,rfl⟩ kL hy ?_
       intro E' fr' a' w' s1 s2 s3 e hk
       have AEL:=kL.trans s1.inv
       have AYB :w'.heap[B]? =some (.stringIter x (p+(Utf8.decode x p).2)):=by
        rw[s1.inv.2.2 B (by rw[r3];exact hBi)];exact r4
       cases e with
       |normal=>
        simp only[AX] at hk
        obtain⟨E7,t1,t2⟩:=AED (BP:=AQ5 W) hW (holdsNil AEL hG ht E2) wf3 (s1.AQ4 (hold w' AEL E')) s2 (hpk fr')
        exact ih _ a' w' E7 (hl _ hk.symm) t1 t2 s3 AEL AYB
       |ret=>
        obtain⟨z,z1,z2⟩:=map_inr hk
        have:=(fin _ _ _ _ _ _ s1 AEL (by rw[z1,rS z z2])).1
        subst hQ'
        exact this
       |exit id=>
        simp only at hk
        split at hk
        ·rename_i hid
         obtain⟨z,z1,z2⟩:=map_inr hk
         subst hQ'
         simp only[Exit.then,Exit.inBlock]
         rw[AB hid]
         exact AQA _ E' fr' a' w' s1 AEL (by rw[z1,rS z z2])
        ·cases hk
       |goto l=>cases hk
       |panic ch=>cases hk
       |outgrown=>cases hk
      split at hm
      ·cases hm
      ·rename_i s' uB
       exact common _ uB (fun s'' h=>by cases h;exact hm) (fun b h=>by cases h)
      ·rename_i b uB
       simp only[AX] at hm
       exact common _ uB (fun s'' h=>by cases h) (fun b' h=>by cases h;exact hm)
     ·refine uS (o:=o3) rfl h3.2.2 (n2 hp) ?_
      have hd:(SV.tup [.N1 false]).den E= .tuple #[.bool false]:=by simp [SV.den,AL]
      rw[<-hd]
      have common:∀ y,uR P cx rest tail W K_ (oA.set 23 (.str x)) x p=some y->(∀ b,y= .inr b->b=r)->wpOps P #[o3,o4] (Exit.then (rest.wp P (Exit.then (Code.rounds P (.seq (.region i4 #[o3,o4] false) rest) (Exit.inBlock K_ Q') m) (Exit.inBlock K_ Q'))) (Exit.then (Code.rounds P (.seq (.region i4 #[o3,o4] false) rest) (Exit.inBlock K_ Q') m) (Exit.inBlock K_ Q'))) [1] (a.put o3.dst ((SV.tup [.N1 false]).den E)) wi:=by
       intro y hy rS
       unfold uR at hy
       rw[QB hp,←hhd] at hy
       refine after _ false wi _ y (by simp [SV.wf,K6]) ⟨_,hd,rfl⟩ hinv hy ?_
       intro E' fr' a' w' s1 s2 s3 e hk
       have AEL:=hinv.trans s1.inv
       cases e with
       |ret=>
        obtain⟨z,z1,z2⟩:=map_inr hk
        have:=(fin _ _ _ _ _ _ s1 AEL (by rw[z1,rS z z2])).1
        subst hQ'
        exact this
       |exit id=>
        simp only at hk
        split at hk
        ·rename_i hid
         obtain⟨z,z1,z2⟩:=map_inr hk
         subst hQ'
         simp only[Exit.then,Exit.inBlock]
         rw[AB hid]
         exact AQA _ E' fr' a' w' s1 AEL (by rw[z1,rS z z2])
        ·cases hk
       |normal=>cases hk
       |goto l=>cases hk
       |panic ch=>cases hk
       |outgrown=>cases hk
      split at hm
      ·cases hm
      ·rename_i s' uB
       exact common _ uB (fun b h=>by cases h)
      ·rename_i b uB
       simp only[AX] at hm
       exact common _ uB (fun b' h=>by cases h;exact hm)
   exact wp_block (wp_loop_rounds m (loop m 0 a3 w3 E4 hm st4 A3X he3 AYA hit))
  |exit id=>cases k2
  |goto l=>cases k2
  |panic ch=>cases k2
  |outgrown=>cases k2
 |ret=>cases k1
 |exit id=>cases k1
 |goto l=>cases k1
 |panic ch=>cases k1
 |outgrown=>cases k1
end Go.V3
namespace Go.V3
open Go
theorem AE {e:Int} (h1: -9223372036854775808<=e) (h2:e<=9223372036854775807):AG e=e:=InK.wrap (k:= .i64) (show I64 e from ⟨h1,h2⟩)
theorem QK {σ β:Type} {f:σ->Option (σ ⊕ β)} (I:Nat->σ->Prop) (Q:β->Prop)
  (hs:∀ n s,I n s->(∃ b,f s=some (.inr b)/\Q b)\/(∃ m s',m<n/\f s=some (.inl s')/\I m s')):∀ n s,I n s->∃ b,AJ f s=some b/\Q b:=by
 intro n
 induction n using Nat.strongRecOn with
 |ind n ih=>
  intro s h
  rcases hs n s h with ⟨b,hb,hq⟩|⟨m,s',hm,hf,hi⟩
  ·exact⟨b,by rw[Q_,hb],hq⟩
  ·obtain⟨b,hb,hq⟩:=ih m hm s' hi
   exact⟨b,by rw[Q_,hf];exact hb,hq⟩
theorem KK {σ β:Type} {f:σ->Option (σ ⊕ β)} {b:β} (I:Nat->σ->Prop)
  (hs:∀ n s,I n s->f s=some (.inr b)\/(∃ m s',m<n/\f s=some (.inl s')/\I m s')) {n:Nat} {s:σ} (h:I n s):AJ f s=some b:=by
 obtain⟨c,h1,h2⟩:=QK I (fun c=>c=b) (fun n s h=>(hs n s h).imp (fun h=>⟨b,h,rfl⟩) id) n s h
 rw[h1,h2]
theorem AHQ (k:Nat) (hk:k<63) {a:Int} (h0:0<=a) (h1:a<=9223372036854775807):ACZ .and a (2 ^ k-1)=a%2 ^ k:=by
 obtain⟨n,rfl⟩:=AO1 h0
 have e1:((2:Int) ^ k-1)=((2 ^ k-1:Nat):Int):=by
  have:0<2 ^ k:=xR k
  have h2:((2 ^ k:Nat):Int)=(2:Int) ^ k:=by push_cast;rfl
  omega
 have hp:2 ^ k<=2 ^ 62:=AO6 (by omega) (by omega)
 have hp' :(2:Nat) ^ 62=4611686018427387904:=by decide
 have e2:(BitVec.ofInt 64 (n:Int) &&& BitVec.ofInt 64 ((2 ^ k-1:Nat):Int)).toNat=n%2 ^ k:=by
  rw[BitVec.toNat_and,ACN,ACN,AAB,AAB,o8 (by omega),o8 (by omega),ANU]
 unfold ACZ
 rw[e1]
 show IntKind.i64.wrap _=_
 rw[e2]
 have hl:n%2 ^ k<2 ^ k:=xV _ (xR k)
 have:=AE (e:=((n%2 ^ k:Nat):Int)) (by omega) (by omega)
 rw[AG] at this
 rw[this]
 push_cast
 rfl
theorem wK {α:Type} {xs:List α} {n:Nat} {v:α} (hl:xs.length=n) (h:∀ j,j<n->xs[j]? =some v):xs=List.replicate n v:=by
 apply VM
 intro j
 rw[sD]
 split
 ·rename_i hj;exact h j hj
 ·rename_i hj;exact T3 (by omega)
end Go.V3
namespace Go.Proofs.YtjbojdpdkikioaaGreatDoor
open Go Go.V3
def AQB:Array Value:=(([0,1,56,2,57,49,28,3,61,58,42,50,38,29,17,4,62,47,59,36,45,43,51,22,53,39,33,30,24,18,12,5,63,55,48,27,60,41,37,16,46,35,44,21,52,32,23,11,54,26,40,15,34,20,31,10,25,14,19,9,13,8,7,6]:List Int).map (Value.int .u8)).toArray
def oB:Tb:=[(0,AQB)]
abbrev AQC:Ty:= .slice .u64
abbrev A17:Ty:= .slice .bool
abbrev AY:Type:=Int×Int×Int
abbrev AYC:Ty:= .pair A17 AQC
abbrev NP:Type:=List (BitVec 64)
abbrev FV:Type:=(List Int)×Int
abbrev S0:Type:=Int×Bool×Int
abbrev JR:Type:=(List Int)×NP
abbrev AEM:Ty:= .slice (.int .i64)
abbrev A18:Ty:= .pair AEM AQC
abbrev A19:Ty:= .pair A17 AEM
abbrev XH:Type:=(List Bool)×NP
abbrev AU:Type:=Nat×Int×Int×Int
abbrev PV:Type:=Int×Int×Int×Int
abbrev BZ:Type:=Int×Int×(List Int)
abbrev A1A:Ty:= .pair (.int .i64) AEM
abbrev AW7:Ty:= .pair AEM (.int .i64)
abbrev AQD:Ty:= .pair (.int .i64) A1A
abbrev AQE:Ty:= .slice AQD
abbrev A1B:Ty:= .pair .bool (.int .i64)
abbrev AW8:Ty:= .pair (.int .i64) A1B
abbrev B1:Type:=Int×NP×(List AY)
abbrev AW9:Ty:= .pair (.slice A18) A19
abbrev AA:Type:=Int×Int×Int×Int×Int
abbrev ED:Type:=List (List AA)
abbrev pX:Type:=(List AA)×S0×Bool
abbrev AK5:Ty:= .pair (.int .i64) (.int .i64)
abbrev iN:Ty:= .pair (.int .i64) AK5
abbrev AWA:Ty:= .slice iN
abbrev A1C:Ty:= .pair AQC AWA
abbrev AWB:Ty:= .pair .QP iN
abbrev A1D:Ty:= .slice AWB
abbrev AK6:Ty:= .pair (.int .i64) iN
abbrev zF:Ty:= .pair (.int .i64) AK6
abbrev zG:Ty:= .slice zF
abbrev AQF:Ty:= .slice zG
abbrev AEN:Ty:= .pair (.int .i64) A1C
abbrev A1E:Ty:= .pair A1D (.int .i64)
abbrev AQG:Ty:= .pair .str A1E
abbrev A1F:Ty:= .pair (.int .i64) zF
abbrev A1G:Ty:= .pair (.int .i64) A1F
abbrev A1H:Ty:= .pair (.int .i64) A1G
abbrev A1I:Ty:= .pair (.int .i64) A1H
abbrev A1J:Ty:= .pair A1I .bool
abbrev A1K:Ty:= .pair (.int .i64) A1J
abbrev A1L:Ty:= .pair AYC A1K
abbrev A1M:Ty:= .pair AQE A1L
abbrev A1N:Ty:= .pair (.int .i64) A1M
abbrev A1O:Ty:= .pair AQF A1N
abbrev A1P:Ty:= .pair AEN A1O
abbrev AWC:Ty:= .pair AQG A1P
abbrev GP:Type:=ByteArray×(List AU)×Int
abbrev XI:Type:=(List AA)×S0×Bool×Int
abbrev LZ:Type:=(List JR)×(List Bool)×(List Int)
abbrev AWD:Ty:= .pair zF (.pair (.slice AK5) (.int .i64))
abbrev A1Q:Type:=Int×Int×Int×Int×Int×Int×Int×Int×Int
abbrev pY:Type:=B1×(List AA)×AA×(List (Int×Int))×Int
abbrev C7:Type:=GP×B1×ED×Int×(List BZ)×XH×Int×A1Q×Bool
abbrev AK7:Type:=AA×(List (Int×Int))×NP×Int×NP×(List AY)×(List AA)
abbrev AQ:CT:=⟨(.int .i64),false,false,false⟩
abbrev DF:CT:=⟨(.int .i64),false,true,false⟩
abbrev AHR:CT:=⟨(.pair (.int .i64) .u64),true,false,false⟩
abbrev AYD:CT:=⟨(.pair AEN (.pair zG AWD)),true,true,false⟩
abbrev A1R:CT:=⟨(.pair AEN (.pair zG AWD)),true,true,true⟩
abbrev lV:CT:=⟨.bool,false,false,false⟩
abbrev GX:CT:=⟨.bool,false,true,false⟩
abbrev AYE:CT:=⟨.QP,false,false,false⟩
abbrev AYF:CT:=⟨.str,false,false,false⟩
abbrev oC:CT:=⟨.u64,false,false,false⟩
abbrev zH:CT:=⟨.u64,false,true,false⟩
abbrev AQH:CT:=⟨AQC,false,false,false⟩
abbrev ZK:CT:=⟨AQC,false,true,false⟩
abbrev AK8:CT:=⟨AW7,true,false,false⟩
abbrev O2:CT:=⟨AW7,true,false,true⟩
abbrev zI:CT:=⟨AQE,false,false,false⟩
abbrev bY:CT:=⟨AQE,false,true,false⟩
abbrev iO:CT:=⟨AW8,true,false,false⟩
abbrev AQI:CT:=⟨AW8,true,true,false⟩
abbrev V_:CT:=⟨AW9,true,false,false⟩
abbrev AQJ:CT:=⟨AW9,true,true,false⟩
abbrev uT:CT:=⟨AWA,false,true,false⟩
abbrev uU:CT:=⟨AYC,true,false,false⟩
abbrev AK9:CT:=⟨AYC,true,true,false⟩
abbrev zJ:CT:=⟨AK6,true,false,false⟩
abbrev S_:CT:=⟨zF,true,false,false⟩
abbrev uV:CT:=⟨zF,true,true,false⟩
abbrev lW:CT:=⟨zG,false,false,false⟩
abbrev bZ:CT:=⟨zG,false,true,false⟩
abbrev KL:CT:=⟨AQF,false,false,false⟩
abbrev AEO:CT:=⟨AQF,false,true,false⟩
abbrev DX:CT:=⟨AEN,true,false,false⟩
abbrev ZL:CT:=⟨AEN,true,true,false⟩
abbrev UX:CT:=⟨AQG,true,false,false⟩
abbrev AKA:CT:=⟨AQG,true,true,false⟩
abbrev HW:CT:=⟨AWC,true,false,false⟩
abbrev WA:CT:=⟨AWC,true,true,false⟩
abbrev XJ:CT:=⟨AEM,false,false,false⟩
abbrev IB:CT:=⟨AEM,false,true,false⟩
def B3 (l b:List (Nat×CT)) (r:List (Nat×Ty)) (d o:List Nat) (n:Nat):ZU:={ live:=l,boxes:=b,rows:=r,dead:=d,lost:=o,base:=n }
def BL (a:List (Nat×Nat×Nat)) (b:List Nat) (c:List (Nat×FnI)) (d e:List (Nat×ZU)):Cx:={ nm:=a,CG:=b,fns:=AEG c,loops:=d,bN:=e,tb:=oB,exts:=[],lets:=[] }
@[reducible] noncomputable def BX (a b:List CT) (f:HT a->Option (HT (b++ []))):FnI:={ ps:=a,rs:=b,os:=[],bk:=[],F:=f }
def FA:List (Nat×Nat)->List Nat
 | []=>[]
 |q::r=>(List.range q.2).map (fun i=>q.1+i)++FA r
abbrev CV:=CallsV Tryz.prog oB
def EqV (i:FnI) (cx:Cx) (c:Code) (rvs:List ResultVar) (n N:Nat):Prop:=(fun x:HT i.ps=>i.F x)=fun x=>rk Tryz.prog cx c (HT (i.rs++i.os)) 1000000 (AU5 Tryz.prog rvs i.cl i.pin i.bk i.os (i.rs++i.os)) (AEF i.ps i.sh x n) (zA i.ps i.nR x N)
theorem okW {f : FuncId} {fn : Func} {i : FnI} (cx : Cx) (rvs : List ResultVar) (n N : Nat) (hcx : cx.Ok Tryz.prog) (hf : Tryz.prog.funcs[f]? = some fn) (hb : fn.body = some (fn.body.getD .skip) := by rfl) (hnm : (fn.name == "runtime.NumGoroutine") = false := by kernel_rfl) (hn : fn.ntmps = n := by rfl) (hres : fn.results = rvs.toArray := by rfl) (hps : ∀ x, (foldA i.sh (outSVs i.ps x 0)).length ≤ n := by exact fun x => Nat.le_of_ble_eq_true rfl) (hst : (rvs.length = i.rs.length ∧ i.os.all okO = true ∧ i.os.length = i.bk.length ∧ (i.bk.all fun j => decide (j < cnts i.ps)) = true ∧ (i.pin.all fun q => decide (q.2.2.1 < cnts i.ps)) = true ∧ shOk i N = true) := by decide) (he : EqV i cx (fn.body.getD .skip) rvs n N := by unfold EqV; kernel_rfl) : CallsV Tryz.prog cx.tb f i := callsV_of_rk hcx hf hb hnm hn hres hps hst fun x => congrFun he x
end Go.Proofs.YtjbojdpdkikioaaGreatDoor
namespace Go.V3
open Go
theorem AN {σ β:Type} {f:σ->Option (σ ⊕ β)} (I:Nat->σ->Prop) (Q:β->Prop) (n:Nat)
  (hs:∀ k s,k<n->I k s->(∃ s',f s=some (.inl s')/\I (k+1) s')\/(∃ b,f s=some (.inr b)/\Q b))
  (he:∀ s,I n s->∃ b,f s=some (.inr b)/\Q b) {s:σ} (h:I 0 s):∃ b,AJ f s=some b/\Q b:=by
 refine QK (fun m s=>m<=n/\I (n-m) s) Q ?_ n s ⟨EL _,by rw[ZB];exact h⟩
 rintro m s ⟨hm,hi⟩
 rcases ACO m with rfl|h0
 ·left;exact he s (by simpa using hi)
 ·rcases hs (n-m) s (by omega) hi with ⟨s',h1,h2⟩|h1
  ·right
   refine⟨m-1,s',by omega,h1,by omega, ?_⟩
   rw[show n-(m-1)=n-m+1 from by omega];exact h2
  ·left;exact h1
abbrev Fr:Type:=Int×Int×Int
abbrev frT:Ty:= .pair (.int .i64) (.pair (.int .i64) (.int .i64))
abbrev Sp:Type:=Int×List (BitVec 64)×List Fr
abbrev AH:Type:=Int×Int×Int×Int×Int
def fr (fs:List Fr) (i:Int):Fr:=gl (0,0,0) fs i.toNat
def nx (fs:List Fr) (i:Int):Int:=if 0<=i/\i<fs.length then (fr fs i).2.2 else -1
def sz (s:Int):Int:=2 ^ s.toNat
theorem CF (s:Int):0<sz s:=Int.pow_pos (by decide)
theorem AQK {s:Int} (h:3<=s/\s<=8):sz s=8\/sz s=16\/sz s=32\/sz s=64\/sz s=128\/sz s=256:=by
 have:s=3\/s=4\/s=5\/s=6\/s=7\/s=8:=by omega
 rcases this with rfl|rfl|rfl|rfl|rfl|rfl <;> decide
theorem OG {s:Int} (h:3<=s/\s<=8):8<=sz s/\sz s<=256:=by
 have:=AQK h;omega
theorem AYG {s:Int} (h:3<=s/\s<=8):min (BitVec.ofInt 64 s).toNat 64=s.toNat:=by
 have:s=3\/s=4\/s=5\/s=6\/s=7\/s=8:=by omega
 rcases this with rfl|rfl|rfl|rfl|rfl|rfl <;> rfl
theorem QL {s:Int} (h:3<=s/\s<=8):(2:Int) ^ min (BitVec.ofInt 64 s).toNat 64=sz s:=by rw[AYG h];rfl
theorem b6 {s i n:Int} (h:3<=s/\s<=8) (h0:0<=i) (h1:i<=n):0<=i*sz s/\i*sz s<=n*sz s:=by
 obtain⟨h2,h3⟩:=OG h
 exact⟨ACX h0 (by omega),ACE h1 (by omega)⟩
theorem MO {s n:Int} (h:3<=s/\s<=8) (h0:0<=n) {m:Int} (h1:n<=m):0<=n*sz s/\n*sz s<=m*256:=by
 obtain⟨h2,h3⟩:=OG h
 exact⟨ACX h0 (by omega),Int.mul_le_mul h1 h3 (by omega) (by omega)⟩
theorem IS (i s:Int):(i+1)*sz s=i*sz s+sz s:=by rw[sV,sW]
theorem CK {α:Type} {d:α} {xs:List α} {k:Nat} (h:k<xs.length):gl d xs k=xs[k]:=by
 unfold gl;simp [List.getD,h]
theorem AUB {α:Type} {d:α} {xs:List α} {k:Nat} (h:k<xs.length):xs[k]? =some (gl d xs k):=by
 rw[CK h];exact NH h
theorem D8 {α:Type} {d:α} {xs:List α} {k j:Nat} {x:α} (h:j<xs.length):gl d (xs.set j x) k=if k=j then x else gl d xs k:=by
 unfold gl
 simp only[sC,sH]
 by_cases hk:j=k
 ·subst hk;simp [h]
 ·rw[AD hk,AD (fun e=>hk e.symm)]
theorem YJ {α:Type} {d:α} {xs ys:List α} {k:Nat} (h:k<xs.length):gl d (xs++ys) k=gl d xs k:=by
 unfold gl
 rw[sC,sC,VI h]
theorem S1 {α:Type} {d:α} {n i:Nat} {v:α} (h:i<n):gl d (List.replicate n v) i=v:=by
 unfold gl;simp [List.getD,h]
theorem WM {fs:List Fr} {i j:Int} {x:Fr} (h0:0<=j) (h1:j<fs.length) (hi:0<=i):fr (fs.set j.toNat x) i=if i=j then x else fr fs i:=by
 unfold fr
 rw[D8 (by omega)]
 by_cases h:i=j
 ·subst h;simp
 ·rw[AD h,AD (by omega)]
theorem IC {fs:List Fr} {i:Int} (h0:0<=i) (h1:i<fs.length):nx fs i=(fr fs i).2.2:=by
 unfold nx;rw[AB ⟨h0,h1⟩]
theorem AYH (fs:List Fr):nx fs (-1)= -1:=by unfold nx;rw[AD (by omega)]
def Pa (fs:List Fr):Int->List Int->Prop
 |i,[]=>i= -1
 |i,a::r=>i=a/\0<=a/\a<fs.length/\Pa fs (nx fs a) r
theorem Pa.fn {fs:List Fr}:∀ {l l' :List Int} {i:Int},Pa fs i l->Pa fs i l' ->l=l'
 | [],[],_,_,_=>rfl
 | [],a::r,i,h,h' =>by obtain⟨rfl,h0,_⟩:=h';rw[Pa] at h;omega
 |a::r,[],i,h,h' =>by obtain⟨rfl,h0,_⟩:=h;rw[Pa] at h';omega
 |a::r,b::r',i,h,h' =>by
  obtain⟨rfl,_,_,h1⟩:=h
  obtain⟨rfl,_,_,h2⟩:=h'
  rw[Pa.fn h1 h2]
theorem Pa.mem {fs:List Fr}:∀ {l:List Int} {i x:Int},Pa fs i l->x∈l->0<=x/\x<fs.length
 | [],_,_,_,hx=>by cases hx
 |a::r,i,x,h,hx=>by
  obtain⟨rfl,h0,h1,h2⟩:=h
  rcases GD.1 hx with rfl|hx
  ·exact⟨h0,h1⟩
  ·exact h2.mem hx
theorem Pa.drop {fs:List Fr}:∀ {l:List Int} {i:Int} (k:Nat),Pa fs i l->(hk:k<l.length)->Pa fs l[k] (l.drop k)
 | [],_,k,_,hk=>by simp at hk
 |a::r,i,0,h,_=>by
  obtain⟨rfl,h0,h1,h2⟩:=h
  exact⟨rfl,h0,h1,h2⟩
 |a::r,i,k+1,h,hk=>by
  obtain⟨rfl,h0,h1,h2⟩:=h
  simp only[List.getElem_cons_succ,List.drop_succ_cons]
  exact h2.drop k (by simpa using hk)
theorem Pa.nodup {fs:List Fr}:∀ {l:List Int} {i:Int},Pa fs i l->l.Nodup
 | [],_,_=>fL
 |a::r,i,h=>by
  have h' :=h
  obtain⟨rfl,h0,h1,h2⟩:=h
  refine UM.2 ⟨fun hm=> ?_,h2.nodup⟩
  obtain⟨k,hk,he⟩:=fJ hm
  have h3:=h2.drop k hk
  rw[he] at h3
  have:=MS List.length (h'.fn h3)
  simp at this
  omega
theorem RA:∀ (n:Nat) (l:List Int),l.Nodup->(∀ x∈l,0<=x/\x<n)->l.length<=n
 |0,l,_,h=>by
  cases l with
  |nil=>simp
  |cons a r=>have:=h a (by simp);omega
 |n+1,l,hd,h=>by
  have h1:=RA n (l.erase (n:Int)) (hd.erase _) (fun x hx=>by
   have h2:=(hd.mem_erase_iff).1 hx
   have:=h x h2.2
   have:=h2.1
   omega)
  rw[List.length_erase] at h1
  split at h1 <;> omega
theorem Pa.length {fs:List Fr} {l:List Int} {i:Int} (h:Pa fs i l):l.length<=fs.length:=
 RA _ _ h.nodup fun x hx=>h.mem hx
def oD (fs:List Fr):Nat->Int->Int
 |0,i=>i
 |k+1,i=>nx fs (oD fs k i)
theorem zK (fs:List Fr) (k:Nat) (i:Int):oD fs (k+1) i=oD fs k (nx fs i):=by
 induction k with
 |zero=>rfl
 |succ k ih=>rw[oD,ih];rfl
theorem AB7 (fs:List Fr) (k:Nat):oD fs k (-1)= -1:=by
 induction k with
 |zero=>rfl
 |succ k ih=>rw[oD,ih,AYH]
theorem rU (fs:List Fr) (a b:Nat) (i:Int):oD fs (a+b) i=oD fs b (oD fs a i):=by
 induction b with
 |zero=>rfl
 |succ b ih=>rw[<-N0,oD,ih];rfl
def Rng (fs:List Fr):Prop:=∀ i:Int,0<=i->i<fs.length→-1<=nx fs i/\nx fs i<fs.length
theorem Pa.AB8 {fs:List Fr} (hr:Rng fs):∀ (k:Nat) (i:Int), -1<=i->i<fs.length->oD fs k i= -1->∃ l,Pa fs i l
 |0,i,_,_,h=>⟨[],h⟩
 |k+1,i,h0,h1,h=>by
  by_cases hi:i= -1
  ·exact⟨[],hi⟩
  ·rw[zK] at h
   obtain⟨l,hl⟩:=Pa.AB8 hr k (nx fs i) (hr i (by omega) h1).1 (hr i (by omega) h1).2 h
   exact⟨i::l,rfl,by omega,h1,hl⟩
theorem Pa.ends {fs:List Fr}:∀ {l:List Int} {i:Int},Pa fs i l->∀ m,l.length<=m->oD fs m i= -1
 | [],i,h,m,_=>by rw[Pa] at h;rw[h,AB7]
 |a::r,i,h,m,hm=>by
  obtain⟨rfl,_,_,h2⟩:=h
  obtain⟨m,rfl⟩:∃ k,m=k+1:=⟨m-1,by simp at hm;omega⟩
  rw[zK]
  exact h2.ends m (by simpa using hm)
theorem AYI:∀ (n:Nat) (f:Nat->Int),(∀ k,k<=n->0<=f k/\f k<n)->∃ a b,a<b/\b<=n/\f a=f b:=by
 intro n f h
 have hd:¬((List.range (n+1)).map f).Nodup:=fun hd=>by
  have:=RA n _ hd (fun x hx=>by
   obtain⟨k,hk,rfl⟩:=C6.1 hx
   exact h k (by have:=i_.1 hk;omega))
  simp at this
  omega
 rw[List.nodup_iff_pairwise_ne,AA3] at hd
 simp only[QY,List.length_range,sI,List.getElem_range,Classical.not_forall] at hd
 obtain⟨a,b,ha,hb,yJ,he⟩:=hd
 exact⟨a,b,yJ,by omega,by simpa using he⟩
theorem Pa.AEP {fs:List Fr} (hr:Rng fs) (h:∀ i:Int,0<=i->i<fs.length->∀ k:Nat,1<=k->k<=fs.length->oD fs k i≠i) (i:Int) (h0:0<=i) (h1:i<fs.length):∃ l,Pa fs i l:=by
 refine Pa.AB8 hr (fs.length) i (by omega) h1 ?_
 apply vV
 intro hn
 have OE:∀ k,k<=fs.length->0<=oD fs k i/\oD fs k i<fs.length:=by
  intro k
  induction k with
  |zero=>exact fun _=>⟨h0,h1⟩
  |succ k ih=>
   intro hk
   obtain⟨h2,h3⟩:=ih (by omega)
   have h4:=hr _ h2 h3
   refine⟨?_,h4.2⟩
   have h5:oD fs (k+1) i≠-1:=by
    intro h6
    obtain⟨d,hd⟩:=AIM hk
    rw[hd,rU,h6,AB7] at hn
    exact hn rfl
   rw[oD] at h5 ⊢
   omega
 obtain⟨a,b,yJ,hb,he⟩:=AYI fs.length (fun k=>oD fs k i) OE
 obtain⟨d,rfl⟩:=AIM (Nat.le_of_lt yJ)
 simp only[rU] at he
 obtain⟨h2,h3⟩:=OE a (by omega)
 exact h _ h2 h3 d (by omega) (by omega) he.symm
theorem Pa.AQL {fs:List Fr} {l:List Int} {i:Int} (h:Pa fs i l) (h0:0<=i) (k:Nat) (hk:1<=k):oD fs k i≠i:=by
 intro he
 have hm:∀ m:Nat,oD fs (m*k) i=i:=by
  intro m
  induction m with
  |zero=>rw[xS];rfl
  |succ m ih=>rw[Nat.succ_mul,rU,ih,he]
 have h1:=h.ends (l.length*k) (Nat.le_mul_of_pos_right _ hk)
 rw[hm] at h1
 omega
def Stamped (f:Fr):Prop:=0<=f.1/\f.1<=4294967295/\∃ b:Int,0<=b/\b<4/\f.2.1=f.1+b*4294967296
def AMR (f:Fr):Prop:=f=(-1, -1, -1)
def Zero (s:Sp) (i:Int):Prop:=∀ a:Nat,i*sz s.1<=a->(a:Int)<(i+1)*sz s.1->gl 0#64 s.2.1 a=0#64
def YK (fs:List Fr) (i:Int):Prop:=
 Stamped (fr fs i)∧-1<=(fr fs i).2.2/\(fr fs i).2.2<fs.length/\(fr fs i).2.2≠i/\((fr fs i).2.2≠-1->(fr fs (fr fs i).2.2).1=(fr fs i).1/\(fr fs (fr fs i).2.2).2.1=(fr fs i).2.1)
def AUC (s:Sp) (i:Int):Prop:=(AMR (fr s.2.2 i)/\Zero s i)\/YK s.2.2 i
structure VS (s:Sp):Prop where
 sh:3<=s.1/\s.1<=8
 n:2<=s.2.2.length/\s.2.2.length<=64
 w:(s.2.1.length:Int)=s.2.2.length*sz s.1
 fr:∀ i:Int,0<=i->i<s.2.2.length->AUC s i
 inj:∀ i j:Int,0<=i->i<s.2.2.length->0<=j->j<s.2.2.length->nx s.2.2 i=nx s.2.2 j->nx s.2.2 i≠-1->i=j
 acy:∀ i:Int,0<=i->i<s.2.2.length->∃ l,Pa s.2.2 i l
theorem AEQ (x:BitVec 64) (n:Nat):(x >>> n) &&& 1#64=1#64↔x.getLsbD n=true:=by
 constructor
 ·intro h
  have:=MS (fun v=>v.getLsbD 0) h
  simpa using this
 ·intro h
  apply AIN
  intro i hi
  simp only[AOF,BitVec.getLsbD_ushiftRight,BitVec.getLsbD_one]
  by_cases h0:i=0
  ·subst h0;simp [h]
  ·simp [h0]
theorem AKB (x:BitVec 64) {m:Nat} (j:Nat) (hm:m<64):(x|||(1#64 <<< m)).getLsbD j=(x.getLsbD j||decide (m=j)):=by
 simp only[BitVec.getLsbD_or,BitVec.getLsbD_shiftLeft,BitVec.getLsbD_one]
 congr 1
 rw[ZP]
 simp
 omega
theorem zL {i:Int} (h0:0<=i) (h1:i<64):(BitVec.ofInt 64 i).toNat=i.toNat:=by
 rw[sG]
 congr 1
 exact AIX h0 (by omega)
theorem AKC {α:Type} {d:α} {xs:List α} {lo n j:Nat} (h:j<n):gl d (B5 xs lo n) j=gl d xs (lo+j):=by
 unfold gl B5
 simp only[sC,kQ,aX]
 rw[AB h]
theorem AER {α:Type} {xs:List α} {lo n:Nat} (h:lo+n<=xs.length):(B5 xs lo n).length=n:=by
 unfold B5;simp;omega
end Go.V3
set_option maxRecDepth 100000
namespace Go.Proofs.YtjbojdpdkikioaaGreatDoor
open Go Go.V3
noncomputable section
def CN (a0:Int) (a1:Int):Option Int:=
if ¬a1=0 then
if (Int.tmod a0 a1)<0 then
some (AG ((Int.tmod a0 a1)+a1))
else some (Int.tmod a0 a1)
else none
@[reducible] def LA:FnI:=BX [AQ,AQ] [DF] fun x=>CN x.1 x.2
def lX:Cx:=BL [] [] [] [] []
theorem N2:CV 10 LA:=okW lX [.tmp 4] 15 0 (BG AM.nil BD.nil) Tryz.func10
def JO (a0:(List Int)):Option FV:=
some ((a0,0))
@[reducible] def O3:FnI:=BX [XJ] [O2] fun x=>JO x
def lY:Cx:=BL [(5,(1,1))] [] [] [] []
theorem UY:CV 9 O3:=okW lY [.tmp 2] 6 1 (BG AM.nil BD.nil) Tryz.func9
def FK (a0:Int):Option Bool:=
if a0≥3 then
some (decide (a0<=8))
else some (false)
@[reducible] def ID:FnI:=BX [AQ] [GX] fun x=>FK x
def b7:Cx:=BL [] [] [] [] []
theorem KW:CV 66 ID:=okW b7 [.tmp 2] 9 0 (BG AM.nil BD.nil) Tryz.func66
def DS (a0:AY):Option Bool:=
if a0.1<0 then
some (false)
else if a0.1>4294967295 then
some (false)
else AJ (σ:=Int) (β:=Bool) (fun s1=>
if s1<4 then
if a0.2.1=(AG (a0.1+(AG (s1*4294967296)))) then
some (Sum.inr (true))
else some (Sum.inl (AG (s1+1)))
else some (Sum.inr (false))) (0)
@[reducible] def O4:FnI:=BX [⟨iN,true,false,false⟩] [GX] fun x=>DS x
def YL:Cx:=BL [(1,(0,1))] [] [] [(0,B3 [(3,AQ)] [] [] (FA [(2,1),(12,12)]) [] 1)] []
theorem XK:CV 94 O4:=okW YL [.tmp 2] 24 1 (BG AM.nil BD.nil) Tryz.func94
def DO (a0:B1):Option Bool:=
Option.bind (FK a0.1) (fun r1=>
if (!r1)=true then
some (false)
else if (a0.2.2.length:Int)<2 then
some (false)
else if (a0.2.2.length:Int)>64 then
some (false)
else if True then
if ¬(a0.2.1.length:Int)=(AG ((a0.2.2.length:Int)*2 ^ min (BitVec.ofInt 64 a0.1).toNat 64)) then
some (false)
else AJ (σ:=(Int×(List Int))) (β:=Bool) (fun s1=>
if s1.1<(a0.2.2.length:Int) then
if 0<=s1.1/\s1.1<(a0.2.2.length:Int) then
if ((gl ((0,0,0):AY) a0.2.2 s1.1.toNat).1)=(-1) then
if (((gl ((0,0,0):AY) a0.2.2 s1.1.toNat).2).1)=(-1) then
if (((gl ((0,0,0):AY) a0.2.2 s1.1.toNat).2).2)=(-1) then
if True then
AJ (σ:=Int) (β:=((Int×(List Int)) ⊕ Bool)) (fun s2=>
if True then
if s2<(AG ((AG (s1.1+1))*2 ^ min (BitVec.ofInt 64 a0.1).toNat 64)) then
if 0<=s2/\s2<(a0.2.1.length:Int) then
if ¬(gl (0#64:(BitVec 64)) a0.2.1 s2.toNat)=(0#64) then
some (Sum.inr (Sum.inr (false)))
else some (Sum.inl (AG (s2+1)))
else none
else some (Sum.inr (Sum.inl ((AG (s1.1+1),s1.2))))
else none) (AG (s1.1*2 ^ min (BitVec.ofInt 64 a0.1).toNat 64))
else none
else Option.bind (DS ((gl ((0,0,0):AY) a0.2.2 s1.1.toNat).1,((gl ((0,0,0):AY) a0.2.2 s1.1.toNat).2))) (fun r2=>
if (!r2)=true then
some (Sum.inr (false))
else if (((gl ((0,0,0):AY) a0.2.2 s1.1.toNat).2).2)<(-1) then
some (Sum.inr (false))
else if (((gl ((0,0,0):AY) a0.2.2 s1.1.toNat).2).2)≥(a0.2.2.length:Int) then
some (Sum.inr (false))
else if (((gl ((0,0,0):AY) a0.2.2 s1.1.toNat).2).2)=s1.1 then
some (Sum.inr (false))
else if (((gl ((0,0,0):AY) a0.2.2 s1.1.toNat).2).2)=(-1) then
some (Sum.inl ((AG (s1.1+1),s1.2)))
else if 0<=(((gl ((0,0,0):AY) a0.2.2 s1.1.toNat).2).2)/\(((gl ((0,0,0):AY) a0.2.2 s1.1.toNat).2).2)<(a0.2.2.length:Int) then
if (0<=(((gl ((0,0,0):AY) a0.2.2 s1.1.toNat).2).2)/\(((gl ((0,0,0):AY) a0.2.2 s1.1.toNat).2).2)<((64:Nat):Int))/\(((gl ((0,0,0):AY) a0.2.2 s1.1.toNat).2).2)<(s1.2.length:Int) then
if (0<=(((gl ((0,0,0):AY) a0.2.2 s1.1.toNat).2).2)/\(((gl ((0,0,0):AY) a0.2.2 s1.1.toNat).2).2)<((64:Nat):Int))/\(((gl ((0,0,0):AY) a0.2.2 s1.1.toNat).2).2)<(s1.2.length:Int) then
if ¬((gl ((0,0,0):AY) a0.2.2 ((((gl ((0,0,0):AY) a0.2.2 s1.1.toNat).2).2).toNat)).1)=((gl ((0,0,0):AY) a0.2.2 s1.1.toNat).1) then
some (Sum.inr (false))
else if ¬(((gl ((0,0,0):AY) a0.2.2 ((((gl ((0,0,0):AY) a0.2.2 s1.1.toNat).2).2).toNat)).2).1)=(((gl ((0,0,0):AY) a0.2.2 s1.1.toNat).2).1) then
some (Sum.inr (false))
else if (0<=(((gl ((0,0,0):AY) a0.2.2 s1.1.toNat).2).2)/\(((gl ((0,0,0):AY) a0.2.2 s1.1.toNat).2).2)<((64:Nat):Int))/\(((gl ((0,0,0):AY) a0.2.2 s1.1.toNat).2).2)<((s1.2.set ((((gl ((0,0,0):AY) a0.2.2 s1.1.toNat).2).2).toNat) (AG ((gl (0:Int) s1.2 ((((gl ((0,0,0):AY) a0.2.2 s1.1.toNat).2).2).toNat))+1))).length:Int) then
if (gl (0:Int) (s1.2.set ((((gl ((0,0,0):AY) a0.2.2 s1.1.toNat).2).2).toNat) (AG ((gl (0:Int) s1.2 ((((gl ((0,0,0):AY) a0.2.2 s1.1.toNat).2).2).toNat))+1))) ((((gl ((0,0,0):AY) a0.2.2 s1.1.toNat).2).2).toNat))>1 then
some (Sum.inr (false))
else some (Sum.inl ((AG (s1.1+1),s1.2.set ((((gl ((0,0,0):AY) a0.2.2 s1.1.toNat).2).2).toNat) (AG ((gl (0:Int) s1.2 ((((gl ((0,0,0):AY) a0.2.2 s1.1.toNat).2).2).toNat))+1)))))
else none
else none
else none
else none)
else Option.bind (DS ((gl ((0,0,0):AY) a0.2.2 s1.1.toNat).1,((gl ((0,0,0):AY) a0.2.2 s1.1.toNat).2))) (fun r3=>
if (!r3)=true then
some (Sum.inr (false))
else if (((gl ((0,0,0):AY) a0.2.2 s1.1.toNat).2).2)<(-1) then
some (Sum.inr (false))
else if (((gl ((0,0,0):AY) a0.2.2 s1.1.toNat).2).2)≥(a0.2.2.length:Int) then
some (Sum.inr (false))
else if (((gl ((0,0,0):AY) a0.2.2 s1.1.toNat).2).2)=s1.1 then
some (Sum.inr (false))
else if (((gl ((0,0,0):AY) a0.2.2 s1.1.toNat).2).2)=(-1) then
some (Sum.inl ((AG (s1.1+1),s1.2)))
else if 0<=(((gl ((0,0,0):AY) a0.2.2 s1.1.toNat).2).2)/\(((gl ((0,0,0):AY) a0.2.2 s1.1.toNat).2).2)<(a0.2.2.length:Int) then
if (0<=(((gl ((0,0,0):AY) a0.2.2 s1.1.toNat).2).2)/\(((gl ((0,0,0):AY) a0.2.2 s1.1.toNat).2).2)<((64:Nat):Int))/\(((gl ((0,0,0):AY) a0.2.2 s1.1.toNat).2).2)<(s1.2.length:Int) then
if (0<=(((gl ((0,0,0):AY) a0.2.2 s1.1.toNat).2).2)/\(((gl ((0,0,0):AY) a0.2.2 s1.1.toNat).2).2)<((64:Nat):Int))/\(((gl ((0,0,0):AY) a0.2.2 s1.1.toNat).2).2)<(s1.2.length:Int) then
if ¬((gl ((0,0,0):AY) a0.2.2 ((((gl ((0,0,0):AY) a0.2.2 s1.1.toNat).2).2).toNat)).1)=((gl ((0,0,0):AY) a0.2.2 s1.1.toNat).1) then
some (Sum.inr (false))
else if ¬(((gl ((0,0,0):AY) a0.2.2 ((((gl ((0,0,0):AY) a0.2.2 s1.1.toNat).2).2).toNat)).2).1)=(((gl ((0,0,0):AY) a0.2.2 s1.1.toNat).2).1) then
some (Sum.inr (false))
else if (0<=(((gl ((0,0,0):AY) a0.2.2 s1.1.toNat).2).2)/\(((gl ((0,0,0):AY) a0.2.2 s1.1.toNat).2).2)<((64:Nat):Int))/\(((gl ((0,0,0):AY) a0.2.2 s1.1.toNat).2).2)<((s1.2.set ((((gl ((0,0,0):AY) a0.2.2 s1.1.toNat).2).2).toNat) (AG ((gl (0:Int) s1.2 ((((gl ((0,0,0):AY) a0.2.2 s1.1.toNat).2).2).toNat))+1))).length:Int) then
if (gl (0:Int) (s1.2.set ((((gl ((0,0,0):AY) a0.2.2 s1.1.toNat).2).2).toNat) (AG ((gl (0:Int) s1.2 ((((gl ((0,0,0):AY) a0.2.2 s1.1.toNat).2).2).toNat))+1))) ((((gl ((0,0,0):AY) a0.2.2 s1.1.toNat).2).2).toNat))>1 then
some (Sum.inr (false))
else some (Sum.inl ((AG (s1.1+1),s1.2.set ((((gl ((0,0,0):AY) a0.2.2 s1.1.toNat).2).2).toNat) (AG ((gl (0:Int) s1.2 ((((gl ((0,0,0):AY) a0.2.2 s1.1.toNat).2).2).toNat))+1)))))
else none
else none
else none
else none)
else Option.bind (DS ((gl ((0,0,0):AY) a0.2.2 s1.1.toNat).1,((gl ((0,0,0):AY) a0.2.2 s1.1.toNat).2))) (fun r4=>
if (!r4)=true then
some (Sum.inr (false))
else if (((gl ((0,0,0):AY) a0.2.2 s1.1.toNat).2).2)<(-1) then
some (Sum.inr (false))
else if (((gl ((0,0,0):AY) a0.2.2 s1.1.toNat).2).2)≥(a0.2.2.length:Int) then
some (Sum.inr (false))
else if (((gl ((0,0,0):AY) a0.2.2 s1.1.toNat).2).2)=s1.1 then
some (Sum.inr (false))
else if (((gl ((0,0,0):AY) a0.2.2 s1.1.toNat).2).2)=(-1) then
some (Sum.inl ((AG (s1.1+1),s1.2)))
else if 0<=(((gl ((0,0,0):AY) a0.2.2 s1.1.toNat).2).2)/\(((gl ((0,0,0):AY) a0.2.2 s1.1.toNat).2).2)<(a0.2.2.length:Int) then
if (0<=(((gl ((0,0,0):AY) a0.2.2 s1.1.toNat).2).2)/\(((gl ((0,0,0):AY) a0.2.2 s1.1.toNat).2).2)<((64:Nat):Int))/\(((gl ((0,0,0):AY) a0.2.2 s1.1.toNat).2).2)<(s1.2.length:Int) then
if (0<=(((gl ((0,0,0):AY) a0.2.2 s1.1.toNat).2).2)/\(((gl ((0,0,0):AY) a0.2.2 s1.1.toNat).2).2)<((64:Nat):Int))/\(((gl ((0,0,0):AY) a0.2.2 s1.1.toNat).2).2)<(s1.2.length:Int) then
if ¬((gl ((0,0,0):AY) a0.2.2 ((((gl ((0,0,0):AY) a0.2.2 s1.1.toNat).2).2).toNat)).1)=((gl ((0,0,0):AY) a0.2.2 s1.1.toNat).1) then
some (Sum.inr (false))
else if ¬(((gl ((0,0,0):AY) a0.2.2 ((((gl ((0,0,0):AY) a0.2.2 s1.1.toNat).2).2).toNat)).2).1)=(((gl ((0,0,0):AY) a0.2.2 s1.1.toNat).2).1) then
some (Sum.inr (false))
else if (0<=(((gl ((0,0,0):AY) a0.2.2 s1.1.toNat).2).2)/\(((gl ((0,0,0):AY) a0.2.2 s1.1.toNat).2).2)<((64:Nat):Int))/\(((gl ((0,0,0):AY) a0.2.2 s1.1.toNat).2).2)<((s1.2.set ((((gl ((0,0,0):AY) a0.2.2 s1.1.toNat).2).2).toNat) (AG ((gl (0:Int) s1.2 ((((gl ((0,0,0):AY) a0.2.2 s1.1.toNat).2).2).toNat))+1))).length:Int) then
if (gl (0:Int) (s1.2.set ((((gl ((0,0,0):AY) a0.2.2 s1.1.toNat).2).2).toNat) (AG ((gl (0:Int) s1.2 ((((gl ((0,0,0):AY) a0.2.2 s1.1.toNat).2).2).toNat))+1))) ((((gl ((0,0,0):AY) a0.2.2 s1.1.toNat).2).2).toNat))>1 then
some (Sum.inr (false))
else some (Sum.inl ((AG (s1.1+1),s1.2.set ((((gl ((0,0,0):AY) a0.2.2 s1.1.toNat).2).2).toNat) (AG ((gl (0:Int) s1.2 ((((gl ((0,0,0):AY) a0.2.2 s1.1.toNat).2).2).toNat))+1)))))
else none
else none
else none
else none)
else none
else Option.map Sum.inr (AJ (σ:=Int) (β:=Bool) (fun s3=>
if s3<(a0.2.2.length:Int) then
AJ (σ:=(Int×Int)) (β:=(Int ⊕ Bool)) (fun s4=>
if s4.2<=(a0.2.2.length:Int) then
if ¬s4.1=(-1) then
if 0<=s4.1/\s4.1<(a0.2.2.length:Int) then
some (Sum.inl ((((gl ((0,0,0):AY) a0.2.2 s4.1.toNat).2).2,AG (s4.2+1))))
else none
else Option.map Sum.inr (if ¬s4.1=(-1) then
some (Sum.inr (false))
else some (Sum.inl (AG (s3+1))))
else Option.map Sum.inr (if ¬s4.1=(-1) then
some (Sum.inr (false))
else some (Sum.inl (AG (s3+1))))) ((s3,0))
else some (Sum.inr (true))) (0))) ((0,List.replicate 64 (0:Int)))
else none)
@[reducible] def IE:FnI:=BX [DX] [GX] fun x=>DO x
def b8:Cx:=BL [(1,(2,1)),(4,(3,1)),(6,(4,1)),(8,(5,1))] [4] [(66,ID),(94,O4)] [(0,B3 [(41,AQ)] [] [(3,(.int .i64))] (FA [(2,1),(5,4),(42,93)]) [] 4),(2,B3 [(7,AQ)] [] [] (FA [(2,1),(64,16)]) [] 5),(4,B3 [(138,AQ)] [] [] (FA [(2,1),(9,3),(139,21)]) [] 6),(6,B3 [(10,AQ),(11,AQ)] [] [] (FA [(142,15)]) [] 6)] []
theorem KX:CV 61 IE:=okW b8 [.tmp 2] 160 4 (BG (.cons KW (.cons XK AM.nil)) BD.nil) Tryz.func61
def LB (a0:Int) (a1:Int):Option (B1×Int):=
Option.bind (FK a0) (fun r1=>
if (!r1)=true then
some (((0,[],[]),1))
else if a1<2 then
some (((0,[],[]),1))
else if a1>64 then
some (((0,[],[]),1))
else if True then
if 0<=(AG (a1*2 ^ min (BitVec.ofInt 64 a0).toNat 64))/\(AG (a1*2 ^ min (BitVec.ofInt 64 a0).toNat 64))<=(AG (a1*2 ^ min (BitVec.ofInt 64 a0).toNat 64))/\(AG (a1*2 ^ min (BitVec.ofInt 64 a0).toNat 64))*((8:Nat):Int)<=140737488355328 then
if 0<=a1/\a1<=a1/\a1*((24:Nat):Int)<=140737488355328 then
AJ (σ:=(Int×(List AY))) (β:=(B1×Int)) (fun s1=>
if s1.1<((List.replicate a1.toNat ((0,0,0):AY)).length:Int) then
if 0<=s1.1/\s1.1<(s1.2.length:Int) then
some (Sum.inl ((AG (s1.1+1),s1.2.set s1.1.toNat ((-1),(-1),(-1)))))
else none
else some (Sum.inr (((a0,List.replicate (AG (a1*2 ^ min (BitVec.ofInt 64 a0).toNat 64)).toNat (0#64:(BitVec 64)),s1.2),0)))) ((0,List.replicate a1.toNat ((0,0,0):AY)))
else none
else none
else none)
@[reducible] def UZ:FnI:=BX [AQ,AQ] [ZL,DF] fun x=>LB x.1 x.2
def jT:Cx:=BL [(4,(0,1)),(6,(3,1)),(25,(1,1)),(27,(2,1))] [25,27] [(66,ID)] [(0,B3 [(32,AQ)] [] [(2,iN)] (FA [(7,1),(33,8)]) [] 4)] []
theorem fO:CV 38 UZ:=okW jT [.cell 4 28,.tmp 5] 42 4 (BG (.cons KW AM.nil) BD.nil) Tryz.func38
def IY (a0:B1) (a1:Int):Option (List Int):=
AJ (σ:=FV) (β:=(List Int)) (fun s1=>
if ¬s1.2=(-1) then
if (s1.1.length+([s1.2]:List Int).length)*8<=140737488355328 then
if 0<=s1.2/\s1.2<(a0.2.2.length:Int) then
some (Sum.inl ((s1.1++([s1.2]:List Int),((gl ((0,0,0):AY) a0.2.2 s1.2.toNat).2).2)))
else none
else none
else some (Sum.inr (s1.1))) (([],a1))
@[reducible] def RB:FnI:=BX [DX,AQ] [IB] fun x=>IY x.1 x.2
def b9:Cx:=BL [(2,(2,1)),(18,(4,1)),(19,(5,1))] [19] [] [(0,B3 [(5,IB),(6,AQ)] [] [] (FA [(8,12)]) [] 3)] []
theorem ZW:CV 95 RB:=okW b9 [.tmp 4] 21 4 (BG AM.nil BD.nil) Tryz.func95
def HX (a0:Int) (a1:Int):Option Int:=
if a0<0 then
some (0)
else if a0>1099511627776 then
some (0)
else if a1<0 then
some (0)
else if a1>20 then
some (0)
else if True then
if True then
some ((AG ((AG (a0+(AG ((1:Int)*2 ^ min (BitVec.ofInt 64 a1).toNat 64))))-1)) / 2 ^ min (BitVec.ofInt 64 a1).toNat 64)
else none
else none
@[reducible] def MZ:FnI:=BX [AQ,AQ] [DF] fun x=>HX x.1 x.2
def fP:Cx:=BL [] [] [] [] []
theorem RC:CV 33 MZ:=okW fP [.tmp 4] 28 0 (BG AM.nil BD.nil) Tryz.func33
def BH (a0:B1) (a1:AA):Option Int:=
Option.bind (HX a1.2.2.2.2 a0.1) (fun r1=>
some (r1))
@[reducible] def CU:FnI:=BX [DX,S_] [DF] fun x=>BH x.1 x.2
def ZX:Cx:=BL [(2,(2,1)),(3,(3,1))] [] [(33,MZ)] [] []
theorem C0:CV 16 CU:=okW ZX [.tmp 4] 10 2 (BG (.cons RC AM.nil) BD.nil) Tryz.func16
def HY (a0:B1) (a1:AA):Option Bool:=
if a1.1<0 then
some (false)
else if a1.1>4294967295 then
some (false)
else if a1.2.1<0 then
some (false)
else if a1.2.1≥4 then
some (false)
else if a1.2.2.2.2<0 then
some (false)
else if a1.2.2.2.2>(a0.2.1.length:Int) then
some (false)
else if a1.2.2.2.2=0 then
if a1.2.2.1=(-1) then
some (decide (a1.2.2.2.1=(-1)))
else some (false)
else if a1.2.2.1<0 then
some (false)
else if a1.2.2.1≥(a0.2.2.length:Int) then
some (false)
else if 0<=a1.2.2.1/\a1.2.2.1<(a0.2.2.length:Int) then
if ¬((gl ((0,0,0):AY) a0.2.2 a1.2.2.1.toNat).1)=a1.1 then
some (false)
else if ¬(((gl ((0,0,0):AY) a0.2.2 a1.2.2.1.toNat).2).1)=(AG ((AG (a1.2.1*4294967296))+a1.1)) then
some (false)
else Option.bind (IY a0 a1.2.2.1) (fun r1=>
AJ (σ:=(Int×Int)) (β:=Bool) (fun s1=>
if s1.2<(a0.2.2.length:Int) then
if 0<=s1.2/\s1.2<(a0.2.2.length:Int) then
if ((gl ((0,0,0):AY) a0.2.2 s1.2.toNat).1)=a1.1 then
some (Sum.inl ((AG (s1.1+1),AG (s1.2+1))))
else some (Sum.inl ((s1.1,AG (s1.2+1))))
else none
else Option.map Sum.inr (Option.bind (BH a0 a1) (fun r2=>
if (r1.length:Int)=r2 then
if (r1.length:Int)=s1.1 then
if 0<=(AG ((r1.length:Int)-1))/\(AG ((r1.length:Int)-1))<(r1.length:Int) then
some (decide ((gl (0:Int) r1 ((AG ((r1.length:Int)-1)).toNat))=a1.2.2.2.1))
else none
else some (false)
else some (false)))) ((0,0)))
else none
@[reducible] def M0:FnI:=BX [DX,S_] [GX] fun x=>HY x.1 x.2
def fQ:Cx:=BL [(2,(2,1)),(3,(3,1)),(5,(4,1)),(9,(6,1)),(88,(5,1))] [] [(16,CU),(95,RB)] [(0,B3 [(7,AQ),(92,AQ)] [] [] (FA [(9,1),(93,11)]) [] 6)] []
theorem RE:CV 64 M0:=okW fQ [.tmp 4] 127 5 (BG (.cons C0 (.cons ZW AM.nil)) BD.nil) Tryz.func64
def IZ (a0:B1) (a1:AA):Option Bool:=
Option.bind (DO a0) (fun r1=>
if r1=true then
Option.bind (HY a0 a1) (fun r2=>
some (r2))
else some (false))
@[reducible] def RF:FnI:=BX [DX,S_] [GX] fun x=>IZ x.1 x.2
def b_:Cx:=BL [(2,(2,1)),(3,(3,1))] [] [(61,IE),(64,M0)] [] []
theorem ZY:CV 35 RF:=okW b_ [.tmp 4] 12 2 (BG (.cons KX (.cons RE AM.nil)) BD.nil) Tryz.func35
def G6 (a0:B1) (a1:AA) (a2:Int):Option Int:=
Option.bind (HX (AG (a1.2.2.2.2+a2)) a0.1) (fun r1=>
Option.bind (BH a0 a1) (fun r2=>
some (AG (r1-r2))))
@[reducible] def L3:FnI:=BX [DX,S_,AQ] [DF] fun x=>G6 x.1 x.2.1 x.2.2
def cA:Cx:=BL [(3,(2,1)),(4,(3,1))] [] [(16,CU),(33,MZ)] [] []
theorem PW:CV 130 L3:=okW cA [.tmp 6] 18 2 (BG (.cons C0 (.cons RC AM.nil)) BD.nil) Tryz.func130
def C4 (a0:B1):Option (List Int):=
AJ (σ:=FV) (β:=(List Int)) (fun s1=>
if s1.2<(a0.2.2.length:Int) then
if 0<=s1.2/\s1.2<(a0.2.2.length:Int) then
if ((gl ((0,0,0):AY) a0.2.2 s1.2.toNat).1)=(-1) then
if (s1.1.length+([s1.2]:List Int).length)*8<=140737488355328 then
some (Sum.inl ((s1.1++([s1.2]:List Int),AG (s1.2+1))))
else none
else some (Sum.inl ((s1.1,AG (s1.2+1))))
else none
else some (Sum.inr (s1.1))) (([],0))
@[reducible] def FL:FnI:=BX [DX] [IB] fun x=>C4 x
def fR:Cx:=BL [(1,(2,1)),(5,(4,1)),(19,(5,1)),(20,(6,1))] [20] [] [(0,B3 [(3,IB),(9,AQ)] [] [] (FA [(4,2),(10,12)]) [] 3)] []
theorem GI:CV 17 FL:=okW fR [.tmp 2] 23 5 (BG AM.nil BD.nil) Tryz.func17
def HZ (a0:B1) (a1:Int) (a2:Int):Option B1:=
AJ (σ:=Int) (β:=B1) (fun s1=>
if s1<(a0.2.2.length:Int) then
if 0<=s1/\s1<(a0.2.2.length:Int) then
if ((gl ((0,0,0):AY) a0.2.2 s1.toNat).1)=(-1) then
if 0<=s1/\s1<(a0.2.2.length:Int) then
some (Sum.inr ((s1,a0.2.1,a0.2.2.set s1.toNat (a1,AG ((AG (a2*4294967296))+a1),(-1)))))
else none
else some (Sum.inl (AG (s1+1)))
else none
else some (Sum.inr (((-1),a0.2.1,a0.2.2)))) (0)
@[reducible] def TC:FnI:={ ps:=[ZL,AQ,AQ],rs:=[DF],os:=[ZK,uT],bk:=[0,1],F:=fun x=>HZ x.1 x.2.1 x.2.2 }
def fS:Cx:=BL [(3,(2,1)),(8,(3,1))] [] [] [(0,B3 [(12,AQ)] [] [] (FA [(6,3),(13,19)]) [] 3)] []
theorem cB:CV 131 TC:=okW fS [.tmp 6] 32 2 (BG AM.nil BD.nil) Tryz.func131
def A_ (a0:B1) (a1:Int) (a2:Int):Option (Int×Int):=
if a1<0 then
some ((0,2))
else if a1≥(a0.2.1.length:Int) then
some ((0,2))
else if a2<0 then
some ((0,2))
else if True then
if True then
if 0<=(a1 / 2 ^ min (BitVec.ofInt 64 a0.1).toNat 64)/\(a1 / 2 ^ min (BitVec.ofInt 64 a0.1).toNat 64)<(a0.2.2.length:Int) then
if ((gl ((0,0,0):AY) a0.2.2 ((a1 / 2 ^ min (BitVec.ofInt 64 a0.1).toNat 64).toNat)).1)=(-1) then
some ((0,5))
else AJ (σ:=AY) (β:=(Int×Int)) (fun s1=>
if True then
if s1.1≥(AG ((AG ((1:Int)*2 ^ min (BitVec.ofInt 64 a0.1).toNat 64))-s1.2.2)) then
if True then
if 0<=s1.2.1/\s1.2.1<(a0.2.2.length:Int) then
if (((gl ((0,0,0):AY) a0.2.2 s1.2.1.toNat).2).2)=(-1) then
some (Sum.inr ((0,2)))
else some (Sum.inl ((AG (s1.1-(AG ((AG ((1:Int)*2 ^ min (BitVec.ofInt 64 a0.1).toNat 64))-s1.2.2))),((gl ((0,0,0):AY) a0.2.2 s1.2.1.toNat).2).2,0)))
else none
else none
else Option.map Sum.inr (if True then
some ((AG ((AG ((AG (s1.2.1*2 ^ min (BitVec.ofInt 64 a0.1).toNat 64))+s1.2.2))+s1.1),0))
else none)
else none) ((a2,a1 / 2 ^ min (BitVec.ofInt 64 a0.1).toNat 64,ACZ .and a1 (AG ((AG ((1:Int)*2 ^ min (BitVec.ofInt 64 a0.1).toNat 64))-1))))
else none
else none
else none
@[reducible] def EE:FnI:=BX [DX,AQ,AQ] [DF,DF] fun x=>A_ x.1 x.2.1 x.2.2
def lZ:Cx:=BL [(3,(2,1))] [] [] [(0,B3 [(2,AQ),(8,AQ),(9,AQ)] [] [] (FA [(6,2),(42,24)]) [] 3)] []
theorem ES:CV 105 EE:=okW lZ [.tmp 6,.tmp 7] 75 1 (BG AM.nil BD.nil) Tryz.func105
def DY (a0:B1) (a1:AA) (a2:Int):Option (AA×Int×Int×NP×(List AY)):=
Option.bind (G6 a0 a1 a2) (fun r1=>
Option.bind (C4 a0) (fun r2=>
if r1>(r2.length:Int) then
some (((0,0,0,0,0),0,4,a0.2.1,a0.2.2))
else AJ (σ:=(Int×AA×NP×(List AY))) (β:=(AA×Int×Int×NP×(List AY))) (fun s1=>
if s1.1>0 then
Option.bind (HZ (a0.1,s1.2.2) s1.2.1.1 s1.2.1.2.1) (fun r3=>
if s1.2.1.2.2.1=(-1) then
some (Sum.inl ((AG (s1.1-1),(s1.2.1.1,s1.2.1.2.1,r3.1,r3.1,s1.2.1.2.2.2.2),r3.2.1,r3.2.2)))
else if 0<=s1.2.1.2.2.2.1/\s1.2.1.2.2.2.1<(r3.2.2.length:Int) then
some (Sum.inl ((AG (s1.1-1),(s1.2.1.1,s1.2.1.2.1,s1.2.1.2.2.1,r3.1,s1.2.1.2.2.2.2),r3.2.1,r3.2.2.set s1.2.1.2.2.2.1.toNat ((gl ((0,0,0):AY) r3.2.2 s1.2.1.2.2.2.1.toNat).1,((gl ((0,0,0):AY) r3.2.2 s1.2.1.2.2.2.1.toNat).2).1,r3.1))))
else none)
else Option.map Sum.inr (if True then
Option.bind (A_ (a0.1,s1.2.2) (AG (s1.2.1.2.2.1*2 ^ min (BitVec.ofInt 64 a0.1).toNat 64)) a1.2.2.2.2) (fun r4=>
some (((s1.2.1.1,s1.2.1.2.1,s1.2.1.2.2.1,s1.2.1.2.2.2.1,AG (s1.2.1.2.2.2.2+a2)),r4.1,0,s1.2.2.1,s1.2.2.2)))
else none)) ((r1,a1,a0.2.1,a0.2.2))))
@[reducible] def M1:FnI:={ ps:=[ZL,S_,AQ],rs:=[uV,DF,DF],os:=[ZK,uT],bk:=[0,1],F:=fun x=>DY x.1 x.2.1 x.2.2 }
def fT:Cx:=BL [(3,(2,1)),(4,(3,1)),(6,(4,1)),(20,(5,1))] [] [(17,FL),(105,EE),(130,L3),(131,TC)] [(0,B3 [(9,AQ)] [(3,S_)] [(0,.u64),(1,iN)] (FA [(11,1),(26,24)]) [] 6)] []
theorem RG:CV 117 M1:=okW fT [.cell 6 66,.tmp 7,.tmp 8] 69 4 (BG (.cons GI (.cons ES (.cons PW (.cons cB AM.nil)))) BD.nil) Tryz.func117
def I0 (a0:NP):Option NP:=
if (([]:List (BitVec 64)).length+a0.length)*8<=140737488355328 then
some (([]:List (BitVec 64))++a0)
else none
@[reducible] def RH:FnI:=BX [AQH] [ZK] fun x=>I0 x
def cC:Cx:=BL [(4,(1,1))] [4] [] [] []
theorem ZZ:CV 49 RH:=okW cC [.tmp 2] 5 1 (BG AM.nil BD.nil) Tryz.func49
def ET (a0:B1):Option B1:=
Option.bind (I0 a0.2.1) (fun r1=>
if (([]:List AY).length+a0.2.2.length)*24<=140737488355328 then
some ((a0.1,r1,([]:List AY)++a0.2.2))
else none)
@[reducible] def I1:FnI:=BX [DX] [ZL] fun x=>ET x
def fU:Cx:=BL [(1,(2,1)),(2,(3,1)),(7,(4,1)),(10,(5,1))] [10] [(49,RH)] [] []
theorem L4:CV 24 I1:=okW fU [.cell 2 28] 12 4 (BG (.cons ZZ AM.nil) BD.nil) Tryz.func24
def FM (a0:B1) (a1:Int):Option B1:=
AJ (σ:=(Int×Int×NP×(List AY))) (β:=B1) (fun s1=>
if s1.2.1<(a0.2.2.length:Int) then
if 0<=s1.2.1/\s1.2.1<(s1.2.2.2.length:Int) then
if ¬((gl ((0,0,0):AY) s1.2.2.2 s1.2.1.toNat).1)=a1 then
some (Sum.inl ((s1.1,AG (s1.2.1+1),s1.2.2.1,s1.2.2.2)))
else if 0<=s1.2.1/\s1.2.1<(s1.2.2.2.length:Int) then
if True then
AJ (σ:=(Int×NP)) (β:=((Int×Int×NP×(List AY)) ⊕ B1)) (fun s2=>
if True then
if s2.1<(AG ((AG (s1.2.1+1))*2 ^ min (BitVec.ofInt 64 a0.1).toNat 64)) then
if 0<=s2.1/\s2.1<(s2.2.length:Int) then
some (Sum.inl ((AG (s2.1+1),s2.2.set s2.1.toNat (0#64))))
else none
else some (Sum.inr (Sum.inl ((AG (s1.1+1),AG (s1.2.1+1),s2.2,s1.2.2.2.set s1.2.1.toNat ((-1),(-1),(-1))))))
else none) ((AG (s1.2.1*2 ^ min (BitVec.ofInt 64 a0.1).toNat 64),s1.2.2.1))
else none
else none
else none
else some (Sum.inr ((s1.1,s1.2.2.1,s1.2.2.2)))) ((0,0,a0.2.1,a0.2.2))
@[reducible] def L5:FnI:={ ps:=[ZL,AQ],rs:=[DF],os:=[ZK,uT],bk:=[0,1],F:=fun x=>FM x.1 x.2 }
def cD:Cx:=BL [(2,(2,1)),(7,(3,1))] [] [] [(0,B3 [(5,AQ),(12,AQ)] [] [(0,.u64),(1,iN)] (FA [(6,3),(13,35)]) [] 3),(2,B3 [(8,AQ)] [] [(0,.u64)] (FA [(33,14)]) [] 4)] []
theorem PX:CV 65 L5:=okW cD [.tmp 4] 49 2 (BG AM.nil BD.nil) Tryz.func65
def J0 (a0:B1) (a1:Int):Option (B1×Int×Int):=
Option.bind (DO a0) (fun r1=>
if (!r1)=true then
some (((0,[],[]),0,1))
else if a1<0 then
some (((0,[],[]),0,1))
else if a1>4294967295 then
some (((0,[],[]),0,1))
else Option.bind (ET a0) (fun r2=>
Option.bind (FM r2 a1) (fun r3=>
if r3.1=0 then
some (((0,[],[]),0,5))
else some (((r2.1,r3.2),r3.1,0)))))
@[reducible] def TD:FnI:=BX [DX,AQ] [ZL,DF,DF] fun x=>J0 x.1 x.2
def fV:Cx:=BL [(2,(2,1)),(4,(3,1)),(7,(6,1)),(22,(4,2))] [] [(24,I1),(61,IE),(65,L5)] [] []
theorem cE:CV 36 TD:=okW fV [.cell 4 28,.tmp 5,.tmp 6] 31 5 (BG (.cons L4 (.cons KX (.cons PX AM.nil))) BD.nil) Tryz.func36
def F6 (a0:B1) (a1:AA):Option (B1×Int):=
Option.bind (IZ a0 a1) (fun r1=>
if (!r1)=true then
some (((0,[],[]),1))
else if a1.2.2.2.2=0 then
some (((0,[],[]),5))
else Option.bind (J0 a0 a1.1) (fun r2=>
some ((r2.1,r2.2.2))))
@[reducible] def TE:FnI:=BX [DX,S_] [ZL,DF] fun x=>F6 x.1 x.2
def fW:Cx:=BL [(2,(2,1)),(3,(3,1)),(4,(4,1)),(6,(7,1)),(22,(5,2))] [] [(35,RF),(36,TD)] [] []
theorem cF:CV 19 TE:=okW fW [.cell 4 28,.tmp 5] 28 6 (BG (.cons ZY (.cons cE AM.nil)) BD.nil) Tryz.func19
def J1 (a0:B1):Option Int:=
Option.bind (C4 a0) (fun r1=>
some (AG ((a0.2.2.length:Int)-(r1.length:Int))))
@[reducible] def TF:FnI:=BX [DX] [DF] fun x=>J1 x
def fX:Cx:=BL [(1,(2,1)),(7,(3,1))] [] [(17,FL)] [] []
theorem cG:CV 140 TF:=okW fX [.tmp 2] 10 2 (BG (.cons GI AM.nil) BD.nil) Tryz.func140
def DI (a0:Int) (a1:Int):Option ((BitVec 64)×Int):=
if a0<0 then
some ((0#64,13))
else if a0>15 then
some ((0#64,13))
else if a1<0 then
some ((0#64,13))
else if a1>32 then
some ((0#64,13))
else some ((BitVec.ofInt 64 (AG ((AG ((AG ((AG ((1:Int)+a0))+a1))*256))+(AG (a0*2)))),0))
@[reducible] def I2:FnI:=BX [AQ,AQ] [zH,DF] fun x=>DI x.1 x.2
def fY:Cx:=BL [] [] [] [] []
theorem L7:CV 96 I2:=okW fY [.tmp 4,.tmp 5] 29 0 (BG AM.nil BD.nil) Tryz.func96
def F7 (a0:B1) (a1:Int) (a2:Int) (a3:Int):Option B1:=
Option.bind (DI a2 a3) (fun r1=>
if ¬r1.2=0 then
some ((r1.2,a0.2.1,a0.2.2))
else Option.bind (A_ a0 a1 (AG (a2+a3))) (fun r2=>
if ¬r2.2=0 then
some ((r2.2,a0.2.1,a0.2.2))
else if 0<=a1/\a1<(a0.2.1.length:Int) then
AJ (σ:=(Int×NP)) (β:=B1) (fun s1=>
if s1.1<=(AG (a2+a3)) then
Option.bind (A_ (a0.1,s1.2,a0.2.2) a1 s1.1) (fun r3=>
if 0<=r3.1/\r3.1<(s1.2.length:Int) then
some (Sum.inl ((AG (s1.1+1),s1.2.set r3.1.toNat (0#64))))
else none)
else some (Sum.inr ((0,s1.2,a0.2.2)))) ((1,a0.2.1.set a1.toNat r1.1))
else none))
@[reducible] def TG:FnI:={ ps:=[ZL,AQ,AQ,AQ],rs:=[DF],os:=[ZK,uT],bk:=[0,1],F:=fun x=>F7 x.1 x.2.1 x.2.2.1 x.2.2.2 }
def fZ:Cx:=BL [(4,(2,1))] [] [(96,I2),(105,EE)] [(0,B3 [(13,AQ)] [] [(0,.u64)] (FA [(14,2),(42,18)]) [] 3)] []
theorem cH:CV 118 TG:=okW fZ [.tmp 8] 60 1 (BG (.cons L7 (.cons ES AM.nil)) BD.nil) Tryz.func118
def J2 (a0:B1):Option Bool:=
if (a0.2.1.length:Int)<=3000 then
some (decide ((a0.2.2.length:Int)<=80))
else some (false)
@[reducible] def TH:FnI:=BX [DX] [GX] fun x=>J2 x
def f_:Cx:=BL [(1,(2,1))] [] [] [] []
theorem cI:CV 5 TH:=okW f_ [.tmp 2] 13 1 (BG AM.nil BD.nil) Tryz.func5
def G7 (a0:B1) (a1:Int) (a2:Int) (a3:Int):Option B1:=
Option.bind (ET a0) (fun r1=>
Option.bind (CN a2 (r1.2.2.length:Int)) (fun r2=>
Option.bind (CN a1 8) (fun r3=>
if r3=0 then
Option.bind (CN a3 6) (fun r4=>
if 0<=r2/\r2<(r1.2.2.length:Int) then
some ((r1.1,r1.2.1,r1.2.2.set r2.toNat (AG (r4-2),((gl ((0,0,0):AY) r1.2.2 r2.toNat).2))))
else none)
else if r3=1 then
if 0<=r2/\r2<(r1.2.2.length:Int) then
Option.bind (CN a3 4) (fun r5=>
if 0<=r5/\r5<(([1,(-1),4294967296,17179869184]:List Int).length:Int) then
if 0<=r2/\r2<(r1.2.2.length:Int) then
some ((r1.1,r1.2.1,r1.2.2.set r2.toNat ((gl ((0,0,0):AY) r1.2.2 r2.toNat).1,AG ((((gl ((0,0,0):AY) r1.2.2 r2.toNat).2).1)+(gl (0:Int) ([1,(-1),4294967296,17179869184]:List Int) r5.toNat)),((gl ((0,0,0):AY) r1.2.2 r2.toNat).2).2)))
else none
else none)
else none
else if r3=2 then
Option.bind (CN a3 (AG ((r1.2.2.length:Int)+2))) (fun r6=>
if 0<=r2/\r2<(r1.2.2.length:Int) then
some ((r1.1,r1.2.1,r1.2.2.set r2.toNat ((gl ((0,0,0):AY) r1.2.2 r2.toNat).1,((gl ((0,0,0):AY) r1.2.2 r2.toNat).2).1,AG (r6-1))))
else none)
else if r3=3 then
Option.bind (CN a2 (r1.2.1.length:Int)) (fun r7=>
if 0<=r7/\r7<(r1.2.1.length:Int) then
some ((r1.1,r1.2.1.set r7.toNat (BitVec.ofInt 64 a3),r1.2.2))
else none)
else if r3=4 then
if (r1.2.1.length+([0#64]:List (BitVec 64)).length)*8<=140737488355328 then
some ((r1.1,r1.2.1++([0#64]:List (BitVec 64)),r1.2.2))
else none
else if r3=5 then
Option.bind (CN a3 3) (fun r8=>
some ((AG (r1.1+(AG (r8-1))),r1.2)))
else if r3=6 then
if 0<=r2/\r2<(r1.2.2.length:Int) then
some ((r1.1,r1.2.1,r1.2.2.set r2.toNat ((-1),(-1),(-1))))
else none
else some (r1))))
@[reducible] def RI:FnI:=BX [DX,AQ,AQ,AQ] [ZL] fun x=>G7 x.1 x.2.1 x.2.2.1 x.2.2.2
def cK:Cx:=BL [(4,(2,1)),(8,(3,1)),(9,(6,1)),(12,(4,2)),(38,(7,1)),(76,(8,1)),(77,(9,1))] [77] [(10,LA),(24,I1)] [] []
theorem Z0:CV 11 RI:=okW cK [.cell 8 28] 96 8 (BG (.cons N2 (.cons L4 AM.nil)) BD.nil) Tryz.func11
def UC (a0:Int):Option Bool:=
if a0≥3 then
some (decide (a0<=8))
else some (false)
@[reducible] def iP:FnI:=BX [AQ] [GX] fun x=>UC x
def wL:Cx:=BL [] [] [] [] []
theorem uW:CV 88 iP:=okW wL [.tmp 2] 9 0 (BG AM.nil BD.nil) Tryz.func88
def WB (a0:NP):Option Bool:=
AJ (σ:=Int) (β:=Bool) (fun s1=>
if s1<(a0.length:Int) then
if 0<=s1/\s1<(a0.length:Int) then
if ¬(gl (0#64:(BitVec 64)) a0 s1.toNat)=(0#64) then
some (Sum.inr (false))
else some (Sum.inl (AG (s1+1)))
else none
else some (Sum.inr (true))) (0)
@[reducible] def l4:FnI:=BX [AQH] [GX] fun x=>WB x
def AB9:Cx:=BL [] [] [] [(0,B3 [(7,AQ)] [] [] [2,4,8,9,10,11,12,13] [] 1)] []
theorem wM:CV 89 l4:=okW AB9 [.tmp 2] 14 0 (BG AM.nil BD.nil) Tryz.func89
def NW (a0:B1):Option Bool:=
AJ (σ:=Int) (β:=Bool) (fun s1=>
if s1<(a0.2.2.length:Int) then
if 0<=s1/\s1<(a0.2.2.length:Int) then
AJ (σ:=(Int×Int)) (β:=(Int ⊕ Bool)) (fun s2=>
if s2.1≥0 then
if s2.2<(a0.2.2.length:Int) then
if s2.1=s1 then
some (Sum.inr (Sum.inr (false)))
else if 0<=s2.1/\s2.1<(a0.2.2.length:Int) then
some (Sum.inl ((((gl ((0,0,0):AY) a0.2.2 s2.1.toNat).2).2,AG (s2.2+1))))
else none
else some (Sum.inr (Sum.inl (AG (s1+1))))
else some (Sum.inr (Sum.inl (AG (s1+1))))) ((((gl ((0,0,0):AY) a0.2.2 s1.toNat).2).2,0))
else none
else some (Sum.inr (true))) (0)
@[reducible] def XL:FnI:=BX [DX] [GX] fun x=>NW x
def oE:Cx:=BL [(1,(2,1))] [] [] [(0,B3 [(9,AQ)] [] [] (FA [(2,4),(10,29)]) [] 3),(2,B3 [(4,AQ),(5,AQ)] [] [] (FA [(2,1),(18,20)]) [] 3)] []
theorem l5:CV 90 XL:=okW oE [.tmp 2] 39 1 (BG AM.nil BD.nil) Tryz.func90
def IF (a0:B1):Option Bool:=
Option.bind (UC a0.1) (fun r1=>
if (!r1)=true then
some (false)
else if (a0.2.2.length:Int)<2 then
some (false)
else if (a0.2.2.length:Int)>64 then
some (false)
else if True then
if ¬(a0.2.1.length:Int)=(AG ((a0.2.2.length:Int)*2 ^ min (BitVec.ofInt 64 a0.1).toNat 64)) then
some (false)
else AJ (σ:=((BitVec 64)×Int)) (β:=Bool) (fun s1=>
if s1.2<(a0.2.2.length:Int) then
if 0<=s1.2/\s1.2<(a0.2.2.length:Int) then
if ((gl ((0,0,0):AY) a0.2.2 s1.2.toNat).1)=(-1) then
if ¬(((gl ((0,0,0):AY) a0.2.2 s1.2.toNat).2).1)=(-1) then
some (Sum.inr (false))
else if ¬(((gl ((0,0,0):AY) a0.2.2 s1.2.toNat).2).2)=(-1) then
some (Sum.inr (false))
else if True then
if True then
if Bd (some (AG (s1.2*2 ^ min (BitVec.ofInt 64 a0.1).toNat 64))) (some (AG ((AG (s1.2+1))*2 ^ min (BitVec.ofInt 64 a0.1).toNat 64))) ((AG ((AG (s1.2+1))*2 ^ min (BitVec.ofInt 64 a0.1).toNat 64)).toNat) a0.2.1.length then
Option.bind (WB (B5 a0.2.1 ((AG (s1.2*2 ^ min (BitVec.ofInt 64 a0.1).toNat 64)).toNat) (((AG ((AG (s1.2+1))*2 ^ min (BitVec.ofInt 64 a0.1).toNat 64)).toNat)-((AG (s1.2*2 ^ min (BitVec.ofInt 64 a0.1).toNat 64)).toNat)))) (fun r2=>
if (!r2)=true then
some (Sum.inr (false))
else some (Sum.inl ((s1.1,AG (s1.2+1)))))
else none
else none
else none
else if ((gl ((0,0,0):AY) a0.2.2 s1.2.toNat).1)<0 then
some (Sum.inr (false))
else if ((gl ((0,0,0):AY) a0.2.2 s1.2.toNat).1)>4294967295 then
some (Sum.inr (false))
else if (((gl ((0,0,0):AY) a0.2.2 s1.2.toNat).2).1)<0 then
some (Sum.inr (false))
else if ¬(4294967296:Int)=0 then
if ¬(Int.tmod (((gl ((0,0,0):AY) a0.2.2 s1.2.toNat).2).1) 4294967296)=((gl ((0,0,0):AY) a0.2.2 s1.2.toNat).1) then
some (Sum.inr (false))
else if ¬(4294967296:Int)=0 then
if (AG (Int.tdiv (((gl ((0,0,0):AY) a0.2.2 s1.2.toNat).2).1) 4294967296))≥4 then
some (Sum.inr (false))
else if (((gl ((0,0,0):AY) a0.2.2 s1.2.toNat).2).2)<(-1) then
some (Sum.inr (false))
else if (((gl ((0,0,0):AY) a0.2.2 s1.2.toNat).2).2)≥(a0.2.2.length:Int) then
some (Sum.inr (false))
else if (((gl ((0,0,0):AY) a0.2.2 s1.2.toNat).2).2)=s1.2 then
some (Sum.inr (false))
else if (((gl ((0,0,0):AY) a0.2.2 s1.2.toNat).2).2)<0 then
some (Sum.inl ((s1.1,AG (s1.2+1))))
else if 0<=(((gl ((0,0,0):AY) a0.2.2 s1.2.toNat).2).2)/\(((gl ((0,0,0):AY) a0.2.2 s1.2.toNat).2).2)<(a0.2.2.length:Int) then
if True then
if ((s1.1 >>> (BitVec.ofInt 64 (((gl ((0,0,0):AY) a0.2.2 s1.2.toNat).2).2)).toNat) &&& (1#64))=(1#64) then
some (Sum.inr (false))
else if ¬((gl ((0,0,0):AY) a0.2.2 ((((gl ((0,0,0):AY) a0.2.2 s1.2.toNat).2).2).toNat)).1)=((gl ((0,0,0):AY) a0.2.2 s1.2.toNat).1) then
some (Sum.inr (false))
else if ¬(((gl ((0,0,0):AY) a0.2.2 ((((gl ((0,0,0):AY) a0.2.2 s1.2.toNat).2).2).toNat)).2).1)=(((gl ((0,0,0):AY) a0.2.2 s1.2.toNat).2).1) then
some (Sum.inr (false))
else if True then
some (Sum.inl ((s1.1|||((1#64) <<< (BitVec.ofInt 64 (((gl ((0,0,0):AY) a0.2.2 s1.2.toNat).2).2)).toNat),AG (s1.2+1))))
else none
else none
else none
else none
else none
else none
else Option.map Sum.inr (Option.bind (NW a0) (fun r3=>
some (r3)))) ((0#64,0))
else none)
@[reducible] def QU:FnI:=BX [DX] [GX] fun x=>IF x
def wN:Cx:=BL [(1,(2,1)),(6,(3,1)),(7,(5,1)),(67,(4,1))] [] [(88,iP),(89,l4),(90,XL)] [(0,B3 [(4,oC),(37,AQ)] [] [] (FA [(2,1),(5,3),(38,114)]) [] 3)] []
theorem U0:CV 53 QU:=okW wN [.tmp 2] 154 4 (BG (.cons uW (.cons wM (.cons l5 AM.nil))) BD.nil) Tryz.func53
def AF (a0:FV) (a1:Int):Option (Int×FV):=
if a0.2≥(a0.1.length:Int) then
some ((0,a0))
else if 0<=(AG ((AG (a0.2+1))-1))/\(AG ((AG (a0.2+1))-1))<(a0.1.length:Int) then
Option.bind (CN (gl (0:Int) a0.1 ((AG ((AG (a0.2+1))-1)).toNat)) a1) (fun r1=>
some ((r1,(a0.1,AG (a0.2+1)))))
else none
@[reducible] def DA:FnI:={ ps:=[O2,AQ],rs:=[DF],os:=[O2],bk:=[0],F:=fun x=>AF x.1 x.2 }
def XM:Cx:=BL [] [] [(10,LA)] [] []
theorem DN:CV 42 DA:=okW XM [.tmp 4] 35 0 (BG (.cons N2 AM.nil) BD.nil) Tryz.func42
end
end Go.Proofs.YtjbojdpdkikioaaGreatDoor
