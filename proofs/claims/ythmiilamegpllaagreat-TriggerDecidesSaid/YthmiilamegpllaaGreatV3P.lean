import Derived.Test.YthmiilamegpllaaGreatV3J
import Derived.LoopN
import Derived.ProofKit
import Derived.OpenShut
import Derived.ChangeOld
import Derived.Below
import Derived.LaidMore
import Derived.MakeChecks
import Derived.Stop.Joined
import Derived.Test.YthmiilamegpllaaGreatProg
import Derived.Test.YthmiilamegpllaaGreatChecked
import Derived.KernelRfl
set_option linter.unusedVariables false
set_option linter.unusedSimpArgs false
namespace Go.V3
open Go
variable {TB:Tb}
def R9 (o:Oper):List Nat:=(o.after.toList.filter (Region.binds .any)).map (·.on)
def AGN (ops:List Oper):Nat->List Nat->List Nat->List Nat
 |0,_,seen=>seen
 |_+1,[],seen=>seen
 |n+1,i::todo,seen=>if seen.contains i then AGN ops n todo seen else match ops[i]? with
  |some o=>AGN ops n (R9 o++todo) (i::seen)
  |none=>AGN ops n todo seen
def AMN (ops:List Oper) (o:Oper):List Nat:=AGN ops 4000 (R9 o) []
def ZF (all:List Oper) (o:Oper):List Nat:=
 (o.op.operands.toList.filterMap fun| .tmp t=>some t|_=>none)++(match o.guard with
  |some (g,_)=>(match all[g]? with
   |some oj=>oj.dst.toList
   |none=>[])
  |none=>[])
mutual
def ASD:SV->List Nat
 | .loc i _=>[i]
 | .el i _ _ _=>[i]
 | .NV i=>[i]
 | .sub i _ _ _=>[i]
 | .agg cs=>xF cs
 | .tup vs=>xF vs
 | .mpv i=>[i]
 | .tsl i _ _=>[i]
 | .tel i _ _ _=>[i]
 | .clo _ cs=>xF cs
 |_=>[]
def xF:List SV->List Nat
 | []=>[]
 |v::r=>ASD v++xF r
end
def WZ (fr:List SV) (o:Oper):List Nat:=o.op.operands.toList.flatMap fun x=>ASD (evc fr x)
def VN (AR:Nat->Option AX) (i:Nat):List Nat:=match AR i with
 |some (.box cs)=>xF cs
 |some (.deep _ _ (some (_,j)))=>[j]
 |_=>[]
def A3J:Op->Bool
 | .move _=>true
 | .assign _=>true
 |_=>false
def YA (fr:List SV):Op->Bool
 | .load _ x=>(match evc fr x with
  | .loc _ _=>true
  |_=>false)
 | .fieldAddr _ x _=>(match evc fr x with
  | .loc _ _=>true
  |_=>false)
 | .nilCheck x=>(match evc fr x with
  | .loc _ _=>true
  |_=>false)
 |_=>false
def YB (fr:List SV):Op->Bool
 | .call { callee:= .value f,.. }=>(match evc fr f with
  | .clo _ _=>true
  |_=>false)
 |_=>false
def P1 (cx:Cx) (fr:List SV) (AR:Nat->Option AX) (o:Oper):List Nat:=match A3J o.op && !cx.AW9 o.dst with
 |true=>[]
 |false=>WZ fr o++(match YA fr o.op with
  |true=>[]
  |false=>(WZ fr o).flatMap (VN AR)++(match YB fr o.op with
   |true=>((WZ fr o).flatMap (VN AR)).flatMap (VN AR)
   |false=>[]))++(List.range (cx.IZ o.dst).2).map fun k=>(cx.IZ o.dst).1+k
def sN (ft:List Nat) (AR:Nat->Option AX) (n:Nat):Option AX:=match ft.contains n with
 |true=>AR n
 |false=>none
structure Met where
 i:Nat
 dst:Option Nat
 lks:List Nat
 rd:List Nat
 wr:List Nat
def qQ (x y:Met):Bool:=
 (match x.dst with
 |some d=> !y.lks.contains d && !(y.dst==some d)
 |none=>true) && (match y.dst with
 |some d=> !x.lks.contains d
 |none=>true) && x.wr.all (fun n=> !y.rd.contains n && !y.wr.contains n) && y.wr.all (fun n=> !x.rd.contains n)
section
variable {α:Type}
def A0O (P:Program) (cx:Cx) (all:List Oper):List Oper->Nat->List Met->List SV->AL->(List SV->AL->Option α)->Option α
 | [],_,_,fr,L,K=>K fr L
 |o::r,k,acc,fr,L,K=>dH P cx all o k fr (sN (P1 cx fr (look L) o) (look L)) (fun v u=>
  match acc.all (fun q=>(AMN all o).contains q.i||qQ q ⟨k,o.dst,ZF all o,P1 cx fr (look L) o,u.map (·.1)⟩) with
  |true=>A0O P cx all r (k+1) (⟨k,o.dst,ZF all o,P1 cx fr (look L) o,u.map (·.1)⟩::acc) (SF fr o.dst v) (AK L u) K
  |false=>none)
end
def AGO (all:List Oper):List Oper->Nat->Bool
 | [],_=>true
 |o::r,k=>(R9 o).all (fun j=>decide (j<k)) && AGO all r (k+1)
def sst (P:Program) (cx:Cx) (all:List Oper) (i:Nat) (s:List SV×AL):Option ((List SV×AL)×Met):=
 match all[i]? with
 |none=>none
 |some o=>match dH P cx all o i s.1 (sN (P1 cx s.1 (look s.2) o) (look s.2)) pr with
  |some (v,u)=>some ((SF s.1 o.dst v,AK s.2 u),⟨i,o.dst,ZF all o,P1 cx s.1 (look s.2) o,u.map (·.1)⟩)
  |none=>none
def Run (P:Program) (cx:Cx) (all:List Oper):List Nat->List SV×AL->List SV×AL->List Met->Prop
 | [],s,s',fs=>s' =s/\fs=[]
 |i::l,s,s',fs=>∃ s1 f uQ,sst P cx all i s=some (s1,f)/\Run P cx all l s1 s' uQ /\fs=f::uQ
def AWQ (all:List Oper) (x y:Met):Prop:=(∃ o,all[y.i]? =some o/\x.i∈AMN all o)\/qQ x y=true
section
variable {P:Program} {cx:Cx} {all:List Oper}
theorem AGP {α:Type} {K:List SV->AL->Option α} {r0:α}:∀ (rest:List Oper) (k:Nat) (acc:List Met) (fr:List SV) (L:AL),all.drop k=rest->A0O P cx all rest k acc fr L K=some r0→
  ∃ s' fs,Run P cx all (List.range' k rest.length) (fr,L) s' fs/\K s'.1 s'.2=some r0/\fs.Pairwise (AWQ all)/\∀ q∈acc,∀ f∈fs,AWQ all q f
 | [],k,acc,fr,L,_,h=>⟨(fr,L),[],⟨rfl,rfl⟩,h,List.Pairwise.nil,fun _ _ _ hf=>by cases hf⟩
 |o::rest,k,acc,fr,L,hd,h=>by
  have QV:all[k]? =some o:=by
   have:=PR (fun l=>l[0]?) hd
   simpa [cP] using this
  have hd' :all.drop (k+1)=rest:=by
   have:=PR (List.drop 1) hd
   simpa [ALV,AFJ] using this
  obtain⟨v,u,h1,h2⟩:=xC h
  split at h1
  rotate_left
  ·cases h1
  rename_i AWR
  obtain⟨s',fs,r1,r2,r3,r4⟩:=AGP rest (k+1) _ _ _ hd' h1
  refine⟨s',⟨k,o.dst,ZF all o,P1 cx fr (look L) o,u.map (·.1)⟩::fs,⟨(SF fr o.dst v,AK L u),⟨k,o.dst,ZF all o,P1 cx fr (look L) o,u.map (·.1)⟩,fs, ?_,r1,rfl⟩,r2, ?_, ?_⟩
  ·simp only[sst,QV,h2]
  ·exact List.Pairwise.cons (fun f hf=>r4 _ (by simp) f hf) r3
  ·intro q hq f hf
   rcases GA.1 hf with rfl|hf
   ·have:=LP.1 AWR q hq
    rcases rW _ _ ▸ this with h|h
    ·exact .inl ⟨o,QV,by simpa using h⟩
    ·exact .inr h
   ·exact r4 q (by simp [hq]) f hf
theorem AK5 {α:Type} {AR:Nat->Option AX} {dst:Option Tmp} {ρ ρ' :Operand->SV} {K:SV->C7->Option α} {op:Op} (h:∀ x∈op.operands.toList,ρ x=ρ' x):core P cx AR dst ρ K op=core P cx AR dst ρ' K op:=by
 have AYV:∀ ps:Array (Nat×Operand),(∀ x∈ps.toList.map (·.2),ρ x=ρ' x)->(ps.toList.map fun q=>(q.1,ρ q.2))=(ps.toList.map fun q=>(q.1,ρ' q.2)):=fun ps hp=>
  WB fun p hm=>by
   obtain⟨i,x⟩:=p
   simp only[hp x (DD.2 ⟨(i,x),hm,rfl⟩)]
 have hfz:RZ AR ρ K op=RZ AR ρ' K op:=by
  cases op <;> simp only[Op.operands] at h <;> simp only[RZ]
  all_goals rw[h _ (by simp)]
 unfold core
 rw[hfz]
 split
 ·rfl
 unfold core0
 cases op <;> simp only[Op.operands] at h <;> simp only[cX,AG9]
 case build t ps=>rw[AYV ps fun x hx=>h x (by simpa using hx)]
 case buildSlice t n ps=>rw[AYV ps fun x hx=>h x (by simpa using hx)]
 case call c=>
  obtain⟨callee,args,ts⟩:=c
  have MA:args.toList.map ρ=args.toList.map ρ' :=WB fun x hx=>h x (by simp [Call.operands];exact .inr (by simpa using hx))
  cases callee with
  |builtin b=>cases b <;> simp only[MA]
  |value f=>
   have hf:ρ f=ρ' f:=h f (by simp [Call.operands])
   simp only[hf,MA]
  |_=>rfl
 case slice t x lo hi mx=>cases lo <;> cases hi <;> cases mx <;> simp_all
 case makeFunc fn first captured=>
  have hc:captured.toList.map ρ=captured.toList.map ρ' :=WB fun x hx=>h x (by simp;exact .inr (by simpa using hx))
  simp only[hc]
 case makeMap t r=>cases r <;> rfl
 case binOp op t x y rt=>
  have hx:ρ x=ρ' x:=h x (by simp)
  have hy:ρ y=ρ' y:=h y (by simp)
  cases op <;> simp only[hx,hy]
 all_goals first|rfl|(simp_all;done)
theorem ASE {fr:List SV} {d:Option Tmp} {v:SV} {x:Operand} (h:∀ t,d=some t->x≠ .tmp t):ev (SF fr d v) x=ev fr x:=by
 cases d with
 |none=>rfl
 |some d=>
  cases x with
  |tmp t=>
   show (fr.set d v).getD t AW=fr.getD t AW
   rw[FH,AD]
   rintro⟨rfl,_⟩
   exact h d rfl rfl
  |_=>rfl
theorem AP6 {fr:List SV} {x y:Option Tmp} {u v:SV} (h:∀ d,x=some d->y≠some d):SF (SF fr x u) y v=SF (SF fr y v) x u:=by
 cases x with
 |none=>rfl
 |some d=>
  cases y with
  |none=>rfl
  |some e=>
   have CU:d≠e:=fun he=>h d rfl (he ▸ rfl)
   simp [SF,List.set_comm _ _ CU]
theorem H7 {L:AL} {u:C7} {n:Nat} (h:n∉u.map (·.1)):look (AK L u) n=look L n/\(AK L u)[n]? =L[n]? :=by
 induction u generalizing L with
 |nil=>exact⟨rfl,rfl⟩
 |cons q r ih=>
  simp only[MN,GA,not_or] at h
  obtain⟨i1,i2⟩:=ih (L:=DK L q) h.2
  have hu:(DK L q)[n]? =L[n]? :=by
   unfold DK
   split
   ·rw[ALJ (fun he=>h.1 he.symm)]
   ·rfl
  have e2:(AK L (q::r))[n]? =L[n]? :=i2.trans hu
  exact⟨by unfold look;rw[e2],e2⟩
theorem AGQ {L L' :AL} {u:C7} {n:Nat} (h:L[n]? =L'[n]?):(AK L u)[n]? =(AK L' u)[n]? :=by
 induction u generalizing L L' with
 |nil=>exact h
 |cons q r ih=>
  refine ih (L:=DK L q) (L' :=DK L' q) ?_
  by_cases hn:q.1=n
  ·subst hn
   unfold DK
   rw[<-h]
   cases hx:L[q.1]? with
   |none=>simp only;rw[hx,←h,hx]
   |some p=>
    obtain⟨v,e⟩:=p
    simp only
    have h1:q.1<L.length:=by
     rcases IA q.1 L.length with h' |h'
     ·exact h'
     ·rw[UX h'] at hx;cases hx
    have h2:q.1<L'.length:=by
     rcases IA q.1 L'.length with h' |h'
     ·exact h'
     ·rw[h,UX h'] at hx;cases hx
    rw[ALF h1,ALF h2]
  ·have e:∀ L:AL,(DK L q)[n]? =L[n]? :=by
    intro L
    unfold DK
    split
    ·rw[ALJ hn]
    ·rfl
   rw[e,e,h]
theorem AP7 {L:AL} {u v:C7} (h:∀ n∈u.map (·.1),n∉v.map (·.1)):AK (AK L u) v=AK (AK L v) u:=by
 apply WC
 intro n
 by_cases hu:n∈u.map (·.1)
 ·have hv:=h n hu
  rw[(H7 hv).2]
  exact AGQ ((H7 hv).2).symm
 ·rw[(H7 hu).2]
  exact AGQ (H7 hu).2
theorem AGR {ft:List Nat} {f g:Nat->Option AX} (h:∀ n∈ft,f n=g n):sN ft f=sN ft g:=by
 funext n
 unfold sN
 cases hc:ft.contains n with
 |true=>exact h n (by simpa using hc)
 |false=>rfl
theorem AP8 {o:Oper} {t:Nat} (h:Operand.tmp t∈o.op.operands.toList):t∈ZF all o:=FG.2 (.inl (AAD.2 ⟨.tmp t,h,rfl⟩))
theorem AB9 {i:Nat} {o:Oper} (ho:all[i]? =some o) {fr fr' :List SV} {L L' :AL} (hev:∀ x∈o.op.operands.toList,ev fr' x=ev fr x) (hg:dG all o fr' =dG all o fr) (hL:∀ n∈P1 cx fr (look L) o,look L' n=look L n):
  P1 cx fr' (look L') o=P1 cx fr (look L) o∧
   dH P cx all o i fr' (sN (P1 cx fr' (look L') o) (look L')) pr=dH P cx all o i fr (sN (P1 cx fr (look L) o) (look L)) pr:=by
 have hd:WZ fr' o=WZ fr o:=by
  unfold WZ
  rw[AAG,AAG]
  congr 1
  apply WB
  intro x hx
  simp only[evc,hev x hx]
 have hf:P1 cx fr' (look L') o=P1 cx fr (look L) o:=by
  cases hm:A3J o.op && !cx.AW9 o.dst with
  |true=>unfold P1;rw[hm]
  |false=>
   have hbl:YA fr' o.op=YA fr o.op:=by
    unfold YA
    cases EP:o.op <;> try rfl
    all_goals rw[EP] at hev
    all_goals simp only[evc]
    all_goals rw[hev _ (by simp [Op.operands])]
   have hcc:YB fr' o.op=YB fr o.op:=by
    unfold YB
    cases EP:o.op <;> try rfl
    rename_i cl
    obtain⟨cal,args,ats⟩:=cl
    cases cal <;> try rfl
    rename_i f
    rw[EP] at hev
    simp only[evc]
    rw[hev f (by simp [Op.operands,Go.Call.operands])]
   unfold P1
   rw[hm,hd,hbl]
   simp only
   congr 2
   cases hb:YA fr o.op with
   |true=>rfl
   |false=>
   simp only
   have h1:(WZ fr o).flatMap (VN (look L'))=(WZ fr o).flatMap (VN (look L)):=by
    rw[AAG,AAG]
    congr 1
    apply WB
    intro n hn
    unfold VN
    rw[hL n (by unfold P1;rw[hm];exact FG.2 (.inl (FG.2 (.inl hn))))]
   rw[h1,hcc]
   congr 1
   cases hc:YB fr o.op with
   |false=>rfl
   |true=>
   simp only
   rw[AAG,AAG]
   congr 1
   apply WB
   intro n hn
   have hn' :n∈P1 cx fr (look L) o:=by
    unfold P1;rw[hm,hb];exact FG.2 (.inl (FG.2 (.inr (FG.2 (.inl hn)))))
   unfold VN
   rw[hL n hn']
 refine⟨hf, ?_⟩
 rw[hf,AGR hL]
 unfold dH
 rw[hg]
 have hnu:AMK fr' o.op=AMK fr o.op:=by
  unfold AMK
  rw[a_]
  simp only[LP]
  constructor
  ·intro h x hx;rw[<-hev x hx];exact h x hx
  ·intro h x hx;rw[hev x hx];exact h x hx
 rw[hnu]
 split
 ·rfl
 ·rfl
 ·split
  ·rfl
  ·exact AK5 fun x hx=>by simp only[evc,hev x hx]
theorem AGS {x y:Met} (h:qQ x y=true):(∀ d,x.dst=some d->d∉y.lks)/\(∀ d,x.dst=some d->y.dst≠some d)/\(∀ d,y.dst=some d->d∉x.lks)/\(∀ n∈x.wr,n∉y.rd/\n∉y.wr)/\(∀ n∈y.wr,n∉x.rd):=by
 unfold qQ at h
 simp only[ID,LP,TZ,ACC,aY] at h
 obtain⟨⟨⟨h1,h2⟩,h3⟩,h4⟩:=h
 refine⟨fun d hd=> ?_,fun d hd=> ?_,fun d hd=> ?_,h3,h4⟩
 ·rw[hd] at h1;simp at h1;exact h1.1
 ·rw[hd] at h1;simp at h1;exact h1.2
 ·rw[hd] at h2;simpa using h2
theorem sO {o:Oper} {fr:List SV} {d:Option Tmp} {v:SV} (h:∀ t,d=some t->t∉ZF all o):dG all o (SF fr d v)=dG all o fr:=by
 unfold dG
 cases hg:o.guard with
 |none=>rfl
 |some q=>
  obtain⟨j,want⟩:=q
  simp only
  cases hj:all[j]? with
  |none=>rfl
  |some oj=>
   simp only
   cases hd:oj.dst with
   |none=>rfl
   |some t=>
    simp only
    have:(SF fr d v).getD t AW=fr.getD t AW:=by
     cases d with
     |none=>rfl
     |some d=>
      simp only[SF,FH]
      rw[AD]
      rintro⟨rfl,_⟩
      refine h d rfl ?_
      unfold ZF
      rw[hg]
      simp [hj,hd]
    rw[this]
theorem xG {o:Oper} {fr:List SV} {d:Option Tmp} {v:SV} (h:∀ t,d=some t->t∉ZF all o):∀ x∈o.op.operands.toList,ev (SF fr d v) x=ev fr x:=by
 intro x hx
 refine ASE fun t ht he=>h t ht ?_
 subst he
 exact AP8 hx
theorem ASF {x i:Nat} {s s1 s2:List SV×AL} {f g:Met} (h1:sst P cx all x s=some (s1,f)) (h2:sst P cx all i s1=some (s2,g)) (ha:qQ f g=true):
  ∃ s1',sst P cx all i s=some (s1',g)/\sst P cx all x s1' =some (s2,f):=by
 obtain⟨fr,L⟩:=s
 unfold sst at h1 h2
 split at h1
 ·cases h1
 rename_i ox hox
 split at h1
 rotate_left
 ·cases h1
 rename_i vx ux hx
 simp only[BA,DH] at h1
 obtain⟨rfl,rfl⟩:=h1
 split at h2
 ·cases h2
 rename_i oi hoi
 split at h2
 rotate_left
 ·cases h2
 rename_i vi ui hi
 simp only[BA,DH] at h2
 obtain⟨rfl,rfl⟩:=h2
 obtain⟨a1,a2,a3,a4,a5⟩:=AGS ha
 simp only at a1 a2 a3 a4 a5 hi hx
 obtain⟨f1,f2⟩:=AB9 (P:=P) (cx:=cx) hoi (fr:=SF fr ox.dst vx) (fr' :=fr) (L:=AK L ux) (L' :=L) (fun y hy=>(xG a1 y hy).symm) (sO a1).symm
  (fun n hn=>((H7 (fun hw=>(a4 n hw).1 hn)).1).symm)
 obtain⟨g1,g2⟩:=AB9 (P:=P) (cx:=cx) hox (fr:=fr) (fr' :=SF fr oi.dst vi) (L:=L) (L' :=AK L ui) (fun y hy=>xG a3 y hy) (sO a3)
  (fun n hn=>(H7 (fun hw=>a5 n hw hn)).1)
 refine⟨(SF fr oi.dst vi,AK L ui), ?_, ?_⟩
 ·unfold sst
  rw[hoi]
  simp only
  rw[f2,hi]
  simp only[f1]
 ·unfold sst
  rw[hox]
  simp only
  rw[g2,hx]
  simp only[g1]
  rw[AP6 (fr:=fr) (x:=ox.dst) (y:=oi.dst) (u:=vx) (v:=vi) a2,AP7 (L:=L) (u:=ux) (v:=ui) (fun n hn=>(a4 n hn).2)]
theorem xH {i:Nat}:∀ (l1 l2:List Nat) (s s' :List SV×AL) (fs:List Met),Run P cx all (l1++i::l2) s s' fs->fs.Pairwise (AWQ all)->(∀ x∈l1,∀ o,all[i]? =some o->x∉AMN all o)→
  ∃ g uQ,Run P cx all (i::(l1++l2)) s s' (g::uQ)/\g∈fs/\g.i=i/\uQ.Sublist fs
 | [],l2,s,s',fs,h,_,_=>by
  obtain⟨s1,f,uQ,h1,h2,rfl⟩:=h
  refine⟨f,uQ,⟨s1,f,uQ,h1,h2,rfl⟩,by simp, ?_,List.sublist_cons_self _ _⟩
  unfold sst at h1
  split at h1
  ·cases h1
  ·split at h1
   ·simp only[BA,DH] at h1;rw[<-h1.2]
   ·cases h1
 |x::l1,l2,s,s',fs,h,hp,ha=>by
  obtain⟨s1,f,fs1,h1,h2,rfl⟩:=h
  rw[cQ] at hp
  obtain⟨g,uQ,k1,k2,k3,k4⟩:=xH l1 l2 s1 s' fs1 h2 hp.2 (fun y hy=>ha y (by simp [hy]))
  obtain⟨s2,g',fs2,k5,k6,k7⟩:=k1
  simp only[mS] at k7
  obtain⟨rfl,rfl⟩:=k7
  have hfi:f.i=x:=by
   unfold sst at h1
   split at h1
   ·cases h1
   ·split at h1
    ·simp only[BA,DH] at h1;rw[<-h1.2]
    ·cases h1
  have hap:qQ f g=true:=by
   rcases hp.1 g k2 with ⟨o,ho,hx⟩|h
   ·rw[k3] at ho
    rw[hfi] at hx
    exact absurd hx (ha x (by simp) o ho)
   ·exact h
  obtain⟨s1',q1,q2⟩:=ASF h1 k5 hap
  exact⟨g,f::uQ,⟨s1',g,_,q1,⟨s2,f,_,q2,k6,rfl⟩,rfl⟩,by simp [k2],k3,k4.cons_cons f⟩
end
section
variable {P:Program} {ops:Array Oper} {Q:Exit->Act->World->Prop}
def isL (listed:Array Bool) (i:Nat):Prop:=listed.getD i false=true
theorem AGT {listed:Array Bool} (hc:∀ i o,ops[i]? =some o->isL listed i->∀ j∈R9 o,isL listed j):∀ (n:Nat) (todo seen:List Nat),(∀ j∈todo,isL listed j)->(∀ j∈seen,isL listed j)->∀ j∈AGN ops.toList n todo seen,isL listed j:=by
 intro n
 induction n with
 |zero=>intro todo seen _ h2 j hj;exact h2 j (by simpa [AGN] using hj)
 |succ n ih=>
  intro todo seen h1 h2
  cases todo with
  |nil=>intro j hj;exact h2 j (by simpa [AGN] using hj)
  |cons i todo=>
   have hi:=h1 i (by simp)
   have ht:∀ j∈todo,isL listed j:=fun j hj=>h1 j (by simp [hj])
   simp only[AGN]
   split
   ·exact ih todo seen ht h2
   ·split
    ·rename_i o ho
     refine ih _ _ ?_ ?_
     ·intro j hj
      rcases FG.1 hj with hj|hj
      ·exact hc i o (by rw[<-kX];exact ho) hi j hj
      ·exact ht j hj
     ·intro j hj
      rcases GA.1 hj with rfl|hj
      ·exact hi
      ·exact h2 j hj
    ·exact ih todo seen ht h2
theorem xI:∀ (l:List Oper) (k:Nat),AGO ops.toList l k=true->∀ (i:Nat) (o:Oper),l[i]? =some o->∀ j∈R9 o,j<k+i
 | [],_,_,i,o,h=>by simp at h
 |o' ::r,k,h,i,o,ho=>by
  simp only[AGO,ID,LP,JL] at h
  cases i with
  |zero=>simp only[QP,BA] at ho;subst ho;exact h.1
  |succ i=>
   intro j hj
   have:=xI r (k+1) h.2 i o (by simpa using ho) j hj
   omega
theorem sP {o:Oper} {j:Nat}:j∈R9 o↔∃ e∈o.after,Region.binds .any e=true/\e.on=j:=by
 unfold R9
 simp only[DD,bB]
 constructor
 ·rintro⟨e,⟨h1,h2⟩,h3⟩;exact⟨e,by simpa using h1,h2,h3⟩
 ·rintro⟨e,h1,h2,h3⟩;exact⟨e,⟨by simpa using h1,h2⟩,h3⟩
structure Sg (ops:Array Oper) (listed:Array Bool) (l:List Nat):Prop where
 size:listed.size=ops.size
 mem:∀ i,i∈l↔i<ops.size/\¬isL listed i
 sorted:l.Pairwise (·< ·)
 closed:∀ i o,ops[i]? =some o->isL listed i->∀ j∈R9 o,isL listed j
theorem A0P {cx:Cx} (hcx:cx.Ok P) (A3K:AGO ops.toList ops.toList 0=true) {W:List Nat} (hW:∀ (i:Nat) (o:Oper),ops[i]? =some o->∀ d,o.dst=some d->d∈W) {c:EC cx.tb} {fr0:List SV} {L0:AL} {E0:Env} {s' :List SV×AL}
  (hK:∀ E' a' w',St c E' s'.1 s'.2 a' w' ->Ext W E0 fr0 L0 E' s'.1 s'.2->Q .normal a' w'):
  ∀ (n:Nat) (l:List Nat) (listed:Array Bool) (fs:List Met) (s:List SV×AL) (E:Env) (a:Act) (w:World),l.length=n->Sg ops listed l->Run P cx ops.toList l s s' fs->fs.Pairwise (AWQ ops.toList)->St c E s.1 s.2 a w->Ext W E0 fr0 L0 E s.1 s.2→
   wpAny P .any ops Q n listed a w:=by
 have AK6:∀ (listed:Array Bool) (l:List Nat),Sg ops listed l->∀ i,i∈Region.ready .any ops listed↔i∈l/\∃ o,ops[i]? =some o/\∀ j∈R9 o,isL listed j:=by
  intro listed l hs i
  rw[mem_ready]
  constructor
  ·rintro⟨h1,o,ho,h2⟩
   have DO:i<ops.size:=(Array.getElem?_eq_some_iff.1 ho).1
   have lB:i<listed.size:=by rw[hs.size];exact DO
   refine⟨(hs.mem i).2 ⟨DO,fun hx=> ?_⟩,o,ho,fun j hj=> ?_⟩
   ·unfold isL at hx
    simp [lB] at h1 hx
    rw[h1] at hx;cases hx
   ·obtain⟨e,he,hb,rfl⟩:=sP.1 hj
    exact h2 e he hb
  ·rintro⟨h1,o,ho,h2⟩
   obtain⟨DO,hn⟩:=(hs.mem i).1 h1
   have lB:i<listed.size:=by rw[hs.size];exact DO
   refine⟨?_,o,ho,fun e he hb=>h2 _ (sP.2 ⟨e,he,hb,rfl⟩)⟩
   unfold isL at hn
   simp [lB] at hn ⊢
   exact hn
 intro n
 induction n with
 |zero=>
  intro l listed fs s E a w hl hs KG hpw hst MV
  obtain rfl:l=[]:=List.eq_nil_of_length_eq_zero hl
  obtain⟨rfl,rfl⟩:=KG
  refine⟨AQL.2 fun i hi=> ?_,hK E a w hst MV⟩
  have:=((AK6 _ _ hs i).1 hi).1
  cases this
 |succ n ih=>
  intro l listed fs s E a w hl hs KG hpw hst MV
  refine⟨fun h0=> ?_,fun i hi=> ?_⟩
  ·exfalso
   cases l with
   |nil=>simp at hl
   |cons k r=>
    obtain⟨DO,hn⟩:=(hs.mem k).1 (by simp)
    have ho:ops[k]? =some ops[k]:=AQN DO
    have:k∈Region.ready .any ops listed:=(AK6 _ _ hs k).2 ⟨by simp,_,ho,fun j hj=>by
     have kL:=xI ops.toList 0 A3K k ops[k] (by rw[kX];exact ho) j hj
     rw[KK] at kL
     refine vF fun hx=> ?_
     have tQ:=(hs.mem j).2 ⟨by omega,hx⟩
     rcases GA.1 tQ with rfl|tQ
     ·omega
     ·have:=(cQ.1 hs.sorted).1 j tQ
      omega⟩
    rw[h0] at this;cases this
  ·obtain⟨hil,o,ho,A3L⟩:=(AK6 _ _ hs i).1 hi
   obtain⟨l1,l2,rfl⟩:=List.append_of_mem hil
   have ho' :ops.toList[i]? =some o:=by rw[kX];exact ho
   have A64:∀ x∈l1,∀ o',ops.toList[i]? =some o' ->x∉AMN ops.toList o' :=by
    intro x hx o' ho2 OU
    rw[ho'] at ho2
    simp only[BA] at ho2
    subst ho2
    have:=AGT hs.closed 4000 (R9 o) [] A3L (by simp) x OU
    exact ((hs.mem x).1 (by simp [hx])).2 this
   obtain⟨g,fs2,⟨s1,g',A7Q,k5,k6,k7⟩,k2,k3,k4⟩:=xH l1 l2 s s' fs KG hpw A64
   obtain⟨e1,e2⟩:=List.cons.inj k7
   subst e1
   rw[<-e2] at k6
   unfold sst at k5
   rw[ho'] at k5
   simp only at k5
   split at k5
   rotate_left
   ·cases k5
   rename_i v u nT
   simp only[BA,DH] at k5
   obtain⟨rfl, -⟩:=k5
   refine AML hcx ho hst (fun n e h=> ?_) nT fun E' a' w' xE hnm hds=> ?_
   ·unfold sN at h
    split at h
    ·exact h
    ·cases h
   ·have JE:(l1++i::l2).Nodup:=hs.sorted.imp (fun h=>Nat.ne_of_lt h)
    have DO:i<ops.size:=((hs.mem i).1 hil).1
    have WI:∀ j,isL (listed.setIfInBounds i true) j↔j=i\/isL listed j:=by
     intro j
     unfold isL
     by_cases hji:i=j
     ·subst hji
      have:i<listed.size:=by rw[hs.size];exact DO
      simp [this]
     ·simp [Array.getElem?_setIfInBounds_ne hji,Ne.symm hji]
    refine ih (l1++l2) (listed.setIfInBounds i true) fs2 _ E' a' w' (by simp at hl ⊢;omega) ⟨by simp [hs.size],fun j=> ?_, ?_, ?_⟩ k6 (hpw.sublist k4) xE (MV.trans ?_)
    ·rw[WI,not_or]
     constructor
     ·intro hj
      have tQ:j∈l1++i::l2:=by
       rcases FG.1 hj with h|h
       ·exact FG.2 (.inl h)
       ·exact FG.2 (.inr (by simp [h]))
      obtain⟨q1,q2⟩:=(hs.mem j).1 tQ
      refine⟨q1, ?_,q2⟩
      rintro rfl
      rw[RF] at JE
      rcases FG.1 hj with h|h
      ·exact JE.2.2 j h j (by simp) rfl
      ·exact (WD.1 JE.2.1).1 h
     ·rintro⟨q1,q2,q3⟩
      have:=(hs.mem j).2 ⟨q1,q3⟩
      rcases FG.1 this with h|h
      ·exact FG.2 (.inl h)
      ·rcases GA.1 h with h|h
       ·exact absurd h q2
       ·exact FG.2 (.inr h)
    ·exact hs.sorted.sublist (List.Sublist.append_left (List.sublist_cons_self _ _) _)
    ·intro j oj hj hlj k hk
     rw[WI] at hlj ⊢
     right
     rcases hlj with rfl|hlj
     ·rw[ho] at hj;simp only[BA] at hj;subst hj;exact A3L k hk
     ·exact hs.closed j oj hj hlj k hk
    ·exact⟨hnm,fun t _=>by rw[hds],bI.AK _ _,sM _ _ _,AMM fun t ht=>hW i o ho t ht⟩
end
end Go.V3
namespace Go.V3
open Go
variable {TB:Tb}
def SO {σ β:Type} (f:σ->Option (σ ⊕ β)):Nat->σ->Option β
 |0,_=>none
 |n+1,s=>match f s with
  |none=>none
  |some (.inl s')=>SO f n s'
  |some (.inr b)=>some b
open Classical in
noncomputable def AI {σ β:Type} (f:σ->Option (σ ⊕ β)) (s:σ):Option β:=
 if h:∃ b,∃ n,SO f n s=some b then some h.choose else none
theorem xJ {σ β:Type} {f:σ->Option (σ ⊕ β)}:∀ {n:Nat} {s:σ} {b:β},SO f n s=some b->SO f (n+1) s=some b
 |0,s,b,h=>by cases h
 |n+1,s,b,h=>by
  rw[SO] at h ⊢
  split
  ·rename_i hf;rw[hf] at h;cases h
  ·rename_i s' hf;rw[hf] at h;exact xJ h
  ·rename_i b' hf;rw[hf] at h;exact h
theorem AGU {σ β:Type} {f:σ->Option (σ ⊕ β)} {n m:Nat} {s:σ} {b:β} (h:SO f n s=some b) (hm:n<=m):SO f m s=some b:=by
 induction hm with
 |refl=>exact h
 |step _ ih=>exact xJ ih
theorem RL {σ β:Type} {f:σ->Option (σ ⊕ β)} {s:σ} {b:β}:AI f s=some b↔∃ n,SO f n s=some b:=by
 unfold AI
 constructor
 ·intro h
  split at h
  ·rename_i hx
   simp only[BA] at h
   rw[<-h];exact hx.choose_spec
  ·cases h
 ·rintro⟨n,hn⟩
  have hx:∃ b,∃ n,SO f n s=some b:=⟨b,n,hn⟩
  rw[dif_pos hx]
  obtain⟨m,hm⟩:=hx.choose_spec
  have h1:=AGU hn (Nat.le_max_left n m)
  have h2:=AGU hm (Nat.le_max_right n m)
  rw[h1] at h2
  exact h2.symm
theorem SP {σ β:Type} (f:σ->Option (σ ⊕ β)) (s:σ):AI f s=match f s with
  |none=>none
  |some (.inl s')=>AI f s'
  |some (.inr b)=>some b:=by
 have key:∀ b,AI f s=some b↔(match f s with
  |none=>none
  |some (.inl s')=>AI f s'
  |some (.inr b)=>some b)=some b:=by
  intro b
  rw[RL]
  constructor
  ·rintro⟨n,hn⟩
   cases n with
   |zero=>cases hn
   |succ n=>
    rw[SO] at hn
    split at hn
    ·cases hn
    ·rename_i s' hf
     first|exact RL.2 ⟨n,hn⟩|(rw[hf];exact RL.2 ⟨n,hn⟩)
    ·rename_i b' hf
     first|exact hn|(rw[hf];exact hn)
  ·intro h
   split at h
   ·cases h
   ·rename_i s' hf
    obtain⟨n,hn⟩:=RL.1 h
    exact⟨n+1,by rw[SO,hf];exact hn⟩
   ·rename_i b' hf
    exact⟨1,by rw[SO,hf];exact h⟩
 cases h1:AI f s with
 |some b=>exact ((key b).1 h1).symm
 |none=>
  cases h2:(match f s with
  |none=>none
  |some (.inl s')=>AI f s'
  |some (.inr b)=>some b:Option β) with
  |none=>rfl
  |some b=>rw[(key b).2 h2] at h1;cases h1
def writes:Code->List Nat
 | .region _ ops _=>ops.toList.filterMap (·.dst)
 | .seq a b=>writes a++writes b
 | .cond _ a b=>writes a++writes b
 | .block _ c=>writes c
 | .loop c=>writes c
 | .scope c=>writes c
 |_=>[]
def HT.app:(zas bs:List CT)->HT zas->HT bs->HT (zas++bs)
 | [],_,_,y=>y
 | [_],bs,x,y=>HT.mk _ bs x y
 |_::d::r,bs,x,y=>(x.1,HT.app (d::r) bs x.2 y)
theorem HT.AGV:∀ (zas bs:List CT) (x:HT zas) (y:HT bs),HT.left zas bs (HT.app zas bs x y)=x
 | [],_,_,_=>rfl
 | [c],bs,x,y=>HT.rZ c bs x y
 |c::d::r,bs,x,y=>by
  show (x.1,HT.left (d::r) bs (HT.app (d::r) bs x.2 y))=x
  rw[HT.AGV (d::r) bs x.2 y]
theorem HT.ABA:∀ (zas bs:List CT) (x:HT zas) (y:HT bs),HT.right zas bs (HT.app zas bs x y)=y
 | [],_,_,_=>rfl
 | [c],bs,x,y=>HT.r_ c bs x y
 |c::d::r,bs,x,y=>by
  show HT.right (d::r) bs (HT.app (d::r) bs x.2 y)=y
  exact HT.ABA (d::r) bs x.2 y
def MB (a:Ty):CT:=⟨.slice a,false,true,false⟩
@[reducible] def bG.VC (BT:bG):List CT:=BT.live.map (·.2)++BT.boxes.map (·.2)
@[reducible] def bG.csR (BT:bG):List CT:=BT.rows.map fun q=>MB q.2
abbrev bG.T (BT:bG):Type:=HT (BT.VC++BT.csR)
def dJ (AR:Nat->Option AX):List (Nat×CT)->Option (List SV)
 | []=>some []
 |(n,c)::r=>match AR n with
  |some (.box cs)=>(match dJ AR r with
   |some l=>(match c.agg with
    |true=>some (.agg cs::l)
    |false=>(match cs with
     | [v]=>some (v::l)
     |_=>none))
   |none=>none)
  |_=>none
def xK (AR:Nat->Option AX):(rows:List (Nat×Ty))->Option (HT (rows.map fun q=>MB q.2))
 | []=>some ()
 |(n,a)::r=>match AR n with
  |some (.row t xs)=>if h:t=a then (if a.tK=true then none else match xK AR r with
   |some y=>some (HT.mk (MB a) (r.map fun q=>MB q.2) (H6 h xs) y)
   |none=>none) else none
  |some (.deep t xss none)=>if h:Ty.slice t=a then (match xK AR r with
   |some y=>some (HT.mk (MB a) (r.map fun q=>MB q.2) (H6 h xss) y)
   |none=>none) else none
  |some (.map xs)=>if h:Ty.kv=a then (match xK AR r with
   |some y=>some (HT.mk (MB a) (r.map fun q=>MB q.2) (H6 h xs) y)
   |none=>none) else none
  |_=>none
def ver (L:AL) (n:Nat):Nat:=match L[n]? with
 |some q=>q.1
 |none=>0
def IF (L:AL) (n:Nat):Bool:=match look L n with
 |some .L5=>true
 |_=>false
def AMO (L:AL) (n:Nat):Bool:=match look L n with
 |some e=> !e.IF
 |none=>false
def bG.zN (BT:bG):List Nat:=BT.lost++(List.range (cnts BT.VC)).map (fun k=>BT.base+k)++BT.boxes.map (·.1)++BT.rows.map (·.1)
def A3M (BT:bG) (L0 L:AL) (on:List Nat) (fz:C7):Bool:=
 decide BT.zN.Nodup && (List.range (cnts BT.VC)).all (fun k=>IF L0 (BT.base+k)) && (BT.boxes.map (·.1)++BT.rows.map (·.1)++BT.lost).all (fun n=>AMO L0 n) &&
 (BT.boxes.map (·.1)++BT.rows.map (·.1)).all (fun n=> !on.contains n && !(fz.map (·.1)).contains n) &&
 (List.range L0.length).all (fun n=>IF L0 n||BT.zN.contains n||(ver L0 n==ver L n && !on.contains n && !(fz.map (·.1)).contains n)) &&
 BT.VC.all (fun c=> !c.ptr)
def X5:List (Nat×Nat×Nat)->AL->AL
 | [],L=>L
 |(k,o,i)::r,L=>match look L k,look L o,look L i with
  |some (.row t xs),some .dead,some (.box cs)=>X5 r (AK L [(k,.dead),(o,.row t xs),(i,.box (cs.map (zJ k o)))])
  |_,_,_=>X5 r L
def A0Q (BT:bG) (L0:AL) (nes:List NE):Bool:=BT.pins.all fun p=>decide (BT.base<=p.1) && decide (p.1<BT.base+cnts BT.VC) && gQ nes[p.1-BT.base]? p.2.1 && AMO L0 p.2.1
def ZG (BT:bG) (L0:AL) (fr:List SV) (L:AL):Option BT.T:=
 match dJ (look L) BT.boxes with
 |none=>none
 |some bs=>match KF .iG (look L) BT.VC (BT.live.map (fun q=>fr.getD q.1 AW)++bs) with
  |none=>none
  |some a=>match xK (look L) BT.rows with
   |none=>none
   |some y=>match okA a && A3M BT L0 L a.on a.fz && BT.live.all (fun q=> !AB7 (fr.getD q.1 AW)) && A0Q BT L0 a.nes with
    |true=>some (HT.app BT.VC BT.csR a.x y)
    |false=>none
def QX:(cs:List CT)->HT cs->List AX
 | [],_=>[]
 |c::r,x=>B_ c.own c.t (HT.hd c r x)++QX r (HT.tl c r x)
def dK:List (Nat×CT)->List SV->C7
 |(n,_)::r,v::vs=>(n,.box (BL v))::dK r vs
 |_,_=>[]
def lN:(rows:List (Nat×Ty))->HT (rows.map fun q=>MB q.2)->C7
 | [],_=>[]
 |(n,a)::r,x=>(n,KD a (HT.hd (MB a) (r.map fun q=>MB q.2) x))::lN r (HT.tl (MB a) (r.map fun q=>MB q.2) x)
def bG.svs (BT:bG) (s:BT.T):List SV:=outSVs BT.VC (HT.left BT.VC BT.csR s) BT.base
def LD (BT:bG) (s:BT.T):C7:=
 BT.lost.map (fun n=>(n,.dead))++(CW BT.base (QX BT.VC (HT.left BT.VC BT.csR s))++(dK BT.boxes ((BT.svs s).drop BT.live.length)++lN BT.rows (HT.right BT.VC BT.csR s)))
def RM (fr:List SV):List (Nat×SV)->List SV
 | []=>fr
 |(t,v)::r=>RM (fr.set t v) r
def ZH (BT:bG) (fr:List SV) (s:BT.T):List SV:=RM (RM fr (BT.dead.map fun t=>(t,.pO t))) ((BT.live.map (·.1)).zip (BT.svs s))
def AK7 (BT:bG) (ws:List Nat):Bool:=ws.all (fun t=>(BT.live.map (·.1)).contains t||BT.dead.contains t) && (BT.live.map (·.1)).all ws.contains && BT.dead.all ws.contains && decide (BT.live.map (·.1)++BT.dead).Nodup
def W0:Code->Option Nat
 | .region id _ _=>some id
 | .seq a b=>(match W0 a with
  |some i=>some i
  |none=>W0 b)
 | .cond _ a b=>(match W0 a with
  |some i=>some i
  |none=>W0 b)
 | .block _ c=>W0 c
 | .loop c=>W0 c
 | .scope c=>W0 c
 |_=>none
def A0R (cx:Cx) (b:Code):Option bG:=match W0 b with
 |some i=>lk cx.aQ i
 |none=>none
def AD8 (L:AL) (n:Nat):AL:=match look L n with
 |some (.deep t xss h)=>(match qG (look L) n t xss h with
  |some (_,u)=>AK L u
  |none=>L)
 |_=>L
def H0:List (Nat×Ty)->AL->AL
 | [],L=>L
 |q::r,L=>H0 r (AD8 L q.1)
def ASG {α:Type} (cx:Cx) (id:Nat) (fr:List SV) (L:AL) (K:AL->Option α):Option α:=match lk cx.opens id with
 |none=>K L
 |some (s,t,bs)=>(match fr.getD s AW,idxOf (fr.getD t AW) with
  | .NV i,some n=>(match look L i with
   |some (.deep a xss h)=>(match JI (look L) bs 1 with
    |true=>(match qG (look L) i a xss h with
     |some (ys,u)=>if 0<=n/\n<(ys.length:Int) then K (AK L (u++ [(bs,.dead),(i,.deep a ys (some (n.toNat,bs))),(bs,.row a (ys.getD n.toNat []))])) else none
     |none=>none)
    |false=>none)
   |_=>none)
  |_,_=>none)
noncomputable def rk (P:Program) (cx:Cx):Code->(α:Type)->Nat->(Exit->List SV->AL->Option α)->List SV->AL->Option α
 | .skip,_,_,K,fr,L=>K .normal fr L
 | .label _,_,_,K,fr,L=>K .normal fr L
 | .ret,_,_,K,fr,L=>K .ret fr L
 | .exit id,_,_,K,fr,L=>K (.exit id) fr L
 | .region id ops draw,_,_,K,fr,L=>ASG cx id fr L (fun L=>match draw with
  |true=>(match AGO ops.toList ops.toList 0 && P.follows .mixedOrders with
   |true=>A0O P cx ops.toList ops.toList 0 [] fr L (fun fr' L' =>K .normal fr' L')
   |false=>none)
  |false=>ASB P cx ops.toList ops.toList 0 fr L (fun fr' L' =>K .normal fr' L'))
 | .seq a b,α,MC,K,fr,L=>(match A0R cx b with
  |none=>rk P cx a α MC (fun e fr' L' =>match e with
   | .normal=>rk P cx b α MC K fr' L'
   |e=>K e fr' L') fr L
  |some BT=>(match AK7 BT (writes a) with
   |true=>(rk P cx a (BT.T ⊕ α) MC (fun e fr' L' =>match e with
    | .normal=>(ZG BT (H0 BT.rows L) fr' (H0 BT.rows L')).map Sum.inl
    |e=>(K e fr' L').map Sum.inr) fr (H0 BT.rows L)).bind (fun r=>match r with
     | .inl s=>rk P cx b α MC K (ZH BT fr s) (X5 BT.pins (AK (H0 BT.rows L) (LD BT s)))
     | .inr b=>some b)
   |false=>none))
 | .cond c x y,α,MC,K,fr,L=>(match ev fr c with
  | .O2 b=>(match b with
   |true=>rk P cx x α MC K fr L
   |false=>rk P cx y α MC K fr L)
  | .bool b=>if b=true then rk P cx x α MC K fr L else rk P cx y α MC K fr L
  | .prop p d=> @ite _ p d (rk P cx x α MC K fr L) (rk P cx y α MC K fr L)
  |_=>none)
 | .block id c,α,_,K,fr,L=>rk P cx c α id (fun e fr' L' =>match e with
  | .exit i=>if i=id then K .normal fr' L' else K (.exit i) fr' L'
  |e=>K e fr' L') fr L
 | .scope c,α,MC,K,fr,L=>rk P cx c α MC (fun e fr' L' =>match e with
  | .goto _=>none
  |e=>K e fr' L') fr L
 | .loop c,α,MC,K,fr,L=>(match lk cx.loops MC with
  |none=>none
  |some BT=>(match AK7 BT (writes c) with
   |true=>(match ZG BT (H0 BT.rows L) fr (H0 BT.rows L) with
    |none=>none
    |some s0=>AI (fun s=>rk P cx c (BT.T ⊕ α) MC (fun e fr' L' =>match e with
     | .normal=>(ZG BT (H0 BT.rows L) fr' (H0 BT.rows L')).map Sum.inl
     |e=>(K e fr' L').map Sum.inr) (ZH BT fr s) (X5 BT.pins (AK (H0 BT.rows L) (LD BT s)))) s0)
   |false=>none))
 |_,_,_,_,_,_=>none
end Go.V3
namespace Go.V3
open Go
variable {TB:Tb}
theorem dL {c:EC TB} {G:Nat->Prop} {w:World}:∀ (cs:List CT) (x:HT cs) (ms:Nat->Nm),(cs.all fun d=> !d.ptr)=true→
  (QX cs x).length=cnts cs/\(PS c G w cs x ms->∀ j e,(QX cs x)[j]? =some e->k_ c G w (ms j) e)/\CF cs x ms=HK (QX cs x) ms/\(∀ e∈QX cs x,e.IF=false)
 | [],_,_,_=>⟨rfl,fun _ j e h=>by simp [QX] at h,rfl,fun e h=>by simp [QX] at h⟩
 |d::r,x,ms,hp=>by
  simp only[vV,ID,TZ] at hp
  have hpn:d.pn=0:=by simp [CT.pn,hp.1]
  have qE:d.cnt=d.t.HW:=by simp [CT.cnt,hpn]
  obtain⟨i1,i2,i3,i4⟩:=dL (c:=c) (G:=G) (w:=w) r (HT.tl d r x) (fun k=>ms (d.cnt+k)) hp.2
  have hoc:NY d (HT.hd d r x) ms=HK (B_ d.own d.t (HT.hd d r x)) ms:=by
   unfold NY;rw[hp.1,hpn];simp
  refine⟨by simp [QX,BI,i1,cnts,qE],fun hps j e he=> ?_, ?_, ?_⟩
  ·simp only[QX] at he
   by_cases hj:j<(B_ d.own d.t (HT.hd d r x)).length
   ·rw[WA hj] at he
    have:=hps.1.1 j e he
    rw[hpn,KK] at this
    exact this
   ·rw[V_ (by omega)] at he
    have:=i2 hps.2 _ e he
    rw[BI] at this hj
    have e2:d.cnt+(j-d.t.HW)=j:=by omega
    rw[e2] at this
    exact this
  ·rw[qE] at i3
   simp only[CF,QX,ZC,hoc,BI,qE]
   rw[i3]
  ·intro e he
   rcases FG.1 he with he|he
   ·obtain⟨j,hj,rfl⟩:=mP he
    exact XZ (OT hj)
   ·exact i4 e he
theorem qR {b:Nat}:∀ (es:List AX) (ms:Nat->Nm),(HK es ms).Nodup->∀ (j k:Nat) (e f:AX),j<k->es[j]? =some e->es[k]? =some f->b∈e.XY (ms j)->¬b∈f.XY (ms k)
 | [],_,_,j,k,e,f,_,h,_,_=>by simp at h
 |x::r,ms,JE,0,0,e,f,kL,_,_,_=>by omega
 |x::r,ms,JE,j+1,0,e,f,kL,_,_,_=>by omega
 |x::r,ms,JE,0,k+1,e,f,_,h1,h2,hb=>by
  simp only[QP,BA] at h1;subst h1
  simp only[zC] at h2
  intro hf
  have:=RF.1 JE
  exact this.2.2 b hb b (IX r k (fun k=>ms (k+1)) h2 hf) rfl
 |x::r,ms,JE,j+1,k+1,e,f,kL,h1,h2,hb=>by
  simp only[zC] at h1 h2
  exact qR r (fun k=>ms (k+1)) (RF.1 JE).2.1 j k e f (by omega) h1 h2 hb
theorem AD9 (n:Nat) (es:List AX):(CW n es).map (·.1)=(List.range es.length).map (fun k=>n+k):=by
 induction es generalizing n with
 |nil=>rfl
 |cons e r ih=>
  simp only[CW,MN,ih,O0,List.range_succ_eq_map,VH,NP,mS,mZ]
  apply WB
  intro k _
  simp;omega
theorem ADA {n:Nat} {es:List AX} {q:Nat×AX} (h:q∈CW n es):∃ j,q.1=n+j/\es[j]? =some q.2:=by
 induction es generalizing n with
 |nil=>cases h
 |cons e r ih=>
  rcases GA.1 h with rfl|h
  ·exact⟨0,rfl,rfl⟩
  ·obtain⟨j,h1,h2⟩:=ih h
   exact⟨j+1,by rw[h1];omega,by simpa using h2⟩
theorem OJ:∀ (cs:List CT) (x:HT cs) (n:Nat),(outSVs cs x n).length=cs.length
 | [],_,_=>rfl
 |d::r,x,n=>by simp [outSVs,OJ r]
theorem xL:∀ (bs:List (Nat×CT)) (vs:List SV),vs.length=bs.length->(dK bs vs).map (·.1)=bs.map (·.1)
 | [],[],_=>rfl
 | [],_::_,h=>by simp at h
 |_::_,[],h=>by simp at h
 |(n,c)::r,v::vs,h=>by simp only[dK,MN];rw[xL r vs (by simpa using h)]
theorem lO:∀ (rows:List (Nat×Ty)) (x:HT (rows.map fun q=>MB q.2)),(lN rows x).map (·.1)=rows.map (·.1)
 | [],_=>rfl
 |(n,a)::r,x=>by simp only[lN,MN];rw[lO r]
theorem AP9 (BT:bG) (s:BT.T) (hp:(BT.VC.all fun d=> !d.ptr)=true):(LD BT s).map (·.1)=BT.zN:=by
 unfold LD bG.zN
 have hl:((BT.svs s).drop BT.live.length).length=BT.boxes.length:=by
  unfold bG.svs
  rw[AFD,OJ]
  simp [bG.VC]
 obtain⟨e1,_⟩:=dL (c:=(⟨default,fun _=>False,fun _=>False⟩:EC [])) (G:=fun _=>False) (w:=default) BT.VC (HT.left BT.VC BT.csR s) (fun _=>⟨0,0,true,0,0,none⟩) hp
 have h1:(BT.lost.map (fun n=>(n,AX.dead))).map (·.1)=BT.lost:=by simp [vS]
 have h2:=lO BT.rows (HT.right BT.VC BT.csR s)
 rw[bA,bA,bA,h1,AD9,e1,xL _ _ hl,J_,J_]
 congr 3
theorem aS:∀ (u:C7) (L:AL),(u.map (·.1)).Nodup->(∀ n∈u.map (·.1),n<L.length)->∀ q∈u,look (AK L u) q.1=some q.2
 | [],_,_,_,q,h=>by cases h
 |p::r,L,JE,DO,q,hq=>by
  simp only[MN,WD] at JE
  rcases GA.1 hq with rfl|hq
  ·show look (AK (DK L q) r) q.1=_
   rw[(H7 JE.1).1,BC (DO _ (by simp)),AA rfl]
  ·exact aS r (DK L p) JE.2 (fun n hn=>by rw[GN];exact DO n (by simp [hn])) q hq
theorem ABB:∀ (cs:List CT) (x:HT cs) (n:Nat) {E:Env} {L:AL},(cs.all fun d=> !d.ptr)=true->(∀ k,k<cnts cs->Al L (n+k))->L7 E L (outSVs cs x n)
 | [],_,_,_,_,_,_=>trivial
 |d::r,x,n,E,L,hp,h=>by
  simp only[vV,ID,TZ] at hp
  have qE:d.cnt=d.t.HW:=by simp [CT.cnt,CT.pn,hp.1]
  refine⟨?_,ABB r _ _ hp.2 fun k hk=>by rw[O1];exact h _ (by simp [cnts];omega)⟩
  have hu:L7 E L (IY d.t (HT.hd d r x) n):=wF _ _ _ fun j hj=>h j (by simp [cnts,qE];omega)
  unfold UB
  rw[hp.1]
  cases d.agg with
  |true=>exact hu
  |false=>
   show SV.wf _ _ ((IY d.t (HT.hd d r x) n).headD AW)
   cases hx:IY d.t (HT.hd d r x) n with
   |nil=>trivial
   |cons v r=>rw[hx] at hu;exact hu.1
theorem APA (t:Ty) (x:t.T) (n:Nat):∀ v∈IY t x n,BL v=[v]:=by
 induction t generalizing n with
 |pair a b V7 V8=>
  intro v hv
  rcases FG.1 hv with hv|hv
  ·exact V7 _ _ v hv
  ·exact V8 _ _ v hv
 |_=>intro v hv;simp only[IY,HA] at hv;subst hv;rfl
theorem xM:∀ (cs:List CT) (x:HT cs) (n k:Nat) (v:SV),(outSVs cs x n)[k]? =some v->∃ (d:CT) (y:d.t.T) (m:Nat),cs[k]? =some d/\v=UB d y m/\n<=m/\m+d.cnt<=n+cnts cs
 | [],_,_,_,_,h=>by simp [outSVs] at h
 |d::r,x,n,0,v,h=>by
  simp only[outSVs,QP,BA] at h
  exact⟨d,_,n,rfl,h.symm,EY _,by simp [cnts]⟩
 |d::r,x,n,k+1,v,h=>by
  simp only[outSVs,zC] at h
  obtain⟨d',y,m,h1,h2,h3,h4⟩:=xM r _ _ k v h
  exact⟨d',y,m,by simpa using h1,h2,by omega,by simp only[cnts];omega⟩
theorem OK (fr:List SV) (l:List (Nat×SV)):(RM fr l).length=fr.length:=by
 induction l generalizing fr with
 |nil=>rfl
 |cons q r ih=>obtain⟨t,v⟩:=q;simp [RM,ih]
theorem RN (fr:List SV) (l:List (Nat×SV)) (t:Nat) (h:∀ q∈l,q.1≠t):(RM fr l).getD t AW=fr.getD t AW:=by
 induction l generalizing fr with
 |nil=>rfl
 |cons q r ih=>
  obtain⟨k,v⟩:=q
  simp only[RM]
  rw[ih _ (fun q hq=>h q (by simp [hq])),FH,AD]
  rintro⟨rfl,_⟩
  exact h (k,v) (by simp) rfl
theorem YC (fr:List SV) (l:List (Nat×SV)) (JE:(l.map (·.1)).Nodup) {t:Nat} {v:SV} (h:(t,v)∈l) (ht:t<fr.length):(RM fr l).getD t AW=v:=by
 induction l generalizing fr with
 |nil=>cases h
 |cons q r ih=>
  obtain⟨k,u⟩:=q
  simp only[MN,WD] at JE
  simp only[RM]
  rcases GA.1 h with he|h
  ·cases he
   rw[RN _ _ _ (fun q hq he=>JE.1 (DD.2 ⟨q,hq,he⟩)),FH,AA ⟨rfl,ht⟩]
  ·exact ih _ JE.2 h (by simpa using ht)
theorem ZI {AR:Nat->Option AX}:∀ (bs:List (Nat×CT)) (l:List SV),dJ AR bs=some l->l.length=bs.length/\∀ (j n:Nat) (c:CT),bs[j]? =some (n,c)->∃ cs,AR n=some (.box cs)/\((c.agg=true/\l[j]? =some (.agg cs))\/(c.agg=false/\∃ v,cs=[v]/\l[j]? =some v))
 | [],l,h=>by simp only[dJ,BA] at h;subst h;exact⟨rfl,fun j n c h=>by simp at h⟩
 |(n,c)::r,l,h=>by
  simp only[dJ] at h
  split at h
  rotate_left
  ·cases h
  rename_i cs hl
  split at h
  rotate_left
  ·cases h
  rename_i l' hl'
  obtain⟨i1,i2⟩:=ZI r l' hl'
  split at h
  ·rename_i ha
   simp only[BA] at h;subst h
   refine⟨by simp [i1],fun j n' c' hj=> ?_⟩
   cases j with
   |zero=>simp only[QP,BA,DH] at hj;obtain⟨rfl,rfl⟩:=hj;exact⟨cs,hl,.inl ⟨ha,rfl⟩⟩
   |succ j=>exact i2 j n' c' (by simpa using hj)
  ·rename_i ha
   split at h
   rotate_left
   ·cases h
   rename_i v
   simp only[BA] at h;subst h
   refine⟨by simp [i1],fun j n' c' hj=> ?_⟩
   cases j with
   |zero=>simp only[QP,BA,DH] at hj;obtain⟨rfl,rfl⟩:=hj;exact⟨[v],hl,.inr ⟨ha,v,rfl,rfl⟩⟩
   |succ j=>exact i2 j n' c' (by simpa using hj)
theorem xN:∀ (bs:List (Nat×CT)) (vs:List SV) (q:Nat×AX),q∈dK bs vs->∃ (j:Nat) (c:CT) (v:SV),bs[j]? =some (q.1,c)/\vs[j]? =some v/\q.2= .box (BL v)
 | [],_,_,h=>by simp [dK] at h
 |_::_,[],_,h=>by simp [dK] at h
 |(n,c)::r,v::vs,q,h=>by
  simp only[dK] at h
  rcases GA.1 h with rfl|h
  ·exact⟨0,c,v,rfl,rfl,rfl⟩
  ·obtain⟨j,c',v',h1,h2,h3⟩:=xN r vs q h
   exact⟨j+1,c',v',by simpa using h1,by simpa using h2,h3⟩
theorem xO {AR:Nat->Option AX}:∀ (rows:List (Nat×Ty)) (y:HT (rows.map fun q=>MB q.2)),xK AR rows=some y->∀ q∈lN rows y,∃ (a:Ty) (xs:List a.T),AR q.1=some (KD a xs)/\q.2=KD a xs
 | [],_,_,q,h=>by simp [lN] at h
 |(n,a)::r,y,hp,q,h=>by
  have key:∃ (xs:List a.T) (y' :HT (r.map fun q=>MB q.2)),AR n=some (KD a xs)/\xK AR r=some y' /\y=HT.mk (MB a) (r.map fun q=>MB q.2) xs y' :=by
   simp only[xK] at hp
   split at hp
   ·rename_i t xs hl
    split at hp
    rotate_left
    ·cases hp
    rename_i ht
    subst ht
    split at hp
    ·cases hp
    rename_i QO
    split at hp
    rotate_left
    ·cases hp
    rename_i y' hy'
    simp only[BA] at hp
    exact⟨xs,y',by rw[MO (by simpa using QO)];exact hl,hy',hp.symm⟩
   ·rename_i t xss hl
    split at hp
    rotate_left
    ·cases hp
    rename_i ht
    subst ht
    split at hp
    rotate_left
    ·cases hp
    rename_i y' hy'
    simp only[BA] at hp
    exact⟨xss,y',hl,hy',hp.symm⟩
   ·rename_i xs hl
    split at hp
    rotate_left
    ·cases hp
    rename_i ht
    subst ht
    split at hp
    rotate_left
    ·cases hp
    rename_i y' hy'
    simp only[BA] at hp
    exact⟨xs,y',hl,hy',hp.symm⟩
   ·cases hp
  obtain⟨xs,y',hl,hy',rfl⟩:=key
  simp only[lN] at h
  rcases GA.1 h with rfl|h
  ·refine⟨a,xs,hl, ?_⟩
   exact PR (KD a) (HT.rZ (MB a) (r.map fun q=>MB q.2) xs y')
  ·refine xO r y' hy' q ?_
   have e:HT.tl (MB a) (r.map fun q=>MB q.2) (HT.mk (MB a) (r.map fun q=>MB q.2) xs y')=y' :=HT.r_ _ _ _ _
   rw[e] at h;exact h
theorem dM {L L' :AL} (h:bI L L') {n:Nat} {e:AX} (he:look L n=some e) (hv:ver L n=ver L' n):look L' n=some e:=by
 have DO:=AQ he
 have A0S :n<L'.length:=by rw[h.1];exact DO
 have e1:L[n]? =some (L[n].1,L[n].2):=OT DO
 have e2:L'[n]? =some (L'[n].1,L'[n].2):=OT A0S
 have hve:L'[n].1=L[n].1:=by
  unfold ver at hv
  rw[e1,e2] at hv
  exact hv.symm
 have hfe:=(h.2 n _ _ _ _ e1 e2).2 hve
 unfold look at he ⊢
 rw[e1] at he
 rw[e2]
 simp only[hfe]
 exact he
set_option maxHeartbeats 1000000 in
theorem A0T {BT:bG} {W:List Nat} (hwr:AK7 BT W=true) {c:EC TB} {w0:World} {E:Env} {fr:List SV} {L:AL} {G0:Nat->Prop} (hH0:AS c G0 w0 E L) (hF0:xD E L fr)
  {E' :Env} {fr' :List SV} {L' :AL} {a:Act} {w:World} (hst:St c E' fr' L' a w) (MV:Ext W E fr L E' fr' L') {s:BT.T} (hp:ZG BT L fr' L' =some s):
  ∃ E2,St c E2 (ZH BT fr s) (AK L (LD BT s)) a w/\Ext W E fr L E2 (ZH BT fr s) (AK L (LD BT s))/\∀ p∈BT.pins,E2.nm p.1=E2.nm p.2.1:=by
 unfold ZG at hp
 split at hp
 ·cases hp
 rename_i bs ML
 split at hp
 ·cases hp
 rename_i tk htk
 split at hp
 ·cases hp
 rename_i y hy
 split at hp
 rotate_left
 ·cases hp
 rename_i hck
 simp only[BA] at hp
 simp only[ID] at hck
 obtain⟨⟨⟨A65,A3N⟩,hnu⟩,A3O⟩:=hck
 simp only[A3M,ID,JL] at A3N
 obtain⟨⟨⟨⟨⟨o1,o2⟩,o3⟩,o4⟩,o5⟩,o6⟩:=A3N
 simp only[AK7,ID,JL] at hwr
 obtain⟨⟨⟨wr1,wr2⟩,wr3⟩,wr4⟩:=hwr
 have AGW:HT.left BT.VC BT.csR s=tk.x:=by rw[<-hp];exact HT.AGV _ _ _ _
 have A0U:HT.right BT.VC BT.csR s=y:=by rw[<-hp];exact HT.ABA _ _ _ _
 obtain⟨G,hG⟩:=hst.hd
 have A3P:L7 E' L' (BT.live.map (fun q=>fr'.getD q.1 AW)++bs):=by
  refine B0.2 fun v hv=> ?_
  rcases FG.1 hv with hv|hv
  ·obtain⟨q,hq,rfl⟩:=DD.1 hv
   rcases hst.wf q.1 with h|h
   ·exact h
   ·have:=LP.1 hnu q hq
    rw[h] at this;simp [AB7] at this
  ·obtain⟨j,hj,rfl⟩:=mP hv
   obtain⟨b1,b2⟩:=ZI _ _ ML
   have hjb:j<BT.boxes.length:=by omega
   obtain⟨cs,h1,h2⟩:=b2 j _ _ (OT hjb)
   have hwc:=(hG.MK _ _ h1).2.2.2.2.2
   rcases h2 with ⟨_,h3⟩|⟨_,v,rfl,h3⟩
   ·rw[OT hj] at h3;simp only[BA] at h3;rw[h3];exact hwc
   ·rw[OT hj] at h3;simp only[BA] at h3;rw[h3];exact hwc.1
 obtain⟨G1,G2,t1,t2,t3,t4,t5,t6,t7,t8,t9,t10,t11⟩:=hG.take (md:= .iG) (by simp) (fun n e h=>h) htk A65 A3P
 have h21:=t4 rfl
 rw[h21] at t9
 obtain⟨AM6,lE⟩:=X1 E' _ _ _ htk
 obtain⟨f1,f2,f3,f4⟩:=dL (c:=c) (G:=G1) (w:=w) BT.VC tk.x (EM E' tk.nes) o6
 have f2:=f2 t9
 rw[f3] at t10 t11
 let E2:Env:={ nm:=fun n=>if BT.base<=n/\n<BT.base+cnts BT.VC then EM E' tk.nes (n-BT.base) else E'.nm n,ds:=fun t=>if t∈BT.dead then (fr'.getD t AW).den E' else E'.ds t,ins:=⟨fun n=>if BT.base<=n/\n<BT.base+cnts BT.VC then (EM E' tk.nes (n-BT.base)).ins.l else E'.ins.l n⟩ }
 have xP:∀ n,(BT.base<=n/\n<BT.base+cnts BT.VC)->look L n=some .L5:=by
  intro n hn
  have:=LP.1 o2 (n-BT.base) (pV.2 (by omega))
  have e:BT.base+(n-BT.base)=n:=by omega
  rw[e] at this
  unfold IF at this
  split at this
  ·assumption
  ·cases this
 have AYW:∀ n,Al L n->¬(BT.base<=n/\n<BT.base+cnts BT.VC):=fun n hn hx=>E3 (xP n hx) hn
 have tV :∀ n,Al L n->E2.nm n=E'.nm n:=fun n hn=>AD (AYW n hn)
 have hE2:∀ n,Al L n->E2.nm n=E.nm n:=fun n hn=>(tV n hn).trans (MV.nm n hn).1
 have ASH:∀ j,j<cnts BT.VC->E2.nm (BT.base+j)=EM E' tk.nes j:=by
  intro j hj
  show (if _ then _ else _)=_
  rw[AA ⟨by omega,by omega⟩]
  congr 1;omega
 have ASI :∀ n,Al L n->E2.ins.l n=E'.ins.l n:=fun n hn=>AD (AYW n hn)
 have A3Q:∀ j,j<cnts BT.VC->E2.ins.l (BT.base+j)=(EM E' tk.nes j).ins.l:=by
  intro j hj
  show (if _ then _ else _)=_
  rw[AA ⟨by omega,by omega⟩]
  congr 3;omega
 have dN:∀ n,n∈BT.boxes.map (·.1)++BT.rows.map (·.1)++BT.lost->Al L n:=by
  intro n hn
  have:=LP.1 o3 n hn
  unfold AMO at this
  split at this
  ·rename_i e he;exact⟨e,he,by simpa using this⟩
  ·cases this
 have AK8:=AP9 BT s o6
 have A66:∀ n∈(LD BT s).map (·.1),n<L.length:=by
  intro n hn
  rw[AK8] at hn
  simp only[bG.zN,FG] at hn
  rcases hn with ((hn|hn)|hn)|hn
  ·obtain⟨e,he,_⟩:=dN n (by simp only[FG];exact .inr hn);exact AQ he
  ·obtain⟨k,hk,rfl⟩:=DD.1 hn
   exact AQ (xP _ ⟨by omega,by have:=pV.1 hk;omega⟩)
  ·obtain⟨e,he,_⟩:=dN n (by simp only[FG];exact .inl (.inl hn));exact AQ he
  ·obtain⟨e,he,_⟩:=dN n (by simp only[FG];exact .inl (.inr hn));exact AQ he
 have ASJ:=aS (LD BT s) L (by rw[AK8];exact o1) A66
 have AMP:∀ n,n∉BT.zN->look (AK L (LD BT s)) n=look L n:=fun n hn=>(H7 (by rw[AK8];exact hn)).1
 have AMQ:∀ q∈LD BT s,(q.2= .dead/\q.1∈BT.lost)\/(∃ j,q.1=BT.base+j/\(QX BT.VC tk.x)[j]? =some q.2)∨
   (∃ (j:Nat) (d:CT) (v:SV),BT.boxes[j]? =some (q.1,d)/\(outSVs BT.VC tk.x BT.base)[BT.live.length+j]? =some v/\q.2= .box (BL v))\/(∃ (a:Ty) (xs:List a.T),look L' q.1=some (KD a xs)/\q.2=KD a xs/\q.1∈BT.rows.map (·.1)):=by
  intro q hq
  simp only[LD,FG] at hq
  rcases hq with hq|hq|hq|hq
  ·obtain⟨n,hn,rfl⟩:=DD.1 hq;exact .inl ⟨rfl,hn⟩
  ·rw[AGW] at hq;exact .inr (.inl (ADA hq))
  ·obtain⟨j,d,v,h1,h2,h3⟩:=xN _ _ _ hq
   refine .inr (.inr (.inl ⟨j,d,v,h1, ?_,h3⟩))
   rw[cP] at h2
   unfold bG.svs at h2
   rw[AGW] at h2
   exact h2
  ·refine .inr (.inr (.inr ?_))
   have QW :=hq
   rw[A0U] at hq
   obtain⟨a,xs,h1,h2⟩:=xO _ _ hy q hq
   refine⟨a,xs,h1,h2, ?_⟩
   rw[<-lO BT.rows (HT.right BT.VC BT.csR s)]
   exact DD.2 ⟨q,QW,rfl⟩
 have PB:∀ n,Al L n->Al (AK L (LD BT s)) n:=by
  intro n hn
  by_cases hns:n∈BT.zN
  ·rw[<-AK8] at hns
   obtain⟨q,hq,rfl⟩:=DD.1 hns
   refine⟨q.2,ASJ q hq, ?_⟩
   rcases AMQ q hq with ⟨h,_⟩|⟨j,_,h⟩|⟨_,_,_,_,_,h⟩|⟨_,_,_,h,_⟩
   ·rw[h];rfl
   ·exact f4 _ (aZ h)
   ·rw[h];rfl
   ·rw[h];exact k9 _ _
  ·obtain⟨e,wG,he2⟩:=hn
   exact⟨e,by rw[AMP n hns];exact wG,he2⟩
 have A67:∀ k,k<cnts BT.VC->Al (AK L (LD BT s)) (BT.base+k):=by
  intro k hk
  have DO:k<(QX BT.VC tk.x).length:=by rw[f1];exact hk
  have hq:(BT.base+k,(QX BT.VC tk.x)[k])∈LD BT s:=by
   simp only[LD,FG]
   refine .inr (.inl ?_)
   rw[AGW]
   have key:∀ (es:List AX) (n k:Nat) (h:k<es.length),(n+k,es[k])∈CW n es:=by
    intro es
    induction es with
    |nil=>intro n k h;simp at h
    |cons e r ih=>
     intro n k h
     cases k with
     |zero=>simp [CW]
     |succ k=>
      simp only[CW,List.getElem_cons_succ]
      have:=ih (n+1) k (by simpa using h)
      have e1:n+1+k=n+(k+1):=by omega
      rw[e1] at this
      exact UY _ this
   exact key _ _ _ DO
  exact⟨_,ASJ _ hq,f4 _ (AFE DO)⟩
 have dA:∀ n,n∈BT.boxes.map (·.1)++BT.rows.map (·.1)->look (AK L' tk.DG) n=look L' n:=by
  intro n hn
  have:=LP.1 o4 n hn
  simp only[ID,TZ,ACC,aY] at this
  exact t7 n this.1 this.2
 have AYX:L7 E2 (AK L (LD BT s)) (outSVs BT.VC tk.x BT.base):=ABB _ _ _ o6 A67
 have ASK:AN E' (BT.live.map (fun q=>fr'.getD q.1 AW)++bs)=AN E2 (outSVs BT.VC tk.x BT.base):=lE E2 BT.base ASH
 have AG3:∀ (j:Nat) (n:Nat) (d:CT) (v:SV),BT.boxes[j]? =some (n,d)->(outSVs BT.VC tk.x BT.base)[BT.live.length+j]? =some v→
   ∃ cs,look L' n=some (.box cs)/\AN E2 (BL v)=AN E' cs/\L7 E2 (AK L (LD BT s)) (BL v):=by
  intro j n d v hj hv
  obtain⟨b1,b2⟩:=ZI _ _ ML
  obtain⟨cs,h1,h2⟩:=b2 j n d hj
  have hvw:v.wf E2 (AK L (LD BT s)):=B0.1 AYX v (aZ hv)
  refine⟨cs,h1, ?_,RK hvw⟩
  have tQ:j<bs.length:=by
   rcases h2 with ⟨_,h3⟩|⟨_,_,_,h3⟩
   all_goals
    rcases IA j bs.length with h|h
    ·exact h
    ·rw[UX h] at h3;cases h3
  have hdv:v.den E2=(bs[j]).den E' :=by
   have:=PR (fun l=>l[BT.live.length+j]?) ASK
   simp only[GM,hv,cR] at this
   rw[V_ (by simp),RG,Nat.add_sub_cancel_left,OT tQ] at this
   simp only[cR,BA] at this
   exact this.symm
  obtain⟨d',z,m,g1,g2,_,_⟩:=xM _ _ _ _ _ hv
  have hd' :d' =d:=by
   have:BT.VC[BT.live.length+j]? =some d:=by
    unfold bG.VC
    rw[V_ (by simp),RG,Nat.add_sub_cancel_left,AFB,hj];rfl
   rw[this] at g1;simp only[BA] at g1;exact g1.symm
  subst hd'
  have AW3:d'.ptr=false:=by
   have:=LP.1 o6 d' (aZ g1)
   simpa using this
  rcases h2 with ⟨ha,h3⟩|⟨ha,u,rfl,h3⟩
  ·rw[OT tQ] at h3
   simp only[BA] at h3
   rw[h3,g2] at hdv
   rw[g2]
   unfold UB at hdv ⊢
   rw[AW3,ha] at hdv ⊢
   simp only[SV.den,Value.agg.injEq] at hdv
   have:=PR Array.toList hdv
   simpa [BL] using this
  ·rw[OT tQ] at h3
   simp only[BA] at h3
   rw[h3] at hdv
   have hcv:BL v=[v]:=by
    rw[g2]
    unfold UB
    rw[AW3,ha]
    simp only
    cases hu:IY d'.t z m with
    |nil=>rfl
    |cons x r=>exact APA d'.t z m x (by rw[hu];simp)
   rw[hcv]
   simp [AN,hdv]
 have AK9:∀ (n:Nat) (e:AX) (b:Nat),look (AK L (LD BT s)) n=some e->e.ow E2 n b→
   (∃ j,n=BT.base+j/\(QX BT.VC tk.x)[j]? =some e/\b∈e.XY (EM E' tk.nes j))\/(∃ f,look (AK L' tk.DG) n=some f/\f.ow E' n b):=by
  intro n e b he hb
  by_cases hns:n∈BT.zN
  ·rw[<-AK8] at hns
   obtain⟨q,hq,rfl⟩:=DD.1 hns
   have:=ASJ q hq
   rw[he] at this
   simp only[BA] at this
   subst this
   rcases AMQ q hq with ⟨h,_⟩|⟨j,h1,h2⟩|⟨j,d,v,h1,h2,h3⟩|⟨a',xs,h1,h2,h3⟩
   ·rw[h] at hb;rcases hb with hb|⟨hb,_⟩|⟨hb,_⟩ <;> cases hb
   ·have hj:j<cnts BT.VC:=by
     rcases IA j (QX BT.VC tk.x).length with h|h
     ·rwa [f1] at h
     ·rw[UX h] at h2;cases h2
    rw[h1,AX.ACQ (ASH j hj) (A3Q j hj)] at hb
    exact .inl ⟨j,h1,h2,hb⟩
   ·obtain⟨cs,k1,_,_⟩:=AG3 j q.1 d v h1 h2
    have OU:q.1∈BT.boxes.map (·.1):=DD.2 ⟨_,aZ h1,rfl⟩
    have pP:=dN q.1 (by simp only[FG];exact .inl (.inl OU))
    rw[AX.gO ⟨tV _ pP,ASI _ pP⟩,h3,AX.gM rfl] at hb
    exact .inr ⟨.box cs,by rw[dA q.1 (FG.2 (.inl OU))];exact k1,.inl hb⟩
   ·have pP:=dN q.1 (by simp only[FG];exact .inl (.inr h3))
    rw[AX.gO ⟨tV _ pP,ASI _ pP⟩,h2] at hb
    exact .inr ⟨KD a' xs,by rw[dA q.1 (FG.2 (.inr h3))];exact h1,hb⟩
  ·rw[AMP n hns] at he
   have DO:=AQ he
   have hnr:e.IF=false:=by cases e <;> first|rfl|(rcases hb with hb|⟨hb,_⟩|⟨hb,_⟩ <;> cases hb)
   have pP:Al L n:=⟨e,he,hnr⟩
   have h5:=LP.1 o5 n (pV.2 DO)
   simp only[rW,ID,WN,TZ,ACC,aY,JL] at h5
   rcases h5 with (h5|h5)|⟨⟨h5,h6⟩,h7⟩
   ·unfold IF at h5;rw[he] at h5;cases e <;> first|(cases hnr;done)|(cases h5;done)
   ·exact absurd h5 hns
   ·rw[AX.gO ⟨tV _ pP,ASI _ pP⟩] at hb
    right
    have A0S :n<L'.length:=by rw[MV.tU.1];exact DO
    have CP:look L' n=some e:=dM MV.tU he h5
    exact⟨e,by rw[t7 n h6 h7];exact CP,hb⟩
 have A0V:AS c G1 w E2 (AK L (LD BT s)):=by
  refine⟨t1.rest,t1.size,t1.old,t1.y9,t1.glo,t1.ghi, ?_, ?_, ?_,t1.tab⟩
  ·intro n e he
   by_cases hns:n∈BT.zN
   ·rw[<-AK8] at hns
    obtain⟨q,hq,rfl⟩:=DD.1 hns
    have:=ASJ q hq
    rw[he] at this
    simp only[BA] at this
    subst this
    rcases AMQ q hq with ⟨h,_⟩|⟨j,h1,h2⟩|⟨j,d,v,h1,h2,h3⟩|⟨a',xs,h1,h2,h3⟩
    ·rw[h];trivial
    ·have hj:j<cnts BT.VC:=by
      rcases IA j (QX BT.VC tk.x).length with h|h
      ·rwa [f1] at h
      ·rw[UX h] at h2;cases h2
     have hm:=f2 j _ h2
     rw[h1,ASH j hj]
     generalize q.2=e at hm
     cases e <;> first|exact hm|exact hm.elim|trivial
    ·obtain⟨cs,k1,k2,k3⟩:=AG3 j q.1 d v h1 h2
     have OU:q.1∈BT.boxes.map (·.1):=DD.2 ⟨_,aZ h1,rfl⟩
     have pP:=dN q.1 (by simp only[FG];exact .inl (.inl OU))
     obtain⟨p1,p2,p3,p4,⟨ty,p5⟩,p6⟩:=t1.MK q.1 (.box cs) (by rw[dA q.1 (FG.2 (.inl OU))];exact k1)
     rw[h3,tV _ pP]
     exact⟨p1,p2,p3,p4,⟨ty,by rw[k2];exact p5⟩,k3⟩
    ·have pP:=dN q.1 (by simp only[FG];exact .inl (.inr h3))
     have:=t1.MK q.1 (KD a' xs) (by rw[dA q.1 (FG.2 (.inr h3))];exact h1)
     rw[h2,tV _ pP]
     cases a' with
     |pair a b=>cases a <;> cases b <;> exact this
     |_=>exact this
   ·have he0:=he
    rw[AMP n hns] at he
    have DO:=AQ he
    cases hr:e.IF with
    |true=>cases e <;> first|trivial|cases hr
    |false=>
     have pP:Al L n:=⟨e,he,hr⟩
     have h5:=LP.1 o5 n (pV.2 DO)
     simp only[rW,ID,WN,TZ,ACC,aY,JL] at h5
     rcases h5 with (h5|h5)|⟨⟨h5,h6⟩,h7⟩
     ·unfold IF at h5;rw[he] at h5;cases e <;> first|(cases hr;done)|(cases h5;done)
     ·exact absurd h5 hns
     ·have A0S :n<L'.length:=by rw[MV.tU.1];exact DO
      have CP:look L' n=some e:=dM MV.tU he h5
      have wR:=t1.MK n e (by rw[t7 n h6 h7];exact CP)
      have AGX:=hH0.MK n e he
      rw[tV _ pP]
      cases e with
      |box cs=>
       obtain⟨p1,p2,p3,p4,⟨ty,p5⟩,p6⟩:=wR
       obtain⟨x1,x2⟩:=L8 PB hE2 cs AGX.2.2.2.2.2
       obtain⟨_,x4⟩:=L8 (fun n hn=>(MV.nm n hn).2) (fun n hn=>(MV.nm n hn).1) cs AGX.2.2.2.2.2
       exact⟨p1,p2,p3,p4,⟨ty,by rw[x2,←x4];exact p5⟩,x1⟩
      |ptr j=>
       obtain⟨y1,⟨arr,ty,fz,y2,y3⟩,_⟩:=wR
       have y4:=AGX.2.2
       exact⟨y1,⟨arr,ty,fz,y2,by rw[tV j y4];exact y3⟩,PB j y4⟩
      |_=>exact wR
  ·intro n t xss hq he
   by_cases hns:n∈BT.zN
   ·rw[<-AK8] at hns
    obtain⟨q,QW,rfl⟩:=DD.1 hns
    have:=ASJ q QW
    rw[he] at this
    simp only[BA] at this
    rcases AMQ q QW with ⟨h,_⟩|⟨j,h1,h2⟩|⟨j,d,v,h1,h2,h3⟩|⟨a',xs,h1,h2,h3⟩
    ·rw[h] at this;cases this
    ·have hj:j<cnts BT.VC:=by
      rcases IA j (QX BT.VC tk.x).length with h|h
      ·rwa [f1] at h
      ·rw[UX h] at h2;cases h2
     have hm:=f2 j _ h2
     rw[<-this] at hm
     obtain⟨rfl,hm⟩:=hm
     rw[h1,ASH j hj,A3Q j hj]
     exact hm.env ⟨rfl,rfl,rfl,rfl,rfl⟩
    ·rw[h3] at this;cases this
    ·have pP:=dN q.1 (by simp only[FG];exact .inl (.inr h3))
     rw[h2] at this
     cases a' with
     |slice b=>
      simp only[KD,AX.deep.injEq] at this
      obtain⟨rfl,hx,rfl⟩:=this
      cases hx
      have:=t1.dp q.1 t xss none (by rw[dA q.1 (FG.2 (.inr h3))];exact h1)
      rw[tV _ pP,ASI _ pP]
      exact this.env ⟨rfl,rfl,rfl,rfl,rfl⟩
     |pair a b=>cases a <;> cases b <;> cases this
     |_=>cases this
   ·rw[AMP n hns] at he
    have DO:=AQ he
    have pP:Al L n:=⟨_,he,rfl⟩
    have h5:=LP.1 o5 n (pV.2 DO)
    simp only[rW,ID,WN,TZ,ACC,aY,JL] at h5
    rcases h5 with (h5|h5)|⟨⟨h5,h6⟩,h7⟩
    ·unfold IF at h5;rw[he] at h5;cases h5
    ·exact absurd h5 hns
    ·have CP:look L' n=some _:=dM MV.tU he h5
     have wR:=t1.dp n t xss hq (by rw[t7 n h6 h7];exact CP)
     have AGX:=hH0.dp n t xss hq he
     rw[tV _ pP,ASI _ pP]
     refine⟨wR.len,wR.off,wR.nd,wR.all, ?_⟩
     rcases wR.cs with hc|⟨h1,h2,h3,arr,ty,hs,h4,h5,h6,h7,h8,h9⟩
     ·exact .inl hc
     ·refine .inr ⟨h1,h2,h3,arr,ty,hs,h4,h5,h6,h7,h8,fun k j hk hl=> ?_⟩
      have hAj:Al L j:=by
       rcases AGX.cs with ⟨_,hc,_⟩|⟨_,_,_,_,_,_,_,_,_,_,_,g9⟩
       ·rw[hc] at hl;cases hl
       ·exact (g9 k j hk hl).2
      exact⟨by rw[tV _ hAj];exact (h9 k j hk hl).1,PB j hAj⟩
  ·intro n k e f b hnk hn hk he hf
   rcases AK9 n e b hn he with ⟨j,rfl,hj1,hj2⟩|⟨g,hg1,hg2⟩
   ·rcases AK9 k f b hk hf with ⟨j',rfl,AWS,AWT⟩|⟨g,hg1,hg2⟩
    ·rcases Nat.lt_or_gt_of_ne (show j≠j' by omega) with DO|DO
     ·exact qR _ _ t10 j j' e f DO hj1 AWS hj2 AWT
     ·exact qR _ _ t10 j' j f e DO AWS hj1 AWT hj2
    ·exact t11 b (IX _ _ _ hj1 hj2) k g hg1 hg2
   ·rcases AK9 k f b hk hf with ⟨j',rfl,AWS,AWT⟩|⟨g',A68,A69⟩
    ·exact t11 b (IX _ _ _ AWS AWT) n g hg1 hg2
    ·exact t1.inj n k g g' b hnk hg1 A68 hg2 A69
 rw[RF] at wr4
 obtain⟨nd1,nd2,nd3⟩:=wr4
 have ASL:(ZH BT fr s).length=fr'.length:=by unfold ZH;rw[OK,OK,MV.len]
 have A0W:((BT.live.map (·.1)).zip (BT.svs s)).map (·.1)=BT.live.map (·.1):=by
  apply List.map_fst_zip
  unfold bG.svs
  rw[OJ]
  simp [bG.VC]
 have ABC:∀ t,t<fr'.length->((ZH BT fr s).getD t AW).den E2=(fr'.getD t AW).den E' /\(((ZH BT fr s).getD t AW).wf E2 (AK L (LD BT s))\/(ZH BT fr s).getD t AW= .pO t):=by
  intro t ht
  have htf:t<fr.length:=by rw[<-MV.len];exact ht
  by_cases MU:t∈BT.live.map (·.1)
  ·obtain⟨j,hj,hjt⟩:=mP MU
   have tQ:j<BT.live.length:=by simpa using hj
   have hjs:j<(outSVs BT.VC tk.x BT.base).length:=by rw[OJ];simp [bG.VC];omega
   have A6A :j<(BT.svs s).length:=by unfold bG.svs;rw[AGW];exact hjs
   have OU:(t,(BT.svs s)[j])∈(BT.live.map (·.1)).zip (BT.svs s):=by
    rw[<-hjt]
    have:((BT.live.map (·.1)).zip (BT.svs s))[j]'(by simp;omega)=((BT.live.map (·.1))[j],(BT.svs s)[j]):=List.getElem_zip
    rw[<-this]
    exact AFE _
   have AWU:(ZH BT fr s).getD t AW=(BT.svs s)[j]:=YC _ _ (by rw[A0W];exact nd1) OU (by rw[OK];exact htf)
   have hsv:(BT.svs s)[j]? =(outSVs BT.VC tk.x BT.base)[j]? :=by unfold bG.svs;rw[AGW]
   rw[OT A6A,OT hjs] at hsv
   simp only[BA] at hsv
   rw[AWU,hsv]
   refine⟨?_,.inl (B0.1 AYX _ (AFE hjs))⟩
   have:=PR (fun l=>l[j]?) ASK
   simp only[GM] at this
   rw[WA (by simpa using tQ),OT hjs,AFB,OT tQ] at this
   simp only[cR,BA] at this
   rw[<-this]
   simp only[vM] at hjt
   rw[hjt]
  ·have h1:(ZH BT fr s).getD t AW=(RM fr (BT.dead.map fun t=>(t,.pO t))).getD t AW:=by
    unfold ZH
    refine RN _ _ _ fun q hq he=>MU ?_
    rw[<-he,←A0W]
    exact DD.2 ⟨q,hq,rfl⟩
   by_cases X4:t∈BT.dead
   ·have h2:(RM fr (BT.dead.map fun t=>(t,.pO t))).getD t AW= .pO t:=
     YC _ _ (by rw[VH];have:(BT.dead.map ((·.1)∘fun t=>(t,SV.pO t)))=BT.dead:=(by simp [vS]);rw[this];exact nd2) (DD.2 ⟨t,X4,rfl⟩) htf
    rw[h1,h2]
    exact⟨by show (if t∈BT.dead then _ else _)=_;rw[AA X4],.inr rfl⟩
   ·have h2:(RM fr (BT.dead.map fun t=>(t,.pO t))).getD t AW=fr.getD t AW:=RN _ _ _ fun q hq he=>by
     obtain⟨t',ht',rfl⟩:=DD.1 hq
     simp only at he;subst he
     exact X4 ht'
    have hW:t∉W:=by
     intro hw
     have:=LP.1 wr1 t hw
     simp only[rW,ACC,JL] at this
     rcases this with h|h
     ·exact MU h
     ·exact X4 h
    rw[h1,h2,MV.out t hW]
    rcases hF0 t with sA|A6B
    ·obtain⟨x1,x2⟩:=Y_ PB hE2 _ sA
     obtain⟨_,x4⟩:=Y_ (fun n hn=>(MV.nm n hn).2) (fun n hn=>(MV.nm n hn).1) _ sA
     exact⟨x2.trans x4.symm,.inl x1⟩
    ·rw[A6B]
     exact⟨by show (if t∈BT.dead then _ else _)=_;rw[AD X4];rfl,.inr rfl⟩
 refine⟨E2,⟨⟨?_,hst.tT.2⟩,⟨G1,A0V⟩, ?_⟩, ?_,fun p hp' => ?_⟩
 rotate_right
 ·have h:=LP.1 A3O p hp'
  simp only[ID,JL] at h
  obtain⟨⟨⟨h1,h2⟩,h3⟩,h4⟩:=h
  have pP:Al L p.2.1:=by
   unfold AMO at h4
   split at h4
   ·rename_i e he;exact⟨e,he,by simpa using h4⟩
   ·cases h4
  have e1:=ASH (p.1-BT.base) (by omega)
  rw[show BT.base+(p.1-BT.base)=p.1 by omega] at e1
  rw[e1,tV _ pP]
  unfold gQ at h3
  split at h3
  ·rename_i i hi
   have:i=p.2.1:=by simpa using h3
   simp only[EM,hi,NE.nm,this]
  ·cases h3
 ·rw[hst.tT.1]
  congr 1
  apply WC
  intro i
  rw[GM,GM]
  by_cases hi:i<fr'.length
  ·have:=(ABC i hi).1
   have hi2:i<(ZH BT fr s).length:=by rw[ASL];exact hi
   simp only[List.getD,OT hi,OT hi2,mT] at this
   rw[OT hi,OT hi2]
   simp [this]
  ·rw[UX (by omega),UX (by omega)];rfl
 ·intro t
  by_cases ht:t<fr'.length
  ·exact (ABC t ht).2
  ·left
   have:(ZH BT fr s).getD t AW=AW:=by
    simp only[List.getD]
    rw[UX (by omega)];rfl
   rw[this];trivial
 ·refine⟨fun n hn=>⟨hE2 n hn,PB n hn⟩,fun t ht=> ?_,bI.AK _ _,by rw[ASL,MV.len],fun t ht=> ?_⟩
  ·have hd:t∉BT.dead:=fun hd=>ht (by have:=LP.1 wr3 t hd;simpa using this)
   show (if t∈BT.dead then _ else _)=_
   rw[AD hd];exact MV.ds t ht
  ·have hd:t∉BT.dead:=fun hd=>ht (by have:=LP.1 wr3 t hd;simpa using this)
   have hl:t∉BT.live.map (·.1):=fun hd=>ht (by have:=LP.1 wr2 t hd;simpa using this)
   unfold ZH
   rw[RN _ _ _ (fun q hq he=>hl (by rw[<-he,←A0W];exact DD.2 ⟨q,hq,rfl⟩)),RN _ _ _ fun q hq he=>by
    obtain⟨t',ht',rfl⟩:=DD.1 hq
    simp only at he;subst he
    exact hd ht']
theorem xQ {c:EC TB} {W:List Nat} {E:Env} {fr:List SV} {L:AL} {E2:Env} {qS:List SV} {a:Act} {w:World}:∀ (pins:List (Nat×Nat×Nat)) (L2:AL),St c E2 qS L2 a w->Ext W E fr L E2 qS L2->(∀ p∈pins,E2.nm p.1=E2.nm p.2.1)→
  St c E2 qS (X5 pins L2) a w/\Ext W E fr L E2 qS (X5 pins L2)
 | [],L2,h1,h2,_=>⟨h1,h2⟩
 |(k,o,i)::r,L2,h1,h2,hp=>by
  unfold X5
  split
  ·rename_i t xs cs k1 k2 k3
   obtain⟨G,hG⟩:=h1.hd
   obtain⟨r1,r2⟩:=AAR hG k1 k2 k3 (hp _ (by simp:(k,o,i)∈(k,o,i)::r))
   refine xQ r _ ⟨h1.tT,⟨G,r1⟩,fun t=> ?_⟩ ⟨fun n hn=>⟨(h2.nm n hn).1,r2 n (h2.nm n hn).2⟩,h2.ds,h2.tU.trans (bI.AK _ _),h2.len,h2.out⟩ (fun p hp' =>hp p (by simp [hp']))
   rcases h1.wf t with h|h
   ·exact .inl (Y_ r2 (fun _ _=>rfl) _ h).1
   ·exact .inr h
  ·exact xQ r _ h1 h2 (fun p hp' =>hp p (by simp [hp']))
theorem AGY {BT:bG} {W:List Nat} (hwr:AK7 BT W=true) {c:EC TB} {w0:World} {E:Env} {fr:List SV} {L:AL} {G0:Nat->Prop} (hH0:AS c G0 w0 E L) (hF0:xD E L fr)
  {E' :Env} {fr' :List SV} {L' :AL} {a:Act} {w:World} (hst:St c E' fr' L' a w) (MV:Ext W E fr L E' fr' L') {s:BT.T} (hp:ZG BT L fr' L' =some s):
  ∃ E2,St c E2 (ZH BT fr s) (X5 BT.pins (AK L (LD BT s))) a w/\Ext W E fr L E2 (ZH BT fr s) (X5 BT.pins (AK L (LD BT s))):=by
 obtain⟨E2,h1,h2,h3⟩:=A0T hwr hH0 hF0 hst MV hp
 exact⟨E2,xQ _ _ h1 h2 h3⟩
end Go.V3
namespace Go.V3
open Go
variable {TB:Tb}
section
variable {P:Program}
def zO {α:Type} (W:List Nat) (c:EC TB) (E:Env) (fr:List SV) (L:AL) (K:Exit->List SV->AL->Option α) (r0:α):Exit->Act->World->Prop:=
 fun e a' w' =>∃ E' fr' L',St c E' fr' L' a' w' /\Ext W E fr L E' fr' L' /\K e fr' L' =some r0
theorem map_inl {α β:Type} {x:Option α} {r:α ⊕ β} (h:x.map Sum.inl=some r):∃ y,x=some y/\r= .inl y:=by
 cases x with
 |none=>cases h
 |some y=>simp only[cR,BA] at h;exact⟨y,rfl,h.symm⟩
theorem map_inr {α β:Type} {x:Option β} {r:α ⊕ β} (h:x.map Sum.inr=some r):∃ y,x=some y/\r= .inr y:=by
 cases x with
 |none=>cases h
 |some y=>simp only[cR,BA] at h;exact⟨y,rfl,h.symm⟩
theorem AMR (n i:Nat):¬isL (Array.replicate n false) i:=by
 unfold isL
 simp only[Array.getD_eq_getD_getElem?,Array.getElem?_replicate]
 split <;> simp
theorem ASM {α:Type} {cx:Cx} {id:Nat} {c:EC cx.tb} {w:World} {fr:List SV} {a:Act} {E:Env} {L:AL} {K:AL->Option α} {r:α} (h:ASG cx id fr L K=some r) (hs:St c E fr L a w):
  ∃ E' L',K L' =some r/\St c E' fr L' a w/\Ext [] E fr L E' fr L' :=by
 unfold ASG at h
 split at h
 ·exact⟨E,L,h,hs,.refl _ _ _ _⟩
 split at h
 rotate_left
 ·cases h
 rename_i s t bs _ _ _ i n hv hn
 split at h
 rotate_left
 ·cases h
 rename_i ty xss h' hl
 split at h
 rotate_left
 ·cases h
 rename_i DZ
 split at h
 rotate_left
 ·cases h
 rename_i ys u hcl
 split at h
 rotate_left
 ·cases h
 rename_i hb
 have ML:look L bs=some .L5:=by have:=CZ DZ 0 (by omega);simpa using this
 obtain⟨G,hG⟩:=hs.hd
 obtain⟨E1,c1,c2,c3,c4,c5,c6,c7⟩:=gW (AR:=look L) (fun _ _ h=>h) hG hl hcl
 have U5:(E1.nm i).nil=false:=by
  rcases (c1.dp i _ _ _ c4).cs with ⟨_,hc,_⟩|⟨hn,_⟩
  ·rw[hc] at hb;simp at hb;omega
  ·exact hn
 obtain⟨E2,t1,t2,t3,arr,tt,t4,t5⟩:=c1.AYO c4 (c6 bs ML) U5 (by omega:n.toNat<ys.length)
 rw[<-BQ] at t1
 have PB:∀ k,Al L k->E2.nm k=E.nm k/\Al (AK L (u++ [(bs,.dead),(i,.deep ty ys (some (n.toNat,bs))),(bs,.row ty (ys.getD n.toNat []))])) k:=by
  intro k hk
  refine⟨by rw[t2 k (fun he=>E3 (he ▸ ML) hk),c2], ?_⟩
  rw[BQ]
  exact BZ rfl k (BZ rfl k (BZ rfl k (c5 k hk)))
 obtain⟨d1,d2⟩:=dI hs.wf PB (t3.trans c3)
 exact⟨E2,_,h,⟨⟨by rw[d1];exact hs.tT.1,hs.tT.2⟩,⟨G,t1⟩,d2⟩,⟨PB,fun t _=>by rw[t3.trans c3],.AK _ _,rfl,fun _ _=>rfl⟩⟩
theorem RO {c:EC TB} {w:World} {fr:List SV} {a:Act}:∀ (rows:List (Nat×Ty)) {E:Env} {L:AL},St c E fr L a w->∃ E',St c E' fr (H0 rows L) a w/\Ext [] E fr L E' fr (H0 rows L)
 | [],E,L,hs=>⟨E,hs,.refl _ _ _ _⟩
 |q::r,E,L,hs=>by
  have h1:∃ E',St c E' fr (AD8 L q.1) a w/\Ext [] E fr L E' fr (AD8 L q.1):=by
   unfold AD8
   split
   ·rename_i t xss h hl
    split
    ·rename_i ys u hc
     obtain⟨G,hG⟩:=hs.hd
     obtain⟨E',k1,k2,k3,k4,k5,k6,k7⟩:=gW (AR:=look L) (fun _ _ h=>h) hG hl hc
     obtain⟨d1,d2⟩:=dI hs.wf (fun n hn=>⟨k2 n,k5 n hn⟩) k3
     exact⟨E',⟨⟨by rw[d1];exact hs.tT.1,hs.tT.2⟩,⟨G,k1⟩,d2⟩,⟨fun n hn=>⟨k2 n,k5 n hn⟩,fun t _=>by rw[k3],.AK _ _,rfl,fun _ _=>rfl⟩⟩
    ·exact⟨E,hs,.refl _ _ _ _⟩
   ·exact⟨E,hs,.refl _ _ _ _⟩
  obtain⟨E1,h1,h2⟩:=h1
  obtain⟨E2,h3,h4⟩:=RO r h1
  exact⟨E2,h3,h2.trans h4⟩
set_option maxHeartbeats 1000000 in
theorem AGZ {cx:Cx} (hcx:cx.Ok P):∀ (c:Code) (α:Type) (MC:Nat) (K:Exit->List SV->AL->Option α) (fr:List SV) (L:AL) (r0:α),rk P cx c α MC K fr L=some r0→
  ∀ (cf:EC cx.tb) (E:Env) (a:Act) (w:World),St cf E fr L a w->c.wp P (zO (writes c) cf E fr L K r0) a w:=by
 intro c
 induction c with
 |skip=>exact fun α MC K fr L r0 h cf E a w hs=>wp_skip ⟨E,fr,L,hs,.refl _ _ _ _,h⟩
 |label l=>exact fun α MC K fr L r0 h cf E a w hs=>wp_label ⟨E,fr,L,hs,.refl _ _ _ _,h⟩
 |ret=>exact fun α MC K fr L r0 h cf E a w hs=>wp_ret ⟨E,fr,L,hs,.refl _ _ _ _,h⟩
 |exit id=>exact fun α MC K fr L r0 h cf E a w hs=>wp_exit ⟨E,fr,L,hs,.refl _ _ _ _,h⟩
 |region id ops draw=>
  intro α MC K fr L r0 h cf E a w hs
  have hW:∀ o∈ops.toList,∀ d,o.dst=some d->d∈writes (.region id ops draw):=by
   intro o ho d hd
   exact AAD.2 ⟨o,ho,hd⟩
  simp only[rk] at h
  obtain⟨E1,L1,h,hs,hx0⟩:=ASM h hs
  have hx0:Ext (writes (.region id ops draw)) E fr L E1 fr L1:=hx0.mono (fun _ h=>by cases h)
  refine wp_mono (Q:=zO (writes (.region id ops draw)) cf E1 fr L1 K r0) ?_ (fun e a' w' ⟨E',fr',L',k1,k2,k3⟩=>⟨E',fr',L',k1,hx0.trans k2,k3⟩)
  clear hx0
  generalize E1=E at hs ⊢
  generalize L1=L at hs h ⊢
  split at h
  ·split at h
   rotate_left
   ·cases h
   rename_i hck
   simp only[ID] at hck
   refine wp_region_any hck.2 ?_
   obtain⟨s',fs,r1,r2,r3,_⟩:=AGP ops.toList 0 [] fr L (by simp) h
   have hs' :St cf E fr L a { w with drawn:=w.drawn+1 }:=⟨hs.tT,(by
    obtain⟨G,hG⟩:=hs.hd
    exact⟨G,hG.world rfl ⟨rfl,rfl,rfl⟩⟩),hs.wf⟩
   have:=A0P (P:=P) (Q:=zO (writes (.region id ops true)) cf E fr L K r0) hcx hck.1 (W:=writes (.region id ops true)) (fun i o ho d hd=>hW o (by rw[<-kX] at ho;exact aZ ho) d hd) (fr0:=fr) (L0:=L) (E0:=E) (s' :=s')
    (fun E' a' w' h1 h2=>⟨E',s'.1,s'.2,h1,h2,r2⟩) ops.size (List.range' 0 ops.toList.length) (Array.replicate ops.size false) fs (fr,L) E a _ (by simp) ⟨by simp,fun i=> ?_, ?_, ?_⟩ r1 r3 hs' (.refl _ _ _ _)
   ·exact this
   ·simp only[List.mem_range'_1,mY,mZ,KK,Array.length_toList]
    constructor
    ·intro hi;exact⟨hi,AMR _ _⟩
    ·exact fun hi=>hi.1
   ·exact List.pairwise_lt_range'
   ·intro i o _ hl
    exact absurd hl (AMR _ _)
  ·refine wp_region ?_
   have:=AGM hcx (ops:=ops) (Q:=zO (writes (.region id ops false)) cf E fr L K r0) (W:=writes (.region id ops false)) (c:=cf) (fr0:=fr) (L0:=L) (E0:=E)
    (K:=fun fr' L' =>K .normal fr' L') (r0:=r0) (fun E' fr' L' a' w' h1 h2 h3=>⟨E',fr',L',h1,h2,h3⟩) ops.toList 0 (by simp) hW E fr L a w hs (.refl _ _ _ _) h
   rw[List.range_eq_range']
   simpa using this
 |seq x y ihx ihy=>
  intro α MC K fr L r0 h cf E a w hs
  refine wp_seq ?_
  have hx:∀ t,t∈writes x->t∈writes (.seq x y):=fun t ht=>FG.2 (.inl ht)
  have hy:∀ t,t∈writes y->t∈writes (.seq x y):=fun t ht=>FG.2 (.inr ht)
  simp only[rk] at h
  split at h
  ·refine wp_mono (ihx α MC _ fr L r0 h cf E a w hs) ?_
   rintro e a' w' ⟨E',fr',L',h1,h2,h3⟩
   cases e with
   |normal=>
    refine wp_mono (ihy α MC K fr' L' r0 h3 cf E' a' w' h1) ?_
    rintro e a'' w'' ⟨E'',APB,L'',k1,k2,k3⟩
    exact⟨E'',APB,L'',k1,(h2.mono hx).trans (k2.mono hy),k3⟩
   |exit id=>exact⟨E',fr',L',h1,h2.mono hx,h3⟩
   |goto id=>exact⟨E',fr',L',h1,h2.mono hx,h3⟩
   |ret=>exact⟨E',fr',L',h1,h2.mono hx,h3⟩
   |panic ch=>exact⟨E',fr',L',h1,h2.mono hx,h3⟩
   |outgrown=>exact⟨E',fr',L',h1,h2.mono hx,h3⟩
  ·rename_i BT _
   split at h
   rotate_left
   ·cases h
   rename_i hwr
   rw[AEY] at h
   obtain⟨q,hq,hk⟩:=h
   obtain⟨Ec,hsc,hxc⟩:=RO BT.rows hs
   obtain⟨G0,hG0⟩:=hsc.hd
   refine wp_mono (ihx _ MC _ fr _ q hq cf Ec a w hsc) ?_
   rintro e a' w' ⟨E',fr',L',h1,h2,h3⟩
   have other:∀ e',(K e' fr' L').map Sum.inr=some q->zO (writes (.seq x y)) cf E fr L K r0 e' a' w' :=by
    intro e' hm
    obtain⟨b,hb,rfl⟩:=map_inr hm
    simp only[BA] at hk
    subst hk
    exact⟨E',fr',L',h1,(hxc.mono (fun _ h=>by cases h)).trans (h2.mono hx),hb⟩
   cases e with
   |normal=>
    obtain⟨s,hp,rfl⟩:=map_inl h3
    obtain⟨Ed,hsd,hxd⟩:=RO BT.rows h1
    obtain⟨E2,g1,g2⟩:=AGY hwr hG0 hsc.wf hsd (h2.trans (hxd.mono (fun _ h=>by cases h))) hp
    refine wp_mono (ihy α MC K _ _ r0 hk cf E2 a' w' g1) ?_
    rintro e a'' w'' ⟨E'',APB,L'',k1,k2,k3⟩
    exact⟨E'',APB,L'',k1,(hxc.mono (fun _ h=>by cases h)).trans ((g2.mono hx).trans (k2.mono hy)),k3⟩
   |exit id=>exact other _ h3
   |goto id=>exact other _ h3
   |ret=>exact other _ h3
   |panic ch=>exact other _ h3
   |outgrown=>exact other _ h3
 |cond c x y ihx ihy=>
  intro α MC K fr L r0 h cf E a w hs
  have hx:∀ t,t∈writes x->t∈writes (.cond c x y):=fun t ht=>FG.2 (.inl ht)
  have hy:∀ t,t∈writes y->t∈writes (.cond c x y):=fun t ht=>FG.2 (.inr ht)
  have kx:rk P cx x α MC K fr L=some r0->x.wp P (zO (writes (.cond c x y)) cf E fr L K r0) a w:=fun h=>
   wp_mono (ihx α MC K fr L r0 h cf E a w hs) fun e a' w' ⟨E',fr',L',h1,h2,h3⟩=>⟨E',fr',L',h1,h2.mono hx,h3⟩
  have ky:rk P cx y α MC K fr L=some r0->y.wp P (zO (writes (.cond c x y)) cf E fr L K r0) a w:=fun h=>
   wp_mono (ihy α MC K fr L r0 h cf E a w hs) fun e a' w' ⟨E',fr',L',h1,h2,h3⟩=>⟨E',fr',L',h1,h2.mono hy,h3⟩
  have he:=VI hs.tT c
  simp only[rk] at h
  split at h
  ·rename_i b hb
   rw[hb] at he
   split at h
   ·exact wp_cond_true he (kx h)
   ·exact wp_cond_false he (ky h)
  ·rename_i b hb
   rw[hb] at he
   split at h
   ·rename_i hbt;subst hbt;exact wp_cond_true he (kx h)
   ·rename_i hbt
    have:b=false:=by simpa using hbt
    subst this;exact wp_cond_false he (ky h)
  ·rename_i p d hb
   rw[hb] at he
   by_cases hp:p
   ·simp only[hp,HJ] at h;exact wp_cond_true (by rw[he];simp [SV.den,hp]) (kx h)
   ·simp only[hp,KA] at h;exact wp_cond_false (by rw[he];simp [SV.den,hp]) (ky h)
  ·cases h
 |block id c ih=>
  intro α MC K fr L r0 h cf E a w hs
  refine wp_block ?_
  simp only[rk] at h
  refine wp_mono (ih α id _ fr L r0 h cf E a w hs) ?_
  rintro e a' w' ⟨E',fr',L',h1,h2,h3⟩
  cases e with
  |exit i=>
   simp only[Exit.inBlock]
   simp only at h3
   split at h3
   ·rename_i hi;rw[AA hi];exact⟨E',fr',L',h1,h2,h3⟩
   ·rename_i hi;rw[AD hi];exact⟨E',fr',L',h1,h2,h3⟩
  |normal=>exact⟨E',fr',L',h1,h2,h3⟩
  |goto id=>exact⟨E',fr',L',h1,h2,h3⟩
  |ret=>exact⟨E',fr',L',h1,h2,h3⟩
  |panic ch=>exact⟨E',fr',L',h1,h2,h3⟩
  |outgrown=>exact⟨E',fr',L',h1,h2,h3⟩
 |scope c ih=>
  intro α MC K fr L r0 h cf E a w hs
  refine wp_scope_straight ?_
  refine wp_mono (ih α MC _ fr L r0 h cf E a w hs) ?_
  rintro e a' w' ⟨E',fr',L',h1,h2,h3⟩
  cases e with
  |goto id=>cases h3
  |exit i=>exact⟨E',fr',L',h1,h2,h3⟩
  |normal=>exact⟨E',fr',L',h1,h2,h3⟩
  |ret=>exact⟨E',fr',L',h1,h2,h3⟩
  |panic ch=>exact⟨E',fr',L',h1,h2,h3⟩
  |outgrown=>exact⟨E',fr',L',h1,h2,h3⟩
 |loop c ih=>
  intro α MC K fr L r0 h cf E a w hs
  simp only[rk] at h
  split at h
  ·cases h
  rename_i BT _
  split at h
  rotate_left
  ·cases h
  rename_i hwr
  split at h
  ·cases h
  rename_i s0 hp0
  obtain⟨n,hn⟩:=RL.1 h
  refine wp_loop_rounds n ?_
  obtain⟨Ec,hsc,A3R⟩:=RO BT.rows hs
  have hxc:Ext (writes c) E fr L Ec fr (H0 BT.rows L):=A3R.mono (fun _ h=>by cases h)
  clear A3R
  generalize H0 BT.rows L=Lc at h hn hp0 hsc hxc
  obtain⟨G0,hG0⟩:=hsc.hd
  obtain⟨E1,g1,g2⟩:=AGY hwr hG0 hsc.wf hsc (.refl (writes c) Ec fr Lc) hp0
  have sA:=hsc.wf
  have hH0:∃ w0 G0,AS cf G0 w0 Ec Lc:=⟨w,G0,hG0⟩
  clear h hp0 hs hsc hG0 G0
  obtain⟨w0,G0,hG0⟩:=hH0
  induction n generalizing s0 E1 a w with
  |zero=>cases hn
  |succ n ihn=>
   rw[rounds_succ]
   rw[SO] at hn
   have fin:∀ x,rk P cx c (BT.T ⊕ α) MC (fun e fr' L' =>match e with
     | .normal=>(ZG BT Lc fr' (H0 BT.rows L')).map Sum.inl
     |e=>(K e fr' L').map Sum.inr) (ZH BT fr s0) (X5 BT.pins (AK Lc (LD BT s0)))=some x->(∀ s',x= .inl s' ->SO (fun s=>rk P cx c (BT.T ⊕ α) MC (fun e fr' L' =>match e with
     | .normal=>(ZG BT Lc fr' (H0 BT.rows L')).map Sum.inl
     |e=>(K e fr' L').map Sum.inr) (ZH BT fr s) (X5 BT.pins (AK Lc (LD BT s)))) n s' =some r0)->(∀ b,x= .inr b->b=r0)->c.wp P (Exit.then (Code.rounds P c (zO (writes (.loop c)) cf E fr L K r0) n) (zO (writes (.loop c)) cf E fr L K r0)) a w:=by
    intro x hx hl hr
    refine wp_mono (ih _ MC _ _ _ x hx cf E1 a w g1) ?_
    rintro e a' w' ⟨E',fr',L',h1,h2,h3⟩
    have other:∀ e',(K e' fr' L').map Sum.inr=some x->zO (writes (.loop c)) cf E fr L K r0 e' a' w' :=by
     intro e' hm
     obtain⟨b,hb,hxb⟩:=map_inr hm
     rw[hr b hxb] at hb
     exact⟨E',fr',L',h1,hxc.trans (g2.trans h2),hb⟩
    cases e with
    |normal=>
     obtain⟨s',hp,hxs⟩:=map_inl h3
     obtain⟨Ed,hsd,hxd⟩:=RO BT.rows h1
     obtain⟨E2,k1,k2⟩:=AGY hwr hG0 sA hsd (g2.trans (h2.trans (hxd.mono (fun _ h=>by cases h)))) hp
     exact ihn a' w' s' (hl s' hxs) E2 k1 k2
    |goto id=>exact other _ h3
    |exit i=>exact other _ h3
    |ret=>exact other _ h3
    |panic ch=>exact other _ h3
    |outgrown=>exact other _ h3
   split at hn
   ·cases hn
   ·rename_i s' hf
    exact fin _ hf (fun s'' he=>by cases he;exact hn) (fun b he=>by cases he)
   ·rename_i b hf
    simp only[BA] at hn
    exact fin _ hf (fun s'' he=>by cases he) (fun b' he=>by cases he;exact hn)
 |_=>exact fun α MC K fr L r0 h=>(by simp only[rk] at h;cases h)
def ASN (P:Program) (fr:List SV) (L:AL):ResultVar->Option SV
 | .tmp t=>(match AB7 (fr.getD t AW) with
  |true=>none
  |false=>some (fr.getD t AW))
 | .cell t ty=>(match fr.getD t AW,P.info? ty,P.underlying ty with
  | .loc i off,some q,some _=>if off=0 then (match look L i with
   |some (.box cs)=>(match IE P ty with
    |true=>if q.size=cs.length then some (.agg cs) else none
    |false=>(match cs with
     | [v]=>some v
     |_=>none))
   |_=>none) else none
  |_,_,_=>none)
def xR (P:Program) (fr:List SV) (L:AL):List ResultVar->Option (List SV)
 | []=>some []
 |r::rs=>match ASN P fr L r with
  |some v=>(match xR P fr L rs with
   |some vs=>some (v::vs)
   |none=>none)
  |none=>none
def kM:List CT->List Nat->List SV
 |d::r,i::is=>(match d.ptr with
  |true=> .loc i 0
  |false=> .NV i)::kM r is
 |_,_=>[]
def AWV (P:Program) (rvs:List ResultVar) (cl:List (Nat×Ty)) (pins:List (Nat×Nat×Nat×Nat)) (ios:List Nat) (os:List CT) (cs:List CT):Exit->List SV->AL->Option (HT cs):=fun e fr L0=>
 match (match e with
  | .normal=>true
  | .ret=>true
  |_=>false) with
 |false=>none
 |true=>match xR P fr (H0 cl L0) rvs with
  |none=>none
  |some vs=>match KF .iG (look (H0 cl L0)) cs (vs++kM os ios) with
   |none=>none
   |some a=>match okA a && pins.all (fun q=>gQ a.nes[q.1]? q.2.2.1) with
    |true=>some a.x
    |false=>none
def ADB (ps:List CT) (x:HT ps) (N:Nat):AL:=AK (List.replicate (cnts ps+N) (0,.L5)) (ET ps x 0)
def ABD (ps:List CT) (qD:List (Nat×Nat)) (x:HT ps) (N:Nat):AL:=AK (ADB ps x N) (qD.map fun q=>(q.1,.ptr q.2))
def shOk (fi:FnI) (N:Nat):Bool:=fi.qD.all (fun q=>decide (cnts fi.ps<=q.1) && decide (q.1<cnts fi.ps+N) && decide (q.2<cnts fi.ps)) && decide (fi.qD.map (·.1)).Nodup && fi.sh.all fun s=>match s with
 | .pp n=>(fi.qD.map (·.1)).contains n
 |_=>true
def AH0 (ps:List CT) (sh:List Sh) (x:HT ps) (n:Nat):List SV:=foldA sh (outSVs ps x 0)++List.replicate (n-(foldA sh (outSVs ps x 0)).length) AW
theorem AKA {rvs:List ResultVar} {c:EC TB} {E:Env} {fr:List SV} {L:AL} {a:Act} {w:World} (hs:St c E fr L a w):∀ (rvs:List ResultVar) (vs:List SV),xR P fr L rvs=some vs→
  vs.length=rvs.length/\L7 E L vs/\(rvs.mapM (m:=Sem) fun
   | .tmp t=>pure (a.tmps.getD t undef)
   | .cell x t=>do loadVar t (<-asAddr (a.tmps.getD x undef))).run P w= .ok (AN E vs) w:=by
 have AWU:∀ t,a.tmps.getD t undef=(fr.getD t AW).den E:=by
  intro t
  rw[hs.tT.1]
  have:=AAK (E:=E) fr t
  simpa using this
 intro rvs
 induction rvs with
 |nil=>intro vs h;simp only[xR,BA] at h;subst h;exact⟨rfl,trivial,rfl⟩
 |cons r rs ih=>
  intro vs h
  simp only[xR] at h
  split at h
  rotate_left
  ·cases h
  rename_i v hv
  split at h
  rotate_left
  ·cases h
  rename_i vs' A6C
  simp only[BA] at h
  subst h
  obtain⟨i1,i2,i3⟩:=ih vs' A6C
  have AW0:v.wf E L/\((fun r:ResultVar=>(match r with
   | .tmp t=>pure (a.tmps.getD t undef)
   | .cell x t=>do loadVar t (<-asAddr (a.tmps.getD x undef)):Sem Value)) r).run P w= .ok (v.den E) w:=by
   cases r with
   |tmp t=>
    simp only[ASN] at hv
    split at hv
    ·cases hv
    ·rename_i hu
     simp only[BA] at hv
     subst hv
     refine⟨?_,by simp only[AWU];rfl⟩
     rcases hs.wf t with h|h
     ·exact h
     ·rw[h] at hu;simp [AB7] at hu
   |cell x t=>
    simp only[ASN] at hv
    split at hv
    rotate_left
    ·cases hv
    rename_i i off q d hx hq hd
    split at hv
    rotate_left
    ·cases hv
    rename_i ho
    subst ho
    split at hv
    rotate_left
    ·cases hv
    rename_i cs hl
    obtain⟨G,hG⟩:=hs.hd
    obtain⟨h1,h2,h3,h4,⟨ty,h5⟩,h6⟩:=hG.MK i _ hl
    have ACZ:(asAddr (a.tmps.getD x undef)).run P w= .ok ⟨(E.nm i).CE,(E.nm i).pp.pre.length,none⟩ w:=by
     rw[AWU,hx]
     simp [SV.den,asAddr,h2]
    split at hv
    ·rename_i ha
     split at hv
     rotate_left
     ·cases hv
     rename_i bD
     simp only[BA] at hv
     subst hv
     refine⟨h6, ?_⟩
     have:=run_loadCells (P:=P) w h5 (off:=(E.nm i).pp.pre.length) (n:=q.size) (by rw[Nm.wN,AT];omega)
     have hcl:=Nm.AAZ (E.nm i) (l:=AN E cs) (off:=0) (n:=q.size) (by rw[AT];omega)
     rw[NP] at hcl
     rw[hcl] at this
     simp only[Sem.run_bind,ACZ,Result.andThen,loadVar,O3 w hd,ha,HJ,sizeOf,typeInfo]
     simp [hq,this,SV.den]
     unfold BR
     rw[AAH,AF5 (by simp [AT];omega)]
    ·rename_i ha
     split at hv
     rotate_left
     ·cases hv
     rename_i u
     simp only[BA] at hv
     subst hv
     refine⟨h6.1, ?_⟩
     have hg:=Nm.ACW (E.nm i) (l:=AN E [u]) (k:=0) (by simp [AN])
     rw[NP] at hg
     have:w.cell? ⟨(E.nm i).CE,(E.nm i).pp.pre.length,none⟩=some (u.den E):=by
      simp only[World.cell?,h5,hg]
      simp [AN]
     simp only[Sem.run_bind,ACZ,Result.andThen,loadVar,O3 w hd,ha]
     simp [this]
  refine⟨by simp [i1],⟨AW0.1,i2⟩, ?_⟩
  rw[List.mapM_cons,Sem.run_bind]
  have h1:=AW0.2
  simp only at h1
  rw[h1]
  simp only[Result.andThen,Sem.run_bind,i3,Sem.run_pure]
  rfl
theorem nU:∀ (zas bs:List CT) (x:HT (zas++bs)) (n:Nat),outSVs (zas++bs) x n=outSVs zas (HT.left zas bs x) n++outSVs bs (HT.right zas bs x) (n+cnts zas)
 | [],bs,x,n=>rfl
 |d::r,bs,x,n=>by
  have hh:HT.hd d r (HT.left (d::r) bs x)=HT.hd d (r++bs) x:=by cases r <;> rfl
  have ht:HT.tl d r (HT.left (d::r) bs x)=HT.left r bs (HT.tl d (r++bs) x):=by cases r <;> rfl
  have k1:outSVs (d::r++bs) x n=UB d (HT.hd d (r++bs) x) n::outSVs (r++bs) (HT.tl d (r++bs) x) (n+d.cnt):=rfl
  have k2:outSVs (d::r) (HT.left (d::r) bs x) n=UB d (HT.hd d r (HT.left (d::r) bs x)) n::outSVs r (HT.tl d r (HT.left (d::r) bs x)) (n+d.cnt):=rfl
  rw[k1,k2,hh,ht,nU r bs]
  simp only[cnts,rU,O1]
  rfl
theorem ABE:∀ (os:List CT) (is:List Nat) (v:SV),v∈kM os is->∃ i∈is,v= .loc i 0\/v= .NV i
 | [],_,v,h=>by simp [kM] at h
 |_::_,[],v,h=>by simp [kM] at h
 |d::r,i::is,v,h=>by
  simp only[kM,GA] at h
  rcases h with rfl|h
  ·refine⟨i,by simp, ?_⟩
   cases d.ptr with
   |true=>exact .inl rfl
   |false=>exact .inr rfl
  ·obtain⟨k,h1,h2⟩:=ABE r is v h
   exact⟨k,by simp [h1],h2⟩
theorem dO:∀ (cs:List CT) (a b:Nat),MR cs (a+b)=(MR cs b).map (fun k=>a+k)
 | [],_,_=>rfl
 |e::s,a,b=>by
  simp only[MR]
  rw[O1,dO s]
  simp
theorem AMS {md:PM} {AR:Nat->Option AX} {E:Env}:∀ (os:List CT) (is:List Nat) (a:MQ (HT os)),KF md AR os (kM os is)=some a->os.all okO=true->os.length=is.length->(MR os 0).map (EM E a.nes)=is.map E.nm
 | [],[],a,_,_,_=>rfl
 | [],_::_,a,_,_,h=>by simp at h
 |_::_,[],a,_,_,h=>by simp at h
 |d::r,i::is,a,h,QV,hl=>by
  simp only[vV,ID] at QV
  obtain⟨v,vs',a1,a2,he,h1,h2,rfl⟩:=RI h
  simp only[kM,mS] at he
  obtain⟨rfl,rfl⟩:=he
  have ih:=AMS (E:=E) r is a2 h2 QV.2 (by simpa using hl)
  have l1:=SH h1
  obtain⟨k1,k2⟩:=MP E a1.nes a2.nes
  have hd:EM E a1.nes 0=E.nm i/\0<a1.nes.length:=by
   obtain⟨kZ,u,nes,x,p1,p2,p3,p4,p5⟩:=LL h1
   rcases p3 with ⟨hp,j,hj,hl,e1,e2⟩|⟨hp,hag,e1,e2⟩
   ·rw[hp] at hj
    simp only[SV.loc.injEq,and_true] at hj
    subst hj
    rw[e1]
    exact⟨rfl,by simp⟩
   ·have hk:=QV.1
    simp only[okO,hp,Bool.false_or,ID,TZ] at hk
    obtain⟨⟨ho,A6D⟩,QO⟩:=hk
    rcases hag with ⟨hx,_⟩|⟨_,rfl⟩
    ·rw[A6D] at hx;cases hx
    rw[hp] at p1
    rw[e1]
    rw[AA ho] at p1
    clear h h1 h2 ih k1 k2 l1 p2 p4 p5 e1 e2
    revert x
    cases ht:d.t with
    |slice b=>
     intro x p1
     simp only[GC,NX] at p1
     revert p1
     split
     ·rename_i q hq
      intro p1
      simp only[BA,DH] at p1
      obtain⟨-, -,rfl, -⟩:=p1
      revert hq
      split
      ·split
       ·intro hq;cases hq
       ·intro hq;cases hq
      ·split
       ·split
        ·intro hq;cases hq
        ·intro hq
         simp only[BA,DH] at hq
         obtain⟨-,rfl, -⟩:=hq
         exact⟨rfl,by simp⟩
       ·intro hq;cases hq
      ·split
       ·rename_i hb
        rw[ht,←hb] at QO
        simp [Ty.AAN,Ty.tK] at QO
       ·intro hq;cases hq
      ·split
       ·rename_i hb
        rw[ht,←hb] at QO
        simp [Ty.AAN,Ty.tK] at QO
       ·intro hq;cases hq
      ·intro hq;cases hq
     ·intro p1;cases p1
    |_=>rw[ht] at QO;simp [Ty.AAN] at QO
  simp only[MR,MN]
  have hs:=dO r d.cnt 0
  rw[NP] at hs
  rw[KK,hs,VH,←ih]
  show EM E (a1.nes++a2.nes) 0::_=_
  rw[k1 0 hd.2,hd.1]
  congr 1
  apply WB
  intro k _
  show EM E (a1.nes++a2.nes) (d.cnt+k)=_
  rw[<-l1];exact k2 k
theorem ASO {md:PM} {AR:Nat->Option AX} {E:Env}:∀ (zas os:List CT) (vs:List SV) (is:List Nat) (a:MQ (HT (zas++os))),KF md AR (zas++os) (vs++kM os is)=some a->vs.length=zas.length->os.all okO=true->os.length=is.length→
  (MR os (cnts zas)).map (EM E a.nes)=is.map E.nm
 | [],os,[],is,a,h,_,QV,hl=>AMS os is a h QV hl
 | [],_,_::_,_,_,_,h,_,_=>by simp at h
 |_::_,_,[],_,_,_,h,_,_=>by simp at h
 |d::r,os,v0::vs,is,a,h,hv,QV,hl=>by
  obtain⟨v,vs',a1,a2,he,h1,h2,rfl⟩:=RI (c:=d) (r:=r++os) h
  simp only[rU,mS] at he
  obtain⟨rfl,rfl⟩:=he
  have ih:=ASO (E:=E) r os vs is a2 h2 (by simpa using hv) QV hl
  have l1:=SH h1
  obtain⟨k1,k2⟩:=MP E a1.nes a2.nes
  rw[cnts,dO,VH,←ih]
  apply WB
  intro k _
  show EM E (a1.nes++a2.nes) (d.cnt+k)=_
  rw[<-l1];exact k2 k
theorem calleeRuns_of {f : FuncId} {fn : Func} {c : Code} (hf : P.funcs[f]? = some fn) (hb : fn.body = some c) (hn : (fn.name == "runtime.NumGoroutine") = false) : CalleeRuns P f := by
 intro args w
 have hn' : ¬ fn.name = "runtime.NumGoroutine" := by simpa using hn
 simp [callFunc,hf,hn',hb]
theorem AS.AMT {TB:Tb} {c:EC TB} {G:Nat->Prop} {w:World} {ms:Nat->Nm}:∀ (qD:List (Nat×Nat)) {L:AL},AS c G w (IG ms) L->(∀ q∈qD,look L q.1=some .L5/\Al L q.2/\c.Old (ms q.1).CE∧
   ∃ arr ty fz,c.w0.heap[(ms q.1).CE]? =some (.cells arr ty fz)/\arr[(ms q.1).off]? =some (.pointer (some ⟨(ms q.2).CE,(ms q.2).off,none⟩)))->(qD.map (·.1)).Nodup→
  AS c G w (IG ms) (AK L (qD.map fun q=>(q.1,.ptr q.2)))/\(∀ n,Al L n->Al (AK L (qD.map fun q=>(q.1,.ptr q.2))) n)/\∀ q∈qD,Al (AK L (qD.map fun q=>(q.1,.ptr q.2))) q.1
 | [],L,h,_,_=>⟨h,fun _ hn=>hn,fun q hq=>by cases hq⟩
 |p::r,L,h,hp,hn=>by
  obtain⟨p1,p2,p3,p4⟩:=hp p (by simp)
  simp only[MN,WD] at hn
  have DO:=AQ p1
  have h1:=h.change (i:=p.1) (e' := .ptr p.2) (m:=(IG ms).nm p.1) (w' :=w) DO (.refl _) (EY _) (fun _=>rfl) rfl (fun _ _ _=>rfl) (fun b hb=>by cases hb) (fun _ _ _ _ _ _ hb=>by cases hb)
   (fun _=>by rw[dC];exact⟨p3,p4,BZ rfl _ p2⟩)
  rw[dC] at h1
  obtain⟨r1,r2,r3⟩:=AS.AMT r h1 (fun q hq=>by
   obtain⟨q1,q2,q3,q4⟩:=hp q (by simp [hq])
   refine⟨?_,BZ rfl _ q2,q3,q4⟩
   rw[BC DO,AD]
   ·exact q1
   ·intro he
    exact hn.1 (he ▸ DD.2 ⟨q,hq,rfl⟩)) hn.2
  refine⟨r1,fun n hn=>r2 n (BZ rfl n hn),fun q hq=> ?_⟩
  rcases GA.1 hq with rfl|hq
  ·exact r2 _ ⟨.ptr q.2,by rw[BC DO,AA rfl],rfl⟩
  ·exact r3 q hq
set_option maxHeartbeats 1000000 in
theorem callsV_of_rk {cx:Cx} (hcx:cx.Ok P) {f:FuncId} {fn:Func} {c:Code} {n N:Nat} {rvs:List ResultVar} {fi:FnI}
  (hf : P.funcs[f]? = some fn) (hb : fn.body = some c) (hnm : (fn.name == "runtime.NumGoroutine") = false) (hn : fn.ntmps = n) (hres : fn.results = rvs.toArray) (hps : ∀ x, (foldA fi.sh (outSVs fi.ps x 0)).length ≤ n)
  (hst:(rvs.length=fi.rs.length/\fi.os.all okO=true/\fi.os.length=fi.bk.length/\(fi.bk.all fun i=>decide (i<cnts fi.ps))=true/\(fi.pin.all fun q=>decide (q.2.2.1<cnts fi.ps))=true/\shOk fi N=true))
  (hrk:∀ x,fi.F x=rk P cx c (HT (fi.rs++fi.os)) 1000000 (AWV P rvs fi.cl fi.pin fi.bk fi.os (fi.rs++fi.os)) (AH0 fi.ps fi.sh x n) (ABD fi.ps fi.qD x N)):CallsV P cx.tb f fi:=by
 refine⟨calleeRuns_of hf hb hnm,fun x r hr w G ms hG AW4 JE ARJ A6E=> ?_⟩
 rw[hrk] at hr
 refine calls_of_wp hf hb ?_
 let cf:EC cx.tb:=⟨w,fun b=>b∈CF fi.ps x ms,G⟩
 have h0:AS cf G w (IG ms) (List.replicate (cnts fi.ps+N) (0,.L5)):=by
  refine⟨.refl _,EY _,fun _ _=>rfl,hG,fun _ h=>h,fun _ h=> .inl h, ?_, ?_, ?_,ARJ⟩
  ·intro k e he
   unfold look at he
   rw[vG] at he
   split at he
   ·rename_i q hq
    split at hq
    ·simp only[BA] at hq;subst hq
     simp only[BA] at he;subst he;trivial
    ·cases hq
   ·cases he
  ·intro k t xss q he
   unfold look at he
   rw[vG] at he
   split at he
   ·rename_i q hq
    split at hq
    ·simp only[BA] at hq;subst hq
     simp only[BA] at he;cases he
    ·cases hq
   ·cases he
  ·intro k j e f' b _ he _ hb
   unfold look at he
   rw[vG] at he
   split at he
   ·rename_i q hq
    split at hq
    ·simp only[BA] at hq;subst hq
     simp only[BA] at he;subst he;rcases hb with hb|⟨hb,_⟩|⟨hb,_⟩ <;> cases hb
    ·cases hq
   ·cases he
 have A6F:∀ j,j<cnts fi.ps->look (List.replicate (cnts fi.ps+N) (0,AX.L5)) (0+j)=some .L5:=by
  intro j hj
  unfold look
  rw[vG,AA (by omega)]
 have XU:∀ b∈CF fi.ps x ms,JH (IG ms) (List.replicate (cnts fi.ps+N) (0,AX.L5)) b:=by
  intro b _ k e he hb
  unfold look at he
  rw[vG] at he
  split at he
  ·rename_i q hq
   split at hq
   ·simp only[BA] at hq;subst hq
    simp only[BA] at he;subst he;rcases hb with hb|⟨hb,_⟩|⟨hb,_⟩ <;> cases hb
   ·cases hq
  ·cases he
 obtain⟨a1,a2,a3⟩:=h0.nE fi.ps x A6F AW4 JE XU
 have eE:(IG ms).put 0 (cnts fi.ps) ms=IG ms:=by
  refine L9 (fun k=> ?_) rfl (fun k=> ?_) <;> simp only[Env.put,IG] <;> split <;> simp
 rw[eE] at a1 a3
 have hL:ADB fi.ps x N=AK (List.replicate (cnts fi.ps+N) (0,.L5)) (ET fi.ps x 0):=rfl
 rw[<-hL] at a1 a2 a3
 have uK:=hst.2.2.2.2.2
 simp only[shOk,ID,JL] at uK
 obtain⟨⟨sh1,sh2⟩,sh3⟩:=uK
 have hpt:∀ q∈fi.qD,look (ADB fi.ps x N) q.1=some .L5/\Al (ADB fi.ps x N) q.2/\cf.Old (ms q.1).CE∧
   ∃ arr ty fz,cf.w0.heap[(ms q.1).CE]? =some (.cells arr ty fz)/\arr[(ms q.1).off]? =some (.pointer (some ⟨(ms q.2).CE,(ms q.2).off,none⟩)):=by
  intro q hq
  have h1:=LP.1 sh1 q hq
  simp only[ID,JL] at h1
  obtain⟨p1,p2,p3⟩:=A6E q hq
  refine⟨?_,(a2 q.2).1 ⟨mY _,by omega⟩,⟨p1,p2⟩,p3⟩
  rw[(a2 q.1).2 (by omega)]
  unfold look
  rw[vG,AA (by omega)]
 obtain⟨b1,b2,b3⟩:=AS.AMT fi.qD a1 hpt sh2
 have a1:=b1
 have a3:=nG fi.sh _ (fun n hn=>by
  have:=LP.1 sh3 _ hn
  simp only[ALG] at this
  obtain⟨q,hq,rfl⟩:=DD.1 this
  exact b3 q hq) (L8 b2 (fun _ _=>rfl) _ a3).1
 have a2:∀ k,0<=k/\k<0+cnts fi.ps->Al (ABD fi.ps fi.qD x N) k:=fun k hk=>b2 k ((a2 k).1 hk)
 have hs:St cf (IG ms) (AH0 fi.ps fi.sh x n) (ABD fi.ps fi.qD x N) { tmps:=(AN (IG ms) (foldA fi.sh (outSVs fi.ps x 0))).toArray++Array.replicate (fn.ntmps-(AN (IG ms) (foldA fi.sh (outSVs fi.ps x 0))).toArray.size) undef,defers:=[] } w:=by
  refine⟨⟨?_,rfl⟩,⟨G,a1⟩, ?_⟩
  ·simp only[AH0,G4,hn]
   apply aM
   simp [AT]
   rw[FO,List.map_replicate]
   rfl
  ·intro t
   left
   unfold AH0
   simp only[List.getD]
   by_cases ht:t<(foldA fi.sh (outSVs fi.ps x 0)).length
   ·rw[WA ht]
    have:=B0.1 a3 _ (AFE ht)
    rw[OT ht]
    exact this
   ·rw[V_ (by omega),vG]
    split <;> exact nS _ _
 refine wp_mono (AGZ hcx c _ _ _ _ _ _ hr cf (IG ms) _ w hs) ?_
 rintro e a' w' ⟨E',fr',L',h1,h2,h3⟩
 have fin:AWV P rvs fi.cl fi.pin fi.bk fi.os (fi.rs++fi.os) .ret fr' L' =some r->a'.defers=[]/\∃ v,(results fn a'.tmps).run P w' = .ok v w' ∧
   (∃ G' ms',Ending.returned v= .returned ((UC (outSVs fi.rs (HT.left fi.rs fi.os r) 0)).den (IG ms'))∧
   Rest w w' /\w.heap.size<=w'.heap.size/\(∀ b,b<w.heap.size->b∉CF fi.ps x ms->w'.heap[b]? =w.heap[b]?)∧
   (∀ b,G b->G' b)/\(∀ b,G' b->G b\/w.heap.size<=b\/b∈CF fi.ps x ms)/\(∀ b,G' b->b<w'.heap.size)∧
   PS (⟨w,fun b=>b∈CF fi.ps x ms,G⟩:EC cx.tb) G' w' (fi.rs++fi.os) r ms' /\(CF (fi.rs++fi.os) r ms').Nodup∧
   (MR fi.os (cnts fi.rs)).map ms' =fi.bk.map ms/\∀ q∈fi.pin,ms' q.1=ms q.2.2.1):=by
  intro hk
  simp only[AWV] at hk
  obtain⟨Ec,h1,hxc⟩:=RO fi.cl h1
  have h2:=h2.trans (hxc.mono (fun _ h=>by cases h))
  clear hxc
  generalize H0 fi.cl L' =L' at hk h1 h2
  generalize Ec=E' at h1 h2
  split at hk
  ·cases hk
  rename_i vs hvs
  split at hk
  ·cases hk
  rename_i tk htk
  split at hk
  rotate_left
  ·cases hk
  rename_i QV
  simp only[ID] at QV
  obtain⟨QV,A04⟩:=QV
  simp only[BA] at hk
  obtain⟨l1,l2,l3⟩:=AKA (rvs:=rvs) h1 rvs vs hvs
  obtain⟨G3,hG3⟩:=h1.hd
  have hio:∀ i∈fi.bk,Al (ABD fi.ps fi.qD x N) i:=fun i hi=>a2 i ⟨mY _,by have:=LP.1 hst.2.2.2.1 i hi;simpa using this⟩
  have hwv:L7 E' L' (vs++kM fi.os fi.bk):=by
   refine B0.2 fun v hv=> ?_
   rcases FG.1 hv with hv|hv
   ·exact B0.1 l2 v hv
   ·obtain⟨i,hi,rfl|rfl⟩:=ABE _ _ _ hv
    ·exact (h2.nm i (hio i hi)).2
    ·exact (h2.nm i (hio i hi)).2
  obtain⟨G1,G2,t1,t2,t3,t4,t5,t6,t7,t8,t9,t10,t11⟩:=hG3.take (md:= .iG) (by simp) (fun n e h=>h) htk QV hwv
  rw[t4 rfl] at t9
  obtain⟨q1,q2⟩:=X1 E' _ _ _ htk
  have lE:=q2 (IG (EM E' tk.nes)) 0 (fun k _=>by simp [IG])
  rw[hk,nU,G4,G4] at lE
  have hlen:(AN E' vs).length=(AN (IG (EM E' tk.nes)) (outSVs fi.rs (HT.left fi.rs fi.os r) 0)).length:=by
   rw[AT,AT,OJ,l1,hst.1]
  have hd1:=(List.append_inj lE hlen).1
  refine⟨h1.tT.2,(UC vs).den E', ?_,G1,EM E' tk.nes, ?_,t1.rest,t1.size, ?_,t1.glo, ?_,t1.y9,by rw[hk] at t9;exact t9,by rw[hk] at t10;exact t10, ?_,fun q hq=> ?_⟩
  ·unfold results
   rw[Sem.run_bind,hres,Array.mapM_eq_mapM_toList,map_eq_pure_bind,Sem.run_bind]
   have e0:rvs.toArray.toList=rvs:=by simp
   rw[e0]
   erw [l3]
   simp only[Result.andThen,Sem.run_pure]
   congr 1
   match vs with
   | []=>rfl
   | [v]=>simp [UC,AN]
   |v::u::r=>simp [UC,SV.den,AN]
  ·rw[AAQ hd1]
  ·intro b hb hbn
   exact t1.old b ⟨hb,hbn⟩
  ·intro b hb
   rcases t1.ghi b hb with h|h
   ·exact .inl h
   ·right
    by_cases DO:b<w.heap.size
    ·right
     exact vF fun hx=>h ⟨DO,hx⟩
    ·left;omega
  ·rw[ASO (E:=E') fi.rs fi.os vs fi.bk tk htk (by rw[l1,hst.1]) hst.2.1 hst.2.2.1]
   apply WB
   intro i hi
   exact (h2.nm i (hio i hi)).1
  ·have p1:=LP.1 A04 q hq
   have p2:=LP.1 hst.2.2.2.2.1 q hq
   simp only[JL] at p2
   have pP:Al (ABD fi.ps fi.qD x N) q.2.2.1:=a2 q.2.2.1 ⟨mY _,by simpa using p2⟩
   unfold gQ at p1
   split at p1
   ·rename_i i hi
    have hi2:i=q.2.2.1:=by simpa using p1
    simp only[EM,hi,NE.nm,hi2]
    exact (h2.nm _ pP).1
   ·cases p1
 cases e with
 |normal=>exact fin h3
 |ret=>exact fin h3
 |exit id=>cases h3
 |goto l=>cases h3
 |panic ch=>cases h3
 |outgrown=>cases h3
def ADC (l:List (Nat×FnI)) (n:FuncId):Option FnI:=lk l n
def AM (P:Program) (TB:Tb) (l:List (Nat×FnI)):Prop:=∀ n fi,lk l n=some fi->CallsV P TB n fi
theorem AM.nil:AM P TB []:=by intro n g h;cases h
theorem AM.cons {l:List (Nat×FnI)} {n:FuncId} {g:FnI} (h:CallsV P TB n g) (hl:AM P TB l):AM P TB ((n,g)::l):=by
 intro k g' hk
 simp only[lk] at hk
 split at hk
 ·rename_i he;subst he;simp only[BA] at hk;subst hk;exact h
 ·exact hl k g' hk
theorem BD {nm:List (Nat×Nat×Nat)} {CK:List Nat} {loops aQ:List (Nat×bG)} {l:List (Nat×FnI)} (h:AM P TB l) {x:List (Nat×Xt)} (hx:∀ n e,lk x n=some e->A_ P n e) {y z u dy:List Nat} {op:List (Nat×(Nat×Nat×Nat))}:Cx.Ok P { nm:=nm,CK:=CK,fns:=ADC l,loops:=loops,aQ:=aQ,tb:=TB,exts:=x,lets:=y,A31:=z,A32:=u,opens:=op,A09:=dy }:=⟨h,hx⟩
theorem A_.nil:∀ n e,lk ([]:List (Nat×Xt)) n=some e->A_ P n e:=by intro n e h;cases h
theorem A_.cons {x:List (Nat×Xt)} {m:Nat} {d:Xt} (h:A_ P m d) (hx:∀ n e,lk x n=some e->A_ P n e):∀ n e,lk ((m,d)::x) n=some e->A_ P n e:=by
 intro k g hk
 simp only[lk] at hk
 split at hk
 ·rename_i he;subst he;simp only[BA] at hk;subst hk;exact h
 ·exact hx k g hk
end
end Go.V3
namespace Go.V3
open Go
def AG (e:Int):Int:=IntKind.wrap .i64 e
def gl {α:Type} (d:α) (xs:List α) (k:Nat):α:=xs.getD k d
end Go.V3
namespace Go.V3
open Go Go.RowKit
variable {TB:Tb}
theorem LM {a:Int} (h:(Lit.int .i64 a).wf=true):I64 a:=by
 simp [Lit.wf,IntKind.min,IntKind.max,IntKind.signed,IntKind.bits] at h
 exact⟨by omega,by omega⟩
theorem APC {a:Int} (h:(Lit.int .u64 a).wf=true):∃ x:BitVec 64,a=(x.toNat:Int):=by
 simp [Lit.wf,IntKind.min,IntKind.max,IntKind.signed,IntKind.bits] at h
 refine⟨BitVec.ofNat 64 a.toNat, ?_⟩
 rw[tF]
 have:a.toNat<2 ^ 64:=by omega
 rw[a9 this]
 omega
def nm0:Nm:=⟨0,0,true,0,0,none⟩
def xS (TB:Tb) (w:World):Prop:=∀ q∈TB,q.1<w.heap.size/\∃ ty fz,w.heap[q.1]? =some (.cells q.2 ty fz)
theorem xS.nil (w:World):xS [] w:=fun q h=>by cases h
end Go.V3
namespace Go.V3
open Go Go.RowKit Go.ChangeShapes Go.WideShapes
variable {TB:Tb}
def Wf:(t:Ty)->t.T->Prop
 | .int k,x=>(Lit.int k x).wf=true
 | .pair a b,x=>Wf a x.1/\Wf b x.2
 | .slice a,xs=>(xs:List a.T).length<=maxLen/\∀ x∈(xs:List a.T),Wf a x
 | .QT,x=>(x:Nat)<18446744073709551616
 |_,_=>True
def xT (P:Program) (f:TypeId->Ty->Bool):List Field->Ty->Nat->Bool
 | [],_,_=>false
 | [x],T,off=>x.offset==off && P.cellsOf x.type==T.sz && f x.type T
 |x::r,.pair a b,off=>x.offset==off && P.cellsOf x.type==a.sz && f x.type a && xT P f r b (off+a.sz)
 |_::_,_,_=>false
def laid (P:Program):Nat->TypeId->Ty->Bool
 |0,_,_=>false
 |n+1,t,T=>match P.underlying t with
  |some (.int .u64)=>(match T with| .u64=>true|_=>false)
  |some (.int k)=>(match T with| .int k' =>decide (k=k')|_=>false)
  |some .bool=>(match T with| .bool=>true|_=>false)
  |some .string=>(match T with| .str=>true|_=>false)
  |some (.float .f64)=>(match T with| .QT=>true|_=>false)
  |some (.slice e)=>(match T with| .slice a=>P.cellsOf e==a.sz && decide (0<a.sz) && laid P n e a|_=>false)
  |some (.struct fs)=>P.cellsOf t==T.sz && xT P (laid P n) fs.toList T 0
  |_=>false
theorem nV {w:World} {a:Addr} {n:Nat} {l:List Value} (h:w.cells? 0 a n=some l) (hn:0<n):
  a.spot=none/\∃ arr ty fz,w.heap[a.block]? =some (.cells arr ty fz)/\l=BR arr a.off n/\l.length=n:=by
 obtain⟨-,hl,hc⟩:=World.cells?_some h
 have hs:a.spot=none:=by
  have h0:=hc 0 hn
  rw[OT (by omega)] at h0
  unfold World.cell? at h0
  split at h0
  ·split at h0
   ·cases h0
   ·rename_i hsp
    have e:a.add 0=a:=by simp [Addr.add]
    rw[e] at hsp
    simpa using hsp
  ·cases h0
 refine⟨hs, ?_⟩
 have AWW:∀ i,(a.add i).block=a.block/\(a.add i).off=a.off+i/\(a.add i).spot=none:=by
  intro i
  unfold Addr.add
  split
  ·rename_i h0;subst h0;exact⟨rfl,rfl,hs⟩
  ·exact⟨rfl,rfl,by first|rfl|exact hs⟩
 have h0:=hc 0 hn
 rw[OT (by omega)] at h0
 unfold World.cell? at h0
 rw[(AWW 0).1] at h0
 split at h0
 rotate_left
 ·cases h0
 rename_i arr ty fz hb
 refine⟨arr,ty,fz,hb, ?_,hl⟩
 apply WC
 intro i
 unfold BR
 rw[mR]
 split
 ·rename_i hi
  rw[<-hc i hi]
  unfold World.cell?
  rw[(AWW i).1,hb]
  simp only[(AWW i).2.2,(AWW i).2.1]
  simp [cP]
 ·rename_i hi
  exact UX (by omega)
section
variable {H:Type} {enc:TypeId×Value->H} {P:Program} {w:World} {held:Bool}
theorem AKB:∀ (n:Nat) (t:TypeId) (T:Ty),laid P n t T=true->∀ (fuel:Nat) (cs:List Value) (x:DataW H×List MemPlace),DataW.trod enc P w 0 (fun _=>true) held fuel t cs=some x→
  ∃ y:T.T,Rp (fun b=>b<w.heap.size) w T y cs/\Wf T y:=by
 intro n
 induction n with
 |zero=>intro t T h;cases h
 |succ n ih=>
  intro t T h fuel cs x hx
  unfold laid at h
  split at h
  ·rename_i hu
   split at h
   ·obtain⟨m,rfl, -,hw⟩:=DataW.trod_int hu hx
    obtain⟨y,rfl⟩:=APC hw
    exact⟨y,rfl,trivial⟩
   ·cases h
  ·rename_i k hk hu
   split at h
   ·rename_i k'
    have:=MM h
    subst this
    obtain⟨m,rfl, -,hw⟩:=DataW.trod_int hu hx
    exact⟨m,rfl,hw⟩
   ·cases h
  ·rename_i hu
   split at h
   ·obtain⟨b,rfl, -⟩:=DataW.trod_bool hu hx
    exact⟨b,rfl,trivial⟩
   ·cases h
  ·rename_i hu
   split at h
   ·obtain⟨s,rfl, -⟩:=DataW.trod_string hu hx
    exact⟨s,rfl,trivial⟩
   ·cases h
  ·rename_i hu
   split at h
   ·cases fuel with
    |zero=>simp [DataW.trod] at hx
    |succ m=>
     unfold DataW.trod at hx
     rw[hu] at hx
     split at hx <;> simp_all
     rename_i b1 heq
     subst heq
     refine⟨b1,rfl, ?_⟩
     simp only[Lit.wf,JL] at*
     show b1<18446744073709551616
     omega
   ·cases h
  ·rename_i e hu
   split at h
   ·rename_i a
    simp only[ID,WN,JL] at h
    obtain⟨⟨bD,XF⟩,hl⟩:=h
    rcases DataW.trod_slice hu hx with ⟨rfl, -⟩|⟨ad,len,cap,elems,rest,m,rfl,rfl, -, -,hlc,bF,hlen,hel, -, -⟩
    ·exact⟨([]:List a.T),⟨nm0,rfl,rfl,EY _,.inl rfl⟩,mY _,by simp⟩
    ·have key:∀ i,i<len->∃ y:a.T,(ad.add (i*a.sz)).spot=none/\∃ arr ty fz,w.heap[ad.block]? =some (.cells arr ty fz)/\Rp (fun b=>b<w.heap.size) w a y (BR arr (ad.off+i*a.sz) a.sz)/\Wf a y:=by
      intro i hi
      have he:=hel i hi
      rw[OT (by omega),AEY] at he
      obtain⟨l,h1,h2⟩:=he
      rw[bD] at h1
      obtain⟨h0,arr,ty,fz,h3,h4,h5⟩:=nV h1 XF
      obtain⟨y,h6,h7⟩:=ih e a hl m l _ h2
      refine⟨y,h0,arr,ty,fz, ?_, ?_,h7⟩
      ·have:(ad.add (i*a.sz)).block=ad.block:=by unfold Addr.add;split <;> rfl
       rw[this] at h3;exact h3
      ·have:(ad.add (i*a.sz)).off=ad.off+i*a.sz:=by
        unfold Addr.add;split
        ·rename_i h0;simp [h0]
        ·rfl
       rw[this] at h4;rw[<-h4];exact h6
     by_cases hl0:len=0
     ·subst hl0
      refine⟨([]:List a.T),⟨⟨0,0,true,0,cap,some ad⟩,rfl,rfl,hlc,.inl rfl⟩,mY _,by simp⟩
     ·obtain⟨y0,AYY,arr,ty,fz,hb, -, -⟩:=key 0 (by omega)
      have AYY:ad.spot=none:=by simpa [Addr.add] using AYY
      have A3S:∀ i,i<len->∃ y:a.T,Rp (fun b=>b<w.heap.size) w a y (BR arr (ad.off+i*a.sz) a.sz)/\Wf a y:=by
       intro i hi
       obtain⟨y, -,ZA,ty',fz',UA,h1,h2⟩:=key i hi
       rw[hb] at UA
       simp only[BA,Obj.cells.injEq] at UA
       obtain⟨rfl, -, -⟩:=UA
       exact⟨y,h1,h2⟩
      have ZD:∃ ys:List a.T,ys.length=len/\∀ i y,ys[i]? =some y->Rp (fun b=>b<w.heap.size) w a y (BR arr (ad.off+i*a.sz) a.sz)/\Wf a y:=by
       clear hel hlen hx hlc bF hl0 key
       induction len with
       |zero=>exact⟨[],rfl,by simp⟩
       |succ len ihl=>
        obtain⟨ys,h1,h2⟩:=ihl (fun i hi=>A3S i (by omega))
        obtain⟨y,h3,h4⟩:=A3S len (by omega)
        refine⟨ys++ [y],by simp [h1], ?_⟩
        intro i z hz
        by_cases hi:i<ys.length
        ·rw[WA hi] at hz;exact h2 i z hz
        ·rw[V_ (by omega)] at hz
         have:i=len:=by
          have:=(zB.1 hz).1
          simp at this;omega
         subst this
         rw[h1] at hz
         simp at hz
         subst hz
         exact⟨h3,h4⟩
      obtain⟨ys,h1,h2⟩:=ZD
      have A6G:ad.block<w.heap.size:=by
       rcases IA ad.block w.heap.size with h|h
       ·exact h
       ·rw[AEZ h] at hb;cases hb
      refine⟨ys,⟨⟨ad.block,ad.off,false,len,cap,none⟩, ?_,h1.symm,hlc,.inr ⟨rfl,A6G,arr,ty,fz,hb,fun i y hy=>(h2 i y hy).1⟩⟩,by rw[h1];omega, ?_⟩
      ·simp [Nm.ad]
       cases ad;simp_all
      ·intro y hy
       obtain⟨i,hi⟩:=List.getElem?_of_mem hy
       exact (h2 i y hi).2
   ·cases h
  ·rename_i fs hu
   simp only[ID,WN] at h
   obtain⟨bD,hl⟩:=h
   obtain⟨xs,m,rfl, -,hlen,hxs,hel⟩:=DataW.trod_struct hu hx
   have A0X:∀ f∈fs.toList,∃ z,DataW.trod enc P w 0 (fun _=>true) held m f.type ((cs.drop f.offset).take (P.cellsOf f.type))=some z:=by
    intro f hf
    obtain⟨i,hi⟩:=List.getElem?_of_mem hf
    have:=hel i f (by simpa using hi)
    have hi2:i<xs.length:=by
     have:=(zB.1 hi).1
     rw[hxs];simpa using this
    rw[OT hi2] at this
    exact⟨_,this⟩
   have go:∀ (l:List Field) (T:Ty) (off:Nat),xT P (laid P n) l T off=true->(∀ f∈l,∃ z,DataW.trod enc P w 0 (fun _=>true) held m f.type ((cs.drop f.offset).take (P.cellsOf f.type))=some z)→
     ∃ y:T.T,Rp (fun b=>b<w.heap.size) w T y ((cs.drop off).take T.sz)/\Wf T y:=by
    intro l
    induction l with
    |nil=>intro T off h;simp [xT] at h
    |cons f r ihr=>
     intro T off h hf
     cases r with
     |nil=>
      simp only[xT,ID,WN] at h
      obtain⟨⟨rfl,h2⟩,h3⟩:=h
      obtain⟨z,hz⟩:=hf f (by simp)
      rw[h2] at hz
      exact ih _ _ h3 _ _ _ hz
     |cons g r=>
      cases T with
      |pair a b=>
       simp only[xT,ID,WN] at h
       obtain⟨⟨⟨rfl,h2⟩,h3⟩,h4⟩:=h
       obtain⟨z,hz⟩:=hf f (by simp)
       rw[h2] at hz
       obtain⟨y,hy,wy⟩:=ih _ _ h3 _ _ _ hz
       obtain⟨y2,hy2,wy2⟩:=ihr b (f.offset+a.sz) h4 (fun q hq=>hf q (by simp [hq]))
       refine⟨(y,y2),⟨_,_, ?_,hy,hy2⟩,wy,wy2⟩
       rw[Ty.sz,List.take_add,ALV]
      |_=>simp [xT] at h
   obtain⟨y,hy,wy⟩:=go fs.toList T 0 hl A0X
   refine⟨y, ?_,wy⟩
   rw[AAH,AF5 (by omega)] at hy
   exact hy
  ·cases h
end
structure zP (w:World) (ps:List CT) (x:HT ps) (ms:Nat->Nm) (vals:List Value):Prop where
 all:∀ (TB:Tb) (c:EC TB),PS c (fun b=>b<w.heap.size) w ps x ms
 own:CF ps x ms=[]
 den:AN (IG ms) (outSVs ps x 0)=vals
theorem zP.nil (w:World):zP w [] () (fun _=>nm0) []:=⟨fun _ _=>trivial,rfl,rfl⟩
theorem zP.cons {w:World} {r:List CT} {x:HT r} {ms:Nat->Nm} {vals:List Value} (h:zP w r x ms vals) {t:Ty} {ag:Bool} {v:Value} {cs:List Value} (hv:(ag=true/\v= .agg cs.toArray)\/(ag=false/\cs=[v])) (y:t.T) (hy:Rp (fun b=>b<w.heap.size) w t y cs):
  ∃ ms',zP w (⟨t,ag,false,false⟩::r) (HT.mk ⟨t,ag,false,false⟩ r y x) ms' (v::vals):=by
 obtain⟨m,e,hs⟩:=hy.out
 let ms' :Nat->Nm:=fun k=>if k<t.HW then m k else ms (k-t.HW)
 have qE:(CT.mk t ag false false).cnt=t.HW:=by simp [CT.cnt,CT.pn]
 have hm1:∀ k,k<t.HW->ms' k=m k:=fun k hk=>AA hk
 have hm2:(fun k=>ms' (t.HW+k))=ms:=by
  funext k
  show (if t.HW+k<t.HW then _ else ms (t.HW+k-t.HW))=_
  rw[AD (by omega)]
  congr 1;omega
 refine⟨ms',fun TB c=>⟨⟨fun j e he=> ?_,fun h=>by cases h⟩, ?_⟩, ?_, ?_⟩
 ·rw[HT.rZ] at he
  have hj:j<t.HW:=by
   have:=(zB.1 he).1
   rwa [BI] at this
  have hE:=hs j e he
  show k_ c _ w (ms' (0+j)) e
  rw[KK,hm1 j hj]
  cases e with
  |shr t xs=>exact hE
  |dead=>trivial
  |_=>exact hE.elim
 ·rw[HT.r_,qE,hm2];exact h.all TB c
 ·rw[CF,HT.r_,qE,hm2,h.own,NY,HT.rZ]
  rw[gP];rfl
 ·have hd:AN (IG ms') (IY t y 0)=cs:=by
   rw[WS,e]
   exact IB _ _ fun k hk=>by rw[KK];exact hm1 k hk
  simp only[outSVs,AN,HT.rZ,HT.r_,mS]
  refine⟨?_, ?_⟩
  ·unfold UB
   rcases hv with ⟨rfl,rfl⟩|⟨rfl,rfl⟩
   ·simp only[SV.den,hd]
   ·simp only
    cases hu:IY t y 0 with
    |nil=>rw[hu] at hd;simp [AN] at hd
    |cons q l=>rw[hu] at hd;simp only[AN,mS] at hd;exact hd.1
  ·rw[qE,KK,←h.den]
   refine lD _ _ fun k hk=> ?_
   show ms' (t.HW+k)=ms (0+k)
   rw[congrFun hm2 k,KK]
theorem nW {P:Program} {f:FuncId} {fi:FnI} (hc:CallsV P TB f fi) {vals:Array Value} {w:World} (hT:xS TB w) {x:HT fi.ps} {ms:Nat->Nm} {r:HT (fi.rs++fi.os)}
  (ha:zP w fi.ps x ms vals.toList) (hr:fi.F x=some r) (ht:∀ ms,(UC (outSVs fi.rs (HT.left fi.rs fi.os r) 0)).den (IG ms)= .bool true) (uK:fi.sh=[]:=by rfl) (hpp:fi.qD=[]:=by rfl):
  Calls P f vals w (fun e w' =>e= .returned (.bool true)/\Below w.heap.size w w'):=by
 have h:=hc.2 x r hr w (fun b=>b<w.heap.size) ms (fun _ h=>h) (ha.all _ _) (by rw[ha.own];exact iF) (fun q hq=>⟨⟨(hT q hq).1,by rw[ha.own];exact pU⟩,(hT q hq).2⟩) (by rw[hpp];exact fun q hq=>by cases hq)
 rw[uK] at h
 replace h:Calls P f (AN (IG ms) (outSVs fi.ps x 0)).toArray w _:=h
 rw[ha.den] at h
 have e:vals.toList.toArray=vals:=by simp
 rw[e] at h
 refine h.mono ?_
 rintro e w' ⟨G',ms',rfl,dD,hs,hold, -⟩
 refine⟨by rw[ht],⟨dD.os,dD.tape,dD.output,hs,fun b hb=>hold b hb ?_⟩⟩
 rw[ha.own]
 exact pU
theorem GO {P:Program} {W:World} {r:Reach} {base:Nat} {t:TypeId} {v:Value} (ha:IE P t=false) (h:Value.okWide P W r base t v):v.cells.toList=[v]:=by
 unfold Value.okWide at h
 unfold IE at ha
 split at h
 ·simp_all
 ·simp_all
 ·unfold Cell.okWide Cell.ok at h
  cases v <;> simp_all [Value.cells]
theorem ADD {P:Program} {W:World} {r:Reach} {base:Nat} {t:TypeId} {v:Value} (ha:IE P t=true) (h:Value.okWide P W r base t v):v= .agg v.cells.toList.toArray:=by
 unfold Value.okWide at h
 unfold IE at ha
 split at h
 ·obtain⟨cs,rfl, -⟩:=h;simp [Value.cells]
 ·obtain⟨cs,rfl, -⟩:=h;simp [Value.cells]
 ·split at ha <;> simp_all
theorem LR {H:Type} {enc:TypeId×Value->H} {P:Program} {W:World} {r:Reach} {base:Nat} {held:Bool} {t:TypeId} {v:Value} {d:DataW H} {ps:List MemPlace} (n:Nat) (T:Ty) (hl:laid P n t T=true)
  (I1:Value.okWide P W r base t v) (h:DataW.Trod enc P W 0 (fun _=>true) held t v d ps):∃ y:T.T,Rp (fun b=>b<W.heap.size) W T y v.cells.toList/\Wf T y:=by
 obtain⟨fuel,h⟩:=h
 exact AKB n t T hl fuel _ _ h
end Go.V3
namespace Go.V3
open Go Go.ChangeShapes Go.WideShapes Go.RowKit
end Go.V3
namespace Go.V3
open Go
variable {TB:Tb} {P:Program}
def Inv (w w' :World):Prop:=Rest w w' /\w.heap.size<=w'.heap.size/\∀ b,b<w.heap.size->w'.heap[b]? =w.heap[b]?
theorem Inv.refl (w:World):Inv w w:=⟨.refl _,EY _,fun _ _=>rfl⟩
theorem Inv.trans {a b c:World} (h:Inv a b) (k:Inv b c):Inv a c:=
 ⟨h.1.trans k.1,kF h.2.1 k.2.1,fun x hx=>(k.2.2 x (tG hx h.2.1)).trans (h.2.2 x hx)⟩
def cfN (TB:Tb) (G:Nat->Prop) (w:World):EC TB:=⟨w,fun _=>False,G⟩
theorem holdsNil {G:Nat->Prop} {w w' :World} (h:Inv w w') (hG:∀ b,G b->b<w.heap.size) (ht:(cfN TB G w).Tab) (E:Env):AS (cfN TB G w') G w' E []:=by
 refine⟨.refl _,EY _,fun _ _=>rfl,fun b hb=>tG (hG b hb) h.2.1,fun _ h=>h,fun _ h=> .inl h, ?_, ?_, ?_, ?_⟩
 ·intro n e he;simp [look] at he
 ·intro n t xss q he;simp [look] at he
 ·intro n k e f b _ he;simp [look] at he
 ·intro q hq
  obtain⟨⟨h1,_⟩,ty,fz,h2⟩:=ht q hq
  exact⟨⟨tG h1 h.2.1,fun x=>x⟩,ty,fz,by rw[show (cfN TB G w').w0=w' from rfl,h.2.2 _ h1];exact h2⟩
theorem St.inv {G:Nat->Prop} {w w' :World} {E:Env} {fr:List SV} {L:AL} {a:Act} (h:St (cfN TB G w) E fr L a w'):Inv w w' :=by
 obtain⟨G',hG⟩:=h.hd
 exact⟨hG.rest,hG.size,fun b hb=>hG.old b ⟨hb,fun x=>x⟩⟩
theorem St.ASP {c c' :EC TB} {E:Env} {fr:List SV} {L:AL} {a:Act} {w w' :World} (h:St c E fr L a w) (hd:Hd c' w' E L):St c' E fr L a w' :=⟨h.tT,hd,h.wf⟩
theorem xU {L:AL} (h:bI [] L):L=[]:=AQP.1 h.1
def ASQ (W:List Nat):bG:={ live:=[],boxes:=[],rows:=[],dead:=W,lost:=[],base:=0 }
def MX (W:List Nat) (fr:List SV):List SV:=RM fr (W.map fun t=>(t,.pO t))
def AH1 (fr:List SV):Option Bool:=toB (fr.getD 2 AW)
section
variable (P) (cx:Cx) (rest tail:Code) (W:List Nat) (MC:Nat) (fr:List SV) (s:ByteArray)
noncomputable def ASR (fr' :List SV):Option Bool:=rk P cx tail Bool 1000000 (fun e APB _=>match e with
 | .normal=>AH1 APB
 | .ret=>AH1 APB
 |_=>none) fr' []
noncomputable def xV (p:Nat):Option (Nat ⊕ Bool):=cond (decide (p<s.size))
 (rk P cx rest (Nat ⊕ Bool) MC (fun e fr' _=>match e with
   | .normal=>some (.inl (p+(Utf8.decode s p).2))
   | .ret=>(AH1 fr').map .inr
   | .exit id=>if id=MC then (ASR P cx tail fr').map .inr else none
   |_=>none) (((MX W fr).set 25 (.tup [.O2 true,.int .i64 (p:Int),.int .i32 ((Utf8.decode s p).1:Int)])).set 26 (.O2 true)) [])
 (rk P cx rest (Nat ⊕ Bool) MC (fun e fr' _=>match e with
   | .ret=>(AH1 fr').map .inr
   | .exit id=>if id=MC then (ASR P cx tail fr').map .inr else none
   |_=>none) (((MX W fr).set 25 (.tup [.O2 false])).set 26 (.O2 false)) [])
noncomputable def AMU:Option Bool:=AI (σ:=Nat) (β:=Bool) (xV P cx rest tail W MC fr s) 0
end
theorem xW {ops:Array Oper} {i:Nat} {o:Oper} (ho:ops[i]? =some o) (hg:o.guard=none) {a:Act} {w w' :World} {v:Value} {K:Act->World->Prop} {Q:Exit->Act->World->Prop}
  (hr:(execOp a.eval o).run P w= .ok (.value v) w') (hK:K (a.put o.dst v) w'):wpOp P ops Q i K a w:=by
 unfold wpOp
 rw[ho]
 simp only[Region.wanted,hg,HJ]
 refine .inl ?_
 show o.upon P a K Q ((execOp a.eval o).run P w)
 rw[hr]
 exact hK
def ABF (w:World) (o:Obj):World:={ w with heap:=w.heap.push o }
theorem APD {ρ:Operand->Value} {o:Oper} {t:TypeId} {x:Operand} (ho:o.op= .range t x) (hu:P.underlying t=some .string) {s:ByteArray} (hx:ρ x= .string s) (w:World):
  (execOp ρ o).run P w= .ok (.value (.pointer (some ⟨w.heap.size,0,none⟩))) (ABF w (.stringIter s 0)):=by
 unfold execOp
 rw[ho]
 simp only[Instr.range,hx]
 have h1:=run_underlying (w:=w) hu
 simp [h1,newObj,Sem.run,ABF]
theorem APE {ρ:Operand->Value} {o:Oper} {x:Operand} (ho:o.op= .next x true) {b:Nat} (hx:ρ x= .pointer (some ⟨b,0,none⟩)) {w:World} {s:ByteArray} {p:Nat} (hb:w.heap[b]? =some (.stringIter s p)):
  (p<s.size->∃ w',(execOp ρ o).run P w= .ok (.value (.tuple #[.bool true,.int .i64 (p:Int),.int .i32 ((Utf8.decode s p).1:Int)])) w' /\Rest w w' /\w'.heap.size=w.heap.size/\w'.heap[b]? =some (.stringIter s (p+(Utf8.decode s p).2))/\∀ c,c≠b->w'.heap[c]? =w.heap[c]?)∧
  (¬p<s.size->(execOp ρ o).run P w= .ok (.value (.tuple #[.bool false])) w):=by
 have DO:b<w.heap.size:=by
  rcases IA b w.heap.size with h|h
  ·exact h
  ·rw[AEZ h] at hb;cases hb
 constructor
 ·intro hp
  refine⟨{ w with heap:=w.heap.setIfInBounds b (.stringIter s (p+(Utf8.decode s p).2)) }, ?_,⟨rfl,rfl,rfl⟩,by simp,by simp [DO],fun c hc=>by simp [Ne.symm hc]⟩
  unfold execOp
  rw[ho]
  simp [Instr.next,hx,getObj,setObj,Sem.run,hb,hp,goInt]
 ·intro hp
  unfold execOp
  rw[ho]
  simp [Instr.next,hx,getObj,Sem.run,hb,hp]
theorem run_move {ρ:Operand->Value} {o:Oper} {x:Operand} (ho:o.op= .move x) (w:World):(execOp ρ o).run P w= .ok (.value (ρ x)) w:=by
 unfold execOp;rw[ho];rfl
theorem ASS {ρ:Operand->Value} {o:Oper} {x:Operand} (ho:o.op= .extract x 0) {v:Value} {vs:Array Value} (hx:ρ x= .tuple vs) (hv:vs[0]? =some v) (w:World):(execOp ρ o).run P w= .ok (.value v) w:=by
 unfold execOp;rw[ho];simp [Instr.extract,hx,hv]
def sq1:Code->Code
 | .seq a _=>a
 |c=>c
def sQ:Code->Code
 | .seq _ b=>b
 |c=>c
def AWX:Code->Code
 | .block _ c=>c
 |c=>c
def lpC:Code->Code
 | .loop c=>c
 |c=>c
def AWY (c:Code) (i:Nat):Oper:=match c with
 | .region _ ops _=>ops.toList.getD i default
 |_=>default
theorem AWZ {c:EC TB} {E:Env} {fr:List SV} {L:AL} {a:Act} {w:World} (h:St c E fr L a w) {r:Bool} (hf:AH1 fr=some r) {fn:Func} (hres:fn.results= #[.tmp 2]):(results fn a.tmps).run P w= .ok (.bool r) w:=by
 have hd:a.tmps.getD 2 undef= .bool r:=by
  have:=VI h.tT (.tmp 2)
  show a.eval (.tmp 2)=_
  rw[this]
  exact WQ hf
 unfold results
 rw[hres]
 have hd' :a.tmps[2]?.getD undef= .bool r:=by simpa using hd
 simp [hd']
theorem AST {W:List Nat} {E:Env} {fr:List SV} {L:AL} (h25:25∈W) (h26:26∈W) (u v:SV):Ext W E fr L E ((fr.set 25 u).set 26 v) L:=by
 refine⟨fun _ h=>⟨rfl,h⟩,fun _ _=>rfl,.refl _,by simp,fun t ht=> ?_⟩
 rw[FH,FH,AD (fun (h:26=t/\_)=>ht (h.1 ▸ h26)),AD (fun (h:25=t/\_)=>ht (h.1 ▸ h25))]
theorem ABG {W:List Nat} {fr:List SV} {t:Nat} (h:t∉W):(MX W fr).getD t AW=fr.getD t AW:=by
 unfold MX
 refine RN _ _ _ fun q hq=> ?_
 obtain⟨x,hx,rfl⟩:=DD.1 hq
 rintro rfl
 exact h hx
theorem AH2 {fr:List SV} {t:Nat} (h:fr.length<=t):fr.getD t AW=AW:=by simp [List.getD,UX h]
theorem APF {a b:List SV} (hl:a.length=b.length) (h:∀ t,a.getD t AW=b.getD t AW):a=b:=by
 apply List.ext_getElem hl
 intro i h1 h2
 have:=h i
 simpa [List.getD,OT h1,OT h2] using this
theorem AMV (W:List Nat):(W.map fun t=>(t,SV.pO t)).map (·.1)=W:=by simp [VH,vS]
theorem APG {W:List Nat} (JE:W.Nodup) {t:Nat} (ht:t∈W) (fr:List SV) (v:SV):MX W (fr.set t v)=MX W fr:=by
 have hl:∀ l:List SV,(MX W l).length=l.length:=fun l=>OK _ _
 refine APF (by rw[hl,hl,EW]) fun k=> ?_
 have hm:((W.map fun t=>(t,SV.pO t)).map (·.1)).Nodup:=by rw[AMV];exact JE
 by_cases hk:k∈W
 ·by_cases DO:k<fr.length
  ·have h1:=YC (fr.set t v) (W.map fun t=>(t,SV.pO t)) hm (DD.2 ⟨k,hk,rfl⟩) (by simpa using DO)
   have h2:=YC fr (W.map fun t=>(t,SV.pO t)) hm (DD.2 ⟨k,hk,rfl⟩) DO
   exact h1.trans h2.symm
  ·rw[AH2 (by rw[hl,EW];omega),AH2 (by rw[hl];omega)]
 ·rw[ABG hk,ABG hk,FH,AD (fun (h:t=k/\_)=>hk (h.1 ▸ ht))]
theorem ASU {W:List Nat} (JE:W.Nodup) {t:Nat} (ht:t∈W) {fr:List SV} (hl:t<fr.length):(MX W fr).getD t AW= .pO t:=
 YC fr (W.map fun t=>(t,SV.pO t)) (by rw[AMV];exact JE) (DD.2 ⟨t,ht,rfl⟩) hl
set_option maxHeartbeats 1000000 in
theorem AKC {cx:Cx} (hcx:cx.Ok P) {f:FuncId} {fn:Func} {r0 pre rest tail:Code} {i3 i4 MC n:Nat} {o1 o2 o3 o4:Oper} {t:TypeId} {W:List Nat} {F:ByteArray->Option Bool}
  (hf:P.funcs[f]? =some fn) (hb:fn.body=some (.seq r0 (.seq pre (.seq (.seq (.region i3 #[o1,o2] false) (.block MC (.loop (.seq (.region i4 #[o3,o4] false) rest)))) tail))))
  (hnm : (fn.name == "runtime.NumGoroutine") = false) (hn : fn.ntmps = n) (hn1 : 27 ≤ n) (hres : fn.results = #[.tmp 2])
  (h1:o1.op= .move (.tmp 0)/\o1.dst=some 23/\o1.guard=none) (h2:o2.op= .range t (.tmp 23)/\o2.dst=some 24/\o2.guard=none) (hu:P.underlying t=some .string)
  (h3:o3.op= .next (.tmp 24) true/\o3.dst=some 25/\o3.guard=none) (h4:o4.op= .extract (.tmp 25) 0/\o4.dst=some 26/\o4.guard=none)
  (hW:AK7 (ASQ W) (24::writes (.seq (.region i4 #[o3,o4] false) rest))=true) (hW2:(!W.contains 24|| !W.contains 25|| !W.contains 26||(writes r0).contains 0||(writes pre).contains 0||(writes rest).contains 24)=false)
  (hF:∀ s,F s=rk P cx r0 Bool 1000000 (fun e fr L=>match e with
   | .normal=>rk P cx pre Bool 1000000 (fun e fr _=>match e with
    | .normal=>AMU P cx rest tail W MC (fr.set 23 (.str s)) s
    | .ret=>AH1 fr
    |_=>none) fr L
   |_=>none) (.str s::List.replicate (n-1) AW) []):
  CallsV P cx.tb f { ps:=[⟨.str,false,false,false⟩],rs:=[⟨.bool,false,false,false⟩],os:=[],bk:=[],F:=F }:=by
 refine⟨calleeRuns_of hf hb hnm,fun x r hr w G ms hG AW4 JE ARJ _=> ?_⟩
 have g_ :F x=some r:=hr
 rw[hF] at g_
 have ht:(cfN cx.tb G w).Tab:=fun q hq=>by
  obtain⟨⟨q1,_⟩,q2⟩:=ARJ q hq
  exact⟨⟨q1,fun x=>x⟩,q2⟩
 refine calls_of_wp hf hb ?_
 generalize hQ:bodyPost P fn (fun e w' =>∃ G' ms',e= .returned ((UC (outSVs [⟨.bool,false,false,false⟩] (HT.left [⟨.bool,false,false,false⟩] [] r) 0)).den (IG ms'))∧
   Rest w w' /\w.heap.size<=w'.heap.size/\(∀ b,b<w.heap.size->b∉CF [⟨.str,false,false,false⟩] x ms->w'.heap[b]? =w.heap[b]?)∧
   (∀ b,G b->G' b)/\(∀ b,G' b->G b\/w.heap.size<=b\/b∈CF [⟨.str,false,false,false⟩] x ms)/\(∀ b,G' b->b<w'.heap.size)∧
   PS (⟨w,fun b=>b∈CF [⟨.str,false,false,false⟩] x ms,G⟩:EC cx.tb) G' w' ([⟨.bool,false,false,false⟩]++ []) r ms' /\(CF ([⟨.bool,false,false,false⟩]++ []) r ms').Nodup∧
   (MR [] (cnts [⟨.bool,false,false,false⟩])).map ms' =[].map ms/\∀ q∈([]:List (Nat×Nat×Nat×Nat)),ms' q.1=ms q.2.2.1)=Q
 have fin:∀ (c:EC cx.tb) (E:Env) (fr:List SV) (L:AL) (a:Act) (w' :World),St c E fr L a w' ->Inv w w' ->AH1 fr=some r->Q .ret a w' /\Q .normal a w' :=by
  intro c E fr L a w' hst hinv MY
  subst hQ
  have key:a.defers=[]/\∃ v,(results fn a.tmps).run P w' = .ok v w' /\(∃ G' ms',Ending.returned v= .returned ((UC (outSVs [⟨.bool,false,false,false⟩] (HT.left [⟨.bool,false,false,false⟩] [] r) 0)).den (IG ms'))∧
   Rest w w' /\w.heap.size<=w'.heap.size/\(∀ b,b<w.heap.size->b∉CF [⟨.str,false,false,false⟩] x ms->w'.heap[b]? =w.heap[b]?)∧
   (∀ b,G b->G' b)/\(∀ b,G' b->G b\/w.heap.size<=b\/b∈CF [⟨.str,false,false,false⟩] x ms)/\(∀ b,G' b->b<w'.heap.size)∧
   PS (⟨w,fun b=>b∈CF [⟨.str,false,false,false⟩] x ms,G⟩:EC cx.tb) G' w' ([⟨.bool,false,false,false⟩]++ []) r ms' /\(CF ([⟨.bool,false,false,false⟩]++ []) r ms').Nodup∧
   (MR [] (cnts [⟨.bool,false,false,false⟩])).map ms' =[].map ms/\∀ q∈([]:List (Nat×Nat×Nat×Nat)),ms' q.1=ms q.2.2.1):=by
   refine⟨hst.tT.2,_,AWZ hst MY hres,G,ms,rfl,hinv.1,hinv.2.1,fun b hb _=>hinv.2.2 b hb,fun _ h=>h,fun _ h=> .inl h,fun b hb=>tG (hG b hb) hinv.2.1,⟨⟨?_, ?_⟩,trivial⟩,iF,rfl,fun q hq=>by cases hq⟩
   ·intro j e he;simp [B_] at he
   ·intro h;cases h
  exact⟨key,key⟩
 have hold:∀ wi,Inv w wi->∀ E,Hd (cfN cx.tb G wi) wi E []:=fun wi hi E=>⟨G,holdsNil hi hG ht E⟩
 simp only[Bool.or_eq_false_iff,Bool.not_eq_false',ACC,aY,JL] at hW2
 obtain⟨⟨⟨⟨⟨g24,g25⟩,g26⟩,gr0⟩,A6H⟩,AYZ⟩:=hW2
 have hs0:St (cfN cx.tb G w) (IG ms) (.str x::List.replicate (n-1) AW) [] { tmps:=(AN (IG ms) (outSVs [⟨.str,false,false,false⟩] x 0)).toArray++Array.replicate (fn.ntmps-(AN (IG ms) (outSVs [⟨.str,false,false,false⟩] x 0)).toArray.size) undef,defers:=[] } w:=by
  refine⟨⟨?_,rfl⟩,hold w (.refl w) _, ?_⟩
  ·apply aM
   simp [outSVs,UB,IY,AN,SV.den,hn]
   rw[FO,List.map_replicate]
   exact⟨rfl,rfl⟩
  ·intro k
   left
   cases k with
   |zero=>trivial
   |succ k=>
    simp only[List.getD,zC,vG]
    split <;> exact nS _ _
 refine wp_seq (wp_mono (AGZ hcx r0 Bool 1000000 _ _ [] r g_ (cfN cx.tb G w) (IG ms) _ w hs0) ?_)
 rintro e a1 w1 ⟨E1,fr1,L1,st1,A0Y,k1⟩
 obtain rfl:=xU A0Y.tU
 cases e with
 |normal=>
  have inv1:Inv w w1:=st1.inv
  have A6I :=st1.ASP (hold w1 inv1 E1)
  refine wp_seq (wp_mono (AGZ hcx pre Bool 1000000 _ _ [] r k1 (cfN cx.tb G w1) E1 _ w1 A6I) ?_)
  rintro e a2 w2 ⟨E2,qS,L2,st2,A0Z,k2⟩
  obtain rfl:=xU A0Z.tU
  have inv2:Inv w w2:=inv1.trans st2.inv
  have hf0:qS.getD 0 AW= .str x:=by
   rw[A0Z.out 0 A6H,A0Y.out 0 gr0];rfl
  have lB:qS.length=n:=by
   rw[A0Z.len,A0Y.len];simp;omega
  cases e with
  |ret=>exact (fin _ _ _ _ _ _ st2 inv2 k2).1
  |normal=>
   show (Code.seq (.seq (.region i3 #[o1,o2] false) (.block MC (.loop (.seq (.region i4 #[o3,o4] false) rest)))) tail).wp P Q a2 w2
   have k3:AMU P cx rest tail W MC (qS.set 23 (.str x)) x=some r:=k2
   unfold AMU at k3
   obtain⟨m,hm⟩:=RL.1 k3
   generalize hB:w2.heap.size=B
   refine wp_seq (wp_seq (wp_region ?_))
   rw[show List.range (#[o1,o2]:Array Oper).size=[0,1] from rfl,wpOps_cons]
   have hx0:a2.eval (.tmp 0)= .string x:=by
    rw[VI st2.tT (.tmp 0)]
    show (qS.getD 0 AW).den E2=_
    rw[hf0];rfl
   refine xW (o:=o1) rfl h1.2.2 (run_move h1.1 w2) ?_
   rw[hx0,h1.2.1,wpOps_cons]
   have sm1:Sim E2 (qS.set 23 (.str x)) (a2.put (some 23) (.string x)):=st2.tT.put (some 23) (.str x)
   have hx1:(a2.put (some 23) (.string x)).eval (.tmp 23)= .string x:=by
    rw[VI sm1 (.tmp 23)]
    show ((qS.set 23 (.str x)).getD 23 AW).den E2=_
    rw[FH,AA ⟨rfl,by omega⟩];rfl
   refine xW (o:=o2) rfl h2.2.2 (APD h2.1 hu hx1 w2) ?_
   rw[h2.2.1,hB]
   have sm2:Sim E2 ((qS.set 23 (.str x)).set 24 (.ptr (some ⟨B,0,none⟩))) ((a2.put (some 23) (.string x)).put (some 24) (.pointer (some ⟨B,0,none⟩))):=sm1.put (some 24) (.ptr (some ⟨B,0,none⟩))
   generalize hw3:ABF w2 (.stringIter x 0)=w3
   have A10:Inv w w3:=by
    refine inv2.trans ⟨?_, ?_, ?_⟩
    ·subst hw3;exact⟨rfl,rfl,rfl⟩
    ·subst hw3;simp [ABF]
    ·intro b hb;subst hw3;simp only[ABF];rw[ACE,AD (by omega)]
   have hit:w3.heap[B]? =some (.stringIter x 0):=by
    rw[<-hw3,←hB]
    exact Array.getElem?_push_size
   have hBw:w.heap.size<=B:=by rw[<-hB];exact inv2.2.1
   have hBs:B<w3.heap.size:=by subst hw3;subst hB;simp [ABF]
   generalize AX0:(qS.set 23 (.str x)).set 24 (.ptr (some ⟨B,0,none⟩))=aT at sm2
   have hl3:aT.length=n:=by subst AX0;simpa using lB
   have wf3:xD E2 [] aT:=by
    subst AX0
    intro k
    rw[FH,FH]
    split
    ·exact .inl trivial
    ·split
     ·exact .inl trivial
     ·exact st2.wf k
   generalize ((a2.put (some 23) (.string x)).put (some 24) (.pointer (some ⟨B,0,none⟩)))=a3 at sm2
   have st3:St (cfN cx.tb G w3) E2 aT [] a3 w3:=⟨sm2,hold w3 A10 E2,wf3⟩
   have JE:W.Nodup:=by
    have:=hW
    unfold AK7 ASQ at this
    simp only[ID,JL,vX,tJ] at this
    exact this.2
   have hhd:MX W aT=MX W (qS.set 23 (.str x)):=by
    rw[<-AX0];exact APG JE g24 _ _
   generalize hVW:24::writes (.seq (.region i4 #[o3,o4] false) rest)=VW at hW
   have v24:24∈VW:=by rw[<-hVW];simp
   have v25:25∈VW:=by rw[<-hVW];exact UY _ (FG.2 (.inl (AAD.2 ⟨o3,by simp,h3.2.1⟩)))
   have v26:26∈VW:=by rw[<-hVW];exact UY _ (FG.2 (.inl (AAD.2 ⟨o4,by simp,h4.2.1⟩)))
   have A3T:∀ t,t∈writes rest->t∈VW:=by
    intro t ht
    rw[<-hVW]
    exact UY _ (FG.2 (.inr ht))
   have hpk:∀ fr' :List SV,ZG (ASQ W) [] fr' []=some ():=by
    intro fr'
    rfl
   obtain⟨E4,st4,A6J⟩:=AGY (BT:=ASQ W) hW (holdsNil A10 hG ht E2) wf3 st3 (.refl VW E2 aT []) (hpk aT)
   have he3:a3.eval (.tmp 24)= .pointer (some ⟨B,0,none⟩):=by
    rw[VI sm2 (.tmp 24)]
    show (aT.getD 24 AW).den E2=_
    rw[<-AX0,FH,AA ⟨rfl,by simp;omega⟩];rfl
   have hl4:(MX W aT).length=n:=by rw[show (MX W aT).length=aT.length from OK _ _];exact hl3
   generalize hQ' :Exit.then (tail.wp P Q) Q=Q'
   have loop:∀ (m p:Nat) (a:Act) (wi:World) (E:Env),SO (xV P cx rest tail W MC (qS.set 23 (.str x)) x) m p=some r->St (cfN cx.tb G wi) E (MX W aT) [] a wi->Ext VW E2 aT [] E (MX W aT) []→
     a.eval (.tmp 24)= .pointer (some ⟨B,0,none⟩)->Inv w wi->wi.heap[B]? =some (.stringIter x p)->Code.rounds P (.seq (.region i4 #[o3,o4] false) rest) (Exit.inBlock MC Q') m a wi:=by
    intro m
    induction m with
    |zero=>intro p a wi E hm;cases hm
    |succ m ih=>
     intro p a wi E hm hst MV he hinv SG
     have hBi:B<wi.heap.size:=by
      rcases IA B wi.heap.size with h|h
      ·exact h
      ·rw[AEZ h] at SG;cases SG
     rw[rounds_succ]
     refine wp_seq (wp_region ?_)
     rw[show List.range (#[o3,o4]:Array Oper).size=[0,1] from rfl,wpOps_cons]
     obtain⟨n1,n2⟩:=APE (P:=P) (ρ:=a.eval) h3.1 he SG
     rw[SO] at hm
     have after:∀ (sv:SV) (b:Bool) (wj:World) (K:Exit->List SV->AL->Option (Nat ⊕ Bool)) (y:Nat ⊕ Bool),sv.wf E []->(∃ vs:Array Value,sv.den E= .tuple vs/\vs[0]? =some (.bool b))->Inv w wj→
       rk P cx rest (Nat ⊕ Bool) MC K (((MX W aT).set 25 sv).set 26 (.O2 b)) []=some y→
       (∀ (E' :Env) (fr' :List SV) (a' :Act) (w' :World),St (cfN cx.tb G wj) E' fr' [] a' w' ->Ext VW E2 aT [] E' fr' []->a'.eval (.tmp 24)= .pointer (some ⟨B,0,none⟩)->∀ e,K e fr' []=some y->Exit.then (Code.rounds P (.seq (.region i4 #[o3,o4] false) rest) (Exit.inBlock MC Q') m) (Exit.inBlock MC Q') e a' w')→
       wpOps P #[o3,o4] (Exit.then (rest.wp P (Exit.then (Code.rounds P (.seq (.region i4 #[o3,o4] false) rest) (Exit.inBlock MC Q') m) (Exit.inBlock MC Q'))) (Exit.then (Code.rounds P (.seq (.region i4 #[o3,o4] false) rest) (Exit.inBlock MC Q') m) (Exit.inBlock MC Q'))) [1] (a.put o3.dst (sv.den E)) wj:=by
      intro sv b wj K y sA ⟨vs,hv1,hv2⟩ mK hrk hK
      rw[wpOps_cons,h3.2.1]
      have sm:Sim E ((MX W aT).set 25 sv) (a.put (some 25) (sv.den E)):=hst.tT.put (some 25) sv
      have A6K:(a.put (some 25) (sv.den E)).eval (.tmp 25)= .tuple vs:=by
       rw[VI sm (.tmp 25)]
       show (((MX W aT).set 25 sv).getD 25 AW).den E=_
       rw[FH,AA ⟨rfl,by omega⟩];exact hv1
      refine xW (o:=o4) rfl h4.2.2 (ASS h4.1 A6K hv2 wj) ?_
      rw[h4.2.1]
      have sm' :Sim E (((MX W aT).set 25 sv).set 26 (.O2 b)) ((a.put (some 25) (sv.den E)).put (some 26) (.bool b)):=sm.put (some 26) (.O2 b)
      have wf' :xD E [] (((MX W aT).set 25 sv).set 26 (.O2 b)):=by
       intro k
       rw[FH,FH]
       split
       ·exact .inl trivial
       ·split
        ·exact .inl sA
        ·exact hst.wf k
      have st' :St (cfN cx.tb G wj) E (((MX W aT).set 25 sv).set 26 (.O2 b)) [] ((a.put (some 25) (sv.den E)).put (some 26) (.bool b)) wj:=⟨sm',hold wj mK E,wf'⟩
      have A6L:((a.put (some 25) (sv.den E)).put (some 26) (.bool b)).eval (.tmp 24)= .pointer (some ⟨B,0,none⟩):=by
       rw[VI sm' (.tmp 24)]
       show ((((MX W aT).set 25 sv).set 26 (.O2 b)).getD 24 AW).den E=_
       rw[FH,AD (by omega),FH,AD (by omega),←he,VI hst.tT (.tmp 24)]
       rfl
      refine wp_mono (AGZ hcx rest (Nat ⊕ Bool) MC K _ [] y hrk (cfN cx.tb G wj) E _ wj st') ?_
      rintro e a' w' ⟨E',fr',L',s1,s2,s3⟩
      obtain rfl:=xU s2.tU
      refine hK E' fr' a' w' s1 ((MV.trans (AST v25 v26 _ _)).trans (s2.mono A3T)) ?_ e s3
      rw[VI s1.tT (.tmp 24)]
      show (fr'.getD 24 AW).den E' =_
      have u24:(((MX W aT).set 25 sv).set 26 (.O2 b)).getD 24 AW= .pO 24:=by
       rw[FH,AD (by omega),FH,AD (by omega),ASU JE g24 (by omega)]
      rw[s2.out 24 AYZ,u24]
      show E'.ds 24=_
      rw[s2.ds 24 AYZ]
      have:=VI sm' (.tmp 24)
      rw[A6L] at this
      have h5:(ev (((MX W aT).set 25 sv).set 26 (.O2 b)) (.tmp 24))= .pO 24:=u24
      rw[h5] at this
      exact this.symm
     have ASV:∀ (c:EC cx.tb) (E' :Env) (fr' :List SV) (a' :Act) (w' :World),St c E' fr' [] a' w' ->Inv w w' ->ASR P cx tail fr' =some r->tail.wp P Q a' w' :=by
      intro c E' fr' a' w' s1 s2 s3
      have s1' :=s1.ASP (hold w' s2 E')
      refine wp_mono (AGZ hcx tail Bool 1000000 _ _ [] r s3 (cfN cx.tb G w') E' _ w' s1') ?_
      rintro e a6 w6 ⟨E6,fr6,L6,q1,q2,q3⟩
      have q4:=s2.trans q1.inv
      cases e with
      |normal=>exact (fin _ _ _ _ _ _ q1 q4 q3).2
      |ret=>exact (fin _ _ _ _ _ _ q1 q4 q3).1
      |exit id=>cases q3
      |goto l=>cases q3
      |panic ch=>cases q3
      |outgrown=>cases q3
     by_cases hp:p<x.size
     ·obtain⟨wj,r1,r2,r3,r4,r5⟩:=n1 hp
      have mK:Inv w wj:=⟨hinv.1.trans r2,by have:=hinv.2.1;omega,fun b hb=>(r5 b (by omega)).trans (hinv.2.2 b hb)⟩
      refine xW (o:=o3) rfl h3.2.2 r1 ?_
      have hd:(SV.tup [.O2 true,.int .i64 (p:Int),.int .i32 ((Utf8.decode x p).1:Int)]).den E= .tuple #[.bool true,.int .i64 (p:Int),.int .i32 ((Utf8.decode x p).1:Int)]:=by simp [SV.den,AN]
      rw[<-hd]
      have common:∀ y,xV P cx rest tail W MC (qS.set 23 (.str x)) x p=some y->(∀ s',y= .inl s' ->SO (xV P cx rest tail W MC (qS.set 23 (.str x)) x) m s' =some r)->(∀ b,y= .inr b->b=r)->wpOps P #[o3,o4] (Exit.then (rest.wp P (Exit.then (Code.rounds P (.seq (.region i4 #[o3,o4] false) rest) (Exit.inBlock MC Q') m) (Exit.inBlock MC Q'))) (Exit.then (Code.rounds P (.seq (.region i4 #[o3,o4] false) rest) (Exit.inBlock MC Q') m) (Exit.inBlock MC Q'))) [1] (a.put o3.dst ((SV.tup [.O2 true,.int .i64 (p:Int),.int .i32 ((Utf8.decode x p).1:Int)]).den E)) wj:=by
       intro y hy hl uP
       unfold xV at hy
       rw[IV hp,←hhd] at hy
       refine after _ true wj _ y (by simp [SV.wf,L7]) ⟨_,hd,rfl⟩ mK hy ?_
       intro E' fr' a' w' s1 s2 s3 e hk
       have AH3:=mK.trans s1.inv
       have A11 :w'.heap[B]? =some (.stringIter x (p+(Utf8.decode x p).2)):=by
        rw[s1.inv.2.2 B (by rw[r3];exact hBi)];exact r4
       cases e with
       |normal=>
        simp only[BA] at hk
        obtain⟨E7,t1,t2⟩:=AGY (BT:=ASQ W) hW (holdsNil AH3 hG ht E2) wf3 (s1.ASP (hold w' AH3 E')) s2 (hpk fr')
        exact ih _ a' w' E7 (hl _ hk.symm) t1 t2 s3 AH3 A11
       |ret=>
        obtain⟨z,z1,z2⟩:=map_inr hk
        have:=(fin _ _ _ _ _ _ s1 AH3 (by rw[z1,uP z z2])).1
        subst hQ'
        exact this
       |exit id=>
        simp only at hk
        split at hk
        ·rename_i hid
         obtain⟨z,z1,z2⟩:=map_inr hk
         subst hQ'
         simp only[Exit.then,Exit.inBlock]
         rw[AA hid]
         exact ASV _ E' fr' a' w' s1 AH3 (by rw[z1,uP z z2])
        ·cases hk
       |goto l=>cases hk
       |panic ch=>cases hk
       |outgrown=>cases hk
      split at hm
      ·cases hm
      ·rename_i s' xE
       exact common _ xE (fun s'' h=>by cases h;exact hm) (fun b h=>by cases h)
      ·rename_i b xE
       simp only[BA] at hm
       exact common _ xE (fun s'' h=>by cases h) (fun b' h=>by cases h;exact hm)
     ·refine xW (o:=o3) rfl h3.2.2 (n2 hp) ?_
      have hd:(SV.tup [.O2 false]).den E= .tuple #[.bool false]:=by simp [SV.den,AN]
      rw[<-hd]
      have common:∀ y,xV P cx rest tail W MC (qS.set 23 (.str x)) x p=some y->(∀ b,y= .inr b->b=r)->wpOps P #[o3,o4] (Exit.then (rest.wp P (Exit.then (Code.rounds P (.seq (.region i4 #[o3,o4] false) rest) (Exit.inBlock MC Q') m) (Exit.inBlock MC Q'))) (Exit.then (Code.rounds P (.seq (.region i4 #[o3,o4] false) rest) (Exit.inBlock MC Q') m) (Exit.inBlock MC Q'))) [1] (a.put o3.dst ((SV.tup [.O2 false]).den E)) wi:=by
       intro y hy uP
       unfold xV at hy
       rw[NZ hp,←hhd] at hy
       refine after _ false wi _ y (by simp [SV.wf,L7]) ⟨_,hd,rfl⟩ hinv hy ?_
       intro E' fr' a' w' s1 s2 s3 e hk
       have AH3:=hinv.trans s1.inv
       cases e with
       |ret=>
        obtain⟨z,z1,z2⟩:=map_inr hk
        have:=(fin _ _ _ _ _ _ s1 AH3 (by rw[z1,uP z z2])).1
        subst hQ'
        exact this
       |exit id=>
        simp only at hk
        split at hk
        ·rename_i hid
         obtain⟨z,z1,z2⟩:=map_inr hk
         subst hQ'
         simp only[Exit.then,Exit.inBlock]
         rw[AA hid]
         exact ASV _ E' fr' a' w' s1 AH3 (by rw[z1,uP z z2])
        ·cases hk
       |normal=>cases hk
       |goto l=>cases hk
       |panic ch=>cases hk
       |outgrown=>cases hk
      split at hm
      ·cases hm
      ·rename_i s' xE
       exact common _ xE (fun b h=>by cases h)
      ·rename_i b xE
       simp only[BA] at hm
       exact common _ xE (fun b' h=>by cases h;exact hm)
   exact wp_block (wp_loop_rounds m (loop m 0 a3 w3 E4 hm st4 A6J he3 A10 hit))
  |exit id=>cases k2
  |goto l=>cases k2
  |panic ch=>cases k2
  |outgrown=>cases k2
 |ret=>cases k1
 |exit id=>cases k1
 |goto l=>cases k1
 |panic ch=>cases k1
 |outgrown=>cases k1
end Go.V3
namespace Go.V3
open Go
theorem AE {e:Int} (h1: -9223372036854775808<=e) (h2:e<=9223372036854775807):AG e=e:=InK.wrap (k:= .i64) (show I64 e from ⟨h1,h2⟩)
theorem RP {σ β:Type} {f:σ->Option (σ ⊕ β)} (I:Nat->σ->Prop) (Q:β->Prop)
  (hs:∀ n s,I n s->(∃ b,f s=some (.inr b)/\Q b)\/(∃ m s',m<n/\f s=some (.inl s')/\I m s')):∀ n s,I n s->∃ b,AI f s=some b/\Q b:=by
 intro n
 induction n using Nat.strongRecOn with
 |ind n ih=>
  intro s h
  rcases hs n s h with ⟨b,hb,hq⟩|⟨m,s',hm,hf,hi⟩
  ·exact⟨b,by rw[SP,hb],hq⟩
  ·obtain⟨b,hb,hq⟩:=ih m hm s' hi
   exact⟨b,by rw[SP,hf];exact hb,hq⟩
theorem MZ {σ β:Type} {f:σ->Option (σ ⊕ β)} {b:β} (I:Nat->σ->Prop)
  (hs:∀ n s,I n s->f s=some (.inr b)\/(∃ m s',m<n/\f s=some (.inl s')/\I m s')) {n:Nat} {s:σ} (h:I n s):AI f s=some b:=by
 obtain⟨c,h1,h2⟩:=RP I (fun c=>c=b) (fun n s h=>(hs n s h).imp (fun h=>⟨b,h,rfl⟩) id) n s h
 rw[h1,h2]
theorem xX (k:Nat) (hk:k<63) {a:Int} (h0:0<=a) (h1:a<=9223372036854775807):AAL .and a (2 ^ k-1)=a%2 ^ k:=by
 obtain⟨n,rfl⟩:=AQQ h0
 have e1:((2:Int) ^ k-1)=((2 ^ k-1:Nat):Int):=by
  have:0<2 ^ k:=mV k
  have h2:((2 ^ k:Nat):Int)=(2:Int) ^ k:=by push_cast;rfl
  omega
 have hp:2 ^ k<=2 ^ 62:=AQU (by omega) (by omega)
 have hp' :(2:Nat) ^ 62=4611686018427387904:=by decide
 have e2:(BitVec.ofInt 64 (n:Int) &&& BitVec.ofInt 64 ((2 ^ k-1:Nat):Int)).toNat=n%2 ^ k:=by
  rw[vT,AF7,AF7,tF,tF,a9 (by omega),a9 (by omega),AO6]
 unfold AAL
 rw[e1]
 show IntKind.i64.wrap _=_
 rw[e2]
 have hl:n%2 ^ k<2 ^ k:=SE _ (mV k)
 have:=AE (e:=((n%2 ^ k:Nat):Int)) (by omega) (by omega)
 rw[AG] at this
 rw[this]
 push_cast
 rfl
theorem zQ {α:Type} {xs:List α} {n:Nat} {v:α} (hl:xs.length=n) (h:∀ j,j<n->xs[j]? =some v):xs=List.replicate n v:=by
 apply WC
 intro j
 rw[vG]
 split
 ·rename_i hj;exact h j hj
 ·rename_i hj;exact UX (by omega)
end Go.V3
namespace Go.Proofs.YthmiilamegpllaaGreat
open Go Go.V3
def nX:Tb:=[]
abbrev ASW:Ty:= .slice .u64
abbrev A3U:Ty:= .slice .bool
abbrev BB:Type:=Int×Int×Int
abbrev A12:Ty:= .pair A3U ASW
abbrev OL:Type:=List (BitVec 64)
abbrev GB:Type:=(List Int)×Int
abbrev APH:Type:=Int×Bool×Int
abbrev KL:Type:=(List Int)×OL
abbrev AH4:Ty:= .slice (.int .i64)
abbrev A3V:Ty:= .pair AH4 ASW
abbrev A3W:Ty:= .pair A3U AH4
abbrev YD:Type:=(List Bool)×OL
abbrev AJ:Type:=Nat×Int×Int×Int
abbrev QY:Type:=Int×Int×Int×Int
abbrev B5:Type:=Int×Int×(List Int)
abbrev A3X:Ty:= .pair (.int .i64) AH4
abbrev AZ0:Ty:= .pair AH4 (.int .i64)
abbrev ASX:Ty:= .pair (.int .i64) A3X
abbrev ASY:Ty:= .slice ASX
abbrev B7:Type:=Int×OL×(List BB)
abbrev AZ1:Ty:= .pair (.slice A3V) A3W
abbrev AB:Type:=Int×Int×Int×Int×Int
abbrev DL:Type:=List (List AB)
abbrev SQ:Type:=Int×AB×Int
abbrev sR:Type:=(List AB)×APH×Bool
abbrev AMW:Ty:= .pair (.int .i64) (.int .i64)
abbrev kN:Ty:= .pair (.int .i64) AMW
abbrev AZ2:Ty:= .slice kN
abbrev A3Y:Ty:= .pair ASW AZ2
abbrev AZ3:Ty:= .pair .QT kN
abbrev A3Z:Ty:= .slice AZ3
abbrev AMX:Ty:= .pair (.int .i64) kN
abbrev ABH:Ty:= .pair (.int .i64) AMX
abbrev ABI:Ty:= .slice ABH
abbrev ASZ:Ty:= .slice ABI
abbrev AH5:Ty:= .pair (.int .i64) A3Y
abbrev A40:Ty:= .pair A3Z (.int .i64)
abbrev AT0:Ty:= .pair .str A40
abbrev A41:Ty:= .pair (.int .i64) ABH
abbrev A42:Ty:= .pair (.int .i64) A41
abbrev A43:Ty:= .pair (.int .i64) A42
abbrev A44:Ty:= .pair (.int .i64) A43
abbrev A45:Ty:= .pair A44 .bool
abbrev A46:Ty:= .pair (.int .i64) A45
abbrev A47:Ty:= .pair A12 A46
abbrev A48:Ty:= .pair ASY A47
abbrev A49:Ty:= .pair (.int .i64) A48
abbrev A4A:Ty:= .pair ASZ A49
abbrev A4B:Ty:= .pair AH5 A4A
abbrev AZ4:Ty:= .pair AT0 A4B
abbrev D7:Type:=ByteArray×(List AJ)×Int
abbrev M0:Type:=(List KL)×(List Bool)×(List Int)
abbrev AZ5:Ty:= .pair (.int .i64) (.pair .bool (.int .i64))
abbrev AZ6:Ty:= .pair ABH (.pair (.slice AMW) (.int .i64))
abbrev A4C:Type:=Int×Int×Int×Int×Int×Int×Int×Int×Int
abbrev sS:Type:=B7×(List AB)×AB×(List (Int×Int))×Int
abbrev C6:Type:=D7×B7×DL×Int×(List B5)×YD×Int×A4C×Bool
abbrev AMY:Type:=AB×(List (Int×Int))×OL×Int×OL×(List BB)×(List AB)
abbrev AP:CT:=⟨(.int .i64),false,false,false⟩
abbrev CY:CT:=⟨(.int .i64),false,true,false⟩
abbrev AKD:CT:=⟨(.pair (.int .i64) .u64),true,false,false⟩
abbrev A13:CT:=⟨(.pair AH5 (.pair ABI AZ6)),true,true,false⟩
abbrev A4D:CT:=⟨(.pair AH5 (.pair ABI AZ6)),true,true,true⟩
abbrev lP:CT:=⟨.bool,false,false,false⟩
abbrev FN:CT:=⟨.bool,false,true,false⟩
abbrev zR:CT:=⟨.QT,false,false,false⟩
abbrev API:CT:=⟨.QT,false,true,false⟩
abbrev A14:CT:=⟨.str,false,false,false⟩
abbrev aU:CT:=⟨.u64,false,false,false⟩
abbrev ABJ:CT:=⟨.u64,false,true,false⟩
abbrev AT1:CT:=⟨ASW,false,false,false⟩
abbrev aV:CT:=⟨ASW,false,true,false⟩
abbrev AMZ:CT:=⟨AZ0,true,false,false⟩
abbrev P2:CT:=⟨AZ0,true,false,true⟩
abbrev ABK:CT:=⟨ASY,false,false,false⟩
abbrev dP:CT:=⟨ASY,false,true,false⟩
abbrev W1:CT:=⟨AZ1,true,false,false⟩
abbrev AT2:CT:=⟨AZ1,true,true,false⟩
abbrev xY:CT:=⟨AZ2,false,true,false⟩
abbrev xZ:CT:=⟨A12,true,false,false⟩
abbrev AN0:CT:=⟨A12,true,true,false⟩
abbrev ABL:CT:=⟨AMX,true,false,false⟩
abbrev P3:CT:=⟨ABH,true,false,false⟩
abbrev kO:CT:=⟨ABH,true,true,false⟩
abbrev ABM:CT:=⟨ABI,false,false,false⟩
abbrev kP:CT:=⟨ABI,false,true,false⟩
abbrev I2:CT:=⟨ASZ,false,false,false⟩
abbrev AH6:CT:=⟨ASZ,false,true,false⟩
abbrev D3:CT:=⟨AH5,true,false,false⟩
abbrev dQ:CT:=⟨AH5,true,true,false⟩
abbrev PD:CT:=⟨AT0,true,false,false⟩
abbrev AN1:CT:=⟨AT0,true,true,false⟩
abbrev IH:CT:=⟨AZ4,true,false,false⟩
abbrev W2:CT:=⟨AZ4,true,true,false⟩
abbrev AN2:CT:=⟨AZ5,true,false,false⟩
abbrev SR:CT:=⟨AH4,false,false,false⟩
abbrev I3:CT:=⟨AH4,false,true,false⟩
def B8 (l b:List (Nat×CT)) (r:List (Nat×Ty)) (d o:List Nat) (n:Nat):bG:={ live:=l,boxes:=b,rows:=r,dead:=d,lost:=o,base:=n }
def BE (a:List (Nat×Nat×Nat)) (b:List Nat) (c:List (Nat×FnI)) (d e:List (Nat×bG)):Cx:={ nm:=a,CK:=b,fns:=ADC c,loops:=d,aQ:=e,tb:=nX,exts:=[],lets:=[] }
@[reducible] noncomputable def BK (a b:List CT) (f:HT a->Option (HT (b++ []))):FnI:={ ps:=a,rs:=b,os:=[],bk:=[],F:=f }
def FI:List (Nat×Nat)->List Nat
 | []=>[]
 |q::r=>(List.range q.2).map (fun i=>q.1+i)++FI r
abbrev CV:=CallsV Tryz.prog nX
def EqV (i:FnI) (cx:Cx) (c:Code) (rvs:List ResultVar) (n N:Nat):Prop:=(fun x:HT i.ps=>i.F x)=fun x=>rk Tryz.prog cx c (HT (i.rs++i.os)) 1000000 (AWV Tryz.prog rvs i.cl i.pin i.bk i.os (i.rs++i.os)) (AH0 i.ps i.sh x n) (ABD i.ps i.qD x N)
theorem okW {f : FuncId} {fn : Func} {i : FnI} (cx : Cx) (rvs : List ResultVar) (n N : Nat) (hcx : cx.Ok Tryz.prog) (hf : Tryz.prog.funcs[f]? = some fn) (hb : fn.body = some (fn.body.getD .skip) := by rfl) (hnm : (fn.name == "runtime.NumGoroutine") = false := by kernel_rfl) (hn : fn.ntmps = n := by rfl) (hres : fn.results = rvs.toArray := by rfl) (hps : ∀ x, (foldA i.sh (outSVs i.ps x 0)).length ≤ n := by exact fun x => Nat.le_of_ble_eq_true rfl) (hst : (rvs.length = i.rs.length ∧ i.os.all okO = true ∧ i.os.length = i.bk.length ∧ (i.bk.all fun j => decide (j < cnts i.ps)) = true ∧ (i.pin.all fun q => decide (q.2.2.1 < cnts i.ps)) = true ∧ shOk i N = true) := by decide) (he : EqV i cx (fn.body.getD .skip) rvs n N := by unfold EqV; kernel_rfl) : CallsV Tryz.prog cx.tb f i := callsV_of_rk hcx hf hb hnm hn hres hps hst fun x => congrFun he x
end Go.Proofs.YthmiilamegpllaaGreat
namespace Go.V3
open Go
theorem AO {σ β:Type} {f:σ->Option (σ ⊕ β)} (I:Nat->σ->Prop) (Q:β->Prop) (n:Nat)
  (hs:∀ k s,k<n->I k s->(∃ s',f s=some (.inl s')/\I (k+1) s')\/(∃ b,f s=some (.inr b)/\Q b))
  (he:∀ s,I n s->∃ b,f s=some (.inr b)/\Q b) {s:σ} (h:I 0 s):∃ b,AI f s=some b/\Q b:=by
 refine RP (fun m s=>m<=n/\I (n-m) s) Q ?_ n s ⟨EY _,by rw[mX];exact h⟩
 rintro m s ⟨hm,hi⟩
 rcases ALO m with rfl|h0
 ·left;exact he s (by simpa using hi)
 ·rcases hs (n-m) s (by omega) hi with ⟨s',h1,h2⟩|h1
  ·right
   refine⟨m-1,s',by omega,h1,by omega, ?_⟩
   rw[show n-(m-1)=n-m+1 from by omega];exact h2
  ·left;exact h1
abbrev Fr:Type:=Int×Int×Int
abbrev frT:Ty:= .pair (.int .i64) (.pair (.int .i64) (.int .i64))
abbrev Sp:Type:=Int×List (BitVec 64)×List Fr
abbrev AH:Type:=Int×Int×Int×Int×Int
def fr (fs:List Fr) (i:Int):Fr:=gl (0,0,0) fs i.toNat
def nx (fs:List Fr) (i:Int):Int:=if 0<=i/\i<fs.length then (fr fs i).2.2 else -1
def sz (s:Int):Int:=2 ^ s.toNat
theorem CM (s:Int):0<sz s:=Int.pow_pos (by decide)
theorem AT3 {s:Int} (h:3<=s/\s<=8):sz s=8\/sz s=16\/sz s=32\/sz s=64\/sz s=128\/sz s=256:=by
 have:s=3\/s=4\/s=5\/s=6\/s=7\/s=8:=by omega
 rcases this with rfl|rfl|rfl|rfl|rfl|rfl <;> decide
theorem LF {s:Int} (h:3<=s/\s<=8):8<=sz s/\sz s<=256:=by
 have:=AT3 h;omega
theorem A15 {s:Int} (h:3<=s/\s<=8):min (BitVec.ofInt 64 s).toNat 64=s.toNat:=by
 have:s=3\/s=4\/s=5\/s=6\/s=7\/s=8:=by omega
 rcases this with rfl|rfl|rfl|rfl|rfl|rfl <;> rfl
theorem P4 {s:Int} (h:3<=s/\s<=8):(2:Int) ^ min (BitVec.ofInt 64 s).toNat 64=sz s:=by rw[A15 h];rfl
theorem dR {s i n:Int} (h:3<=s/\s<=8) (h0:0<=i) (h1:i<=n):0<=i*sz s/\i*sz s<=n*sz s:=by
 obtain⟨h2,h3⟩:=LF h
 exact⟨AFG h0 (by omega),AEV h1 (by omega)⟩
theorem LN {s n:Int} (h:3<=s/\s<=8) (h0:0<=n) {m:Int} (h1:n<=m):0<=n*sz s/\n*sz s<=m*256:=by
 obtain⟨h2,h3⟩:=LF h
 exact⟨AFG h0 (by omega),Int.mul_le_mul h1 h3 (by omega) (by omega)⟩
theorem JG (i s:Int):(i+1)*sz s=i*sz s+sz s:=by rw[v_,rX]
theorem D8 {α:Type} {d:α} {xs:List α} {k:Nat} (h:k<xs.length):gl d xs k=xs[k]:=by
 unfold gl;simp [List.getD,h]
theorem AX1 {α:Type} {d:α} {xs:List α} {k:Nat} (h:k<xs.length):xs[k]? =some (gl d xs k):=by
 rw[D8 h];exact OT h
theorem D5 {α:Type} {d:α} {xs:List α} {k j:Nat} {x:α} (h:j<xs.length):gl d (xs.set j x) k=if k=j then x else gl d xs k:=by
 unfold gl
 simp only[vE,vL]
 by_cases hk:j=k
 ·subst hk;simp [h]
 ·rw[AD hk,AD (fun e=>hk e.symm)]
theorem ZJ {α:Type} {d:α} {xs ys:List α} {k:Nat} (h:k<xs.length):gl d (xs++ys) k=gl d xs k:=by
 unfold gl
 rw[vE,vE,WA h]
theorem O4 {α:Type} {d:α} {n i:Nat} {v:α} (h:i<n):gl d (List.replicate n v) i=v:=by
 unfold gl;simp [List.getD,h]
theorem XI {fs:List Fr} {i j:Int} {x:Fr} (h0:0<=j) (h1:j<fs.length) (hi:0<=i):fr (fs.set j.toNat x) i=if i=j then x else fr fs i:=by
 unfold fr
 rw[D5 (by omega)]
 by_cases h:i=j
 ·subst h;simp
 ·rw[AD h,AD (by omega)]
theorem I4 {fs:List Fr} {i:Int} (h0:0<=i) (h1:i<fs.length):nx fs i=(fr fs i).2.2:=by
 unfold nx;rw[AA ⟨h0,h1⟩]
theorem A16 (fs:List Fr):nx fs (-1)= -1:=by unfold nx;rw[AD (by omega)]
def Pa (fs:List Fr):Int->List Int->Prop
 |i,[]=>i= -1
 |i,a::r=>i=a/\0<=a/\a<fs.length/\Pa fs (nx fs a) r
theorem Pa.fn {fs:List Fr}:∀ {l l' :List Int} {i:Int},Pa fs i l->Pa fs i l' ->l=l'
 | [],[],_,_,_=>rfl
 | [],a::r,i,h,h' =>by obtain⟨rfl,h0,_⟩:=h';rw[Pa] at h;omega
 |a::r,[],i,h,h' =>by obtain⟨rfl,h0,_⟩:=h;rw[Pa] at h';omega
 |a::r,b::r',i,h,h' =>by
  obtain⟨rfl,_,_,h1⟩:=h
  obtain⟨rfl,_,_,h2⟩:=h'
  rw[Pa.fn h1 h2]
theorem Pa.mem {fs:List Fr}:∀ {l:List Int} {i x:Int},Pa fs i l->x∈l->0<=x/\x<fs.length
 | [],_,_,_,hx=>by cases hx
 |a::r,i,x,h,hx=>by
  obtain⟨rfl,h0,h1,h2⟩:=h
  rcases GA.1 hx with rfl|hx
  ·exact⟨h0,h1⟩
  ·exact h2.mem hx
theorem Pa.drop {fs:List Fr}:∀ {l:List Int} {i:Int} (k:Nat),Pa fs i l->(hk:k<l.length)->Pa fs l[k] (l.drop k)
 | [],_,k,_,hk=>by simp at hk
 |a::r,i,0,h,_=>by
  obtain⟨rfl,h0,h1,h2⟩:=h
  exact⟨rfl,h0,h1,h2⟩
 |a::r,i,k+1,h,hk=>by
  obtain⟨rfl,h0,h1,h2⟩:=h
  simp only[List.getElem_cons_succ,List.drop_succ_cons]
  exact h2.drop k (by simpa using hk)
theorem Pa.nodup {fs:List Fr}:∀ {l:List Int} {i:Int},Pa fs i l->l.Nodup
 | [],_,_=>iF
 |a::r,i,h=>by
  have h' :=h
  obtain⟨rfl,h0,h1,h2⟩:=h
  refine WD.2 ⟨fun hm=> ?_,h2.nodup⟩
  obtain⟨k,hk,he⟩:=mP hm
  have h3:=h2.drop k hk
  rw[he] at h3
  have:=PR List.length (h'.fn h3)
  simp at this
  omega
theorem SU:∀ (n:Nat) (l:List Int),l.Nodup->(∀ x∈l,0<=x/\x<n)->l.length<=n
 |0,l,_,h=>by
  cases l with
  |nil=>simp
  |cons a r=>have:=h a (by simp);omega
 |n+1,l,hd,h=>by
  have h1:=SU n (l.erase (n:Int)) (hd.erase _) (fun x hx=>by
   have h2:=(hd.mem_erase_iff).1 hx
   have:=h x h2.2
   have:=h2.1
   omega)
  rw[List.length_erase] at h1
  split at h1 <;> omega
theorem Pa.length {fs:List Fr} {l:List Int} {i:Int} (h:Pa fs i l):l.length<=fs.length:=
 SU _ _ h.nodup fun x hx=>h.mem hx
def qT (fs:List Fr):Nat->Int->Int
 |0,i=>i
 |k+1,i=>nx fs (qT fs k i)
theorem ABN (fs:List Fr) (k:Nat) (i:Int):qT fs (k+1) i=qT fs k (nx fs i):=by
 induction k with
 |zero=>rfl
 |succ k ih=>rw[qT,ih];rfl
theorem ADE (fs:List Fr) (k:Nat):qT fs k (-1)= -1:=by
 induction k with
 |zero=>rfl
 |succ k ih=>rw[qT,ih,A16]
theorem uR (fs:List Fr) (a b:Nat) (i:Int):qT fs (a+b) i=qT fs b (qT fs a i):=by
 induction b with
 |zero=>rfl
 |succ b ih=>rw[<-O1,qT,ih];rfl
def Rng (fs:List Fr):Prop:=∀ i:Int,0<=i->i<fs.length→-1<=nx fs i/\nx fs i<fs.length
theorem Pa.ADF {fs:List Fr} (hr:Rng fs):∀ (k:Nat) (i:Int), -1<=i->i<fs.length->qT fs k i= -1->∃ l,Pa fs i l
 |0,i,_,_,h=>⟨[],h⟩
 |k+1,i,h0,h1,h=>by
  by_cases hi:i= -1
  ·exact⟨[],hi⟩
  ·rw[ABN] at h
   obtain⟨l,hl⟩:=Pa.ADF hr k (nx fs i) (hr i (by omega) h1).1 (hr i (by omega) h1).2 h
   exact⟨i::l,rfl,by omega,h1,hl⟩
theorem Pa.ends {fs:List Fr}:∀ {l:List Int} {i:Int},Pa fs i l->∀ m,l.length<=m->qT fs m i= -1
 | [],i,h,m,_=>by rw[Pa] at h;rw[h,ADE]
 |a::r,i,h,m,hm=>by
  obtain⟨rfl,_,_,h2⟩:=h
  obtain⟨m,rfl⟩:∃ k,m=k+1:=⟨m-1,by simp at hm;omega⟩
  rw[ABN]
  exact h2.ends m (by simpa using hm)
theorem A17:∀ (n:Nat) (f:Nat->Int),(∀ k,k<=n->0<=f k/\f k<n)->∃ a b,a<b/\b<=n/\f a=f b:=by
 intro n f h
 have hd:¬((List.range (n+1)).map f).Nodup:=fun hd=>by
  have:=SU n _ hd (fun x hx=>by
   obtain⟨k,hk,rfl⟩:=DD.1 hx
   exact h k (by have:=pV.1 hk;omega))
  simp at this
  omega
 rw[List.nodup_iff_pairwise_ne,AIW] at hd
 simp only[RG,List.length_range,vM,List.getElem_range,Classical.not_forall] at hd
 obtain⟨a,b,ha,hb,hab,he⟩:=hd
 exact⟨a,b,hab,by omega,by simpa using he⟩
theorem Pa.AH7 {fs:List Fr} (hr:Rng fs) (h:∀ i:Int,0<=i->i<fs.length->∀ k:Nat,1<=k->k<=fs.length->qT fs k i≠i) (i:Int) (h0:0<=i) (h1:i<fs.length):∃ l,Pa fs i l:=by
 refine Pa.ADF hr (fs.length) i (by omega) h1 ?_
 apply vF
 intro hn
 have OU:∀ k,k<=fs.length->0<=qT fs k i/\qT fs k i<fs.length:=by
  intro k
  induction k with
  |zero=>exact fun _=>⟨h0,h1⟩
  |succ k ih=>
   intro hk
   obtain⟨h2,h3⟩:=ih (by omega)
   have h4:=hr _ h2 h3
   refine⟨?_,h4.2⟩
   have h5:qT fs (k+1) i≠-1:=by
    intro h6
    obtain⟨d,hd⟩:=ALD hk
    rw[hd,uR,h6,ADE] at hn
    exact hn rfl
   rw[qT] at h5 ⊢
   omega
 obtain⟨a,b,hab,hb,he⟩:=A17 fs.length (fun k=>qT fs k i) OU
 obtain⟨d,rfl⟩:=ALD (Nat.le_of_lt hab)
 simp only[uR] at he
 obtain⟨h2,h3⟩:=OU a (by omega)
 exact h _ h2 h3 d (by omega) (by omega) he.symm
theorem Pa.AT4 {fs:List Fr} {l:List Int} {i:Int} (h:Pa fs i l) (h0:0<=i) (k:Nat) (hk:1<=k):qT fs k i≠i:=by
 intro he
 have hm:∀ m:Nat,qT fs (m*k) i=i:=by
  intro m
  induction m with
  |zero=>rw[AAI];rfl
  |succ m ih=>rw[Nat.succ_mul,uR,ih,he]
 have h1:=h.ends (l.length*k) (Nat.le_mul_of_pos_right _ hk)
 rw[hm] at h1
 omega
def Stamped (f:Fr):Prop:=0<=f.1/\f.1<=4294967295/\∃ b:Int,0<=b/\b<4/\f.2.1=f.1+b*4294967296
def APJ (f:Fr):Prop:=f=(-1, -1, -1)
def Zero (s:Sp) (i:Int):Prop:=∀ a:Nat,i*sz s.1<=a->(a:Int)<(i+1)*sz s.1->gl 0#64 s.2.1 a=0#64
def ZK (fs:List Fr) (i:Int):Prop:=
 Stamped (fr fs i)∧-1<=(fr fs i).2.2/\(fr fs i).2.2<fs.length/\(fr fs i).2.2≠i/\((fr fs i).2.2≠-1->(fr fs (fr fs i).2.2).1=(fr fs i).1/\(fr fs (fr fs i).2.2).2.1=(fr fs i).2.1)
def AX2 (s:Sp) (i:Int):Prop:=(APJ (fr s.2.2 i)/\Zero s i)\/ZK s.2.2 i
structure VS (s:Sp):Prop where
 sh:3<=s.1/\s.1<=8
 n:2<=s.2.2.length/\s.2.2.length<=64
 w:(s.2.1.length:Int)=s.2.2.length*sz s.1
 fr:∀ i:Int,0<=i->i<s.2.2.length->AX2 s i
 inj:∀ i j:Int,0<=i->i<s.2.2.length->0<=j->j<s.2.2.length->nx s.2.2 i=nx s.2.2 j->nx s.2.2 i≠-1->i=j
 acy:∀ i:Int,0<=i->i<s.2.2.length->∃ l,Pa s.2.2 i l
theorem AH8 (x:BitVec 64) (n:Nat):(x >>> n) &&& 1#64=1#64↔x.getLsbD n=true:=by
 constructor
 ·intro h
  have:=PR (fun v=>v.getLsbD 0) h
  simpa using this
 ·intro h
  apply BitVec.eq_of_getLsbD_eq
  intro i hi
  simp only[BitVec.getLsbD_and,BitVec.getLsbD_ushiftRight,BitVec.getLsbD_one]
  by_cases h0:i=0
  ·subst h0;simp [h]
  ·simp [h0]
theorem AN3 (x:BitVec 64) {m:Nat} (j:Nat) (hm:m<64):(x|||(1#64 <<< m)).getLsbD j=(x.getLsbD j||decide (m=j)):=by
 simp only[BitVec.getLsbD_or,BitVec.getLsbD_shiftLeft,BitVec.getLsbD_one]
 congr 1
 rw[a_]
 simp
 omega
theorem ABO {i:Int} (h0:0<=i) (h1:i<64):(BitVec.ofInt 64 i).toNat=i.toNat:=by
 rw[vK]
 congr 1
 exact ALQ h0 (by omega)
theorem AN4 {α:Type} {d:α} {xs:List α} {lo n j:Nat} (h:j<n):gl d (B9 xs lo n) j=gl d xs (lo+j):=by
 unfold gl B9
 simp only[vE,mR,cP]
 rw[AA h]
theorem AH9 {α:Type} {xs:List α} {lo n:Nat} (h:lo+n<=xs.length):(B9 xs lo n).length=n:=by
 unfold B9;simp;omega
end Go.V3
set_option maxRecDepth 100000
namespace Go.Proofs.YthmiilamegpllaaGreat
open Go Go.V3
noncomputable section
def B4 (a0:Int) (a1:Int):Option Int:=
if ¬a1=0 then
if (Int.tmod a0 a1)<0 then
some (AG ((Int.tmod a0 a1)+a1))
else some (Int.tmod a0 a1)
else none
@[reducible] def FQ:FnI:=BK [AP,AP] [CY] fun x=>B4 x.1 x.2
def nY:Cx:=BE [] [] [] [] []
theorem GP:CV 14 FQ:=okW nY [.tmp 4] 15 0 (BD AM.nil A_.nil) Tryz.func14
def GQ (a0:(List Int)):Option GB:=
some ((a0,0))
@[reducible] def I5:FnI:=BK [SR] [P2] fun x=>GQ x
def nZ:Cx:=BE [(5,(1,1))] [] [] [] []
theorem KS:CV 11 I5:=okW nZ [.tmp 2] 6 1 (BD AM.nil A_.nil) Tryz.func11
def F4 (a0:Int):Option Bool:=
if a0≥3 then
some (decide (a0<=8))
else some (false)
@[reducible] def I6:FnI:=BK [AP] [FN] fun x=>F4 x
def dS:Cx:=BE [] [] [] [] []
theorem LS:CV 82 I6:=okW dS [.tmp 2] 9 0 (BD AM.nil A_.nil) Tryz.func82
def D6 (a0:BB):Option Bool:=
if a0.1<0 then
some (false)
else if a0.1>4294967295 then
some (false)
else AI (σ:=Int) (β:=Bool) (fun s1=>
if s1<4 then
if a0.2.1=(AG (a0.1+(AG (s1*4294967296)))) then
some (Sum.inr (true))
else some (Sum.inl (AG (s1+1)))
else some (Sum.inr (false))) (0)
@[reducible] def P5:FnI:=BK [⟨kN,true,false,false⟩] [FN] fun x=>D6 x
def ZL:Cx:=BE [(1,(0,1))] [] [] [(0,B8 [(3,AP)] [] [] (FI [(2,1),(12,12)]) [] 1)] []
theorem YE:CV 117 P5:=okW ZL [.tmp 2] 24 1 (BD AM.nil A_.nil) Tryz.func117
def F5 (a0:B7):Option Bool:=
Option.bind (F4 a0.1) (fun r1=>
if (!r1)=true then
some (false)
else if (a0.2.2.length:Int)<2 then
some (false)
else if (a0.2.2.length:Int)>64 then
some (false)
else if True then
if ¬(a0.2.1.length:Int)=(AG ((a0.2.2.length:Int)*2 ^ min (BitVec.ofInt 64 a0.1).toNat 64)) then
some (false)
else AI (σ:=(Int×(List Int))) (β:=Bool) (fun s1=>
if s1.1<(a0.2.2.length:Int) then
if 0<=s1.1/\s1.1<(a0.2.2.length:Int) then
if ((gl ((0,0,0):BB) a0.2.2 s1.1.toNat).1)=(-1) then
if (((gl ((0,0,0):BB) a0.2.2 s1.1.toNat).2).1)=(-1) then
if (((gl ((0,0,0):BB) a0.2.2 s1.1.toNat).2).2)=(-1) then
if True then
AI (σ:=Int) (β:=((Int×(List Int)) ⊕ Bool)) (fun s2=>
if True then
if s2<(AG ((AG (s1.1+1))*2 ^ min (BitVec.ofInt 64 a0.1).toNat 64)) then
if 0<=s2/\s2<(a0.2.1.length:Int) then
if ¬(gl (0#64:(BitVec 64)) a0.2.1 s2.toNat)=(0#64) then
some (Sum.inr (Sum.inr (false)))
else some (Sum.inl (AG (s2+1)))
else none
else some (Sum.inr (Sum.inl ((AG (s1.1+1),s1.2))))
else none) (AG (s1.1*2 ^ min (BitVec.ofInt 64 a0.1).toNat 64))
else none
else Option.bind (D6 ((gl ((0,0,0):BB) a0.2.2 s1.1.toNat).1,((gl ((0,0,0):BB) a0.2.2 s1.1.toNat).2))) (fun r2=>
if (!r2)=true then
some (Sum.inr (false))
else if (((gl ((0,0,0):BB) a0.2.2 s1.1.toNat).2).2)<(-1) then
some (Sum.inr (false))
else if (((gl ((0,0,0):BB) a0.2.2 s1.1.toNat).2).2)≥(a0.2.2.length:Int) then
some (Sum.inr (false))
else if (((gl ((0,0,0):BB) a0.2.2 s1.1.toNat).2).2)=s1.1 then
some (Sum.inr (false))
else if (((gl ((0,0,0):BB) a0.2.2 s1.1.toNat).2).2)=(-1) then
some (Sum.inl ((AG (s1.1+1),s1.2)))
else if 0<=(((gl ((0,0,0):BB) a0.2.2 s1.1.toNat).2).2)/\(((gl ((0,0,0):BB) a0.2.2 s1.1.toNat).2).2)<(a0.2.2.length:Int) then
if (0<=(((gl ((0,0,0):BB) a0.2.2 s1.1.toNat).2).2)/\(((gl ((0,0,0):BB) a0.2.2 s1.1.toNat).2).2)<((64:Nat):Int))/\(((gl ((0,0,0):BB) a0.2.2 s1.1.toNat).2).2)<(s1.2.length:Int) then
if (0<=(((gl ((0,0,0):BB) a0.2.2 s1.1.toNat).2).2)/\(((gl ((0,0,0):BB) a0.2.2 s1.1.toNat).2).2)<((64:Nat):Int))/\(((gl ((0,0,0):BB) a0.2.2 s1.1.toNat).2).2)<(s1.2.length:Int) then
if ¬((gl ((0,0,0):BB) a0.2.2 ((((gl ((0,0,0):BB) a0.2.2 s1.1.toNat).2).2).toNat)).1)=((gl ((0,0,0):BB) a0.2.2 s1.1.toNat).1) then
some (Sum.inr (false))
else if ¬(((gl ((0,0,0):BB) a0.2.2 ((((gl ((0,0,0):BB) a0.2.2 s1.1.toNat).2).2).toNat)).2).1)=(((gl ((0,0,0):BB) a0.2.2 s1.1.toNat).2).1) then
some (Sum.inr (false))
else if (0<=(((gl ((0,0,0):BB) a0.2.2 s1.1.toNat).2).2)/\(((gl ((0,0,0):BB) a0.2.2 s1.1.toNat).2).2)<((64:Nat):Int))/\(((gl ((0,0,0):BB) a0.2.2 s1.1.toNat).2).2)<((s1.2.set ((((gl ((0,0,0):BB) a0.2.2 s1.1.toNat).2).2).toNat) (AG ((gl (0:Int) s1.2 ((((gl ((0,0,0):BB) a0.2.2 s1.1.toNat).2).2).toNat))+1))).length:Int) then
if (gl (0:Int) (s1.2.set ((((gl ((0,0,0):BB) a0.2.2 s1.1.toNat).2).2).toNat) (AG ((gl (0:Int) s1.2 ((((gl ((0,0,0):BB) a0.2.2 s1.1.toNat).2).2).toNat))+1))) ((((gl ((0,0,0):BB) a0.2.2 s1.1.toNat).2).2).toNat))>1 then
some (Sum.inr (false))
else some (Sum.inl ((AG (s1.1+1),s1.2.set ((((gl ((0,0,0):BB) a0.2.2 s1.1.toNat).2).2).toNat) (AG ((gl (0:Int) s1.2 ((((gl ((0,0,0):BB) a0.2.2 s1.1.toNat).2).2).toNat))+1)))))
else none
else none
else none
else none)
else Option.bind (D6 ((gl ((0,0,0):BB) a0.2.2 s1.1.toNat).1,((gl ((0,0,0):BB) a0.2.2 s1.1.toNat).2))) (fun r3=>
if (!r3)=true then
some (Sum.inr (false))
else if (((gl ((0,0,0):BB) a0.2.2 s1.1.toNat).2).2)<(-1) then
some (Sum.inr (false))
else if (((gl ((0,0,0):BB) a0.2.2 s1.1.toNat).2).2)≥(a0.2.2.length:Int) then
some (Sum.inr (false))
else if (((gl ((0,0,0):BB) a0.2.2 s1.1.toNat).2).2)=s1.1 then
some (Sum.inr (false))
else if (((gl ((0,0,0):BB) a0.2.2 s1.1.toNat).2).2)=(-1) then
some (Sum.inl ((AG (s1.1+1),s1.2)))
else if 0<=(((gl ((0,0,0):BB) a0.2.2 s1.1.toNat).2).2)/\(((gl ((0,0,0):BB) a0.2.2 s1.1.toNat).2).2)<(a0.2.2.length:Int) then
if (0<=(((gl ((0,0,0):BB) a0.2.2 s1.1.toNat).2).2)/\(((gl ((0,0,0):BB) a0.2.2 s1.1.toNat).2).2)<((64:Nat):Int))/\(((gl ((0,0,0):BB) a0.2.2 s1.1.toNat).2).2)<(s1.2.length:Int) then
if (0<=(((gl ((0,0,0):BB) a0.2.2 s1.1.toNat).2).2)/\(((gl ((0,0,0):BB) a0.2.2 s1.1.toNat).2).2)<((64:Nat):Int))/\(((gl ((0,0,0):BB) a0.2.2 s1.1.toNat).2).2)<(s1.2.length:Int) then
if ¬((gl ((0,0,0):BB) a0.2.2 ((((gl ((0,0,0):BB) a0.2.2 s1.1.toNat).2).2).toNat)).1)=((gl ((0,0,0):BB) a0.2.2 s1.1.toNat).1) then
some (Sum.inr (false))
else if ¬(((gl ((0,0,0):BB) a0.2.2 ((((gl ((0,0,0):BB) a0.2.2 s1.1.toNat).2).2).toNat)).2).1)=(((gl ((0,0,0):BB) a0.2.2 s1.1.toNat).2).1) then
some (Sum.inr (false))
else if (0<=(((gl ((0,0,0):BB) a0.2.2 s1.1.toNat).2).2)/\(((gl ((0,0,0):BB) a0.2.2 s1.1.toNat).2).2)<((64:Nat):Int))/\(((gl ((0,0,0):BB) a0.2.2 s1.1.toNat).2).2)<((s1.2.set ((((gl ((0,0,0):BB) a0.2.2 s1.1.toNat).2).2).toNat) (AG ((gl (0:Int) s1.2 ((((gl ((0,0,0):BB) a0.2.2 s1.1.toNat).2).2).toNat))+1))).length:Int) then
if (gl (0:Int) (s1.2.set ((((gl ((0,0,0):BB) a0.2.2 s1.1.toNat).2).2).toNat) (AG ((gl (0:Int) s1.2 ((((gl ((0,0,0):BB) a0.2.2 s1.1.toNat).2).2).toNat))+1))) ((((gl ((0,0,0):BB) a0.2.2 s1.1.toNat).2).2).toNat))>1 then
some (Sum.inr (false))
else some (Sum.inl ((AG (s1.1+1),s1.2.set ((((gl ((0,0,0):BB) a0.2.2 s1.1.toNat).2).2).toNat) (AG ((gl (0:Int) s1.2 ((((gl ((0,0,0):BB) a0.2.2 s1.1.toNat).2).2).toNat))+1)))))
else none
else none
else none
else none)
else Option.bind (D6 ((gl ((0,0,0):BB) a0.2.2 s1.1.toNat).1,((gl ((0,0,0):BB) a0.2.2 s1.1.toNat).2))) (fun r4=>
if (!r4)=true then
some (Sum.inr (false))
else if (((gl ((0,0,0):BB) a0.2.2 s1.1.toNat).2).2)<(-1) then
some (Sum.inr (false))
else if (((gl ((0,0,0):BB) a0.2.2 s1.1.toNat).2).2)≥(a0.2.2.length:Int) then
some (Sum.inr (false))
else if (((gl ((0,0,0):BB) a0.2.2 s1.1.toNat).2).2)=s1.1 then
some (Sum.inr (false))
else if (((gl ((0,0,0):BB) a0.2.2 s1.1.toNat).2).2)=(-1) then
some (Sum.inl ((AG (s1.1+1),s1.2)))
else if 0<=(((gl ((0,0,0):BB) a0.2.2 s1.1.toNat).2).2)/\(((gl ((0,0,0):BB) a0.2.2 s1.1.toNat).2).2)<(a0.2.2.length:Int) then
if (0<=(((gl ((0,0,0):BB) a0.2.2 s1.1.toNat).2).2)/\(((gl ((0,0,0):BB) a0.2.2 s1.1.toNat).2).2)<((64:Nat):Int))/\(((gl ((0,0,0):BB) a0.2.2 s1.1.toNat).2).2)<(s1.2.length:Int) then
if (0<=(((gl ((0,0,0):BB) a0.2.2 s1.1.toNat).2).2)/\(((gl ((0,0,0):BB) a0.2.2 s1.1.toNat).2).2)<((64:Nat):Int))/\(((gl ((0,0,0):BB) a0.2.2 s1.1.toNat).2).2)<(s1.2.length:Int) then
if ¬((gl ((0,0,0):BB) a0.2.2 ((((gl ((0,0,0):BB) a0.2.2 s1.1.toNat).2).2).toNat)).1)=((gl ((0,0,0):BB) a0.2.2 s1.1.toNat).1) then
some (Sum.inr (false))
else if ¬(((gl ((0,0,0):BB) a0.2.2 ((((gl ((0,0,0):BB) a0.2.2 s1.1.toNat).2).2).toNat)).2).1)=(((gl ((0,0,0):BB) a0.2.2 s1.1.toNat).2).1) then
some (Sum.inr (false))
else if (0<=(((gl ((0,0,0):BB) a0.2.2 s1.1.toNat).2).2)/\(((gl ((0,0,0):BB) a0.2.2 s1.1.toNat).2).2)<((64:Nat):Int))/\(((gl ((0,0,0):BB) a0.2.2 s1.1.toNat).2).2)<((s1.2.set ((((gl ((0,0,0):BB) a0.2.2 s1.1.toNat).2).2).toNat) (AG ((gl (0:Int) s1.2 ((((gl ((0,0,0):BB) a0.2.2 s1.1.toNat).2).2).toNat))+1))).length:Int) then
if (gl (0:Int) (s1.2.set ((((gl ((0,0,0):BB) a0.2.2 s1.1.toNat).2).2).toNat) (AG ((gl (0:Int) s1.2 ((((gl ((0,0,0):BB) a0.2.2 s1.1.toNat).2).2).toNat))+1))) ((((gl ((0,0,0):BB) a0.2.2 s1.1.toNat).2).2).toNat))>1 then
some (Sum.inr (false))
else some (Sum.inl ((AG (s1.1+1),s1.2.set ((((gl ((0,0,0):BB) a0.2.2 s1.1.toNat).2).2).toNat) (AG ((gl (0:Int) s1.2 ((((gl ((0,0,0):BB) a0.2.2 s1.1.toNat).2).2).toNat))+1)))))
else none
else none
else none
else none)
else none
else Option.map Sum.inr (AI (σ:=Int) (β:=Bool) (fun s3=>
if s3<(a0.2.2.length:Int) then
AI (σ:=(Int×Int)) (β:=(Int ⊕ Bool)) (fun s4=>
if s4.2<=(a0.2.2.length:Int) then
if ¬s4.1=(-1) then
if 0<=s4.1/\s4.1<(a0.2.2.length:Int) then
some (Sum.inl ((((gl ((0,0,0):BB) a0.2.2 s4.1.toNat).2).2,AG (s4.2+1))))
else none
else Option.map Sum.inr (if ¬s4.1=(-1) then
some (Sum.inr (false))
else some (Sum.inl (AG (s3+1))))
else Option.map Sum.inr (if ¬s4.1=(-1) then
some (Sum.inr (false))
else some (Sum.inl (AG (s3+1))))) ((s3,0))
else some (Sum.inr (true))) (0))) ((0,List.replicate 64 (0:Int)))
else none)
@[reducible] def M1:FnI:=BK [D3] [FN] fun x=>F5 x
def dT:Cx:=BE [(1,(2,1)),(4,(3,1)),(6,(4,1)),(8,(5,1))] [4] [(82,I6),(117,P5)] [(0,B8 [(41,AP)] [] [(3,(.int .i64))] (FI [(2,1),(5,4),(42,93)]) [] 4),(2,B8 [(7,AP)] [] [] (FI [(2,1),(64,16)]) [] 5),(4,B8 [(138,AP)] [] [] (FI [(2,1),(9,3),(139,21)]) [] 6),(6,B8 [(10,AP),(11,AP)] [] [] (FI [(142,15)]) [] 6)] []
theorem QZ:CV 79 M1:=okW dT [.tmp 2] 160 4 (BD (.cons LS (.cons YE AM.nil)) A_.nil) Tryz.func79
def MD (a0:Int) (a1:Int):Option (B7×Int):=
Option.bind (F4 a0) (fun r1=>
if (!r1)=true then
some (((0,[],[]),1))
else if a1<2 then
some (((0,[],[]),1))
else if a1>64 then
some (((0,[],[]),1))
else if True then
if 0<=(AG (a1*2 ^ min (BitVec.ofInt 64 a0).toNat 64))/\(AG (a1*2 ^ min (BitVec.ofInt 64 a0).toNat 64))<=(AG (a1*2 ^ min (BitVec.ofInt 64 a0).toNat 64))/\(AG (a1*2 ^ min (BitVec.ofInt 64 a0).toNat 64))*((8:Nat):Int)<=140737488355328 then
if 0<=a1/\a1<=a1/\a1*((24:Nat):Int)<=140737488355328 then
AI (σ:=(Int×(List BB))) (β:=(B7×Int)) (fun s1=>
if s1.1<((List.replicate a1.toNat ((0,0,0):BB)).length:Int) then
if 0<=s1.1/\s1.1<(s1.2.length:Int) then
some (Sum.inl ((AG (s1.1+1),s1.2.set s1.1.toNat ((-1),(-1),(-1)))))
else none
else some (Sum.inr (((a0,List.replicate (AG (a1*2 ^ min (BitVec.ofInt 64 a0).toNat 64)).toNat (0#64:(BitVec 64)),s1.2),0)))) ((0,List.replicate a1.toNat ((0,0,0):BB)))
else none
else none
else none)
@[reducible] def VO:FnI:=BK [AP,AP] [dQ,CY] fun x=>MD x.1 x.2
def lQ:Cx:=BE [(4,(0,1)),(6,(3,1)),(25,(1,1)),(27,(2,1))] [25,27] [(82,I6)] [(0,B8 [(32,AP)] [] [(2,kN)] (FI [(7,1),(33,8)]) [] 4)] []
theorem iI:CV 52 VO:=okW lQ [.cell 4 28,.tmp 5] 42 4 (BD (.cons LS AM.nil) A_.nil) Tryz.func52
def JN (a0:B7) (a1:Int):Option (List Int):=
AI (σ:=GB) (β:=(List Int)) (fun s1=>
if ¬s1.2=(-1) then
if (s1.1.length+([s1.2]:List Int).length)*8<=140737488355328 then
if 0<=s1.2/\s1.2<(a0.2.2.length:Int) then
some (Sum.inl ((s1.1++([s1.2]:List Int),((gl ((0,0,0):BB) a0.2.2 s1.2.toNat).2).2)))
else none
else none
else some (Sum.inr (s1.1))) (([],a1))
@[reducible] def SW:FnI:=BK [D3,AP] [I3] fun x=>JN x.1 x.2
def dU:Cx:=BE [(2,(2,1)),(18,(4,1)),(19,(5,1))] [19] [] [(0,B8 [(5,I3),(6,AP)] [] [] (FI [(8,12)]) [] 3)] []
theorem bJ:CV 118 SW:=okW dU [.tmp 4] 21 4 (BD AM.nil A_.nil) Tryz.func118
def II (a0:Int) (a1:Int):Option Int:=
if a0<0 then
some (0)
else if a0>1099511627776 then
some (0)
else if a1<0 then
some (0)
else if a1>20 then
some (0)
else if True then
if True then
some ((AG ((AG (a0+(AG ((1:Int)*2 ^ min (BitVec.ofInt 64 a1).toNat 64))))-1)) / 2 ^ min (BitVec.ofInt 64 a1).toNat 64)
else none
else none
@[reducible] def N0:FnI:=BK [AP,AP] [CY] fun x=>II x.1 x.2
def iJ:Cx:=BE [] [] [] [] []
theorem SX:CV 50 N0:=okW iJ [.tmp 4] 28 0 (BD AM.nil A_.nil) Tryz.func50
def BU (a0:B7) (a1:AB):Option Int:=
Option.bind (II a1.2.2.2.2 a0.1) (fun r1=>
some (r1))
@[reducible] def C8:FnI:=BK [D3,P3] [CY] fun x=>BU x.1 x.2
def bK:Cx:=BE [(2,(2,1)),(3,(3,1))] [] [(50,N0)] [] []
theorem DQ:CV 46 C8:=okW bK [.tmp 4] 10 2 (BD (.cons SX AM.nil) A_.nil) Tryz.func46
def IJ (a0:B7) (a1:AB):Option Bool:=
if a1.1<0 then
some (false)
else if a1.1>4294967295 then
some (false)
else if a1.2.1<0 then
some (false)
else if a1.2.1≥4 then
some (false)
else if a1.2.2.2.2<0 then
some (false)
else if a1.2.2.2.2>(a0.2.1.length:Int) then
some (false)
else if a1.2.2.2.2=0 then
if a1.2.2.1=(-1) then
some (decide (a1.2.2.2.1=(-1)))
else some (false)
else if a1.2.2.1<0 then
some (false)
else if a1.2.2.1≥(a0.2.2.length:Int) then
some (false)
else if 0<=a1.2.2.1/\a1.2.2.1<(a0.2.2.length:Int) then
if ¬((gl ((0,0,0):BB) a0.2.2 a1.2.2.1.toNat).1)=a1.1 then
some (false)
else if ¬(((gl ((0,0,0):BB) a0.2.2 a1.2.2.1.toNat).2).1)=(AG ((AG (a1.2.1*4294967296))+a1.1)) then
some (false)
else Option.bind (JN a0 a1.2.2.1) (fun r1=>
AI (σ:=(Int×Int)) (β:=Bool) (fun s1=>
if s1.2<(a0.2.2.length:Int) then
if 0<=s1.2/\s1.2<(a0.2.2.length:Int) then
if ((gl ((0,0,0):BB) a0.2.2 s1.2.toNat).1)=a1.1 then
some (Sum.inl ((AG (s1.1+1),AG (s1.2+1))))
else some (Sum.inl ((s1.1,AG (s1.2+1))))
else none
else Option.map Sum.inr (Option.bind (BU a0 a1) (fun r2=>
if (r1.length:Int)=r2 then
if (r1.length:Int)=s1.1 then
if 0<=(AG ((r1.length:Int)-1))/\(AG ((r1.length:Int)-1))<(r1.length:Int) then
some (decide ((gl (0:Int) r1 ((AG ((r1.length:Int)-1)).toNat))=a1.2.2.2.1))
else none
else some (false)
else some (false)))) ((0,0)))
else none
@[reducible] def N1:FnI:=BK [D3,P3] [FN] fun x=>IJ x.1 x.2
def iK:Cx:=BE [(2,(2,1)),(3,(3,1)),(5,(4,1)),(9,(6,1)),(88,(5,1))] [] [(46,C8),(118,SW)] [(0,B8 [(7,AP),(92,AP)] [] [] (FI [(9,1),(93,11)]) [] 6)] []
theorem SY:CV 84 N1:=okW iK [.tmp 4] 127 5 (BD (.cons DQ (.cons bJ AM.nil)) A_.nil) Tryz.func84
def JO (a0:B7) (a1:AB):Option Bool:=
Option.bind (F5 a0) (fun r1=>
if r1=true then
Option.bind (IJ a0 a1) (fun r2=>
some (r2))
else some (false))
@[reducible] def SZ:FnI:=BK [D3,P3] [FN] fun x=>JO x.1 x.2
def dV:Cx:=BE [(2,(2,1)),(3,(3,1))] [] [(79,M1),(84,N1)] [] []
theorem bL:CV 47 SZ:=okW dV [.tmp 4] 12 2 (BD (.cons QZ (.cons SY AM.nil)) A_.nil) Tryz.func47
def KT (a0:B7) (a1:Int):Option Bool:=
AI (σ:=Int) (β:=Bool) (fun s1=>
if s1<(a0.2.2.length:Int) then
if 0<=s1/\s1<(a0.2.2.length:Int) then
if ((gl ((0,0,0):BB) a0.2.2 s1.toNat).1)=a1 then
some (Sum.inr (true))
else some (Sum.inl (AG (s1+1)))
else none
else some (Sum.inr (false))) (0)
@[reducible] def UD:FnI:=BK [D3,AP] [FN] fun x=>KT x.1 x.2
def iL:Cx:=BE [(2,(2,1)),(6,(3,1))] [] [] [(0,B8 [(10,AP)] [] [] (FI [(4,1),(6,1),(11,8)]) [] 3)] []
theorem dW:CV 48 UD:=okW iL [.tmp 4] 19 2 (BD AM.nil A_.nil) Tryz.func48
def JP (a0:OL):Option OL:=
if (([]:List (BitVec 64)).length+a0.length)*8<=140737488355328 then
some (([]:List (BitVec 64))++a0)
else none
@[reducible] def S0:FnI:=BK [AT1] [aV] fun x=>JP x
def dX:Cx:=BE [(4,(1,1))] [4] [] [] []
theorem bM:CV 63 S0:=okW dX [.tmp 2] 5 1 (BD AM.nil A_.nil) Tryz.func63
def DR (a0:B7):Option B7:=
Option.bind (JP a0.2.1) (fun r1=>
if (([]:List BB).length+a0.2.2.length)*24<=140737488355328 then
some ((a0.1,r1,([]:List BB)++a0.2.2))
else none)
@[reducible] def JQ:FnI:=BK [D3] [dQ] fun x=>DR x
def iM:Cx:=BE [(1,(2,1)),(2,(3,1)),(7,(4,1)),(10,(5,1))] [10] [(63,S0)] [] []
theorem M3:CV 30 JQ:=okW iM [.cell 2 28] 12 4 (BD (.cons bM AM.nil) A_.nil) Tryz.func30
def ER (a0:B7) (a1:AB) (a2:Int):Option Int:=
Option.bind (II (AG (a1.2.2.2.2+a2)) a0.1) (fun r1=>
Option.bind (BU a0 a1) (fun r2=>
some (AG (r1-r2))))
@[reducible] def I7:FnI:=BK [D3,P3,AP] [CY] fun x=>ER x.1 x.2.1 x.2.2
def dY:Cx:=BE [(3,(2,1)),(4,(3,1))] [] [(46,C8),(50,N0)] [] []
theorem LU:CV 22 I7:=okW dY [.tmp 6] 18 2 (BD (.cons DQ (.cons SX AM.nil)) A_.nil) Tryz.func22
def DS (a0:B7):Option (List Int):=
AI (σ:=GB) (β:=(List Int)) (fun s1=>
if s1.2<(a0.2.2.length:Int) then
if 0<=s1.2/\s1.2<(a0.2.2.length:Int) then
if ((gl ((0,0,0):BB) a0.2.2 s1.2.toNat).1)=(-1) then
if (s1.1.length+([s1.2]:List Int).length)*8<=140737488355328 then
some (Sum.inl ((s1.1++([s1.2]:List Int),AG (s1.2+1))))
else none
else some (Sum.inl ((s1.1,AG (s1.2+1))))
else none
else some (Sum.inr (s1.1))) (([],0))
@[reducible] def HL:FnI:=BK [D3] [I3] fun x=>DS x
def iN:Cx:=BE [(1,(2,1)),(5,(4,1)),(19,(5,1)),(20,(6,1))] [20] [] [(0,B8 [(3,I3),(9,AP)] [] [] (FI [(4,2),(10,12)]) [] 3)] []
theorem I8:CV 83 HL:=okW iN [.tmp 2] 23 5 (BD AM.nil A_.nil) Tryz.func83
def IK (a0:B7) (a1:Int) (a2:Int):Option B7:=
AI (σ:=Int) (β:=B7) (fun s1=>
if s1<(a0.2.2.length:Int) then
if 0<=s1/\s1<(a0.2.2.length:Int) then
if ((gl ((0,0,0):BB) a0.2.2 s1.toNat).1)=(-1) then
if 0<=s1/\s1<(a0.2.2.length:Int) then
some (Sum.inr ((s1,a0.2.1,a0.2.2.set s1.toNat (a1,AG ((AG (a2*4294967296))+a1),(-1)))))
else none
else some (Sum.inl (AG (s1+1)))
else none
else some (Sum.inr (((-1),a0.2.1,a0.2.2)))) (0)
@[reducible] def UE:FnI:={ ps:=[dQ,AP,AP],rs:=[CY],os:=[aV,xY],bk:=[0,1],F:=fun x=>IK x.1 x.2.1 x.2.2 }
def iO:Cx:=BE [(3,(2,1)),(8,(3,1))] [] [] [(0,B8 [(12,AP)] [] [] (FI [(6,3),(13,19)]) [] 3)] []
theorem dZ:CV 85 UE:=okW iO [.tmp 6] 32 2 (BD AM.nil A_.nil) Tryz.func85
def BF (a0:B7) (a1:Int) (a2:Int):Option (Int×Int):=
if a1<0 then
some ((0,2))
else if a1≥(a0.2.1.length:Int) then
some ((0,2))
else if a2<0 then
some ((0,2))
else if True then
if True then
if 0<=(a1 / 2 ^ min (BitVec.ofInt 64 a0.1).toNat 64)/\(a1 / 2 ^ min (BitVec.ofInt 64 a0.1).toNat 64)<(a0.2.2.length:Int) then
if ((gl ((0,0,0):BB) a0.2.2 ((a1 / 2 ^ min (BitVec.ofInt 64 a0.1).toNat 64).toNat)).1)=(-1) then
some ((0,5))
else AI (σ:=BB) (β:=(Int×Int)) (fun s1=>
if True then
if s1.1≥(AG ((AG ((1:Int)*2 ^ min (BitVec.ofInt 64 a0.1).toNat 64))-s1.2.2)) then
if True then
if 0<=s1.2.1/\s1.2.1<(a0.2.2.length:Int) then
if (((gl ((0,0,0):BB) a0.2.2 s1.2.1.toNat).2).2)=(-1) then
some (Sum.inr ((0,2)))
else some (Sum.inl ((AG (s1.1-(AG ((AG ((1:Int)*2 ^ min (BitVec.ofInt 64 a0.1).toNat 64))-s1.2.2))),((gl ((0,0,0):BB) a0.2.2 s1.2.1.toNat).2).2,0)))
else none
else none
else Option.map Sum.inr (if True then
some ((AG ((AG ((AG (s1.2.1*2 ^ min (BitVec.ofInt 64 a0.1).toNat 64))+s1.2.2))+s1.1),0))
else none)
else none) ((a2,a1 / 2 ^ min (BitVec.ofInt 64 a0.1).toNat 64,AAL .and a1 (AG ((AG ((1:Int)*2 ^ min (BitVec.ofInt 64 a0.1).toNat 64))-1))))
else none
else none
else none
@[reducible] def EU:FnI:=BK [D3,AP,AP] [CY,CY] fun x=>BF x.1 x.2.1 x.2.2
def n5:Cx:=BE [(3,(2,1))] [] [] [(0,B8 [(2,AP),(8,AP),(9,AP)] [] [] (FI [(6,2),(42,24)]) [] 3)] []
theorem FB:CV 86 EU:=okW n5 [.tmp 6,.tmp 7] 75 1 (BD AM.nil A_.nil) Tryz.func86
def CR (a0:B7) (a1:AB) (a2:Int):Option (AB×Int×Int×OL×(List BB)):=
Option.bind (ER a0 a1 a2) (fun r1=>
Option.bind (DS a0) (fun r2=>
if r1>(r2.length:Int) then
some (((0,0,0,0,0),0,4,a0.2.1,a0.2.2))
else AI (σ:=(Int×AB×OL×(List BB))) (β:=(AB×Int×Int×OL×(List BB))) (fun s1=>
if s1.1>0 then
Option.bind (IK (a0.1,s1.2.2) s1.2.1.1 s1.2.1.2.1) (fun r3=>
if s1.2.1.2.2.1=(-1) then
some (Sum.inl ((AG (s1.1-1),(s1.2.1.1,s1.2.1.2.1,r3.1,r3.1,s1.2.1.2.2.2.2),r3.2.1,r3.2.2)))
else if 0<=s1.2.1.2.2.2.1/\s1.2.1.2.2.2.1<(r3.2.2.length:Int) then
some (Sum.inl ((AG (s1.1-1),(s1.2.1.1,s1.2.1.2.1,s1.2.1.2.2.1,r3.1,s1.2.1.2.2.2.2),r3.2.1,r3.2.2.set s1.2.1.2.2.2.1.toNat ((gl ((0,0,0):BB) r3.2.2 s1.2.1.2.2.2.1.toNat).1,((gl ((0,0,0):BB) r3.2.2 s1.2.1.2.2.2.1.toNat).2).1,r3.1))))
else none)
else Option.map Sum.inr (if True then
Option.bind (BF (a0.1,s1.2.2) (AG (s1.2.1.2.2.1*2 ^ min (BitVec.ofInt 64 a0.1).toNat 64)) a1.2.2.2.2) (fun r4=>
some (((s1.2.1.1,s1.2.1.2.1,s1.2.1.2.2.1,s1.2.1.2.2.2.1,AG (s1.2.1.2.2.2.2+a2)),r4.1,0,s1.2.2.1,s1.2.2.2)))
else none)) ((r1,a1,a0.2.1,a0.2.2))))
@[reducible] def JR:FnI:={ ps:=[dQ,P3,AP],rs:=[kO,CY,CY],os:=[aV,xY],bk:=[0,1],F:=fun x=>CR x.1 x.2.1 x.2.2 }
def iP:Cx:=BE [(3,(2,1)),(4,(3,1)),(6,(4,1)),(20,(5,1))] [] [(22,I7),(83,HL),(85,UE),(86,EU)] [(0,B8 [(9,AP)] [(3,P3)] [(0,.u64),(1,kN)] (FI [(11,1),(26,24)]) [] 6)] []
theorem M4:CV 49 JR:=okW iP [.cell 6 57,.tmp 7,.tmp 8] 69 4 (BD (.cons LU (.cons I8 (.cons dZ (.cons FB AM.nil)))) A_.nil) Tryz.func49
def C_ (a0:B7) (a1:AB) (a2:Int):Option (B7×AB×Int×Int):=
Option.bind (JO a0 a1) (fun r1=>
if (!r1)=true then
some (((0,[],[]),(0,0,0,0,0),0,1))
else if a2<1 then
some (((0,[],[]),(0,0,0,0,0),0,1))
else if a2>48 then
some (((0,[],[]),(0,0,0,0,0),0,1))
else if a1.2.2.2.2=0 then
Option.bind (KT a0 a1.1) (fun r2=>
if r2=true then
some (((0,[],[]),(0,0,0,0,0),0,5))
else Option.bind (DR a0) (fun r3=>
Option.bind (CR r3 a1 a2) (fun r4=>
if ¬r4.2.2.1=0 then
some (((0,[],[]),(0,0,0,0,0),0,r4.2.2.1))
else some (((r3.1,r4.2.2.2),r4.1,r4.2.1,0)))))
else Option.bind (DR a0) (fun r5=>
Option.bind (CR r5 a1 a2) (fun r6=>
if ¬r6.2.2.1=0 then
some (((0,[],[]),(0,0,0,0,0),0,r6.2.2.1))
else some (((r5.1,r6.2.2.2),r6.1,r6.2.1,0)))))
@[reducible] def S1:FnI:=BK [D3,P3,AP] [dQ,kO,CY,CY] fun x=>C_ x.1 x.2.1 x.2.2
def d_:Cx:=BE [(3,(2,1)),(4,(3,1)),(6,(4,1)),(7,(5,1)),(10,(8,1)),(11,(9,1)),(40,(6,2))] [] [(30,JQ),(47,SZ),(48,UD),(49,JR)] [] []
theorem bN:CV 21 S1:=okW d_ [.cell 6 28,.cell 7 57,.tmp 8,.tmp 9] 57 8 (BD (.cons M3 (.cons bL (.cons dW (.cons M4 AM.nil)))) A_.nil) Tryz.func21
def DT (a0:Int) (a1:Int):Option ((BitVec 64)×Int):=
if a0<0 then
some ((0#64,13))
else if a0>15 then
some ((0#64,13))
else if a1<0 then
some ((0#64,13))
else if a1>32 then
some ((0#64,13))
else some ((BitVec.ofInt 64 (AG ((AG ((AG ((AG ((1:Int)+a0))+a1))*256))+(AG (a0*2)))),0))
@[reducible] def JS:FnI:=BK [AP,AP] [ABJ,CY] fun x=>DT x.1 x.2
def iQ:Cx:=BE [] [] [] [] []
theorem M5:CV 119 JS:=okW iQ [.tmp 4,.tmp 5] 29 0 (BD AM.nil A_.nil) Tryz.func119
def GR (a0:B7) (a1:Int) (a2:Int) (a3:Int):Option B7:=
Option.bind (DT a2 a3) (fun r1=>
if ¬r1.2=0 then
some ((r1.2,a0.2.1,a0.2.2))
else Option.bind (BF a0 a1 (AG (a2+a3))) (fun r2=>
if ¬r2.2=0 then
some ((r2.2,a0.2.1,a0.2.2))
else if 0<=a1/\a1<(a0.2.1.length:Int) then
AI (σ:=(Int×OL)) (β:=B7) (fun s1=>
if s1.1<=(AG (a2+a3)) then
Option.bind (BF (a0.1,s1.2,a0.2.2) a1 s1.1) (fun r3=>
if 0<=r3.1/\r3.1<(s1.2.length:Int) then
some (Sum.inl ((AG (s1.1+1),s1.2.set r3.1.toNat (0#64))))
else none)
else some (Sum.inr ((0,s1.2,a0.2.2)))) ((1,a0.2.1.set a1.toNat r1.1))
else none))
@[reducible] def UF:FnI:={ ps:=[dQ,AP,AP,AP],rs:=[CY],os:=[aV,xY],bk:=[0,1],F:=fun x=>GR x.1 x.2.1 x.2.2.1 x.2.2.2 }
def iR:Cx:=BE [(4,(2,1))] [] [(86,EU),(119,JS)] [(0,B8 [(13,AP)] [] [(0,.u64)] (FI [(14,2),(42,18)]) [] 3)] []
theorem eA:CV 139 UF:=okW iR [.tmp 8] 60 1 (BD (.cons FB (.cons M5 AM.nil)) A_.nil) Tryz.func139
def KU (a0:B7):Option Bool:=
if (a0.2.1.length:Int)<=3000 then
some (decide ((a0.2.2.length:Int)<=80))
else some (false)
@[reducible] def UG:FnI:=BK [D3] [FN] fun x=>KU x
def iS:Cx:=BE [(1,(2,1))] [] [] [] []
theorem eB:CV 7 UG:=okW iS [.tmp 2] 13 1 (BD AM.nil A_.nil) Tryz.func7
def HM (a0:B7) (a1:Int) (a2:Int) (a3:Int):Option B7:=
Option.bind (DR a0) (fun r1=>
Option.bind (B4 a2 (r1.2.2.length:Int)) (fun r2=>
Option.bind (B4 a1 8) (fun r3=>
if r3=0 then
Option.bind (B4 a3 6) (fun r4=>
if 0<=r2/\r2<(r1.2.2.length:Int) then
some ((r1.1,r1.2.1,r1.2.2.set r2.toNat (AG (r4-2),((gl ((0,0,0):BB) r1.2.2 r2.toNat).2))))
else none)
else if r3=1 then
if 0<=r2/\r2<(r1.2.2.length:Int) then
Option.bind (B4 a3 4) (fun r5=>
if 0<=r5/\r5<(([1,(-1),4294967296,17179869184]:List Int).length:Int) then
if 0<=r2/\r2<(r1.2.2.length:Int) then
some ((r1.1,r1.2.1,r1.2.2.set r2.toNat ((gl ((0,0,0):BB) r1.2.2 r2.toNat).1,AG ((((gl ((0,0,0):BB) r1.2.2 r2.toNat).2).1)+(gl (0:Int) ([1,(-1),4294967296,17179869184]:List Int) r5.toNat)),((gl ((0,0,0):BB) r1.2.2 r2.toNat).2).2)))
else none
else none)
else none
else if r3=2 then
Option.bind (B4 a3 (AG ((r1.2.2.length:Int)+2))) (fun r6=>
if 0<=r2/\r2<(r1.2.2.length:Int) then
some ((r1.1,r1.2.1,r1.2.2.set r2.toNat ((gl ((0,0,0):BB) r1.2.2 r2.toNat).1,((gl ((0,0,0):BB) r1.2.2 r2.toNat).2).1,AG (r6-1))))
else none)
else if r3=3 then
Option.bind (B4 a2 (r1.2.1.length:Int)) (fun r7=>
if 0<=r7/\r7<(r1.2.1.length:Int) then
some ((r1.1,r1.2.1.set r7.toNat (BitVec.ofInt 64 a3),r1.2.2))
else none)
else if r3=4 then
if (r1.2.1.length+([0#64]:List (BitVec 64)).length)*8<=140737488355328 then
some ((r1.1,r1.2.1++([0#64]:List (BitVec 64)),r1.2.2))
else none
else if r3=5 then
Option.bind (B4 a3 3) (fun r8=>
some ((AG (r1.1+(AG (r8-1))),r1.2)))
else if r3=6 then
if 0<=r2/\r2<(r1.2.2.length:Int) then
some ((r1.1,r1.2.1,r1.2.2.set r2.toNat ((-1),(-1),(-1))))
else none
else some (r1))))
@[reducible] def S2:FnI:=BK [D3,AP,AP,AP] [dQ] fun x=>HM x.1 x.2.1 x.2.2.1 x.2.2.2
def eD:Cx:=BE [(4,(2,1)),(8,(3,1)),(9,(6,1)),(12,(4,2)),(38,(7,1)),(76,(8,1)),(77,(9,1))] [77] [(14,FQ),(30,JQ)] [] []
theorem bO:CV 12 S2:=okW eD [.cell 8 28] 96 8 (BD (.cons GP (.cons M3 AM.nil)) A_.nil) Tryz.func12
def P6 (a0:Int):Option Bool:=
if a0≥3 then
some (decide (a0<=8))
else some (false)
@[reducible] def XJ:FnI:=BK [AP] [FN] fun x=>P6 x
def zS:Cx:=BE [] [] [] [] []
theorem eF:CV 108 XJ:=okW zS [.tmp 2] 9 0 (BD AM.nil A_.nil) Tryz.func108
def W3 (a0:OL):Option Bool:=
AI (σ:=Int) (β:=Bool) (fun s1=>
if s1<(a0.length:Int) then
if 0<=s1/\s1<(a0.length:Int) then
if ¬(gl (0#64:(BitVec 64)) a0 s1.toNat)=(0#64) then
some (Sum.inr (false))
else some (Sum.inl (AG (s1+1)))
else none
else some (Sum.inr (true))) (0)
@[reducible] def n6:FnI:=BK [AT1] [FN] fun x=>W3 x
def ADG:Cx:=BE [] [] [] [(0,B8 [(7,AP)] [] [] [2,4,8,9,10,11,12,13] [] 1)] []
theorem zT:CV 109 n6:=okW ADG [.tmp 2] 14 0 (BD AM.nil A_.nil) Tryz.func109
def OV (a0:B7):Option Bool:=
AI (σ:=Int) (β:=Bool) (fun s1=>
if s1<(a0.2.2.length:Int) then
if 0<=s1/\s1<(a0.2.2.length:Int) then
AI (σ:=(Int×Int)) (β:=(Int ⊕ Bool)) (fun s2=>
if s2.1≥0 then
if s2.2<(a0.2.2.length:Int) then
if s2.1=s1 then
some (Sum.inr (Sum.inr (false)))
else if 0<=s2.1/\s2.1<(a0.2.2.length:Int) then
some (Sum.inl ((((gl ((0,0,0):BB) a0.2.2 s2.1.toNat).2).2,AG (s2.2+1))))
else none
else some (Sum.inr (Sum.inl (AG (s1+1))))
else some (Sum.inr (Sum.inl (AG (s1+1))))) ((((gl ((0,0,0):BB) a0.2.2 s1.toNat).2).2,0))
else none
else some (Sum.inr (true))) (0)
@[reducible] def YF:FnI:=BK [D3] [FN] fun x=>OV x
def qU:Cx:=BE [(1,(2,1))] [] [] [(0,B8 [(9,AP)] [] [] (FI [(2,4),(10,29)]) [] 3),(2,B8 [(4,AP),(5,AP)] [] [] (FI [(2,1),(18,20)]) [] 3)] []
theorem n7:CV 110 YF:=okW qU [.tmp 2] 39 1 (BD AM.nil A_.nil) Tryz.func110
def I9 (a0:B7):Option Bool:=
Option.bind (P6 a0.1) (fun r1=>
if (!r1)=true then
some (false)
else if (a0.2.2.length:Int)<2 then
some (false)
else if (a0.2.2.length:Int)>64 then
some (false)
else if True then
if ¬(a0.2.1.length:Int)=(AG ((a0.2.2.length:Int)*2 ^ min (BitVec.ofInt 64 a0.1).toNat 64)) then
some (false)
else AI (σ:=((BitVec 64)×Int)) (β:=Bool) (fun s1=>
if s1.2<(a0.2.2.length:Int) then
if 0<=s1.2/\s1.2<(a0.2.2.length:Int) then
if ((gl ((0,0,0):BB) a0.2.2 s1.2.toNat).1)=(-1) then
if ¬(((gl ((0,0,0):BB) a0.2.2 s1.2.toNat).2).1)=(-1) then
some (Sum.inr (false))
else if ¬(((gl ((0,0,0):BB) a0.2.2 s1.2.toNat).2).2)=(-1) then
some (Sum.inr (false))
else if True then
if True then
if Bd (some (AG (s1.2*2 ^ min (BitVec.ofInt 64 a0.1).toNat 64))) (some (AG ((AG (s1.2+1))*2 ^ min (BitVec.ofInt 64 a0.1).toNat 64))) ((AG ((AG (s1.2+1))*2 ^ min (BitVec.ofInt 64 a0.1).toNat 64)).toNat) a0.2.1.length then
Option.bind (W3 (B9 a0.2.1 ((AG (s1.2*2 ^ min (BitVec.ofInt 64 a0.1).toNat 64)).toNat) (((AG ((AG (s1.2+1))*2 ^ min (BitVec.ofInt 64 a0.1).toNat 64)).toNat)-((AG (s1.2*2 ^ min (BitVec.ofInt 64 a0.1).toNat 64)).toNat)))) (fun r2=>
if (!r2)=true then
some (Sum.inr (false))
else some (Sum.inl ((s1.1,AG (s1.2+1)))))
else none
else none
else none
else if ((gl ((0,0,0):BB) a0.2.2 s1.2.toNat).1)<0 then
some (Sum.inr (false))
else if ((gl ((0,0,0):BB) a0.2.2 s1.2.toNat).1)>4294967295 then
some (Sum.inr (false))
else if (((gl ((0,0,0):BB) a0.2.2 s1.2.toNat).2).1)<0 then
some (Sum.inr (false))
else if ¬(4294967296:Int)=0 then
if ¬(Int.tmod (((gl ((0,0,0):BB) a0.2.2 s1.2.toNat).2).1) 4294967296)=((gl ((0,0,0):BB) a0.2.2 s1.2.toNat).1) then
some (Sum.inr (false))
else if ¬(4294967296:Int)=0 then
if (AG (Int.tdiv (((gl ((0,0,0):BB) a0.2.2 s1.2.toNat).2).1) 4294967296))≥4 then
some (Sum.inr (false))
else if (((gl ((0,0,0):BB) a0.2.2 s1.2.toNat).2).2)<(-1) then
some (Sum.inr (false))
else if (((gl ((0,0,0):BB) a0.2.2 s1.2.toNat).2).2)≥(a0.2.2.length:Int) then
some (Sum.inr (false))
else if (((gl ((0,0,0):BB) a0.2.2 s1.2.toNat).2).2)=s1.2 then
some (Sum.inr (false))
else if (((gl ((0,0,0):BB) a0.2.2 s1.2.toNat).2).2)<0 then
some (Sum.inl ((s1.1,AG (s1.2+1))))
else if 0<=(((gl ((0,0,0):BB) a0.2.2 s1.2.toNat).2).2)/\(((gl ((0,0,0):BB) a0.2.2 s1.2.toNat).2).2)<(a0.2.2.length:Int) then
if True then
if ((s1.1 >>> (BitVec.ofInt 64 (((gl ((0,0,0):BB) a0.2.2 s1.2.toNat).2).2)).toNat) &&& (1#64))=(1#64) then
some (Sum.inr (false))
else if ¬((gl ((0,0,0):BB) a0.2.2 ((((gl ((0,0,0):BB) a0.2.2 s1.2.toNat).2).2).toNat)).1)=((gl ((0,0,0):BB) a0.2.2 s1.2.toNat).1) then
some (Sum.inr (false))
else if ¬(((gl ((0,0,0):BB) a0.2.2 ((((gl ((0,0,0):BB) a0.2.2 s1.2.toNat).2).2).toNat)).2).1)=(((gl ((0,0,0):BB) a0.2.2 s1.2.toNat).2).1) then
some (Sum.inr (false))
else if True then
some (Sum.inl ((s1.1|||((1#64) <<< (BitVec.ofInt 64 (((gl ((0,0,0):BB) a0.2.2 s1.2.toNat).2).2)).toNat),AG (s1.2+1))))
else none
else none
else none
else none
else none
else none
else Option.map Sum.inr (Option.bind (OV a0) (fun r3=>
some (r3)))) ((0#64,0))
else none)
@[reducible] def R_:FnI:=BK [D3] [FN] fun x=>I9 x
def zU:Cx:=BE [(1,(2,1)),(6,(3,1)),(7,(5,1)),(67,(4,1))] [] [(108,XJ),(109,n6),(110,YF)] [(0,B8 [(4,aU),(37,AP)] [] [] (FI [(2,1),(5,3),(38,114)]) [] 3)] []
theorem VP:CV 67 R_:=okW zU [.tmp 2] 154 4 (BD (.cons eF (.cons zT (.cons n7 AM.nil))) A_.nil) Tryz.func67
def W4 (a0:B7):Option Int:=
Option.bind (P6 a0.1) (fun r1=>
if (!r1)=true then
some (0)
else if True then
some (AG ((1:Int)*2 ^ min (BitVec.ofInt 64 a0.1).toNat 64))
else none)
@[reducible] def n8:FnI:=BK [D3] [CY] fun x=>W4 x
def ADH:Cx:=BE [(1,(2,1))] [] [(108,XJ)] [] []
theorem zV:CV 71 n8:=okW ADH [.tmp 2] 11 1 (BD (.cons eF AM.nil) A_.nil) Tryz.func71
def AF (a0:GB) (a1:Int):Option (Int×GB):=
if a0.2≥(a0.1.length:Int) then
some ((0,a0))
else if 0<=(AG ((AG (a0.2+1))-1))/\(AG ((AG (a0.2+1))-1))<(a0.1.length:Int) then
Option.bind (B4 (gl (0:Int) a0.1 ((AG ((AG (a0.2+1))-1)).toNat)) a1) (fun r1=>
some ((r1,(a0.1,AG (a0.2+1)))))
else none
@[reducible] def DE:FnI:={ ps:=[P2,AP],rs:=[CY],os:=[P2],bk:=[0],F:=fun x=>AF x.1 x.2 }
def YG:Cx:=BE [] [] [(14,FQ)] [] []
theorem D1:CV 56 DE:=okW YG [.tmp 4] 35 0 (BD (.cons GP AM.nil) A_.nil) Tryz.func56
end
end Go.Proofs.YthmiilamegpllaaGreat
