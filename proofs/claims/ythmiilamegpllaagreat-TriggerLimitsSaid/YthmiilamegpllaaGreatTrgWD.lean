/- A law of the statements is proved here, without any condition. -/
import Derived.Test.YthmiilamegpllaaGreatHeaW
import Derived.Test.YthmiilamegpllaaGreatHeaZ
import Derived.Test.YthmiilamegpllaaGreatSpE
import Derived.Test.YthmiilamegpllaaGreatRows
set_option linter.unusedVariables false
set_option linter.unusedSimpArgs false
set_option maxRecDepth 100000
namespace Go.Proofs.YthmiilamegpllaaGreat
open Go Go.V3
noncomputable section
def AU :Option Bool:=
Option.bind (DI (⟨#[102,105,120,101,100]⟩:ByteArray) 25) (fun r1=>
Option.bind (FT r1.1 3 16) (fun r2=>
Option.bind (C0 r1.1 r2.1.2.1 r2.1.2.2.1 0 5) (fun r3=>
if r3.2.2=0 then
if r3.1=2 then
some (decide (r3.2.1.2.2.1=(-1)))
else some (false)
else some (false))))
@[reducible] def DN:FnI:=BK [] [FN] fun x=>AU 
def G_:Cx:=BE [(1,(1,1)),(3,(9,1)),(6,(10,1)),(9,(0,1)),(14,(2,7))] [] [(15,GY),(26,IN),(27,IL)] [] []
theorem GK:CV 9 DN:=okW G_ [.tmp 0] 38 11 (BD (.cons HC (.cons J4 (.cons JV AM.nil))) A_.nil) Tryz.func9
def H5 (a0:(List Int)) (a1:Int):Option Bool:=
Option.bind (GQ a0) (fun r1=>
Option.bind (FV r1) (fun r2=>
Option.bind (BO r2.1.2.2.1 0) (fun r3=>
if (!r3.2)=true then
Option.bind (AU) (fun r4=>
some (r4))
else if (r2.1.1.2.1.length:Int)<2 then
Option.bind (AU) (fun r5=>
some (r5))
else if (([]:List AJ).length+r2.1.1.2.1.length)*32<=140737488355328 then
if 0<=(0:Int)/\(0:Int)<(r2.1.2.2.1.length:Int) then
if 0<=(0:Int)/\(0:Int)<((([]:List AJ)++r2.1.1.2.1).length:Int) then
Option.bind (D9 (r2.1.1.1,(([]:List AJ)++r2.1.1.2.1).set ((0:Int).toNat) ((gl ((0,0,0,0):AJ) (([]:List AJ)++r2.1.1.2.1) ((0:Int).toNat)).1,((gl ([]:(List AB)) r2.1.2.2.1 ((0:Int).toNat)).length:Int),(((gl ((0,0,0,0):AJ) (([]:List AJ)++r2.1.1.2.1) ((0:Int).toNat)).2).2)),r2.1.1.2.2) 0 (r2.1.2.1.2.2.length:Int)) (fun r6=>
Option.bind (B4 a1 48) (fun r7=>
Option.bind (C0 (r2.1.1.1,(([]:List AJ)++r2.1.1.2.1).set ((0:Int).toNat) ((gl ((0,0,0,0):AJ) (([]:List AJ)++r2.1.1.2.1) ((0:Int).toNat)).1,((gl ([]:(List AB)) r2.1.2.2.1 ((0:Int).toNat)).length:Int),(((gl ((0,0,0,0):AJ) (([]:List AJ)++r2.1.1.2.1) ((0:Int).toNat)).2).2)),r2.1.1.2.2) r2.1.2.1 r2.1.2.2.1 r2.1.2.2.2.1 (AG ((1:Int)+r7))) (fun r8=>
if ¬r8.2.2=0 then
some (false)
else Option.bind (FD r2.1.2.1 r3.1 r6.1) (fun r9=>
if (!r9)=true then
some (decide (r8.1=3))
else if 0<=(0:Int)/\(0:Int)<(((([]:List AJ)++r2.1.1.2.1).set ((0:Int).toNat) ((gl ((0,0,0,0):AJ) (([]:List AJ)++r2.1.1.2.1) ((0:Int).toNat)).1,((gl ([]:(List AB)) r2.1.2.2.1 ((0:Int).toNat)).length:Int),(((gl ((0,0,0,0):AJ) (([]:List AJ)++r2.1.1.2.1) ((0:Int).toNat)).2).2))).length:Int) then
Option.bind (C0 (r2.1.1.1,((([]:List AJ)++r2.1.1.2.1).set ((0:Int).toNat) ((gl ((0,0,0,0):AJ) (([]:List AJ)++r2.1.1.2.1) ((0:Int).toNat)).1,((gl ([]:(List AB)) r2.1.2.2.1 ((0:Int).toNat)).length:Int),(((gl ((0,0,0,0):AJ) (([]:List AJ)++r2.1.1.2.1) ((0:Int).toNat)).2).2))).set ((0:Int).toNat) ((gl ((0,0,0,0):AJ) ((([]:List AJ)++r2.1.1.2.1).set ((0:Int).toNat) ((gl ((0,0,0,0):AJ) (([]:List AJ)++r2.1.1.2.1) ((0:Int).toNat)).1,((gl ([]:(List AB)) r2.1.2.2.1 ((0:Int).toNat)).length:Int),(((gl ((0,0,0,0):AJ) (([]:List AJ)++r2.1.1.2.1) ((0:Int).toNat)).2).2))) ((0:Int).toNat)).1,0,(((gl ((0,0,0,0):AJ) ((([]:List AJ)++r2.1.1.2.1).set ((0:Int).toNat) ((gl ((0,0,0,0):AJ) (([]:List AJ)++r2.1.1.2.1) ((0:Int).toNat)).1,((gl ([]:(List AB)) r2.1.2.2.1 ((0:Int).toNat)).length:Int),(((gl ((0,0,0,0):AJ) (([]:List AJ)++r2.1.1.2.1) ((0:Int).toNat)).2).2))) ((0:Int).toNat)).2).2)),r2.1.1.2.2) r2.1.2.1 r2.1.2.2.1 r2.1.2.2.2.1 (AG ((1:Int)+r7))) (fun JJ=>
if JJ.2.2=0 then
if r8.1=JJ.1 then
if (Y5 [decide (r8.2.1.1=JJ.2.1.1),decide (r8.2.1.2.1=JJ.2.1.2.1),decide (r8.2.1.2.2.1=JJ.2.1.2.2.1),decide (r8.2.1.2.2.2.1=JJ.2.1.2.2.2.1),decide (r8.2.1.2.2.2.2=JJ.2.1.2.2.2.2)])=true then
Option.bind (AU) (fun QR=>
some (QR))
else some (false)
else some (false)
else some (false))
else none))))
else none
else none
else none)))
@[reducible] def LJ:FnI:=BK [SR,AP] [FN] fun x=>H5 x.1 x.2
def T_:Cx:=BE [(5,(14,1)),(6,(15,1)),(7,(16,1)),(9,(17,1)),(14,(20,1)),(17,(21,1)),(21,(1,2)),(22,(3,11)),(45,(18,1)),(52,(19,1))] [45] [(9,DN),(10,IP),(11,I5),(14,FQ),(15,GY),(17,DF),(18,IM),(19,HN)] [] []
theorem TY:CV 5 LJ:=okW T_ [.tmp 4] 123 21 (BD (.cons GK (.cons J6 (.cons KS (.cons GP (.cons HC (.cons D2 (.cons JW (.cons JA AM.nil)))))))) A_.nil) Tryz.func5
end
end Go.Proofs.YthmiilamegpllaaGreat
namespace Go.Proofs.YthmiilamegpllaaGreat
open Go Go.V3
theorem JD:AU=some true:=by
 unfold AU
 obtain⟨c,hc,g⟩:=AEC (j:=2) (by decide) (p:=25) (by omega) (by omega)
 have e:DI (⟨#[102,105,120,101,100]⟩:ByteArray) 25=some (c,0):=hc
 have v:=pJ g (s:=3) (n:=16) (by omega) (by omega)
 rw[e,AZ,pK g (by omega) (by omega),AZ]
 have hd:=rO v (by omega) g (by simp) (k:=5) (by omega) (by omega)
 have hp:F3 c (WM c 3 16).2.1 (WM c 3 16).2.2.1 (WM c 3 16).2.2.2.1 5=(2,(0,0, -1, -1,0)):=by
  have hg:=g.n
  have h0:gl ([]:List AH) (List.replicate c.2.1.length []) 0=[]:=O4 (by omega)
  have hl:=(g.ru 0 (by omega) (by omega)).2.1
  unfold FX at hl
  unfold F3
  rw[AD (fun hh=>hh.1 h0),AD (fun hh=>by
   have h1:=hh.2
   have:((gl ([]:List AH) (WM c 3 16).2.2.1 0).length:Int)=0:=by rw[show gl ([]:List AH) (WM c 3 16).2.2.1 0=[] from h0];rfl
   have h2:=hh.1
   omega),AA]
  have tP:(List.replicate c.2.1.length ([]:List AH)).flatten=[]:=by simp
  unfold pR GrF QN
  simp only[tP]
  have hus:used (WM c 3 16).2.1=0:=by
   show used ((3,List.replicate ((16:Int)*sz 3).toNat 0#64,List.replicate (16:Int).toNat (-1, -1, -1)):Sp)=0
   decide+kernel
  rw[hus]
  have h1:cl (sz 3) (0+5)-cl (sz 3) 0=1:=by decide
  have h2:cl (sz 3) 0=0:=by decide
  have h3:lrg (sz 3) []=0:=rfl
  simp only[h2,h3,XV]
  have h1' :cl (sz 3) (0+5)-0=1:=by decide
  cases cmp c with
  |true=>exact .inr (.inl ⟨rfl,by decide⟩)
  |false=>exact .inr (.inr ⟨rfl,by decide,by decide⟩)
 rw[hp] at hd
 rw[hd]
 rfl
abbrev kB (c:Cf) (x:Int):Cf:=(c.1,c.2.1.set 0 ((ru c 0).1,x,(ru c 0).2.2),c.2.2)
theorem AEU {c:Cf} (hn:1<=c.2.1.length) (x:Int) {b:Int} (b0:0<=b):ru (kB c x) b=if b=0 then ((ru c 0).1,x,(ru c 0).2.2) else ru c b:=by
 unfold kB
 show gl (0,0,0,0) (c.2.1.set 0 ((ru c 0).1,x,(ru c 0).2.2)) b.toNat=_
 rw[D5 (by omega)]
 by_cases hb:b=0
 ·rw[AA hb,AA (by omega)]
 ·rw[AD hb,AD (by omega)];rfl
theorem AIV {c:Cf} (g:Good c) (h2:2<=c.2.1.length) {x:Int} (x0:0<=x) (x1:x<=64):Good (kB c x):=by
 have hl:(kB c x).2.1.length=c.2.1.length:=by simp
 have hr:∀ b:Int,0<=b->ru (kB c x) b=if b=0 then ((ru c 0).1,x,(ru c 0).2.2) else ru c b:=fun b b0=>AEU (by omega) x b0
 have ht:∀ b:Int,0<=b->(ru (kB c x) b).2.2=(ru c b).2.2/\(ru (kB c x) b).1=(ru c b).1:=by
  intro b b0
  rw[hr b b0]
  split
  ·rename_i h;subst h;exact⟨rfl,rfl⟩
  ·exact⟨rfl,rfl⟩
 refine⟨g.nm,by rw[hl];exact g.n,fun b b0 b1=> ?_,fun b b0 b1=> ?_, ?_⟩
 ·rw[hl] at b1 ⊢
  obtain⟨g1,g2,g3⟩:=g.ru b b0 b1
  refine⟨by rw[(ht b b0).2];exact g1, ?_, ?_⟩
  ·by_cases hb:b=0
   ·subst hb
    unfold FX at g2 ⊢
    rw[hr 0 (by omega),AA rfl]
    simp only
    omega
   ·rw[hr b b0,AD hb];exact g2
  ·unfold FY at g3 ⊢
   rw[(ht b b0).1];exact g3
 ·rw[hl] at b1
  have:=g.aim b b0 b1
  unfold Aim at this ⊢
  obtain⟨k,k0,k1,k2⟩:=this
  exact⟨k,by rw[hl];exact k0,k1,by rw[(ht k k0.1).1];exact k2⟩
 ·have:=g.fin
  unfold Z8 at this ⊢
  rw[hl,(ht _ (by omega)).2];exact this
theorem AO5 {c:Cf} (h1:1<=c.2.1.length) (x n:Int):Y2 (kB c x) 0 n=Y2 c 0 n:=by
 unfold Y2
 rw[AEU h1 x (bC 0),AA rfl]
theorem AYJ {c:Cf} (h2:2<=c.2.1.length) (x:Int):Go.Proofs.YthmiilamegpllaaGreat.cmp (kB c x)=Go.Proofs.YthmiilamegpllaaGreat.cmp c:=by
 unfold Go.Proofs.YthmiilamegpllaaGreat.cmp
 have hl:(kB c x).2.1.length=c.2.1.length:=by simp
 rw[hl,AEU (by omega) x (by omega),AD (by omega)]
theorem pN (y0:List Int) (w0:Wf (.slice (.int .i64)) y0) (y1:Int) (w1:I64 y1):H5 y0 y1=some true:=by
 unfold H5
 obtain⟨d,e1,hd⟩:=uX y0 w0.1
 obtain⟨c,h,g,d',e2,hp,_⟩:=vB hd
 obtain⟨v,_,hc,_,_,hfn⟩:=hp.ok
 obtain⟨m,e3,m0,m1,_⟩:=O9 y1 (m:=48) (by omega) (by omega)
 rw[e1,AZ,e2,AZ]
 simp only
 have gc:Good h.1:=v.g
 have hg:=gc.n
 have hq:=v.hi.hb.bv.n
 have hql:=v.ql
 obtain⟨l1,l2,l3⟩:=v.hi.hb.lens
 have hn:=v.vs.n
 have hx6:∀ x∈h.2.2.1,x.length<=1000000:=fun x hx=>by have:=l3 x hx;omega
 rw[U7 hx6 (b:=0) (by omega) (by omega),AZ]
 simp only[show (0:Int).toNat=0 from rfl]
 by_cases h0:gl ([]:List AH) h.2.2.1 0=[]
 ·rw[AA h0,AA (by decide),JD];rfl
 rw[AD h0,AD (show ¬(!true)=true by decide)]
 by_cases h2:(h.1.2.1.length:Int)<2
 ·rw[AA h2,JD];rfl
 have hlp:=mQ.2 h0
 have A7V:=l3 _ (BN (d:=([]:List AH)) (xs:=h.2.2.1) (k:=0) (by omega))
 have e4:([]:List (Nat×Int×Int×Int))++h.1.2.1=h.1.2.1:=rfl
 rw[AD h2,AA (by simp only[VG];omega),AA (by omega),e4,AA (by omega)]
 have hr:gl (0,0,0,0) h.1.2.1 0=ru h.1 0:=rfl
 rw[hr]
 have k0:1<=1+m:=by omega
 have k1:1+m<=48:=by omega
 have g1:=AIV gc (by omega) (x:=((gl ([]:List AH) h.2.2.1 0).length:Int)) (by omega) (by omega)
 have g2:=AIV gc (by omega) (x:=0) (by omega) (by omega)
 have n1:(1:Int)<=(h.2.1.2.2.length:Int):=by omega
 have n2:(h.2.1.2.2.length:Int)<=64:=by omega
 have hL:∀ x,(kB h.1 x).2.1.length=h.1.2.1.length:=fun x=>by simp
 rw[AEP g1 (b:=0) (n:=h.2.1.2.2.length) (by omega) (by rw[hL];omega) n1 n2,AZ,e3,AZ,AE (e:=1+m) (by omega) (by omega),rO v (by omega) g1 (by rw[hL];exact hql) k0 k1,AZ]
 generalize 1+m=k at k0 k1
 simp only
 rw[AD (H_ trivial),AO5 (by omega)]
 have bF:=u_ gc (b:=0) (n:=h.2.1.2.2.length) (by omega) (by omega) n1 n2
 have hyg:gl ((0,0,0,0,0):AH) (gl [] h.2.2.1 0) ((gl [] h.2.2.1 0).length-1)=pS h.2.2.1:=rfl
 rw[hyg,fZ v.vs.sh _ bF.1 (by omega),AZ]
 have EP:∀ x,opn (kB h.1 x) h.2.1 h.2.2.1↔opn h.1 h.2.1 h.2.2.1:=by
  intro x
  unfold opn
  rw[AO5 (by omega)]
 by_cases c1:Y2 h.1 0 h.2.1.2.2.length=0\/(pS h.2.2.1).2.2.2.2<Y2 h.1 0 h.2.1.2.2.length*sz h.2.1.1
 rotate_left
 ·have ho:¬opn (kB h.1 ((gl ([]:List AH) h.2.2.1 0).length:Int)) h.2.1 h.2.2.1:=fun hh=>c1 ((EP _).1 hh).2
  rw[NZ c1,AA (by decide)]
  unfold F3
  rw[AD ho,AEU (by omega) _ (bC 0),AA rfl]
  simp only
  rw[AA ⟨by omega,bC _⟩]
  rfl
 ·rw[IV c1,AD (by decide),AA (by simp only[EW];omega)]
  have ho:opn h.1 h.2.1 h.2.2.1:=⟨h0,c1⟩
  have eC:(h.1.1,(h.1.2.1.set 0 ((ru h.1 0).1,((gl ([]:List AH) h.2.2.1 0).length:Int),(ru h.1 0).2.2)).set 0 ((gl ((0,0,0,0):Ru) (h.1.2.1.set 0 ((ru h.1 0).1,((gl ([]:List AH) h.2.2.1 0).length:Int),(ru h.1 0).2.2)) 0).1,0,(gl ((0,0,0,0):Ru) (h.1.2.1.set 0 ((ru h.1 0).1,((gl ([]:List AH) h.2.2.1 0).length:Int),(ru h.1 0).2.2)) 0).2.2),h.1.2.2)=kB h.1 0:=by
   unfold kB
   rw[D5 (by omega),AA rfl,List.set_set]
  rw[eC,rO v (by omega) g2 (by rw[hL];exact hql) k0 k1,AZ]
  have ep:∀ x,F3 (kB h.1 x) h.2.1 h.2.2.1 h.2.2.2.1 k=if pR (Go.Proofs.YthmiilamegpllaaGreat.cmp h.1) h.2.1 h.2.2.1 (pS h.2.2.1) k then (1,pS h.2.2.1) else (3,(0,0,0,0,0)):=by
   intro x
   unfold F3
   rw[AA ((EP x).2 ho),AYJ (by omega)]
  simp only
  rw[AA trivial,ep,ep,AA rfl,AA (by simp [Y5]),JD]
  rfl
namespace triggerLimits
open Go.ChangeShapes Go.WideShapes Go.ChangeAt Go.RowKit Go.V3
theorem own:ownKnob Tryz.prog.godebug=none:=by kernel_rfl
theorem laidOut:laidOutB Tryz.prog=true:=by kernel_rfl
set_option maxRecDepth 100000 in
theorem lifted (os:Os) (started:os.Started) (H:Type) (enc:TypeId×Value->H):
  ReturnsInHanded {} Tryz.checked os 5 .any (Rows.triggerLimitsSpec.pre6 enc Tryz.prog Tryz.f5 Rows.triggerLimitsRow.domain false) (Rows.triggerLimitsSpec.post enc Tryz.prog Tryz.f5 false true false false):=by
 refine returnsInHanded_of_change (C:=Tryz.checked) own started (by kernel_rfl) Tryz.func5
  (ChangeSpec.witness6 (enc:=enc) (C:=Tryz.checked) false ⟨#[], #[.slice none 0 0,.int .i64 0],[]⟩ 8 (by kernel_rfl) (by kernel_rfl) (by kernel_rfl) (by kernel_rfl)) ?_
 intro W base args ds gs before yX hW A2F _
 have hT:xS nX W:=xS.nil W
 have I1:∀ (j:Nat) t v,Tryz.f5.params[j]? =some t->args[j]? =some v->Value.okWide Tryz.prog W .any base t v:=yX
 have hW' :=hW
 obtain⟨p,q,hA0,hV,rfl,hfz,JE⟩:=hW
 have hA:DataW.TrodAll enc Tryz.prog W 0 (fun _=>true) true Tryz.f5.params.toList args.toList ds p:=hA0
 rw[Tryz.params5] at hA I1
 obtain⟨v0,vs0,d0,ds0,p0,q0,MA,rfl,rfl,h0,r0⟩:=trodAll_cons hA
 obtain⟨v1,vs1,d1,ds1,p1,q1,rfl,rfl,rfl,h1,r1⟩:=trodAll_cons r0
 obtain⟨rfl,rfl,rfl⟩:=trodAll_nil r1
 obtain rfl:args= #[v0,v1]:=by cases args;simp_all
 obtain⟨rfl,rfl⟩:=trodVars_none hV
 have k0:=h0
 have lt0:∀ x∈p0,x.block<W.heap.size:=by obtain⟨m,hm⟩:=k0;exact DataW.trod_lt m _ _ _ hm
 obtain⟨y0,R0,w0⟩:=LR 40 (.slice (.int .i64)) (by kernel_rfl) (I1 0 30 v0 rfl rfl) k0
 have k1:=h1
 have lt1:∀ x∈p1,x.block<W.heap.size:=by obtain⟨m,hm⟩:=k1;exact DataW.trod_lt m _ _ _ hm
 obtain⟨y1,R1,w1⟩:=LR 40 (.int .i64) (by kernel_rfl) (I1 1 3 v1 rfl rfl) k1
 have A2:=zP.nil W
 obtain⟨m1,A1⟩:=A2.cons (t:=(.int .i64)) (.inr ⟨rfl,GO (t:=3) rfl (I1 1 3 v1 rfl rfl)⟩) y1 R1
 obtain⟨m0,A0⟩:=A1.cons (t:=(.slice (.int .i64))) (.inr ⟨rfl,GO (t:=30) rfl (I1 0 30 v0 rfl rfl)⟩) y0 R0
 refine (nW (fi:=LJ) TY hT (r:=(true:Bool)) (vals:= #[v0,v1]) (w:=W) A0 (pN y0 w0 y1 (LM w1)) (fun _=>rfl)).mono fun e W' ⟨he,uC⟩=> ?_
 subst he
 simp only[HH] at hW'
 exact⟨_,rfl,_,_,_,[],_,[],hW',trodAll_mk1 (shut_bool Tryz.underlying4 _),(trodAll_cons_mk (Below.trod laidOut (by kernel_rfl) (MM (by kernel_rfl)) k0 uC lt0) (trodAll_cons_mk (Below.trod laidOut (by kernel_rfl) (MM (by kernel_rfl)) k1 uC lt1) trodAll_mk0)),rfl,uC.frame _,fun h=>by cases h⟩
theorem proved:Rows.TriggerLimitsSaid:=
 OpenClaim.holds_of_wide 5 Tryz.f5 rfl rfl rfl rfl rfl rfl rfl ⟨rfl,rfl,rfl,rfl,rfl⟩ rfl rfl rfl rfl rfl (by kernel_rfl) Tryz.func5 (by kernel_rfl)
  (MM (by kernel_rfl)) (by unfold Func.isWrapper;first|(rw[AA (by decide+kernel)];kernel_rfl)|(rw[AD (by decide+kernel)];exact⟨rfl,rfl⟩))
  (fun os started H enc _=>lifted os started H enc)
end triggerLimits
end Go.Proofs.YthmiilamegpllaaGreat
