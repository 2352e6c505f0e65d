/- A law of the statements is proved here, without any condition. -/
import Derived.Test.YthmiilamegpllaaGreatHeaY
import Derived.Test.YthmiilamegpllaaGreatRows
set_option linter.unusedVariables false
set_option linter.unusedSimpArgs false
namespace Go.Proofs.YthmiilamegpllaaGreat
open Go Go.V3
theorem Good.ca {c:Cf} (g:Good c):Ca c:=⟨by have:=g.n;omega,by have:=g.nm.2.1;omega,g.sh⟩
theorem AW8 {N:Int} {h:Hs} (v:HV N h) (hN:N<=4294967295) {c:Cf} (g:Good c) (hc:h.2.2.1.length=c.2.1.length) {k:Int} (k0:1<=k) (k1:k<=48):HG c h.2.1 h.2.2.1 h.2.2.2.1 k=some ((H7 c h.2.1 h.2.2.1 h.2.2.2.1 k).1,(H7 c h.2.1 h.2.2.1 h.2.2.2.1 k).2,0):=by
 obtain⟨l1,l2,l3⟩:=v.hi.hb.lens
 have hn0:=v.hi.n0
 have hn1:=v.n1
 rcases AGI g.ca v.vs.stI (q:=h.2.2.1) (by omega) (fun x hx=>by have:=l3 x hx;omega) h.2.2.2.1 k with ⟨_,h1⟩|⟨h1,_⟩
 ·exact h1
 ·exact absurd ⟨g,v.hi.hb.bv,hc,by omega,⟨k0,k1⟩,v.hi.seq⟩ h1
theorem l4 (y0:List Int) (w0:Wf (.slice (.int .i64)) y0) (y1:Int) (w1:I64 y1):GS y0 y1=some true:=by
 unfold GS
 obtain⟨d,e1,hd⟩:=ARA y0 w0.1
 obtain⟨c,h,g,d',e2,hp,_⟩:=ASE hd
 obtain⟨v,_,hc,_,_,hfn⟩:=hp.ok
 obtain⟨m,e3,m0,m1,_⟩:=AN8 y1 (m:=48) (by omega) (by omega)
 rw[e1,A9,e2,A9,e3,A9]
 simp only
 have gc:Good h.1:=v.g
 have hg:=gc.n
 have hq:=v.hi.hb.bv.n
 obtain⟨l1,l2,l3⟩:=v.hi.hb.lens
 have hn:=v.vs.n
 have oB:=VS.O2 v.vs
 have k0:1<=1+m:=by omega
 have k1:1+m<=48:=by omega
 rw[AD (e:=1+m) (by omega) (by omega)]
 generalize 1+m=k at k0 k1
 have hx6:∀ x∈h.2.2.1,x.length<=1000000:=fun x hx=>by have:=l3 x hx;omega
 rw[AW8 v (by omega) gc v.ql k0 k1,A9]
 simp only
 rw[AB (I4 trivial),X5 hx6 (b:=0) (by omega) (by omega),A9,AI9 gc (b:=0) (n:=h.2.1.2.2.length) (by omega) (by omega) (by omega) (by omega),A9]
 have dU:=AAI gc (b:=0) (n:=h.2.1.2.2.length) (by omega) (by omega) (by omega) (by omega)
 simp only[show (0:Int).toNat=0 from rfl]
 have hpi:=ADY v (by omega) (n:=k)
 have alloc:∀ i:AH,i=(h.2.2.2.1,0, -1, -1,0)->qM (cmp h.1) h.2.1 h.2.2.1 i k->D5 h.2.1 i->(i.2.2.2.2=0->owned h.2.1.2.2 i.1=[])->∃ t j a,CY h.2.1 i k=some (t,j,a,0):=by
  intro i hi hG hf CO
  rcases ANC h.2.1 i k with ⟨g1,_⟩|⟨⟨_,_,_,_⟩,g⟩
  ·exact absurd ⟨v.vs,hf,by omega,by omega⟩ g1
  rcases g with ⟨g1,g2,_⟩|⟨_,⟨g1,_⟩|⟨_,t,j,a,_,_,g1,_⟩⟩
  ·exact absurd (CO g1) g2
  ·exfalso
   have hu:(h.2.1.2.2.length:Int)-(DA h.2.1.2.2).length=used h.2.1:=rfl
   have hm:cl (sz h.2.1.1) (i.2.2.2.2+k)-cl (sz h.2.1.1) i.2.2.2.2=SM h.2.1 i k:=rfl
   have z:=LF v.vs.sh
   have hc0:=O0 (z:=sz h.2.1.1) z.1 hf.1.2.2.2.2.1
   rw[hm] at g1
   have hl0:=v.qq.lrg
   have hu0:=AA6 h.2.1
   rcases hG with h1|⟨_,h1⟩|⟨_,h1,h2⟩ <;> omega
  ·exact⟨t,j,a,g1⟩
 by_cases h0:gl ([]:List AH) h.2.2.1 0=[]
 ·have e5:(if gl ([]:List AH) h.2.2.1 0=[] then (((0,0,0,0,0):AH),false) else (gl ((0,0,0,0,0):AH) (gl [] h.2.2.1 0) ((gl [] h.2.2.1 0).length-1),true))=(((0,0,0,0,0):AH),false):=AA h0
  have EB:¬opn h.1 h.2.1 h.2.2.1:=fun hh=>hh.1 h0
  rw[e5,AB (show ¬((((0,0,0,0,0):AH),false):AH×Bool).2=true by decide)]
  by_cases c2:(ru h.1 0).2.1≠0/\(ru h.1 0).2.1<=(gl [] h.2.2.1 0).length
  ·have e:H7 h.1 h.2.1 h.2.2.1 h.2.2.2.1 k=(3,(0,0,0,0,0)):=by unfold H7;rw[AB EB,AA c2]
   rw[e];rfl
  by_cases c3:qM (cmp h.1) h.2.1 h.2.2.1 (h.2.2.2.1,0, -1, -1,0) k
  ·have e:H7 h.1 h.2.1 h.2.2.1 h.2.2.2.1 k=(2,(h.2.2.2.1,0, -1, -1,0)):=by unfold H7;rw[AB EB,AB c2,AA c3]
   rw[show EH h k=_ from e] at hpi
   rw[e]
   obtain⟨f1,f2,_⟩:=hpi (by simp)
   obtain⟨t,j,a,ea⟩:=alloc _ rfl c3 f1 f2
   rw[AB (by simp),AA rfl,ea]
   simp
  ·have e:H7 h.1 h.2.1 h.2.2.1 h.2.2.2.1 k=(3,(0,0,0,0,0)):=by unfold H7;rw[AB EB,AB c2,AB c3]
   rw[e];rfl
 ·have e5:(if gl ([]:List AH) h.2.2.1 0=[] then (((0,0,0,0,0):AH),false) else (gl ((0,0,0,0,0):AH) (gl [] h.2.2.1 0) ((gl [] h.2.2.1 0).length-1),true))=(qN h.2.2.1,true):=AB h0
  have yU:=l8.2 h0
  have hy:qN h.2.2.1∈h.2.2.1.flatten:=I2.2 ⟨0,by omega,BR (by omega)⟩
  have hyf:=v.hi.hb.fit hy
  have hyw:=v.qq.w _ hy
  rw[e5,AA rfl,lO v.vs.sh _ dU.1 (by omega),A9]
  by_cases EB:opn h.1 h.2.1 h.2.2.1
  ·have AW9:=EB.2
   rw[HX AW9]
   unfold H7
   rw[AA EB]
   by_cases hG:qM (cmp h.1) h.2.1 h.2.2.1 (qN h.2.2.1) k
   ·rw[AA hG,AA rfl,AA rfl,AA (by simp [gP]),jC (cO gc) v.qq (i:=qN h.2.2.1) hyw.1 hyw.2 k0 k1,HX hG]
    rfl
   ·rw[AB hG]
    have z:=LF v.vs.sh
    rw[AB (by simp),AB (by simp),AA rfl,AB (by decide),show D6 h.2.1 (qN h.2.2.1,true).1 k=_ from tE v.vs hyw.1 hyw.2 (by omega) (by omega),A9]
    congr 1
    refine HX ?_
    have c3:=AHQ (z:=sz h.2.1.1) (by omega) (show (qN h.2.2.1).2.2.2.2<=(qN h.2.2.1).2.2.2.2+k by omega)
    have:SM h.2.1 (qN h.2.2.1) k≠0:=fun he=>hG (.inl he)
    unfold SM at this
    omega
  ·have AW9:¬(jB h.1 0 h.2.1.2.2.length=0\/(qN h.2.2.1).2.2.2.2<jB h.1 0 h.2.1.2.2.length*sz h.2.1.1):=fun hh=>EB ⟨h0,hh⟩
   rw[MV AW9]
   by_cases c2:(ru h.1 0).2.1≠0/\(ru h.1 0).2.1<=(gl [] h.2.2.1 0).length
   ·have e:H7 h.1 h.2.1 h.2.2.1 h.2.2.2.1 k=(3,(0,0,0,0,0)):=by unfold H7;rw[AB EB,AA c2]
    rw[e];rfl
   by_cases c3:qM (cmp h.1) h.2.1 h.2.2.1 (h.2.2.2.1,0, -1, -1,0) k
   ·have e:H7 h.1 h.2.1 h.2.2.1 h.2.2.2.1 k=(2,(h.2.2.2.1,0, -1, -1,0)):=by unfold H7;rw[AB EB,AB c2,AA c3]
    rw[show EH h k=_ from e] at hpi
    rw[e]
    obtain⟨f1,f2,_⟩:=hpi (by simp)
    obtain⟨t,j,a,ea⟩:=alloc _ rfl c3 f1 f2
    rw[AB (by simp),AA rfl,ea]
    simp
   ·have e:H7 h.1 h.2.1 h.2.2.1 h.2.2.2.1 k=(3,(0,0,0,0,0)):=by unfold H7;rw[AB EB,AB c2,AB c3]
    rw[e];rfl
namespace triggerGrants
open Go.ChangeShapes Go.WideShapes Go.ChangeAt Go.RowKit Go.V3
theorem own:ownKnob Tryz.prog.godebug=none:=by kernel_rfl
theorem laidOut:laidOutB Tryz.prog=true:=by kernel_rfl
set_option maxRecDepth 100000 in
theorem lifted (os:Os) (started:os.Started) (H:Type) (enc:TypeId×Value->H):
  ReturnsInHanded {} Tryz.checked os 4 .any (Rows.triggerGrantsSpec.pre6 enc Tryz.prog Tryz.f4 Rows.triggerGrantsRow.domain false) (Rows.triggerGrantsSpec.post enc Tryz.prog Tryz.f4 false true false false):=by
 refine returnsInHanded_of_change (C:=Tryz.checked) own started (by kernel_rfl) Tryz.func4
  (ChangeSpec.witness6 (enc:=enc) (C:=Tryz.checked) false ⟨#[], #[.slice none 0 0,.int .i64 0],[]⟩ 8 (by kernel_rfl) (by kernel_rfl) (by kernel_rfl) (by kernel_rfl)) ?_
 intro W base args ds gs before AZ5 hW A1O _
 have hT:AMQ A8 W:=AMQ.nil W
 have AJY:∀ (j:Nat) t v,Tryz.f4.params[j]? =some t->args[j]? =some v->Value.okWide Tryz.prog W .any base t v:=AZ5
 have hW' :=hW
 obtain⟨p,q,hA0,hV,rfl,hfz,H8⟩:=hW
 have hA:DataW.TrodAll enc Tryz.prog W 0 (fun _=>true) true Tryz.f4.params.toList args.toList ds p:=hA0
 rw[Tryz.params4] at hA AJY
 obtain⟨v0,vs0,d0,ds0,p0,q0,MZ,rfl,rfl,h0,r0⟩:=trodAll_cons hA
 obtain⟨v1,vs1,d1,ds1,p1,q1,rfl,rfl,rfl,h1,r1⟩:=trodAll_cons r0
 obtain⟨rfl,rfl,rfl⟩:=trodAll_nil r1
 obtain rfl:args= #[v0,v1]:=by cases args;simp_all
 obtain⟨rfl,rfl⟩:=trodVars_none hV
 have k0:=h0
 have lt0:∀ x∈p0,x.block<W.heap.size:=by obtain⟨m,hm⟩:=k0;exact DataW.trod_lt m _ _ _ hm
 obtain⟨y0,R0,w0⟩:=AMS 40 (.slice (.int .i64)) (by kernel_rfl) (AJY 0 30 v0 rfl rfl) k0
 have k1:=h1
 have lt1:∀ x∈p1,x.block<W.heap.size:=by obtain⟨m,hm⟩:=k1;exact DataW.trod_lt m _ _ _ hm
 obtain⟨y1,R1,w1⟩:=AMS 40 (.int .i64) (by kernel_rfl) (AJY 1 3 v1 rfl rfl) k1
 have A2:=AFP.nil W
 obtain⟨m1,A1⟩:=A2.cons (t:=(.int .i64)) (.inr ⟨rfl,w4 (t:=3) rfl (AJY 1 3 v1 rfl rfl)⟩) y1 R1
 obtain⟨m0,A0⟩:=A1.cons (t:=(.slice (.int .i64))) (.inr ⟨rfl,w4 (t:=30) rfl (AJY 0 30 v0 rfl rfl)⟩) y0 R0
 refine (AMR (fi:=J3) RF hT (r:=(true:Bool)) (vals:= #[v0,v1]) (w:=W) A0 (l4 y0 w0 y1 (AJW w1)) (fun _=>rfl)).mono fun e W' ⟨he,bel⟩=> ?_
 subst he
 simp only[G5] at hW'
 exact⟨_,rfl,_,_,_,[],_,[],hW',trodAll_mk1 (shut_bool Tryz.underlying4 _),(trodAll_cons_mk (Below.trod laidOut (by kernel_rfl) (gN (by kernel_rfl)) k0 bel lt0) (trodAll_cons_mk (Below.trod laidOut (by kernel_rfl) (gN (by kernel_rfl)) k1 bel lt1) trodAll_mk0)),rfl,bel.frame _,fun h=>by cases h⟩
theorem proved:Rows.TriggerGrantsSaid:=
 OpenClaim.holds_of_wide 4 Tryz.f4 rfl rfl rfl rfl rfl rfl rfl ⟨rfl,rfl,rfl,rfl,rfl⟩ rfl rfl rfl rfl rfl (by kernel_rfl) Tryz.func4 (by kernel_rfl)
  (gN (by kernel_rfl)) (by unfold Func.isWrapper;first|(rw[AA (by decide+kernel)];kernel_rfl)|(rw[AB (by decide+kernel)];exact⟨rfl,rfl⟩))
  (fun os started H enc _=>lifted os started H enc)
end triggerGrants
end Go.Proofs.YthmiilamegpllaaGreat
