/- A law of the statements is proved here, without any condition. -/
import Derived.Test.YtjbojdpdkikioaaGreatDoorHeaZ
import Derived.Test.YtjbojdpdkikioaaGreatDoorRows
import Derived.Test.YtjbojdpdkikioaaGreatDoorTie
import Derived.Test.YtjbojdpdkikioaaGreatDoorCards
import Derived.SevenTiedAt
set_option linter.unusedVariables false
set_option linter.unusedSimpArgs false
namespace Go.Proofs.YtjbojdpdkikioaaGreatDoor
open Go Go.V3
theorem A2L {s:Sp} {n m:Int} (h:m≠n) (m0:0<=m):Sm s (gv s n) m:=⟨rfl,ABM s n,ABL s n,fun x x0 x1 hh=>by
 rw[AF0 x0 x1] at hh ⊢
 by_cases c:(fr s.2.2 x).1=n
 ·rw[AB c] at hh
  rcases hh with hh|hh
  ·exact absurd (hh.symm.trans c) h
  ·simp only at hh;omega
 ·rw[AD c]⟩
theorem BV.A2M {s:Sp} {q:Rows} (h:BV s q) {i:AH} (hi:i∈q.flatten):BV (gv s i.1) (aT q [i.1]):=by
 have hf:=(h.ok.fit i hi).1.1
 have i0:0<=i.1:=by omega
 refine⟨h.vs.A1T i0,by rw[JF];exact h.n,EH.2 ⟨(EH.1 h.ok).1.aT _,fun x hx=> ?_⟩,fun x x0 x1 CO=> ?_⟩
 ·obtain⟨h1,h2⟩:=LI.1 hx
  have x5:=(h.ok.fit x h1).1.1
  exact (A2L (by simpa using h2) (by omega)).fit h.vs (h.ok.fit x h1).1
 ·rw[ABL] at x1
  rw[AF0 x0 x1] at CO ⊢
  by_cases c:(fr s.2.2 x).1=i.1
  ·rw[AB c] at CO;exact absurd rfl CO
  ·rw[AD c] at CO ⊢
   obtain⟨y,hy,he⟩:=C6.1 (h.cov x x0 x1 CO)
   exact C6.2 ⟨y,LI.2 ⟨hy,by rw[he];simpa using c⟩,he⟩
theorem ASR {s:Sp} (i:AH):∃ b:Bool,(b=true↔VS s/\EA s i)/\F6 s i=if b=true then (if i.2.2.2.2=0 then some ((0,[],[]),5) else some ((AF3 s i.1).1,(AF3 s i.1).2.2)) else some ((0,[],[]),1):=by
 obtain⟨b,h1,h2⟩:=ABP s i
 refine⟨b,h2, ?_⟩
 unfold F6
 rw[h1]
 simp only[BC]
 by_cases hb:b=true
 ·obtain⟨hv,hf⟩:=h2.1 hb
  rw[AD (by simp [hb]),AB hb]
  by_cases hw:i.2.2.2.2=0
  ·rw[AB hw,AB hw]
  ·rw[AD hw,AD hw,AQX hv hf.1.1 hf.1.2.1]
   rfl
 ·rw[AB (by simpa using hb),AD hb]
theorem ASS {s:Sp} {q:Rows} (h:BV s q) {i:AH} (hi:i∈q.flatten):F6 s i=some (gv s i.1,0):=by
 obtain⟨hf,hw⟩:=h.ok.fit i hi
 obtain⟨b,b1,b2⟩:=ASR (s:=s) i
 rw[b2,AB (b1.2 ⟨h.vs,hf⟩),AD (by omega)]
 have CO:¬wZ s.2.2 i.1 s.2.2.length=0:=by
  rw[AI0]
  show ¬((owned s.2.2 i.1).length:Int)=0
  rcases hf.2 with ⟨g1,_⟩|⟨_,_,_,_,m,_,m2,m3,_⟩
  ·omega
  ·have:=ABN (CF s.1) (show 0<i.2.2.2.2 by omega)
   omega
 unfold AF3
 rw[AD CO]
theorem AG9 {z B:Int}:∀ (l:List AH) (f n:Int),∃ t,t<=l.length/\m_ z B f n l=l.take t
 | [],f,n=>⟨0,by simp,by simp [m_]⟩
 |a::r,f,n=>by
  rw[m_]
  split
  ·exact⟨0,by simp,by simp⟩
  ·obtain⟨t,h1,h2⟩:=AG9 (z:=z) (B:=B) r (f-cl z a.2.2.2.2) (n+1)
   exact⟨t+1,by simp only[NZ];omega,by rw[h2,AOB]⟩
theorem AVO {z B f:Int} {l:List AH} (hl:l≠[]) (h:m_ z B f 0 l=[]):f<cl z (gl ((0,0,0,0,0):AH) l 0).2.2.2.2:=by
 cases l with
 |nil=>exact absurd rfl hl
 |cons a r=>
  rw[m_] at h
  split at h
  ·rename_i hc
   show f<cl z a.2.2.2.2
   rcases hc with hc|hc
   ·omega
   ·exact absurd hc.2.symm hc.1
  ·cases h
theorem AVP {q:Rows} {k:Nat} (hk:k<q.length) (h:∀ b,b<k->gl [] q b=[]):q.flatten=gl [] q k++(q.drop (k+1)).flatten:=by
 have e:(q.take k).flatten=[]:=by
  refine List.flatten_eq_nil_iff.2 fun x hx=> ?_
  obtain⟨n,hn,rfl⟩:=fJ hx
  rw[sJ] at hn
  have:=h n (by omega)
  rw[CK (by omega)] at this
  rw[sQ];exact this
 rw[GZ q k hk,e,nI]
theorem visit {c:Cf} {s:Sp} {q:Rows} (h:BV s q) {k:Cu} (cv:CuV q k):
  ∃ J:Cu,CuV q J/\((q.flatten=[]/\vQ c s q k=([],J,true,0))\/∃ t,t<=q.flatten.length/\q.flatten≠[]/\vQ c s q k=(q.flatten.take t,J,false,0)/\(t=0->((DH s.2.2).length:Int)<cl (sz s.1) (gl ((0,0,0,0,0):AH) q.flatten 0).2.2.2.2)):=by
 have hn:=h.nq
 have hq1:=hn.n
 have k0:=cv.k0
 have k1:=cv.k1
 obtain⟨c1,c2,c3⟩:=CuV.aU hn.pw (q.length-1-k.1.toNat) k cv (by omega)
 refine⟨_,c1, ?_⟩
 unfold vQ VY
 rw[c3]
 generalize aU q (q.length-1-k.1.toNat) k=J at c1 c2 c3
 have j0:=c1.k0
 have j1:=c1.k1
 have kN:=AVP (q:=q) (k:=J.1.toNat) (by omega) (fun b hb=>c1.lo b (by omega))
 by_cases hr:gl [] q J.1.toNat=[]
 ·have hj:=c2 hr
  rw[AB hr]
  refine .inl ⟨?_,rfl⟩
  rw[kN,hr,AO4 (by omega)];rfl
 ·rw[AD hr]
  right
  have wD:=fK.2 hr
  obtain⟨t,t1,t2⟩:=AG9 (z:=sz s.1) (B:=(ru c J.1).2.2.1) (gl [] q J.1.toNat) ((DH s.2.2).length:Int) 0
  have ARU :q.flatten.length=(gl ([]:List AH) q J.1.toNat).length+(q.drop (J.1.toNat+1)).flatten.length:=by rw[kN,JG]
  refine⟨t,by omega,fun hh=>by rw[hh] at ARU;simp at ARU;omega, ?_,fun ht=> ?_⟩
  ·rw[t2,kN,List.take_append_of_le_length t1]
  ·subst ht
   rw[ACW] at t2
   have:=AVO hr t2
   rw[kN]
   have e:gl ((0,0,0,0,0):AH) (gl [] q J.1.toNat++(q.drop (J.1.toNat+1)).flatten) 0=gl ((0,0,0,0,0):AH) (gl [] q J.1.toNat) 0:=by
    rw[CK (by rw[JG];omega),CK wD,List.getElem_append_left wD]
   rw[e];exact this
theorem AVQ {α:Type} {x y:AH} {A B:α} (h:x=y):(if (!(WI [decide (x.1=y.1),decide (x.2.1=y.2.1),decide (x.2.2.1=y.2.2.1),decide (x.2.2.2.1=y.2.2.2.1),decide (x.2.2.2.2=y.2.2.2.2)]))=true then A else B)=B:=by
 subst h
 rw[AD (by rw[AG8 (HF rfl) (HF rfl) (HF rfl) (HF rfl) (HF rfl)];decide)]
theorem nE (y0:List Int) (w0:Wf AEM y0):HL y0=some true:=by
 unfold HL
 obtain⟨d,e1,hd⟩:=AKK y0 w0.1
 obtain⟨c,h,g,d',e2,hp,_⟩:=ALA hd
 obtain⟨v,_,hc,_,_,hfn⟩:=hp.ok
 rw[e1,BC,e2,BC]
 simp only
 have gc:Good h.1:=v.g
 have hg:=gc.n
 obtain⟨l1,l2,l3⟩:=v.hi.hb.lens
 have hql:=v.ql
 have hbv:=v.hi.hb.bv
 rw[vN (by omega) (by omega),BC]
 generalize SZ:h.2.2.1.flatten=all at l2
 refine AFE (AN (fun n (st:Rows×Int×Int×Sp×Cu)=>st.2.2.1=(n:Int)/\BV st.2.2.2.1 st.1/\CuV st.1 st.2.2.2.2/\st.1.length=h.2.2.1.length/\∃ at' :Nat,st.2.1=(at' :Int)/\n<=at' /\at' <=all.length/\st.1.flatten=all.drop at') (fun b=>b=true) (all.length+1) ?_ ?_ (s:=(h.2.2.1,0,0,h.2.1,(0,false,0))) ⟨rfl,hbv,⟨by simp,by have:=hbv.n;simp only;omega,fun b hb=>by simp only at hb;omega,fun hb=>by cases hb⟩,rfl,0,rfl,by omega,by omega,by simpa using SZ⟩)
 ·rintro n ⟨q,at0,n0,s,k⟩ hn ⟨hn0,hb,cv,hlen,at',hat,hna,A51,kN⟩
  simp only at hn0 hb cv hlen hat kN
  subst hn0 hat
  simp only
  have A2N:q.flatten.length=all.length-at' :=by rw[kN,xQ]
  rw[AB (by omega),ASP gc hb (by omega) cv.k0 cv.k1,BC]
  obtain⟨J,cJ,⟨hq,hR⟩|⟨t,t1,hq,hR,ht⟩⟩:=visit (c:=h.1) hb cv
  ·rw[hR]
   rw[hq] at A2N
   simp only[VN] at A2N
   rw[AD (IN rfl),AB (show (([],J,true,0):List AH×Cu×Bool×Int).2.2.1=true from rfl),AB (by omega),VD]
   exact .inr ⟨_,rfl,rfl⟩
  ·rw[hR]
   have A2O:=fK.2 hq
   rw[AD (IN rfl),AD (show ¬((q.flatten.take t,J,false,0):List AH×Cu×Bool×Int).2.2.1=true by simp)]
   simp only
   have hg0:∀ i:Nat,i<q.flatten.length->gl ((0,0,0,0,0):AH) all (at' +i)=gl ((0,0,0,0,0):AH) q.flatten i:=by
    intro i hi
    rw[CK hi,CK (by omega)]
    simp only[kN,List.getElem_drop]
   have htl:(q.flatten.take t).length=t:=by rw[sJ];omega
   by_cases t0:t=0
   ·rw[AB (by rw[htl,t0];rfl),AB (by omega),AB (by omega)]
    have hm:=hb.nq.w _ (BS (d:=((0,0,0,0,0):AH)) A2O)
    have hgx:gl ((0,0,0,0,0):AH) all ((at' :Nat):Int).toNat=gl ((0,0,0,0,0):AH) q.flatten 0:=by rw[H6];exact hg0 0 A2O
    have:=ht t0
    rw[hgx,show ∀ x:AH,(x.1,x.2.1,x.2.2.1,x.2.2.2)=x from fun x=>rfl,OO hb.vs hm.1 hm.2,BC,mK hb.vs.n.2,BC,AB (by omega),VD]
    exact .inr ⟨_,rfl,rfl⟩
   ·rw[AD (by omega)]
    left
    have hx6:∀ q' :Rows,∀ s' :Sp,BV s' q' ->∀ x∈q',x.length<=1000000:=fun q' s' SQ =>SQ.nq.x
    have inner:=AN (β:=(Rows×Int×Int×Sp×Cu) ⊕ Bool) (fun i (st:Rows×Int×Int×Sp)=>st.2.2.1=(i:Int)/\st.2.1=((at' +i:Nat):Int)/\BV st.2.2.2 st.1/\CuV st.1 J/\st.1.length=h.2.2.1.length/\st.1.flatten=q.flatten.drop i)
     (fun b=>∃ q' s',b=Sum.inl (q',((at' +t:Nat):Int),AG ((n:Int)+1),s',J)/\BV s' q' /\CuV q' J/\q'.length=h.2.2.1.length/\q'.flatten=q.flatten.drop t) t (s:=(q,((at' :Nat):Int),0,s)) (f:=fun s2=>
      if s2.2.2.1<((q.flatten.take t).length:Int) then
      if 0<=s2.2.2.1/\s2.2.2.1<((q.flatten.take t).length:Int) then
      if s2.2.1≥(all.length:Int) then
      some (Sum.inr (Sum.inr (false)))
      else if 0<=s2.2.1/\s2.2.1<(all.length:Int) then
      if (!(WI [decide (((gl ((0,0,0,0,0):AH) (q.flatten.take t) s2.2.2.1.toNat).1)=((gl ((0,0,0,0,0):AH) all s2.2.1.toNat).1)),decide (((gl ((0,0,0,0,0):AH) (q.flatten.take t) s2.2.2.1.toNat).2.1)=((gl ((0,0,0,0,0):AH) all s2.2.1.toNat).2.1)),decide (((gl ((0,0,0,0,0):AH) (q.flatten.take t) s2.2.2.1.toNat).2.2.1)=((gl ((0,0,0,0,0):AH) all s2.2.1.toNat).2.2.1)),decide (((gl ((0,0,0,0,0):AH) (q.flatten.take t) s2.2.2.1.toNat).2.2.2.1)=((gl ((0,0,0,0,0):AH) all s2.2.1.toNat).2.2.2.1)),decide (((gl ((0,0,0,0,0):AH) (q.flatten.take t) s2.2.2.1.toNat).2.2.2.2)=((gl ((0,0,0,0,0):AH) all s2.2.1.toNat).2.2.2.2))]))=true then
      some (Sum.inr (Sum.inr (false)))
      else Option.bind (C1 s2.1 ((gl ((0,0,0,0,0):AH) (q.flatten.take t) s2.2.2.1.toNat).1)) (fun r9=>
      Option.bind (F6 s2.2.2.2 (gl ((0,0,0,0,0):AH) (q.flatten.take t) s2.2.2.1.toNat)) (fun JQ=>
      some (Sum.inl ((r9.1,AG (s2.2.1+1),AG (s2.2.2.1+1),JQ.1)))))
      else none
      else none
      else some (Sum.inr (Sum.inl ((s2.1,s2.2.1,AG ((n:Int)+1),s2.2.2.2,J))))) ?_ ?_ ⟨rfl,rfl,hb,cJ,hlen,by simp⟩
    ·obtain⟨b,i1,q',s',rfl,i2,i3,i4,i5⟩:=inner
     refine⟨_,i1, ?_⟩
     simp only
     rw[AE (e:=(n:Int)+1) (by omega) (by omega)]
     refine⟨by omega,i2,i3,i4,at' +t,rfl,by omega,by omega, ?_⟩
     rw[i5,kN,ACV]
    ·rintro i ⟨q',a',i',s'⟩ hi ⟨h1,h2,h3,h4,h5,h6⟩
     simp only at h1 h2 h3 h4 h5 h6
     subst h1 h2
     left
     dsimp only
     have hgx:gl ((0,0,0,0,0):AH) (q.flatten.take t) (i:Int).toNat=gl ((0,0,0,0,0):AH) q.flatten i:=by
      rw[H6,CK (by omega),CK (by omega),sQ]
     have hE:gl ((0,0,0,0,0):AH) (q.flatten.take t) (i:Int).toNat=gl ((0,0,0,0,0):AH) all ((at' +i:Nat):Int).toNat:=by
      rw[hgx,H6,hg0 i (by omega)]
     rw[htl,AB (by omega),AB (by omega),AD (by omega),AB (by omega),AVQ hE,hgx]
     generalize hx:gl ((0,0,0,0,0):AH) q.flatten i=x
     have XD:q'.flatten=x::q.flatten.drop (i+1):=by
      rw[h6,AA4 (show i<q.flatten.length by omega),←hx,CK (by omega)]
     have hxm:x∈q'.flatten:=by rw[XD];exact oY
     have H9:=h3.ok.nodup
     rw[z5 (by have:=h3.n;omega) (hx6 q' s' h3) H9 hxm,BC,ASS h3 hxm,BC,AE (e:=((at' +i:Nat):Int)+1) (by omega) (by omega),AE (e:=(i:Int)+1) (by omega) (by omega)]
     refine⟨_,rfl,by simp only;omega,by simp only;omega,h3.A2M hxm,h4.aT _,by simp only;rw[JF];exact h5, ?_⟩
     simp only
     rw[X3]
     rw[XD] at H9 ⊢
     rw[kR,AD (by simp),AAA.2]
     intro y hy
     simp only[GO,IW]
     intro he
     rw[KU,UM] at H9
     exact H9.1 (by rw[<-he];exact C6.2 ⟨y,hy,rfl⟩)
    ·rintro⟨q',a',i',s'⟩ ⟨h1,h2,h3,h4,h5,h6⟩
     simp only at h1 h2 h3 h4 h5 h6
     subst h1 h2
     simp only
     rw[htl,AD (by omega)]
     exact⟨_,rfl,_,_,rfl,h3,h4,h5,h6⟩
 ·rintro⟨q,at0,n0,s,k⟩ ⟨hn0,hb,cv,hlen,at',hat,hna,A51,kN⟩
  omega
namespace condemnVisits
open Go.ChangeShapes Go.WideShapes Go.ChangeAt Go.RowKit Go.V3
theorem own:ownKnob Tryz.prog.godebug=none:=by kernel_rfl
theorem laidOut:laidOutB Tryz.prog=true:=by kernel_rfl
theorem door_met (os : Os) (args : Array Value) : laidMetH Tryz.prog [("math/bits.deBruijn64tab", Rows.laid_math_bits_deBruijn64tab)] ((World.doorLaid Tryz.prog 4000 os).forCall (fun _ _ => 0) ⟨#[], args, []⟩).memory :=
 laidMetH_of_parts3 (fuel:=8) (laidMet_of_run' 8 (by kernel_rfl) (by kernel_rfl)) (by kernel_rfl) (by kernel_rfl)
set_option maxRecDepth 100000 in
theorem lifted (os:Os) (started:os.Started) (H:Type) (enc:TypeId×Value->H):
  ReturnsInHanded {} Tryz.checked os 4 .any (fun w args => (Rows.condemnVisitsSpec.pre enc Tryz.prog Tryz.f4 [] false w args ∧ laidMetH Tryz.prog [("math/bits.deBruijn64tab", Rows.laid_math_bits_deBruijn64tab)] w) ∧ sizedMet enc Tryz.prog Tryz.f4 (OpenSpec.ofChange Rows.condemnVisitsSpec) false w args) (Rows.condemnVisitsSpec.post enc Tryz.prog Tryz.f4 false true false false) := by
 refine returnsInHanded_of_change_and (C := Tryz.checked) (X := fun w _ => laidMetH Tryz.prog [("math/bits.deBruijn64tab", Rows.laid_math_bits_deBruijn64tab)] w) (fun _ _ _ hh h => h.of_heap hh) own started (by kernel_rfl) Tryz.func4
  (ChangeSpec.witness_shaped (enc := enc) (C := Tryz.checked) (os := os) (X := fun w _ => laidMetH Tryz.prog [("math/bits.deBruijn64tab", Rows.laid_math_bits_deBruijn64tab)] w) false (World.doorLaid Tryz.prog 4000 os) #[.slice none 0 0] 8 rfl (World.shaped_of_RefB (by kernel_rfl) (by kernel_rfl)) (by kernel_rfl) (by kernel_rfl) (by kernel_rfl) (door_met os _)) ?_
 intro W base args ds gs before ASQ hW _ _ hL _
 have hT:AY6 oB W:=by
  intro q hq
  simp only[oB,GD,kS,sX] at hq
  subst hq
  exact pV (t:=156) hL (by kernel_rfl) (e:=5) (k:= .u8) (len:=64) (by kernel_rfl) (by kernel_rfl) (by kernel_rfl) (by kernel_rfl) (by kernel_rfl) (by kernel_rfl) [0,1,56,2,57,49,28,3,61,58,42,50,38,29,17,4,62,47,59,36,45,43,51,22,53,39,33,30,24,18,12,5,63,55,48,27,60,41,37,16,46,35,44,21,52,32,23,11,54,26,40,15,34,20,31,10,25,14,19,9,13,8,7,6] rfl
 have PQ:∀ (j:Nat) t v,Tryz.f4.params[j]? =some t->args[j]? =some v->Value.okWide Tryz.prog W .any base t v:=ASQ
 have hW' :=hW
 obtain⟨p,q,hA0,hV,rfl,hfz,H9⟩:=hW
 have hA:DataW.TrodAll enc Tryz.prog W 0 (fun _=>true) true Tryz.f4.params.toList args.toList ds p:=hA0
 rw[Tryz.params4] at hA PQ
 obtain⟨v0,vs0,d0,ds0,p0,q0,MX,rfl,rfl,h0,r0⟩:=trodAll_cons hA
 obtain⟨rfl,rfl,rfl⟩:=trodAll_nil r0
 obtain rfl:args= #[v0]:=by cases args;simp_all
 obtain⟨rfl,rfl⟩:=trodVars_none hV
 have k0:=h0
 have lt0:∀ x∈p0,x.block<W.heap.size:=by obtain⟨m,hm⟩:=k0;exact DataW.trod_lt m _ _ _ hm
 obtain⟨y0,R0,w0⟩:=handed 40 AEM (by kernel_rfl) (PQ 0 30 v0 rfl rfl) k0
 have A1:=AEH.nil W
 obtain⟨m0,A0⟩:=A1.cons (t:=AEM) (.inr ⟨rfl,MN (t:=30) rfl (PQ 0 30 v0 rfl rfl)⟩) y0 R0
 refine (AEI (fi:=KN) SJ hT (r:=(true:Bool)) (vals:= #[v0]) (w:=W) A0 (nE y0 w0) (fun _=>rfl)).mono fun e W' ⟨he,bel⟩=> ?_
 subst he
 simp only[GG] at hW'
 exact⟨_,rfl,_,_,_,[],_,[],hW',trodAll_mk1 (shut_bool Tryz.underlying4 _),(trodAll_cons_mk (Below.trod laidOut (by kernel_rfl) (QX (by kernel_rfl)) k0 bel lt0) trodAll_mk0),rfl,bel.frame _,fun h=>by cases h⟩
theorem proved:Rows.CondemnVisitsSaid:=
 OpenClaim.holds_of_wide 4 Tryz.f4 rfl rfl rfl rfl rfl rfl rfl ⟨rfl,rfl,rfl,rfl,rfl⟩ rfl rfl rfl rfl rfl (by kernel_rfl) Tryz.func4 (by kernel_rfl)
  (QX (by kernel_rfl)) (by unfold Func.isWrapper;first|(rw[AB (by decide+kernel)];kernel_rfl)|(rw[AD (by decide+kernel)];exact⟨rfl,rfl⟩))
  (fun os started H enc _=>lifted os started H enc)
theorem card:Rows.CondemnVisitsCardSaid:=
 Claim7.holds_tied_plain_at .later [] [.data] true (true, "010398a2f16d75a372d4811b85ad0937b15cdcda2f1313ec995c763fd4b79aed") false proved (fun _ h => by cases h) (by kernel_rfl) (fun _ h => by cases h) condemnVisits_row_tie rfl ⟨rfl, rfl⟩ (by kernel_rfl) rfl
  (fun f fn hf hfn=>by
   obtain rfl : f = 4 := Option.some.inj ((show Tryz.prog.funcNamed "beltway/beltwaylaw21.CondemnVisits" = some 4 by kernel_rfl).symm.trans hf) |>.symm
   obtain rfl:fn=Tryz.f4:=(T6 (Tryz.func4.symm.trans hfn)).symm
   exact⟨by kernel_rfl,fun j t ht=>by
    rw[Tryz.params4] at ht
    have hm:t∈[30]:=by simpa using Array.mem_of_getElem? ht
    have SZ:([30].all fun u=> !Tryz.prog.wantsStandIn u)=true:=by kernel_rfl
    exact (show Tryz.prog.wantsStandIn t=false by simpa using JV.1 SZ t hm)⟩)
  (by kernel_rfl)
end condemnVisits
end Go.Proofs.YtjbojdpdkikioaaGreatDoor
