import Derived.Test.YtjbojdpdkikioaaGreatDoorSpE
set_option linter.unusedVariables false
set_option linter.unusedSimpArgs false
namespace Go.Proofs.YtjbojdpdkikioaaGreatDoor
open Go Go.V3
theorem CI.move {R:Int->Prop} {s0:Sp} {q:Rows} {l:List AH} {B8:AH} {l0:List Int} {EO:List (Int×Int)} (h:Cd s0 q l B8 l0 EO) {t:Sp} {to:AH} {lb:List Int} {m mv:List (Int×Int)} {d e:Nat} (c:CI R s0 q l B8 l0 EO t to lb m mv d e)
  {w:BitVec 64} (gw:Gw s0 l w) (hr:Wn (BY l) s0 w->R ((w.toNat:Int)-1)) {v:BitVec 64} {err:Int} {t' :Sp} {vT :AH} {mm:List (Int×Int)} (hm:MvR (BY l) t to w v err t' vT mm) (he:err=0):
  ∃ lb' m',CI R s0 q l B8 l0 EO t' vT lb' m' (mv++mm) d e/\Im s0 (BY l) (mv++mm) w v/\(∃ r,lb' =lb++r)/\∃ r,m' =m++r:=by
 have hz:sz t.1=sz s0.1:=by rw[c.sh]
 have n8:=VS.PN h.hb.bv.vs
 have z:=CF s0.1
 by_cases hw:Wn (BY l) t w
 rotate_left
 ·cases hm with
  |out _=>exact⟨lb,m,by rw[GG];exact c,.inl ⟨fun hh=>hw ((c.wn h w).2 hh),rfl⟩,⟨[],by rw[GG]⟩,[],by rw[GG]⟩
  |ARL h1|bad h1|ARM h1|full h1|zV h1=>exact absurd h1 hw
 have hw0:=(c.wn h w).1 hw
 obtain⟨i,hi,pa,x,la,oa,o⟩:=gw hw0
 have AZ5:=o.IA
 have hA:=h.WW hi o.has AZ5.2.2.1 o.JE
 generalize hAe:(w.toNat:Int)-1=A at*
 have AND:hwd t w=gl 0#64 t.2.1 A.toNat:=by rw[<-hAe]
 by_cases OE:A∈mv.map (·.1)
 ·
  obtain⟨xx,x5,hx2⟩:=C6.1 OE
  have h2:=c.wd2 xx x5
  rw[hx2] at h2
  obtain⟨k,hk,OW⟩:=GR (d:=((0,0):Int×Int)) x5
  obtain⟨i',la',oa',pa',p',cc⟩:=c.w_ k hk
  have hbr:=DL c.cy.vs c.cy.fit c.has cc.dst.IA.2.2.1 cc.dst.JE
  rw[OW] at hbr
  have X5:0<=xx.2/\xx.2<=16383:=by have:=c.wl;omega
  have hdc:=AV1 X5.1 X5.2
  cases hm with
  |out h1=>exact absurd hw h1
  |ARL h1 h3 h4=>
   refine⟨lb,m,by rw[GG];exact c,.inr ⟨hw0,xx.2, ?_, ?_⟩,⟨[],by rw[GG]⟩,[],by rw[GG]⟩
   ·rw[GG,hAe,←hx2];exact x5
   ·rw[AND,h2,hdc]
  |bad h1 h3=>rw[AND,h2,hdc] at h3;exact absurd rfl h3
  |ARM h1 hh=>rw[AND,h2,AI8 X5.1 X5.2] at hh;cases hh
  |full h1 hh=>rw[AND,h2,AI8 X5.1 X5.2] at hh;cases hh
  |zV h1 hh=>rw[AND,h2,AI8 X5.1 X5.2] at hh;cases hh
 have htA:gl 0#64 t.2.1 A.toNat=gl 0#64 s0.2.1 A.toNat:=c.wd1 A hA.1.1 hA.1.2 (by rw[hA.2.2.1];omega) (by rw[hA.2.2.1];exact hA.2.2.2.2.2) OE
 have hhd:hd (hwd t w)=some x:=by rw[AND,htA];exact AWP o
 cases hm with
 |out h1=>exact absurd hw h1
 |ARL h1 h3 h4=>rw[vH hhd] at h4;cases h4
 |bad h1 h3=>rw[vH hhd] at h3;exact absurd rfl h3
 |ARM=>cases he
 |full=>cases he
 | @zV _ r dd hh la2 hl e' ha u _ b l1 l' g=>
 rw[hhd] at hh
 obtain rfl:x=(r,dd):=T6 hh
 obtain⟨⟨⟨r0,r1⟩,d0,d1⟩,hsA,hp0,hpe⟩:=AZ5
 simp only at r0 r1 d0 d1 hpe hsA
 have hmw:=AFJ c.cy hw hhd hl ha g rfl
 obtain⟨cy', -,A4E,A23,ARU, -, -, -⟩:=MvR.cy c.cy (.zV hw hhd hl ha g)
 obtain rfl:=S5 g.has c.has
 rw[hAe] at hl ha hmw cy' A23 A4E ARU ⊢
 rw[hz] at hl ha hmw
 have hto:=c.cy.fit.1
 have hq:=hA.2.2.2.2.1
 have hAt:(fr t.2.2 (A / sz s0.1))=fr s0.2.2 (A / sz s0.1):=c.ZJ _ hA.2.1.1 hA.2.1.2 (by rw[hA.2.2.1];omega) (by rw[hA.2.2.1];exact hA.2.2.2.2.2)
 have ARV:∀ k,0<=k->DK (sz s0.1) la2 (A%sz s0.1+k)=DK (sz s0.1) la (pa+k):=by
  intro k k0
  rcases o.has with ⟨hw',_⟩|⟨hw',hpi⟩
  ·omega
  obtain⟨l2,q1,⟨q2,q2',A59⟩,q3⟩:=PL z hpi hp0 o.JE k0
  have:Pa t.2.2 (A / sz s0.1) l2:=by
   refine q1.kG c.fl fun y hy=> ?_
   obtain⟨y0,y1⟩:=q1.mem hy
   have ho:=(h.hb.bv.vs.owner q1 y hy).1
   rw[IC y0 (by rw[c.fl];exact y1),IC y0 y1,c.ZJ y y0 y1 (by rw[ho,hA.2.2.1];omega) (by rw[ho,hA.2.2.1];exact hA.2.2.2.2.2)]
  rw[hl.fn this];exact q3
 obtain⟨hm1,hm2,hm3,hm4⟩:=hmw
 generalize hws:(cpy (sz t.1) la2 (A%sz t.1) l' to.2.2.2.2 (1+r+dd).toNat t.2.1).set A.toNat (fwd b)=ws at*
 rw[hz] at hws
 rw[hws] at hm1 hm2 hm3
 have A24:=g.ARN hto.2.2.2.2.1 (by omega:(1:Int)<=1+r+dd)
 have hvu:VS (t.1,t.2.1,u.2.2):=by have:=g.vs;rw[<-g.sh,←g.ws];exact this
 have H9:=g.path.nodup
 have hpl:∀ p y,0<=p->DK (sz s0.1) l' p=some y->(0<=y/\y<s0.2.1.length)/\(fr u.2.2 (y / sz s0.1)).1=B8.1:=by
  intro p y p0 hy
  have:=QW hvu g.path p0 (by rw[hz];exact hy)
  simp only at this
  rw[c.wl,hz] at this
  exact⟨this.1,by rw[A24 _ this.2,c.seq]⟩
 have A4F:∀ y:Int,0<=y->y<s0.2.1.length->(fr s0.2.2 (y / sz s0.1)).1≠-1->(fr s0.2.2 (y / sz s0.1)).1≠B8.1->(fr u.2.2 (y / sz s0.1)).1≠B8.1:=by
  intro y y0 y1 h1 h2
  obtain⟨f0,f1⟩:=HD h.hb.bv.vs y0 y1
  have h3:=c.ZJ _ f0 f1 h1 h2
  rw[g.frs _ f0 (by rw[c.fl];exact f1) (by rw[h3];exact h1) (by rw[h3,c.seq];exact h2),h3]
  exact h2
 have AWR:∀ y:Int,0<=y->y<s0.2.1.length->(fr s0.2.2 (y / sz s0.1)).1≠-1->(fr s0.2.2 (y / sz s0.1)).1≠B8.1->∀ p,0<=p->DK (sz s0.1) l' p≠some y:=by
  intro y y0 y1 h1 h2 p p0 hy
  exact A4F y y0 y1 h1 h2 (hpl p y p0 hy).2
 have A4G:∀ p,0<=p->DK (sz s0.1) l' p≠some A:=AWR A hA.1.1 hA.1.2 (by rw[hA.2.2.1];omega) (by rw[hA.2.2.1];exact hA.2.2.2.2.2)
 have hold:∀ p y,0<=p->p<to.2.2.2.2->DK (sz s0.1) l1 p=some y->DK (sz s0.1) l' p=some y/\gl 0#64 ws y.toNat=gl 0#64 t.2.1 y.toNat:=by
  intro p y p0 p1 hy
  have yZ :DK (sz s0.1) l' p=some y:=by rw[g.more];exact C5 hy
  refine⟨yZ,hm1 y (hpl p y p0 yZ).1.1 (fun wA =>A4G p p0 (wA ▸ yZ)) fun i' i0 i1 KV => ?_⟩
  have:=KF z H9 p0 (by omega) yZ KV
  omega
 have CP:∀ y:Int,0<=y->y<s0.2.1.length->(fr s0.2.2 (y / sz s0.1)).1≠-1->(fr s0.2.2 (y / sz s0.1)).1≠B8.1->y≠A->gl 0#64 ws y.toNat=gl 0#64 t.2.1 y.toNat:=
  fun y y0 y1 h1 h2 h3=>hm1 y y0 h3 fun i' i0 i1=>AWR y y0 y1 h1 h2 _ (by omega)
 have A4H:vT.2.2.2.2≠0:=by rw[g.words];omega
 have ADW:Has (t.1,ws,u.2.2) vT l' := .inr ⟨A4H,g.path⟩
 have AFO:DK (sz s0.1) l' to.2.2.2.2=some b:=by rw[<-hz];exact g.JE
 have hbw:gl 0#64 ws b.toNat=XD r dd:=by
  have h1:=hm2 0 (by omega) (by omega) b A (by rw[ZC];exact AFO) (by rw[ARV 0 (by omega),ZC];exact o.JE)
  rw[h1,htA,hsA]
 have AFP:DV (sz s0.1) ws l' 0 (EO++m) to.2.2.2.2:=c.SO.CG fun p y p0 p1 hy=>hold p y p0 p1 hy
 have AC3:DV (sz s0.1) ws l' 0 (EO++(m++ [(r,dd)])) vT.2.2.2.2:=by
  rw[<-JH,g.words]
  exact AFP.snoc ⟨r0,r1⟩ ⟨d0,d1⟩ AFO hbw
 have LV:∀ {p a:Int} {x:Int×Int},OB t to l1 (EO++m) p a x->OB (t.1,ws,u.2.2) vT l' (EO++(m++ [(r,dd)])) p a x:=by
  intro p a x ob
  refine⟨ADW,by rw[show sz (t.1,ws,u.2.2).1=sz s0.1 from hz];exact AC3, ?_, ?_⟩
  ·rw[<-JH]
   exact (TA.snoc AFP).2 (.inl ob.ta)
  ·have:=ob.JE
   rw[hz] at this
   rw[show sz (t.1,ws,u.2.2).1=sz s0.1 from hz]
   exact (hold p a ob.IA.2.2.1 (by have:=ob.IA;omega) this).1
 have AWS:(mv++ [(A,b)]).length=mv.length+1:=by simp
 have AZE:∀ {k},k<mv.length->gl (0,0) (mv++ [(A,b)]) k=gl (0,0) mv k:=fun hk=>YJ hk
 have AZF:gl (0,0) (mv++ [(A,b)]) mv.length=(A,b):=by
  rw[CK (by simp),ALG (EL _)];simp
 have A4I:∀ {k},k<mv.length->gl (0,0) (m++ [(r,dd)]) k=gl (0,0) m k:=fun hk=>YJ (by rw[c.ml];exact hk)
 have A4J:gl (0,0) (m++ [(r,dd)]) mv.length=(r,dd):=by
  rw[CK (by rw[JG,c.ml];simp),ALG (by rw[c.ml];exact EL _)];simp [c.ml]
 have IP:∀ x∈mv,x∈mv++ [(A,b)]:=fun x hx=>xJ _ hx
 refine⟨l',m++ [(r,dd)], ?_,.inr ⟨hw0,b,by rw[hAe];simp,rfl⟩,⟨_,g.more⟩,_,rfl⟩
 refine { cy:=cy',sh:=c.sh,wl:=by rw[A23,c.wl],fl:=by rw[ARU,c.fl],seq:=by rw[g.seq,c.seq],iD:=by rw[g.iD,c.iD],wd:=by rw[g.words];have:=c.wd;omega,has:=ADW,SO:=AC3,pre:= ?_,fr1:= ?_,oA:= ?_,ZJ:= ?_,wd1:= ?_,wd2:= ?_,wd3:= ?_,ml:=by simp [c.ml],w_:= ?_,mvn:= ?_,mvb:= ?_,cov:= ?_,rch:= ?_,de:= ?_ }
 ·obtain⟨r',e_⟩:=c.pre
  exact⟨r' ++List.take (l'.length-l1.length) (DH t.2.2),by rw[<-JH,←e_];exact g.more⟩
 ·intro y y0 y1 CO
  simp only at CO ⊢
  have h1:=Grown.fr1 c.cy.vs g hto.1 y0 (by rw[c.fl];exact y1) (by rw[c.seq];exact CO)
  rw[h1] at CO ⊢
  exact c.fr1 y y0 y1 CO
 ·intro y y0 y1 hy
  have h1:=Grown.oA c.cy.vs c.cy.fit c.cy.own (by omega) g y0 (by rw[c.fl];exact y1) (by rw[c.oA y y0 y1 hy,c.seq])
  simp only
  rw[h1,c.seq]
 ·intro y y0 y1 h1 h2
  have h3:=c.ZJ y y0 y1 h1 h2
  simp only
  rw[g.frs y y0 (by rw[c.fl];exact y1) (by rw[h3];exact h1) (by rw[h3,c.seq];exact h2),h3]
 ·intro y y0 y1 h1 h2 h3
  rw[ZQ,EY] at h3
  simp only
  rw[CP y y0 y1 h1 h2 (fun wA =>h3 (.inr (by rw[wA];simp)))]
  exact c.wd1 y y0 y1 h1 h2 fun h4=>h3 (.inl h4)
 ·intro xx hx
  rcases EY.1 hx with hx|hx
  ·have h1:=c.wd2 xx hx
   simp only
   obtain⟨k,hk,OW⟩:=GR (d:=((0,0):Int×Int)) hx
   obtain⟨i',la',oa',pa',p',cc⟩:=c.w_ k hk
   have h2:=h.WW cc.inl cc.src.has cc.src.IA.2.2.1 cc.src.JE
   rw[OW] at h2
   rw[CP xx.1 h2.1.1 h2.1.2 (by rw[h2.2.2.1];omega) (by rw[h2.2.2.1];exact h2.2.2.2.2.2) (fun wA =>OE (C6.2 ⟨xx,hx,wA⟩)),h1]
  ·rw[GO.1 hx]
   exact hm3
 ·intro p y p0 p1 hy
  have h1:=c.wd3 p y p0 p1 hy
  obtain⟨r',e_⟩:=c.pre
  have h2:DK (sz s0.1) l1 p=some y:=by rw[e_];exact C5 hy
  simp only
  rw[(hold p y p0 (by have:=c.wd;omega) h2).2,h1]
 ·intro k hk
  rw[AWS] at hk
  by_cases MU :k<mv.length
  ·obtain⟨i',la',oa',pa',p',cc⟩:=c.w_ k MU
   rw[A4I MU]
   refine⟨i',la',oa',pa',p',cc.inl,by rw[AZE MU];exact cc.src,by rw[AZE MU];exact LV cc.dst,cc.new,fun j j1 j2 ya yb zY hyb=> ?_⟩
   have A5A :=cc.dst.IA
   obtain⟨yb',AZG⟩:=cc.dst.fld c.cy.vs c.cy.fit (k:=j) (by omega) j2
   rw[hz] at AZG
   obtain⟨h1,h2⟩:=hold (p' +j) yb' (by omega) (by omega) AZG
   rw[hyb] at h1
   obtain rfl:=T6 h1
   obtain⟨h3,h4⟩:=cc.wds j j1 j2 ya yb zY AZG
   simp only
   rw[h2]
   exact⟨fun hh=>(h3 hh).mono IP,h4⟩
  ·obtain rfl:k=mv.length:=by omega
   rw[A4J]
   have A4K:OB (t.1,ws,u.2.2) vT l' (EO++(m++ [(r,dd)])) to.2.2.2.2 b (r,dd):=by
    refine⟨ADW,by rw[show sz (t.1,ws,u.2.2).1=sz s0.1 from hz];exact AC3, ?_,by rw[show sz (t.1,ws,u.2.2).1=sz s0.1 from hz];exact AFO⟩
    rw[<-JH]
    exact (TA.snoc AFP).2 (.inr ⟨rfl,rfl⟩)
   refine⟨i,la,oa,pa,to.2.2.2.2,hi,by rw[AZF];exact o,by rw[AZF];exact A4K,c.wd,fun j j1 j2 ya yb zY hyb=>⟨fun hh=> ?_,fun _=> ?_⟩⟩
   ·exfalso
    obtain⟨hd1,hd2⟩:=c.de
    rcases hh.2 with h1|⟨h1,h2⟩
    ·omega
    ·have:=hd2 h1.symm;omega
   ·simp only at j2 ⊢
    rw[hm2 j (by omega) (by omega) yb ya hyb (by rw[ARV j (by omega)];exact zY)]
    exact c.fld h hi o j1 j2 zY
 ·rw[ZQ,QA]
  refine⟨c.mvn,by simp,fun y hy y' yZ wA => ?_⟩
  rw[KU,pA,GO] at yZ
  subst wA;rw[yZ] at hy;exact OE hy
 ·rw[ZQ,QA]
  refine⟨c.mvb,by simp,fun y hy y' yZ wA => ?_⟩
  rw[KU,pA,GO] at yZ
  subst wA
  obtain⟨xx,x5,hx2⟩:=C6.1 hy
  obtain⟨k,hk,OW⟩:=GR (d:=((0,0):Int×Int)) x5
  obtain⟨i',la',oa',pa',p',cc⟩:=c.w_ k hk
  have h1:=cc.dst.JE
  have h2:=cc.dst.IA
  rw[OW,hz] at h1
  have h3:=(hold p' xx.2 h2.2.2.1 (by omega) h1).1
  rw[hx2,yZ] at h3
  have:=KF z H9 h2.2.2.1 hto.2.2.2.2.1 h3 AFO
  omega
 ·intro p y hp
  rw[<-JH] at hp
  rcases (TA.snoc AFP).1 hp with hp|⟨rfl,rfl⟩
  ·rcases c.cov p y hp with h1|⟨h1,k,hk,h2⟩
   ·exact .inl h1
   ·have h3:=AFP.ta hp
    have h4:=(c.SO.ta hp)
    refine .inr ⟨h1,k,by omega, ?_⟩
    rw[AZE hk]
    exact (hold p _ h4.2.2.1 (by omega) h2).1
  ·exact .inr ⟨c.wd,mv.length,by omega,by rw[AZF];exact AFO⟩
 ·intro xx hx
  rcases EY.1 hx with hx|hx
  ·exact c.rch xx hx
  ·rw[GO.1 hx];exact hr hw0
 ·have:=c.de
  rw[AWS]
  exact⟨by omega,fun h1=>by omega⟩
theorem DV.zZ {z:Int} {ws ws' :List (BitVec 64)} {l l' :List Int}:∀ {os:List (Int×Int)} {at' w:Int},DV z ws l at' os w->(∀ p x a,TA at' os p x->DK z l p=some a->DK z l' p=some a/\gl 0#64 ws' a.toNat=gl 0#64 ws a.toNat)->DV z ws' l' at' os w
 | [],at',w,h,_=>h
 |o::r,at',w,h,hk=>by
  obtain⟨h1,⟨a,h2,h3⟩,h4⟩:=h
  obtain⟨k1,k2⟩:=hk at' o a (.inl ⟨rfl,rfl⟩) h2
  exact⟨h1,⟨a,k1,by rw[k2];exact h3⟩,h4.zZ fun p x a hp ha=>hk p x a (.inr hp) ha⟩
theorem ARW {α:Type} {d:α} {f:α->Int} {l:List α} (h:(l.map f).Nodup) {j k:Nat} (hj:j<l.length) (hk:k<l.length) (he:f (gl d l j)=f (gl d l k)):j=k:=by
 have h1:(l.map f)[j]'(by rw[QY];exact hj)=(l.map f)[k]'(by rw[QY];exact hk):=by
  rw[sI,sI,←CK (d:=d) hj,←CK (d:=d) hk];exact he
 exact (List.getElem_inj h).1 h1
theorem CI.write {R:Int->Prop} {s0:Sp} {q:Rows} {l:List AH} {B8:AH} {l0:List Int} {EO:List (Int×Int)} (h:Cd s0 q l B8 l0 EO) {t:Sp} {to:AH} {lb:List Int} {m mv:List (Int×Int)} {d e:Nat} (c:CI R s0 q l B8 l0 EO t to lb m mv d e)
  (hd:d<mv.length) {i:AH} {la:List Int} {oa:List (Int×Int)} {pa p:Int} (cc:Cop s0 (BY l) l B8 t to lb (EO++m) mv d e d i la oa pa p (gl (0,0) m d)) (hj:(e:Int)+1<=(gl (0,0) m d).1) {y ya:Int} (hy:DK (sz s0.1) lb (p+((e:Int)+1))=some y) (zY:DK (sz s0.1) la (pa+((e:Int)+1))=some ya)
  {v:BitVec 64} (hv:Im s0 (BY l) mv (gl 0#64 s0.2.1 ya.toNat) v):CI R s0 q l B8 l0 EO (t.1,t.2.1.set y.toNat v,t.2.2) to lb m mv d (e+1):=by
 have hz:sz t.1=sz s0.1:=by rw[c.sh]
 have z:=CF s0.1
 have hrd:=cc.dst.IA
 have DR:=cc.new
 have hp0:=hrd.2.2.1
 have hY:=DL c.cy.vs c.cy.fit c.has (p:=p+((e:Int)+1)) (by omega) (by rw[hz];exact hy)
 rw[hz] at hY
 have hto:=c.cy.fit.1
 have H9:=eG c.has
 have hg:∀ k:Int,0<=k->k≠y->gl 0#64 (t.2.1.set y.toNat v) k.toNat=gl 0#64 t.2.1 k.toNat:=fun k k0 kn=>AFI (by omega)
 have CO:∀ y1:Int,0<=y1->y1<s0.2.1.length->(fr s0.2.2 (y1 / sz s0.1)).1≠-1->(fr s0.2.2 (y1 / sz s0.1)).1≠B8.1->y1≠y:=by
  intro y1 a0 a1 h1 h2 he
  subst he
  obtain⟨f0,f1⟩:=HD h.hb.bv.vs a0 a1
  have h3:=c.ZJ _ f0 f1 h1 h2
  have h4:=hY.2.2.2.1
  rw[h3,c.seq] at h4
  exact h2 h4
 have ZT:∀ p1 y1,0<=p1->DK (sz s0.1) lb p1=some y1->p1≠p+((e:Int)+1)->0<=y1/\y1≠y:=by
  intro p1 y1 a0 h1 h2
  have h3:=DL c.cy.vs c.cy.fit c.has a0 (by rw[hz];exact h1)
  exact⟨h3.1.1,fun he=>h2 (KF z H9 a0 (by omega) (he ▸ h1) hy)⟩
 have AC3:DV (sz s0.1) (t.2.1.set y.toNat v) lb 0 (EO++m) to.2.2.2.2:=by
  refine c.SO.zZ fun p1 x1 a1 ht ha=>⟨ha, ?_⟩
  have h1:=c.SO.ta ht
  have rJ:p1≠p+((e:Int)+1):=by
   intro he
   rcases c.SO.apart ht cc.dst.ta with ⟨h2,_⟩|h2|h2 <;> omega
  obtain⟨g0,g1⟩:=ZT p1 a1 h1.2.2.1 ha rJ
  exact hg a1 g0 g1
 have ADW:Has (t.1,t.2.1.set y.toNat v,t.2.2) to lb:=c.has
 have LV:∀ {p a:Int} {x:Int×Int},OB t to lb (EO++m) p a x->OB (t.1,t.2.1.set y.toNat v,t.2.2) to lb (EO++m) p a x:=by
  intro p a x ob
  exact⟨ADW,by rw[show sz (t.1,t.2.1.set y.toNat v,t.2.2).1=sz s0.1 from hz];exact AC3,ob.ta,ob.JE⟩
 refine { cy:=⟨c.cy.vs.word hY.1.1 (by rw[hz,hY.2.2.2.1];omega) v,EA.words (by simp) c.cy.fit,c.cy.own,c.cy.out,c.cy.nn⟩,sh:=c.sh,wl:=by rw[<-c.wl];simp,fl:=c.fl,seq:=c.seq,iD:=c.iD,wd:=c.wd,has:=ADW,SO:=AC3,pre:=c.pre,fr1:=c.fr1,oA:=c.oA,ZJ:=c.ZJ,wd1:= ?_,wd2:= ?_,wd3:= ?_,ml:=c.ml,w_:= ?_,mvn:=c.mvn,mvb:=c.mvb,cov:=c.cov,rch:=c.rch,de:=⟨c.de.1,fun hh=>by omega⟩ }
 ·intro y1 a0 a1 h1 h2 h3
  simp only
  rw[hg y1 a0 (CO y1 a0 a1 h1 h2)]
  exact c.wd1 y1 a0 a1 h1 h2 h3
 ·intro xx hx
  obtain⟨k,hk,OW⟩:=GR (d:=((0,0):Int×Int)) hx
  obtain⟨i',la',oa',pa',p',c2⟩:=c.w_ k hk
  have h2:=h.WW c2.inl c2.src.has c2.src.IA.2.2.1 c2.src.JE
  rw[OW] at h2
  simp only
  rw[hg xx.1 h2.1.1 (CO xx.1 h2.1.1 h2.1.2 (by rw[h2.2.2.1];omega) (by rw[h2.2.2.1];exact h2.2.2.2.2.2))]
  exact c.wd2 xx hx
 ·intro p1 y1 a0 a1 hy1
  obtain⟨r',e_⟩:=c.pre
  have h2:DK (sz s0.1) lb p1=some y1:=by rw[e_];exact C5 hy1
  obtain⟨g0,g1⟩:=ZT p1 y1 a0 h2 (by omega)
  simp only
  rw[hg y1 g0 g1]
  exact c.wd3 p1 y1 a0 a1 hy1
 ·intro k hk
  by_cases hkd:k=d
  ·subst hkd
   refine⟨i,la,oa,pa,p,cc.inl,cc.src,LV cc.dst,cc.new,fun j j1 j2 za zb hza hzb=> ?_⟩
   obtain⟨h3,h4⟩:=cc.wds j j1 j2 za zb hza hzb
   simp only
   by_cases hje:j=(e:Int)+1
   ·subst hje
    rw[zY] at hza
    rw[hy] at hzb
    obtain rfl:=T6 hza
    obtain rfl:=T6 hzb
    have kO:=hY.1.2
    rw[D8 (by omega),AB rfl]
    exact⟨fun _=>hv,fun hh=>absurd ⟨hj,.inr ⟨rfl,by omega⟩⟩ hh⟩
   ·obtain⟨g0,g1⟩:=ZT (p+j) zb (by omega) hzb (by omega)
    rw[hg zb g0 g1]
    refine⟨fun hh=>h3 ⟨hh.1, ?_⟩,fun hh=>h4 fun h5=>hh ⟨h5.1, ?_⟩⟩
    ·rcases hh.2 with h6|⟨h6,h7⟩
     ·omega
     ·exact .inr ⟨rfl,by omega⟩
    ·rcases h5.2 with h6|⟨h6,h7⟩
     ·omega
     ·exact .inr ⟨rfl,by omega⟩
  ·obtain⟨i',la',oa',pa',p',c2⟩:=c.w_ k hk
   refine⟨i',la',oa',pa',p',c2.inl,c2.src,LV c2.dst,c2.new,fun j j1 j2 za zb hza hzb=> ?_⟩
   obtain⟨h3,h4⟩:=c2.wds j j1 j2 za zb hza hzb
   have h5:=c2.dst.IA
   have A4L :p' +j≠p+((e:Int)+1):=by
    intro he
    rcases c.SO.apart (by have:=c2.dst.ta;exact this) cc.dst.ta with ⟨h6,_⟩|h6|h6
    ·subst h6
     have h7:=c2.dst.JE
     have h8:=cc.dst.JE
     rw[h7] at h8
     exact hkd (ARW (d:=((0,0):Int×Int)) c.mvb hk hd (T6 h8))
    ·omega
    ·omega
   obtain⟨g0,g1⟩:=ZT (p' +j) zb (by omega) hzb A4L
   simp only
   rw[hg zb g0 g1]
   refine⟨fun hh=>h3 ⟨hh.1, ?_⟩,fun hh=>h4 fun h5=>hh ⟨h5.1, ?_⟩⟩
   ·rcases hh.2 with h6|⟨h6,h7⟩
    ·exact .inl h6
    ·exact absurd h6 hkd
   ·rcases h5.2 with h6|⟨h6,h7⟩
    ·exact .inl h6
    ·exact absurd h6 hkd
theorem CI.next {R:Int->Prop} {s0:Sp} {q:Rows} {l:List AH} {B8:AH} {l0:List Int} {EO:List (Int×Int)} {t:Sp} {to:AH} {lb:List Int} {m mv:List (Int×Int)} {d e:Nat} (c:CI R s0 q l B8 l0 EO t to lb m mv d e)
  (hd:d<mv.length) (he:(gl (0,0) m d).1<=(e:Int)):CI R s0 q l B8 l0 EO t to lb m mv (d+1) 0:=by
 refine { c with w_:=fun k hk=> ?_,de:=⟨hd,fun _=>rfl⟩ }
 obtain⟨i,la,oa,pa,p,cc⟩:=c.w_ k hk
 refine⟨i,la,oa,pa,p,cc.inl,cc.src,cc.dst,cc.new,fun j j1 j2 ya yb zY hyb=> ?_⟩
 obtain⟨h3,h4⟩:=cc.wds j j1 j2 ya yb zY hyb
 have A4M:(j<=(gl (0,0) m k).1/\scn (d+1) 0 k j)↔(j<=(gl (0,0) m k).1/\scn d e k j):=by
  unfold scn
  constructor
  ·rintro⟨a,b|⟨b,b'⟩⟩
   ·by_cases hkd:k=d
    ·subst hkd;exact⟨a,.inr ⟨rfl,by omega⟩⟩
    ·exact⟨a,.inl (by omega)⟩
   ·omega
  ·rintro⟨a,b|⟨b,_⟩⟩
   ·exact⟨a,.inl (by omega)⟩
   ·exact⟨a,.inl (by omega)⟩
 rw[A4M]
 exact⟨h3,h4⟩
abbrev RunT:Type:=AH×List (Int×Int)×List (BitVec 64)×Int×List (BitVec 64)×List Fr×List AH
def Er (s0:Sp) (w:Wk):Prop:=w.2.2.2.2≠0/\w.1.2.1.length=s0.2.1.length
def Grf (R:Int->Prop) (s0:Sp) (l:List AH):Prop:=∀ i∈l,∀ la oa pa a x,OB s0 i la oa pa a x->R a->∀ j ya,1<=j->j<=x.1->DK (sz s0.1) la (pa+j)=some ya->Gw s0 l (gl 0#64 s0.2.1 ya.toNat)/\(Wn (BY l) s0 (gl 0#64 s0.2.1 ya.toNat)->R (((gl 0#64 s0.2.1 ya.toNat).toNat:Int)-1))
theorem AC4 {α:Type} {d:α} {l l' r:List α} (h:l' =l++r) {k:Nat} (hk:k<l.length):gl d l' k=gl d l k:=by rw[h,YJ hk]
theorem CI.same {R:Int->Prop} {s0:Sp} {q:Rows} {l:List AH} {B8:AH} {l0:List Int} {EO:List (Int×Int)} {t:Sp} {to:AH} {lb:List Int} {m mv:List (Int×Int)} {d e:Nat} (c:CI R s0 q l B8 l0 EO t to lb m mv d e) {k:Nat} {i:AH} {la:List Int} {oa:List (Int×Int)} {pa p p' :Int} {x:Int×Int} (cc:Cop s0 (BY l) l B8 t to lb (EO++m) mv d e k i la oa pa p x) (p0:0<=p') (hp:DK (sz s0.1) lb p' =some (gl (0,0) mv k).2):p=p' :=by
 have h1:=cc.dst.JE
 rw[c.sh] at h1
 exact KF (CF s0.1) (eG c.has) cc.dst.IA.2.2.1 p0 h1 hp
theorem AZH {R:Int->Prop} {s0:Sp} {q:Rows} {l:List AH} {B8:AH} {l0:List Int} {EO:List (Int×Int)} (h:Cd s0 q l B8 l0 EO) (zO:l.length<=1000000) (grf:Grf R s0 l) {t:Sp} {to:AH} {lb:List Int} {m mv:List (Int×Int)} {d:Nat} (c:CI R s0 q l B8 l0 EO t to lb m mv d 0)
  (hd:d<mv.length) {S:List Int} (hS:CL (s0.1,t.2) (gl ((0,0):Int×Int) mv d).2=some (S,0)):
  ∃ b,AJ (σ:=Int×Wk) (β:=(Int×Wk) ⊕ RunT) (fun s3=>
   if s3.1<(S.length:Int) then
   if 0<=s3.1/\s3.1<(S.length:Int) then
   if 0<=(gl (0:Int) S s3.1.toNat)/\(gl (0:Int) S s3.1.toNat)<(s3.2.1.2.1.length:Int) then
   Option.bind (CB s3.2 (gl (0#64:(BitVec 64)) s3.2.1.2.1 ((gl (0:Int) S s3.1.toNat).toNat))) (fun r3=>
   if 0<=(gl (0:Int) S s3.1.toNat)/\(gl (0:Int) S s3.1.toNat)<(r3.2.1.2.1.length:Int) then
   some (Sum.inl ((AG (s3.1+1),((r3.2.1.1,r3.2.1.2.1.set ((gl (0:Int) S s3.1.toNat).toNat) r3.1,r3.2.1.2.2),r3.2.2))))
   else none)
   else none
   else none
   else some (Sum.inr (Sum.inl ((AG ((d:Int)+1),s3.2))))) ((0,(t,l,to,mv,0)))=some b∧
  ∃ w',b=Sum.inl ((d:Int)+1,w')/\(Er s0 w' \/∃ t1 to1 lb1 m1 mv1,w' =(t1,l,to1,mv1,0)/\CI R s0 q l B8 l0 EO t1 to1 lb1 m1 mv1 (d+1) 0/\∃ r,mv1=mv++r):=by
 have n8:=VS.PN h.hb.bv.vs
 have z:=CF s0.1
 obtain⟨i,la,oa,pa,p,cc⟩:=c.w_ d hd
 have hz:sz t.1=sz s0.1:=by rw[c.sh]
 have hts:((s0.1,t.2):Sp)=t:=by rw[<-c.sh]
 have hml:=c.ART h
 have hfs:=cc.dst.fields c.cy.vs c.cy.fit
 rw[hts,hfs] at hS
 obtain rfl:mU (sz t.1) lb p (gl (0,0) m d).1.toNat=S:=by simpa using hS
 rw[hz]
 have hlen:(mU (sz s0.1) lb p (gl (0,0) m d).1.toNat).length=(gl (0,0) m d).1.toNat:=NV _ _ _ _
 have hrd:=cc.dst.IA
 have hpb:DK (sz s0.1) lb p=some (gl (0,0) mv d).2:=by rw[<-hz];exact cc.dst.JE
 have y_:∀ j:Nat,j<(gl (0,0) m d).1.toNat->∃ y,DK (sz s0.1) lb (p+((j:Int)+1))=some y/\(0<=y/\y<s0.2.1.length)/\gl 0 (mU (sz s0.1) lb p (gl (0,0) m d).1.toNat) j=y:=by
  intro j hj
  obtain⟨y,hy⟩:=cc.dst.fld c.cy.vs c.cy.fit (k:=(j:Int)+1) (by omega) (by omega)
  have hr:=DL c.cy.vs c.cy.fit c.has (by omega) hy
  rw[c.wl] at hr
  rw[hz] at hy
  refine⟨y,hy,hr.1, ?_⟩
  rw[sA hj,show p+(1+(j:Int))=p+((j:Int)+1) from by omega,hy];rfl
 generalize hSS:mU (sz s0.1) lb p (gl (0,0) m d).1.toNat=S at*
 generalize hX:gl ((0,0):Int×Int) m d=X at*
 refine AN (fun j (st:Int×Wk)=>st.1=(j:Int)/\(Er s0 st.2\/∃ t1 to1 lb1 m1 mv1,st.2=(t1,l,to1,mv1,0)/\CI R s0 q l B8 l0 EO t1 to1 lb1 m1 mv1 d j/\(∃ r,lb1=lb++r)/\(∃ r,m1=m++r)/\∃ r,mv1=mv++r)) _ X.1.toNat ?_ ?_ ⟨rfl,.inr ⟨t,to,lb,m,mv,rfl,c,⟨[],by rw[GG]⟩,⟨[],by rw[GG]⟩,[],by rw[GG]⟩⟩
 ·rintro j ⟨jj,w⟩ hj ⟨hjj,hw⟩
  simp only at hjj hw
  subst hjj
  obtain⟨y,hy,⟨y0,y1⟩,hgl⟩:=y_ j hj
  left
  simp only[H6]
  rw[hgl,AB (by omega),AB (by omega),AE (e:=(j:Int)+1) (by omega) (by omega)]
  rcases hw with ⟨e1,e2⟩|⟨t1,to1,lb1,m1,mv1,rfl,c1,⟨r1,hr1⟩,⟨r2,rS⟩,r3,hr3⟩
  ·rw[AB (by omega),zW e1,BC]
   simp only
   rw[AB (by omega)]
   exact⟨_,rfl,rfl,.inl ⟨e1,by simpa using e2⟩⟩
  ·have hd1:d<mv1.length:=by rw[hr3,JG];omega
   have hgm:gl ((0,0):Int×Int) m1 d=X:=by rw[AC4 rS (by rw[c.ml];exact hd),hX]
   have hgv:gl ((0,0):Int×Int) mv1 d=gl (0,0) mv d:=AC4 hr3 hd
   obtain⟨i1,la1,oa1,pa1,p1,cc1⟩:=c1.w_ d hd1
   obtain rfl:p1=p:=c1.same cc1 hrd.2.2.1 (by rw[hgv,hr1];exact C5 hpb)
   rw[hgm] at cc1
   have hsr:=cc1.src.IA
   obtain⟨ya,zY⟩:=cc1.src.fld h.hb.bv.vs (h.hb.fit (h.sub _ cc1.inl)).1 (k:=(j:Int)+1) (by omega) (by omega)
   have hy1:DK (sz s0.1) lb1 (p1+((j:Int)+1))=some y:=by rw[hr1];exact C5 hy
   have hty:gl 0#64 t1.2.1 y.toNat=gl 0#64 s0.2.1 ya.toNat:=by
    refine (cc1.wds ((j:Int)+1) (by omega) (by omega) ya y zY hy1).2 fun hh=> ?_
    rcases hh.2 with h1|⟨_,h1⟩ <;> omega
   obtain⟨gw,gr⟩:=grf i1 cc1.inl la1 oa1 pa1 _ X cc1.src (c1.rch _ (BS hd1)) ((j:Int)+1) ya (by omega) (by omega) zY
   obtain⟨v,v',err,t2,to2,mm,hm,he,hv⟩:=AFK zO c1.cy (mv:=mv1) (by have:=c1.ART h;omega) (gl 0#64 t1.2.1 y.toNat)
   obtain⟨-, -, -,lF, -⟩:=MvR.cy c1.cy hm
   have hl1:=c1.wl
   rw[AB (by simp only;omega)]
   simp only
   rw[he,BC]
   simp only
   rw[AB (by omega)]
   refine⟨_,rfl,rfl, ?_⟩
   by_cases AC5:err=0
   rotate_left
   ·exact .inl ⟨AC5,by simp only[EP];omega⟩
   ·right
    rw[hty] at hm
    obtain⟨lb2,m2,c2,him,⟨r4,hr4⟩,r5,hr5⟩:=c1.move h gw gr hm AC5
    have hd2:d<(mv1++mm).length:=by rw[JG];omega
    have A25:gl ((0,0):Int×Int) m2 d=X:=by rw[AC4 hr5 (by rw[c1.ml];exact hd1),hgm]
    have AZI:gl ((0,0):Int×Int) (mv1++mm) d=gl (0,0) mv d:=by rw[YJ hd1,hgv]
    obtain⟨i2,la2,oa2,pa2,p2,cc2⟩:=c2.w_ d hd2
    obtain rfl:p2=p1:=c2.same cc2 hrd.2.2.1 (by rw[AZI,hr4,hr1];exact C5 (C5 hpb))
    have A4N:=cc2.src
    rw[A25] at A4N
    have hii:i2=i1:=by
     have a1:=h.WW cc1.inl cc1.src.has cc1.src.IA.2.2.1 cc1.src.JE
     have a2:=h.WW cc2.inl cc2.src.has cc2.src.IA.2.2.1 cc2.src.JE
     rw[hgv] at a1
     rw[AZI] at a2
     exact h.hb.uniq (h.sub _ cc2.inl) (h.sub _ cc1.inl) (by rw[<-a2.2.2.1,←a1.2.2.1])
    subst hii
    obtain rfl:=S5 cc1.src.has cc2.src.has
    have hpp:pa2=pa1:=by
     have a1:=cc1.src.JE
     have a2:=cc2.src.JE
     rw[hgv] at a1
     rw[AZI] at a2
     exact KF z (eG cc1.src.has) cc2.src.IA.2.2.1 cc1.src.IA.2.2.1 a2 a1
    subst hpp
    refine⟨_,to2,lb2,m2,mv1++mm, ?_,c2.write h hd2 cc2 (by rw[A25];omega) (y:=y) (ya:=ya) (v:=v) (by rw[hr4];exact C5 hy1) zY him,⟨r1++r4,by rw[hr4,hr1,JH]⟩,⟨r2++r5,by rw[hr5,rS,JH]⟩,r3++mm,by rw[hr3,JH]⟩
    rw[hv AC5,AC5]
 ·rintro⟨jj,w⟩ ⟨hjj,hw⟩
  simp only at hjj hw
  subst hjj
  simp only
  rw[AD (by omega),AE (e:=(d:Int)+1) (by omega) (by omega)]
  refine⟨_,rfl,w,rfl, ?_⟩
  rcases hw with hw|⟨t1,to1,lb1,m1,mv1,rfl,c1,⟨r1,hr1⟩,⟨r2,rS⟩,r3,hr3⟩
  ·exact .inl hw
  ·have hd1:d<mv1.length:=by rw[hr3,JG];omega
   refine .inr ⟨t1,to1,lb1,m1,mv1,rfl,c1.next hd1 ?_,r3,hr3⟩
   rw[AC4 rS (by rw[c.ml];exact hd),hX]
   omega
theorem AZJ {R:Int->Prop} {s0:Sp} {q:Rows} {l:List AH} {B8:AH} {l0:List Int} {EO:List (Int×Int)} (h:Cd s0 q l B8 l0 EO) (zO:l.length<=1000000) (grf:Grf R s0 l) {ws:List (BitVec 64)} (hws:ws.length<=1000000) (gws:∀ w∈ws,Gw s0 l w/\(Wn (BY l) s0 w->R ((w.toNat:Int)-1))):
  ∃ res:RunT,LD s0 l B8 ws=some res/\(res.2.2.2.1≠0\/∃ t to lb m mv out,res=(to,mv,out,0,t.2.1,t.2.2,l)/\CI R s0 q l B8 l0 EO t to lb m mv mv.length 0/\out.length=ws.length/\∀ k,k<ws.length->Im s0 (BY l) mv (gl 0#64 ws k) (gl 0#64 out k)):=by
 unfold LD
 refine AN (fun k (st:List (BitVec 64)×Int×Wk)=>st.2.1=(k:Int)/\st.1.length=k/\(Er s0 st.2.2\/∃ t to lb m mv,st.2.2=(t,l,to,mv,0)/\CI R s0 q l B8 l0 EO t to lb m mv 0 0/\∀ j,j<k->Im s0 (BY l) mv (gl 0#64 ws j) (gl 0#64 st.1 j))) _ ws.length ?_ ?_ ⟨rfl,rfl,.inr ⟨s0,B8,l0,[],[],rfl,CI.start h,fun j hj=>by omega⟩⟩
 ·rintro k ⟨out,kk,w⟩ hk ⟨HU,hol,hw⟩
  simp only at HU hol hw
  subst HU
  left
  simp only[H6]
  rw[AB (by omega),AB (by omega)]
  rcases hw with ⟨e1,e2⟩|⟨t,to,lb,m,mv,rfl,c,him⟩
  ·rw[zW e1,BC,AB (by simp only[H7];omega),AE (by omega) (by omega)]
   exact⟨_,rfl,rfl,by simp only[JG,H7,hol],.inl ⟨e1,e2⟩⟩
  ·obtain⟨gw,gr⟩:=gws _ (BS (d:=0#64) hk)
   obtain⟨v,v',err,t2,to2,mm,hm,he,hv⟩:=AFK zO c.cy (mv:=mv) (by have:=c.ART h;omega) (gl 0#64 ws k)
   obtain⟨-, -, -,lF, -⟩:=MvR.cy c.cy hm
   rw[he,BC,AB (by simp only[H7];omega),AE (by omega) (by omega)]
   refine⟨_,rfl,rfl,by simp only[JG,H7,hol], ?_⟩
   by_cases AC5:err=0
   rotate_left
   ·exact .inl ⟨AC5,by simp only;rw[lF,c.wl]⟩
   ·obtain⟨lb2,m2,c2,A4O, -, -⟩:=c.move h gw gr hm AC5
    refine .inr ⟨t2,to2,lb2,m2,mv++mm,by rw[AC5],c2,fun j hj=> ?_⟩
    simp only
    by_cases kP:j=k
    ·subst kP
     rw[CK (xs:=out++ [v']) (by rw[JG,hol];simp),ALG (by rw[hol];exact EL _)]
     simp only[hol,ZB,AO5]
     rw[hv AC5];exact A4O
    ·rw[YJ (by rw[hol];omega)]
     exact (him j (by omega)).mono fun x hx=>xJ _ hx
 ·rintro⟨out,kk,w⟩ ⟨HU,hol,hw⟩
  simp only at HU hol hw
  subst HU
  simp only
  rw[AD (by omega)]
  have key:=AN (f:=fun s2:Int×Wk=>
   if s2.1<(s2.2.2.2.2.1.length:Int) then
   if s2.2.2.2.2.2=0 then
   if 0<=s2.1/\s2.1<(s2.2.2.2.2.1.length:Int) then
   Option.bind (CL (s0.1,s2.2.1.2) ((gl ((0,0):(Int×Int)) s2.2.2.2.2.1 s2.1.toNat).2)) (fun r2=>
   AJ (σ:=(Int×Wk)) (β:=((Int×Wk) ⊕ RunT)) (fun s3=>
   if s3.1<(r2.1.length:Int) then
   if 0<=s3.1/\s3.1<(r2.1.length:Int) then
   if 0<=(gl (0:Int) r2.1 s3.1.toNat)/\(gl (0:Int) r2.1 s3.1.toNat)<(s3.2.1.2.1.length:Int) then
   Option.bind (CB s3.2 (gl (0#64:(BitVec 64)) s3.2.1.2.1 ((gl (0:Int) r2.1 s3.1.toNat).toNat))) (fun r3=>
   if 0<=(gl (0:Int) r2.1 s3.1.toNat)/\(gl (0:Int) r2.1 s3.1.toNat)<(r3.2.1.2.1.length:Int) then
   some (Sum.inl ((AG (s3.1+1),((r3.2.1.1,r3.2.1.2.1.set ((gl (0:Int) r2.1 s3.1.toNat).toNat) r3.1,r3.2.1.2.2),r3.2.2))))
   else none)
   else none
   else none
   else some (Sum.inr (Sum.inl ((AG (s2.1+1),s3.2))))) ((0,s2.2)))
   else none
   else some (Sum.inr ((s2.2.2.2.1,s2.2.2.2.2.1,out,s2.2.2.2.2.2,s2.2.1.2.1,s2.2.1.2.2,s2.2.2.1)))
   else some (Sum.inr ((s2.2.2.2.1,s2.2.2.2.2.1,out,s2.2.2.2.2.2,s2.2.1.2.1,s2.2.1.2.2,s2.2.2.1))))
   (fun k (st:Int×Wk)=>st.1=(k:Int)/\(Er s0 st.2\/∃ t to lb m mv,st.2=(t,l,to,mv,0)/\CI R s0 q l B8 l0 EO t to lb m mv k 0/\∀ j,j<ws.length->Im s0 (BY l) mv (gl 0#64 ws j) (gl 0#64 out j)))
   (fun (res:RunT)=>(res.2.2.2.1≠0\/∃ t to lb m mv out,res=(to,mv,out,0,t.2.1,t.2.2,l)/\CI R s0 q l B8 l0 EO t to lb m mv mv.length 0/\out.length=ws.length/\∀ k,k<ws.length->Im s0 (BY l) mv (gl 0#64 ws k) (gl 0#64 out k)))
   16385 ?_ ?_ (s:=(0,w)) ⟨rfl,hw⟩
  ·obtain⟨b,X5,rM⟩:=key
   refine⟨b, ?_,rM⟩
   exact Option.map_eq_some_iff.2 ⟨b,X5,rfl⟩
  ·rintro k ⟨kk,w⟩ hk ⟨HU,hw⟩
   simp only at HU hw
   subst HU
   simp only[H6]
   rcases hw with ⟨e1,e2⟩|⟨t,to,lb,m,mv,rfl,c,him⟩
   ·right
    by_cases h1:(k:Int)<(w.2.2.2.1.length:Int)
    ·rw[AB h1,AD e1];exact⟨_,rfl,.inl e1⟩
    ·rw[AD h1];exact⟨_,rfl,.inl e1⟩
   ·simp only
    by_cases h1:(k:Int)<(mv.length:Int)
    rotate_left
    ·rw[AD h1]
     obtain⟨d1,d2⟩:=c.de
     obtain rfl:k=mv.length:=by omega
     exact .inr ⟨_,rfl,.inr ⟨t,to,lb,m,mv,out,rfl,c,hol,him⟩⟩
    ·left
     have MU :k<mv.length:=by omega
     rw[AB h1,AB trivial,AB ⟨by omega,h1⟩]
     obtain⟨i,la,oa,pa,p,cc⟩:=c.w_ k MU
     have hfs:=cc.dst.fields c.cy.vs c.cy.fit
     have hts:((s0.1,t.2):Sp)=t:=by rw[<-c.sh]
     rw[<-hts] at hfs
     obtain⟨b,X5,w',rfl,hb3⟩:=AZH h zO grf c MU hfs
     rw[hfs,BC]
     refine⟨_,X5,rfl, ?_⟩
     rcases hb3 with hb3|⟨t1,to1,lb1,m1,mv1,rfl,c1,r,hr⟩
     ·exact .inl hb3
     ·exact .inr ⟨t1,to1,lb1,m1,mv1,rfl,c1,fun j hj=>(him j hj).mono fun x hx=>by rw[hr];exact xJ _ hx⟩
  ·rintro⟨kk,w⟩ ⟨HU,hw⟩
   simp only at HU hw
   subst HU
   rcases hw with ⟨e1,e2⟩|⟨t,to,lb,m,mv,rfl,c,him⟩
   ·by_cases h1:(((16385:Nat):Int))<(w.2.2.2.1.length:Int)
    ·simp only
     rw[AB h1,AD e1];exact⟨_,rfl,.inl e1⟩
    ·simp only
     rw[AD h1];exact⟨_,rfl,.inl e1⟩
   ·have:=c.ART h
    have:=c.de.1
    omega
structure Sm (s s' :Sp) (n:Int):Prop where
 sh:s'.1=s.1
 wl:s'.2.1.length=s.2.1.length
 fl:s'.2.2.length=s.2.2.length
 fr:∀ x:Int,0<=x->x<s.2.2.length->(Go.V3.fr s.2.2 x).1=n\/(Go.V3.fr s'.2.2 x).1=n->Go.V3.fr s'.2.2 x=Go.V3.fr s.2.2 x
theorem Sm.owned {s s' :Sp} {n:Int} (h:Sm s s' n):Go.V3.owned s'.2.2 n=Go.V3.owned s.2.2 n:=by
 unfold Go.V3.owned
 rw[h.fl]
 refine sP fun x hx=> ?_
 obtain⟨x0,x1⟩:=MJ.1 hx
 rw[qP]
 constructor
 ·intro he;rw[<-h.fr x x0 x1 (.inr he)];exact he
 ·intro he;rw[h.fr x x0 x1 (.inl he)];exact he
theorem Sm.symm {s s' :Sp} {n:Int} (h:Sm s s' n):Sm s' s n:=⟨h.sh.symm,h.wl.symm,h.fl.symm,fun x x0 x1 hh=>(h.fr x x0 (by rw[<-h.fl];exact x1) hh.symm).symm⟩
theorem Sm.pa {s s' :Sp} (hv:VS s) {n:Int} (h:Sm s s' n) {f:Int} {l:List Int} (hp:Pa s.2.2 f l) (hn:(Go.V3.fr s.2.2 f).1=n):Pa s'.2.2 f l:=by
 refine hp.kG h.fl fun x hx=> ?_
 obtain⟨x0,x1⟩:=hp.mem hx
 have ho:=(hv.owner hp x hx).1
 rw[IC x0 (by rw[h.fl];exact x1),IC x0 x1,h.fr x x0 x1 (.inl (by rw[ho];exact hn))]
theorem Sm.has {s s' :Sp} (hv:VS s) {i:AH} (hf:EA s i) (h:Sm s s' i.1) {l:List Int} (hl:Has s i l):Has s' i l:=by
 rcases hl with ⟨hw,rfl⟩|⟨hw,hp⟩
 ·exact .inl ⟨hw,rfl⟩
 ·rcases hf.2 with ⟨hw',_⟩|⟨_,_,hn,_⟩
  ·exact absurd hw' hw
  ·exact .inr ⟨hw,h.pa hv hp hn⟩
theorem Sm.fit {s s' :Sp} (hv:VS s) {i:AH} (hf:EA s i) (h:Sm s s' i.1):EA s' i:=by
 refine⟨by rw[h.wl];exact hf.1, ?_⟩
 rcases hf.2 with hw|⟨hw,⟨f0,f1⟩,hn,hst,l,hp,h1,h2,h3⟩
 ·exact .inl hw
 ·have he:=h.fr _ f0 f1 (.inl hn)
  exact .inr ⟨hw,⟨f0,by rw[h.fl];exact f1⟩,by rw[he];exact hn,by rw[he];exact hst,l,h.pa hv hp hn,by rw[h.sh];exact h1,by rw[h.owned];exact h2,h3⟩
theorem Sm.AFQ {s s' :Sp} {i:AH} (h:Sm s s' i.1) {l:List Int} {os:List (Int×Int)} (ht:DV (sz s.1) s.2.1 l 0 os i.2.2.2.2) (hw:∀ p x a,TA 0 os p x->DK (sz s.1) l p=some a->gl 0#64 s'.2.1 a.toNat=gl 0#64 s.2.1 a.toNat):DV (sz s'.1) s'.2.1 l 0 os i.2.2.2.2:=by
 rw[h.sh]
 exact ht.zZ fun p x a hp ha=>⟨ha,hw p x a hp ha⟩
theorem Sm.ob {s s' :Sp} (hv:VS s) {i:AH} (hf:EA s i) (h:Sm s s' i.1) {l:List Int} {os:List (Int×Int)} (hw:∀ p x a,TA 0 os p x->DK (sz s.1) l p=some a->gl 0#64 s'.2.1 a.toNat=gl 0#64 s.2.1 a.toNat) {p a:Int} {x:Int×Int} (o:OB s i l os p a x):OB s' i l os p a x:=
 ⟨h.has hv hf o.has,h.AFQ o.SO hw,o.ta,by rw[h.sh];exact o.JE⟩
theorem KG {s:Sp} {i:AH} {l:List Int} {os:List (Int×Int)} (hl:Has s i l) (ht:DV (sz s.1) s.2.1 l 0 os i.2.2.2.2) {l' :List Int} {qH :List (Int×Int)} {p a:Int} {x:Int×Int} (o:OB s i l' qH p a x):l' =l/\qH =os:=by
 obtain rfl:=S5 o.has hl
 exact⟨rfl,o.SO.fn ht⟩
def gvs (s:Sp):List Int->Sp
 | []=>s
 |n::r=>gvs (gv s n) r
theorem AIB:∀ {C:List Int} {s:Sp},VS s->(∀ n∈C,0<=n)->VS (gvs s C)/\(gvs s C).1=s.1/\(gvs s C).2.1.length=s.2.1.length/\(gvs s C).2.2.length=s.2.2.length∧
  (∀ x:Int,0<=x->x<s.2.2.length->fr (gvs s C).2.2 x=if (fr s.2.2 x).1∈C then (-1, -1, -1) else fr s.2.2 x)∧
  (∀ y:Int,0<=y->y<s.2.1.length->gl 0#64 (gvs s C).2.1 y.toNat=if (fr s.2.2 (y / sz s.1)).1∈C then 0#64 else gl 0#64 s.2.1 y.toNat)
 | [],s,h,_=>⟨h,rfl,rfl,rfl,fun _ _ _=>by simp [gvs],fun _ _ _=>by simp [gvs]⟩
 |n::r,s,h,hn=>by
  have n0:=hn n (by simp)
  obtain⟨i1,i2,i3,i4,i5,i6⟩:=AIB (C:=r) (h.A1T n0) (fun k hk=>hn k (VJ _ hk))
  rw[ABM] at i3 i6
  rw[ABL] at i4 i5
  have e1:(gv s n).1=s.1:=rfl
  rw[e1] at i2 i6
  refine⟨i1,i2,i3,i4,fun x x0 x1=> ?_,fun y y0 y1=> ?_⟩
  ·rw[gvs,i5 x x0 x1,AF0 x0 x1]
   by_cases h1:(fr s.2.2 x).1=n
   ·rw[AB h1,AB (show (fr s.2.2 x).1∈n::r by rw[h1];simp)]
    split <;> rfl
   ·rw[AD h1]
    by_cases h2:(fr s.2.2 x).1∈r
    ·rw[AB h2,AB (VJ _ h2)]
    ·rw[AD h2,AD (fun hh=>by rcases GD.1 hh with hh|hh;exact h1 hh;exact h2 hh)]
  ·obtain⟨f0,f1⟩:=HD h y0 y1
   have hyn:((y.toNat:Nat):Int)=y:=by omega
   have hg:=A1S h (o:=n) (a:=y.toNat) (by omega)
   rw[hyn] at hg
   rw[gvs,i6 y y0 y1,AF0 f0 f1,hg]
   by_cases h1:(fr s.2.2 (y / sz s.1)).1=n
   ·rw[AB h1,AB h1,AB (show (fr s.2.2 (y / sz s.1)).1∈n::r by rw[h1];simp)]
    split <;> rfl
   ·rw[AD h1,AD h1]
    by_cases h2:(fr s.2.2 (y / sz s.1)).1∈r
    ·rw[AB h2,AB (VJ _ h2)]
    ·rw[AD h2,AD (fun hh=>by rcases GD.1 hh with hh|hh;exact h1 hh;exact h2 hh)]
theorem AFR:∀ (C:List Int) (s:Sp) (n:Int),gvs s (C++ [n])=gv (gvs s C) n
 | [],s,n=>rfl
 |m::r,s,n=>by rw[sR,gvs,gvs,AFR r]
structure OkR (s:Sp) (q:Rows):Prop where
 pw:∀ k,k<q.length->(gl [] q k).Pairwise fun a b=>a.1<b.1
 e:∀ k,k<q.length->∀ i∈gl [] q k,i.2.1=(k:Int)/\1<=i.2.2.2.2/\EA s i
 nd:(q.flatten.map (·.1)).Nodup
theorem vJ {α:Type} {d:α} {f:α->Int}:∀ {l:List α},(∀ j,0<j->j<l.length->f (gl d l (j-1))<f (gl d l j))->l.Pairwise fun a b=>f a<f b
 | [],_=>List.Pairwise.nil
 | [a],_=>AIO _ _
 |a::b::r,h=>by
  have ih:(b::r).Pairwise fun a b=>f a<f b:=vJ (d:=d) fun j j0 j1=>by
   have:=h (j+1) (by omega) (by simp at j1 ⊢;omega)
   rw[show j+1-1=j-1+1 by omega] at this
   exact this
  have yJ:f a<f b:=h 1 (by omega) (by simp)
  refine List.Pairwise.cons (fun x hx=> ?_) ih
  rcases GD.1 hx with rfl|hx
  ·exact yJ
  ·exact Int.lt_trans yJ ((aY.1 ih).1 x hx)
theorem ZN.rows {s:Sp} {q:Rows} (h:ZN s q):OkR s q:=by
 refine⟨fun k hk=>vJ (d:=((0,0,0,0,0):AH)) (f:=fun i:AH=>i.1) fun j j0 j1=>(h k j hk j1).2.2.1 j0,fun k hk i hi=> ?_,h.nodup⟩
 obtain⟨j,hj,rfl⟩:=GR (d:=((0,0,0,0,0):AH)) hi
 have:=h k j hk hj
 exact⟨this.1,this.2.1,this.2.2.2.2⟩
theorem OkR.all {s:Sp} {q:Rows} (h:OkR s q):ZN s q:=by
 intro k j hk hj
 obtain⟨h1,h2,h3⟩:=h.e k hk _ (BS (d:=((0,0,0,0,0):AH)) hj)
 refine⟨h1,h2,fun j0=> ?_, ?_,h3⟩
 ·have:=AA3.1 (h.pw k hk) (j-1) j (by omega) hj (by omega)
  rw[CK (by omega),CK hj];exact this
 ·have hn:=h.nd
  rw[GZ q k hk,rY (d:=((0,0,0,0,0):AH)) (gl [] q k) j hj,JH,sR,←JH,ZQ,QA] at hn
  intro hm
  exact hn.2.2 _ hm _ (by rw[KU];exact oY) rfl
def aT (q:Rows) (C:List Int):Rows:=q.map fun x=>x.filter fun i=>decide (i.1∉C)
theorem JF (q:Rows) (C:List Int):(aT q C).length=q.length:=by unfold aT;rw[QY]
theorem AC6 {q:Rows} {C:List Int} {k:Nat} (hk:k<q.length):gl [] (aT q C) k=(gl [] q k).filter fun i=>decide (i.1∉C):=by
 unfold aT;rw[ARS (d:=[]) hk]
theorem X3 (q:Rows) (C:List Int):(aT q C).flatten=q.flatten.filter fun i=>decide (i.1∉C):=by
 unfold aT;rw[List.filter_flatten]
theorem AV4 (q:Rows):aT q []=q:=by
 unfold aT
 conv=>rhs;rw[<-List.map_id q]
 refine VK fun x _=> ?_
 rw[AAA.2 (fun i _=>by simp)];rfl
theorem ARX (q:Rows) (C:List Int) (n:Int):aT (aT q C) [n]=aT q (C++ [n]):=by
 unfold aT
 rw[UN]
 refine VK fun x _=> ?_
 simp only[AOD,List.filter_filter]
 refine sP fun i _=> ?_
 simp only[EY,GO,not_or,Bool.decide_and]
 rw[Bool.and_comm]
theorem erase_filter {f:AH->Int}:∀ {xs:List AH} {j:Nat} {n:Int},(xs.map f).Nodup->j<xs.length->f (gl ((0,0,0,0,0):AH) xs j)=n->xs.eraseIdx j=xs.filter fun i=>decide (f i∉[n])
 | [],j,n,_,h,_=>by simp at h
 |a::r,0,n,hd,_,hn=>by
  obtain⟨h1,h2⟩:=UM.1 hd
  have hn' :f a=n:=hn
  rw[List.eraseIdx_cons_zero,kR,AD (by simp [hn']),AAA.2]
  intro x hx
  simp only[GO,IW]
  intro he
  exact h1 (by rw[hn',←he];exact C6.2 ⟨x,hx,rfl⟩)
 |a::r,j+1,n,hd,hj,hn=>by
  obtain⟨h1,h2⟩:=UM.1 hd
  have eX :j<r.length:=by simpa using hj
  have hn' :f (gl ((0,0,0,0,0):AH) r j)=n:=hn
  have CO:f a≠n:=fun he=>h1 (by rw[he,←hn'];exact C6.2 ⟨_,BS eX,rfl⟩)
  rw[List.eraseIdx_cons_succ,kR,AB (by simpa using CO),erase_filter h2 eX hn']
theorem ARY {q:Rows} (h:(q.flatten.map (·.1)).Nodup) {k:Nat} (hk:k<q.length):((gl [] q k).map (·.1)).Nodup:=by
 rw[GZ q k hk,ZQ,ZQ,QA] at h
 exact (QA.1 h.2.1).1
theorem ARZ {α:Type} {d:α} {q:List α} {k:Nat} {f:α->α} (hk:k<q.length) (h:∀ j,j<q.length->j≠k->f (gl d q j)=gl d q j):q.set k (f (gl d q k))=q.map f:=by
 refine List.ext_getElem (by simp) fun j h1 h2=> ?_
 rw[EP] at h1
 rw[List.getElem_set,sI]
 split
 ·rename_i hj;subst hj;rw[CK hk]
 ·rename_i hj
  have:=h j h1 (Ne.symm hj)
  rw[CK h1] at this
  exact this.symm
theorem AFS {q:Rows} (h:(q.flatten.map (·.1)).Nodup) {k j:Nat} (hk:k<q.length) (hj:j<q.length) {i i' :AH} (hi:i∈gl [] q k) (KV :i' ∈gl [] q j) (he:i.1=i'.1):j=k:=by
 by_cases DM:j=k
 ·exact DM
 exfalso
 have key:∀ {k j:Nat} {i i' :AH},k<q.length->j<q.length->k<j->i∈gl [] q k->i' ∈gl [] q j->i.1=i'.1->False:=by
  intro k j i i' hk hj hkj hi KV he
  have hn:=h
  rw[GZ q k hk,ZQ,ZQ,QA] at hn
  have h2:=(QA.1 hn.2.1).2.2
  refine h2 _ (C6.2 ⟨i,hi,rfl⟩) _ (C6.2 ⟨i', ?_,rfl⟩) he
  refine kT.2 ⟨gl [] q j, ?_,KV⟩
  rw[CK hj,AA8]
  exact⟨j-(k+1),by rw[xQ];omega,by rw[List.getElem_drop];congr 1;omega⟩
 rcases GS k j with h1|h1
 ·exact key hk hj h1 hi KV he
 ·exact key hj hk (by omega) KV hi he.symm
theorem z5 {q:Rows} (hq:q.length<=1000000) (hx:∀ x∈q,x.length<=1000000) (hn:(q.flatten.map (·.1)).Nodup) {i:AH} (hi:i∈q.flatten):C1 q i.1=some (aT q [i.1],0):=by
 rcases AI7 hq hx i.1 with ⟨h1,_⟩|⟨k,j,⟨hk,hj,hf,_⟩,h2⟩
 ·exact absurd rfl (h1 i hi)
 ·rw[h2,erase_filter (f:=fun i:AH=>i.1) (ARY hn hk) hj hf]
  congr 2
  unfold aT
  refine ARZ (f:=fun x:List AH=>x.filter fun i' =>decide (i'.1∉[i.1])) hk fun j' eX CO=> ?_
  refine AAA.2 fun y hy=> ?_
  simp only[GO,IW]
  intro he
  exact CO (AFS hn hk eX (BS (d:=((0,0,0,0,0):AH)) hj) hy (by rw[hf,he]))
structure OkN (q:Rows):Prop where
 pw:∀ k,k<q.length->(gl [] q k).Pairwise fun a b=>a.1<b.1
 e:∀ k,k<q.length->∀ i∈gl [] q k,i.2.1=(k:Int)/\1<=i.2.2.2.2
 nd:(q.flatten.map (·.1)).Nodup
theorem KP {q:Rows} {i:AH}:i∈q.flatten↔∃ k,k<q.length/\i∈gl [] q k:=by
 rw[kT]
 constructor
 ·rintro⟨x,hx,hi⟩
  obtain⟨k,hk,rfl⟩:=GR (d:=([]:List AH)) hx
  exact⟨k,hk,hi⟩
 ·rintro⟨k,hk,hi⟩
  exact⟨_,BS hk,hi⟩
theorem EH {s:Sp} {q:Rows}:ZN s q↔OkN q/\∀ i∈q.flatten,EA s i:=by
 constructor
 ·intro h
  have hr:=h.rows
  exact⟨⟨hr.pw,fun k hk i hi=>⟨(hr.e k hk i hi).1,(hr.e k hk i hi).2.1⟩,hr.nd⟩,fun i hi=>(h.fit i hi).1⟩
 ·rintro⟨h,hf⟩
  exact OkR.all ⟨h.pw,fun k hk i hi=>⟨(h.e k hk i hi).1,(h.e k hk i hi).2,hf i (KP.2 ⟨k,hk,hi⟩)⟩,h.nd⟩
theorem OkN.row {q:Rows} (h:OkN q) {i:AH} (hi:i∈q.flatten):(0<=i.2.1/\i.2.1<q.length)/\i∈gl [] q i.2.1.toNat:=by
 obtain⟨k,hk,eS⟩:=KP.1 hi
 have:=(h.e k hk i eS).1
 exact⟨by omega,by rw[show i.2.1.toNat=k by omega];exact eS⟩
theorem LI {q:Rows} {C:List Int} {i:AH}:i∈(aT q C).flatten↔i∈q.flatten/\i.1∉C:=by
 rw[X3,WY,IW]
theorem OkN.aT {q:Rows} (h:OkN q) (C:List Int):OkN (aT q C):=by
 refine⟨fun k hk=> ?_,fun k hk i hi=> ?_, ?_⟩
 ·rw[JF] at hk
  rw[AC6 hk]
  exact (h.pw k hk).sublist xK
 ·rw[JF] at hk
  rw[AC6 hk] at hi
  exact h.e k hk i (WY.1 hi).1
 ·rw[X3]
  exact h.nd.sublist (xK.map _)
def rpl (q:Rows) (j:AH):Rows:=q.map fun x=>x.map fun i=>if i.1=j.1 then j else i
theorem mX (q:Rows) (j:AH):(rpl q j).length=q.length:=by unfold rpl;rw[QY]
theorem AS0 {q:Rows} {j:AH} {k:Nat} (hk:k<q.length):gl [] (rpl q j) k=(gl [] q k).map fun i=>if i.1=j.1 then j else i:=by
 unfold rpl;rw[ARS (d:=[]) hk]
theorem AKY (x:List AH) (j:AH):(x.map fun i=>if i.1=j.1 then j else i).map (·.1)=x.map (·.1):=by
 rw[UN]
 refine VK fun i _=> ?_
 simp only[AOD]
 split
 ·rename_i h;exact h.symm
 ·rfl
theorem vK (q:Rows) (j:AH):(rpl q j).flatten=q.flatten.map fun i=>if i.1=j.1 then j else i:=by
 unfold rpl;rw[List.map_flatten]
theorem OkN.rpl {q:Rows} (h:OkN q) {j:AH} (hj:∀ i∈q.flatten,i.1=j.1->i.2.1=j.2.1) (hw:1<=j.2.2.2.2):OkN (rpl q j):=by
 refine⟨fun k hk=> ?_,fun k hk i hi=> ?_, ?_⟩
 ·rw[mX] at hk
  rw[AS0 hk]
  have:=h.pw k hk
  have e:∀ l:List AH,l.Pairwise (fun a b:AH=>a.1<b.1)↔(l.map (·.1)).Pairwise (·< ·):=fun l=>by rw[AIY]
  rw[e,AKY,←e];exact this
 ·rw[mX] at hk
  rw[AS0 hk] at hi
  obtain⟨i',KV,rfl⟩:=C6.1 hi
  have:=h.e k hk i' KV
  split
  ·rename_i he
   exact⟨by rw[<-hj i' (KP.2 ⟨k,hk,KV⟩) he];exact this.1,hw⟩
  ·exact this
 ·rw[vK,AKY];exact h.nd
theorem AKZ {q:Rows} {j i:AH}:i∈(rpl q j).flatten↔(i∈q.flatten/\i.1≠j.1)\/(i=j/\∃ i' ∈q.flatten,i'.1=j.1):=by
 rw[vK,C6]
 constructor
 ·rintro⟨i',KV,rfl⟩
  split
  ·rename_i h;exact .inr ⟨rfl,i',KV,h⟩
  ·rename_i h;exact .inl ⟨KV,h⟩
 ·rintro (⟨h1,h2⟩|⟨rfl,i',h1,h2⟩)
  ·exact⟨i,h1,by rw[AD h2]⟩
  ·exact⟨i',h1,by rw[AB h2]⟩
theorem AL0 {f:AH->Int} {j:AH}:∀ {xs:List AH} {k:Nat},(xs.map f).Nodup->k<xs.length->f (gl ((0,0,0,0,0):AH) xs k)=f j->xs.set k j=xs.map fun i=>if f i=f j then j else i
 | [],k,_,h,_=>by simp at h
 |a::r,0,hd,_,hn=>by
  obtain⟨h1,h2⟩:=UM.1 hd
  have hn' :f a=f j:=hn
  rw[AOH,KU,AB hn']
  congr 1
  conv=>lhs;rw[<-List.map_id r]
  refine VK fun x hx=> ?_
  rw[AD (fun he=>h1 (by rw[hn',←he];exact C6.2 ⟨x,hx,rfl⟩))];rfl
 |a::r,k+1,hd,hk,hn=>by
  obtain⟨h1,h2⟩:=UM.1 hd
  have MU :k<r.length:=by simpa using hk
  have hn' :f (gl ((0,0,0,0,0):AH) r k)=f j:=hn
  have CO:f a≠f j:=fun he=>h1 (by rw[he,←hn'];exact C6.2 ⟨_,BS MU,rfl⟩)
  rw[List.set_cons_succ,KU,AD CO,AL0 h2 MU hn']
theorem vL {q:Rows} (hq:q.length<=1000000) (hx:∀ x∈q,x.length<=1000000) (h:OkN q) {i j:AH} (hi:i∈q.flatten) (hj:i.1=j.1) (hb:i.2.1=j.2.1):C9 q j=some (rpl q j,0):=by
 obtain⟨hr,OQ⟩:=h.row hi
 rw[hb] at hr OQ
 rcases AF9 hq hx (j:=j) hr.1 hr.2 with ⟨h1,_⟩|⟨k,hk,hf,h2⟩
 ·exact absurd hj (h1 i OQ)
 ·have DM:j.2.1.toNat<q.length:=by omega
  rw[h2,AL0 (f:=fun i:AH=>i.1) (ARY h.nd DM) hk hf]
  congr 2
  unfold rpl
  refine ARZ (f:=fun x:List AH=>x.map fun i' =>if i'.1=j.1 then j else i') DM fun j' eX CO=> ?_
  conv=>rhs;rw[<-List.map_id (gl [] q j')]
  refine VK fun y hy=> ?_
  rw[AD]
  ·rfl
  ·intro he
   exact CO (AFS h.nd DM eX OQ hy (by rw[he,hj]))
def addr (q:Rows) (j:AH):Rows:=q.set j.2.1.toNat (gl [] q j.2.1.toNat++ [j])
theorem AFT {q:Rows} {j i:AH} (b1:j.2.1.toNat<q.length):i∈(addr q j).flatten↔i∈q.flatten\/i=j:=by
 have hg:∀ k,k<q.length->gl [] (addr q j) k=if k=j.2.1.toNat then gl [] q k++ [j] else gl [] q k:=by
  intro k hk
  unfold addr
  rw[D8 b1]
  split
  ·rename_i h;rw[h]
  ·rfl
 have hl:(addr q j).length=q.length:=by unfold addr;rw[EP]
 rw[KP,KP,hl]
 constructor
 ·rintro⟨k,hk,hi⟩
  rw[hg k hk] at hi
  split at hi
  ·rcases EY.1 hi with hi|hi
   ·exact .inl ⟨k,hk,hi⟩
   ·exact .inr (GO.1 hi)
  ·exact .inl ⟨k,hk,hi⟩
 ·rintro (⟨k,hk,hi⟩|rfl)
  ·refine⟨k,hk, ?_⟩
   rw[hg k hk]
   split
   ·exact xJ _ hi
   ·exact hi
  ·exact⟨_,b1,by rw[hg _ b1,AB rfl];simp⟩
theorem eH (q:Rows) (j:AH):(addr q j).length=q.length:=by unfold addr;rw[EP]
theorem OkN.addr {q:Rows} (h:OkN q) {j:AH} (b0:0<=j.2.1) (b1:j.2.1<q.length) (hw:1<=j.2.2.2.2) (hj:∀ i∈q.flatten,i.1<j.1):OkN (addr q j):=by
 have hb:j.2.1.toNat<q.length:=by omega
 have hl:(Go.Proofs.YtjbojdpdkikioaaGreatDoor.addr q j).length=q.length:=eH q j
 have hg:∀ k,k<q.length->gl [] (Go.Proofs.YtjbojdpdkikioaaGreatDoor.addr q j) k=if k=j.2.1.toNat then gl [] q k++ [j] else gl [] q k:=by
  intro k hk
  unfold Go.Proofs.YtjbojdpdkikioaaGreatDoor.addr
  rw[D8 hb]
  split
  ·rename_i h;rw[h]
  ·rfl
 refine⟨fun k hk=> ?_,fun k hk i hi=> ?_, ?_⟩
 ·rw[hl] at hk
  rw[hg k hk]
  split
  ·rw[sM]
   refine⟨h.pw k hk,AIO _ _,fun a ha b SQ => ?_⟩
   rw[GO.1 SQ]
   exact hj a (KP.2 ⟨k,hk,ha⟩)
  ·exact h.pw k hk
 ·rw[hl] at hk
  rw[hg k hk] at hi
  split at hi
  ·rename_i he
   rcases EY.1 hi with hi|hi
   ·exact h.e k hk i hi
   ·rw[GO.1 hi];exact⟨by omega,hw⟩
  ·exact h.e k hk i hi
 ·have e1:(Go.Proofs.YtjbojdpdkikioaaGreatDoor.addr q j).flatten=(q.take j.2.1.toNat).flatten++((gl [] q j.2.1.toNat++ [j])++(q.drop (j.2.1.toNat+1)).flatten):=by
   rw[GZ (Go.Proofs.YtjbojdpdkikioaaGreatDoor.addr q j) _ (by rw[hl];exact hb),hg _ hb,AB rfl]
   unfold Go.Proofs.YtjbojdpdkikioaaGreatDoor.addr
   rw[AO9 (EL _),AOA (by omega)]
  have hn:=h.nd
  rw[GZ q _ hb] at hn
  have hp:((q.take j.2.1.toNat).flatten++((gl [] q j.2.1.toNat++ [j])++(q.drop (j.2.1.toNat+1)).flatten)).Perm (j::((q.take j.2.1.toNat).flatten++(gl [] q j.2.1.toNat++(q.drop (j.2.1.toNat+1)).flatten))):=by
   rw[JH,AIT,←JH,←JH]
   exact List.perm_middle
  rw[e1]
  refine ((hp.map (·.1)).nodup_iff).2 ?_
  rw[KU,UM]
  refine⟨fun hm=> ?_,hn⟩
  rw[<-GZ q _ hb] at hm
  obtain⟨i,hi,he⟩:=C6.1 hm
  have:=hj i hi
  omega
theorem AS1 {q:Rows} (hq:q.length<=1000000) (hx:∀ x∈q,x.length<=1000000) {j:AH} (b0:0<=j.2.1) (b1:j.2.1<q.length) (hj:∀ i∈q.flatten,i.1<j.1):FF q j=some (addr q j,0):=
 AUS hq hx b0 b1 fun i hi=>hj i (KP.2 ⟨_,by omega,hi⟩)
end Go.Proofs.YtjbojdpdkikioaaGreatDoor
namespace Go.Proofs.YtjbojdpdkikioaaGreatDoor
open Go Go.V3
def Slot (s:Sp) (q:Rows) (y:Int):Prop:=∃ i∈q.flatten,∃ l os p a x j,OB s i l os p a x/\1<=j/\j<=x.1/\DK (sz s.1) l (p+j)=some y
def Rf (s:Sp) (q:Rows) (w:BitVec 64):Prop:=w=0#64\/IsO s q ((w.toNat:Int)-1)
structure HI (s:Sp) (q:Rows) (n:Int) (ss:Ss) (r:Ro):Prop where
 hb:HB s q
 seq:∀ i∈q.flatten,i.1<n
 n0:0<=n
 ref:∀ y,Slot s q y->Rf s q (gl 0#64 s.2.1 y.toNat)
 ro:Y5 r
 root:∀ i:Nat,i<32->gl false r.1 i=true->gl 0#64 r.2 i≠0#64/\IsO s q (((gl 0#64 r.2 i).toNat:Int)-1)
 rv:RV ss
 ins:∀ f g y,In ss f g y->Slot s q y/\f=y / sz s.1
 rem:∀ y,Slot s q y->∀ f g,Pr s y (gl 0#64 s.2.1 y.toNat) f g->In ss f g y
theorem VS.words {s:Sp} (h:VS s) {ws:List (BitVec 64)} (hl:ws.length=s.2.1.length) (hz:∀ y:Int,0<=y->y<s.2.1.length->(Go.V3.fr s.2.2 (y / sz s.1)).1= -1->gl 0#64 ws y.toNat=gl 0#64 s.2.1 y.toNat):VS (s.1,ws,s.2.2):=by
 refine⟨h.sh,h.n,by simp only;rw[hl];exact h.w,fun i i0 i1=> ?_,h.inj,h.acy⟩
 rcases h.fr i i0 i1 with ⟨h1,h2⟩|h1
 ·refine .inl ⟨h1,fun a a0 a1=> ?_⟩
  simp only at a0 a1 ⊢
  have z:=CF s.1
  have e1:(a:Int) / sz s.1=i:=by
   refine Int.le_antisymm (Int.lt_add_one_iff.1 ((ACI z).2 a1)) ((AA6 z).2 a0)
  have h3:(i+1)*sz s.1<=s.2.2.length*sz s.1:=ACE (by simp only at i1;omega) (by omega)
  have h4:=hz a (by omega) (by rw[h.w];omega) (by
   rw[e1]
   have:Go.V3.fr s.2.2 i=(-1, -1, -1):=h1
   rw[this])
  rw[H6] at h4
  rw[h4]
  exact h2 a a0 a1
 ·exact .inr h1
theorem TA.app {p:Int} {x:Int×Int}:∀ {os m:List (Int×Int)} {a:Int},TA a os p x->TA a (os++m) p x
 | [],m,a,h=>h.elim
 |o::r,m,a,h=>by
  rcases h with h|h
  ·exact .inl h
  ·exact .inr h.app
structure OR (R:Int->Prop) (s0:Sp) (q:Rows) (n:Int) (ss:Ss) (r:Ro) (l:List AH) (B8:AH) (l0:List Int) (EO:List (Int×Int)) (t:Sp) (to:AH) (lb:List Int) (m mv:List (Int×Int)) (ys:List Int) (ws:List (BitVec 64)) (r' :Ro):Prop where
 hi:HI s0 q n ss r
 pre:∀ i∈l,∀ j∈q.flatten,j∉l->i.2.1*4294967296+i.1<j.2.1*4294967296+j.1
 tgt:B8∈q.flatten\/(B8.1=n/\B8.2.2.2.2=0/\0<=B8.2.1/\B8.2.1<q.length)
 cd:Cd s0 q l B8 l0 EO
 ci:CI R s0 q l B8 l0 EO t to lb m mv mv.length 0
 yi:∀ y,y∈ys↔InF ss (vI s0 (BY l) s0.2.2.length) y/\(0<=y/\y<s0.2.1.length)/\Wn (BY l) s0 (gl 0#64 s0.2.1 y.toNat)
 wl:ws.length=s0.2.1.length
 w1:∀ y∈ys,Im s0 (BY l) mv (gl 0#64 s0.2.1 y.toNat) (gl 0#64 ws y.toNat)
 w2:∀ y:Int,0<=y->y∉ys->gl 0#64 ws y.toNat=gl 0#64 t.2.1 y.toNat
 ru:r'.1=r.1
 rl:r'.2.length=r.2.length
 r1:∀ i:Nat,i<32->gl false r.1 i=true->Im s0 (BY l) mv (gl 0#64 r.2 i) (gl 0#64 r'.2 i)
 r2:∀ i:Nat,i<32->gl false r.1 i=false->gl 0#64 r'.2 i=gl 0#64 r.2 i
structure Sin (s0:Sp) (ss:Ss) (l:List AH) (EO:List (Int×Int)) (t:Sp) (to:AH) (lb:List Int) (m mv:List (Int×Int)) (ys:List Int) (ws:List (BitVec 64)) (VG :Ss):Prop where
 srv:RV VG
 sin:∀ f g y,In VG f g y↔In (mR ss (vI s0 (BY l) s0.2.2.length)) f g y\/((y∈ys\/∃ k,k<mv.length/\∃ p x j,OB t to lb (EO++m) p (gl (0,0) mv k).2 x/\1<=j/\j<=x.1/\DK (sz s0.1) lb (p+j)=some y)/\Pr (t.1,ws,t.2.2) y (gl 0#64 ws y.toNat) f g)
def X4 (q:Rows) (l:List AH) (B8 to:AH):Rows:=if B8.2.2.2.2>0 then rpl (aT q (BY l)) to else if to.2.2.2.2>0 then addr (aT q (BY l)) to else aT q (BY l)
section
variable {R:Int->Prop} {s0:Sp} {q:Rows} {n:Int} {ss:Ss} {r:Ro} {l:List AH} {B8:AH} {l0:List Int} {EO:List (Int×Int)} {t:Sp} {to:AH} {lb:List Int} {m mv:List (Int×Int)} {ys:List Int} {ws:List (BitVec 64)} {r' :Ro}
theorem OR.iF (h:OR R s0 q n ss r l B8 l0 EO t to lb m mv ys ws r') {i:AH} (hi:i∈q.flatten):i∉l↔i.1∉BY l:=by
 constructor
 ·intro h1 h2
  obtain⟨j,hj,he⟩:=KO.1 h2
  rw[h.hi.hb.uniq (h.cd.sub j hj) hi he] at hj
  exact h1 hj
 ·intro h1 h2
  exact h1 (KO.2 ⟨i,h2,rfl⟩)
theorem OR.mem (h:OR R s0 q n ss r l B8 l0 EO t to lb m mv ys ws r') {i:AH}:i∈(X4 q l B8 to).flatten↔(i∈q.flatten/\i∉l/\i.1≠B8.1)\/(i=to/\0<to.2.2.2.2):=by
 have AIC:=h.ci.seq
 have vM:=h.ci.iD
 have hwd:=h.ci.wd
 unfold X4
 by_cases h1:B8.2.2.2.2>0
 ·rw[AB h1,AKZ]
  have ht:B8∈q.flatten:=by
   rcases h.tgt with ht|ht
   ·exact ht
   ·omega
  rw[AIC]
  constructor
  ·rintro (⟨h2,h3⟩|⟨rfl,_⟩)
   ·obtain⟨h4,h5⟩:=LI.1 h2
    exact .inl ⟨h4,(h.iF h4).2 h5,h3⟩
   ·exact .inr ⟨rfl,by omega⟩
  ·rintro (⟨h2,h3,h4⟩|⟨rfl,h2⟩)
   ·exact .inl ⟨LI.2 ⟨h2,(h.iF h2).1 h3⟩,h4⟩
   ·exact .inr ⟨rfl,B8,LI.2 ⟨ht,h.cd.out⟩,rfl⟩
 ·have WX:∀ i∈q.flatten,i.1≠B8.1:=by
   intro i hi he
   rcases h.tgt with ht|ht
   ·have:=(h.hi.hb.fit ht).2;omega
   ·have:=h.hi.seq i hi;omega
  rw[AD h1]
  by_cases h2:to.2.2.2.2>0
  ·rw[AB h2,AFT]
   ·constructor
    ·rintro (h3|rfl)
     ·obtain⟨h4,h5⟩:=LI.1 h3
      exact .inl ⟨h4,(h.iF h4).2 h5,WX i h4⟩
     ·exact .inr ⟨rfl,h2⟩
    ·rintro (⟨h3,h4,_⟩|⟨rfl,_⟩)
     ·exact .inl (LI.2 ⟨h3,(h.iF h3).1 h4⟩)
     ·exact .inr rfl
   ·rw[JF,vM]
    rcases h.tgt with ht|ht
    ·have:=(h.hi.hb.fit ht).2;omega
    ·omega
  ·rw[AD h2,LI]
   constructor
   ·rintro⟨h4,h5⟩
    exact .inl ⟨h4,(h.iF h4).2 h5,WX i h4⟩
   ·rintro (⟨h3,h4,_⟩|⟨rfl,h3⟩)
    ·exact⟨h3,(h.iF h3).1 h4⟩
    ·omega
theorem OR.ysl (h:OR R s0 q n ss r l B8 l0 EO t to lb m mv ys ws r') {y:Int} (hy:y∈ys):∃ i∈q.flatten,i∉l/\∃ la os p a x j,OB s0 i la os p a x/\1<=j/\j<=x.1/\DK (sz s0.1) la (p+j)=some y:=by
 obtain⟨⟨f,g,h1,h2,h3⟩,_,_⟩:=(h.yi y).1 hy
 obtain⟨⟨i,hi,la,os,p,a,x,j,o,j1,j2,ha⟩,hf⟩:=h.hi.ins f g y h1
 refine⟨i,hi, ?_,la,os,p,a,x,j,o,j1,j2,ha⟩
 rw[h.iF hi]
 intro hC
 have hr:=DL h.hi.hb.bv.vs (h.hi.hb.fit hi).1 o.has (by have:=o.IA;omega) ha
 exact h3 (Y7.2 ⟨by rw[hf];exact hr.2.2.1,by rw[hf,hr.2.2.2.1];exact hC⟩)
theorem OR.frt (h:OR R s0 q n ss r l B8 l0 EO t to lb m mv ys ws r') {x:Int} (x0:0<=x) (x1:x<s0.2.2.length) (h1:(fr s0.2.2 x).1≠-1):(fr t.2.2 x).1=(fr s0.2.2 x).1:=by
 by_cases h2:(fr s0.2.2 x).1=B8.1
 ·rw[h.ci.oA x x0 x1 h2,h2]
 ·rw[h.ci.ZJ x x0 x1 h1 h2]
theorem OR.vsT (h:OR R s0 q n ss r l B8 l0 EO t to lb m mv ys ws r'):VS (t.1,ws,t.2.2):=by
 refine VS.words h.ci.cy.vs (by rw[h.wl,h.ci.wl]) fun y y0 y1 hf=>h.w2 y y0 fun hy=> ?_
 obtain⟨i,hi,_,la,os,p,a,x,j,o,j1,j2,ha⟩:=h.ysl hy
 have hr:=DL h.hi.hb.bv.vs (h.hi.hb.fit hi).1 o.has (by have:=o.IA;omega) ha
 have hi0:=(h.hi.hb.fit hi).1.1.1
 have:=h.frt hr.2.2.1.1 hr.2.2.1.2 (by rw[hr.2.2.2.1];omega)
 rw[h.ci.sh] at hf
 rw[hf,hr.2.2.2.1] at this
 omega
def NG (t:Sp) (ws:List (BitVec 64)) (l:List AH):Sp:=gvs (t.1,ws,t.2.2) (BY l)
theorem OR.aft (h:OR R s0 q n ss r l B8 l0 EO t to lb m mv ys ws r'):VS (NG t ws l)/\(NG t ws l).1=s0.1/\(NG t ws l).2.1.length=s0.2.1.length/\(NG t ws l).2.2.length=s0.2.2.length∧
  (∀ x:Int,0<=x->x<s0.2.2.length->fr (NG t ws l).2.2 x=if (fr t.2.2 x).1∈BY l then (-1, -1, -1) else fr t.2.2 x)∧
  (∀ y:Int,0<=y->y<s0.2.1.length->gl 0#64 (NG t ws l).2.1 y.toNat=if (fr t.2.2 (y / sz s0.1)).1∈BY l then 0#64 else gl 0#64 ws y.toNat):=by
 obtain⟨h1,h2,h3,h4,h5,h6⟩:=AIB (C:=BY l) h.vsT h.cd.nn
 simp only at h2 h3 h4 h5 h6
 have hz:sz t.1=sz s0.1:=by rw[h.ci.sh]
 rw[hz] at h6
 rw[h.wl] at h3 h6
 rw[h.ci.fl] at h4 h5
 exact⟨h1,h2.trans h.ci.sh,h3,h4,h5,h6⟩
theorem OR.smO (h:OR R s0 q n ss r l B8 l0 EO t to lb m mv ys ws r') {i:AH} (hi:i∈q.flatten) (hl:i∉l) (CO:i.1≠B8.1):Sm s0 (NG t ws l) i.1:=by
 obtain⟨h1,h2,h3,h4,h5,h6⟩:=h.aft
 have hi0:=(h.hi.hb.fit hi).1.1.1
 have hC:=(h.iF hi).1 hl
 refine⟨h2,h3,h4,fun x x0 x1 hh=> ?_⟩
 have e5:=h5 x x0 x1
 rcases hh with hh|hh
 ·have e1:=h.ci.ZJ x x0 x1 (by rw[hh];omega) (by rw[hh];exact CO)
  rw[e5,AD (by rw[e1,hh];exact hC),e1]
 ·rw[e5] at hh ⊢
  split at hh
  ·simp only at hh;omega
  ·rename_i h7
   rw[AD h7]
   exact h.ci.fr1 x x0 x1 (by rw[hh];exact CO)
theorem OR.smT (h:OR R s0 q n ss r l B8 l0 EO t to lb m mv ys ws r'):Sm t (NG t ws l) to.1:=by
 obtain⟨h1,h2,h3,h4,h5,h6⟩:=h.aft
 have hi0:=h.ci.cy.fit.1.1
 refine⟨by rw[h2,h.ci.sh],by rw[h3,h.ci.wl],by rw[h4,h.ci.fl],fun x x0 x1 hh=> ?_⟩
 rw[h.ci.fl] at x1
 have e5:=h5 x x0 x1
 rcases hh with hh|hh
 ·rw[e5,AD (by rw[hh];exact h.ci.cy.out)]
 ·rw[e5] at hh ⊢
  split at hh
  ·simp only at hh;omega
  ·rename_i h7
   rw[AD h7]
theorem OR.wO (h:OR R s0 q n ss r l B8 l0 EO t to lb m mv ys ws r') {i:AH} (hi:i∈q.flatten) (hl:i∉l) {la:List Int} (hla:Has s0 i la) {p y:Int} (p0:0<=p) (p1:p<i.2.2.2.2) (hy:DK (sz s0.1) la p=some y) (hny:y∉ys):
  gl 0#64 (NG t ws l).2.1 y.toNat=gl 0#64 s0.2.1 y.toNat:=by
 obtain⟨h1,h2,h3,h4,h5,h6⟩:=h.aft
 have hf:=h.hi.hb.fit hi
 have hr:=DL h.hi.hb.bv.vs hf.1 hla p0 hy
 have hC:=(h.iF hi).1 hl
 have hi0:=hf.1.1.1
 have ho:=h.frt hr.2.2.1.1 hr.2.2.1.2 (by rw[hr.2.2.2.1];omega)
 rw[hr.2.2.2.1] at ho
 rw[h6 y hr.1.1 hr.1.2,AD (by rw[ho];exact hC),h.w2 y hr.1.1 hny]
 by_cases CO:i.1=B8.1
 ·rcases h.tgt with ht|ht
  ·obtain rfl:=h.hi.hb.uniq hi ht CO
   obtain rfl:=S5 hla h.cd.has
   exact h.ci.wd3 p y p0 p1 hy
  ·have:=h.hi.seq i hi;omega
 ·refine h.ci.wd1 y hr.1.1 hr.1.2 (by rw[hr.2.2.2.1];omega) (by rw[hr.2.2.2.1];exact CO) fun hm=> ?_
  obtain⟨z',hz,he⟩:=C6.1 hm
  obtain⟨k,hk,rfl⟩:=GR (d:=((0,0):Int×Int)) hz
  obtain⟨i',la',oa',pa',p',cc⟩:=h.ci.w_ k hk
  have h7:=h.cd.WW cc.inl cc.src.has cc.src.IA.2.2.1 cc.src.JE
  rw[he] at h7
  rw[h7.2.2.1] at hr
  exact hC (by rw[<-hr.2.2.2.1];exact h7.2.2.2.1)
theorem OR.head (h:OR R s0 q n ss r l B8 l0 EO t to lb m mv ys ws r') {i:AH} (hi:i∈q.flatten) {la:List Int} {os:List (Int×Int)} {p a:Int} {x:Int×Int} (o:OB s0 i la os p a x):a∉ys:=by
 intro hy
 obtain⟨i',KV,_,la',qH,p',a',x',j,o',j1,j2,ha⟩:=h.ysl hy
 have r1:=o.IA
 have r2:=o'.IA
 have c1:=DL h.hi.hb.bv.vs (h.hi.hb.fit hi).1 o.has r1.2.2.1 o.JE
 have c2:=DL h.hi.hb.bv.vs (h.hi.hb.fit KV).1 o'.has (by omega) ha
 obtain rfl:=h.hi.hb.uniq hi KV (by rw[<-c1.2.2.2.1,←c2.2.2.2.1])
 obtain⟨rfl,rfl⟩:=KG o.has o.SO o'
 have:=KF (CF s0.1) (eG o.has) r1.2.2.1 (by omega) o.JE ha
 rcases o.SO.apart o.ta o'.ta with ⟨h3,_⟩|h3|h3 <;> omega
theorem OR.obO (h:OR R s0 q n ss r l B8 l0 EO t to lb m mv ys ws r') {i:AH} (hi:i∈q.flatten) (hl:i∉l) (CO:i.1≠B8.1) {la:List Int} {os:List (Int×Int)} (hla:Has s0 i la) (htl:DV (sz s0.1) s0.2.1 la 0 os i.2.2.2.2) {p a:Int} {x:Int×Int}:
  OB s0 i la os p a x↔OB (NG t ws l) i la os p a x:=by
 have hs:=h.smO hi hl CO
 have hv:=h.hi.hb.bv.vs
 have hf:=(h.hi.hb.fit hi).1
 have hw:∀ p x a,TA 0 os p x->DK (sz s0.1) la p=some a->gl 0#64 (NG t ws l).2.1 a.toNat=gl 0#64 s0.2.1 a.toNat:=by
  intro p x a hp ha
  have ho:OB s0 i la os p a x:=⟨hla,htl,hp,ha⟩
  have hr:=ho.IA
  exact h.wO hi hl hla hr.2.2.1 (by omega) ha (h.head hi ho)
 constructor
 ·exact fun o=>hs.ob hv hf hw o
 ·intro o
  exact⟨hla,htl,o.ta,by have:=o.JE;rw[hs.sh] at this;exact this⟩
theorem OR.wT (h:OR R s0 q n ss r l B8 l0 EO t to lb m mv ys ws r') {p y:Int} (p0:0<=p) (hy:DK (sz s0.1) lb p=some y):(0<=y/\y<s0.2.1.length)/\gl 0#64 (NG t ws l).2.1 y.toNat=gl 0#64 ws y.toNat:=by
 obtain⟨h1,h2,h3,h4,h5,h6⟩:=h.aft
 have hr:=DL h.ci.cy.vs h.ci.cy.fit h.ci.has p0 (by rw[h.ci.sh];exact hy)
 rw[h.ci.sh,h.ci.wl] at hr
 exact⟨hr.1,by rw[h6 y hr.1.1 hr.1.2,AD (by rw[hr.2.2.2.1];exact h.ci.cy.out)]⟩
theorem OR.yT (h:OR R s0 q n ss r l B8 l0 EO t to lb m mv ys ws r') {p y:Int} (p0:0<=p) (hy:DK (sz s0.1) lb p=some y) (hm:y∈ys):B8∈q.flatten/\∃ p' a x j,OB s0 B8 l0 EO p' a x/\1<=j/\j<=x.1/\p=p' +j:=by
 obtain⟨i',KV,x7,la',qH,p',a',x',j,o',j1,j2,ha⟩:=h.ysl hm
 have r2:=o'.IA
 have hf:=(h.hi.hb.fit KV).1
 have c2:=DL h.hi.hb.bv.vs hf o'.has (by omega) ha
 have hr:=DL h.ci.cy.vs h.ci.cy.fit h.ci.has p0 (by rw[h.ci.sh];exact hy)
 rw[h.ci.sh] at hr
 have ho:=h.frt c2.2.2.1.1 c2.2.2.1.2 (by rw[c2.2.2.2.1];have:=hf.1.1;omega)
 rw[c2.2.2.2.1,hr.2.2.2.1,h.ci.seq] at ho
 rcases h.tgt with ht|ht
 ·obtain rfl:=h.hi.hb.uniq ht KV ho
  obtain⟨rfl,rfl⟩:=KG h.cd.has h.cd.SO o'
  obtain⟨r0,yS⟩:=h.ci.pre
  have h7:DK (sz s0.1) lb (p' +j)=some y:=by rw[yS];exact C5 ha
  exact⟨ht,p',a',x',j,o',j1,j2,KF (CF s0.1) (eG h.ci.has) p0 (by omega) hy h7⟩
 ·have:=h.hi.seq i' KV;omega
theorem OR.AS2 (h:OR R s0 q n ss r l B8 l0 EO t to lb m mv ys ws r') {p a:Int} {x:Int×Int} (hp:TA 0 (EO++m) p x) (ha:DK (sz s0.1) lb p=some a):gl 0#64 (NG t ws l).2.1 a.toNat=gl 0#64 t.2.1 a.toNat:=by
 have hr:=h.ci.SO.ta hp
 obtain⟨h1,h2⟩:=h.wT hr.2.2.1 ha
 rw[h2]
 refine h.w2 a h1.1 fun hm=> ?_
 obtain⟨_,p',a',x',j,o',j1,j2,he⟩:=h.yT hr.2.2.1 ha hm
 have:=o'.IA
 rcases h.ci.SO.apart hp (TA.app (m:=m) o'.ta) with ⟨h3,_⟩|h3|h3 <;> omega
theorem OR.obT (h:OR R s0 q n ss r l B8 l0 EO t to lb m mv ys ws r') {p a:Int} {x:Int×Int}:OB t to lb (EO++m) p a x↔OB (NG t ws l) to lb (EO++m) p a x:=by
 have hs:=h.smT
 have hz:sz t.1=sz s0.1:=by rw[h.ci.sh]
 constructor
 ·exact fun o=>hs.ob h.ci.cy.vs h.ci.cy.fit (fun p x a hp ha=>h.AS2 hp (by rw[<-hz];exact ha)) o
 ·intro o
  exact⟨h.ci.has,by rw[hz];exact h.ci.SO,o.ta,by have:=o.JE;rw[hs.sh] at this;exact this⟩
end
end Go.Proofs.YtjbojdpdkikioaaGreatDoor
namespace Go.Proofs.YtjbojdpdkikioaaGreatDoor
open Go Go.V3
section
variable {R:Int->Prop} {s0:Sp} {q:Rows} {n:Int} {ss:Ss} {r:Ro} {l:List AH} {B8:AH} {l0:List Int} {EO:List (Int×Int)} {t:Sp} {to:AH} {lb:List Int} {m mv:List (Int×Int)} {ys:List Int} {ws:List (BitVec 64)} {r' :Ro}
theorem OR.okN (h:OR R s0 q n ss r l B8 l0 EO t to lb m mv ys ws r'):OkN (X4 q l B8 to)/\(X4 q l B8 to).length=q.length:=by
 have hq:=(EH.1 h.hi.hb.bv.ok).1
 have hr:=hq.aT (BY l)
 have AIC:=h.ci.seq
 have vM:=h.ci.iD
 have hwd:=h.ci.wd
 unfold X4
 by_cases h1:B8.2.2.2.2>0
 ·rw[AB h1,mX,JF]
  refine⟨hr.rpl (fun i hi he=> ?_) (by omega),rfl⟩
  have ht:B8∈q.flatten:=by
   rcases h.tgt with ht|ht
   ·exact ht
   ·omega
  rw[AIC] at he
  rw[h.hi.hb.uniq (LI.1 hi).1 ht he,vM]
 ·rw[AD h1]
  by_cases h2:to.2.2.2.2>0
  ·rw[AB h2,eH,JF]
   rcases h.tgt with ht|ht
   ·have:=(h.hi.hb.fit ht).2;omega
   ·refine⟨hr.addr (by omega) (by rw[JF];omega) (by omega) fun i hi=> ?_,rfl⟩
    have:=h.hi.seq i (LI.1 hi).1
    omega
  ·rw[AD h2,JF];exact⟨hr,rfl⟩
theorem OR.AZK (h:OR R s0 q n ss r l B8 l0 EO t to lb m mv ys ws r') {p a:Int} {x:Int×Int} (o:OB s0 B8 l0 EO p a x):OB t to lb (EO++m) p a x:=by
 obtain⟨r0,yS⟩:=h.ci.pre
 have hz:sz t.1=sz s0.1:=by rw[h.ci.sh]
 exact⟨h.ci.has,by rw[hz];exact h.ci.SO,TA.app o.ta,by rw[hz,yS];exact C5 o.JE⟩
theorem OR.AV5 (h:OR R s0 q n ss r l B8 l0 EO t to lb m mv ys ws r') {i:AH} (hi:i∈q.flatten) (he:i.1=B8.1):i=B8/\B8∈q.flatten:=by
 rcases h.tgt with ht|ht
 ·exact⟨h.hi.hb.uniq hi ht he,ht⟩
 ·have:=h.hi.seq i hi;omega
theorem OR.AV6 (h:OR R s0 q n ss r l B8 l0 EO t to lb m mv ys ws r') {lc:List Int} {os:List (Int×Int)} {p a:Int} {x:Int×Int} (o:OB t to lc os p a x):to∈(X4 q l B8 to).flatten:=by
 have:=o.IA
 exact h.mem.2 (.inr ⟨rfl,by omega⟩)
theorem OR.CG (h:OR R s0 q n ss r l B8 l0 EO t to lb m mv ys ws r') {k:AH} (hk:k∈q.flatten) (hkl:k∉l) {p a:Int} {x:Int×Int} (o:Obj s0 k p a x):IsO (NG t ws l) (X4 q l B8 to) a:=by
 obtain⟨la,os,o⟩:=o
 by_cases CO:k.1=B8.1
 ·obtain⟨rfl,ht⟩:=h.AV5 hk CO
  obtain⟨rfl,rfl⟩:=KG h.cd.has h.cd.SO o
  have o2:=h.AZK o
  exact⟨to,h.AV6 o2,p,x,_,_,h.obT.1 o2⟩
 ·exact⟨k,h.mem.2 (.inl ⟨hk,hkl,CO⟩),p,x,la,os,(h.obO hk hkl CO o.has o.SO).1 o⟩
theorem OR.new (h:OR R s0 q n ss r l B8 l0 EO t to lb m mv ys ws r') {a b:Int} (hm:(a,b)∈mv):IsO (NG t ws l) (X4 q l B8 to) b/\0<=b/\b<=16383:=by
 obtain⟨k,hk,OW⟩:=GR (d:=((0,0):Int×Int)) hm
 obtain⟨i',la',oa',pa',p',cc⟩:=h.ci.w_ k hk
 have o:=cc.dst
 rw[OW] at o
 have hr:=DL h.ci.cy.vs h.ci.cy.fit h.ci.has o.IA.2.2.1 o.JE
 have:=VS.PN h.ci.cy.vs
 exact⟨⟨to,h.AV6 o,_,_,_,_,h.obT.1 o⟩,by omega,by omega⟩
theorem OR.im (h:OR R s0 q n ss r l B8 l0 EO t to lb m mv ys ws r') {w v:BitVec 64} (hw:Rf s0 q w) (hi:Im s0 (BY l) mv w v):(v=0#64↔w=0#64)/\Rf (NG t ws l) (X4 q l B8 to) v:=by
 rcases hi with ⟨h1,rfl⟩|⟨h1,b,h2,rfl⟩
 ·refine⟨kX, ?_⟩
  rcases hw with hw|⟨k,hk,p,x,o⟩
  ·exact .inl hw
  ·by_cases h0:v=0#64
   ·exact .inl h0
   refine .inr (h.CG hk (fun hkl=>h1 ?_) o)
   have hr:=o.JE h.hi.hb.bv.vs (h.hi.hb.fit hk).1
   exact⟨h0,by omega,by rw[hr.2.2.1];exact KO.2 ⟨k,hkl,rfl⟩⟩
 ·obtain⟨h3,b0,b1⟩:=h.new h2
  have e:(BitVec.ofInt 64 b+1#64).toNat=b.toNat+1:=by
   rw[BitVec.toNat_add,sG]
   have:(1#64).toNat=1:=rfl
   omega
  refine⟨⟨fun h0=> ?_,fun h0=>absurd h0 h1.1⟩,.inr ?_⟩
  ·rw[h0] at e
   have:(0#64).toNat=0:=rfl
   omega
  ·rw[e,show (((b.toNat+1:Nat):Int))-1=b by omega]
   exact h3
theorem OR.A26 (h:OR R s0 q n ss r l B8 l0 EO t to lb m mv ys ws r') {i:AH} (hi:i∈q.flatten) (hl:i∉l) {la:List Int} {os:List (Int×Int)} {p a j y:Int} {x:Int×Int} (o:OB s0 i la os p a x) (j1:1<=j) (j2:j<=x.1) (hy:DK (sz s0.1) la (p+j)=some y) (hw:Wn (BY l) s0 (gl 0#64 s0.2.1 y.toNat)):y∈ys:=by
 have hv:=h.hi.hb.bv.vs
 have hf:=(h.hi.hb.fit hi).1
 have hr:=DL hv hf o.has (by have:=o.IA;omega) hy
 have PO:Slot s0 q y:=⟨i,hi,la,os,p,a,x,j,o,j1,j2,hy⟩
 have hC:=(h.iF hi).1 hl
 rcases h.hi.ref y PO with h0|⟨k,hk,p',x',o'⟩
 ·exact absurd h0 hw.1
 have e_ :=o'.JE hv (h.hi.hb.fit hk).1
 have hkC:k.1∈BY l:=by rw[<-e_.2.2.1];exact hw.2.2
 have hkl:k∈l:=ALF fun hn=>(h.iF hk).1 hn hkC
 have hi0:=hf.1.1
 have hk0:=(h.hi.hb.fit hk).1.1.1
 have DM:=h.pre k hkl i hi hl
 have hp:Pr s0 y (gl 0#64 s0.2.1 y.toNat) (y / sz s0.1) ((((gl 0#64 s0.2.1 y.toNat).toNat:Int)-1) / sz s0.1):=
  ⟨hw.1,hw.2.1,rfl,rfl,by rw[hr.2.2.2.1];omega,by rw[e_.2.2.1];omega,by rw[hr.2.2.2.2,e_.2.2.2];exact DM⟩
 exact (h.yi y).2 ⟨⟨_,_,h.hi.rem y PO _ _ hp,Y7.2 ⟨e_.2.1,hw.2.2⟩,fun hm=>hC (by rw[<-hr.2.2.2.1];exact (Y7.1 hm).2)⟩,hr.1,hw⟩
theorem OR.AWT (h:OR R s0 q n ss r l B8 l0 EO t to lb m mv ys ws r') {i:AH} (hi:i∈q.flatten) (hl:i∉l) {la:List Int} {os:List (Int×Int)} {p a j y:Int} {x:Int×Int} (o:OB s0 i la os p a x) (j1:1<=j) (j2:j<=x.1) (hy:DK (sz s0.1) la (p+j)=some y):Slot (NG t ws l) (X4 q l B8 to) y:=by
 have rN:sz (NG t ws l).1=sz s0.1:=by rw[h.aft.2.1]
 by_cases CO:i.1=B8.1
 ·obtain⟨rfl,ht⟩:=h.AV5 hi CO
  obtain⟨rfl,rfl⟩:=KG h.cd.has h.cd.SO o
  have o2:=h.AZK o
  obtain⟨r0,yS⟩:=h.ci.pre
  exact⟨to,h.AV6 o2,lb,_,p,a,x,j,h.obT.1 o2,j1,j2,by rw[rN,yS];exact C5 hy⟩
 ·exact⟨i,h.mem.2 (.inl ⟨hi,hl,CO⟩),la,os,p,a,x,j,(h.obO hi hl CO o.has o.SO).1 o,j1,j2,by rw[rN];exact hy⟩
theorem OR.z6 (h:OR R s0 q n ss r l B8 l0 EO t to lb m mv ys ws r') {y:Int} (hy:Slot (NG t ws l) (X4 q l B8 to) y):
  (∃ i∈q.flatten,i∉l/\∃ la os p a x j,OB s0 i la os p a x/\1<=j/\j<=x.1/\DK (sz s0.1) la (p+j)=some y)∨
  (y∉ys/\(∃ k,k<mv.length/\∃ p x j,OB t to lb (EO++m) p (gl (0,0) mv k).2 x/\1<=j/\j<=x.1/\DK (sz s0.1) lb (p+j)=some y)/\∃ ya,Slot s0 q ya/\Im s0 (BY l) mv (gl 0#64 s0.2.1 ya.toNat) (gl 0#64 t.2.1 y.toNat)):=by
 have rN:sz (NG t ws l).1=sz s0.1:=by rw[h.aft.2.1]
 have hz:sz t.1=sz s0.1:=by rw[h.ci.sh]
 obtain⟨i,hi,la,os,p,a,x,j,o,j1,j2,ha⟩:=hy
 rw[rN] at ha
 rcases h.mem.1 hi with ⟨hi,hl,CO⟩|⟨rfl,hw⟩
 ·obtain⟨os1,la1,AFU,ANE⟩:=h.hi.hb.full i hi
  have hs:=h.smO hi hl CO
  have hf:=(h.hi.hb.fit hi).1
  have htS:DV (sz (NG t ws l).1) (NG t ws l).2.1 la1 0 os1 i.2.2.2.2:=hs.AFQ ANE fun p x a hp ha=>by
   have o1:OB s0 i la1 os1 p a x:=⟨AFU,ANE,hp,ha⟩
   have hr:=o1.IA
   exact h.wO hi hl AFU hr.2.2.1 (by omega) ha (h.head hi o1)
  obtain⟨rfl,rfl⟩:=KG (hs.has h.hi.hb.bv.vs hf AFU) htS o
  exact .inl ⟨i,hi,hl,la,os,p,a,x,j,(h.obO hi hl CO AFU ANE).2 o,j1,j2,ha⟩
 ·have hs:=h.smT
  have htS:DV (sz (NG t ws l).1) (NG t ws l).2.1 lb 0 (EO++m) i.2.2.2.2:=hs.AFQ (by rw[hz];exact h.ci.SO) fun p x a hp ha=>h.AS2 hp (by rw[<-hz];exact ha)
  obtain⟨rfl,rfl⟩:=KG (hs.has h.ci.cy.vs h.ci.cy.fit h.ci.has) htS o
  have ot:=h.obT.2 o
  have hro:=ot.IA
  rcases h.ci.cov p x ot.ta with h1|⟨h1,k,hk,h2⟩
  ·have h3:=h.cd.SO.ta h1
   have ht:B8∈q.flatten:=by
    rcases h.tgt with ht|ht
    ·exact ht
    ·omega
   obtain⟨y1,hy1⟩:=AIA h.hi.hb.bv.vs h.cd.fit h.cd.has (p:=p+j) (by omega) (by omega)
   obtain⟨a1,ha1,_⟩:=h3.2.1
   obtain⟨r0,yS⟩:=h.ci.pre
   have h4:DK (sz s0.1) la (p+j)=some y1:=by rw[yS];exact C5 hy1
   rw[ha] at h4
   obtain rfl:=T6 h4
   have hl:B8∉l:=(h.iF ht).2 h.cd.out
   exact .inl ⟨B8,ht,hl,l0,EO,p,a1,x,j,⟨h.cd.has,h.cd.SO,h1,ha1⟩,j1,j2,hy1⟩
  ·have yJ:a=(gl (0,0) mv k).2:=by
    have h3:=ot.JE
    rw[hz,h2] at h3
    exact (T6 h3).symm
   subst yJ
   refine .inr ⟨fun hm=> ?_,⟨k,hk,p,x,j,ot,j1,j2,ha⟩, ?_⟩
   ·obtain⟨_,p',a',x',j',o',k1,k2,he⟩:=h.yT (by omega) ha hm
    have:=o'.IA
    omega
   ·obtain⟨i',la',oa',pa',p',cc⟩:=h.ci.w_ k hk
    obtain rfl:p' =p:=h.ci.same cc hro.2.2.1 h2
    have hx:gl (0,0) m k=x:=by
     rcases h.ci.SO.apart cc.dst.ta ot.ta with ⟨_,h4⟩|h4|h4
     ·exact h4
     ·have:=cc.dst.IA;omega
     ·omega
    rw[hx] at cc
    have hrs:=cc.src.IA
    obtain⟨ya,zY⟩:=cc.src.fld h.hi.hb.bv.vs (h.hi.hb.fit (h.cd.sub _ cc.inl)).1 (k:=j) (by omega) (by omega)
    exact⟨ya,⟨i',h.cd.sub _ cc.inl,la',oa',pa',_,x,j,cc.src,j1,j2,zY⟩,(cc.wds j j1 (by omega) ya y zY ha).1 ⟨j2,.inl hk⟩⟩
theorem OR.word (h:OR R s0 q n ss r l B8 l0 EO t to lb m mv ys ws r') {y:Int} (hy:Slot (NG t ws l) (X4 q l B8 to) y):(0<=y/\y<s0.2.1.length)/\gl 0#64 (NG t ws l).2.1 y.toNat=gl 0#64 ws y.toNat:=by
 obtain⟨h1,h2,h3,h4,h5,h6⟩:=h.aft
 rcases h.z6 hy with ⟨i,hi,hl,la,os,p,a,x,j,o,j1,j2,ha⟩|⟨_,⟨k,hk,p,x,j,o,j1,j2,ha⟩,_⟩
 ·have hf:=h.hi.hb.fit hi
  have hr:=DL h.hi.hb.bv.vs hf.1 o.has (by have:=o.IA;omega) ha
  have ho:=h.frt hr.2.2.1.1 hr.2.2.1.2 (by rw[hr.2.2.2.1];have:=hf.1.1;omega)
  rw[hr.2.2.2.1] at ho
  exact⟨hr.1,by rw[h6 y hr.1.1 hr.1.2,AD (by rw[ho];exact (h.iF hi).1 hl)]⟩
 ·exact h.wT (by have:=o.IA;omega) ha
theorem OR.hb (h:OR R s0 q n ss r l B8 l0 EO t to lb m mv ys ws r'):HB (NG t ws l) (X4 q l B8 to):=by
 obtain⟨h1,h2,h3,h4,h5,h6⟩:=h.aft
 obtain⟨k1,k2⟩:=h.okN
 have hz:sz t.1=sz s0.1:=by rw[h.ci.sh]
 refine⟨⟨h1,by rw[k2];exact h.hi.hb.bv.n,EH.2 ⟨k1,fun i hi=> ?_⟩,fun x x0 x1 hx=> ?_⟩,fun i hi=> ?_⟩
 ·rcases h.mem.1 hi with ⟨hi,hl,CO⟩|⟨rfl,_⟩
  ·exact (h.smO hi hl CO).fit h.hi.hb.bv.vs (h.hi.hb.fit hi).1
  ·exact h.smT.fit h.ci.cy.vs h.ci.cy.fit
 ·rw[h4] at x1
  rw[h5 x x0 x1] at hx ⊢
  split at hx
  ·exact absurd rfl hx
  ·rename_i hC
   rw[AD hC]
   by_cases he:(fr t.2.2 x).1=B8.1
   ·have hw:0<to.2.2.2.2:=by
     have:=h.ci.cy.fit.1
     by_cases hw:to.2.2.2.2=0
     ·have hm:x∈owned t.2.2 to.1:=CD.2 ⟨⟨x0,by rw[h.ci.fl];exact x1⟩,by rw[he,h.ci.seq]⟩
      rw[h.ci.cy.own hw] at hm
      cases hm
     ·omega
    exact C6.2 ⟨to,h.mem.2 (.inr ⟨rfl,hw⟩),by rw[he,h.ci.seq]⟩
   ·have e1:=h.ci.fr1 x x0 x1 he
    rw[e1] at hx hC he ⊢
    obtain⟨i,hi,hie⟩:=C6.1 (h.hi.hb.bv.cov x x0 x1 hx)
    refine C6.2 ⟨i,h.mem.2 (.inl ⟨hi, ?_,by rw[hie];exact he⟩),hie⟩
    rw[h.iF hi,hie];exact hC
 ·rcases h.mem.1 hi with ⟨hi,hl,CO⟩|⟨rfl,_⟩
  ·obtain⟨os1,la1,AFU,ANE⟩:=h.hi.hb.full i hi
   have hs:=h.smO hi hl CO
   refine⟨os1,la1,hs.has h.hi.hb.bv.vs (h.hi.hb.fit hi).1 AFU,hs.AFQ ANE fun p x a hp ha=> ?_⟩
   have o1:OB s0 i la1 os1 p a x:=⟨AFU,ANE,hp,ha⟩
   have hr:=o1.IA
   exact h.wO hi hl AFU hr.2.2.1 (by omega) ha (h.head hi o1)
  ·exact⟨_,lb,h.smT.has h.ci.cy.vs h.ci.cy.fit h.ci.has,h.smT.AFQ (by rw[hz];exact h.ci.SO) fun p x a hp ha=>h.AS2 hp (by rw[<-hz];exact ha)⟩
def xA (n:Int) (B8 to:AH):Int:=if B8.2.2.2.2>0 then n else if to.2.2.2.2>0 then n+1 else n
theorem AC7 (n:Int) (B8 to:AH):n<=xA n B8 to/\xA n B8 to<=n+1:=by
 unfold xA
 split
 ·omega
 ·split <;> omega
theorem OR.done (h:OR R s0 q n ss r l B8 l0 EO t to lb m mv ys ws r') {VG :Ss} (hS:Sin s0 ss l EO t to lb m mv ys ws VG):HI (NG t ws l) (X4 q l B8 to) (xA n B8 to) VG r' :=by
 obtain⟨h1,h2,h3,h4,h5,h6⟩:=h.aft
 have hv:=h.hi.hb.bv.vs
 have hnl:=AC7 n B8 to
 have hz:sz t.1=sz s0.1:=by rw[h.ci.sh]
 have rN:sz (NG t ws l).1=sz s0.1:=by rw[h2]
 refine { hb:=h.hb,seq:=fun i hi=> ?_,n0:=by have:=h.hi.n0;omega,ref:=fun y hy=> ?_,ro:= ?_,root:=fun i hi hu=> ?_,rv:=hS.srv,ins:=fun f g y OE=> ?_,rem:=fun y hy f g hp=> ?_ }
 ·rcases h.mem.1 hi with ⟨hi,hl,CO⟩|⟨rfl,hw⟩
  ·have:=h.hi.seq i hi;omega
  ·rw[h.ci.seq]
   rcases h.tgt with ht|ht
   ·have:=h.hi.seq B8 ht;omega
   ·unfold xA
    rw[AD (by omega),AB (by omega)];omega
 ·obtain⟨hyr,hw⟩:=h.word hy
  rw[hw]
  rcases h.z6 hy with ⟨i,hi,hl,la,os,p,a,x,j,o,j1,j2,ha⟩|⟨hny,_,ya,zY,him⟩
  ·have PO:Slot s0 q y:=⟨i,hi,la,os,p,a,x,j,o,j1,j2,ha⟩
   by_cases hm:y∈ys
   ·exact (h.im (h.hi.ref y PO) (h.w1 y hm)).2
   ·have hro:=o.IA
    rw[<-hw,h.wO hi hl o.has (by omega) (by omega) ha hm]
    exact (h.im (h.hi.ref y PO) (.inl ⟨fun hwn=>hm (h.A26 hi hl o j1 j2 ha hwn),rfl⟩)).2
  ·rw[h.w2 y hyr.1 hny]
   exact (h.im (h.hi.ref ya zY) him).2
 ·refine⟨by rw[h.ru];exact h.hi.ro.ul,by rw[h.rl];exact h.hi.ro.rl,fun i hi hu=> ?_⟩
  rw[h.ru] at hu
  rw[h.r2 i hi hu]
  exact h.hi.ro.z i hi hu
 ·rw[h.ru] at hu
  obtain⟨g1,g2⟩:=h.hi.root i hi hu
  obtain⟨g3,g4⟩:=h.im (.inr g2) (h.r1 i hi hu)
  have CO:gl 0#64 r'.2 i≠0#64:=fun h0=>g1 (g3.1 h0)
  exact⟨CO,g4.resolve_left CO⟩
 ·rw[rN]
  rcases (hS.sin f g y).1 OE with hd|⟨hd|⟨k,hk,p,x,j,o,j1,j2,ha⟩,hp⟩
  ·obtain⟨g1,g2,g3⟩:=AKT.1 hd
   obtain⟨⟨i,hi,la,os,p,a,x,j,o,j1,j2,ha⟩,hf⟩:=h.hi.ins f g y g1
   refine⟨h.AWT hi (fun hl=>g2 ?_) o j1 j2 ha,hf⟩
   have hr:=DL hv (h.hi.hb.fit hi).1 o.has (by have:=o.IA;omega) ha
   exact Y7.2 ⟨by rw[hf];exact hr.2.2.1,by rw[hf,hr.2.2.2.1];exact KO.2 ⟨i,hl,rfl⟩⟩
  ·obtain⟨i,hi,hl,la,os,p,a,x,j,o,j1,j2,ha⟩:=h.ysl hd
   have:=hp.2.2.1
   simp only at this
   rw[hz] at this
   exact⟨h.AWT hi hl o j1 j2 ha,this⟩
  ·have:=hp.2.2.1
   simp only at this
   rw[hz] at this
   exact⟨⟨to,h.AV6 o,lb,_,p,_,x,j,h.obT.1 o,j1,j2,by rw[rN];exact ha⟩,this⟩
 ·obtain⟨hyr,hw⟩:=h.word hy
  rw[hw] at hp
  have hpT:Pr (t.1,ws,t.2.2) y (gl 0#64 ws y.toNat) f g:=by
   obtain⟨a1,a2,a3,a4,a5,a6,a7⟩:=hp
   have hw1:=(MK a1).2
   rw[h3] at a2
   rw[rN] at a3 a4
   have ff:=HD hv hyr.1 hyr.2
   have gg:=HD hv (a:=((gl 0#64 ws y.toNat).toNat:Int)-1) (by omega) (by omega)
   rw[<-a3] at ff
   rw[<-a4] at gg
   have e1:fr (NG t ws l).2.2 f=fr t.2.2 f:=by
    rw[h5 f ff.1 ff.2] at a5 ⊢
    split at a5
    ·exact absurd rfl a5
    ·rename_i hc;rw[AD hc]
   have e2:fr (NG t ws l).2.2 g=fr t.2.2 g:=by
    rw[h5 g gg.1 gg.2] at a6 ⊢
    split at a6
    ·exact absurd rfl a6
    ·rename_i hc;rw[AD hc]
   rw[e1] at a5 a7
   rw[e2] at a6 a7
   exact⟨a1,by simp only;rw[h.wl];exact a2,by simp only;rw[hz];exact a3,by simp only;rw[hz];exact a4,a5,a6,a7⟩
  rcases h.z6 hy with ⟨i,hi,hl,la,os,p,a,x,j,o,j1,j2,ha⟩|⟨_,hc,_⟩
  rotate_left
  ·exact (hS.sin f g y).2 (.inr ⟨.inr hc,hpT⟩)
  by_cases hm:y∈ys
  ·exact (hS.sin f g y).2 (.inr ⟨.inl hm,hpT⟩)
  have PO:Slot s0 q y:=⟨i,hi,la,os,p,a,x,j,o,j1,j2,ha⟩
  have hro:=o.IA
  have hf:=(h.hi.hb.fit hi).1
  have hr:=DL hv hf o.has (by omega) ha
  have hww:=h.wO hi hl o.has (by omega) (by omega) ha hm
  rw[hw] at hww
  rw[hww] at hpT hp
  obtain⟨a1,a2,a3,a4,a5,a6,a7⟩:=hpT
  simp only at a2 a3 a4 a5 a6 a7
  rw[h.wl] at a2
  rw[hz] at a3 a4
  have hC:=(h.iF hi).1 hl
  have ef:(fr t.2.2 f).1=(fr s0.2.2 f).1/\(fr t.2.2 f).2.1=(fr s0.2.2 f).2.1:=by
   rw[a3]
   by_cases CO:i.1=B8.1
   ·obtain⟨rfl,ht⟩:=h.AV5 hi CO
    obtain rfl:=S5 o.has h.cd.has
    obtain⟨r0,yS⟩:=h.ci.pre
    have hrt:=DL h.ci.cy.vs h.ci.cy.fit h.ci.has (p:=p+j) (y:=y) (by omega) (by rw[hz,yS];exact C5 ha)
    rw[hz] at hrt
    rw[hrt.2.2.2.1,hrt.2.2.2.2,hr.2.2.2.1,hr.2.2.2.2,h.ci.seq,h.ci.iD]
    exact⟨rfl,rfl⟩
   ·rw[h.ci.ZJ _ hr.2.2.1.1 hr.2.2.1.2 (by rw[hr.2.2.2.1];have:=hf.1;omega) (by rw[hr.2.2.2.1];exact CO)]
    exact⟨rfl,rfl⟩
  rcases h.hi.ref y PO with h0|⟨k,hk,p',x',o'⟩
  ·exact absurd h0 a1
  have e_ :=o'.JE hv (h.hi.hb.fit hk).1
  have hkf:=(h.hi.hb.fit hk).1
  have hkl:k∉l:=fun hkl=>hm (h.A26 hi hl o j1 j2 ha ⟨a1,a2,by rw[e_.2.2.1];exact KO.2 ⟨k,hkl,rfl⟩⟩)
  have hkC:=(h.iF hk).1 hkl
  have eg:(fr t.2.2 g).1=(fr s0.2.2 g).1/\(fr t.2.2 g).2.1=(fr s0.2.2 g).2.1:=by
   rw[a4]
   by_cases CO:k.1=B8.1
   ·obtain⟨rfl,ht⟩:=h.AV5 hk CO
    obtain⟨la2,os2,o2⟩:=o'
    obtain⟨rfl,rfl⟩:=KG h.cd.has h.cd.SO o2
    have o3:=h.AZK o2
    have hrt:=DL h.ci.cy.vs h.ci.cy.fit h.ci.has o3.IA.2.2.1 o3.JE
    rw[hz] at hrt
    rw[hrt.2.2.2.1,hrt.2.2.2.2,e_.2.2.1,e_.2.2.2,h.ci.seq,h.ci.iD]
    exact⟨rfl,rfl⟩
   ·rw[h.ci.ZJ _ e_.2.1.1 e_.2.1.2 (by rw[e_.2.2.1];have:=hkf.1;omega) (by rw[e_.2.2.1];exact CO)]
    exact⟨rfl,rfl⟩
  rw[ef.1] at a5
  rw[eg.1] at a6
  rw[ef.2,eg.2] at a7
  refine (hS.sin f g y).2 (.inl (AKT.2 ⟨h.hi.rem y PO f g ⟨a1,a2,a3,a4,a5,a6,a7⟩,fun hm' => ?_,fun hm' => ?_⟩))
  ·have:=(Y7.1 hm').2
   rw[a3,hr.2.2.2.1] at this
   exact hC this
  ·have:=(Y7.1 hm').2
   rw[a4,e_.2.2.1] at this
   exact hkC this
end
end Go.Proofs.YtjbojdpdkikioaaGreatDoor
namespace Go.Proofs.YtjbojdpdkikioaaGreatDoor
open Go Go.V3
theorem vN {q:Rows} (hq:q.length<=1000000) (hx:q.flatten.length<=1000000):IH q=some q.flatten:=by
 unfold IH
 refine (AN (fun k (st:List AH×Int)=>st=((q.take k).flatten,(k:Int))) (fun b=>b=q.flatten) q.length ?_ ?_ (s:=([],0)) (by simp)).elim fun b hb=>by rw[hb.1,hb.2]
 ·rintro k st hk rfl
  left
  have hs:=GZ q k hk
  have hl:(q.take k).flatten.length+(gl [] q k).length<=q.flatten.length:=by
   rw[hs,JG,JG];omega
  simp only[H6]
  rw[AB (by omega),AB (by omega),AB (by omega),AE (by omega) (by omega)]
  refine⟨_,rfl, ?_⟩
  rw[GQ (d:=[]) q k hk,AOC]
  simp
 ·rintro st rfl
  simp only
  rw[AD (by omega),T5]
  exact⟨_,rfl,rfl⟩
theorem AFV {β:Type} {f:Bool×Int->Option ((Bool×Int) ⊕ β)} (P:Nat->Prop) (n:Nat) {b0:Bool} {r:Bool->β}
  (hs:∀ (k:Nat) (b:Bool),k<n->∃ c:Bool,f (b,(k:Int))=some (.inl (c,(k:Int)+1))/\(c=true->b=true\/P k)) (he:∀ b,f (b,(n:Int))=some (.inr (r b))):
  ∃ b,AJ f (b0,0)=some (r b)/\(b=true->b0=true\/∃ k,k<n/\P k):=by
 have key:=AN (f:=f) (fun k (st:Bool×Int)=>st.2=(k:Int)/\(st.1=true->b0=true\/∃ j,j<k/\P j)) (fun x=>∃ b,x=r b/\(b=true->b0=true\/∃ k,k<n/\P k)) n ?_ ?_ (s:=(b0,0)) ⟨rfl,fun h=> .inl h⟩
 ·obtain⟨x,hx,b,rfl,h⟩:=key
  exact⟨b,hx,h⟩
 ·rintro k ⟨b,kk⟩ hk ⟨HU,hb⟩
  simp only at HU hb
  subst HU
  obtain⟨c,h1,h2⟩:=hs k b hk
  refine .inl ⟨_,h1,rfl,fun hc=> ?_⟩
  rcases h2 hc with h3|h3
  ·rcases hb h3 with h4|⟨j,h4,h5⟩
   ·exact .inl h4
   ·exact .inr ⟨j,by omega,h5⟩
  ·exact .inr ⟨k,by omega,h3⟩
 ·rintro⟨b,kk⟩ ⟨HU,hb⟩
  simp only at HU hb
  subst HU
  exact⟨_,he b,b,rfl,hb⟩
structure Pfx (q:Rows) (l:List Int):Prop where
 len:l.length<=q.flatten.length
 nd:∀ i j:Nat,j<i->i<l.length->gl 0 l j≠gl 0 l i
 sub:∀ i:Nat,i<l.length->∃ k,k<l.length/\(gl ((0,0,0,0,0):AH) q.flatten k).1=gl 0 l i
 all:∀ k:Nat,k<l.length->∃ i,i<l.length/\(gl ((0,0,0,0,0):AH) q.flatten k).1=gl 0 l i
theorem AID {q:Rows} (hq:q.length<=1000000) (hx:q.flatten.length<=1000000) {l:List Int} (hl:l.length<=1000000):∃ b,II q l=some b/\(b=true->Pfx q l):=by
 unfold II
 rw[vN hq hx,BC]
 by_cases hlen:(l.length:Int)>(q.flatten.length:Int)
 ·rw[AB hlen];exact⟨false,rfl,fun h=>by cases h⟩
 rw[AD hlen]
 generalize hA:q.flatten=A at*
 have bd:Bd none (some (l.length:Int)) ((l.length:Int).toNat) A.length:=⟨by omega,trivial⟩
 refine AN (fun k (st:Int)=>st=(k:Int)/\(∀ i j:Nat,j<i->i<k->gl 0 l j≠gl 0 l i)/\∀ i:Nat,i<k->∃ m,m<l.length/\(gl ((0,0,0,0,0):AH) A m).1=gl 0 l i) _ l.length ?_ ?_ ⟨rfl,fun i j h1 h2=>by omega,fun i h=>by omega⟩
 ·rintro k st hk ⟨rfl,H9,IP⟩
  rw[AB (by omega),AB (by omega),AB bd]
  simp only[H6,xT]
  have inner:=AN (β:=Int ⊕ Bool) (f:=fun s2:Int=>
   if s2<(k:Int) then
   if 0<=s2/\s2<(l.length:Int) then
   if (gl (0:Int) l s2.toNat)=(gl (0:Int) l k) then
   some (Sum.inr (Sum.inr (false)))
   else some (Sum.inl (AG (s2+1)))
   else none
   else Option.map Sum.inr (AJ (σ:=(Bool×Int)) (β:=(Int ⊕ Bool)) (fun s3=>
   if s3.2<(l.length:Int) then
   if 0<=s3.2/\s3.2<(l.length:Int) then
   if s3.1=true then
   some (Sum.inl ((true,AG (s3.2+1))))
   else some (Sum.inl ((decide (((gl ((0,0,0,0,0):AH) A (0+s3.2.toNat)).1)=(gl (0:Int) l k)),AG (s3.2+1))))
   else none
   else Option.map Sum.inr (if (!s3.1)=true then
   some (Sum.inr (false))
   else some (Sum.inl (AG ((k:Int)+1))))) ((false,0))))
   (fun j (st:Int)=>st=(j:Int)/\∀ m:Nat,m<j->gl 0 l m≠gl 0 l k)
   (fun b=>b=Sum.inr false\/(b=Sum.inl ((k:Int)+1)/\(∀ m:Nat,m<k->gl 0 l m≠gl 0 l k)/\∃ m,m<l.length/\(gl ((0,0,0,0,0):AH) A m).1=gl 0 l k)) k ?_ ?_ (s:=0) ⟨rfl,fun m hm=>by omega⟩
  ·obtain⟨b,X5,rM⟩:=inner
   rw[X5]
   rcases rM with rfl|⟨rfl,h1,h2⟩
   ·exact .inr ⟨_,rfl,fun h=>by cases h⟩
   ·refine .inl ⟨_,rfl,rfl,fun i j hj hi=> ?_,fun i hi=> ?_⟩
    ·by_cases eS:i=k
     ·subst eS;exact h1 j hj
     ·exact H9 i j hj (by omega)
    ·by_cases eS:i=k
     ·subst eS;exact h2
     ·exact IP i (by omega)
  ·rintro j st hj ⟨rfl,hm⟩
   rw[AB (by omega),AB (by omega)]
   simp only[H6]
   by_cases he:gl 0 l j=gl 0 l k
   ·rw[AB he];exact .inr ⟨_,rfl,.inl rfl⟩
   ·rw[AD he,AE (by omega) (by omega)]
    refine .inl ⟨_,rfl,rfl,fun m hm' => ?_⟩
    by_cases hmj:m=j
    ·subst hmj;exact he
    ·exact hm m (by omega)
  ·rintro st ⟨rfl,hm⟩
   rw[AD (by omega)]
   obtain⟨b,X5,rM⟩:=AFV (β:=Int ⊕ Bool) (f:=fun s3:Bool×Int=>
    if s3.2<(l.length:Int) then
    if 0<=s3.2/\s3.2<(l.length:Int) then
    if s3.1=true then
    some (Sum.inl ((true,AG (s3.2+1))))
    else some (Sum.inl ((decide (((gl ((0,0,0,0,0):AH) A (0+s3.2.toNat)).1)=(gl (0:Int) l k)),AG (s3.2+1))))
    else none
    else Option.map Sum.inr (if (!s3.1)=true then
    some (Sum.inr (false))
    else some (Sum.inl (AG ((k:Int)+1))))) (fun m=>(gl ((0,0,0,0,0):AH) A m).1=gl 0 l k) l.length (b0:=false) (r:=fun b=>if b=true then Sum.inl ((k:Int)+1) else Sum.inr false) (fun j b hj=>by
     simp only[H6]
     rw[AB (by omega),AB (by omega),AE (e:=(j:Int)+1) (by omega) (by omega)]
     cases b with
     |true=>exact⟨true,by rw[AB rfl],fun _=> .inl rfl⟩
     |false=>
      refine⟨_,by rw[AD (by decide)],fun h=> .inr ?_⟩
      have h' :=QX h
      rw[ML] at h'
      exact h') (fun b=>by
     simp only
     rw[AD (by omega),AE (e:=(k:Int)+1) (by omega) (by omega)]
     cases b <;> rfl)
   rw[X5]
   cases b with
   |true=>
    rcases rM rfl with h|⟨m,h1,h2⟩
    ·cases h
    ·exact⟨_,rfl,.inr ⟨rfl,hm,m,h1,h2⟩⟩
   |false=>exact⟨_,rfl,.inl rfl⟩
 ·rintro st ⟨rfl,H9,IP⟩
  rw[AD (by omega),AB bd]
  simp only[H6,xT]
  have second:=AN (β:=Bool) (f:=fun s4:Int=>
   if s4<(l.length:Int) then
   if 0<=s4/\s4<(l.length:Int) then
   AJ (σ:=(Bool×Int)) (β:=(Int ⊕ Bool)) (fun s5=>
   if s5.2<(l.length:Int) then
   if 0<=s5.2/\s5.2<(l.length:Int) then
   if s5.1=true then
   some (Sum.inl ((true,AG (s5.2+1))))
   else some (Sum.inl ((decide (((gl ((0,0,0,0,0):AH) A (0+s4.toNat)).1)=(gl (0:Int) l s5.2.toNat)),AG (s5.2+1))))
   else none
   else Option.map Sum.inr (if (!s5.1)=true then
   some (Sum.inr (false))
   else some (Sum.inl (AG (s4+1))))) ((false,0))
   else none
   else some (Sum.inr (true)))
   (fun k (st:Int)=>st=(k:Int)/\∀ m:Nat,m<k->∃ i,i<l.length/\(gl ((0,0,0,0,0):AH) A m).1=gl 0 l i)
   (fun b=>b=true->∀ m:Nat,m<l.length->∃ i,i<l.length/\(gl ((0,0,0,0,0):AH) A m).1=gl 0 l i) l.length ?_ ?_ (s:=0) ⟨rfl,fun m hm=>by omega⟩
  ·obtain⟨b,X5,rM⟩:=second
   rw[X5]
   exact⟨_,rfl,fun h=>⟨by rw[hA];omega,H9,by rw[hA];exact IP,by rw[hA];exact rM h⟩⟩
  ·rintro k st hk ⟨rfl,SZ⟩
   rw[AB (by omega),AB (by omega)]
   simp only[H6]
   obtain⟨b,X5,rM⟩:=AFV (β:=Int ⊕ Bool) (f:=fun s5:Bool×Int=>
    if s5.2<(l.length:Int) then
    if 0<=s5.2/\s5.2<(l.length:Int) then
    if s5.1=true then
    some (Sum.inl ((true,AG (s5.2+1))))
    else some (Sum.inl ((decide (((gl ((0,0,0,0,0):AH) A (0+k)).1)=(gl (0:Int) l s5.2.toNat)),AG (s5.2+1))))
    else none
    else Option.map Sum.inr (if (!s5.1)=true then
    some (Sum.inr (false))
    else some (Sum.inl (AG ((k:Int)+1))))) (fun m=>(gl ((0,0,0,0,0):AH) A k).1=gl 0 l m) l.length (b0:=false) (r:=fun b=>if b=true then Sum.inl ((k:Int)+1) else Sum.inr false) (fun j b hj=>by
     simp only[H6]
     rw[AB (by omega),AB (by omega),AE (e:=(j:Int)+1) (by omega) (by omega)]
     cases b with
     |true=>exact⟨true,by rw[AB rfl],fun _=> .inl rfl⟩
     |false=>
      refine⟨_,by rw[AD (by decide)],fun h=> .inr ?_⟩
      have h' :=QX h
      rw[ML] at h'
      exact h') (fun b=>by
     simp only
     rw[AD (by omega),AE (e:=(k:Int)+1) (by omega) (by omega)]
     cases b <;> rfl)
   rw[X5]
   cases b with
   |true=>
    rcases rM rfl with h|⟨m,h1,h2⟩
    ·cases h
    ·refine .inl ⟨_,rfl,rfl,fun m' hm' => ?_⟩
     by_cases hmk:m' =k
     ·subst hmk;exact⟨m,h1,h2⟩
     ·exact SZ m' (by omega)
   |false=>exact .inr ⟨_,rfl,fun h=>by cases h⟩
  ·rintro st ⟨rfl,SZ⟩
   rw[AD (by omega)]
   exact⟨_,rfl,fun _=>SZ⟩
theorem AFW {s:Sp} {q:Rows} (h:HB s q):q.flatten.Pairwise fun a b=>a.2.1*4294967296+a.1<b.2.1*4294967296+b.1:=by
 have hN:=(EH.1 h.bv.ok).1
 have hf:∀ i∈q.flatten,0<=i.1/\i.1<=4294967295:=fun i hi=>by have:=(h.fit hi).1.1;omega
 have key:∀ n,n<=q.length->(q.take n).flatten.Pairwise fun a b:AH=>a.2.1*4294967296+a.1<b.2.1*4294967296+b.1:=by
  intro n
  induction n with
  |zero=>intro _;simp
  |succ n ih=>
   intro hn
   rw[GQ (d:=[]) q n hn,AOC,sM]
   refine⟨ih (by omega), ?_,fun a ha b hb=> ?_⟩
   ·simp only[List.flatten_cons,List.flatten_nil,GG]
    refine List.Pairwise.imp_of_mem ?_ (hN.pw n hn)
    intro a b ha hb yJ
    have e1:=(hN.e n hn a ha).1
    have e2:=(hN.e n hn b hb).1
    omega
   ·simp only[List.flatten_cons,List.flatten_nil,GG] at hb
    have e2:=(hN.e n hn b hb).1
    obtain⟨x,hx,hax⟩:=kT.1 ha
    obtain⟨j,hj,hj2,rfl⟩:=qG (d:=([]:List AH)) hx
    have e1:=(hN.e j hj2 a hax).1
    have f1:=hf a (KP.2 ⟨j,hj2,hax⟩)
    have f2:=hf b (KP.2 ⟨n,hn,hb⟩)
    have:(j:Int)+1<=n:=by omega
    omega
 have:=key q.length (EL _)
 rw[T5] at this
 exact this
theorem Pfx.pre {s:Sp} {q:Rows} (h:HB s q) {l:List AH} (hl:∀ i∈l,i∈q.flatten) (hp:Pfx q (BY l)):∀ i∈l,∀ j∈q.flatten,j∉l->i.2.1*4294967296+i.1<j.2.1*4294967296+j.1:=by
 intro i hi j hj qX
 have hlen:=hp.len
 have hs:=mW l
 obtain⟨a,ha,rfl⟩:=GR (d:=((0,0,0,0,0):AH)) hi
 obtain⟨k,hk,OW⟩:=hp.sub a (by omega)
 rw[AC1 ha] at OW
 have eS:=h.uniq (BS (d:=((0,0,0,0,0):AH)) (xs:=q.flatten) (k:=k) (by omega)) (hl _ hi) OW
 rw[<-eS]
 obtain⟨b,hb,rfl⟩:=GR (d:=((0,0,0,0,0):AH)) hj
 have hbl:¬b<l.length:=by
  intro hbl
  obtain⟨i2,hi2,he⟩:=hp.all b (by omega)
  rw[AC1 (by omega)] at he
  have:=h.uniq hj (hl _ (BS (d:=((0,0,0,0,0):AH)) (k:=i2) (by omega))) he
  rw[this] at qX
  exact qX (BS (by omega))
 have:=AA3.1 (AFW h) k b (by omega) hb (by omega)
 rw[CK (by omega),CK hb]
 exact this
theorem Pfx.AV7 {q:Rows} {l:List AH} (hp:Pfx q (BY l)):(BY l).Nodup:=by
 rw[List.nodup_iff_pairwise_ne,AA3]
 intro i j hi hj kL
 have:=hp.nd j i kL hj
 rw[CK hi,CK hj] at this
 exact this
theorem AV8 {c:Cf} (g:Good c) {b n:Int} (b0:0<=b) (b1:b<c.2.1.length) (n0:1<=n) (n1:n<=64):∃ k,FE c b n=some (k,0)/\0<=k/\k<=64:=by
 have hn:=g.n.2
 have hz:=g.nm.2.1
 have hr:gl (0,0,0,0) c.2.1 b.toNat=ru c b:=rfl
 have hv:=(g.ru b b0 b1).1
 unfold FE
 rw[oL (by omega) (by omega) g.sh,g.UP,BC,AD (by simp),AD (by omega),AD (by omega),AD (by omega),AD (by omega),AB (by omega),hr]
 generalize (ru c b).1=x at hv
 rcases hv with rfl|⟨h0,h1⟩
 ·unfold E5
  rw[fE,X0 (by omega)]
  simp only[BC]
  rw[AD (by decide),AD (by omega),AD (by omega),AB (by decide)]
  exact⟨0,rfl,by omega,by omega⟩
 ·rw[vD h0 h1 n0 n1]
  have:=AWG (n:=n.toNat) h1 (by omega)
  exact⟨_,rfl,by omega,by omega⟩
structure HV (N:Int) (h:Hs):Prop where
 g:Good h.1
 hi:HI h.2.1 h.2.2.1 h.2.2.2.1 h.2.2.2.2.1 h.2.2.2.2.2.1
 ql:h.2.2.1.length=h.1.2.1.length
 n1:h.2.2.2.1<=N
theorem HV.vs {N:Int} {h:Hs} (v:HV N h):VS h.2.1:=v.hi.hb.bv.vs
theorem HV.copy {N:Int} {h:Hs} (v:HV N h):BR h=some h:=by
 obtain⟨c,s,q,n,ss,r,rest⟩:=h
 obtain⟨h1,h2,h3⟩:=v.hi.hb.lens
 have hg:=v.g.n.2
 simp only at h1 h2 h3 hg
 unfold BR
 rw[AB (by simp only[VN];omega),VS.copy v.vs,BC,eB (q:=q) (by omega) (fun x hx=>by have:=h3 x hx;omega),BC,v.hi.rv.copy,BC,v.hi.ro.copy]
 rfl
structure Tg (h:Hs) (l:List AH) (to:AH):Prop where
 sub:∀ i∈l,i∈h.2.2.1.flatten
 ne:l≠[]
 blt:∀ i∈l,i.2.1=(gl ((0,0,0,0,0):AH) l 0).2.1
 pfx:Pfx h.2.2.1 (BY l)
 tb:to.2.1=(ru h.1 (gl ((0,0,0,0,0):AH) l 0).2.1).2.2.2
 tgt:to∈h.2.2.1.flatten\/to=(h.2.2.2.1,(ru h.1 (gl ((0,0,0,0,0):AH) l 0).2.1).2.2.2, -1, -1,0)
 out:to.1∉BY l
theorem ANF {a b c d e:Bool} (h:WI [a,b,c,d,e]=true):a=true/\b=true/\c=true/\d=true/\e=true:=by
 simpa [WI] using h
theorem AV9 {i j:AH} (h1:i.1=j.1) (h2:i.2.1=j.2.1) (h3:i.2.2.1=j.2.2.1) (h4:i.2.2.2.1=j.2.2.2.1) (h5:i.2.2.2.2=j.2.2.2.2):i=j:=by
 obtain⟨a,b,c,d,e⟩:=i
 obtain⟨a',b',c',d',e'⟩:=j
 simp only at h1 h2 h3 h4 h5
 subst h1 h2 h3 h4 h5;rfl
theorem z7 {l:List AH} {k:Nat} (hk:k<l.length):BY (l.take (k+1))=BY (l.take k)++ [(gl ((0,0,0,0,0):AH) l k).1]:=by
 rw[GQ (d:=((0,0,0,0,0):AH)) l k hk];unfold BY;rw[ZQ];rfl
theorem AFX {β:Type} {f:Bool×Int->Option ((Bool×Int) ⊕ β)} (P:Nat->Prop) (n:Nat) {b0:Bool} {r:Bool->Option β}
  (hs:∀ (k:Nat) (b:Bool),k<n->∃ c:Bool,f (b,(k:Int))=some (.inl (c,(k:Int)+1))/\(c=true->b=true/\P k))
  (he:∀ b,f (b,(n:Int))=Option.map Sum.inr (r b)) {Q:β->Prop} (hq:∀ b,(b=true->b0=true/\∀ k,k<n->P k)->∃ x,r b=some x/\Q x):
  ∃ x,AJ f (b0,0)=some x/\Q x:=by
 refine AN (f:=f) (fun k (st:Bool×Int)=>st.2=(k:Int)/\(st.1=true->b0=true/\∀ j,j<k->P j)) Q n ?_ ?_ (s:=(b0,0)) ⟨rfl,fun h=>⟨h,fun j hj=>by omega⟩⟩
 ·rintro k ⟨b,kk⟩ hk ⟨HU,hb⟩
  simp only at HU hb
  subst HU
  obtain⟨c,h1,h2⟩:=hs k b hk
  refine .inl ⟨_,h1,rfl,fun hc=> ?_⟩
  obtain⟨h3,h4⟩:=h2 hc
  obtain⟨h5,h6⟩:=hb h3
  refine⟨h5,fun j hj=> ?_⟩
  by_cases kP:j=k
  ·subst kP;exact h4
  ·exact h6 j (by omega)
 ·rintro⟨b,kk⟩ ⟨HU,hb⟩
  simp only at HU hb
  subst HU
  obtain⟨x,h1,h2⟩:=hq b hb
  exact⟨x,by rw[he,h1];rfl,h2⟩
theorem ANG {N:Int} {h:Hs} (v:HV N h) {l:List AH} (hl:l.length<=1000000):∃ to e,GK h l=some (to,e)/\(e≠0\/(e=0/\Tg h l to)):=by
 suffices hh:∃ x,GK h l=some x/\(x.2≠0\/(x.2=0/\Tg h l x.1)) by
  obtain⟨x,h1,h2⟩:=hh
  exact⟨x.1,x.2,h1,h2⟩
 obtain⟨l1,l2,l3⟩:=v.hi.hb.lens
 have hN:=(EH.1 v.hi.hb.bv.ok).1
 have hql:=v.ql
 unfold GK
 refine AN (fun k (st:List Int×Int)=>st=(BY (l.take k),(k:Int))/\∀ j,j<k->gl ((0,0,0,0,0):AH) l j∈h.2.2.1.flatten/\(gl ((0,0,0,0,0):AH) l j).2.1=(gl ((0,0,0,0,0):AH) l 0).2.1) _ l.length ?_ ?_ ⟨rfl,fun j hj=>by omega⟩
 ·rintro k st hk ⟨rfl,hj⟩
  simp only[H6]
  rw[AB (by omega),AB (by omega)]
  rcases AFL (q:=h.2.2.1) (by omega) (fun x hx=>by have:=l3 x hx;omega) (gl ((0,0,0,0,0):AH) l k).1 with ⟨h4,h5⟩|⟨i,h4,h5,h6⟩
  ·rw[h5];exact .inr ⟨_,rfl,.inl (by decide)⟩
  ·rw[h6,BC]
   rw[AD (show ¬(!true)=true by decide)]
   split
   ·exact .inr ⟨_,rfl,.inl (by decide)⟩
   rename_i hb
   simp only[T4,Bool.not_eq_false] at hb
   obtain⟨b1,b2,b3,b4,b5⟩:=ANF hb
   obtain rfl:i=gl ((0,0,0,0,0):AH) l k:=AV9 (QX b1) (QX b2) (QX b3) (QX b4) (QX b5)
   rw[AB (by omega)]
   split
   ·exact .inr ⟨_,rfl,.inl (by decide)⟩
   rename_i hbe
   have A4P :=Decidable.not_not.1 hbe
   have PO:(BY (l.take k)).length<=l.length:=by rw[mW,sJ];omega
   rw[AB (by simp only[H7];omega),AE (by omega) (by omega)]
   refine .inl ⟨_,rfl, ?_,fun j kP=> ?_⟩
   ·rw[z7 hk];rfl
   ·by_cases A4Q :j=k
    ·subst A4Q;exact⟨h4,A4P⟩
    ·exact hj j (by omega)
 ·rintro st ⟨rfl,hj⟩
  simp only
  rw[AD (by omega),T5]
  by_cases h0:(l.length:Int)=0
  ·rw[AB h0];exact⟨_,rfl,.inl (by decide)⟩
  rw[AD h0]
  obtain⟨b,rJ,hp2⟩:=AID (q:=h.2.2.1) (l:=BY l) (by omega) (by omega) (by rw[mW];exact hl)
  rw[rJ,BC]
  cases b with
  |false=>exact⟨_,rfl,.inl (by decide)⟩
  |true=>
  have hp:=hp2 rfl
  obtain⟨hm0, -⟩:=hj 0 (by omega)
  obtain⟨⟨r0,r1⟩,OQ⟩:=hN.row hm0
  have WJ:∀ i∈l,i∈h.2.2.1.flatten/\i.2.1=(gl ((0,0,0,0,0):AH) l 0).2.1:=by
   intro i hi
   obtain⟨k,hk,rfl⟩:=GR (d:=((0,0,0,0,0):AH)) hi
   exact hj k hk
  have A27:l≠[]:=by rintro rfl;simp at h0
  rw[AD (by decide),AB (by omega)]
  simp only[show (0:Int).toNat=0 from rfl]
  rw[AB (by omega)]
  obtain⟨-,hlm,htb⟩:=v.g.ru (gl ((0,0,0,0,0):AH) l 0).2.1 r0 (by omega)
  have hb:gl (0,0,0,0) h.1.2.1 (gl ((0,0,0,0,0):AH) l 0).2.1.toNat=ru h.1 (gl ((0,0,0,0,0):AH) l 0).2.1:=rfl
  rw[hb]
  generalize hT:(ru h.1 (gl ((0,0,0,0,0):AH) l 0).2.1).2.2.2=T at htb
  have hTr:0<=T/\T<h.1.2.1.length:=by
   unfold FW at htb
   rw[hT] at htb
   by_cases X5:(gl ((0,0,0,0,0):AH) l 0).2.1=(h.1.2.1.length:Int)-1
   ·have:T=(gl ((0,0,0,0,0):AH) l 0).2.1:=ALF fun hn=>htb (.inl ⟨X5,hn⟩)
    omega
   ·have h1:¬(T<=(gl ((0,0,0,0,0):AH) l 0).2.1\/(h.1.2.1.length:Int)-1<T):=fun hn=>htb (.inr ⟨by omega,hn⟩)
    omega
  have hn:=v.vs.n
  obtain⟨cap,hc,c0,c1⟩:=AV8 v.g (b:=T) (n:=h.2.1.2.2.length) hTr.1 hTr.2 (by omega) (by omega)
  rw[hc,BC]
  have AS3:Tg h l (h.2.2.2.1,T, -1, -1,0):=
   ⟨fun i hi=>(WJ i hi).1,A27,fun i hi=>(WJ i hi).2,hp,by simp only;exact hT.symm,.inr (by rw[hT]),fun hm=>by
    obtain⟨i,hi,he⟩:=KO.1 hm
    have:=v.hi.seq i (WJ i hi).1
    simp only at he;omega⟩
  have wrap:∀ {X:Option (AH×Int)},(∃ x,X=some x/\(x.2≠0\/(x.2=0/\Tg h l x.1)))->∃ b,Option.map (Sum.inr (α:=List Int×Int)) X=some (Sum.inr b)/\(b.2≠0\/(b.2=0/\Tg h l b.1)):=by
   rintro X ⟨x,rfl,hx⟩;exact⟨x,rfl,hx⟩
  rcases mQ (q:=h.2.2.1) (fun x hx=>by have:=l3 x hx;omega) hTr.1 (by omega) with ⟨y1,y2⟩|⟨y,y1,y2⟩
  ·rw[y2,BC]
   simp only
   refine wrap (AFX (fun _=>True) l.length (r:=fun b=>if b=true then (if decide (cap=0\/((0,0,0,0,0):AH).2.2.2.2<cap*sz h.2.1.1)=true then some (((0,0,0,0,0):AH),0) else some ((h.2.2.2.1,T, -1, -1,0),0)) else some ((h.2.2.2.1,T, -1, -1,0),0)) ?_ ?_ ?_)
   ·intro k b hk
    simp only
    rw[AB (by omega),AB (by omega),AE (e:=(k:Int)+1) (by omega) (by omega)]
    cases b with
    |true=>exact⟨_,by rw[AB rfl],fun _=>⟨rfl,trivial⟩⟩
    |false=>exact⟨false,by rw[AD (by decide)],fun h=>by cases h⟩
   ·intro b
    simp only
    rw[AD (by omega),vG v.vs.sh ((0,0,0,0,0):AH) c0 (by omega)]
    rfl
   ·intro b hb
    cases b with
    |true=>exact absurd (hb rfl).1 (by decide)
    |false=>exact⟨_,rfl,.inr ⟨rfl,AS3⟩⟩
  ·rw[y2,BC]
   have hyb:=(hN.e T.toNat (by omega) y y1).1
   have hym:y∈h.2.2.1.flatten:=KP.2 ⟨T.toNat,by omega,y1⟩
   simp only
   refine wrap (AFX (fun k=>(gl ((0,0,0,0,0):AH) l k).1≠y.1) l.length (r:=fun b=>if b=true then (if decide (cap=0\/y.2.2.2.2<cap*sz h.2.1.1)=true then some (y,0) else some ((h.2.2.2.1,T, -1, -1,0),0)) else some ((h.2.2.2.1,T, -1, -1,0),0)) ?_ ?_ ?_)
   ·intro k b hk
    simp only[H6]
    rw[AB (by omega),AB (by omega),AE (e:=(k:Int)+1) (by omega) (by omega)]
    cases b with
    |true=>exact⟨_,by rw[AB rfl],fun hc=>⟨rfl,QX hc⟩⟩
    |false=>exact⟨false,by rw[AD (by decide)],fun h=>by cases h⟩
   ·intro b
    simp only
    rw[AD (by omega),vG v.vs.sh y c0 (by omega)]
    rfl
   ·intro b hb
    by_cases X5:b=true
    ·rw[AB X5]
     obtain⟨-,SZ⟩:=hb X5
     split
     ·refine⟨_,rfl,.inr ⟨rfl,fun i hi=>(WJ i hi).1,A27,fun i hi=>(WJ i hi).2,hp,by rw[hT];simp only;omega,.inl hym,fun hm=> ?_⟩⟩
      obtain⟨i,hi,he⟩:=KO.1 hm
      obtain⟨k,hk,rfl⟩:=GR (d:=((0,0,0,0,0):AH)) hi
      exact SZ k hk he
     ·exact⟨_,rfl,.inr ⟨rfl,AS3⟩⟩
    ·rw[AD X5];exact⟨_,rfl,.inr ⟨rfl,AS3⟩⟩
def ms (w:AH->Nat) (l:List AH):Nat:=(l.map w).sum
theorem AVA {w:AH->Nat} {a b:List AH} (h:a.Perm b):ms w a=ms w b:=by
 unfold ms
 induction h with
 |nil=>rfl
 |cons x _ ih=>simp only[KU,sT,ih]
 |swap x y l=>simp only[KU,sT];omega
 |trans _ _ h1 h2=>rw[h1,h2]
theorem mY (w:AH->Nat) (p:AH->Bool):∀ l:List AH,ms w (l.filter p)<=ms w l
 | []=>EL _
 |a::r=>by
  have:=mY w p r
  unfold ms at this ⊢
  rw[kR]
  split <;> simp only[KU,sT] <;> omega
theorem z8 (w:AH->Nat) (p:AH->Bool) {i:AH} (hp:p i=false):∀ {l:List AH},i∈l->ms w (l.filter p)+w i<=ms w l
 |a::r,hi=>by
  rw[kR]
  rcases GD.1 hi with rfl|hi
  ·have:=mY w p r
   rw[hp];unfold ms at this ⊢
   simp only[KU,sT,VL,QZ];omega
  ·have:=z8 w p hp hi
   unfold ms at this ⊢
   split <;> simp only[KU,sT] <;> omega
theorem AS4 {w w' :AH->Nat} {l:List AH} (h:∀ i∈l,w i=w' i):ms w l=ms w' l:=by
 unfold ms;rw[VK h]
theorem AWU {w:AH->Nat} {b:Nat}:∀ {l:List AH},(∀ i∈l,w i<=b)->ms w l<=l.length*b
 | [],_=>by simp [ms]
 |a::r,h=>by
  have h1:=h a (by simp)
  have h2:=AWU (w:=w) (b:=b) (l:=r) fun i hi=>h i (VJ _ hi)
  unfold ms at h2 ⊢
  simp only[KU,sT,NZ]
  rw[Nat.succ_mul];omega
theorem AL1 {α β:Type} {d:α} {n:Nat} (pos:Nat->Int) (val:Nat->α) {xs:List α} (hr:∀ k,k<n->0<=pos k/\pos k<xs.length) (hi:∀ j k,j<n->k<n->pos j=pos k->j=k)
  {f:Int×List α->Option ((Int×List α) ⊕ β)} (hs:∀ k ys,k<n->ys.length=xs.length->f ((k:Int),ys)=some (.inl ((k:Int)+1,ys.set (pos k).toNat (val k)))) {Q:β->Prop}
  (he:∀ ys,ys.length=xs.length->(∀ k,k<n->gl d ys (pos k).toNat=val k)->(∀ y:Nat,(∀ k,k<n->pos k≠y)->gl d ys y=gl d xs y)->∃ b,f ((n:Int),ys)=some (.inr b)/\Q b):∃ b,AJ f (0,xs)=some b/\Q b:=by
 refine AN (f:=f) (fun k (st:Int×List α)=>st.1=(k:Int)/\st.2.length=xs.length/\(∀ j,j<k->gl d st.2 (pos j).toNat=val j)/\∀ y:Nat,(∀ j,j<k->pos j≠y)->gl d st.2 y=gl d xs y) Q n ?_ ?_ (s:=(0,xs)) ⟨rfl,rfl,fun j hj=>by omega,fun _ _=>rfl⟩
 ·rintro k ⟨kk,ys⟩ hk ⟨HU,hl,h1,h2⟩
  simp only at HU hl h1 h2
  subst HU
  have MU :=hr k hk
  have DM:(pos k).toNat<ys.length:=by omega
  refine .inl ⟨_,hs k ys hk hl,rfl,by simp only[EP];exact hl,fun j hj=> ?_,fun y hy=> ?_⟩
  ·simp only
   rw[D8 DM]
   by_cases kP:j=k
   ·subst kP;rw[AB rfl]
   ·have:=hr j (by omega)
    rw[AD (fun he=>kP (hi j k (by omega) hk (by omega))),h1 j (by omega)]
  ·simp only
   rw[D8 DM,AD (fun he=>hy k (by omega) (by omega))]
   exact h2 y fun j hj=>hy j (by omega)
 ·rintro⟨kk,ys⟩ ⟨HU,hl,h1,h2⟩
  simp only at HU hl h1 h2
  subst HU
  exact he ys hl h1 h2
theorem notes {β:Type} {s:Sp} (h:VS s) {xs:List Int} (hx:∀ y∈xs,0<=y/\y<s.2.1.length)
  {f:Ss×Int×List (BitVec 64)×List Fr->Option ((Ss×Int×List (BitVec 64)×List Fr) ⊕ β)}
  (hs:∀ (k:Nat) ss,k<xs.length->f (ss,(k:Int),s.2.1,s.2.2)=Option.bind (CR s ss (gl 0 xs k) (gl 0#64 s.2.1 (gl 0 xs k).toNat)) fun r=>some (.inl (r.1,(k:Int)+1,r.2.1,r.2.2)))
  {ss:Ss} (hr:RV ss) {Q:β->Prop}
  (hq:∀ VG,RV VG ->(∀ f g y,In VG f g y↔In ss f g y\/(y∈xs/\Pr s y (gl 0#64 s.2.1 y.toNat) f g))->∃ b,f (VG,(xs.length:Int),s.2.1,s.2.2)=some (.inr b)/\Q b):
  ∃ b,AJ f (ss,0,s.2.1,s.2.2)=some b/\Q b:=by
 refine AN (f:=f) (fun k (st:Ss×Int×List (BitVec 64)×List Fr)=>st.2=((k:Int),s.2.1,s.2.2)/\RV st.1/\∀ f g y,In st.1 f g y↔In ss f g y\/(y∈xs.take k/\Pr s y (gl 0#64 s.2.1 y.toNat) f g)) Q xs.length ?_ ?_ (s:=(ss,0,s.2.1,s.2.2)) ⟨rfl,hr,fun f g y=>by simp⟩
 ·rintro k ⟨ss1,st⟩ hk ⟨hst,h1,h2⟩
  simp only at hst h1 h2
  subst hst
  have hxk:=hx _ (BS (d:=0) hk)
  obtain⟨VG,g1,g2,g3⟩:=AKX h h1 hxk.1 hxk.2 (gl 0#64 s.2.1 (gl 0 xs k).toNat)
  refine .inl ⟨(VG,(k:Int)+1,s.2.1,s.2.2),by rw[hs k ss1 hk,g1];rfl,by simp only[ACU];rfl,g2,fun f g y=> ?_⟩
  simp only
  rw[g3,h2,GQ (d:=0) xs k hk,EY,GO]
  constructor
  ·rintro ((h|⟨h,h'⟩)|⟨rfl,h⟩)
   ·exact .inl h
   ·exact .inr ⟨.inl h,h'⟩
   ·exact .inr ⟨.inr rfl,h⟩
  ·rintro (h|⟨h|rfl,h'⟩)
   ·exact .inl (.inl h)
   ·exact .inl (.inr ⟨h,h'⟩)
   ·exact .inr ⟨rfl,h'⟩
 ·rintro⟨ss1,st⟩ ⟨hst,h1,h2⟩
  simp only at hst h1 h2
  subst hst
  rw[T5] at h2
  exact hq ss1 h1 h2
theorem AS5 {s:Sp} (h:VS s) {ss:Ss} (hr:RV ss) {l:List AH} (hl:l.length<=1000000) {ys:List Int} (hy:∀ y∈ys,0<=y/\y<s.2.1.length) (kO:ys.length<=1000000) {mv:List (Int×Int)} (hml:mv.length<=1000000) (S:Nat->List Int)
  (hS:∀ k,k<mv.length->CL s (gl (0,0) mv k).2=some (S k,0)/\(S k).length<=1000000/\∀ y∈S k,0<=y/\y<s.2.1.length):
  ∃ VG,G9 s ss l ys mv=some (VG,s.2.1,s.2.2)/\RV VG /\∀ f g y,In VG f g y↔In (mR ss (vI s (BY l) s.2.2.length)) f g y\/((y∈ys\/∃ k,k<mv.length/\y∈S k)/\Pr s y (gl 0#64 s.2.1 y.toNat) f g):=by
 have hn:=h.n.2
 have hc:=AC2 s (BY l) s.2.2.length
 suffices hh:∃ b,G9 s ss l ys mv=some b/\(b.2=(s.2.1,s.2.2)/\RV b.1/\∀ f g y,In b.1 f g y↔In (mR ss (vI s (BY l) s.2.2.length)) f g y\/((y∈ys\/∃ k,k<mv.length/\y∈S k)/\Pr s y (gl 0#64 s.2.1 y.toNat) f g)) by
  obtain⟨b,h1,h2,h3,h4⟩:=hh
  exact⟨b.1,by rw[h1,←h2],h3,h4⟩
 unfold G9
 rw[qI h hl,BC,AUY hr (by omega),BC]
 have wrap:∀ {σ α:Type} {X:Option α} {Q:α->Prop},(∃ x,X=some x/\Q x)->∃ b,Option.map (Sum.inr (α:=σ)) X=some (Sum.inr b)/\Q b:=by
  rintro σ α X Q ⟨x,rfl,hx⟩;exact⟨x,rfl,hx⟩
 refine notes h hy ?_ (hr.drop _) ?_
 ·intro k ss1 hk
  have:=hy _ (BS (d:=0) hk)
  simp only[H6]
  rw[AB (by omega),AB (by omega),AB (by omega),AE (e:=(k:Int)+1) (by omega) (by omega)]
 ·intro ss1 h1 h2
  simp only
  rw[AD (by omega)]
  refine wrap (AN (fun k (st:Ss×Int×List (BitVec 64)×List Fr)=>st.2=((k:Int),s.2.1,s.2.2)/\RV st.1/\∀ f g y,In st.1 f g y↔In (mR ss (vI s (BY l) s.2.2.length)) f g y\/((y∈ys\/∃ j,j<k/\y∈S j)/\Pr s y (gl 0#64 s.2.1 y.toNat) f g)) _ mv.length ?_ ?_ ⟨rfl,h1,fun f g y=> ?_⟩)
  ·rintro k ⟨ss2,st⟩ hk ⟨hst,h3,h4⟩
   simp only at hst h3 h4
   subst hst
   obtain⟨g1,g2,g3⟩:=hS k hk
   left
   simp only[H6]
   rw[AB (by omega),AB (by omega)]
   have e1:((s.1,s.2.1,s.2.2):Sp)=s:=rfl
   rw[e1,g1,BC]
   have key:=notes (β:=(Ss×Int×List (BitVec 64)×List Fr) ⊕ (Ss×List (BitVec 64)×List Fr)) h g3 (f:=fun s3:Ss×Int×List (BitVec 64)×List Fr=>
    if s3.2.1<((S k).length:Int) then
    if 0<=s3.2.1/\s3.2.1<((S k).length:Int) then
    if 0<=(gl (0:Int) (S k) s3.2.1.toNat)/\(gl (0:Int) (S k) s3.2.1.toNat)<(s3.2.2.1.length:Int) then
    Option.bind (CR (s.1,s3.2.2) s3.1 (gl (0:Int) (S k) s3.2.1.toNat) (gl (0#64:(BitVec 64)) s3.2.2.1 ((gl (0:Int) (S k) s3.2.1.toNat).toNat))) (fun r5=>
    some (Sum.inl ((r5.1,AG (s3.2.1+1),r5.2.1,r5.2.2))))
    else none
    else none
    else some (Sum.inr (Sum.inl ((s3.1,AG ((k:Int)+1),s3.2.2.1,s3.2.2.2))))) (ss:=ss2) (by
     intro j ss3 hj
     have:=g3 _ (BS (d:=0) hj)
     simp only[H6]
     rw[AB (by omega),AB (by omega),AB (by omega),AE (e:=(j:Int)+1) (by omega) (by omega)]) h3
    (Q:=fun b=>∃ s',b=Sum.inl s' /\(s'.2=(((k+1:Nat):Int),s.2.1,s.2.2)/\RV s'.1/\∀ f g y,In s'.1 f g y↔In (mR ss (vI s (BY l) s.2.2.length)) f g y\/((y∈ys\/∃ j,j<k+1/\y∈S j)/\Pr s y (gl 0#64 s.2.1 y.toNat) f g))) (by
     intro ss3 h5 h6
     simp only
     rw[AD (by omega),AE (e:=(k:Int)+1) (by omega) (by omega)]
     refine⟨_,rfl,_,rfl,rfl,h5,fun f g y=> ?_⟩
     simp only
     rw[h6,h4]
     constructor
     ·rintro ((h|⟨h|⟨j,hj,hjy⟩,h'⟩)|⟨h,h'⟩)
      ·exact .inl h
      ·exact .inr ⟨.inl h,h'⟩
      ·exact .inr ⟨.inr ⟨j,by omega,hjy⟩,h'⟩
      ·exact .inr ⟨.inr ⟨k,by omega,h⟩,h'⟩
     ·rintro (h|⟨h|⟨j,hj,hjy⟩,h'⟩)
      ·exact .inl (.inl h)
      ·exact .inl (.inr ⟨.inl h,h'⟩)
      ·by_cases kP:j=k
       ·subst kP;exact .inr ⟨hjy,h'⟩
       ·exact .inl (.inr ⟨.inr ⟨j,by omega,hjy⟩,h'⟩))
   obtain⟨b,hb,s',rfl,hs'⟩:=key
   exact⟨s',hb,hs'⟩
  ·rintro⟨ss2,st⟩ ⟨hst,h3,h4⟩
   simp only at hst h3 h4
   subst hst
   simp only
   rw[AD (by omega)]
   exact⟨_,rfl,rfl,h3,h4⟩
  ·simp only
   rw[h2]
   constructor
   ·rintro (h|⟨h,h'⟩)
    ·exact .inl h
    ·exact .inr ⟨.inl h,h'⟩
   ·rintro (h|⟨h|⟨j,hj,_⟩,h'⟩)
    ·exact .inl h
    ·exact .inr ⟨h,h'⟩
    ·omega
theorem A28 (s:Sp) {q b:Int} (q0:0<=q) (q1:q<=4294967295) (b0:0<=b) (b1:b<4):EA s (q,b, -1, -1,0):=⟨by simp only;omega,.inl (by simp)⟩
theorem HI.gw {s:Sp} {q:Rows} {n:Int} {ss:Ss} {r:Ro} (h:HI s q n ss r) {l:List AH} (hl:∀ i∈l,i∈q.flatten) {w:BitVec 64} (hw:Rf s q w):Gw s l w:=by
 intro hn
 rcases hw with hw|⟨k,hk,p,x,o⟩
 ·exact absurd hw hn.1
 ·have hr:=o.JE h.hb.bv.vs (h.hb.fit hk).1
  have h3:=hn.2.2
  rw[hr.2.2.1] at h3
  obtain⟨i,hi,he⟩:=KO.1 h3
  rw[h.hb.uniq (hl i hi) hk he] at hi
  exact⟨k,hi,p,x,o⟩
structure Rch (R:Int->Prop) (s:Sp) (q:Rows) (r:Ro) (l:List AH):Prop where
 ob:∀ i∈l,∀ la oa pa a x,OB s i la oa pa a x->R a->∀ j ya,1<=j->j<=x.1->DK (sz s.1) la (pa+j)=some ya->Wn (BY l) s (gl 0#64 s.2.1 ya.toNat)->R (((gl 0#64 s.2.1 ya.toNat).toNat:Int)-1)
 rt:∀ i:Nat,i<32->gl false r.1 i=true->Wn (BY l) s (gl 0#64 r.2 i)->R (((gl 0#64 r.2 i).toNat:Int)-1)
 sl:∀ y,Slot s q y->(fr s.2.2 (y / sz s.1)).1∉BY l->Wn (BY l) s (gl 0#64 s.2.1 y.toNat)->R (((gl 0#64 s.2.1 y.toNat).toNat:Int)-1)
def Dn (R:Int->Prop) (h:Hs) (l:List AH) (B8:AH) (h' :Hs) (u:Int):Prop:=
 ∃ l0 EO t to lb m mv ys ws r' VG st,OR R h.2.1 h.2.2.1 h.2.2.2.1 h.2.2.2.2.1 h.2.2.2.2.2.1 l B8 l0 EO t to lb m mv ys ws r' /\Sin h.2.1 h.2.2.2.2.1 l EO t to lb m mv ys ws VG ∧
  h' =(h.1,NG t ws l,X4 h.2.2.1 l B8 to,xA h.2.2.2.1 B8 to,VG,r',h.2.2.2.2.2.2.1,st,h.2.2.2.2.2.2.2.2)/\u=to.2.2.2.2-B8.2.2.2.2
theorem Dn.hv {R:Int->Prop} {N:Int} {h:Hs} {l:List AH} {B8:AH} {h' :Hs} {u:Int} (v:HV N h) (d:Dn R h l B8 h' u):HV (N+1) h' :=by
 obtain⟨l0,EO,t,to,lb,m,mv,ys,ws,r',VG,st,h1,h2,rfl, -⟩:=d
 have:=AC7 h.2.2.2.1 B8 to
 have:=v.n1
 exact⟨v.g,h1.done h2,by simp only;rw[h1.okN.2];exact v.ql,by simp only;omega⟩
theorem Tg.cd {N:Int} {h:Hs} (v:HV N h) (hN:N<=4294967295) {l:List AH} {B8:AH} (g:Tg h l B8):(∃ l0 EO,Cd h.2.1 h.2.2.1 l B8 l0 EO)/\(B8∈h.2.2.1.flatten\/(B8.1=h.2.2.2.1/\B8.2.2.2.2=0/\0<=B8.2.1/\B8.2.1<h.2.2.1.length)):=by
 have hv:=v.vs
 rcases g.tgt with ht|ht
 ·obtain⟨EO,l0,h1,h2⟩:=v.hi.hb.full B8 ht
  have hf:=v.hi.hb.fit ht
  exact⟨⟨l0,EO,v.hi.hb,g.sub,hf.1,g.out,fun hw=>by omega,h1,h2⟩,.inl ht⟩
 ·have h0:gl ((0,0,0,0,0):AH) l 0∈l:=BS (fK.2 g.ne)
  obtain⟨⟨r0,r1⟩, -⟩:=(EH.1 v.hi.hb.bv.ok).1.row (g.sub _ h0)
  have hql:=v.ql
  obtain⟨-, -,htb⟩:=v.g.ru _ r0 (by omega)
  have hg:=v.g.n
  generalize hT:(ru h.1 (gl ((0,0,0,0,0):AH) l 0).2.1).2.2.2=T at htb ht
  have hTr:0<=T/\T<h.1.2.1.length:=by
   unfold FW at htb
   rw[hT] at htb
   by_cases X5:(gl ((0,0,0,0,0):AH) l 0).2.1=(h.1.2.1.length:Int)-1
   ·have:T=(gl ((0,0,0,0,0):AH) l 0).2.1:=ALF fun hn=>htb (.inl ⟨X5,hn⟩)
    omega
   ·have h1:¬(T<=(gl ((0,0,0,0,0):AH) l 0).2.1\/(h.1.2.1.length:Int)-1<T):=fun hn=>htb (.inr ⟨by omega,hn⟩)
    omega
  subst ht
  have hn0:=v.hi.n0
  have hn1:=v.n1
  refine⟨⟨[],[],v.hi.hb,g.sub,A28 _ hn0 (by omega) hTr.1 (by omega),g.out,fun _=> ?_,.inl ⟨rfl,rfl⟩,rfl⟩,.inr ⟨rfl,rfl,hTr.1,by simp only;omega⟩⟩
  refine ANT.2 fun x hx=> ?_
  obtain⟨⟨x0,x1⟩,hxo⟩:=CD.1 hx
  simp only at hxo
  have:=v.hi.hb.bv.cov x x0 x1 (by rw[hxo];omega)
  obtain⟨i,hi,he⟩:=C6.1 this
  have:=v.hi.seq i hi
  omega
theorem SP {σ α:Type} {X:Option α} {Q:α->Prop} (h:∃ x,X=some x/\Q x):∃ b,Option.map (Sum.inr (α:=σ)) X=some (Sum.inr b)/\Q b:=by
 obtain⟨x,rfl,hx⟩:=h;exact⟨x,rfl,hx⟩
theorem AFY {α β:Type} {d:α} {n:Nat} (val:Nat->α) {a0:List α} {f:List α×Int->Option ((List α×Int) ⊕ β)} (hs:∀ (k:Nat) acc,k<n->acc.length=a0.length+k->f (acc,(k:Int))=some (.inl (acc++ [val k],(k:Int)+1))) {Q:β->Prop}
  (he:∀ acc,acc.length=a0.length+n->(∀ k,k<n->gl d acc (a0.length+k)=val k)->(∀ k,k<a0.length->gl d acc k=gl d a0 k)->∃ b,f (acc,(n:Int))=some (.inr b)/\Q b):∃ b,AJ f (a0,0)=some b/\Q b:=by
 refine AN (f:=f) (fun k (st:List α×Int)=>st.2=(k:Int)/\st.1.length=a0.length+k/\(∀ j,j<k->gl d st.1 (a0.length+j)=val j)/\∀ j,j<a0.length->gl d st.1 j=gl d a0 j) Q n ?_ ?_ (s:=(a0,0)) ⟨rfl,rfl,fun j hj=>by omega,fun _ _=>rfl⟩
 ·rintro k ⟨acc,kk⟩ hk ⟨HU,hl,h1,h2⟩
  simp only at HU hl h1 h2
  subst HU
  refine .inl ⟨_,hs k acc hk hl,rfl,by simp only[JG,H7];omega,fun j hj=> ?_,fun j hj=> ?_⟩
  ·simp only
   by_cases kP:j=k
   ·subst kP
    rw[CK (xs:=acc++ [val j]) (by rw[JG,H7];omega),ALG (by omega)]
    simp only[hl,ZB,AO5]
   ·rw[YJ (by omega)];exact h1 j (by omega)
  ·simp only
   rw[YJ (by omega)];exact h2 j hj
 ·rintro⟨acc,kk⟩ ⟨HU,hl,h1,h2⟩
  simp only at HU hl h1 h2
  subst HU
  exact he acc hl h1 h2
theorem AZL (u:List Bool) (k:Nat):(zU u k).Pairwise (·< ·):=by
 induction k with
 |zero=>exact List.Pairwise.nil
 |succ k ih=>
  unfold zU
  split
  ·rw[sM]
   refine⟨ih,AIO _ _,fun a ha b hb=> ?_⟩
   obtain⟨j,hj,_,rfl⟩:=rZ.1 ha
   rw[GO.1 hb];omega
  ·rw[GG];exact ih
theorem AWV {l:List Int} (h:l.Pairwise (·< ·)) {j k:Nat} (hj:j<l.length) (hk:k<l.length) (he:gl 0 l j=gl 0 l k):j=k:=by
 rw[CK hj,CK hk] at he
 rcases Nat.lt_trichotomy j k with DM|DM|DM
 ·have:=AA3.1 h j k hj hk DM;omega
 ·exact DM
 ·have:=AA3.1 h k j hk hj DM;omega
theorem OR.obW {R:Int->Prop} {s0:Sp} {q:Rows} {n:Int} {ss:Ss} {r:Ro} {l:List AH} {B8:AH} {l0:List Int} {EO:List (Int×Int)} {t:Sp} {to:AH} {lb:List Int} {m mv:List (Int×Int)} {ys:List Int} {ws:List (BitVec 64)} {r' :Ro}
  (h:OR R s0 q n ss r l B8 l0 EO t to lb m mv ys ws r') {p a:Int} {x:Int×Int} (o:OB t to lb (EO++m) p a x):OB (t.1,ws,t.2.2) to lb (EO++m) p a x/\EA (t.1,ws,t.2.2) to:=by
 have hz:sz t.1=sz s0.1:=by rw[h.ci.sh]
 refine⟨⟨o.has,o.SO.zZ fun p x a hp ha=>⟨ha, ?_⟩,o.ta,o.JE⟩, ?_⟩
 ·have hr:=h.ci.SO.ta hp
  have hc:=DL h.ci.cy.vs h.ci.cy.fit h.ci.has hr.2.2.1 ha
  refine h.w2 a hc.1.1 fun hm=> ?_
  rw[hz] at ha
  obtain⟨_,p',a',x',j,o',j1,j2,he⟩:=h.yT hr.2.2.1 ha hm
  have:=o'.IA
  rcases h.ci.SO.apart hp (TA.app (m:=m) o'.ta) with ⟨h3,_⟩|h3|h3 <;> omega
 ·have hf:=h.ci.cy.fit
  refine⟨?_,hf.2⟩
  have:=hf.1
  have e1:ws.length=t.2.1.length:=by rw[h.wl,h.ci.wl]
  simp only
  rw[e1];exact this
theorem ANH {β:Type} {c:Cf} {s:Sp} {q:Rows} {rest:Int×Ss×Ro×Int×(Int×Int×Int×Int×Int×Int×Int×Int×Int)×Bool} (hv:VS s) (hN:OkN q) {l:List AH} (hl:∀ i∈l,i∈q.flatten/\0<=i.1) (H9:(BY l).Nodup) (zO:l.length<=1000000)
  (hq1:q.length<=4) (xZ:q.flatten.length<=64) {fin:Int×Hs->Option β} {f:Int×Hs->Option ((Int×Hs) ⊕ β)}
  (hs:∀ s6:Int×Hs,f s6=if s6.1<(l.length:Int) then
   if 0<=s6.1/\s6.1<(l.length:Int) then
   Option.bind (C1 s6.2.2.2.1 ((gl ((0,0,0,0,0):(Int×Int×Int×Int×Int)) l s6.1.toNat).1)) (fun r9=>
   Option.bind (FM s6.2.2.1 ((gl ((0,0,0,0,0):(Int×Int×Int×Int×Int)) l s6.1.toNat).1)) (fun JQ=>
   some (Sum.inl ((AG (s6.1+1),(s6.2.1,(s6.2.2.1.1,JQ.2),r9.1,s6.2.2.2.2))))))
   else none
   else Option.map Sum.inr (fin s6)) {Q:β->Prop}
  (he:∃ b,fin ((l.length:Int),(c,gvs s (BY l),aT q (BY l),rest))=some b/\Q b):∃ b,AJ f (0,(c,s,q,rest))=some b/\Q b:=by
 refine AN (f:=f) (fun k (st:Int×Hs)=>st=((k:Int),(c,gvs s (BY (l.take k)),aT q (BY (l.take k)),rest))) Q l.length ?_ ?_ (s:=(0,(c,s,q,rest))) ?_
 ·rintro k st hk rfl
  left
  rw[hs]
  simp only[H6]
  rw[AB (by omega),AB (by omega)]
  have hm:=BS (d:=((0,0,0,0,0):AH)) hk
  obtain⟨hi,hi0⟩:=hl _ hm
  have hrm:=hN.aT (BY (l.take k))
  have kN:(aT q (BY (l.take k))).flatten.length<=64:=by
   rw[X3];exact WZ (iY _ _) xZ
  have ADD:(gl ((0,0,0,0,0):AH) l k).1∉BY (l.take k):=by
   intro hm
   have h1:=H9
   rw[show BY l=BY (l.take k)++BY (gl ((0,0,0,0,0):AH) l k::l.drop (k+1)) from by
    conv=>lhs;rw[rY (d:=((0,0,0,0,0):AH)) l k hk]
    unfold BY;rw[ZQ],QA] at h1
   exact h1.2.2 _ hm _ (by unfold BY;rw[KU];exact oY) rfl
  rw[z5 (by rw[JF];omega) (fun x hx=>by have:=mV kN x hx;omega) hrm.nd (LI.2 ⟨hi,ADD⟩),BC]
  have hvk:=(AIB (C:=BY (l.take k)) hv (fun n hn=>by
   obtain⟨i,hi,rfl⟩:=KO.1 hn
   exact (hl i (xH hi)).2)).1
  rw[zQ hvk _ (by omega),BC,AE (by omega) (by omega)]
  refine⟨_,rfl, ?_⟩
  rw[z7 hk,AFR,ARX]
  rfl
 ·rintro st rfl
  rw[hs]
  simp only
  rw[AD (by omega),T5]
  exact SP he
 ·simp only[ACW]
  rw[show BY []=[] from rfl,AV4];rfl
abbrev hz0:Hs:=(((⟨#[]⟩:ByteArray),[],0),(0,[],[]),[],0,[],([],[]),0,(0,0,0,0,0,0,0,0,0),false)
theorem A29 {R:Int->Prop} {N:Int} {h:Hs} (v:HV N h) (hN:N<=4294967295) {l:List AH} (hl:l.length<=1000000) (hR:Rch R h.2.1 h.2.2.1 h.2.2.2.2.2.1 l):
  ∃ h' rep e,CC h l=some (h',rep,e)/\((e≠0/\h' =hz0)\/(e=0/\∃ B8 u,Tg h l B8/\Dn R h l B8 h' u)):=by
 suffices hh:∃ x,CC h l=some x/\((x.2.2≠0/\x.1=hz0)\/(x.2.2=0/\∃ B8 u,Tg h l B8/\Dn R h l B8 x.1 u)) by
  obtain⟨x,h1,h2⟩:=hh
  exact⟨x.1,x.2.1,x.2.2,h1,h2⟩
 obtain⟨B8,e,ht1,ht2⟩:=ANG v hl
 unfold CC
 rw[ht1,BC]
 rcases ht2 with he|⟨rfl,tg⟩
 ·rw[AB he];exact⟨_,rfl,.inl ⟨he,rfl⟩⟩
 rw[AD (show ¬¬((B8,(0:Int)).2=0) from IN rfl)]
 obtain⟨⟨l0,EO,cd⟩,tgt⟩:=tg.cd v hN
 obtain⟨l1,l2,l3⟩:=v.hi.hb.lens
 have hv:=v.vs
 have hn:=hv.n
 have n8:=VS.PN hv
 have IP:=tg.sub
 refine AN (fun k (st:Int×Int×(Int×Int×Int×Int))=>st.2.1=(k:Int)) _ l.length ?_ ?_ (s:=(0,0,(0,0,0,0))) rfl
 ·rintro k st hk hst
  left
  have hm:=IP _ (BS (d:=((0,0,0,0,0):AH)) hk)
  have hf:=(v.hi.hb.fit hm).1.1
  rw[hst]
  simp only[H6]
  rw[AB (by omega),AB (by omega),eD,OO hv (by omega) (by omega),BC,AE (e:=(k:Int)+1) (by omega) (by omega)]
  exact⟨_,rfl,rfl⟩
 intro st hst
 rw[hst,AD (by omega)]
 refine SP ?_
 rw[mK hn.2,BC]
 by_cases LY:st.1>((DH h.2.1.2.2).length:Int)
 ·rw[AB LY];exact⟨_,rfl,.inl ⟨by decide,rfl⟩⟩
 rw[AD LY,v.copy,BC,AFM hv v.hi.ro hl,BC]
 obtain⟨ys,ne,tG,he2,he3⟩:=AFN hv v.hi.rv hl
 rw[tG,BC]
 generalize hH:((zU h.2.2.2.2.2.1.1 32).filter fun x=>decide (Wn (BY l) h.2.1 (gl 0#64 h.2.2.2.2.2.1.2 (x-1).toNat)))=H
 have hHp:H.Pairwise (·< ·):=by rw[<-hH];exact (AZL _ _).filter _
 have hHm:∀ x,x∈H↔(∃ j:Nat,j<32/\gl false h.2.2.2.2.2.1.1 j=true/\x=(j:Int)+1)/\Wn (BY l) h.2.1 (gl 0#64 h.2.2.2.2.2.1.2 (x-1).toNat):=by
  intro x;rw[<-hH,WY,rZ,IW]
 have hHr:∀ k,k<H.length->1<=gl 0 H k/\gl 0 H k<=32:=by
  intro k hk
  obtain⟨⟨j,hj,_,he⟩,_⟩:=(hHm _).1 (BS (d:=0) hk)
  omega
 have hHl:H.length<=32:=by
  have h1:=mT h.2.2.2.2.2.1.1 32
  rw[<-hH];exact WZ (iY _ _) h1
 have kO:ys.length<=16384:=oT he2 fun y hy=>by have:=((he3 y).1 hy).2.1;omega
 have hyr:∀ k,k<ys.length->0<=gl 0 ys k/\gl 0 ys k<h.2.1.2.1.length:=fun k hk=>((he3 _).1 (BS (d:=0) hk)).2.1
 have hrl:=v.hi.ro.rl
 have hru:=v.hi.ro.ul
 dsimp only
 refine AFY (d:=0#64) (n:=H.length) (fun k=>gl 0#64 h.2.2.2.2.2.1.2 (gl 0 H k-1).toNat) ?_ ?_
 ·intro k acc hk AU1
  have:=hHr k hk
  simp only[VN] at AU1
  simp only[H6]
  rw[AB (by omega),AB (by omega),AE (e:=gl 0 H k-1) (by omega) (by omega),AB (by omega),AB (by simp only[H7];omega),AE (e:=(k:Int)+1) (by omega) (by omega)]
 intro ws1 hw1 hw2 _
 simp only[VN,ML] at hw1 hw2
 dsimp only
 rw[AD (by omega)]
 refine SP ?_
 refine AFY (d:=0#64) (n:=ys.length) (fun k=>gl 0#64 h.2.1.2.1 (gl 0 ys k).toNat) ?_ ?_
 ·intro k acc hk AU1
  have:=hyr k hk
  simp only[H6]
  rw[AB (by omega),AB (by omega),AB (by omega),AB (by simp only[H7];omega),AE (e:=(k:Int)+1) (by omega) (by omega)]
 intro words hw3 hw4 hw5
 dsimp only
 rw[AD (by omega)]
 refine SP ?_
 have hwk:∀ k,k<H.length->gl 0#64 words k=gl 0#64 h.2.2.2.2.2.1.2 (gl 0 H k-1).toNat:=fun k hk=>by rw[hw5 k (by omega),hw2 k hk]
 have hwy:∀ k,k<ys.length->gl 0#64 words (H.length+k)=gl 0#64 h.2.1.2.1 (gl 0 ys k).toNat:=fun k hk=>by rw[<-hw1];exact hw4 k hk
 have y_:∀ y∈ys,Slot h.2.1 h.2.2.1 y/\(fr h.2.1.2.2 (y / sz h.2.1.1)).1∉BY l:=by
  intro y hy
  obtain⟨⟨f,g,h1,h2,h3⟩,h4,_⟩:=(he3 y).1 hy
  obtain⟨h5,h6⟩:=v.hi.ins f g y h1
  have ff:=HD hv h4.1 h4.2
  exact⟨h5,fun hC=>h3 (Y7.2 ⟨by rw[h6];exact ff,by rw[h6];exact hC⟩)⟩
 have grf:Grf R h.2.1 l:=by
  intro i hi la oa pa a x o hRa j ya j1 j2 zY
  exact⟨v.hi.gw IP (v.hi.ref ya ⟨i,IP i hi,la,oa,pa,a,x,j,o,j1,j2,zY⟩),hR.ob i hi la oa pa a x o hRa j ya j1 j2 zY⟩
 have gws:∀ w∈words,Gw h.2.1 l w/\(Wn (BY l) h.2.1 w->R ((w.toNat:Int)-1)):=by
  intro w hw
  obtain⟨k,hk,rfl⟩:=GR (d:=0#64) hw
  rw[hw3,hw1] at hk
  by_cases hkH:k<H.length
  ·rw[hwk k hkH]
   obtain⟨⟨j,hj,hu,he⟩,_⟩:=(hHm _).1 (BS (d:=0) hkH)
   rw[he,show ((j:Int)+1-1).toNat=j from by omega]
   exact⟨v.hi.gw IP (.inr (v.hi.root j hj hu).2),hR.rt j hj hu⟩
  ·obtain⟨k',rfl⟩:∃ k',k=H.length+k' :=⟨k-H.length,by omega⟩
   rw[hwy k' (by omega)]
   obtain⟨h1,h2⟩:=y_ _ (BS (d:=0) (k:=k') (xs:=ys) (by omega))
   exact⟨v.hi.gw IP (v.hi.ref _ h1),hR.sl _ h1 h2⟩
 obtain⟨res,hr1,rS⟩:=AZJ cd hl grf (ws:=words) (by omega) gws
 rw[hr1,BC]
 rcases rS with rS|⟨t,to,lb,m,mv,out,rfl,ci,hol,him⟩
 ·rw[AB rS];exact⟨_,rfl,.inl ⟨rS,rfl⟩⟩
 rw[AD (show ¬¬((to,mv,out,(0:Int),t.2.1,t.2.2,l).2.2.2.1=0) from IN rfl)]
 refine AL1 (d:=0#64) (n:=H.length) (fun k=>gl 0 H k-1) (fun k=>gl 0#64 out k) (fun k hk=>by have:=hHr k hk;omega) (fun j k hj hk he=>AWV hHp hj hk (by omega)) ?_ ?_
 ·intro k rs hk hrs
  have:=hHr k hk
  simp only[H6]
  rw[AB (by omega),AB (by omega),AB (by omega),AE (e:=gl 0 H k-1) (by omega) (by omega),AB (by omega),AE (e:=(k:Int)+1) (by omega) (by omega)]
 intro rs hrs A4R A2A
 dsimp only
 rw[AD (by omega)]
 refine SP ?_
 refine AL1 (d:=0#64) (n:=ys.length) (fun k=>gl 0 ys k) (fun k=>gl 0#64 out (H.length+k)) (fun k hk=>by have:=hyr k hk;rw[ci.wl];exact this) (fun j k hj hk he=>AWV he2 hj hk he) ?_ ?_
 ·intro k ws hk hws
  have:=hyr k hk
  rw[ci.wl] at hws
  simp only[H6]
  rw[AB (by omega),AB (by omega),AE (e:=(H.length:Int)+k) (by omega) (by omega),AB (by omega),AB (by omega),AE (e:=(k:Int)+1) (by omega) (by omega),show ((H.length:Int)+k).toNat=H.length+k from by omega]
 intro ws hws A4S A4T
 rw[ci.wl] at hws
 dsimp only
 rw[AD (by omega)]
 refine SP ?_
 have stp:OR R h.2.1 h.2.2.1 h.2.2.2.1 h.2.2.2.2.1 h.2.2.2.2.2.1 l B8 l0 EO t to lb m mv ys ws (h.2.2.2.2.2.1.1,rs):=by
  refine⟨v.hi,tg.pfx.pre v.hi.hb IP,tgt,cd,ci,he3,hws,fun y hy=> ?_,fun y y0 hy=> ?_,rfl,hrs,fun i hi hu=> ?_,fun i hi hu=> ?_⟩
  ·obtain⟨k,hk,rfl⟩:=GR (d:=0) hy
   rw[A4S k hk,←hwy k hk]
   exact him _ (by omega)
  ·refine A4T y.toNat fun k hk he=>hy ?_
   rw[show y=gl 0 ys k from by omega]
   exact BS hk
  ·by_cases hw:Wn (BY l) h.2.1 (gl 0#64 h.2.2.2.2.2.1.2 i)
   ·have hm:((i:Int)+1)∈H:=(hHm _).2 ⟨⟨i,hi,hu,rfl⟩,by rw[show ((i:Int)+1-1).toNat=i from by omega];exact hw⟩
    obtain⟨k,hk,he⟩:=GR (d:=0) hm
    have h1:=A4R k hk
    have h2:=hwk k hk
    rw[he,show ((i:Int)+1-1).toNat=i from by omega] at h1 h2
    simp only
    rw[h1,←h2]
    exact him k (by omega)
   ·refine .inl ⟨hw, ?_⟩
    refine A2A i fun k hk he=>hw ?_
    have h1:=((hHm _).1 (BS (d:=0) hk)).2
    rw[he] at h1
    simpa using h1
  ·refine A2A i fun k hk he=> ?_
   obtain⟨⟨j,hj,hu',wA⟩,_⟩:=(hHm _).1 (BS (d:=0) hk)
   rw[show j=i from by omega,hu] at hu'
   cases hu'
 have hvT:=stp.vsT
 have hz:sz t.1=sz h.2.1.1:=by rw[ci.sh]
 have hml:=ci.ART cd
 have hS:∀ k,k<mv.length->∃ S:List Int,(CL (t.1,ws,t.2.2) (gl (0,0) mv k).2=some (S,0)/\S.length<=1000000/\∀ y∈S,0<=y/\y<ws.length)∧
   ∀ y,y∈S↔∃ p x j,OB t to lb (EO++m) p (gl (0,0) mv k).2 x/\1<=j/\j<=x.1/\DK (sz h.2.1.1) lb (p+j)=some y:=by
  intro k hk
  obtain⟨i,la,oa,pa,p,cc⟩:=ci.w_ k hk
  obtain⟨ow,fw⟩:=stp.obW cc.dst
  have hf:=ow.fields hvT fw
  have hro:=cc.dst.IA
  have AAT:∀ j:Nat,j<(gl (0,0) m k).1.toNat->∃ y,DK (sz h.2.1.1) lb (p+(1+(j:Int)))=some y/\(0<=y/\y<ws.length):=by
   intro j hj
   obtain⟨y,hy⟩:=cc.dst.fld ci.cy.vs ci.cy.fit (k:=1+(j:Int)) (by omega) (by omega)
   have hc:=DL ci.cy.vs ci.cy.fit ci.has (by omega) hy
   rw[hz] at hy
   rw[ci.wl] at hc
   exact⟨y,hy,by rw[hws];exact hc.1⟩
  have WJ:∀ y,y∈mU (sz t.1) lb p (gl (0,0) m k).1.toNat↔∃ j:Nat,j<(gl (0,0) m k).1.toNat/\DK (sz h.2.1.1) lb (p+(1+(j:Int)))=some y:=by
   intro y
   rw[hz]
   constructor
   ·intro hy
    obtain⟨j,hj,rfl⟩:=GR (d:=0) hy
    rw[NV] at hj
    obtain⟨y,hy1,_⟩:=AAT j hj
    refine⟨j,hj, ?_⟩
    rw[sA hj,hy1];rfl
   ·rintro⟨j,hj,hy⟩
    have:gl 0 (mU (sz h.2.1.1) lb p (gl (0,0) m k).1.toNat) j=y:=by rw[sA hj,hy];rfl
    rw[<-this]
    exact BS (by rw[NV];exact hj)
  refine⟨_,⟨hf,by rw[NV];omega,fun y hy=> ?_⟩,fun y=> ?_⟩
  ·obtain⟨j,hj,hy⟩:=(WJ y).1 hy
   obtain⟨y',hy1,hy2⟩:=AAT j hj
   rw[hy] at hy1
   rw[T6 hy1];exact hy2
  ·rw[WJ]
   constructor
   ·rintro⟨j,hj,hy⟩
    exact⟨p,_,1+(j:Int),cc.dst,by omega,by omega,hy⟩
   ·rintro⟨p',x',j,o',j1,j2,hy⟩
    have A4U :=o'.IA
    have hpp:p=p' :=ci.same cc A4U.2.2.1 (by rw[<-hz];exact o'.JE)
    subst hpp
    have hx:x' =gl (0,0) m k:=by
     rcases ci.SO.apart o'.ta cc.dst.ta with ⟨_,h3⟩|h3|h3
     ·exact h3
     ·omega
     ·omega
    rw[hx] at j2
    exact⟨(j-1).toNat,by omega,by rw[show (1+((j-1).toNat:Int))=j from by omega];exact hy⟩
 have hSc:∃ S:Nat->List Int,∀ k,k<mv.length->(CL (t.1,ws,t.2.2) (gl (0,0) mv k).2=some (S k,0)/\(S k).length<=1000000/\∀ y∈S k,0<=y/\y<ws.length)∧
   ∀ y,y∈S k↔∃ p x j,OB t to lb (EO++m) p (gl (0,0) mv k).2 x/\1<=j/\j<=x.1/\DK (sz h.2.1.1) lb (p+j)=some y:=
  ⟨fun k=>if hk:k<mv.length then Classical.choose (hS k hk) else [],fun k hk=>by simp only[dif_pos hk];exact Classical.choose_spec (hS k hk)⟩
 obtain⟨S,hS'⟩:=hSc
 obtain⟨VG,hn1,hn2,hn3⟩:=AS5 hvT v.hi.rv hl (ys:=ys) (fun y hy=>by simp only;rw[hws];exact ((he3 y).1 hy).2.1) (by omega) (mv:=mv) (by omega) S (fun k hk=>(hS' k hk).1)
 have rN:((h.2.1.1,ws,t.2.2):Sp)=(t.1,ws,t.2.2):=by rw[ci.sh]
 rw[rN,hn1,BC]
 have hcf:vI (t.1,ws,t.2.2) (BY l) t.2.2.length=vI h.2.1 (BY l) h.2.1.2.2.length:=by
  unfold vI
  rw[ci.fl]
  refine sP fun x hx=> ?_
  obtain⟨x0,x1⟩:=MJ.1 hx
  rw[qP]
  exact ci.inC cd x0 x1
 have sin:Sin h.2.1 h.2.2.2.2.1 l EO t to lb m mv ys ws VG :=by
  refine⟨hn2,fun f g y=> ?_⟩
  rw[hn3]
  simp only
  rw[hcf]
  have:(∃ k,k<mv.length/\y∈S k)↔∃ k,k<mv.length/\∃ p x j,OB t to lb (EO++m) p (gl (0,0) mv k).2 x/\1<=j/\j<=x.1/\DK (sz h.2.1.1) lb (p+j)=some y:=
   ⟨fun ⟨k,hk,hy⟩=>⟨k,hk,((hS' k hk).2 y).1 hy⟩,fun ⟨k,hk,hy⟩=>⟨k,hk,((hS' k hk).2 y).2 hy⟩⟩
  rw[this]
 dsimp only
 rw[<-ci.sh]
 have hN0:=(EH.1 v.hi.hb.bv.ok).1
 refine ANH (s:=(t.1,ws,t.2.2)) (q:=h.2.2.1) hvT hN0 (fun i hi=>⟨IP i hi,(v.hi.hb.fit (IP i hi)).1.1.1⟩) tg.pfx.AV7 hl l1 l2 (fun s6=>rfl) ?_
 dsimp only
 have hrl:=oU v.hi.ro
 have kN:(aT h.2.2.1 (BY l)).flatten.length<=64:=by
  rw[X3];exact WZ (iY _ _) l2
 have AIC:=ci.seq
 have vM:=ci.iD
 have hn0:=v.hi.n0
 have hn1:=v.n1
 have fin:∀ {x:Hs×(Int×Int×Int×Int)×Int} {Q:Rows} {n' :Int},X4 h.2.2.1 l B8 to=Q->xA h.2.2.2.1 B8 to=n' ->x.2.2=0->(∃ st,x.1=(h.1,gvs (t.1,ws,t.2.2) (BY l),Q,n',VG,(h.2.2.2.2.2.1.1,rs),h.2.2.2.2.2.2.1,st,h.2.2.2.2.2.2.2.2))→
   ((x.2.2≠0/\x.1=hz0)\/(x.2.2=0/\∃ B8 u,Tg h l B8/\Dn R h l B8 x.1 u)):=by
  rintro x Q n' rfl rfl h1 ⟨st,h2⟩
  exact .inr ⟨h1,B8,_,tg,l0,EO,t,to,lb,m,mv,ys,ws,_,VG,st,stp,sin,h2,rfl⟩
 by_cases c1:B8.2.2.2.2>0
 ·have ht:B8∈h.2.2.1.flatten:=by
   rcases tgt with ht|ht
   ·exact ht
   ·omega
  rw[AB c1,vL (by rw[JF];omega) (fun x hx=>by have:=mV kN x hx;omega) (hN0.aT _) (LI.2 ⟨ht,cd.out⟩) AIC.symm vM.symm,BC,BC]
  dsimp only
  rw[hrl,BC]
  exact⟨_,rfl,fin (by unfold X4;rw[AB c1]) (by unfold xA;rw[AB c1]) rfl ⟨_,rfl⟩⟩
 ·rw[AD c1]
  have htn:B8.1=h.2.2.2.1/\0<=B8.2.1/\B8.2.1<h.2.2.1.length:=by
   rcases tgt with ht|ht
   ·have:=(v.hi.hb.fit ht).2;omega
   ·exact⟨ht.1,ht.2.2⟩
  by_cases c2:to.2.2.2.2>0
  ·rw[AB c2,AS1 (by rw[JF];omega) (fun x hx=>by have:=mV kN x hx;omega) (by omega) (by rw[JF];omega) (fun i hi=>by
    have:=v.hi.seq i (LI.1 hi).1
    omega),BC,BC]
   dsimp only
   rw[hrl,BC,AE (e:=h.2.2.2.1+1) (by omega) (by omega)]
   exact⟨_,rfl,fin (by unfold X4;rw[AD c1,AB c2]) (by unfold xA;rw[AD c1,AB c2]) rfl ⟨_,rfl⟩⟩
  ·rw[AD c2,BC]
   dsimp only
   rw[hrl,BC]
   exact⟨_,rfl,fin (by unfold X4;rw[AD c1,AD c2]) (by unfold xA;rw[AD c1,AD c2]) rfl ⟨_,rfl⟩⟩
abbrev Cu:Type:=Int×Bool×Int
def mZ (q:Rows):Int:=if gl [] q (q.length-1)=[] then -1 else (gl ((0,0,0,0,0):AH) (gl [] q (q.length-1)) ((gl [] q (q.length-1)).length-1)).1
def qJ (q:Rows) (k:Cu):Cu:=if k.1=(q.length:Int)-1/\k.2.1=false then (k.1,true,mZ q) else k
def aU (q:Rows):Nat->Cu->Cu
 |0,k=>qJ q k
 |n+1,k=>if gl [] q k.1.toNat=[] then aU q n (k.1+1,false,0) else qJ q k
def z9 (q:Rows) (j:Cu):List AH:=(gl [] q j.1.toNat).filter fun i=>decide (j.1<(q.length:Int)-1\/i.1<=j.2.2)
def m_ (z batch:Int):Int->Int->List AH->List AH
 |_,_,[]=>[]
 |f,n,i::r=>if f-cl z i.2.2.2.2<0\/(batch≠0/\n=batch) then [] else i::m_ z batch (f-cl z i.2.2.2.2) (n+1) r
def VY (c:Cf) (s:Sp) (q:Rows) (j:Cu):List AH×Cu×Bool:=
 if z9 q j=[] then ([],j,true) else (m_ (sz s.1) (ru c j.1).2.2.1 (DH s.2.2).length 0 (z9 q j),j,false)
noncomputable def AC8 (c:Cf) (s:Sp) (q:Rows) (j:Cu):Option (List AH×Cu×Bool):=
 if 0<=j.1/\j.1<(q.length:Int) then
 AJ (σ:=List AH×Int) (β:=List AH×Cu×Bool) (fun s2=>
 if s2.2<((gl ([]:List AH) q j.1.toNat).length:Int) then
 if 0<=s2.2/\s2.2<((gl ([]:List AH) q j.1.toNat).length:Int) then
 if j.1<(AG ((q.length:Int)-1)) then
 if (s2.1.length+([gl ((0,0,0,0,0):AH) (gl ([]:List AH) q j.1.toNat) s2.2.toNat]:List AH).length)*40<=140737488355328 then
 some (Sum.inl ((s2.1++([gl ((0,0,0,0,0):AH) (gl ([]:List AH) q j.1.toNat) s2.2.toNat]:List AH),AG (s2.2+1))))
 else none
 else if (gl ((0,0,0,0,0):AH) (gl ([]:List AH) q j.1.toNat) s2.2.toNat).1<=j.2.2 then
 if (s2.1.length+([gl ((0,0,0,0,0):AH) (gl ([]:List AH) q j.1.toNat) s2.2.toNat]:List AH).length)*40<=140737488355328 then
 some (Sum.inl ((s2.1++([gl ((0,0,0,0,0):AH) (gl ([]:List AH) q j.1.toNat) s2.2.toNat]:List AH),AG (s2.2+1))))
 else none
 else some (Sum.inl ((s2.1,AG (s2.2+1))))
 else none
 else Option.map Sum.inr (if (s2.1.length:Int)=0 then
 some (([],j,true))
 else Option.bind (C4 s) (fun r2=>
 if 0<=j.1/\j.1<(c.2.1.length:Int) then
 AJ (σ:=List AH×Int×Int) (β:=List AH×Cu×Bool) (fun s3=>
 if s3.2.2<(s2.1.length:Int) then
 if 0<=s3.2.2/\s3.2.2<(s2.1.length:Int) then
 Option.bind (BH s (gl ((0,0,0,0,0):AH) s2.1 s3.2.2.toNat)) (fun r3=>
 if (AG (s3.2.1-r3))<0 then
 some (Sum.inr ((s3.1,j,false)))
 else if ¬(gl ((0,0,0,0):(Nat×Int×Int×Int)) c.2.1 j.1.toNat).2.2.1=0 then
 if (s3.1.length:Int)=(gl ((0,0,0,0):(Nat×Int×Int×Int)) c.2.1 j.1.toNat).2.2.1 then
 some (Sum.inr ((s3.1,j,false)))
 else if (s3.1.length+([gl ((0,0,0,0,0):AH) s2.1 s3.2.2.toNat]:List AH).length)*40<=140737488355328 then
 some (Sum.inl ((s3.1++([gl ((0,0,0,0,0):AH) s2.1 s3.2.2.toNat]:List AH),AG (s3.2.1-r3),AG (s3.2.2+1))))
 else none
 else if (s3.1.length+([gl ((0,0,0,0,0):AH) s2.1 s3.2.2.toNat]:List AH).length)*40<=140737488355328 then
 some (Sum.inl ((s3.1++([gl ((0,0,0,0,0):AH) s2.1 s3.2.2.toNat]:List AH),AG (s3.2.1-r3),AG (s3.2.2+1))))
 else none)
 else none
 else some (Sum.inr ((s3.1,j,false)))) (([],(r2.length:Int),0))
 else none))) (([],0))
 else none
theorem z_ {c:Cf} {s:Sp} {q:Rows} (hv:VS s) (hx:∀ x∈q,x.length<=1000000) (hq:q.length<=1000000) (hw:∀ i∈q.flatten,0<=i.2.2.2.2/\i.2.2.2.2<=1000000) (hc:q.length<=c.2.1.length) {j:Cu} (j0:0<=j.1) (j1:j.1<q.length):AC8 c s q j=some (VY c s q j):=by
 have hrl:=hx _ (BS (d:=([]:List AH)) (k:=j.1.toNat) (xs:=q) (by omega))
 have hn:=hv.n
 have hwr:∀ i∈gl [] q j.1.toNat,0<=i.2.2.2.2/\i.2.2.2.2<=1000000:=fun i hi=>hw i (kT.2 ⟨_,BS (by omega),hi⟩)
 unfold AC8
 rw[AB (by omega),AE (e:=(q.length:Int)-1) (by omega) (by omega)]
 refine (AN (fun k (st:List AH×Int)=>st=(((gl [] q j.1.toNat).take k).filter (fun i=>decide (j.1<(q.length:Int)-1\/i.1<=j.2.2)),(k:Int))) (fun b=>b=VY c s q j) (gl [] q j.1.toNat).length ?_ ?_ (s:=([],0)) (by simp)).elim fun b hb=>by rw[hb.1,hb.2]
 ·rintro k st hk rfl
  left
  have kN:=S6 (fun i:AH=>decide (j.1<(q.length:Int)-1\/i.1<=j.2.2)) (gl [] q j.1.toNat) k
  simp only[H6]
  rw[AB (by omega),AB (by omega),eF (d:=((0,0,0,0,0):AH)) _ _ hk,AE (e:=(k:Int)+1) (by omega) (by omega)]
  by_cases c1:j.1<(q.length:Int)-1
  ·rw[AB c1,AB (by simp only[H7];omega),AB (HF (.inl c1))]
   exact⟨_,rfl,rfl⟩
  ·rw[AD c1]
   by_cases c2:(gl ((0,0,0,0,0):AH) (gl [] q j.1.toNat) k).1<=j.2.2
   ·rw[AB c2,AB (by simp only[H7];omega),AB (HF (.inr c2))]
    exact⟨_,rfl,rfl⟩
   ·rw[AD c2,AD (by simp only[IW];omega),GG]
    exact⟨_,rfl,rfl⟩
 ·rintro st rfl
  simp only
  rw[AD (by omega),T5]
  have e1:(gl [] q j.1.toNat).filter (fun i=>decide (j.1<(q.length:Int)-1\/i.1<=j.2.2))=z9 q j:=rfl
  rw[e1]
  refine SP ?_
  unfold VY
  have zO:(z9 q j).length<=1000000:=WZ (iY _ _) hrl
  have hlw:∀ i∈z9 q j,0<=i.2.2.2.2/\i.2.2.2.2<=1000000:=fun i hi=>hwr i (WY.1 hi).1
  by_cases h0:z9 q j=[]
  ·rw[AB (by rw[h0];rfl),AB h0];exact⟨_,rfl,rfl⟩
  rw[AD (by have:=fK.2 h0;omega),AD h0,mK hn.2,BC,AB (by omega)]
  generalize hL:z9 q j=L at zO hlw
  have hru:gl (0,0,0,0) c.2.1 j.1.toNat=ru c j.1:=rfl
  simp only[hru]
  generalize (ru c j.1).2.2.1=B
  have kN:(DH s.2.2).length<=s.2.2.length:=UK s.2.2 (-1)
  obtain⟨z1,z2⟩:=OG hv.sh
  have key:=AN (β:=List AH×Cu×Bool) (f:=fun s3:List AH×Int×Int=>
   if s3.2.2<(L.length:Int) then
   if 0<=s3.2.2/\s3.2.2<(L.length:Int) then
   Option.bind (BH s (gl ((0,0,0,0,0):AH) L s3.2.2.toNat)) (fun r3=>
   if (AG (s3.2.1-r3))<0 then
   some (Sum.inr ((s3.1,j,false)))
   else if ¬B=0 then
   if (s3.1.length:Int)=B then
   some (Sum.inr ((s3.1,j,false)))
   else if (s3.1.length+([gl ((0,0,0,0,0):AH) L s3.2.2.toNat]:List AH).length)*40<=140737488355328 then
   some (Sum.inl ((s3.1++([gl ((0,0,0,0,0):AH) L s3.2.2.toNat]:List AH),AG (s3.2.1-r3),AG (s3.2.2+1))))
   else none
   else if (s3.1.length+([gl ((0,0,0,0,0):AH) L s3.2.2.toNat]:List AH).length)*40<=140737488355328 then
   some (Sum.inl ((s3.1++([gl ((0,0,0,0,0):AH) L s3.2.2.toNat]:List AH),AG (s3.2.1-r3),AG (s3.2.2+1))))
   else none)
   else none
   else some (Sum.inr ((s3.1,j,false))))
   (fun k (st:List AH×Int×Int)=>st.2.2=(k:Int)/\st.1.length=k/\(0<=st.2.1/\st.2.1<=64)/\m_ (sz s.1) B (DH s.2.2).length 0 L=st.1++m_ (sz s.1) B st.2.1 k (L.drop k))
   (fun b=>b=(m_ (sz s.1) B (DH s.2.2).length 0 L,j,false)) L.length ?_ ?_ (s:=([],((DH s.2.2).length:Int),0)) ⟨rfl,rfl,by simp only;omega,by simp⟩
  ·obtain⟨b,X5,rM⟩:=key
   exact⟨b,X5,rM⟩
  ·rintro k ⟨acc,f,kk⟩ hk ⟨HU,MY,hf,he⟩
   simp only at HU MY hf he
   subst HU
   have hm:=hlw _ (BS (d:=((0,0,0,0,0):AH)) hk)
   have hcl:=dZ z1 hm.1
   have XD:L.drop k=gl ((0,0,0,0,0):AH) L k::L.drop (k+1):=by
    rw[CK hk];exact AA4 hk
   rw[XD,m_] at he
   simp only[H6]
   rw[AB (by omega),AB (by omega),OO hv hm.1 hm.2,BC,AE (e:=f-cl (sz s.1) (gl ((0,0,0,0,0):AH) L k).2.2.2.2) (by omega) (by omega),AE (e:=(k:Int)+1) (by omega) (by omega)]
   by_cases c1:f-cl (sz s.1) (gl ((0,0,0,0,0):AH) L k).2.2.2.2<0
   ·rw[AB (.inl c1),GG] at he
    rw[AB c1]
    exact .inr ⟨_,rfl,by rw[he]⟩
   rw[AD c1]
   have UU:∀ h:¬(f-cl (sz s.1) (gl ((0,0,0,0,0):AH) L k).2.2.2.2<0\/(B≠0/\(k:Int)=B)),(fun (st:List AH×Int×Int)=>st.2.2=((k+1:Nat):Int)/\st.1.length=k+1/\(0<=st.2.1/\st.2.1<=64)/\m_ (sz s.1) B (DH s.2.2).length 0 L=st.1++m_ (sz s.1) B st.2.1 (k+1:Nat) (L.drop (k+1))) (acc++ [gl ((0,0,0,0,0):AH) L k],f-cl (sz s.1) (gl ((0,0,0,0,0):AH) L k).2.2.2.2,(k:Int)+1):=by
    intro h
    rw[AD h] at he
    refine⟨rfl,by simp [MY],by simp only;omega, ?_⟩
    simp only
    rw[he,JH];rfl
   by_cases c2:B=0
   ·rw[AD (IN c2),AB (by simp only[H7];omega)]
    exact .inl ⟨_,rfl,UU (by omega)⟩
   ·rw[AB c2]
    by_cases c3:(acc.length:Int)=B
    ·rw[AB (.inr ⟨c2,by omega⟩),GG] at he
     rw[AB c3]
     exact .inr ⟨_,rfl,by rw[he]⟩
    ·rw[AD c3,AB (by simp only[H7];omega)]
     exact .inl ⟨_,rfl,UU (by omega)⟩
  ·rintro⟨acc,f,kk⟩ ⟨HU,MY,hf,he⟩
   simp only at HU MY hf he
   subst HU
   rw[List.drop_length,m_,GG] at he
   simp only
   rw[AD (by omega)]
   exact⟨_,rfl,by rw[he]⟩
theorem nA {q:Rows} (hx:∀ x∈q,x.length<=1000000) {b:Int} (b0:0<=b) (b1:b<q.length):
  B0 q b=some (if gl [] q b.toNat=[] then (((0,0,0,0,0):AH),false) else (gl ((0,0,0,0,0):AH) (gl [] q b.toNat) ((gl [] q b.toNat).length-1),true)):=by
 have hl:=hx (gl [] q b.toNat) (BS (by omega))
 unfold B0
 rw[AD (by omega),AD (by omega),AB (by omega)]
 by_cases h:gl [] q b.toNat=[]
 ·rw[AB (by rw[h];rfl),AB h]
 ·have hp:=fK.2 h
  rw[AD (by omega),AB (by omega),AB (by omega),AE (e:=((gl [] q b.toNat).length:Int)-1) (by omega) (by omega),AB (by omega),AD h,show (((gl [] q b.toNat).length:Int)-1).toNat=(gl [] q b.toNat).length-1 from by omega]
theorem AL2 {c:Cf} {s:Sp} {q:Rows} (hx:∀ x∈q,x.length<=1000000) (hq:q.length<=1000000) (hq0:1<=q.length) {k:Cu} {X:Cu->Option (List AH×Cu×Bool)}:
  Option.bind (α:=Cu ⊕ (List AH×Cu×Bool)) (if k.1=(AG ((q.length:Int)-1)) then
   if (!k.2.1)=true then
   Option.bind (B0 q (AG ((q.length:Int)-1))) (fun r1=>
   if r1.2=true then
   some (Sum.inl ((k.1,true,r1.1.1)))
   else some (Sum.inl ((k.1,true,(-1)))))
   else some (Sum.inl k)
   else some (Sum.inl k)) (fun q=>match q with
   |Sum.inl j1=>X j1
   |Sum.inr b1=>some b1)=X (qJ q k):=by
 unfold qJ
 rw[AE (e:=(q.length:Int)-1) (by omega) (by omega)]
 by_cases c1:k.1=(q.length:Int)-1
 ·rw[AB c1]
  cases h2:k.2.1 with
  |true=>rw[AD (by decide),AD (by simp)];rfl
  |false=>
   have e1:k.1=(q.length:Int)-1/\false=false:=⟨c1,rfl⟩
   rw[AB (by decide),nA hx (by omega) (by omega),BC,AB e1,show ((q.length:Int)-1).toNat=q.length-1 from by omega]
   unfold mZ
   by_cases h:gl [] q (q.length-1)=[]
   ·rw[AB h,AB h];rfl
   ·rw[AD h,AD h];rfl
 ·rw[AD c1,AD (fun h=>c1 h.1)];rfl
theorem oW {c:Cf} {s:Sp} {q:Rows} (hv:VS s) (hx:∀ x∈q,x.length<=1000000) (hq:q.length<=1000000) (hw:∀ i∈q.flatten,0<=i.2.2.2.2/\i.2.2.2.2<=1000000) (hc:q.length<=c.2.1.length) {k:Cu} (k0:0<=k.1) (k1:k.1<q.length):
  CM c s q k=some (VY c s q (aU q (q.length-1-k.1.toNat) k))/\k.1<=(aU q (q.length-1-k.1.toNat) k).1/\(aU q (q.length-1-k.1.toNat) k).1<q.length:=by
 have hF:∀ k,(qJ q k).1=k.1:=fun k=>by unfold qJ;split <;> rfl
 suffices hh:∃ b,CM c s q k=some b/\(b=VY c s q (aU q (q.length-1-k.1.toNat) k)/\k.1<=(aU q (q.length-1-k.1.toNat) k).1/\(aU q (q.length-1-k.1.toNat) k).1<q.length) by
  obtain⟨b,h1,rfl,h2⟩:=hh
  exact⟨h1,h2⟩
 unfold CM
 refine AN (fun t (st:Cu)=>st.1=k.1+(t:Int)/\aU q (q.length-1-k.1.toNat-t) st=aU q (q.length-1-k.1.toNat) k) _ (q.length-1-k.1.toNat) ?_ ?_ (s:=k) ⟨by simp,by simp⟩
 ·rintro t st ht ⟨h1,h2⟩
  rw[AB (by rw[AE (e:=(q.length:Int)-1) (by omega) (by omega)];omega),AB (by omega)]
  rw[show q.length-1-k.1.toNat-t=(q.length-1-k.1.toNat-(t+1))+1 from by omega,aU] at h2
  by_cases c1:gl [] q st.1.toNat=[]
  ·rw[AB (by rw[c1];rfl),AE (e:=st.1+1) (by omega) (by omega)]
   rw[AB c1] at h2
   exact .inl ⟨_,rfl,by simp only;omega,h2⟩
  ·rw[AD (by have:=fK.2 c1;omega)]
   rw[AD c1] at h2
   right
   refine SP ?_
   rw[<-h2]
   refine⟨_,(AL2 (c:=c) (s:=s) hx hq (by omega) (k:=st) (X:=AC8 c s q)).trans (z_ hv hx hq hw hc (by rw[hF];omega) (by rw[hF];omega)),rfl,by rw[hF];omega,by rw[hF];omega⟩
 ·rintro st ⟨h1,h2⟩
  rw[AD (by rw[AE (e:=(q.length:Int)-1) (by omega) (by omega)];omega)]
  rw[ZB,aU] at h2
  refine SP ?_
  rw[<-h2]
  exact⟨_,(AL2 (c:=c) (s:=s) hx hq (by omega) (k:=st) (X:=AC8 c s q)).trans (z_ hv hx hq hw hc (by rw[hF];omega) (by rw[hF];omega)),rfl,by rw[hF];omega,by rw[hF];omega⟩
def cmp (c:Cf):Bool:=decide ((ru c ((c.2.1.length:Int)-1)).1=0)
theorem AS6 {x:Nat} (h:VV x):D5 x 0=some .eq↔x=0:=by
 have hx:x<9223372036854775808:=by rcases h with h|h <;> omega
 rw[AI5]
 constructor
 ·rintro⟨_,_,h3⟩
  rw[VB hx,VB (by decide)] at h3
  have h4:vv x=vv 0:=by omega
  rcases ACO x with h0|h0
  ·exact h0
  ·have:=iU h0;omega
 ·rintro rfl
  exact⟨by decide,by decide,rfl⟩
theorem sB {c:Cf} (g:Good c):C_ c=some 0:=by
 have hn:=g.n.2
 have hz:=g.nm.2.1
 rw[oL (by omega) (by omega) g.sh,g.UP]
theorem nB {c:Cf} (g:Good c):CJ c=some (cmp c):=by
 have hn:=g.n
 unfold CJ
 rw[sB g,BC,AB rfl,AE (e:=(c.2.1.length:Int)-1) (by omega) (by omega),AB (by omega)]
 have hr:gl (0,0,0,0) c.2.1 ((c.2.1.length:Int)-1).toNat=ru c ((c.2.1.length:Int)-1):=rfl
 rw[hr]
 unfold cmp
 congr 1
 rw[qP]
 exact AS6 (g.ru _ (by omega) (by omega)).1
def AC9 (c:Cf) (b n:Int):Int:=if (ru c b).1=0 then 0 else (FR (ru c b).1 n.toNat:Int)
theorem AVB {c:Cf} (g:Good c) {b n:Int} (b0:0<=b) (b1:b<c.2.1.length) (n0:1<=n) (n1:n<=64):0<=AC9 c b n/\AC9 c b n<=64:=by
 unfold AC9
 rcases (g.ru b b0 b1).1 with h|⟨h0,h1⟩
 ·rw[AB h];omega
 ·have:=AWG (n:=n.toNat) h1 (by omega)
  rw[AD (by omega)];omega
theorem AVC {c:Cf} (g:Good c) {b n:Int} (b0:0<=b) (b1:b<c.2.1.length) (n0:1<=n) (n1:n<=64):FE c b n=some (AC9 c b n,0):=by
 have hn:=g.n.2
 have hz:=g.nm.2.1
 have hr:gl (0,0,0,0) c.2.1 b.toNat=ru c b:=rfl
 have hv:=(g.ru b b0 b1).1
 unfold FE AC9
 rw[sB g,BC,AD (by simp),AD (by omega),AD (by omega),AD (by omega),AD (by omega),AB (by omega),hr]
 generalize (ru c b).1=x at hv
 rcases hv with rfl|⟨h0,h1⟩
 ·unfold E5
  rw[fE,X0 (by omega)]
  simp only[BC]
  rw[AD (by decide),AD (by omega),AD (by omega),AB (by decide),AB trivial]
  rfl
 ·rw[vD h0 h1 n0 n1,AD (by omega)]
  rfl
def qK (s:Sp) (i:AH) (n:Int):Int:=cl (sz s.1) (i.2.2.2.2+n)-cl (sz s.1) i.2.2.2.2
def GrF (v:Bool) (F u L k f:Int):Prop:=k=0\/(v=true/\u+k<=F-(u+k))\/(v=false/\L<=F-(u+k)/\f+k<=F-(u+k))
instance (v:Bool) (F u L k f:Int):Decidable (GrF v F u L k f):=by unfold GrF;infer_instance
def GrT (v:Bool) (s:Sp) (q:Rows) (i:AH) (n:Int):Prop:=GrF v s.2.2.length (used s) (lrg (sz s.1) q.flatten) (qK s i n) (cl (sz s.1) i.2.2.2.2)
instance (v:Bool) (s:Sp) (q:Rows) (i:AH) (n:Int):Decidable (GrT v s q i n):=by unfold GrT;infer_instance
structure Qq (s:Sp) (q:Rows):Prop where
 vs:VS s
 len:q.length<=1000
 A2B:∀ x∈q,x.length<=1000
 w:∀ i∈q.flatten,0<=i.2.2.2.2/\i.2.2.2.2<=16384
theorem Qq.lrg {s:Sp} {q:Rows} (h:Qq s q):0<=lrg (sz s.1) q.flatten/\Go.Proofs.YtjbojdpdkikioaaGreatDoor.lrg (sz s.1) q.flatten<=20000:=by
 refine⟨(AZ6 _).1,(ARA _).2 ⟨by omega,fun i hi=> ?_⟩⟩
 obtain⟨w0,w1⟩:=h.w i hi
 obtain⟨z1,z2⟩:=OG h.vs.sh
 have:=dZ z1 w0
 omega
theorem Qq.ref {s:Sp} {q:Rows} (h:Qq s q):F3 s q=some (Go.Proofs.YtjbojdpdkikioaaGreatDoor.lrg (sz s.1) q.flatten):=by
 have h1:q.length<=1000000:=by have:=h.len;omega
 have h2:∀ x∈q,x.length<=1000000:=fun x hx=>by have:=h.A2B x hx;omega
 have h3:∀ i∈q.flatten,0<=i.2.2.2.2/\i.2.2.2.2<=1000000:=fun i hi=>by have:=h.w i hi;omega
 exact AF8 h.vs h1 h2 h3
theorem vO {c:Cf} {v:Bool} (hr:CJ c=some v) {s:Sp} {q:Rows} (h:Qq s q) {i:AH} {n:Int} (w0:0<=i.2.2.2.2) (w1:i.2.2.2.2<=16384) (n0:1<=n) (n1:n<=48):
  B4 c s q i n=some (decide (GrT v s q i n)):=by
 suffices hh:∃ b,B4 c s q i n=some b/\(b=true↔GrF v s.2.2.length (used s) (lrg (sz s.1) q.flatten) (qK s i n) (cl (sz s.1) i.2.2.2.2)) by
  obtain⟨b,h1,h2⟩:=hh
  rw[h1]
  congr 1
  by_cases hG:GrT v s q i n
  ·rw[HF hG];exact h2.2 hG
  ·rw[QB hG]
   cases b with
   |true=>exact absurd (h2.1 rfl) hG
   |false=>rfl
 have hn:=h.vs.n.2
 obtain⟨z1,z2⟩:=OG h.vs.sh
 have c1:=dZ z1 (show 0<=i.2.2.2.2+n by omega)
 have c2:=dZ z1 w0
 have c3:=AWF (z:=sz s.1) (by omega) (show i.2.2.2.2<=i.2.2.2.2+n by omega)
 obtain⟨l0,l1⟩:=h.lrg
 have u0:=AUT s
 have kN:(DH s.2.2).length<=s.2.2.length:=UK s.2.2 (-1)
 have hu:(s.2.2.length:Int)-(DH s.2.2).length=used s:=rfl
 unfold B4
 rw[AF2 h.vs w0 w1 (by omega) (by omega),BC]
 have hk:cl (sz s.1) (i.2.2.2.2+n)-cl (sz s.1) i.2.2.2.2=qK s i n:=rfl
 rw[hk]
 have hk0:0<=qK s i n:=by omega
 have hk1:qK s i n<=20000:=by omega
 generalize qK s i n=k at hk hk0 hk1 ⊢
 by_cases e:k=0
 ·rw[AB e];exact⟨_,rfl,iG rfl (.inl e)⟩
 rw[AD e,AQW hn,hr,h.ref,OO h.vs w0 (by omega)]
 simp only[BC]
 rw[hu]
 have hub:used s<=64:=by omega
 generalize used s=u at hu u0 hub ⊢
 generalize Go.Proofs.YtjbojdpdkikioaaGreatDoor.lrg (sz s.1) q.flatten=L at l0 l1 ⊢
 generalize hF:cl (sz s.1) i.2.2.2.2=f at c2 ⊢
 rw[AE (e:=u+k) (by omega) (by omega),AE (e:=(s.2.2.length:Int)-(u+k)) (by omega) (by omega),AE (e:=2*(u+k)) (by omega) (by omega),AE (e:=f+k) (by omega) (by omega)]
 generalize (s.2.2.length:Int)=F at hu hn ⊢
 unfold GrF
 by_cases g0:u+k>F
 ·rw[AB g0]
  refine⟨_,rfl,bA (by decide) ?_⟩
  rintro (h|⟨_,h⟩|⟨_,h,_⟩) <;> omega
 rw[AD g0]
 cases v with
 |true=>
  rw[AB rfl]
  refine⟨_,rfl, ?_⟩
  rw[NI]
  constructor
  ·intro h;exact .inr (.inl ⟨rfl,by omega⟩)
  ·rintro (h|⟨_,h⟩|⟨h,_⟩)
   ·exact absurd h e
   ·omega
   ·cases h
 |false=>
  rw[AD (show ¬false=true by decide)]
  refine⟨_,rfl, ?_⟩
  rw[NI]
  constructor
  ·intro h;refine .inr (.inr ⟨rfl, ?_, ?_⟩) <;> split at h <;> omega
  ·rintro (h|⟨h,_⟩|⟨_,h1,h2⟩)
   ·exact absurd h e
   ·cases h
   ·split <;> omega
def yng (q:Rows):AH:=gl ((0,0,0,0,0):AH) (gl [] q 0) ((gl [] q 0).length-1)
def opn (c:Cf) (s:Sp) (q:Rows):Prop:=gl [] q 0≠[]/\(AC9 c 0 s.2.2.length=0\/(yng q).2.2.2.2<AC9 c 0 s.2.2.length*sz s.1)
instance (c:Cf) (s:Sp) (q:Rows):Decidable (opn c s q):=by unfold opn;infer_instance
def qL (c:Cf) (s:Sp) (q:Rows) (n k:Int):Int×AH:=
 if opn c s q then (if GrT (cmp c) s q (yng q) k then (1,yng q) else (3,(0,0,0,0,0)))
 else if (ru c 0).2.1≠0/\(ru c 0).2.1<=(gl [] q 0).length then (3,(0,0,0,0,0))
 else if GrT (cmp c) s q (n,0, -1, -1,0) k then (2,(n,0, -1, -1,0)) else (3,(0,0,0,0,0))
theorem ACA {c:Cf} (g:Good c) {s:Sp} {q:Rows} (h:Qq s q) (hq:1<=q.length) {n k:Int} (k0:1<=k) (k1:k<=48):B2 c s q n k=some (qL c s q n k):=by
 have hn:=h.vs.n
 have hg:=g.n
 have hx:∀ x∈q,x.length<=1000000:=fun x hx=>by have:=h.A2B x hx;omega
 have hc:=AVB g (b:=0) (n:=s.2.2.length) (by omega) (by omega) (by omega) (by omega)
 unfold B2 qL
 rw[AVC g (b:=0) (n:=s.2.2.length) (by omega) (by omega) (by omega) (by omega),BC,nA hx (b:=0) (by omega) (by omega),BC]
 simp only[show (0:Int).toNat=0 from rfl]
 have hr:gl (0,0,0,0) c.2.1 0=ru c 0:=rfl
 rw[hr]
 have DR:∀ (T:Option (Int×AH)) (X:Int×AH),Option.bind (B4 c s q (n,0, -1, -1,0) k) (fun r5=>if (!r5)=true then some ((3,(0,0,0,0,0)):Int×AH) else some ((2,(n,0, -1, -1,0)):Int×AH))=some (if GrT (cmp c) s q (n,0, -1, -1,0) k then (2,(n,0, -1, -1,0)) else (3,(0,0,0,0,0))):=by
  intro T X
  rw[vO (nB g) h (i:=(n,0, -1, -1,0)) (by simp) (by simp) k0 k1,BC]
  by_cases hG:GrT (cmp c) s q (n,0, -1, -1,0) k
  ·rw[HF hG,AB hG];rfl
  ·rw[QB hG,AD hG];rfl
 have AWW:(if 0<=(0:Int)/\(0:Int)<(c.2.1.length:Int) then
   if ¬(ru c 0).2.1=0 then
   if 0<=(0:Int)/\(0:Int)<(q.length:Int) then
   if ((gl ([]:List AH) q 0).length:Int)≥(ru c 0).2.1 then
   some ((3,(0,0,0,0,0)):Int×AH)
   else Option.bind (B4 c s q (n,0,(-1),(-1),0) k) (fun r5=>
   if (!r5)=true then
   some ((3,(0,0,0,0,0)):Int×AH)
   else some ((2,(n,0,(-1),(-1),0))))
   else none
   else Option.bind (B4 c s q (n,0,(-1),(-1),0) k) (fun r6=>
   if (!r6)=true then
   some ((3,(0,0,0,0,0)):Int×AH)
   else some ((2,(n,0,(-1),(-1),0))))
   else none)=some (if (ru c 0).2.1≠0/\(ru c 0).2.1<=(gl [] q 0).length then (3,(0,0,0,0,0))
   else if GrT (cmp c) s q (n,0, -1, -1,0) k then (2,(n,0, -1, -1,0)) else (3,(0,0,0,0,0))):=by
  rw[AB (by omega),DR none (0,(0,0,0,0,0))]
  by_cases c1:(ru c 0).2.1=0
  ·have e:¬((ru c 0).2.1≠0/\(ru c 0).2.1<=(gl [] q 0).length):=fun h=>h.1 c1
   rw[AD (IN c1),AD e]
  ·rw[AB c1,AB (by omega)]
   by_cases c2:((gl ([]:List AH) q 0).length:Int)≥(ru c 0).2.1
   ·rw[AB c2,AB ⟨c1,c2⟩]
   ·have e:¬((ru c 0).2.1≠0/\(ru c 0).2.1<=(gl [] q 0).length):=fun h=>c2 h.2
    rw[AD c2,AD e]
 by_cases h0:gl [] q 0=[]
 ·have FU:¬opn c s q:=fun hh=>hh.1 h0
  have e1:(if gl ([]:List AH) q 0=[] then (((0,0,0,0,0):AH),false) else (gl ((0,0,0,0,0):AH) (gl [] q 0) ((gl [] q 0).length-1),true))=(((0,0,0,0,0):AH),false):=AB h0
  rw[e1,AD (show ¬((((0,0,0,0,0):AH),false):AH×Bool).2=true by decide),AD FU]
  exact AWW
 ·have e1:(if gl ([]:List AH) q 0=[] then (((0,0,0,0,0):AH),false) else (gl ((0,0,0,0,0):AH) (gl [] q 0) ((gl [] q 0).length-1),true))=(yng q,true):=AD h0
  have hlp:=fK.2 h0
  have hy:yng q∈q.flatten:=kT.2 ⟨gl [] q 0,BS (by omega),BS (by omega)⟩
  have hyw:=h.w _ hy
  rw[e1,AB rfl,vG h.vs.sh _ hc.1 (by omega),BC]
  by_cases c1:AC9 c 0 s.2.2.length=0\/(yng q).2.2.2.2<AC9 c 0 s.2.2.length*sz s.1
  ·have FU:opn c s q:=⟨h0,c1⟩
   rw[HF c1,AB rfl,AB FU,vO (nB g) h (i:=yng q) hyw.1 hyw.2 k0 k1,BC]
   by_cases hG:GrT (cmp c) s q (yng q) k
   ·rw[HF hG,AB hG];rfl
   ·rw[QB hG,AD hG];rfl
  ·have FU:¬opn c s q:=fun hh=>c1 hh.2
   rw[QB c1,AD (by decide),AD FU]
   exact AWW
def AL3 (c:Cf) (q:Rows):List Int:=(EX q.length).filter fun b=>decide ((ru c b).2.1≠0/\(ru c b).2.1<(gl [] q b.toNat).length)
theorem AVD {c:Cf} (g:Good c) {q:Rows} (hq:q.length=c.2.1.length) (hx:∀ x∈q,x.length<=1000000):F_ c q=some (AL3 c q):=by
 have hg:=g.n
 unfold F_
 rw[sB g,BC,AD (IN rfl),AD (by omega)]
 refine (AN (fun k (st:List Int×Int)=>st=((EX k).filter (fun b=>decide ((ru c b).2.1≠0/\(ru c b).2.1<(gl [] q b.toNat).length)),(k:Int))) (fun b=>b=AL3 c q) q.length ?_ ?_ (s:=([],0)) rfl).elim fun b hb=>by rw[hb.1,hb.2]
 ·rintro k st hk rfl
  left
  have zO:((EX k).filter (fun b=>decide ((ru c b).2.1≠0/\(ru c b).2.1<(gl [] q b.toNat).length))).length<=k:=by
   have:=iY (fun b=>decide ((ru c b).2.1≠0/\(ru c b).2.1<(gl [] q b.toNat).length)) (EX k)
   rw[HO] at this;exact this
  have hr:gl (0,0,0,0) c.2.1 k=ru c (k:Int):=rfl
  simp only[H6]
  rw[AB (by omega),AB (by omega),AB (by omega),hr,AE (e:=(k:Int)+1) (by omega) (by omega),JU,qO]
  by_cases c1:(ru c (k:Int)).2.1=0
  ·rw[AD (IN c1)]
   refine⟨_,rfl, ?_⟩
   simp [c1]
  ·rw[AB c1]
   by_cases c2:((gl ([]:List AH) q k).length:Int)>(ru c (k:Int)).2.1
   ·rw[AB c2,AB (by simp only[H7];omega)]
    refine⟨_,rfl, ?_⟩
    simp [c1,c2]
   ·rw[AD c2]
    refine⟨_,rfl, ?_⟩
    simp [c1,c2]
 ·rintro st rfl
  simp only
  rw[AD (by omega)]
  exact⟨_,rfl,rfl⟩
inductive Rea (s:Sp) (q:Rows) (r:Ro) (l:List AH):Int->Prop
 |rt (i:Nat) (hi:i<32) (hu:gl false r.1 i=true) (hw:Wn (BY l) s (gl 0#64 r.2 i)):Rea s q r l (((gl 0#64 r.2 i).toNat:Int)-1)
 |sl (y:Int) (hy:Slot s q y) (hn:(fr s.2.2 (y / sz s.1)).1∉BY l) (hw:Wn (BY l) s (gl 0#64 s.2.1 y.toNat)):Rea s q r l (((gl 0#64 s.2.1 y.toNat).toNat:Int)-1)
 |ob (i:AH) (hi:i∈l) (la:List Int) (oa:List (Int×Int)) (pa a:Int) (x:Int×Int) (o:OB s i la oa pa a x) (ha:Rea s q r l a) (j ya:Int) (j1:1<=j) (j2:j<=x.1) (hy:DK (sz s.1) la (pa+j)=some ya) (hw:Wn (BY l) s (gl 0#64 s.2.1 ya.toNat)):Rea s q r l (((gl 0#64 s.2.1 ya.toNat).toNat:Int)-1)
theorem Rea.rch (s:Sp) (q:Rows) (r:Ro) (l:List AH):Rch (Rea s q r l) s q r l:=
 ⟨fun i hi la oa pa a x o ha j ya j1 j2 hy hw=> .ob i hi la oa pa a x o ha j ya j1 j2 hy hw,fun i hi hu hw=> .rt i hi hu hw,fun y hy hn hw=> .sl y hy hn hw⟩
abbrev A2C (h:Hs) (l:List AH):Int->Prop:=Rea h.2.1 h.2.2.1 h.2.2.2.2.2.1 l
theorem ANI {q:Rows} {j:AH} (hb:j.2.1.toNat<q.length):(addr q j).flatten.Perm (j::q.flatten):=by
 have hg:gl [] (addr q j) j.2.1.toNat=gl [] q j.2.1.toNat++ [j]:=by
  unfold addr;rw[D8 hb,AB rfl]
 have e1:(addr q j).flatten=(q.take j.2.1.toNat).flatten++((gl [] q j.2.1.toNat++ [j])++(q.drop (j.2.1.toNat+1)).flatten):=by
  rw[GZ (addr q j) _ (by rw[eH];exact hb),hg]
  unfold addr
  rw[AO9 (EL _),AOA (by omega)]
 rw[e1,GZ q _ hb,JH,AIT,←JH,←JH]
 exact List.perm_middle
def wt (L:Int) (k:Cu) (i:AH):Nat:=if i.2.1<L-1 then (L-i.2.1).toNat else if (k.2.1=true->i.1<=k.2.2) then 1 else 0
theorem AVE {L:Int} {k:Cu} {i j:AH} (h1:i.1=j.1) (h2:i.2.1=j.2.1):wt L k i=wt L k j:=by
 unfold wt;rw[h1,h2]
structure KOk (q:Rows) (n:Int) (k:Cu):Prop where
 k0:0<=k.1
 k1:k.1<q.length
 bg:k.2.1=true->k.1=(q.length:Int)-1/\k.2.2<n
theorem AS7 {s:Sp} {q:Rows} (h:HB s q) {i:AH} (hi:i∈q.flatten) (hb:i.2.1=(q.length:Int)-1):i.1<=mZ q:=by
 have hN:=(EH.1 h.bv.ok).1
 obtain⟨-,hr⟩:=hN.row hi
 rw[hb,show ((q.length:Int)-1).toNat=q.length-1 from by omega] at hr
 obtain⟨j,hj,rfl⟩:=GR (d:=((0,0,0,0,0):AH)) hr
 have hn:=h.bv.n
 unfold mZ
 rw[AD (fun he=>by rw[he] at hj;simp at hj)]
 by_cases qX:j=(gl [] q (q.length-1)).length-1
 ·subst qX;exact S7 _
 ·have:=AA3.1 (hN.pw (q.length-1) (by omega)) j ((gl [] q (q.length-1)).length-1) hj (by omega) (by omega)
  rw[<-CK (d:=((0,0,0,0,0):AH)) hj,←CK (d:=((0,0,0,0,0):AH)) (show (gl [] q (q.length-1)).length-1< _ by omega)] at this;omega
theorem AS8 {s:Sp} {q:Rows} (h:HB s q) {n:Int} (hn:∀ i∈q.flatten,i.1<n) (n0:0<=n):mZ q<n:=by
 have hl:=h.bv.n
 unfold mZ
 split
 ·omega
 ·rename_i he
  have:=fK.2 he
  exact hn _ (KP.2 ⟨q.length-1,by omega,BS (by omega)⟩)
theorem AZM {s:Sp} {q:Rows} (h:HB s q) {n:Int} (hn:∀ i∈q.flatten,i.1<n) (n0:0<=n):∀ (m:Nat) {k:Cu},KOk q n k->m=q.length-1-k.1.toNat→
  KOk q n (aU q m k)/\((aU q m k).1=(q.length:Int)-1->(aU q m k).2.1=true)/\∀ i∈q.flatten,wt q.length (aU q m k) i=wt q.length k i:=by
 have hF:∀ {k:Cu},KOk q n k->KOk q n (qJ q k)/\((qJ q k).1=(q.length:Int)-1->(qJ q k).2.1=true)/\∀ i∈q.flatten,wt q.length (qJ q k) i=wt q.length k i:=by
  intro k hk
  unfold qJ
  by_cases c1:k.1=(q.length:Int)-1/\k.2.1=false
  ·rw[AB c1]
   refine⟨⟨hk.k0,hk.k1,fun _=>⟨c1.1,AS8 h hn n0⟩⟩,fun _=>rfl,fun i hi=> ?_⟩
   unfold wt
   by_cases c2:i.2.1<(q.length:Int)-1
   ·rw[AB c2,AB c2]
   ·have hN:=(EH.1 h.bv.ok).1
    have:=(hN.row hi).1
    rw[AD c2,AD c2,AB (fun _=>AS7 h hi (by omega)),AB (fun h=>by rw[c1.2] at h;cases h)]
  ·rw[AD c1]
   refine⟨hk,fun h1=> ?_,fun _ _=>rfl⟩
   cases h2:k.2.1 with
   |true=>rfl
   |false=>exact absurd ⟨h1,h2⟩ c1
 intro m
 induction m with
 |zero=>intro k hk _;exact hF hk
 |succ m ih=>
  intro k hk hm
  rw[aU]
  by_cases c1:gl [] q k.1.toNat=[]
  ·rw[AB c1]
   have hk0:=hk.k0
   have hk1:=hk.k1
   have hnb:k.2.1=false:=by
    cases h2:k.2.1 with
    |true=>have:=(hk.bg h2).1;omega
    |false=>rfl
   have MU :KOk q n (k.1+1,false,0):=⟨by simp only;omega,by simp only;omega,fun h=>by cases h⟩
   obtain⟨g1,g2,g3⟩:=ih MU (by simp only;omega)
   refine⟨g1,g2,fun i hi=> ?_⟩
   rw[g3 i hi]
   unfold wt
   rw[hnb]
   have e:∀ p:Prop,(false=true->p):=fun p h=>by cases h
   rw[AB (e (i.1<=(k.1+1,false,0).2.2)),AB (e (i.1<=k.2.2))]
  ·rw[AD c1];exact hF hk
theorem AL4 {z B:Int}:∀ {L:List AH} {f n:Int} {i:AH},i∈m_ z B f n L->i∈L
 | [],_,_,_,h=>h
 |a::r,f,n,i,h=>by
  rw[m_] at h
  split at h
  ·cases h
  ·rcases GD.1 h with rfl|h
   ·exact oY
   ·exact VJ _ (AL4 h)
theorem AL5 {z B:Int}:∀ {L:List AH} {f n:Int},(m_ z B f n L).length<=L.length
 | [],_,_=>EL _
 |a::r,f,n=>by
  rw[m_]
  split
  ·exact kW _
  ·have:=AL5 (z:=z) (B:=B) (L:=r) (f:=f-cl z a.2.2.2.2) (n:=n+1)
   simp only[NZ];omega
theorem HV.qq {N:Int} {h:Hs} (v:HV N h):Qq h.2.1 h.2.2.1:=by
 obtain⟨l1,l2,l3⟩:=v.hi.hb.lens
 have n8:=VS.PN v.vs
 refine⟨v.vs,by omega,fun x hx=>by have:=l3 x hx;omega,fun i hi=> ?_⟩
 have:=(v.hi.hb.fit hi).1.1
 omega
theorem Dn.less {R:Int->Prop} {N:Int} {h:Hs} (v:HV N h) {l:List AH} {B8:AH} {h' :Hs} {u:Int} (tg:Tg h l B8) (d:Dn R h l B8 h' u) {k:Cu} (hk:KOk h.2.2.1 h.2.2.2.1 k) (hkl:k.1=(h.2.2.1.length:Int)-1->k.2.1=true)
  (hl:∀ i∈l,i∈z9 h.2.2.1 k):ms (wt h.2.2.1.length k) h'.2.2.1.flatten<ms (wt h.2.2.1.length k) h.2.2.1.flatten/\h'.2.2.1.length=h.2.2.1.length/\KOk h'.2.2.1 h'.2.2.2.1 k:=by
 obtain⟨l0,EO,t,to,lb,m,mv,ys,ws,r',VG,st,h1,h2,rfl, -⟩:=d
 have QQ:=h1.okN
 have hle:=AC7 h.2.2.2.1 B8 to
 refine⟨?_,QQ.2,⟨hk.k0,by simp only;rw[QQ.2];exact hk.k1,fun hb=>⟨by simp only;rw[QQ.2];exact (hk.bg hb).1,by have:=(hk.bg hb).2;simp only;omega⟩⟩⟩
 simp only
 have hm:=BS (d:=((0,0,0,0,0):AH)) (fK.2 tg.ne)
 generalize hI:gl ((0,0,0,0,0):AH) l 0=i0 at hm
 have hi0:=tg.sub _ hm
 have hch:=hl _ hm
 unfold z9 at hch
 obtain⟨OQ,A2D⟩:=WY.1 hch
 have A2D:=QX A2D
 have hN:=(EH.1 v.hi.hb.bv.ok).1
 have hk0:=hk.k0
 have hk1:=hk.k1
 have hbe:i0.2.1=k.1:=by
  have:=(hN.e k.1.toNat (by omega) i0 OQ).1
  omega
 have hrm:ms (wt h.2.2.1.length k) (aT h.2.2.1 (BY l)).flatten+wt h.2.2.1.length k i0<=ms (wt h.2.2.1.length k) h.2.2.1.flatten:=by
  rw[X3]
  exact z8 _ _ (by simp only[aV,Decidable.not_not];exact KO.2 ⟨i0,hm,rfl⟩) hi0
 have hw0:1<=wt h.2.2.1.length k i0/\(k.1<(h.2.2.1.length:Int)-1->wt h.2.2.1.length k i0=(h.2.2.1.length-k.1).toNat):=by
  unfold wt
  by_cases c1:i0.2.1<(h.2.2.1.length:Int)-1
  ·rw[AB c1];exact⟨by omega,fun _=>by rw[hbe]⟩
  ·rw[AD c1,AB (fun _=>by omega)];exact⟨EL _,fun _=>by omega⟩
 unfold X4
 by_cases c1:B8.2.2.2.2>0
 ·rw[AB c1,vK]
  have ht:B8∈h.2.2.1.flatten:=by
   rcases h1.tgt with ht|ht
   ·exact ht
   ·omega
  have:ms (wt h.2.2.1.length k) ((aT h.2.2.1 (BY l)).flatten.map fun i=>if i.1=to.1 then to else i)=ms (wt h.2.2.1.length k) (aT h.2.2.1 (BY l)).flatten:=by
   unfold ms
   rw[UN]
   congr 1
   refine VK fun i hi=> ?_
   simp only[AOD]
   split
   ·rename_i he
    have:=v.hi.hb.uniq (LI.1 hi).1 ht (by rw[he,h1.ci.seq])
    exact AVE he.symm (by rw[h1.ci.iD,this])
   ·rfl
  rw[this];omega
 ·rw[AD c1]
  by_cases c2:to.2.2.2.2>0
  ·have htn:B8.1=h.2.2.2.1/\0<=B8.2.1/\B8.2.1<h.2.2.1.length:=by
    rcases h1.tgt with ht|ht
    ·have:=(v.hi.hb.fit ht).2;omega
    ·exact⟨ht.1,ht.2.2⟩
   have htb:=h1.ci.iD
   rw[AB c2,AVA (ANI (by rw[JF];omega))]
   have e:ms (wt h.2.2.1.length k) (to::(aT h.2.2.1 (BY l)).flatten)=wt h.2.2.1.length k to+ms (wt h.2.2.1.length k) (aT h.2.2.1 (BY l)).flatten:=by unfold ms;simp
   rw[e]
   suffices wt h.2.2.1.length k to<wt h.2.2.1.length k i0 by omega
   have hql:=v.ql
   have htt:=tg.tb
   rw[hI,hbe] at htt
   obtain⟨-, -,hgt⟩:=v.g.ru k.1 hk0 (by omega)
   unfold FW at hgt
   by_cases c3:k.1<(h.2.2.1.length:Int)-1
   ·have h4:k.1<B8.2.1:=by
     refine ALF fun hn=>hgt (.inr ⟨by omega,.inl (by omega)⟩)
    rw[hw0.2 c3]
    unfold wt
    split
    ·omega
    ·split <;> omega
   ·have h4:B8.2.1=k.1:=by
     refine ALF fun hn=>hgt (.inl ⟨by omega,fun he=>hn (by omega)⟩)
    have hbg:=hkl (by omega)
    have:=hk.bg hbg
    have h5:wt h.2.2.1.length k to=0:=by
     unfold wt
     rw[AD (by omega),AD (fun hh=>by have:=hh hbg;rw[h1.ci.seq] at this;omega)]
    omega
  ·rw[AD c2];omega
abbrev xB (h:Hs) (k:Cu):Cu:=aU h.2.2.1 (h.2.2.1.length-1-k.1.toNat) k
abbrev AZN (h:Hs):Hs:=(h.1,h.2.1,h.2.2.1,h.2.2.2.1,h.2.2.2.2.1,h.2.2.2.2.2.1,0,(h.2.2.2.2.2.2.2.1.1,h.2.2.2.2.2.2.2.1.2.1,h.2.2.2.2.2.2.2.1.2.2.1,h.2.2.2.2.2.2.2.1.2.2.2.1,AG (h.2.2.2.2.2.2.2.1.2.2.2.2.1+1),h.2.2.2.2.2.2.2.1.2.2.2.2.2),h.2.2.2.2.2.2.2.2)
noncomputable def iV (s1:Hs×Cu):Option ((Hs×Cu) ⊕ (Hs×Bool)):=
 Option.bind (CM s1.1.1 s1.1.2.1 s1.1.2.2.1 s1.2) (fun r4=>
 if r4.2.2=true then
 some (Sum.inr ((AZN s1.1,true)))
 else if (r4.1.length:Int)=0 then
 some (Sum.inr ((s1.1,false)))
 else Option.bind (CC s1.1 r4.1) (fun r5=>
 bif ZF (CQ.rs++CQ.os) r5 then if ¬r5.2.2=0 then
 some (Sum.inr ((s1.1,false)))
 else some (Sum.inl ((r5.1,r4.2.1))) else Option.bind (CC s1.1 r4.1) (fun r6=>
 if ¬r6.2.2=0 then
 Option.map Sum.inr (none)
 else some (Sum.inl ((r6.1,r4.2.1))))))
theorem AS9 (h:Hs) (n:Int):FO h n=Option.bind (BR h) (fun r1=>AJ (σ:=Hs×Cu) (β:=Hs×Bool) (fun s1=>
 if n>0 then
 Option.bind (EB s1.1 n) (fun r2=>
 if (!r2)=true then
 Option.bind (F_ s1.1.1 s1.1.2.2.1) (fun r3=>
 if (r3.length:Int)=0 then
 some (Sum.inr ((s1.1,false)))
 else iV s1)
 else iV s1)
 else iV s1) (r1,(0,false,0))):=rfl
def Go1 (h:Hs) (k:Cu) (h1:Hs) (k1:Cu):Prop:=
 ∃ l B8 u,VY h.1 h.2.1 h.2.2.1 (xB h k)=(l,k1,false)/\l≠[]/\Tg h l B8/\Dn (A2C h l) h l B8 h1 u
def AZO (h:Hs) (k:Cu) (b:Hs×Bool):Prop:=
 (b=(AZN h,true)/\(VY h.1 h.2.1 h.2.2.1 (xB h k)).2.2=true)∨
 (b=(h,false)/\(VY h.1 h.2.1 h.2.2.1 (xB h k)).2.2=false/\((VY h.1 h.2.1 h.2.2.1 (xB h k)).1=[]\/∃ rep e,CC h (VY h.1 h.2.1 h.2.2.1 (xB h k)).1=some (hz0,rep,e)/\e≠0))
theorem ASA (rep:Int×Int×Int×Int) (e:Int):ZF (CQ.rs++CQ.os) (hz0,rep,e)=true:=rfl
theorem AVF {c:Cf} {s:Sp} {q:Rows} {j:Cu} {i:AH} (h:i∈(VY c s q j).1):i∈z9 q j:=by
 unfold VY at h
 split at h
 ·cases h
 ·exact AL4 h
theorem AVG {c:Cf} {s:Sp} {q:Rows} {j:Cu}:(VY c s q j).1.length<=(z9 q j).length:=by
 unfold VY
 split
 ·exact kW _
 ·exact AL5
theorem AZP (c:Cf) (s:Sp) (q:Rows) (j:Cu):(VY c s q j).2.1=j:=by
 unfold VY
 split <;> rfl
theorem HV.choose {N:Int} {h:Hs} (v:HV N h) {k:Cu} (hk:KOk h.2.2.1 h.2.2.2.1 k):CM h.1 h.2.1 h.2.2.1 k=some (VY h.1 h.2.1 h.2.2.1 (xB h k)):=by
 have hq:=v.qq
 have hql:=v.ql
 obtain⟨l1,l2,l3⟩:=v.hi.hb.lens
 exact (oW v.vs (fun x hx=>by have:=l3 x hx;omega) (by omega) (fun i hi=>by have:=hq.w i hi;omega) (by omega) hk.k0 hk.k1).1
theorem ANJ {α:Type} {x y z:α} (b:Bool) (h1:x=z) (h2:y=z):(bif b then x else y)=z:=by
 cases b
 ·exact h2
 ·exact h1
theorem ASB {N:Int} {h:Hs} (v:HV N h) (hN:N<=4294967295) {k:Cu} (hk:KOk h.2.2.1 h.2.2.2.1 k):∃ x,iV (h,k)=some x/\((∃ h1 k1,x= .inl (h1,k1)/\Go1 h k h1 k1)\/∃ b,x= .inr b/\AZO h k b):=by
 obtain⟨l1,l2,l3⟩:=v.hi.hb.lens
 unfold iV
 simp only
 rw[v.choose hk,BC]
 have hgo:∀ h1 k1,Go1 h k h1 k1↔∃ l B8 u,VY h.1 h.2.1 h.2.2.1 (xB h k)=(l,k1,false)/\l≠[]/\Tg h l B8/\Dn (A2C h l) h l B8 h1 u:=fun _ _=>kX
 have hre:∀ b,AZO h k b↔(b=(AZN h,true)/\(VY h.1 h.2.1 h.2.2.1 (xB h k)).2.2=true)∨
  (b=(h,false)/\(VY h.1 h.2.1 h.2.2.1 (xB h k)).2.2=false/\((VY h.1 h.2.1 h.2.2.1 (xB h k)).1=[]\/∃ rep e,CC h (VY h.1 h.2.1 h.2.2.1 (xB h k)).1=some (hz0,rep,e)/\e≠0)):=fun _=>kX
 have hcl:(VY h.1 h.2.1 h.2.2.1 (xB h k)).1.length<=64:=by
  have h1:=AVG (c:=h.1) (s:=h.2.1) (q:=h.2.2.1) (j:=xB h k)
  have h2:(z9 h.2.2.1 (xB h k)).length<=(gl [] h.2.2.1 (xB h k).1.toNat).length:=iY _ _
  by_cases h3:(xB h k).1.toNat<h.2.2.1.length
  ·have:=l3 _ (BS (d:=([]:List AH)) h3);omega
  ·have h4:gl ([]:List AH) h.2.2.1 (xB h k).1.toNat=[]:=by
    unfold gl;rw[sC,T3 (by omega)];rfl
   have h5:(gl ([]:List AH) h.2.2.1 (xB h k).1.toNat).length=0:=by rw[h4];rfl
   omega
 generalize hr:VY h.1 h.2.1 h.2.2.1 (xB h k)=r at hgo hre hcl
 by_cases c1:r.2.2=true
 ·rw[AB c1]
  exact⟨_,rfl,.inr ⟨_,rfl,(hre _).2 (.inl ⟨rfl,c1⟩)⟩⟩
 have c1' :r.2.2=false:=by simpa using c1
 rw[AD c1]
 by_cases c2:(r.1.length:Int)=0
 ·rw[AB c2]
  exact⟨_,rfl,.inr ⟨_,rfl,(hre _).2 (.inr ⟨rfl,c1',.inl (List.eq_nil_iff_length_eq_zero.2 (by omega))⟩)⟩⟩
 rw[AD c2]
 obtain⟨h1,rep,e,hd1,hd2⟩:=A29 v hN (l:=r.1) (by omega) (Rea.rch h.2.1 h.2.2.1 h.2.2.2.2.2.1 r.1)
 rw[hd1,BC]
 rcases hd2 with ⟨he,rfl⟩|⟨rfl,B8,u,tg,dn⟩
 ·rw[ASA]
  simp only[cond_true]
  rw[AB he]
  exact⟨_,rfl,.inr ⟨_,rfl,(hre _).2 (.inr ⟨rfl,c1',.inr ⟨rep,e,hd1,he⟩⟩)⟩⟩
 ·have hx:Go1 h k h1 r.2.1:=(hgo _ _).2 ⟨r.1,B8,u,by rw[<-c1'],fun hn=>by rw[hn] at c2;exact c2 rfl,tg,dn⟩
  refine⟨Sum.inl (h1,r.2.1), ?_,.inl ⟨_,_,rfl,hx⟩⟩
  exact ANJ _ rfl rfl
def nC (h:Hs) (k:Cu):Nat:=ms (wt h.2.2.1.length k) h.2.2.1.flatten
theorem Go1.ok {N:Int} {h:Hs} (v:HV N h) {k:Cu} (hk:KOk h.2.2.1 h.2.2.2.1 k) {h1:Hs} {k1:Cu} (g:Go1 h k h1 k1):
  HV (N+1) h1/\KOk h1.2.2.1 h1.2.2.2.1 k1/\nC h1 k1<nC h k/\h1.1=h.1/\h1.2.1.1=h.2.1.1/\h1.2.1.2.2.length=h.2.1.2.2.length/\h1.2.2.2.2.2.2.2.2=h.2.2.2.2.2.2.2.2/\h1.2.2.2.2.2.2.1=h.2.2.2.2.2.2.1:=by
 obtain⟨l,B8,u,hc,hl,tg,dn⟩:=g
 have hs:=AZP h.1 h.2.1 h.2.2.1 (xB h k)
 rw[hc] at hs
 simp only at hs
 obtain⟨g1,g2,g3⟩:=AZM v.hi.hb v.hi.seq v.hi.n0 (h.2.2.1.length-1-k.1.toNat) hk rfl
 have IP:∀ i∈l,i∈z9 h.2.2.1 k1:=by
  intro i hi
  have:=AVF (c:=h.1) (s:=h.2.1) (q:=h.2.2.1) (j:=xB h k) (i:=i) (by rw[hc];exact hi)
  rw[hs];exact this
 have hk1:aU h.2.2.1 (h.2.2.1.length-1-k.1.toNat) k=k1:=hs.symm
 rw[hk1] at g1 g2 g3
 obtain⟨d1,d2,d3⟩:=dn.less v tg g1 g2 IP
 have hm:nC h k1=nC h k:=AS4 g3
 have hv1:=dn.hv v
 obtain⟨l0,EO,t,to,lb,m,mv,ys,ws,r',VG,st,h1,h2,rfl, -⟩:=dn
 refine⟨hv1,d3, ?_,rfl, ?_, ?_,rfl,rfl⟩
 ·rw[<-hm]
  unfold nC
  rw[d2];exact d1
 ·exact h1.aft.2.1
 ·exact h1.aft.2.2.2.1
inductive Rn:Nat->Hs->Cu->Hs->Cu->Prop
 |z (h:Hs) (k:Cu):Rn 0 h k h k
 |s {m:Nat} {h:Hs} {k:Cu} {h1:Hs} {k1:Cu} {h2:Hs} {k2:Cu} (a:Rn m h k h1 k1) (b:Go1 h1 k1 h2 k2):Rn (m+1) h k h2 k2
theorem Rn.ok {N:Int} {h:Hs} (v:HV N h) {k:Cu} (hk:KOk h.2.2.1 h.2.2.2.1 k):∀ {m:Nat} {h1:Hs} {k1:Cu},Rn m h k h1 k1→
  HV (N+m) h1/\KOk h1.2.2.1 h1.2.2.2.1 k1/\nC h1 k1+m<=nC h k/\h1.1=h.1/\h1.2.1.1=h.2.1.1/\h1.2.1.2.2.length=h.2.1.2.2.length/\h1.2.2.2.2.2.2.2.2=h.2.2.2.2.2.2.2.2/\h1.2.2.2.2.2.2.1=h.2.2.2.2.2.2.1:=by
 intro m h1 k1 r
 induction r with
 |z=>exact⟨by simpa using v,hk,EL _,rfl,rfl,rfl,rfl,rfl⟩
 |s a b ih=>
  obtain⟨v1,k1,m1,e1,e2,e3,e4,e5⟩:=ih v hk
  obtain⟨v2,k2,m2,f1,f2,f3,f4,f5⟩:=b.ok v1 k1
  exact⟨by have:=v2;rw[ACU];rw[<-Int.add_assoc];exact this,k2,by omega,by rw[f1,e1],by rw[f2,e2],by rw[f3,e3],by rw[f4,e4],by rw[f5,e5]⟩
theorem AVH {N:Int} {h:Hs} (v:HV N h) (k:Cu):nC h k<=256:=by
 obtain⟨l1,l2,l3⟩:=v.hi.hb.lens
 have hN:=(EH.1 v.hi.hb.bv.ok).1
 have:=AWU (w:=wt h.2.2.1.length k) (b:=4) (l:=h.2.2.1.flatten) fun i hi=>by
  have:=(hN.row hi).1
  unfold wt
  split
  ·omega
  ·split <;> omega
 unfold nC
 omega
theorem AFZ {N:Int} {h:Hs} (v:HV N h) {n:Int} (n0:1<=n) (n1:n<=48):EB h n=some (decide ((qL h.1 h.2.1 h.2.2.1 h.2.2.2.1 n).1=3)):=by
 unfold EB
 rw[ACA v.g v.qq v.hi.hb.bv.n.1 n0 n1];rfl
structure RD (n:Int) (h:Hs) (b:Hs×Bool) (m:Nat) (h1:Hs) (k1:Cu):Prop where
 rn:Rn m h (0,false,0) h1 k1
 fin:(b=(h1,false)/\0<n/\(qL h1.1 h1.2.1 h1.2.2.1 h1.2.2.2.1 n).1≠3/\AL3 h1.1 h1.2.2.1=[])\/AZO h1 k1 b
theorem KOk.init {N:Int} {h:Hs} (v:HV N h):KOk h.2.2.1 h.2.2.2.1 (0,false,0):=
 ⟨S7 _,by have:=v.hi.hb.bv.n;simp only;omega,fun h=>by cases h⟩
theorem AG0 {N:Int} {h:Hs} (v:HV N h) (hN:N<=4294967000) {n:Int} (n0:0<=n) (n1:n<=48):∃ b m h1 k1,FO h n=some b/\RD n h b m h1 k1/\m<=256:=by
 suffices hh:∃ b,FO h n=some b/\∃ m h1 k1,RD n h b m h1 k1/\m<=256 by
  obtain⟨b,g1,m,h1,k1,g2⟩:=hh
  exact⟨b,m,h1,k1,g1,g2⟩
 rw[AS9,v.copy,BC]
 have hk:=KOk.init v
 have hml:=AVH v (0,false,0)
 have step:∀ (m:Nat) (h1:Hs) (k1:Cu),m<=nC h (0,false,0)->Rn m h (0,false,0) h1 k1→
   ((∃ s',iV (h1,k1)=some (.inl s')/\m<nC h (0,false,0)/\Rn (m+1) h (0,false,0) s'.1 s'.2)\/∃ b,iV (h1,k1)=some (.inr b)/\∃ m h1 k1,RD n h b m h1 k1/\m<=256):=by
  intro m h1 k1 hm hr
  obtain⟨v1,kk,m1, -⟩:=hr.ok v hk
  obtain⟨x,x5,hx2⟩:=ASB v1 (by omega) kk
  rcases hx2 with ⟨h2,k2,rfl,g⟩|⟨b,rfl,g⟩
  ·have:=(g.ok v1 kk).2.2.1
   exact .inl ⟨_,x5,by omega,.s hr g⟩
  ·exact .inr ⟨b,x5,m,h1,k1,⟨hr,.inr g⟩,by omega⟩
 have body:∀ (m:Nat) (st:Hs×Cu),m<=nC h (0,false,0)->Rn m h (0,false,0) st.1 st.2->∀ F,F=(if n>0 then
   Option.bind (EB st.1 n) (fun r2=>
   if (!r2)=true then
   Option.bind (F_ st.1.1 st.1.2.2.1) (fun r3=>
   if (r3.length:Int)=0 then
   some (Sum.inr ((st.1,false)))
   else iV st)
   else iV st)
   else iV st)->((∃ s',F=some (.inl s')/\m<nC h (0,false,0)/\Rn (m+1) h (0,false,0) s'.1 s'.2)\/∃ b,F=some (.inr b)/\∃ m h1 k1,RD n h b m h1 k1/\m<=256):=by
  rintro m ⟨h1,k1⟩ hm hr F rfl
  simp only at hr ⊢
  obtain⟨v1,kk,m1, -⟩:=hr.ok v hk
  have hst:=step m h1 k1 hm hr
  by_cases c1:n>0
  ·rw[AB c1,AFZ v1 (by omega) n1,BC]
   by_cases c2:(qL h1.1 h1.2.1 h1.2.2.1 h1.2.2.2.1 n).1=3
   ·rw[HF c2,AD (by decide)];exact hst
   ·obtain⟨l1,l2,l3⟩:=v1.hi.hb.lens
    rw[QB c2,AB (by decide),AVD v1.g v1.ql (fun x hx=>by have:=l3 x hx;omega),BC]
    by_cases c3:((AL3 h1.1 h1.2.2.1).length:Int)=0
    ·rw[AB c3]
     exact .inr ⟨_,rfl,m,h1,k1,⟨hr,.inl ⟨rfl,c1,c2,List.eq_nil_iff_length_eq_zero.2 (by omega)⟩⟩,by omega⟩
    ·rw[AD c3];exact hst
  ·rw[AD c1];exact hst
 refine AN (fun m (st:Hs×Cu)=>Rn m h (0,false,0) st.1 st.2) _ (nC h (0,false,0)) ?_ ?_ (s:=(h,(0,false,0))) (.z h _)
 ·intro m st hm hr
  rcases body m st (by omega) hr _ rfl with ⟨s',g1,g2,g3⟩|g
  ·exact .inl ⟨s',g1,g3⟩
  ·exact .inr g
 ·intro st hr
  rcases body _ st (EL _) hr _ rfl with ⟨s',g1,g2,g3⟩|g
  ·omega
  ·exact g
end Go.Proofs.YtjbojdpdkikioaaGreatDoor
namespace Go.Proofs.YtjbojdpdkikioaaGreatDoor
open Go Go.V3
structure Al (s:Sp) (q:Rows) (n:Int) (i:AH) (r d:Int) (u:Sp) (j:AH) (a:Int) (l l' :List Int) (os:List (Int×Int)) (q' :Rows) (n' :Int):Prop where
 hb:HB s q
 seq:∀ i∈q.flatten,i.1<n
 n0:0<=n
 rd:(0<=r/\r<=15)/\(0<=d/\d<=32)
 fit:EA s i
 ad:mL s i r d u j a l l'
 has:Has s i l
 SO:DV (sz s.1) s.2.1 l 0 os i.2.2.2.2
 cs:(i∈q.flatten/\q' =rpl q j/\n' =n)\/(i.1=n/\i.2.2.2.2=0/\(0<=i.2.1/\i.2.1<q.length)/\q' =addr q j/\n' =n+1)
section
variable {s:Sp} {q:Rows} {n:Int} {i:AH} {r d:Int} {u:Sp} {j:AH} {a:Int} {l l' :List Int} {os:List (Int×Int)} {q' :Rows} {n' :Int}
theorem Al.z (h:Al s q n i r d u j a l l' os q' n'):sz u.1=sz s.1:=by rw[h.ad.sh]
theorem Al.jf (h:Al s q n i r d u j a l l' os q' n'):EA u j:=(mL.self h.hb.bv.vs h.fit h.rd.1.1 h.rd.1.2 h.rd.2.1 h.rd.2.2 h.ad).1
theorem Al.jw (h:Al s q n i r d u j a l l' os q' n'):j.1=i.1/\j.2.1=i.2.1/\j.2.2.2.2=i.2.2.2.2+(1+r+d)/\0<=i.2.2.2.2:=⟨h.ad.grown.seq,h.ad.grown.iD,h.ad.grown.words,h.fit.1.2.2.2.2.1⟩
theorem Al.jh (h:Al s q n i r d u j a l l' os q' n'):Has u j l' := .inr ⟨by have:=h.jw;have:=h.rd;omega,h.ad.grown.path⟩
theorem Al.jt (h:Al s q n i r d u j a l l' os q' n'):DV (sz s.1) u.2.1 l' 0 (os++ [(r,d)]) j.2.2.2.2:=by
 obtain⟨l2,h1,h2⟩:=(mL.self h.hb.bv.vs h.fit h.rd.1.1 h.rd.1.2 h.rd.2.1 h.rd.2.2 h.ad).2 os ⟨l,h.has,h.SO⟩
 rw[S5 h1 h.jh,h.z] at h2
 exact h2
theorem Al.pre (h:Al s q n i r d u j a l l' os q' n'):∃ e,l' =l++e:=⟨_,h.ad.grown.more⟩
theorem Al.uni (h:Al s q n i r d u j a l l' os q' n') {p:AH} (hp:p∈q.flatten) (he:p.1=i.1):p=i/\i∈q.flatten:=by
 rcases h.cs with ⟨hi,_⟩|⟨hi,_⟩
 ·exact⟨h.hb.uniq hp hi he,hi⟩
 ·have:=h.seq p hp;omega
theorem Al.mem (h:Al s q n i r d u j a l l' os q' n') {p:AH}:p∈q'.flatten↔(p∈q.flatten/\p.1≠i.1)\/p=j:=by
 have hj:=h.jw
 rcases h.cs with ⟨hi,rfl,_⟩|⟨hi,hw,hb,rfl,_⟩
 ·rw[AKZ,hj.1]
  constructor
  ·rintro (h1|⟨h1,_⟩)
   ·exact .inl h1
   ·exact .inr h1
  ·rintro (h1|h1)
   ·exact .inl h1
   ·exact .inr ⟨h1,i,hi,rfl⟩
 ·rw[AFT (by omega)]
  constructor
  ·rintro (h1|h1)
   ·exact .inl ⟨h1,fun he=>by have:=h.seq p h1;omega⟩
   ·exact .inr h1
  ·rintro (⟨h1,_⟩|h1)
   ·exact .inl h1
   ·exact .inr h1
theorem Al.wS (h:Al s q n i r d u j a l l' os q' n') {p y:Int} (p0:0<=p) (p1:p<i.2.2.2.2) (hy:DK (sz s.1) l p=some y):gl 0#64 u.2.1 y.toNat=gl 0#64 s.2.1 y.toNat:=by
 have z:=CF s.1
 have yZ :DK (sz s.1) l' p=some y:=by rw[h.ad.grown.more];exact C5 hy
 have hr:=DL h.hb.bv.vs h.fit h.has p0 hy
 refine h.ad.wr.oth y.toNat fun k k0 k1 he=> ?_
 rw[sF hr.1.1] at he
 have:=KF z h.ad.grown.path.nodup (by have:=h.jw;omega) p0 he yZ
 omega
theorem Al.other (h:Al s q n i r d u j a l l' os q' n') {p:AH} (hp:p∈q.flatten) (CO:p.1≠i.1):EA u p/\(∀ lp,Has s p lp->Has u p lp/\∀ off x,0<=off->DK (sz s.1) lp off=some x->gl 0#64 u.2.1 x.toNat=gl 0#64 s.2.1 x.toNat)/\∀ os,Full s p os->Full u p os:=mL.other h.hb.bv.vs h.fit h.ad (h.hb.fit hp).1 CO
theorem Al.obO (h:Al s q n i r d u j a l l' os q' n') {p:AH} (hp:p∈q.flatten) (CO:p.1≠i.1) {lp:List Int} {op:List (Int×Int)} {pp b:Int} {x:Int×Int} (o:OB s p lp op pp b x):OB u p lp op pp b x:=by
 obtain⟨h1,h2,h3⟩:=h.other hp CO
 obtain⟨h4,h5⟩:=h2 lp o.has
 refine⟨h4, ?_,o.ta,by rw[h.z];exact o.JE⟩
 rw[h.z]
 exact o.SO.CG fun k y k0 k1 hk=>⟨hk,h5 k y k0 hk⟩
theorem Al.A4V (h:Al s q n i r d u j a l l' os q' n') {p:AH} (hp:p∈q.flatten) (CO:p.1≠i.1) {lp:List Int} {op:List (Int×Int)} {pp b:Int} {x:Int×Int} (o:OB u p lp op pp b x):OB s p lp op pp b x:=by
 obtain⟨o1,l1,g1,g2⟩:=h.hb.full p hp
 obtain⟨h1,h2,h3⟩:=h.other hp CO
 obtain⟨h4,h5⟩:=h2 l1 g1
 have ht:DV (sz u.1) u.2.1 l1 0 o1 p.2.2.2.2:=by
  rw[h.z]
  exact g2.CG fun k y k0 k1 hk=>⟨hk,h5 k y k0 hk⟩
 obtain⟨rfl,rfl⟩:=KG h4 ht o
 exact⟨g1,g2,o.ta,by rw[<-h.z];exact o.JE⟩
theorem Al.obS (h:Al s q n i r d u j a l l' os q' n') {p b:Int} {x:Int×Int} (o:OB s i l os p b x):OB u j l' (os++ [(r,d)]) p b x:=by
 obtain⟨e,he⟩:=h.pre
 exact⟨h.jh,by rw[h.z];exact h.jt,TA.app o.ta,by rw[h.z,he];exact C5 o.JE⟩
theorem Al.obN (h:Al s q n i r d u j a l l' os q' n'):OB u j l' (os++ [(r,d)]) i.2.2.2.2 a (r,d):=
 ⟨h.jh,by rw[h.z];exact h.jt,(TA.snoc h.SO).2 (.inr ⟨rfl,rfl⟩),by rw[h.z];exact h.ad.grown.JE⟩
theorem Al.cls (h:Al s q n i r d u j a l l' os q' n') {lc:List Int} {oc:List (Int×Int)} {p b:Int} {x:Int×Int} (o:OB u j lc oc p b x):lc=l' /\oc=os++ [(r,d)]/\(OB s i l os p b x\/(p=i.2.2.2.2/\b=a/\x=(r,d))):=by
 obtain⟨rfl,rfl⟩:=KG h.jh (by rw[h.z];exact h.jt) o
 refine⟨rfl,rfl, ?_⟩
 rcases (TA.snoc h.SO).1 o.ta with h1|⟨rfl,rfl⟩
 ·left
  have hr:=h.SO.ta h1
  obtain⟨y,hy,_⟩:=hr.2.1
  obtain⟨e,he⟩:=h.pre
  have h2:=o.JE
  rw[h.z,he,C5 hy] at h2
  obtain rfl:=T6 h2
  exact⟨h.has,h.SO,h1,hy⟩
 ·right
  have h2:=o.JE
  rw[h.z,h.ad.grown.JE] at h2
  exact⟨rfl,(T6 h2).symm,rfl⟩
theorem Al.iso (h:Al s q n i r d u j a l l' os q' n') {b:Int} (hb:IsO s q b):IsO u q' b:=by
 obtain⟨p,hp,k,x,lp,op,o⟩:=hb
 by_cases CO:p.1=i.1
 ·obtain⟨rfl,hi⟩:=h.uni hp CO
  obtain⟨rfl,rfl⟩:=KG h.has h.SO o
  exact⟨j,h.mem.2 (.inr rfl),k,x,_,_,h.obS o⟩
 ·exact⟨p,h.mem.2 (.inl ⟨hp,CO⟩),k,x,lp,op,h.obO hp CO o⟩
theorem Al.slot (h:Al s q n i r d u j a l l' os q' n') {y:Int} (hy:Slot s q y):Slot u q' y:=by
 obtain⟨p,hp,lp,op,pp,b,x,k,o,k1,k2,ha⟩:=hy
 by_cases CO:p.1=i.1
 ·obtain⟨rfl,hi⟩:=h.uni hp CO
  obtain⟨rfl,rfl⟩:=KG h.has h.SO o
  obtain⟨e,he⟩:=h.pre
  exact⟨j,h.mem.2 (.inr rfl),_,_,pp,b,x,k,h.obS o,k1,k2,by rw[h.z,he];exact C5 ha⟩
 ·exact⟨p,h.mem.2 (.inl ⟨hp,CO⟩),lp,op,pp,b,x,k,h.obO hp CO o,k1,k2,by rw[h.z];exact ha⟩
theorem Al.z6 (h:Al s q n i r d u j a l l' os q' n') {y:Int} (hy:Slot u q' y):(Slot s q y/\gl 0#64 u.2.1 y.toNat=gl 0#64 s.2.1 y.toNat)\/gl 0#64 u.2.1 y.toNat=0#64:=by
 obtain⟨p,hp,lp,op,pp,b,x,k,o,k1,k2,ha⟩:=hy
 rw[h.z] at ha
 rcases h.mem.1 hp with ⟨hp,CO⟩|rfl
 ·have o' :=h.A4V hp CO o
  have hr:=o'.IA
  obtain⟨h1,h2,h3⟩:=h.other hp CO
  exact .inl ⟨⟨p,hp,lp,op,pp,b,x,k,o',k1,k2,ha⟩,(h2 lp o'.has).2 (pp+k) y (by omega) ha⟩
 ·obtain⟨rfl,rfl,h1⟩:=h.cls o
  rcases h1 with o' |⟨rfl,rfl,rfl⟩
  ·have hr:=o'.IA
   obtain⟨y1,hy1⟩:=AIA h.hb.bv.vs h.fit h.has (p:=pp+k) (by omega) (by omega)
   obtain⟨e,he⟩:=h.pre
   rw[he,C5 hy1] at ha
   obtain rfl:=T6 ha
   have hi:i∈q.flatten:=by
    rcases h.cs with ⟨hi,_⟩|⟨_,hw,_⟩
    ·exact hi
    ·omega
   exact .inl ⟨⟨i,hi,l,os,pp,b,x,k,o',k1,k2,hy1⟩,h.wS (by omega) (by omega) hy1⟩
  ·simp only at k2
   exact .inr (h.ad.wr.fld k y k1 (by have:=h.rd;omega) ha)
theorem Al.SQ (h:Al s q n i r d u j a l l' os q' n'):HB u q' :=by
 have hj:=h.jw
 have hv:=h.hb.bv.vs
 have hN:=(EH.1 h.hb.bv.ok).1
 have hq:OkN q' /\q'.length=q.length:=by
  rcases h.cs with ⟨hi,rfl,_⟩|⟨hi,hw,hb,rfl,_⟩
  ·exact⟨hN.rpl (fun p hp he=>by rw[(h.uni hp (by omega)).1];exact hj.2.1.symm) (by have:=h.rd;omega),mX _ _⟩
  ·exact⟨hN.addr (by omega) (by omega) (by have:=h.rd;omega) (fun p hp=>by have:=h.seq p hp;omega),eH _ _⟩
 refine⟨⟨h.ad.vs,by rw[hq.2];exact h.hb.bv.n,EH.2 ⟨hq.1,fun p hp=> ?_⟩,fun x x0 x1 hx=> ?_⟩,fun p hp=> ?_⟩
 ·rcases h.mem.1 hp with ⟨hp,CO⟩|rfl
  ·exact (h.other hp CO).1
  ·exact h.jf
 ·have hl:u.2.2.length=s.2.2.length:=h.ad.grown.len
  by_cases he:(fr u.2.2 x).1=i.1
  ·exact C6.2 ⟨j,h.mem.2 (.inr rfl),by rw[he];exact hj.1⟩
  ·have hf:fr u.2.2 x=fr s.2.2 x:=Grown.fr1 hv h.ad.grown h.fit.1.1 x0 (by omega) he
   rw[hf] at hx he ⊢
   obtain⟨p,hp,hpe⟩:=C6.1 (h.hb.bv.cov x x0 (by omega) hx)
   exact C6.2 ⟨p,h.mem.2 (.inl ⟨hp,by rw[hpe];exact he⟩),hpe⟩
 ·rcases h.mem.1 hp with ⟨hp,CO⟩|rfl
  ·obtain⟨o1,g⟩:=h.hb.full p hp
   exact⟨o1,(h.other hp CO).2.2 o1 g⟩
  ·exact⟨_,l',h.jh,by rw[h.z];exact h.jt⟩
theorem Al.frm (h:Al s q n i r d u j a l l' os q' n') {p:AH} (hp:p∈q.flatten) {lp:List Int} (hlp:Has s p lp) {pp y:Int} (p0:0<=pp) (hy:DK (sz s.1) lp pp=some y):(fr u.2.2 (y / sz s.1)).1=(fr s.2.2 (y / sz s.1)).1/\(fr u.2.2 (y / sz s.1)).2.1=(fr s.2.2 (y / sz s.1)).2.1:=by
 have hr:=DL h.hb.bv.vs (h.hb.fit hp).1 hlp p0 hy
 have hj:=h.jw
 by_cases CO:p.1=i.1
 ·obtain⟨rfl,hi⟩:=h.uni hp CO
  obtain rfl:=S5 hlp h.has
  obtain⟨e,he⟩:=h.pre
  have e_ :=DL h.ad.vs h.jf h.jh p0 (y:=y) (by rw[h.z,he];exact C5 hy)
  rw[h.z] at e_
  rw[e_.2.2.2.1,e_.2.2.2.2,hr.2.2.2.1,hr.2.2.2.2,hj.1,hj.2.1]
  exact⟨rfl,rfl⟩
 ·obtain⟨h1,h2,h3⟩:=h.other hp CO
  have e_ :=DL h.ad.vs h1 (h2 lp hlp).1 p0 (y:=y) (by rw[h.z];exact hy)
  rw[h.z] at e_
  rw[e_.2.2.2.1,e_.2.2.2.2,hr.2.2.2.1,hr.2.2.2.2]
  exact⟨rfl,rfl⟩
theorem Al.done (h:Al s q n i r d u j a l l' os q' n') {ss:Ss} {ro:Ro} (hi:HI s q n ss ro):HI u q' n' ss ro/\IsO u q' a/\n' <=n+1/\q'.length=q.length:=by
 have hj:=h.jw
 have hn:n<=n' /\n' <=n+1/\j.1<n' /\q'.length=q.length:=by
  rcases h.cs with ⟨h1,rfl,h2⟩|⟨h1,_,_,rfl,h2⟩
  ·have:=h.seq i h1
   exact⟨by omega,by omega,by omega,mX _ _⟩
  ·exact⟨by omega,by omega,by omega,eH _ _⟩
 refine⟨{ hb:=h.SQ,seq:=fun p hp=> ?_,n0:=by have:=h.n0;omega,ref:=fun y hy=> ?_,ro:=hi.ro,root:=fun k hk hu=>⟨(hi.root k hk hu).1,h.iso (hi.root k hk hu).2⟩,rv:=hi.rv,ins:=fun f g y OE=> ?_,rem:=fun y hy f g hp=> ?_ },⟨j,h.mem.2 (.inr rfl),_,_,_,_,h.obN⟩,hn.2.1,hn.2.2.2⟩
 ·rcases h.mem.1 hp with ⟨hp,_⟩|rfl
  ·have:=h.seq p hp;omega
  ·exact hn.2.2.1
 ·rcases h.z6 hy with ⟨h1,h2⟩|h1
  ·rw[h2]
   rcases hi.ref y h1 with h3|h3
   ·exact .inl h3
   ·exact .inr (h.iso h3)
  ·exact .inl h1
 ·obtain⟨h1,h2⟩:=hi.ins f g y OE
  exact⟨h.slot h1,by rw[h.z];exact h2⟩
 ·rcases h.z6 hy with ⟨h1,h2⟩|h1
  rotate_left
  ·exact absurd h1 hp.1
  obtain⟨a1,a2,a3,a4,a5,a6,a7⟩:=hp
  rw[h2] at a1 a2 a4
  rw[h.z] at a3 a4
  rw[h.ad.wr.len] at a2
  obtain⟨p,hp,lp,op,pp,b,x,k,o,k1,k2,ha⟩:=id h1
  have hr:=o.IA
  obtain⟨f1,f2⟩:=h.frm hp o.has (pp:=pp+k) (by omega) ha
  rcases hi.ref y h1 with h3|⟨p',hp',pp',x',lp',op',o'⟩
  ·exact absurd h3 a1
  have e_ :=o'.IA
  obtain⟨g1,g2⟩:=h.frm hp' o'.has (pp:=pp') (by omega) o'.JE
  rw[<-a3] at f1 f2
  rw[<-a4] at g1 g2
  exact hi.rem y h1 f g ⟨a1,a2,a3,a4,by rw[<-f1];exact a5,by rw[<-g1];exact a6,by rw[<-f2,←g2];exact a7⟩
end
end Go.Proofs.YtjbojdpdkikioaaGreatDoor
namespace Go.Proofs.YtjbojdpdkikioaaGreatDoor
open Go Go.V3
abbrev iW (h:Hs):Hs:=(h.1,h.2.1,h.2.2.1,h.2.2.2.1,h.2.2.2.2.1,h.2.2.2.2.2.1,h.2.2.2.2.2.2.1,h.2.2.2.2.2.2.2.1,true)
abbrev ANK (h:Hs):Hs:=(h.1,h.2.1,h.2.2.1,h.2.2.2.1,h.2.2.2.2.1,h.2.2.2.2.2.1,if cmp h.1=true then AG (h.2.2.2.2.2.2.1+1) else h.2.2.2.2.2.2.1,(h.2.2.2.2.2.2.2.1.1,h.2.2.2.2.2.2.2.1.2.1,AG (h.2.2.2.2.2.2.2.1.2.2.1+1),h.2.2.2.2.2.2.2.1.2.2.2),h.2.2.2.2.2.2.2.2)
abbrev E_ (h:Hs) (n:Int):Int×AH:=qL h.1 h.2.1 h.2.2.1 h.2.2.2.1 n
def AIE (h:Hs) (n:Int):Int:=if cmp h.1=true/\h.2.2.2.2.2.2.1≥h.1.2.2 then 0 else n
noncomputable def ACB (a1 a2:Int) (j2:Hs):Option ((Int×Hs×AH) ⊕ (Hs×Int×Int)):=
 Option.bind (CJ j2.1) (fun r5=>
 if r5=true then
 if j2.2.2.2.2.2.2.1≥j2.1.2.2 then
 Option.bind (GA j2) (fun r6=>
 Option.bind (B2 r6.1.1 r6.1.2.1 r6.1.2.2.1 r6.1.2.2.2.1 (AG ((AG ((1:Int)+a1))+a2))) (fun r7=>
 if r7.1=3 then
 some (Sum.inr ((iW r6.1,0,18)))
 else some (Sum.inl ((r7.1,r6.1,r7.2)))))
 else Option.bind (EF j2 (AG ((AG ((1:Int)+a1))+a2))) (fun r8=>
 Option.bind (B2 r8.1.1 r8.1.2.1 r8.1.2.2.1 r8.1.2.2.2.1 (AG ((AG ((1:Int)+a1))+a2))) (fun r9=>
 if r9.1=3 then
 some (Sum.inr ((iW r8.1,0,18)))
 else some (Sum.inl ((r9.1,r8.1,r9.2)))))
 else Option.bind (EF j2 (AG ((AG ((1:Int)+a1))+a2))) (fun JQ=>
 Option.bind (B2 JQ.1.1 JQ.1.2.1 JQ.1.2.2.1 JQ.1.2.2.2.1 (AG ((AG ((1:Int)+a1))+a2))) (fun U2=>
 if U2.1=3 then
 some (Sum.inr ((iW JQ.1,0,18)))
 else some (Sum.inl ((U2.1,JQ.1,U2.2))))))
noncomputable def AA0 (a1 a2:Int) (j1:Int×Hs×AH):Option (Hs×Int×Int):=
 Option.bind (DY j1.2.1.2.1 j1.2.2 (AG ((AG ((1:Int)+a1))+a2))) (fun NX=>
 if ¬NX.2.2.1=0 then
 some (((j1.2.1.1,(j1.2.1.2.1.1,NX.2.2.2),j1.2.1.2.2.1,j1.2.1.2.2.2.1,j1.2.1.2.2.2.2.1,j1.2.1.2.2.2.2.2.1,j1.2.1.2.2.2.2.2.2.1,j1.2.1.2.2.2.2.2.2.2.1,true),0,18))
 else Option.bind (F7 (j1.2.1.2.1.1,NX.2.2.2) NX.2.1 a1 a2) (fun QV=>
 if j1.1=2 then
 Option.bind (FF j1.2.1.2.2.1 NX.1) (fun nH=>
 some (((j1.2.1.1,(j1.2.1.2.1.1,QV.2),nH.1,AG (j1.2.1.2.2.2.1+1),j1.2.1.2.2.2.2.1,j1.2.1.2.2.2.2.2.1,j1.2.1.2.2.2.2.2.2.1,(AG (j1.2.1.2.2.2.2.2.2.2.1.1+(AG ((AG ((1:Int)+a1))+a2))),AG (j1.2.1.2.2.2.2.2.2.2.1.2.1+1),j1.2.1.2.2.2.2.2.2.2.1.2.2),j1.2.1.2.2.2.2.2.2.2.2),NX.2.1,0)))
 else Option.bind (C9 j1.2.1.2.2.1 NX.1) (fun oF=>
 some (((j1.2.1.1,(j1.2.1.2.1.1,QV.2),oF.1,j1.2.1.2.2.2.1,j1.2.1.2.2.2.2.1,j1.2.1.2.2.2.2.2.1,j1.2.1.2.2.2.2.2.2.1,(AG (j1.2.1.2.2.2.2.2.2.2.1.1+(AG ((AG ((1:Int)+a1))+a2))),AG (j1.2.1.2.2.2.2.2.2.2.1.2.1+1),j1.2.1.2.2.2.2.2.2.2.1.2.2),j1.2.1.2.2.2.2.2.2.2.2),NX.2.1,0)))))
theorem ASC (h:Hs) (a1 a2:Int):I8 h a1 a2=(
 if h.2.2.2.2.2.2.2.2=true then
 some (((hz0,0,19):Hs×Int×Int))
 else Option.bind (DI a1 a2) (fun r1=>
 if ¬r1.2=0 then
 some ((hz0,0,r1.2))
 else Option.bind (BR h) (fun r2=>
 Option.bind (B2 r2.1 r2.2.1 r2.2.2.1 r2.2.2.2.1 (AG ((AG ((1:Int)+a1))+a2))) (fun r3=>
 Option.bind (α:=(Int×Hs×AH) ⊕ (Hs×Int×Int)) (if r3.1=3 then
 Option.bind (α:=Hs ⊕ ((Int×Hs×AH) ⊕ (Hs×Int×Int))) (Option.bind (CJ r2.1) (fun r4=>
 if r4=true then
 some (Sum.inl ((r2.1,r2.2.1,r2.2.2.1,r2.2.2.2.1,r2.2.2.2.2.1,r2.2.2.2.2.2.1,AG (r2.2.2.2.2.2.2.1+1),(r2.2.2.2.2.2.2.2.1.1,r2.2.2.2.2.2.2.2.1.2.1,AG (r2.2.2.2.2.2.2.2.1.2.2.1+1),r2.2.2.2.2.2.2.2.1.2.2.2),r2.2.2.2.2.2.2.2.2)))
 else some (Sum.inl ((r2.1,r2.2.1,r2.2.2.1,r2.2.2.2.1,r2.2.2.2.2.1,r2.2.2.2.2.2.1,r2.2.2.2.2.2.2.1,(r2.2.2.2.2.2.2.2.1.1,r2.2.2.2.2.2.2.2.1.2.1,AG (r2.2.2.2.2.2.2.2.1.2.2.1+1),r2.2.2.2.2.2.2.2.1.2.2.2),r2.2.2.2.2.2.2.2.2))))) (fun q=>match q with
 |Sum.inl j2=>ACB a1 a2 j2
 |Sum.inr b1=>some b1)
 else some (Sum.inl ((r3.1,r2,r3.2)))) (fun q=>match q with
 |Sum.inl j1=>AA0 a1 a2 j1
 |Sum.inr b2=>some b2))))):=rfl
def Gcd (h:Hs) (n:Int) (h1:Hs):Prop:=((E_ h n).1≠3/\h1=h)\/((E_ h n).1=3/\∃ b m hx kx,RD (AIE (ANK h) n) (ANK h) b m hx kx/\m<=256/\h1=b.1)
theorem HV.mono {N M:Int} {h:Hs} (v:HV N h) (hM:N<=M):HV M h:=⟨v.g,v.hi,v.ql,by have:=v.n1;omega⟩
theorem HV.col {N:Int} {h:Hs} (v:HV N h):HV N (ANK h):=⟨v.g,v.hi,v.ql,v.n1⟩
theorem RD.ok {N:Int} {h:Hs} (v:HV N h) {n:Int} {b:Hs×Bool} {m:Nat} {h1:Hs} {k1:Cu} (r:RD n h b m h1 k1):HV (N+m) b.1/\b.1.1=h.1/\b.1.2.1.1=h.2.1.1/\b.1.2.1.2.2.length=h.2.1.2.2.length/\b.1.2.2.2.2.2.2.2.2=h.2.2.2.2.2.2.2.2:=by
 obtain⟨g1,g2,g3,g4,g5,g6,g7,g8⟩:=r.rn.ok v (KOk.init v)
 rcases r.fin with ⟨rfl,_⟩|⟨rfl,_⟩|⟨rfl,_⟩
 ·exact⟨g1,g4,g5,g6,g7⟩
 ·exact⟨⟨g1.g,g1.hi,g1.ql,g1.n1⟩,g4,g5,g6,g7⟩
 ·exact⟨g1,g4,g5,g6,g7⟩
theorem Gcd.ok {N:Int} {h:Hs} (v:HV N h) {n:Int} {h1:Hs} (g:Gcd h n h1):HV (N+256) h1/\h1.1=h.1/\h1.2.1.1=h.2.1.1/\h1.2.1.2.2.length=h.2.1.2.2.length/\h1.2.2.2.2.2.2.2.2=h.2.2.2.2.2.2.2.2:=by
 rcases g with ⟨_,rfl⟩|⟨_,b,m,hx,kx,r,hm,rfl⟩
 ·exact⟨v.mono (by omega),rfl,rfl,rfl,rfl⟩
 ·obtain⟨g1,g2⟩:=r.ok v.col
  exact⟨g1.mono (by omega),g2⟩
theorem ASD (r d:Int):∃ w e,DI r d=some (w,e)/\((e=0/\(0<=r/\r<=15)/\(0<=d/\d<=32))\/e=13):=by
 by_cases h:(0<=r/\r<=15)/\(0<=d/\d<=32)
 ·exact⟨_,_,rX h.1.1 h.1.2 h.2.1 h.2.2,.inl ⟨rfl,h⟩⟩
 ·unfold DI
  refine⟨0#64,13, ?_,.inr rfl⟩
  by_cases h1:r<0
  ·rw[AB h1]
  by_cases h2:r>15
  ·rw[AD h1,AB h2]
  by_cases h3:d<0
  ·rw[AD h1,AD h2,AB h3]
  rw[AD h1,AD h2,AD h3,AB (by omega)]
theorem AL6 {N:Int} {h:Hs} (v:HV N h) (hN:N<=4294967000):∃ b m h1 k1,GA h=some b/\RD 0 h b m h1 k1/\m<=256:=by
 obtain⟨b,m,h1,k1,g1,g2⟩:=AG0 v hN (n:=0) (S7 _) (by omega)
 unfold GA
 rw[g1]
 exact⟨b,m,h1,k1,rfl,g2⟩
theorem AZQ {N:Int} {h:Hs} (v:HV N h) (hN:N<=4294967000) {n:Int} (n0:1<=n) (n1:n<=48):∃ b c m h1 k1,EF h n=some (b.1,c)/\RD n h b m h1 k1/\m<=256:=by
 obtain⟨b,m,h1,k1,g1,g2,g3⟩:=AG0 v hN (n:=n) (by omega) (by omega)
 unfold EF
 rw[g1,BC,AFZ (g2.ok v).1 n0 n1]
 exact⟨b,_,m,h1,k1,rfl,g2,g3⟩
theorem ANL {N:Int} {h:Hs} (v:HV N h) (hN:N<=4294967000) {a1 a2:Int} (r0:0<=a1) (r1:a1<=15) (d0:0<=a2) (d1:a2<=32):
  ∃ b m hx kx,RD (AIE h (1+a1+a2)) h b m hx kx/\m<=256/\ACB a1 a2 h=some (if (E_ b.1 (1+a1+a2)).1=3 then .inr (iW b.1,0,18) else .inl ((E_ b.1 (1+a1+a2)).1,b.1,(E_ b.1 (1+a1+a2)).2)):=by
 have hw:AG ((AG ((1:Int)+a1))+a2)=1+a1+a2:=by rw[AE (e:=1+a1) (by omega) (by omega),AE (by omega) (by omega)]
 have A2E:∀ {M:Int} {h1:Hs},HV M h1->B2 h1.1 h1.2.1 h1.2.2.1 h1.2.2.2.1 (1+a1+a2)=some (E_ h1 (1+a1+a2)):=fun v1=>ACA v1.g v1.qq v1.hi.hb.bv.n.1 (by omega) (by omega)
 have fin:∀ (h1:Hs),(if (E_ h1 (1+a1+a2)).1=3 then (some (Sum.inr ((iW h1,(0:Int),(18:Int)))):Option ((Int×Hs×AH) ⊕ (Hs×Int×Int))) else some (Sum.inl (((E_ h1 (1+a1+a2)).1,h1,(E_ h1 (1+a1+a2)).2))))=some (if (E_ h1 (1+a1+a2)).1=3 then .inr (iW h1,0,18) else .inl ((E_ h1 (1+a1+a2)).1,h1,(E_ h1 (1+a1+a2)).2)):=by
  intro h1
  split <;> rfl
 unfold ACB
 rw[nB v.g,BC,hw]
 have A2F:∀ (hr:AIE h (1+a1+a2)=1+a1+a2),∃ b m hx kx,RD (AIE h (1+a1+a2)) h b m hx kx/\m<=256/\Option.bind (EF h (1+a1+a2)) (fun JQ=>
   Option.bind (B2 JQ.1.1 JQ.1.2.1 JQ.1.2.2.1 JQ.1.2.2.2.1 (1+a1+a2)) (fun U2=>
   if U2.1=3 then
   some (Sum.inr ((iW JQ.1,(0:Int),(18:Int))))
   else some (Sum.inl ((U2.1,JQ.1,U2.2)))))=some (if (E_ b.1 (1+a1+a2)).1=3 then .inr (iW b.1,0,18) else .inl ((E_ b.1 (1+a1+a2)).1,b.1,(E_ b.1 (1+a1+a2)).2)):=by
  intro hr
  obtain⟨b,c,m,hx,kx,g1,g2,g3⟩:=AZQ v hN (n:=1+a1+a2) (by omega) (by omega)
  refine⟨b,m,hx,kx,by rw[hr];exact g2,g3, ?_⟩
  rw[g1,BC]
  simp only
  rw[A2E (g2.ok v).1,BC]
  exact fin b.1
 by_cases c1:cmp h.1=true
 ·rw[AB c1]
  by_cases c2:h.2.2.2.2.2.2.1≥h.1.2.2
  ·rw[AB c2]
   obtain⟨b,m,hx,kx,g1,g2,g3⟩:=AL6 v hN
   refine⟨b,m,hx,kx,by unfold AIE;rw[AB ⟨c1,c2⟩];exact g2,g3, ?_⟩
   rw[g1,BC,A2E (g2.ok v).1,BC]
   exact fin b.1
  ·rw[AD c2]
   exact A2F (by unfold AIE;rw[AD (fun hh=>c2 hh.2)])
 ·rw[AD c1]
  exact A2F (by unfold AIE;rw[AD (fun hh=>c1 hh.1)])
theorem ASE {N:Int} {h:Hs} (v:HV N h) (hN:N<=4294967295) {n:Int} (hp:(E_ h n).1≠3):
  EA h.2.1 (E_ h n).2/\((E_ h n).2.2.2.2.2=0->owned h.2.1.2.2 (E_ h n).2.1=[])∧
  ((E_ h n).1=1/\(E_ h n).2∈h.2.2.1.flatten\/(E_ h n).1=2/\(E_ h n).2=(h.2.2.2.1,0, -1, -1,0)):=by
 have hn0:=v.hi.n0
 have hn1:=v.n1
 unfold E_ qL at*
 by_cases c1:opn h.1 h.2.1 h.2.2.1
 ·rw[AB c1] at hp ⊢
  by_cases c2:GrT (cmp h.1) h.2.1 h.2.2.1 (yng h.2.2.1) n
  ·rw[AB c2]
   have hl:=fK.2 c1.1
   have hb:=v.hi.hb.bv.n
   have hy:yng h.2.2.1∈h.2.2.1.flatten:=KP.2 ⟨0,by omega,BS (by omega)⟩
   have hf:=v.hi.hb.fit hy
   exact⟨hf.1,fun hw=>by simp only at hw;omega,.inl ⟨rfl,hy⟩⟩
  ·rw[AD c2] at hp;exact absurd rfl hp
 ·rw[AD c1] at hp ⊢
  by_cases c2:(ru h.1 0).2.1≠0/\(ru h.1 0).2.1<=(gl [] h.2.2.1 0).length
  ·rw[AB c2] at hp;exact absurd rfl hp
  rw[AD c2] at hp ⊢
  by_cases c3:GrT (cmp h.1) h.2.1 h.2.2.1 (h.2.2.2.1,0, -1, -1,0) n
  ·rw[AB c3]
   refine⟨A28 _ hn0 (by omega) (by omega) (by omega),fun _=> ?_,.inr ⟨rfl,rfl⟩⟩
   refine ANT.2 fun x hx=> ?_
   obtain⟨⟨x0,x1⟩,hxo⟩:=CD.1 hx
   simp only at hxo
   have:=v.hi.hb.bv.cov x x0 x1 (by rw[hxo];omega)
   obtain⟨i,hi,he⟩:=C6.1 this
   have:=v.hi.seq i hi
   omega
  ·rw[AD c3] at hp;exact absurd rfl hp
def Ald (h:Hs) (i:AH) (r d:Int) (h' :Hs) (a:Int):Prop:=
 ∃ u j l l' os q' n',Al h.2.1 h.2.2.1 h.2.2.2.1 i r d u j a l l' os q' n' /\h' =(h.1,u,q',n',h.2.2.2.2.1,h.2.2.2.2.2.1,h.2.2.2.2.2.2.1,(AG (h.2.2.2.2.2.2.2.1.1+(1+r+d)),AG (h.2.2.2.2.2.2.2.1.2.1+1),h.2.2.2.2.2.2.2.1.2.2),h.2.2.2.2.2.2.2.2)
theorem ASF {N:Int} {h:Hs} (v:HV N h) (hN:N<=4294967290) {a1 a2:Int} (r0:0<=a1) (r1:a1<=15) (d0:0<=a2) (d1:a2<=32) (hp:(E_ h (1+a1+a2)).1≠3):
  (((DH h.2.1.2.2).length:Int)<qK h.2.1 (E_ h (1+a1+a2)).2 (1+a1+a2)/\AA0 a1 a2 ((E_ h (1+a1+a2)).1,h,(E_ h (1+a1+a2)).2)=some (iW h,0,18))∨
  ∃ h' a,AA0 a1 a2 ((E_ h (1+a1+a2)).1,h,(E_ h (1+a1+a2)).2)=some (h',a,0)/\Ald h (E_ h (1+a1+a2)).2 a1 a2 h' a:=by
 have hw:AG ((AG ((1:Int)+a1))+a2)=1+a1+a2:=by rw[AE (e:=1+a1) (by omega) (by omega),AE (by omega) (by omega)]
 obtain⟨hf,DC,hk⟩:=ASE v (by omega) hp
 generalize hI:(E_ h (1+a1+a2)).2=i at*
 generalize hK:(E_ h (1+a1+a2)).1=kd at*
 obtain⟨l1,l2,l3⟩:=v.hi.hb.lens
 have hn0:=v.hi.n0
 have hn1:=v.n1
 have hqn:=v.hi.hb.bv.n
 unfold AA0
 simp only[hw]
 rcases AKI v.vs hf DC (n:=1+a1+a2) (by omega) (by omega) with ⟨g1,g2⟩|⟨g1,t,j,a,l,l',g2,g3⟩
 ·left
  rw[g2,BC]
  exact⟨g1,rfl⟩
 ·right
  rw[g2,BC]
  simp only
  rw[AD (IN trivial)]
  obtain⟨u,m1,m2,m3⟩:=AUI v.vs r0 r1 d0 d1 hf g3
  have e1:((h.2.1.1,t.2.1,t.2.2):Sp)=t:=by rw[<-g3.sh]
  rw[e1,m1,BC]
  have e2:((h.2.1.1,u.2.1,u.2.2):Sp)=u:=by rw[<-m3.sh]
  simp only
  rw[e2]
  have A2G:∃ os,DV (sz h.2.1.1) h.2.1.2.1 l 0 os i.2.2.2.2:=by
   rcases hk with ⟨_,hm⟩|⟨_,rfl⟩
   ·obtain⟨os,l2,f1,f2⟩:=v.hi.hb.full i hm
    rw[S5 f1 g3.has] at f2
    exact⟨os,f2⟩
   ·exact⟨[],rfl⟩
  obtain⟨os,AC3⟩:=A2G
  have AIC:=g3.seq
  have vM:=g3.iD
  rcases hk with ⟨rfl,hm⟩|⟨rfl,hi⟩
  ·rw[AD (by decide),vL (by omega) (fun x hx=>by have:=l3 x hx;omega) (EH.1 v.hi.hb.bv.ok).1 hm AIC.symm vM.symm,BC]
   exact⟨_,_,rfl,u,j,l,l',os,_,_,⟨v.hi.hb,v.hi.seq,v.hi.n0,⟨⟨r0,r1⟩,d0,d1⟩,hf,m3,g3.has,AC3,.inl ⟨hm,rfl,rfl⟩⟩,rfl⟩
  ·have hi1:i.1=h.2.2.2.1:=by rw[hi]
   have hi2:i.2.1=0:=by rw[hi]
   have hi3:i.2.2.2.2=0:=by rw[hi]
   rw[AB rfl,AS1 (by omega) (fun x hx=>by have:=l3 x hx;omega) (by omega) (by omega) (fun p hp=>by have:=v.hi.seq p hp;omega),BC,AE (e:=h.2.2.2.1+1) (by omega) (by omega)]
   exact⟨_,_,rfl,u,j,l,l',os,_,_,⟨v.hi.hb,v.hi.seq,v.hi.n0,⟨⟨r0,r1⟩,d0,d1⟩,hf,m3,g3.has,AC3,.inr ⟨hi1,hi3,by omega,rfl,rfl⟩⟩,rfl⟩
theorem Ald.ok {N:Int} {h:Hs} (v:HV N h) {i:AH} {r d:Int} {h' :Hs} {a:Int} (al:Ald h i r d h' a):HV (N+1) h' /\IsO h'.2.1 h'.2.2.1 a/\h'.1=h.1/\h'.2.2.2.2.2.2.2.2=h.2.2.2.2.2.2.2.2/\h'.2.1.1=h.2.1.1/\h'.2.1.2.2.length=h.2.1.2.2.length/\h'.2.2.2.2.2.1=h.2.2.2.2.2.1:=by
 obtain⟨u,j,l,l',os,q',n',h1,rfl⟩:=al
 obtain⟨g1,g2,g3,g4⟩:=h1.done v.hi
 have:=v.n1
 exact⟨⟨v.g,g1,by simp only;rw[g4];exact v.ql,by simp only;omega⟩,g2,rfl,rfl,h1.ad.sh,h1.ad.grown.len,rfl⟩
def AlR (h:Hs) (r d:Int) (h' :Hs) (a e:Int):Prop:=
 ∃ h1,Gcd h (1+r+d) h1/\((e=18/\h' =iW h1/\a=0/\((E_ h1 (1+r+d)).1=3\/((DH h1.2.1.2.2).length:Int)<qK h1.2.1 (E_ h1 (1+r+d)).2 (1+r+d)))\/(e=0/\(E_ h1 (1+r+d)).1≠3/\Ald h1 (E_ h1 (1+r+d)).2 r d h' a))
theorem ANM {N:Int} {h:Hs} (v:HV N h) (hN:N<=4294966000) (hd:h.2.2.2.2.2.2.2.2=false) {r d:Int} (r0:0<=r) (r1:r<=15) (d0:0<=d) (d1:d<=32):∃ h' a e,I8 h r d=some (h',a,e)/\AlR h r d h' a e:=by
 have hw:AG ((AG ((1:Int)+r))+d)=1+r+d:=by rw[AE (e:=1+r) (by omega) (by omega),AE (by omega) (by omega)]
 have tail:∀ {h1:Hs},Gcd h (1+r+d) h1->(E_ h1 (1+r+d)).1≠3->∃ h' a e,AA0 r d ((E_ h1 (1+r+d)).1,h1,(E_ h1 (1+r+d)).2)=some (h',a,e)/\AlR h r d h' a e:=by
  intro h1 g hp
  rcases ASF (g.ok v).1 (by omega) r0 r1 d0 d1 hp with ⟨g1,g2⟩|⟨h',a,g1,g2⟩
  ·exact⟨_,_,_,g2,h1,g,.inl ⟨rfl,rfl,rfl,.inr g1⟩⟩
  ·exact⟨_,_,_,g1,h1,g,.inr ⟨rfl,hp,g2⟩⟩
 rw[ASC,hd,AD (by decide),rX r0 r1 d0 d1,BC,AD (IN rfl),v.copy,BC,hw,ACA v.g v.qq v.hi.hb.bv.n.1 (n:=h.2.2.2.1) (k:=1+r+d) (by omega) (by omega),BC]
 by_cases c1:(qL h.1 h.2.1 h.2.2.1 h.2.2.2.1 (1+r+d)).1=3
 ·rw[AB c1,nB v.g,BC]
  have key:∀ X:Option ((Int×Hs×AH) ⊕ (Hs×Int×Int)),X=ACB r d (ANK h)->∃ h' a e,(Option.bind X fun q=>match q with
    |Sum.inl j1=>AA0 r d j1
    |Sum.inr b2=>some b2)=some (h',a,e)/\AlR h r d h' a e:=by
   rintro X rfl
   obtain⟨b,m,hx,kx,g1,g2,g3⟩:=ANL v.col (by omega) r0 r1 d0 d1
   have hg:Gcd h (1+r+d) b.1:= .inr ⟨c1,b,m,hx,kx,g1,g2,rfl⟩
   rw[g3,BC]
   by_cases c2:(E_ b.1 (1+r+d)).1=3
   ·rw[AB c2]
    exact⟨_,_,_,rfl,b.1,hg,.inl ⟨rfl,rfl,rfl,.inl c2⟩⟩
   ·rw[AD c2]
    exact tail hg c2
  refine key _ ?_
  unfold ANK
  by_cases c3:cmp h.1=true
  ·rw[AB c3,AB c3];rfl
  ·rw[AD c3,AD c3];rfl
 ·rw[AD c1,BC]
  exact tail (.inl ⟨c1,rfl⟩) c1
end Go.Proofs.YtjbojdpdkikioaaGreatDoor
namespace Go.Proofs.YtjbojdpdkikioaaGreatDoor
open Go Go.V3
theorem HI.take {s:Sp} {q:Rows} {n:Int} {ss:Ss} {r:Ro} (h:HI s q n ss r) {i:Nat} (hi:i<32) {w:BitVec 64} (hw:w≠0#64) (ho:IsO s q ((w.toNat:Int)-1)):HI s q n ss (r.1.set i true,r.2.set i w):=by
 have h1:=h.ro.ul
 have h2:=h.ro.rl
 refine { h with ro:=h.ro.set i w,root:=fun k hk hu=> ?_ }
 simp only at hu ⊢
 rw[D8 (by omega)] at hu ⊢
 split
 ·exact⟨hw,ho⟩
 ·rename_i hn
  rw[AD hn] at hu
  exact h.root k hk hu
theorem HI.drop {s:Sp} {q:Rows} {n:Int} {ss:Ss} {r:Ro} (h:HI s q n ss r) {i:Nat} (hi:i<32):HI s q n ss (r.1.set i false,r.2.set i 0#64):=by
 have h1:=h.ro.ul
 have h2:=h.ro.rl
 refine { h with ro:=h.ro.clear hi,root:=fun k hk hu=> ?_ }
 simp only at hu ⊢
 rw[D8 (by omega)] at hu ⊢
 split at hu
 ·cases hu
 ·rename_i hn
  rw[AD hn]
  exact h.root k hk hu
structure Fd (s:Sp) (q:Rows) (i:AH) (l:List Int) (os:List (Int×Int)) (p a:Int) (x:Int×Int) (k y:Int):Prop where
 hb:HB s q
 hi:i∈q.flatten
 o:OB s i l os p a x
 k0:1<=k
 k1:k<=x.1+x.2
 hy:DK (sz s.1) l (p+k)=some y
abbrev Y8 (s:Sp) (y:Int) (v:BitVec 64):Sp:=(s.1,s.2.1.set y.toNat v,s.2.2)
section
variable {s:Sp} {q:Rows} {i:AH} {l:List Int} {os:List (Int×Int)} {p a:Int} {x:Int×Int} {k y:Int}
theorem Fd.JE (h:Fd s q i l os p a x k y):(0<=y/\y<s.2.1.length)/\(fr s.2.2 (y / sz s.1)).1=i.1:=by
 have hr:=DL h.hb.bv.vs (h.hb.fit h.hi).1 h.o.has (by have:=h.o.IA;have:=h.k0;omega) h.hy
 exact⟨hr.1,hr.2.2.2.1⟩
theorem Fd.head (h:Fd s q i l os p a x k y) {i' :AH} (KV :i' ∈q.flatten) {l' :List Int} {qH :List (Int×Int)} {p' b:Int} {x' :Int×Int} (o' :OB s i' l' qH p' b x'):b≠y:=by
 rintro rfl
 have r1:=h.o.IA
 have r2:=o'.IA
 have k0:=h.k0
 have k1:=h.k1
 have c1:=h.JE.2
 have c2:=DL h.hb.bv.vs (h.hb.fit KV).1 o'.has r2.2.2.1 o'.JE
 obtain rfl:=h.hb.uniq KV h.hi (by rw[<-c2.2.2.2.1,←c1])
 obtain⟨rfl,rfl⟩:=KG o'.has o'.SO h.o
 have:=KF (CF s.1) (eG o'.has) r2.2.2.1 (by omega) o'.JE h.hy
 rcases o'.SO.apart o'.ta h.o.ta with ⟨h3,_⟩|h3|h3 <;> omega
theorem Fd.one (h:Fd s q i l os p a x k y) {i' :AH} (KV :i' ∈q.flatten) {l' :List Int} {qH :List (Int×Int)} {p' b:Int} {x' :Int×Int} (o' :OB s i' l' qH p' b x') {j:Int} (j0:0<=j) (j1:j<=x'.1+x'.2) (hj:DK (sz s.1) l' (p' +j)=some y):i' =i/\b=a/\x' =x/\j=k/\p' =p:=by
 have r1:=h.o.IA
 have r2:=o'.IA
 have k0:=h.k0
 have k1:=h.k1
 have c1:=h.JE.2
 have c2:=DL h.hb.bv.vs (h.hb.fit KV).1 o'.has (by omega) hj
 obtain rfl:=h.hb.uniq KV h.hi (by rw[<-c2.2.2.2.1,←c1])
 obtain⟨rfl,rfl⟩:=KG o'.has o'.SO h.o
 have:=KF (CF s.1) (eG o'.has) (by omega) (by omega) hj h.hy
 rcases o'.SO.apart o'.ta h.o.ta with ⟨rfl,rfl⟩|h3|h3
 ·have e:=o'.JE
  rw[h.o.JE] at e
  exact⟨rfl,(T6 e).symm,rfl,by omega,rfl⟩
 ·omega
 ·omega
theorem Fd.vs (h:Fd s q i l os p a x k y) (v:BitVec 64):VS (Y8 s y v):=
 h.hb.bv.vs.word h.JE.1.1 (by rw[h.JE.2];have:=(h.hb.fit h.hi).1.1;omega) v
theorem Fd.wd (h:Fd s q i l os p a x k y) (v:BitVec 64) {z:Int} (z0:0<=z):gl 0#64 (Y8 s y v).2.1 z.toNat=if z=y then v else gl 0#64 s.2.1 z.toNat:=by
 have hr:=h.JE.1
 unfold Y8
 simp only
 rw[D8 (by omega)]
 by_cases hz:z=y
 ·rw[AB hz,AB (by rw[hz])]
 ·rw[AD hz,AD (by omega)]
theorem Fd.ob (h:Fd s q i l os p a x k y) (v:BitVec 64) {i' :AH} (KV :i' ∈q.flatten) {l' :List Int} {qH :List (Int×Int)} {p' b:Int} {x' :Int×Int}:OB (Y8 s y v) i' l' qH p' b x' ↔OB s i' l' qH p' b x' :=by
 obtain⟨o1,l1,g1,g2⟩:=h.hb.full i' KV
 have hv:=h.hb.bv.vs
 have hf:=(h.hb.fit KV).1
 have ht:DV (sz s.1) (Y8 s y v).2.1 l1 0 o1 i'.2.2.2.2:=g2.zZ fun p' x' b hp hb=>⟨hb,by
  have o' :OB s i' l1 o1 p' b x' :=⟨g1,g2,hp,hb⟩
  have hr:=DL hv hf g1 o'.IA.2.2.1 hb
  rw[h.wd v hr.1.1,AD (h.head KV o')]⟩
 constructor
 ·intro o'
  obtain⟨rfl,rfl⟩:=KG (s:=Y8 s y v) g1 ht o'
  exact⟨g1,g2,o'.ta,o'.JE⟩
 ·intro o'
  obtain⟨rfl,rfl⟩:=KG g1 g2 o'
  exact⟨g1,ht,o'.ta,o'.JE⟩
theorem Fd.SQ (h:Fd s q i l os p a x k y) (v:BitVec 64):HB (Y8 s y v) q:=by
 have QQ:=EH.1 h.hb.bv.ok
 refine⟨⟨h.vs v,h.hb.bv.n,EH.2 ⟨QQ.1,fun p hp=>EA.words (by simp) (QQ.2 p hp)⟩,h.hb.bv.cov⟩,fun i' KV => ?_⟩
 obtain⟨o1,l1,g1,g2⟩:=h.hb.full i' KV
 refine⟨o1,l1,g1,g2.zZ fun p' x' b hp hb=>⟨hb, ?_⟩⟩
 have o' :OB s i' l1 o1 p' b x' :=⟨g1,g2,hp,hb⟩
 have hr:=DL h.hb.bv.vs (h.hb.fit KV).1 g1 o'.IA.2.2.1 hb
 rw[h.wd v hr.1.1,AD (h.head KV o')]
theorem Fd.slot (h:Fd s q i l os p a x k y) (v:BitVec 64) {z:Int}:Slot (Y8 s y v) q z↔Slot s q z:=by
 constructor
 ·rintro⟨i',KV,l',qH,p',b,x',j,o',j1,j2,ha⟩
  exact⟨i',KV,l',qH,p',b,x',j,(h.ob v KV).1 o',j1,j2,ha⟩
 ·rintro⟨i',KV,l',qH,p',b,x',j,o',j1,j2,ha⟩
  exact⟨i',KV,l',qH,p',b,x',j,(h.ob v KV).2 o',j1,j2,ha⟩
theorem Fd.iso (h:Fd s q i l os p a x k y) (v:BitVec 64) {b:Int}:IsO (Y8 s y v) q b↔IsO s q b:=by
 constructor
 ·rintro⟨i',KV,p',x',l',qH,o'⟩
  exact⟨i',KV,p',x',l',qH,(h.ob v KV).1 o'⟩
 ·rintro⟨i',KV,p',x',l',qH,o'⟩
  exact⟨i',KV,p',x',l',qH,(h.ob v KV).2 o'⟩
theorem Fd.pr (h:Fd s q i l os p a x k y) (v:BitVec 64) {z:Int} {w:BitVec 64} {f g:Int}:Pr (Y8 s y v) z w f g↔Pr s z w f g:=by
 unfold Pr Y8
 simp only[EP]
theorem Fd.data (h:Fd s q i l os p a x k y) (v:BitVec 64) (hk:x.1<k) {n:Int} {ss:Ss} {r:Ro} (hi:HI s q n ss r):HI (Y8 s y v) q n ss r:=by
 have CO:∀ z,Slot s q z->z≠y:=by
  rintro z ⟨i',KV,l',qH,p',b,x',j,o',j1,j2,ha⟩ rfl
  obtain⟨_,_,rfl,rfl,_⟩:=h.one KV o' (by omega) (by have:=o'.IA;omega) ha
  omega
 have hw:∀ z,Slot s q z->gl 0#64 (Y8 s y v).2.1 z.toNat=gl 0#64 s.2.1 z.toNat:=by
  intro z hz
  have h1:=CO z hz
  obtain⟨i',KV,l',qH,p',b,x',j,o',j1,j2,ha⟩:=hz
  have hr:=DL hi.hb.bv.vs (hi.hb.fit KV).1 o'.has (by have:=o'.IA;omega) ha
  rw[h.wd v hr.1.1,AD h1]
 refine { hb:=h.SQ v,seq:=hi.seq,n0:=hi.n0,ref:=fun z hz=> ?_,ro:=hi.ro,root:=fun k hk hu=>⟨(hi.root k hk hu).1,(h.iso v).2 (hi.root k hk hu).2⟩,rv:=hi.rv,ins:=fun f g z hz=>⟨(h.slot v).2 (hi.ins f g z hz).1,(hi.ins f g z hz).2⟩,rem:=fun z hz f g hp=> ?_ }
 ·have hz' :=(h.slot v).1 hz
  rw[hw z hz']
  rcases hi.ref z hz' with h1|h1
  ·exact .inl h1
  ·exact .inr ((h.iso v).2 h1)
 ·have hz' :=(h.slot v).1 hz
  rw[hw z hz'] at hp
  exact hi.rem z hz' f g ((h.pr v).1 hp)
theorem Fd.ref (h:Fd s q i l os p a x k y) {v:BitVec 64} (hk:k<=x.1) (hv:Rf s q v) {n:Int} {ss:Ss} {r:Ro} (hi:HI s q n ss r) {VG :Ss} (hr:RV VG) (hs:∀ f g y',In VG f g y' ↔In ss f g y' \/(y' =y/\Pr (Y8 s y v) y v f g)):HI (Y8 s y v) q n VG r:=by
 have PO:Slot s q y:=⟨i,h.hi,l,os,p,a,x,k,h.o,h.k0,hk,h.hy⟩
 have hrf:∀ w,Rf s q w->Rf (Y8 s y v) q w:=by
  rintro w (h1|h1)
  ·exact .inl h1
  ·exact .inr ((h.iso v).2 h1)
 have hw:∀ z,Slot s q z->gl 0#64 (Y8 s y v).2.1 z.toNat=if z=y then v else gl 0#64 s.2.1 z.toNat:=by
  intro z hz
  obtain⟨i',KV,l',qH,p',b,x',j,o',j1,j2,ha⟩:=hz
  have hr:=DL hi.hb.bv.vs (hi.hb.fit KV).1 o'.has (by have:=o'.IA;omega) ha
  exact h.wd v hr.1.1
 refine { hb:=h.SQ v,seq:=hi.seq,n0:=hi.n0,ref:=fun z hz=> ?_,ro:=hi.ro,root:=fun k hk hu=>⟨(hi.root k hk hu).1,(h.iso v).2 (hi.root k hk hu).2⟩,rv:=hr,ins:=fun f g z hz=> ?_,rem:=fun z hz f g hp=> ?_ }
 ·have hz' :=(h.slot v).1 hz
  rw[hw z hz']
  split
  ·exact hrf v hv
  ·exact hrf _ (hi.ref z hz')
 ·rcases (hs f g z).1 hz with h1|⟨rfl,h1⟩
  ·exact⟨(h.slot v).2 (hi.ins f g z h1).1,(hi.ins f g z h1).2⟩
  ·exact⟨(h.slot v).2 PO,h1.2.2.1⟩
 ·have hz' :=(h.slot v).1 hz
  rw[hw z hz'] at hp
  by_cases he:z=y
  ·subst he
   rw[AB rfl] at hp
   exact (hs f g z).2 (.inr ⟨rfl,hp⟩)
  ·rw[AD he] at hp
   exact (hs f g z).2 (.inl (hi.rem z hz' f g ((h.pr v).1 hp)))
end
end Go.Proofs.YtjbojdpdkikioaaGreatDoor
namespace Go.Proofs.YtjbojdpdkikioaaGreatDoor
open Go Go.V3
abbrev Op:Type:=Int×Int×Int×Int
abbrev An:Type:=Int×BitVec 64
def OP (u:List Bool) (x:Int) (need:Bool):Int:=if x=0 then (if need=true then 16 else 0) else if x<0\/32<x\/gl false u (x-1).toNat=false then 14 else 0
def xC (r:Ro) (x:Int):BitVec 64:=if x=0 then 0#64 else gl 0#64 r.2 (x-1).toNat
theorem fG {h:Hs} (hr:Y5 h.2.2.2.2.2.1) (x:Int) (need:Bool):C2 h x need=some (OP h.2.2.2.2.2.1.1 x need):=by
 have h1:=hr.ul
 unfold C2 OP
 by_cases c0:x=0
 ·simp only[AB c0]
  cases need <;> rfl
 simp only[AD c0]
 by_cases c1:x<0
 ·rw[AB c1,AB (.inl c1)]
 by_cases c2:x>32
 ·rw[AD c1,AB c2,AB (.inr (.inl c2))]
 rw[AD c1,AD c2,AE (e:=x-1) (by omega) (by omega),AB (by omega)]
 cases hu:gl false h.2.2.2.2.2.1.1 (x-1).toNat with
 |true=>rw[AD (by decide),AD (fun hh=>by rcases hh with hh|hh|hh;omega;omega;cases hh)]
 |false=>rw[AB (by decide),AB (.inr (.inr rfl))]
theorem eI {u:List Bool} {x:Int} (h:OP u x true=0):1<=x/\x<=32/\gl false u (x-1).toNat=true:=by
 unfold OP at h
 by_cases c0:x=0
 ·rw[AB c0,AB rfl] at h;omega
 rw[AD c0] at h
 by_cases c1:x<0\/32<x\/gl false u (x-1).toNat=false
 ·rw[AB c1] at h;omega
 refine⟨by omega,by omega, ?_⟩
 cases hu:gl false u (x-1).toNat with
 |true=>rfl
 |false=>exact absurd (.inr (.inr hu)) c1
theorem AL7 {u:List Bool} {x:Int} (h:OP u x false=0):x=0\/(1<=x/\x<=32/\gl false u (x-1).toNat=true):=by
 by_cases c0:x=0
 ·exact .inl c0
 ·refine .inr (eI ?_)
  unfold OP at h ⊢
  rw[AD c0] at h ⊢
  exact h
theorem Y9 {h:Hs} (hr:Y5 h.2.2.2.2.2.1) {x:Int} (x0:0<=x) (x1:x<=32):BJ h x=some (xC h.2.2.2.2.2.1 x):=by
 have h1:=hr.rl
 unfold BJ xC
 by_cases c0:x=0
 ·rw[AB c0,AB c0]
 ·rw[AD c0,AD c0,AE (e:=x-1) (by omega) (by omega),AB (by omega)]
theorem AG1 {r:Ro} (h:Y5 r) (w:BitVec 64):
  (∃ i:Nat,i<32/\gl false r.1 i=false/\(∀ j:Nat,j<i->gl false r.1 j=true)/\DJ r w=some ((r.1.set i true,r.2.set i w),(i:Int)+1,0))\/((∀ i:Nat,i<32->gl false r.1 i=true)/\DJ r w=some (([],[]),0,15)):=by
 have h1:=h.ul
 have h2:=h.rl
 unfold DJ
 rw[h.valid,BC,AD (by simp),h.copy]
 refine (AN (fun k (st:Int)=>st=(k:Int)/\∀ j:Nat,j<k->gl false r.1 j=true) (fun b=>(∃ i:Nat,i<32/\gl false r.1 i=false/\(∀ j:Nat,j<i->gl false r.1 j=true)/\b=((r.1.set i true,r.2.set i w),(i:Int)+1,(0:Int)))\/((∀ i:Nat,i<32->gl false r.1 i=true)/\b=(([],[]),(0:Int),(15:Int)))) r.1.length ?_ ?_ (s:=0) ⟨rfl,fun j hj=>by omega⟩).elim fun b hb=>by
  rcases hb.2 with ⟨i,a1,a2,a3,a4⟩|⟨a1,a2⟩
  ·exact .inl ⟨i,a1,a2,a3,by rw[hb.1,a4]⟩
  ·exact .inr ⟨a1,by rw[hb.1,a2]⟩
 ·rintro k st hk ⟨rfl,hj⟩
  rw[AB (by omega),AB (by omega)]
  simp only[H6]
  cases hu:gl false r.1 k with
  |true=>
   rw[AD (by simp),AE (by omega) (by omega)]
   refine .inl ⟨_,rfl,rfl,fun j eX => ?_⟩
   by_cases kP:j=k
   ·rw[kP];exact hu
   ·exact hj j (by omega)
  |false=>
   rw[AB (by simp),BC,AB (by omega),AB (by omega),AE (by omega) (by omega)]
   exact .inr ⟨_,rfl,.inl ⟨k,by omega,hu,hj,rfl⟩⟩
 ·rintro st ⟨rfl,hj⟩
  rw[AD (by omega)]
  exact⟨_,rfl,.inr ⟨fun i hi=>hj i (by omega),rfl⟩⟩
def T2 (u:List Bool):Prop:=∀ i:Nat,i<32->gl false u i=true
instance (u:List Bool):Decidable (T2 u):=by unfold T2;infer_instance
theorem AG2 (u:List Bool):∀ k:Nat,(zU u k).length=k↔∀ i:Nat,i<k->gl false u i=true
 |0=>⟨fun _ i hi=>by omega,fun _=>rfl⟩
 |k+1=>by
  have hl:=mT u k
  have ih:=AG2 u k
  rw[zU,JG]
  by_cases hu:gl false u k=true
  ·rw[AB hu,H7]
   constructor
   ·intro h i hi
    by_cases eS:i=k
    ·rw[eS];exact hu
    ·exact ih.1 (by omega) i (by omega)
   ·intro h
    rw[ih.2 fun i hi=>h i (by omega)]
  ·rw[AD hu,VN]
   constructor
   ·intro h;omega
   ·intro h;exact absurd (h k (by omega)) hu
theorem AA1 {h:Hs} (hr:Y5 h.2.2.2.2.2.1):EV h=some (decide (T2 h.2.2.2.2.2.1.1)):=by
 unfold EV
 rw[oU hr,BC]
 have:=AG2 h.2.2.2.2.2.1.1 32
 by_cases hf:T2 h.2.2.2.2.2.1.1
 ·rw[HF hf,HF (show ((zU h.2.2.2.2.2.1.1 32).length:Int)=32 by have:=this.2 hf;omega)]
 ·rw[QB hf,QB (show ¬((zU h.2.2.2.2.2.1.1 32).length:Int)=32 from fun hh=>hf (this.1 (by omega)))]
abbrev AWX (h:Hs) (r:Ro):Hs:=(h.1,h.2.1,h.2.2.1,h.2.2.2.1,h.2.2.2.2.1,r,h.2.2.2.2.2.2)
def ASG (h:Hs) (w:BitVec 64) (h' :Hs) (v:BitVec 64):Prop:=
 ∃ i:Nat,i<32/\gl false h.2.2.2.2.2.1.1 i=false/\(∀ j:Nat,j<i->gl false h.2.2.2.2.2.1.1 j=true)/\h' =AWX h (h.2.2.2.2.2.1.1.set i true,h.2.2.2.2.2.1.2.set i w)/\v=BitVec.ofInt 64 ((i:Int)+1)
theorem ASG.hv {N:Int} {h:Hs} (v:HV N h) {w:BitVec 64} {h' :Hs} {x:BitVec 64} (t:ASG h w h' x) (hw:w≠0#64) (ho:IsO h.2.1 h.2.2.1 ((w.toNat:Int)-1)):HV N h' :=by
 obtain⟨i,h1,h2,_,rfl,_⟩:=t
 exact⟨v.g,v.hi.take h1 hw ho,v.ql,v.n1⟩
theorem AL8 {h:Hs} (hr:Y5 h.2.2.2.2.2.1) (hf:¬T2 h.2.2.2.2.2.1.1) (w:BitVec 64):∃ h' v,Option.bind (DJ h.2.2.2.2.2.1 w) (fun r7=>
  Option.bind (BB (h.1,h.2.1,h.2.2.1,h.2.2.2.1,h.2.2.2.2.1,r7.1,h.2.2.2.2.2.2) (BitVec.ofInt 64 r7.2.1)) (fun r8=>
  some ((r8.1,r8.2))))=some (h',(0,v))/\ASG h w h' v:=by
 rcases AG1 hr w with ⟨i,h1,h2,h3,h4⟩|⟨h1,_⟩
 ·rw[h4]
  exact⟨_,_,rfl,i,h1,h2,h3,rfl,rfl⟩
 ·exact absurd h1 hf
theorem OB.AZR {s:Sp} (hv:VS s) {i:AH} (hf:EA s i) {l:List Int} {os:List (Int×Int)} {p a:Int} {x:Int×Int} (h:OB s i l os p a x) (k:Int) (b:Bool):
  (¬(0<=k/\k<(if b=true then x.1 else x.2))/\CH s a k b=some (0,17))\/((0<=k/\k<(if b=true then x.1 else x.2))/\∃ y,DK (sz s.1) l (p+(if b=true then 1+k else 1+x.1+k))=some y/\CH s a k b=some (y,0)):=by
 obtain⟨⟨⟨r0,r1⟩,d0,d1⟩,h2,h3,h4⟩:=h.IA
 unfold CH
 rw[h.look hv hf,BC,AD (show ¬¬(((x.1,x.2,(0:Int)):Int×Int×Int).2.2=0) from IN rfl)]
 cases b with
 |true=>
  simp only[G4]
  by_cases k0:k<0
  ·rw[AB k0];exact .inl ⟨by omega,rfl⟩
  rw[AD k0]
  by_cases k1:k≥x.1
  ·rw[AB k1];exact .inl ⟨by omega,rfl⟩
  rw[AD k1,AE (by omega) (by omega)]
  obtain⟨y,hy⟩:=h.fld hv hf (k:=1+k) (by omega) (by omega)
  rw[h.go hv hf (by omega) (by omega),hy]
  exact .inr ⟨by omega,y,rfl,rfl⟩
 |false=>
  simp only[VL,QZ]
  by_cases k0:k<0
  ·rw[AB k0];exact .inl ⟨by omega,rfl⟩
  rw[AD k0]
  by_cases k1:k≥x.2
  ·rw[AB k1];exact .inl ⟨by omega,rfl⟩
  rw[AD k1,AE (e:=1+x.1) (by omega) (by omega),AE (e:=1+x.1+k) (by omega) (by omega)]
  obtain⟨y,hy⟩:=h.fld hv hf (k:=1+x.1+k) (by omega) (by omega)
  rw[h.go hv hf (by omega) (by omega),hy]
  exact .inr ⟨by omega,y,rfl,rfl⟩
theorem HV.root {N:Int} {h:Hs} (v:HV N h) {x:Int} (hx:OP h.2.2.2.2.2.1.1 x true=0):∃ i∈h.2.2.1.flatten,∃ l os p a y,OB h.2.1 i l os p a y/\(xC h.2.2.2.2.2.1 x).toNat=a+1/\AG (AG ((xC h.2.2.2.2.2.1 x).toNat:Int)-1)=a/\0<=a:=by
 obtain⟨x0,x1,hu⟩:=eI hx
 obtain⟨h1,i,hi,p,y,l,os,o⟩:=v.hi.root (x-1).toNat (by omega) hu
 have hw:xC h.2.2.2.2.2.1 x=gl 0#64 h.2.2.2.2.2.1.2 (x-1).toNat:=by unfold xC;rw[AD (by omega)]
 rw[<-hw] at h1 o
 have hr:=DL v.vs (v.hi.hb.fit hi).1 o.has o.IA.2.2.1 o.JE
 have n8:=VS.PN v.vs
 have h2:=(MK h1).2
 refine⟨i,hi,l,os,p,_,y,o,by omega, ?_,by omega⟩
 rw[AE (e:=((xC h.2.2.2.2.2.1 x).toNat:Int)) (by omega) (by omega),AE (by omega) (by omega)]
theorem ACC {N:Int} {h:Hs} (v:HV N h) {x:Int} (hx:OP h.2.2.2.2.2.1.1 x false=0):Rf h.2.1 h.2.2.1 (xC h.2.2.2.2.2.1 x)/\0<=x/\x<=32:=by
 rcases AL7 hx with rfl|⟨x0,x1,hu⟩
 ·exact⟨.inl rfl,by omega,by omega⟩
 ·have hw:xC h.2.2.2.2.2.1 x=gl 0#64 h.2.2.2.2.2.1.2 (x-1).toNat:=by unfold xC;rw[AD (by omega)]
  rw[hw]
  exact⟨.inr (v.hi.root (x-1).toNat (by omega) hu).2,by omega,by omega⟩
noncomputable def AWY (h:Hs) (o:Op) (rV:Int×Int):Option (Hs×An):=
 if ¬rV.2=0 then
 Option.bind (BA h rV.2) (fun r22=>
 some ((r22.1,r22.2)))
 else if 0<=rV.1/\rV.1<(h.2.1.2.1.length:Int) then
 if o.1=4 then
 Option.bind (BB h (gl (0#64:(BitVec 64)) h.2.1.2.1 rV.1.toNat)) (fun YX=>
 some ((YX.1,YX.2)))
 else if o.1=2 then
 if (gl (0#64:(BitVec 64)) h.2.1.2.1 rV.1.toNat)=(0#64) then
 Option.bind (BB h (0#64)) (fun r24=>
 some ((r24.1,r24.2)))
 else Option.bind (EV h) (fun r25=>
 if r25=true then
 Option.bind (BA h 15) (fun wP=>
 some ((wP.1,wP.2)))
 else Option.bind (BR h) (fun rW=>
 Option.bind (DJ rW.2.2.2.2.2.1 (gl (0#64:(BitVec 64)) h.2.1.2.1 rV.1.toNat)) (fun r28=>
 Option.bind (BB (rW.1,rW.2.1,rW.2.2.1,rW.2.2.2.1,rW.2.2.2.2.1,r28.1,rW.2.2.2.2.2.2) (BitVec.ofInt 64 r28.2.1)) (fun vS=>
 some ((vS.1,vS.2))))))
 else if o.1=3 then
 Option.bind (C2 h o.2.2.2 false) (fun r30=>
 if ¬r30=0 then
 Option.bind (BA h r30) (fun uY=>
 some ((uY.1,uY.2)))
 else Option.bind (BJ h o.2.1) (fun r32=>
 Option.bind (BJ h o.2.2.2) (fun r33=>
 Option.bind (D_ h (AG ((AG ((r32.toNat:Int)))-1)) o.2.2.1 r33) (fun r34=>
 Option.bind (BB r34.1 (0#64)) (fun r35=>
 some ((r35.1,r35.2)))))))
 else Option.bind (BJ h o.2.1) (fun r36=>
 Option.bind (DU h (AG ((AG ((r36.toNat:Int)))-1)) o.2.2.1 (BitVec.ofInt 64 o.2.2.2)) (fun r37=>
 Option.bind (BB r37.1 (0#64)) (fun r38=>
 some ((r38.1,r38.2)))))
 else none
theorem ASH (h:Hs) (o:Op):FP h o=Option.bind (BJ h o.2.1) (fun r1=>
  Option.bind (CH h.2.1 (AG ((AG ((r1.toNat:Int)))-1)) o.2.2.1 (decide (o.1=2\/o.1=3))) (AWY h o)):=by
 unfold FP
 by_cases c:o.1=2
 ·rw[AB c,HF (show o.1=2\/o.1=3 from .inl c)];rfl
 ·rw[AD c]
  have:(decide (o.1=2\/o.1=3))=decide (o.1=3):=by rw[qP];omega
  rw[this];rfl
abbrev AVI (h:Hs) (y:Int) (w:BitVec 64) (VG :Ss):Hs:=(h.1,Y8 h.2.1 y w,h.2.2.1,h.2.2.2.1,VG,h.2.2.2.2.2)
inductive FdR (h:Hs) (o:Op) (i:AH) (l:List Int) (os:List (Int×Int)) (p a:Int) (x:Int×Int):Hs->An->Prop
 |bad (hk:¬(0<=o.2.2.1/\o.2.2.1<(if o.1=2\/o.1=3 then x.1 else x.2))):FdR h o i l os p a x h (17,0#64)
 |rd (c:o.1=4) (k0:0<=o.2.2.1) (k1:o.2.2.1<x.2) (y:Int) (hy:DK (sz h.2.1.1) l (p+(1+x.1+o.2.2.1))=some y):FdR h o i l os p a x h (0,gl 0#64 h.2.1.2.1 y.toNat)
 |rr0 (c:o.1=2) (k0:0<=o.2.2.1) (k1:o.2.2.1<x.1) (y:Int) (hy:DK (sz h.2.1.1) l (p+(1+o.2.2.1))=some y) (hw:gl 0#64 h.2.1.2.1 y.toNat=0#64):FdR h o i l os p a x h (0,0#64)
 |rrf (c:o.1=2) (k0:0<=o.2.2.1) (k1:o.2.2.1<x.1) (y:Int) (hy:DK (sz h.2.1.1) l (p+(1+o.2.2.1))=some y) (hw:gl 0#64 h.2.1.2.1 y.toNat≠0#64) (hf:T2 h.2.2.2.2.2.1.1):FdR h o i l os p a x h (15,0#64)
 |rr (c:o.1=2) (k0:0<=o.2.2.1) (k1:o.2.2.1<x.1) (y:Int) (hy:DK (sz h.2.1.1) l (p+(1+o.2.2.1))=some y) (hw:gl 0#64 h.2.1.2.1 y.toNat≠0#64) (hf:¬T2 h.2.2.2.2.2.1.1) (h' :Hs) (v:BitVec 64) (t:ASG h (gl 0#64 h.2.1.2.1 y.toNat) h' v):FdR h o i l os p a x h' (0,v)
 |wrh (c:o.1=3) (k0:0<=o.2.2.1) (k1:o.2.2.1<x.1) (hh:OP h.2.2.2.2.2.1.1 o.2.2.2 false≠0):FdR h o i l os p a x h (OP h.2.2.2.2.2.1.1 o.2.2.2 false,0#64)
 |wr (c:o.1=3) (k0:0<=o.2.2.1) (k1:o.2.2.1<x.1) (y:Int) (hy:DK (sz h.2.1.1) l (p+(1+o.2.2.1))=some y) (hh:OP h.2.2.2.2.2.1.1 o.2.2.2 false=0) (VG :Ss) (hr:RV VG) (hs:∀ f g y',In VG f g y' ↔In h.2.2.2.2.1 f g y' \/(y' =y/\Pr (Y8 h.2.1 y (xC h.2.2.2.2.2.1 o.2.2.2)) y (xC h.2.2.2.2.2.1 o.2.2.2) f g)):FdR h o i l os p a x (AVI h y (xC h.2.2.2.2.2.1 o.2.2.2) VG) (0,0#64)
 |wd (c:o.1=5) (k0:0<=o.2.2.1) (k1:o.2.2.1<x.2) (y:Int) (hy:DK (sz h.2.1.1) l (p+(1+x.1+o.2.2.1))=some y):FdR h o i l os p a x (AVI h y (BitVec.ofInt 64 o.2.2.2) h.2.2.2.2.1) (0,0#64)
theorem ASI {N:Int} {h:Hs} (v:HV N h) (hd:h.2.2.2.2.2.2.2.2=false) {o:Op} (hc:2<=o.1/\o.1<=5) (hx:OP h.2.2.2.2.2.1.1 o.2.1 true=0):
  ∃ i∈h.2.2.1.flatten,∃ l os p a x h' an,OB h.2.1 i l os p a x/\(xC h.2.2.2.2.2.1 o.2.1).toNat=a+1/\FP h o=some (h',an)/\FdR h o i l os p a x h' an:=by
 obtain⟨i,hi,l,os,p,a,x,ob,hw1,hw2,a0⟩:=v.root hx
 obtain⟨x0,x1,hu⟩:=eI hx
 have hf:=(v.hi.hb.fit hi).1
 refine⟨i,hi,l,os,p,a,x, ?_⟩
 suffices hh:∃ h' an,FP h o=some (h',an)/\FdR h o i l os p a x h' an by
  obtain⟨h',an,g1,g2⟩:=hh
  exact⟨h',an,ob,hw1,g1,g2⟩
 rw[ASH,Y9 v.hi.ro (by omega) x1,BC,hw2]
 have hcd:(decide (o.1=2\/o.1=3)=true)↔(o.1=2\/o.1=3):=NI
 have hro:=ob.IA
 have hIs:GB h a=some true:=AWQ v.hi.hb ⟨i,hi,p,x,l,os,ob⟩
 rcases ob.AZR v.vs hf o.2.2.1 (decide (o.1=2\/o.1=3)) with ⟨g1,g2⟩|⟨g1,y,g2,g3⟩
 ·rw[g2,BC]
  simp only[hcd] at g1
  exact⟨_,_,rfl,.bad g1⟩
 ·simp only[hcd] at g1 g2
  have hyr:=DL v.vs hf ob.has (by split at g2 <;> omega) g2
  have hfd:∀ k,p+k=p+(if o.1=2\/o.1=3 then 1+o.2.2.1 else 1+x.1+o.2.2.1)->Fd h.2.1 h.2.2.1 i l os p a x k y:=by
   intro k hk
   refine⟨v.hi.hb,hi,ob, ?_, ?_,by rw[hk];exact g2⟩
   ·split at hk <;> split at g1 <;> omega
   ·split at hk <;> split at g1 <;> omega
  have g3' :=g3
  rw[g3,BC]
  unfold AWY
  simp only
  rw[AD (IN trivial),AB hyr.1]
  by_cases c4:o.1=4
  ·rw[AB c4]
   rw[AD (by omega)] at g1 g2
   exact⟨_,_,rfl,.rd c4 g1.1 g1.2 y g2⟩
  rw[AD c4]
  by_cases c2:o.1=2
  ·rw[AB c2]
   rw[AB (.inl c2)] at g1 g2
   by_cases c5:gl 0#64 h.2.1.2.1 y.toNat=0#64
   ·rw[AB c5]
    exact⟨_,_,rfl,.rr0 c2 g1.1 g1.2 y g2 c5⟩
   rw[AD c5,AA1 v.hi.ro,BC]
   by_cases c6:T2 h.2.2.2.2.2.1.1
   ·rw[HF c6,AB rfl]
    exact⟨_,_,rfl,.rrf c2 g1.1 g1.2 y g2 c5 c6⟩
   ·rw[QB c6,AD (by decide),v.copy,BC]
    obtain⟨h',w,t1,t2⟩:=AL8 v.hi.ro c6 (gl 0#64 h.2.1.2.1 y.toNat)
    exact⟨_,_,t1,.rr c2 g1.1 g1.2 y g2 c5 c6 h' w t2⟩
  rw[AD c2]
  by_cases c3:o.1=3
  ·rw[AB c3]
   have A4W :=hfd (1+o.2.2.1) (by rw[AB (.inr c3)])
   rw[HF (show o.1=2\/o.1=3 from .inr c3)] at g3'
   rw[AB (.inr c3)] at g1 g2
   rw[fG v.hi.ro,BC]
   by_cases c7:OP h.2.2.2.2.2.1.1 o.2.2.2 false=0
   rotate_left
   ·rw[AB c7]
    exact⟨_,_,rfl,.wrh c3 g1.1 g1.2 c7⟩
   obtain⟨hrf,y0,y1⟩:=ACC v c7
   rw[AD (IN c7),Y9 v.hi.ro (by omega) x1,BC,Y9 v.hi.ro y0 y1,BC,hw2]
   generalize hW:xC h.2.2.2.2.2.1 o.2.2.2=w at hrf
   have n8:w≠0#64->¬(w.toNat>(BitVec.ofInt 64 ((h.2.1.2.1.length:Nat):Int)).toNat)/\GB h (AG (((w-(1#64)).toNat:Int)))=some true:=by
    intro hw
    rcases hrf with h0|h0
    ·exact absurd h0 hw
    obtain⟨i2,hi2,p2,x2,o2⟩:=id h0
    have rS:=o2.JE v.vs (v.hi.hb.fit hi2).1
    have n8:=VS.PN v.vs
    have e3:(BitVec.ofInt 64 ((h.2.1.2.1.length:Nat):Int)).toNat=h.2.1.2.1.length:=by
     rw[sG];omega
    obtain⟨e1,e2⟩:=MK hw
    refine⟨by rw[e3];omega, ?_⟩
    rw[e1,show ((w.toNat-1:Nat):Int)=(w.toNat:Int)-1 by omega,AE (by omega) (by omega)]
    exact AWQ v.hi.hb h0
   have hvs:=A4W.vs w
   obtain⟨VG,n1,n2,n3⟩:=AKX hvs v.hi.rv (y:=y) hyr.1.1 (by simp only[EP];exact hyr.1.2) w
   have hWR:D_ h a o.2.2.1 w=some (AVI h y w VG,0):=by
    unfold D_ HA
    rw[hd,AD (by decide),hIs,BC,AD (by decide),g3',BC,BC]
    simp only
    rw[AD (by decide)]
    by_cases c8:w=0#64
    ·rw[AD (IN c8),AD (IN trivial),v.copy,BC,AB hyr.1,n1,BC]
    ·obtain⟨q1,q2⟩:=n8 c8
     rw[AB c8,AD q1,q2,BC,AD (by decide),AD (IN trivial),v.copy,BC,AB hyr.1,n1,BC]
   rw[hWR]
   subst hW
   exact⟨_,_,rfl,.wr c3 g1.1 g1.2 y g2 c7 VG n2 n3⟩
  ·rw[AD c3]
   have A2H :=g3'
   rw[QB (show ¬(o.1=2\/o.1=3) by omega)] at A2H
   rw[AD (by omega)] at g1 g2
   rw[Y9 v.hi.ro (by omega) x1,BC,hw2]
   have hWD:DU h a o.2.2.1 (BitVec.ofInt 64 o.2.2.2)=some (AVI h y (BitVec.ofInt 64 o.2.2.2) h.2.2.2.2.1,0):=by
    unfold DU HA
    rw[hd,AD (by decide),hIs,BC,AD (by decide),A2H,BC,BC]
    simp only
    rw[AD (IN trivial),v.copy,BC,AB hyr.1]
   rw[hWD]
   exact⟨_,_,rfl,.wd (by omega) g1.1 g1.2 y g2⟩
theorem AA2 {z:Int} (hz:0<z):∀ {xs:List AH},(∀ i∈xs,0<=i.2.2.2.2)->X1 xs<=VX z xs*z
 | [],_=>by unfold X1 VX;simp
 |a::r,h=>by
  have h1:=h a (by simp)
  have h2:=AA2 hz (xs:=r) fun i hi=>h i (VJ _ hi)
  have h3:=NY (n:=a.2.2.2.2) hz
  rw[oN,oO,sV]
  omega
theorem HB.X1 {s:Sp} {q:Rows} (h:HB s q):0<=X1 q.flatten/\Go.Proofs.YtjbojdpdkikioaaGreatDoor.X1 q.flatten<=s.2.1.length:=by
 have hw:∀ i∈q.flatten,0<=i.2.2.2.2:=fun i hi=>by have:=(h.fit hi).2;omega
 have hv:=h.bv.vs
 have z:=CF s.1
 have h1:=AA2 z hw
 have h2:=(AKR h.bv.ok).1
 have h3:used s<=s.2.2.length:=by unfold used;omega
 have h4:VX (sz s.1) q.flatten*sz s.1<=s.2.2.length*sz s.1:=ACE (by omega) (by omega)
 have h5:=hv.w
 exact⟨eA hw,by omega⟩
abbrev ASJ (h:Hs):Hs:=(h.1,h.2.1,h.2.2.1,h.2.2.2.1,h.2.2.2.2.1,h.2.2.2.2.2.1,h.2.2.2.2.2.2.1,(h.2.2.2.2.2.2.2.1.1,h.2.2.2.2.2.2.2.1.2.1,AG (h.2.2.2.2.2.2.2.1.2.2.1+1),h.2.2.2.2.2.2.2.1.2.2.2),h.2.2.2.2.2.2.2.2)
def xD (r d:Int):Prop:=(0<=r/\r<=15)/\(0<=d/\d<=32)
instance (r d:Int):Decidable (xD r d):=by unfold xD;infer_instance
inductive DoR (h:Hs) (o:Op):Hs->An->Prop
 |bad (c:¬(1<=o.1/\o.1<=10)):DoR h o h (20,0#64)
 |size (c:o.1=1) (hs:¬xD o.2.1 o.2.2.1):DoR h o h (13,0#64)
 |ASK (c:o.1=1) (hs:xD o.2.1 o.2.2.1) (hf:T2 h.2.2.2.2.2.1.1):DoR h o h (15,0#64)
 |nom (c:o.1=1) (hs:xD o.2.1 o.2.2.1) (hf:¬T2 h.2.2.2.2.2.1.1) (h' :Hs) (a:Int) (g:AlR h o.2.1 o.2.2.1 h' a 18):DoR h o h' (18,0#64)
 |all (c:o.1=1) (hs:xD o.2.1 o.2.2.1) (hf:¬T2 h.2.2.2.2.2.1.1) (h1 h' :Hs) (a:Int) (v:BitVec 64) (g:AlR h o.2.1 o.2.2.1 h1 a 0) (t:ASG h1 (BitVec.ofInt 64 (a+1)) h' v):DoR h o h' (0,v)
 |col (c:o.1=8) (b:Hs×Bool) (m:Nat) (hx:Hs) (kx:Cu) (r:RD 0 (ASJ h) b m hx kx) (hm:m<=256):DoR h o b.1 (0,0#64)
 |sta (c:o.1=10):DoR h o h (0,BitVec.ofInt 64 (X1 h.2.2.1.flatten))
 |eqa (c:o.1=6) (e:OP h.2.2.2.2.2.1.1 o.2.1 false≠0):DoR h o h (OP h.2.2.2.2.2.1.1 o.2.1 false,0#64)
 |eqb (c:o.1=6) (e:OP h.2.2.2.2.2.1.1 o.2.1 false=0) (f:OP h.2.2.2.2.2.1.1 o.2.2.1 false≠0):DoR h o h (OP h.2.2.2.2.2.1.1 o.2.2.1 false,0#64)
 |equ (c:o.1=6) (e:OP h.2.2.2.2.2.1.1 o.2.1 false=0) (f:OP h.2.2.2.2.2.1.1 o.2.2.1 false=0):DoR h o h (0,if xC h.2.2.2.2.2.1 o.2.1=xC h.2.2.2.2.2.1 o.2.2.1 then 1#64 else 0#64)
 |oS (c:(2<=o.1/\o.1<=5)\/o.1=7\/o.1=9) (e:OP h.2.2.2.2.2.1.1 o.2.1 true≠0):DoR h o h (OP h.2.2.2.2.2.1.1 o.2.1 true,0#64)
 |drp (c:o.1=7) (e:OP h.2.2.2.2.2.1.1 o.2.1 true=0):DoR h o (AWX h (h.2.2.2.2.2.1.1.set (o.2.1-1).toNat false,h.2.2.2.2.2.1.2.set (o.2.1-1).toNat 0#64)) (0,0#64)
 |shp (c:o.1=9) (e:OP h.2.2.2.2.2.1.1 o.2.1 true=0) (i:AH) (hi:i∈h.2.2.1.flatten) (l:List Int) (os:List (Int×Int)) (p a:Int) (x:Int×Int) (ob:OB h.2.1 i l os p a x) (hw:(xC h.2.2.2.2.2.1 o.2.1).toNat=a+1):DoR h o h (0,BitVec.ofInt 64 (256*x.1+x.2))
 |fld (c:2<=o.1/\o.1<=5) (e:OP h.2.2.2.2.2.1.1 o.2.1 true=0) (i:AH) (hi:i∈h.2.2.1.flatten) (l:List Int) (os:List (Int×Int)) (p a:Int) (x:Int×Int) (ob:OB h.2.1 i l os p a x) (hw:(xC h.2.2.2.2.2.1 o.2.1).toNat=a+1) (h' :Hs) (an:An) (f:FdR h o i l os p a x h' an):DoR h o h' an
theorem AlR.hv {N:Int} {h:Hs} (v:HV N h) {r d:Int} {h' :Hs} {a:Int} (g:AlR h r d h' a 0):HV (N+257) h' /\IsO h'.2.1 h'.2.2.1 a/\(0<=a/\a<16384)/\h'.1=h.1/\h'.2.2.2.2.2.2.2.2=h.2.2.2.2.2.2.2.2:=by
 obtain⟨h1,g1,⟨g2,_⟩|⟨_,g2,g3⟩⟩:=g
 ·omega
 ·obtain⟨v1,c1,_,_,d1⟩:=g1.ok v
  obtain⟨v2,i2,c2,d2,_⟩:=g3.ok v1
  obtain⟨i,hi,p,x,o⟩:=id i2
  have hr:=o.JE v2.vs (v2.hi.hb.fit hi).1
  have:=VS.PN v2.vs
  exact⟨v2.mono (by omega),i2,by omega,by rw[c2,c1],by rw[d2,d1]⟩
theorem AlR.A4X {N:Int} {h:Hs} (v:HV N h) {r d:Int} {h' :Hs} {a:Int} (g:AlR h r d h' a 18):HV (N+256) h' :=by
 obtain⟨h1,g1,⟨_,rfl,_⟩|⟨g2,_⟩⟩:=g
 ·have v1:=(g1.ok v).1
  exact⟨v1.g,v1.hi,v1.ql,v1.n1⟩
 ·omega
theorem Rn.used {h:Hs} {k:Cu}:∀ {m:Nat} {h1:Hs} {k1:Cu},Rn m h k h1 k1->h1.2.2.2.2.2.1.1=h.2.2.2.2.2.1.1:=by
 intro m h1 k1 r
 induction r with
 |z=>rfl
 |s a b ih=>
  obtain⟨l,B8,u,_,_,_,dn⟩:=b
  obtain⟨l0,EO,t,to,lb,m,mv,ys,ws,r',VG,st,g1,_,rfl,_⟩:=dn
  exact g1.ru.trans ih
theorem RD.used {N:Int} {h:Hs} (v:HV N h) {n:Int} {b:Hs×Bool} {m:Nat} {h1:Hs} {k1:Cu} (r:RD n h b m h1 k1):b.1.2.2.2.2.2.1.1=h.2.2.2.2.2.1.1:=by
 have h2:=r.rn.used
 rcases r.fin with ⟨rfl,_⟩|⟨rfl,_⟩|⟨rfl,_⟩ <;> exact h2
theorem Gcd.used {N:Int} {h:Hs} (v:HV N h) {n:Int} {h1:Hs} (g:Gcd h n h1):h1.2.2.2.2.2.1.1=h.2.2.2.2.2.1.1:=by
 rcases g with ⟨_,rfl⟩|⟨_,b,m,hx,kx,r,hm,rfl⟩
 ·rfl
 ·exact RD.used (N:=N) (h:=ANK h) v.col r
theorem AlR.used {N:Int} {h:Hs} (v:HV N h) {r d:Int} {h' :Hs} {a:Int} (g:AlR h r d h' a 0):h'.2.2.2.2.2.1.1=h.2.2.2.2.2.1.1:=by
 obtain⟨h1,g1,⟨g2,_⟩|⟨_,g2,g3⟩⟩:=g
 ·omega
 ·rw[<-g1.used v]
  obtain⟨u,j,l,l',os,q',n',h1,rfl⟩:=g3
  rfl
theorem A2I {N:Int} {h:Hs} (v:HV N h) (hN:N<=4294966000) (hd:h.2.2.2.2.2.2.2.2=false) (o:Op):∃ h' an,MP h o=some (h',an)/\DoR h o h' an:=by
 have hro:=v.hi.ro
 unfold MP
 by_cases c1:o.1<1
 ·rw[AB c1,hd,AD (by decide)]
  exact⟨_,_,rfl,.bad (by omega)⟩
 rw[AD c1]
 by_cases c2:o.1>10
 ·rw[AB c2,hd,AD (by decide)]
  exact⟨_,_,rfl,.bad (by omega)⟩
 rw[AD c2,AD (by rw[hd];decide)]
 by_cases c3:o.1=1
 ·rw[AB c3]
  unfold NA
  obtain⟨w,e,he,hs⟩:=ASD o.2.1 o.2.2.1
  rw[he,BC]
  rcases hs with ⟨rfl,hs⟩|rfl
  rotate_left
  ·rw[AB (by simp)]
   refine⟨_,_,rfl,.size c3 fun hh=> ?_⟩
   have:=rX hh.1.1 hh.1.2 hh.2.1 hh.2.2
   rw[he] at this
   exact absurd (MS Prod.snd (T6 this)) (by simp)
  rw[AD (show ¬¬((w,(0:Int)).2=0) from IN rfl),AA1 hro,BC]
  by_cases c4:T2 h.2.2.2.2.2.1.1
  ·rw[HF c4,AB rfl]
   exact⟨_,_,rfl,.ASK c3 hs c4⟩
  rw[QB c4,AD (by decide)]
  obtain⟨h1,a,e,ha,g⟩:=ANM v hN hd hs.1.1 hs.1.2 hs.2.1 hs.2.2
  rw[ha,BC]
  by_cases c5:e=0
  ·subst c5
   rw[AD (show ¬¬((h1,a,(0:Int)).2.2=0) from IN rfl)]
   obtain⟨v1,i1,ar,_,_⟩:=g.hv v
   have hu:=g.used v
   obtain⟨h',w,t1,t2⟩:=AL8 (h:=h1) v1.hi.ro (by rw[hu];exact c4) (BitVec.ofInt 64 (a+1))
   simp only
   rw[AE (e:=a+1) (by omega) (by omega),t1,BC]
   exact⟨_,_,rfl,.all c3 hs c4 h1 _ a w g t2⟩
  ·have he:e=18:=by
    obtain⟨_,_,⟨h3,_⟩|⟨h3,_⟩⟩:=g
    ·exact h3
    ·exact absurd h3 c5
   subst he
   rw[AB (by simp)]
   exact⟨_,_,rfl,.nom c3 hs c4 h1 a g⟩
 rw[AD c3]
 by_cases c4:o.1=8
 ·rw[AB c4]
  unfold K3
  rw[hd,AD (by decide)]
  have vc:HV N (ASJ h):=⟨v.g,v.hi,v.ql,v.n1⟩
  obtain⟨b,m,hx,kx,g1,g2,g3⟩:=AL6 vc (by omega)
  have e1:(h.1,h.2.1,h.2.2.1,h.2.2.2.1,h.2.2.2.2.1,h.2.2.2.2.2.1,h.2.2.2.2.2.2.1,(h.2.2.2.2.2.2.2.1.1,h.2.2.2.2.2.2.2.1.2.1,AG (h.2.2.2.2.2.2.2.1.2.2.1+1),h.2.2.2.2.2.2.2.1.2.2.2),false)=ASJ h:=by unfold ASJ;rw[hd]
  rw[e1,g1]
  exact⟨_,_,rfl,.col c4 b m hx kx g2 g3⟩
 rw[AD c4]
 by_cases c5:o.1=10
 ·rw[AB c5]
  unfold J9
  obtain⟨l1,l2,l3⟩:=v.hi.hb.lens
  have hw:=v.hi.hb.X1
  have:=VS.PN v.vs
  rw[AN4 (by omega) (fun x hx=>by have:=l3 x hx;omega) (fun i hi=>by have:=(v.hi.hb.fit hi).2;omega) (by omega)]
  exact⟨_,_,rfl,.sta c5⟩
 rw[AD c5]
 by_cases c6:o.1=6
 ·rw[AB c6,fG hro,BC]
  by_cases c7:OP h.2.2.2.2.2.1.1 o.2.1 false=0
  rotate_left
  ·rw[AB c7];exact⟨_,_,rfl,.eqa c6 c7⟩
  rw[AD (IN c7),fG hro,BC]
  by_cases c8:OP h.2.2.2.2.2.1.1 o.2.2.1 false=0
  rotate_left
  ·rw[AB c8];exact⟨_,_,rfl,.eqb c6 c7 c8⟩
  obtain⟨_,x0,x1⟩:=ACC v c7
  obtain⟨_,y0,y1⟩:=ACC v c8
  rw[AD (IN c8),Y9 hro x0 x1,BC,Y9 hro y0 y1,BC]
  unfold NC
  have:=DoR.equ c6 c7 c8
  refine⟨_,_, ?_,this⟩
  by_cases c9:xC h.2.2.2.2.2.1 o.2.1=xC h.2.2.2.2.2.1 o.2.2.1
  ·rw[HF c9,AB rfl,AB c9];rfl
  ·rw[QB c9,AD (by decide),AD c9];rfl
 rw[AD c6,fG hro,BC]
 by_cases c7:OP h.2.2.2.2.2.1.1 o.2.1 true=0
 rotate_left
 ·rw[AB c7];exact⟨_,_,rfl,.oS (by omega) c7⟩
 obtain⟨x0,x1,hu⟩:=eI c7
 rw[AD (IN c7)]
 by_cases c8:o.1=7
 ·rw[AB c8,v.copy,BC,ARK hro x0 x1 hu]
  exact⟨_,_,rfl,.drp c8 c7⟩
 rw[AD c8]
 by_cases c9:o.1=9
 ·rw[AB c9,Y9 hro (by omega) x1,BC]
  obtain⟨i,hi,l,os,p,a,x,ob,hw1,hw2,a0⟩:=v.root c7
  have hr:=ob.IA
  rw[hw2,ob.look v.vs (v.hi.hb.fit hi).1,BC]
  simp only
  rw[AE (e:=256*x.1) (by omega) (by omega),AE (e:=256*x.1+x.2) (by omega) (by omega)]
  exact⟨_,_,rfl,.shp c9 c7 i hi l os p a x ob hw1⟩
 rw[AD c9]
 obtain⟨i,hi,l,os,p,a,x,h',an,ob,hw,g1,g2⟩:=ASI v hd (o:=o) (by omega) c7
 rw[g1]
 exact⟨_,_,rfl,.fld (by omega) c7 i hi l os p a x ob hw h' an g2⟩
theorem ANN {a:Int} (a0:0<=a) (a1:a<16384):(BitVec.ofInt 64 (a+1)).toNat=a.toNat+1:=by
 rw[sG];omega
theorem FdR.hv {N:Int} {h:Hs} (v:HV N h) {o:Op} {i:AH} (hi:i∈h.2.2.1.flatten) {l:List Int} {os:List (Int×Int)} {p a:Int} {x:Int×Int} (ob:OB h.2.1 i l os p a x) {h' :Hs} {an:An} (f:FdR h o i l os p a x h' an):
  HV N h' /\an.1≠18/\h'.1=h.1/\h'.2.2.2.2.2.2.2.2=h.2.2.2.2.2.2.2.2/\h'.2.1.1=h.2.1.1/\h'.2.1.2.2.length=h.2.1.2.2.length:=by
 have hro:=ob.IA
 cases f with
 |bad hk=>exact⟨v,by simp,rfl,rfl,rfl,rfl⟩
 |rd c k0 k1 y hy=>exact⟨v,by simp,rfl,rfl,rfl,rfl⟩
 |rr0 c k0 k1 y hy hw=>exact⟨v,by simp,rfl,rfl,rfl,rfl⟩
 |rrf c k0 k1 y hy hw hf=>exact⟨v,by simp,rfl,rfl,rfl,rfl⟩
 |rr c k0 k1 y hy hw hf h2 v' t=>
  have PO:Slot h.2.1 h.2.2.1 y:=⟨i,hi,l,os,p,a,x,1+o.2.2.1,ob,by omega,by omega,hy⟩
  have ho:=(v.hi.ref y PO).resolve_left hw
  have hv' :=t.hv v hw ho
  obtain⟨i',_,_,_,rfl,_⟩:=t
  exact⟨hv',by simp,rfl,rfl,rfl,rfl⟩
 |wrh c k0 k1 hh=>
  refine⟨v, ?_,rfl,rfl,rfl,rfl⟩
  simp only
  unfold OP
  split
  ·split <;> omega
  ·split <;> omega
 |wr c k0 k1 y hy hh VG hr hs=>
  have fd:Fd h.2.1 h.2.2.1 i l os p a x (1+o.2.2.1) y:=⟨v.hi.hb,hi,ob,by omega,by omega,hy⟩
  exact⟨⟨v.g,fd.ref (by omega) (ACC v hh).1 v.hi hr hs,v.ql,v.n1⟩,by simp,rfl,rfl,rfl,rfl⟩
 |wd c k0 k1 y hy=>
  have fd:Fd h.2.1 h.2.2.1 i l os p a x (1+x.1+o.2.2.1) y:=⟨v.hi.hb,hi,ob,by omega,by omega,hy⟩
  exact⟨⟨v.g,fd.data _ (by omega) v.hi,v.ql,v.n1⟩,by simp,rfl,rfl,rfl,rfl⟩
theorem DoR.hv {N:Int} {h:Hs} (v:HV N h) {o:Op} {h' :Hs} {an:An} (g:DoR h o h' an):HV (N+257) h' /\(an.1≠18->h'.2.2.2.2.2.2.2.2=h.2.2.2.2.2.2.2.2)/\h'.1=h.1/\h'.2.1.1=h.2.1.1/\h'.2.1.2.2.length=h.2.1.2.2.length:=by
 have vs:HV (N+257) h:=v.mono (by omega)
 cases g with
 |bad c=>exact⟨vs,fun _=>rfl,rfl,rfl,rfl⟩
 |size c hs=>exact⟨vs,fun _=>rfl,rfl,rfl,rfl⟩
 |ASK c hs hf=>exact⟨vs,fun _=>rfl,rfl,rfl,rfl⟩
 |nom c hs hf h2 a g=>
  refine⟨(g.A4X v).mono (by omega),fun hh=>absurd rfl hh, ?_⟩
  obtain⟨h1,g1,⟨_,rfl,_⟩|⟨g2,_⟩⟩:=g
  ·obtain⟨_,c1,c2,c3,_⟩:=g1.ok v
   exact⟨c1,c2,c3⟩
  ·omega
 |all c hs hf h1 h2 a v' g t=>
  obtain⟨v1,i1,ar,c1,d1⟩:=g.hv v
  have e:=ANN ar.1 ar.2
  have hv' :=t.hv v1 (fun h0=>by rw[h0] at e;have:(0#64).toNat=0:=rfl;omega) (by rw[e];rw[show ((a.toNat+1:Nat):Int)-1=a by omega];exact i1)
  obtain⟨i',_,_,_,rfl,_⟩:=t
  refine⟨hv',fun _=>d1,c1, ?_⟩
  obtain⟨h2,g1,⟨g2,_⟩|⟨_,g2,g3⟩⟩:=g
  ·omega
  ·obtain⟨v2,_,c2,c3,_⟩:=g1.ok v
   obtain⟨_,_,_,_,c4,c5,_⟩:=g3.ok v2
   exact⟨by simp only;rw[c4,c2],by simp only;rw[c5,c3]⟩
 |col c b m hx kx r hm=>
  obtain⟨g1,g2,g3,g4,g5⟩:=r.ok (N:=N) (h:=ASJ h) ⟨v.g,v.hi,v.ql,v.n1⟩
  exact⟨g1.mono (by omega),fun _=>g5,g2,g3,g4⟩
 |sta c=>exact⟨vs,fun _=>rfl,rfl,rfl,rfl⟩
 |eqa c e=>exact⟨vs,fun _=>rfl,rfl,rfl,rfl⟩
 |eqb c e f=>exact⟨vs,fun _=>rfl,rfl,rfl,rfl⟩
 |equ c e f=>exact⟨vs,fun _=>rfl,rfl,rfl,rfl⟩
 |oS c e=>exact⟨vs,fun _=>rfl,rfl,rfl,rfl⟩
 |drp c e=>
  obtain⟨x0,x1,hu⟩:=eI e
  exact⟨⟨v.g,v.hi.drop (i:=(o.2.1-1).toNat) (by omega),v.ql,by have:=v.n1;simp only;omega⟩,fun _=>rfl,rfl,rfl,rfl⟩
 |shp c e i hi l os p a x ob hw=>exact⟨vs,fun _=>rfl,rfl,rfl,rfl⟩
 |fld c e i hi l os p a x ob hw h2 an2 f=>
  obtain⟨g1,g2,g3,g4,g5⟩:=f.hv v hi ob
  exact⟨g1.mono (by omega),fun _=>g4,g3,g5⟩
abbrev Nd:Type:=List Int×List (BitVec 64)
abbrev Gh:Type:=List Nd×List Bool×List Int
def nd (g:Gh) (k:Int):Nd:=gl (([],[]):Nd) g.1 k.toNat
structure GV (M:Nat) (g:Gh):Prop where
 ul:g.2.1.length=32
 rl:g.2.2.length=32
 nn:g.1.length<=M
 nd:∀ k:Int,0<=k->k<g.1.length->(nd g k).1.length<=15/\(Go.Proofs.YtjbojdpdkikioaaGreatDoor.nd g k).2.length<=32/\∀ j:Nat,j<(Go.Proofs.YtjbojdpdkikioaaGreatDoor.nd g k).1.length→-1<=gl 0 (Go.Proofs.YtjbojdpdkikioaaGreatDoor.nd g k).1 j/\gl 0 (Go.Proofs.YtjbojdpdkikioaaGreatDoor.nd g k).1 j<g.1.length
 rt:∀ i:Nat,i<32->gl false g.2.1 i=true->0<=gl 0 g.2.2 i/\gl 0 g.2.2 i<g.1.length
 un:∀ i:Nat,i<32->gl false g.2.1 i=false->gl 0 g.2.2 i= -1
inductive GRe (g:Gh):Int->Prop
 |rt (i:Nat) (hi:i<32) (hu:gl false g.2.1 i=true):GRe g (gl 0 g.2.2 i)
 |rf (x:Int) (hx:GRe g x) (j:Nat) (hj:j<(nd g x).1.length) (h0:0<=gl 0 (nd g x).1 j):GRe g (gl 0 (nd g x).1 j)
theorem GRe.IA {M:Nat} {g:Gh} (v:GV M g) {x:Int} (h:GRe g x):0<=x/\x<g.1.length:=by
 induction h with
 |rt i hi hu=>exact v.rt i hi hu
 |rf x hx j hj h0 ih=>exact⟨h0,((v.nd x ih.1 ih.2).2.2 j hj).2⟩
def rH:List Bool->Nat
 | []=>0
 |b::r=>(if b=true then 1 else 0)+rH r
theorem AL9:∀ l:List Bool,rH l<=l.length
 | []=>EL _
 |b::r=>by
  have:=AL9 r
  simp only[rH,NZ]
  split <;> omega
theorem AG3:∀ {l:List Bool} {k:Nat},k<l.length->gl false l k=false->rH (l.set k true)=rH l+1
 |b::r,0,_,h=>by
  have hb:b=false:=h
  rw[AOH,hb];simp [rH];omega
 |b::r,k+1,hk,h=>by
  have ih:=AG3 (l:=r) (k:=k) (by simpa using hk) h
  rw[List.set_cons_succ];simp only[rH];rw[ih];omega
structure Sn (g:Gh) (s:List Bool):Prop where
 len:s.length=g.1.length
 rt:∀ i:Nat,i<32->gl false g.2.1 i=true->gl false s (gl 0 g.2.2 i).toNat=true
 sub:∀ k:Nat,k<g.1.length->gl false s k=true->GRe g (k:Int)
def Clo (g:Gh) (s:List Bool) (n:Nat):Prop:=∀ k:Nat,k<n->gl false s k=true->∀ j:Nat,j<(nd g k).1.length->0<=gl 0 (nd g k).1 j->gl false s (gl 0 (nd g k).1 j).toNat=true
theorem Sn.all {M:Nat} {g:Gh} (v:GV M g) {s:List Bool} (h:Sn g s) (hc:Clo g s g.1.length) {x:Int} (hx:GRe g x):gl false s x.toNat=true:=by
 induction hx with
 |rt i hi hu=>exact h.rt i hi hu
 |rf x hx j hj h0 ih=>
  have hr:=hx.IA v
  have:=hc x.toNat (by omega) ih j (by rw[show ((x.toNat:Nat):Int)=x by omega];exact hj)
  rw[show ((x.toNat:Nat):Int)=x by omega] at this
  exact this h0
structure Ps (g:Gh) (s0:List Bool) (b:Bool) (s:List Bool):Prop where
 sn:Sn g s
 up:∀ k:Nat,gl false s0 k=true->gl false s k=true
 gr:b=true->rH s0<rH s
 no:b=false->s=s0
 le:rH s0<=rH s
theorem Ps.put {M:Nat} {g:Gh} (v:GV M g) {s0:List Bool} {b:Bool} {s:List Bool} (h:Ps g s0 b s) {k:Nat} (hk:k<g.1.length) (hs:gl false s k=true) {j:Nat} (hj:j<(nd g k).1.length) (h0:0<=gl 0 (nd g k).1 j) (hn:gl false s (gl 0 (nd g k).1 j).toNat=false):
  Ps g s0 true (s.set (gl 0 (nd g k).1 j).toNat true):=by
 have hl:=h.sn.len
 have hr:=(v.nd k (by omega) (by omega)).2.2 j hj
 have DM:(gl 0 (nd g k).1 j).toNat<s.length:=by omega
 have hc:=AG3 DM hn
 have hg:∀ i:Nat,gl false s i=true->gl false (s.set (gl 0 (nd g k).1 j).toNat true) i=true:=by
  intro i hi
  rw[D8 DM];split
  ·rfl
  ·exact hi
 refine⟨⟨by rw[EP];exact hl,fun i hi hu=>hg _ (h.sn.rt i hi hu),fun i hi hu=> ?_⟩,fun i hi=>hg i (h.up i hi),fun _=>(by have:=h.le;omega),fun h=>(by cases h),by have:=h.le;omega⟩
 rw[D8 DM] at hu
 split at hu
 ·rename_i he
  rw[he,sF h0]
  exact .rf k (h.sn.sub k hk hs) j hj h0
 ·exact h.sn.sub i hi hu
theorem AVJ {M:Nat} {g:Gh} (v:GV M g) (hM:M<=1000) {s0:List Bool} (hs0:Sn g s0):∃ y:Bool×List Bool,AJ (σ:=(Bool×Int×(List Bool))) (β:=((Bool×(List Bool)) ⊕ (List Int))) (fun s3=>
  if s3.2.1<(g.1.length:Int) then
  if 0<=s3.2.1/\s3.2.1<(g.1.length:Int) then
  AJ (σ:=(Bool×Int×(List Bool))) (β:=((Bool×Int×(List Bool)) ⊕ ((Bool×(List Bool)) ⊕ (List Int)))) (fun s4=>
  if s4.2.1<(((gl (([],[]):((List Int)×(List (BitVec 64)))) g.1 s3.2.1.toNat).1).length:Int) then
  if 0<=s4.2.1/\s4.2.1<(((gl (([],[]):((List Int)×(List (BitVec 64)))) g.1 s3.2.1.toNat).1).length:Int) then
  if 0<=s3.2.1/\s3.2.1<(s4.2.2.length:Int) then
  if (gl (false:Bool) s4.2.2 s3.2.1.toNat)=true then
  if (gl (0:Int) ((gl (([],[]):((List Int)×(List (BitVec 64)))) g.1 s3.2.1.toNat).1) s4.2.1.toNat)≥0 then
  if 0<=(gl (0:Int) ((gl (([],[]):((List Int)×(List (BitVec 64)))) g.1 s3.2.1.toNat).1) s4.2.1.toNat)/\(gl (0:Int) ((gl (([],[]):((List Int)×(List (BitVec 64)))) g.1 s3.2.1.toNat).1) s4.2.1.toNat)<(s4.2.2.length:Int) then
  if (!(gl (false:Bool) s4.2.2 ((gl (0:Int) ((gl (([],[]):((List Int)×(List (BitVec 64)))) g.1 s3.2.1.toNat).1) s4.2.1.toNat).toNat)))=true then
  if 0<=(gl (0:Int) ((gl (([],[]):((List Int)×(List (BitVec 64)))) g.1 s3.2.1.toNat).1) s4.2.1.toNat)/\(gl (0:Int) ((gl (([],[]):((List Int)×(List (BitVec 64)))) g.1 s3.2.1.toNat).1) s4.2.1.toNat)<(s4.2.2.length:Int) then
  some (Sum.inl ((true,AG (s4.2.1+1),s4.2.2.set ((gl (0:Int) ((gl (([],[]):((List Int)×(List (BitVec 64)))) g.1 s3.2.1.toNat).1) s4.2.1.toNat).toNat) true)))
  else none
  else some (Sum.inl ((s4.1,AG (s4.2.1+1),s4.2.2)))
  else none
  else some (Sum.inl ((s4.1,AG (s4.2.1+1),s4.2.2)))
  else some (Sum.inl ((s4.1,AG (s4.2.1+1),s4.2.2)))
  else none
  else none
  else some (Sum.inr (Sum.inl ((s4.1,AG (s3.2.1+1),s4.2.2))))) ((s3.1,0,s3.2.2))
  else none
  else some (Sum.inr (Sum.inl ((s3.1,s3.2.2))))) ((false,0,s0))=some (Sum.inl y)/\Ps g s0 y.1 y.2/\(y.1=false->Clo g s0 g.1.length):=by
 have x6:=v.nn
 have key:=AN (β:=((Bool×(List Bool)) ⊕ (List Int))) (f:=fun s3:Bool×Int×List Bool=>
  if s3.2.1<(g.1.length:Int) then
  if 0<=s3.2.1/\s3.2.1<(g.1.length:Int) then
  AJ (σ:=(Bool×Int×(List Bool))) (β:=((Bool×Int×(List Bool)) ⊕ ((Bool×(List Bool)) ⊕ (List Int)))) (fun s4=>
  if s4.2.1<(((gl (([],[]):((List Int)×(List (BitVec 64)))) g.1 s3.2.1.toNat).1).length:Int) then
  if 0<=s4.2.1/\s4.2.1<(((gl (([],[]):((List Int)×(List (BitVec 64)))) g.1 s3.2.1.toNat).1).length:Int) then
  if 0<=s3.2.1/\s3.2.1<(s4.2.2.length:Int) then
  if (gl (false:Bool) s4.2.2 s3.2.1.toNat)=true then
  if (gl (0:Int) ((gl (([],[]):((List Int)×(List (BitVec 64)))) g.1 s3.2.1.toNat).1) s4.2.1.toNat)≥0 then
  if 0<=(gl (0:Int) ((gl (([],[]):((List Int)×(List (BitVec 64)))) g.1 s3.2.1.toNat).1) s4.2.1.toNat)/\(gl (0:Int) ((gl (([],[]):((List Int)×(List (BitVec 64)))) g.1 s3.2.1.toNat).1) s4.2.1.toNat)<(s4.2.2.length:Int) then
  if (!(gl (false:Bool) s4.2.2 ((gl (0:Int) ((gl (([],[]):((List Int)×(List (BitVec 64)))) g.1 s3.2.1.toNat).1) s4.2.1.toNat).toNat)))=true then
  if 0<=(gl (0:Int) ((gl (([],[]):((List Int)×(List (BitVec 64)))) g.1 s3.2.1.toNat).1) s4.2.1.toNat)/\(gl (0:Int) ((gl (([],[]):((List Int)×(List (BitVec 64)))) g.1 s3.2.1.toNat).1) s4.2.1.toNat)<(s4.2.2.length:Int) then
  some (Sum.inl ((true,AG (s4.2.1+1),s4.2.2.set ((gl (0:Int) ((gl (([],[]):((List Int)×(List (BitVec 64)))) g.1 s3.2.1.toNat).1) s4.2.1.toNat).toNat) true)))
  else none
  else some (Sum.inl ((s4.1,AG (s4.2.1+1),s4.2.2)))
  else none
  else some (Sum.inl ((s4.1,AG (s4.2.1+1),s4.2.2)))
  else some (Sum.inl ((s4.1,AG (s4.2.1+1),s4.2.2)))
  else none
  else none
  else some (Sum.inr (Sum.inl ((s4.1,AG (s3.2.1+1),s4.2.2))))) ((s3.1,0,s3.2.2))
  else none
  else some (Sum.inr (Sum.inl ((s3.1,s3.2.2)))))
  (fun k (st:Bool×Int×List Bool)=>st.2.1=(k:Int)/\Ps g s0 st.1 st.2.2/\(st.1=false->Clo g s0 k))
  (fun x=>∃ y:Bool×List Bool,x=Sum.inl y/\Ps g s0 y.1 y.2/\(y.1=false->Clo g s0 g.1.length)) g.1.length ?_ ?_ (s:=(false,0,s0))
  ⟨rfl,⟨hs0,fun _ h=>h,fun h=>(by cases h),fun _=>rfl,EL _⟩,fun _ k hk=>by omega⟩
 ·obtain⟨x,hx,y,rfl,h1⟩:=key
  exact⟨y,hx,h1⟩
 ·rintro k ⟨b,kk,s⟩ hk ⟨HU,hp,hc⟩
  simp only at HU hp hc
  subst HU
  left
  simp only[H6]
  rw[AB (by omega),AB (by omega)]
  have H9:gl (([],[]):((List Int)×(List (BitVec 64)))) g.1 k=nd g (k:Int):=rfl
  have hvn:=v.nd k (by omega) (by omega)
  rw[H9]
  have inner:=AN (β:=((Bool×Int×(List Bool)) ⊕ ((Bool×(List Bool)) ⊕ (List Int)))) (f:=fun s4:Bool×Int×List Bool=>
   if s4.2.1<((nd g (k:Int)).1.length:Int) then
   if 0<=s4.2.1/\s4.2.1<((nd g (k:Int)).1.length:Int) then
   if 0<=(k:Int)/\(k:Int)<(s4.2.2.length:Int) then
   if (gl (false:Bool) s4.2.2 k)=true then
   if (gl (0:Int) (nd g (k:Int)).1 s4.2.1.toNat)≥0 then
   if 0<=(gl (0:Int) (nd g (k:Int)).1 s4.2.1.toNat)/\(gl (0:Int) (nd g (k:Int)).1 s4.2.1.toNat)<(s4.2.2.length:Int) then
   if (!(gl (false:Bool) s4.2.2 ((gl (0:Int) (nd g (k:Int)).1 s4.2.1.toNat).toNat)))=true then
   if 0<=(gl (0:Int) (nd g (k:Int)).1 s4.2.1.toNat)/\(gl (0:Int) (nd g (k:Int)).1 s4.2.1.toNat)<(s4.2.2.length:Int) then
   some (Sum.inl ((true,AG (s4.2.1+1),s4.2.2.set ((gl (0:Int) (nd g (k:Int)).1 s4.2.1.toNat).toNat) true)))
   else none
   else some (Sum.inl ((s4.1,AG (s4.2.1+1),s4.2.2)))
   else none
   else some (Sum.inl ((s4.1,AG (s4.2.1+1),s4.2.2)))
   else some (Sum.inl ((s4.1,AG (s4.2.1+1),s4.2.2)))
   else none
   else none
   else some (Sum.inr (Sum.inl ((s4.1,AG ((k:Int)+1),s4.2.2)))))
   (fun j (st:Bool×Int×List Bool)=>st.2.1=(j:Int)/\Ps g s0 st.1 st.2.2/\(st.1=false->Clo g s0 k/\(gl false s0 k=true->∀ j' :Nat,j' <j->0<=gl 0 (nd g (k:Int)).1 j' ->gl false s0 (gl 0 (nd g (k:Int)).1 j').toNat=true)))
   (fun x=>∃ y:Bool×Int×List Bool,x=Sum.inl y/\y.2.1=((k+1:Nat):Int)/\Ps g s0 y.1 y.2.2/\(y.1=false->Clo g s0 (k+1))) (nd g (k:Int)).1.length ?_ ?_ (s:=(b,0,s))
   ⟨rfl,hp,fun hb=>⟨hc hb,fun _ j' eX =>by omega⟩⟩
  ·obtain⟨x,hx,y,rfl,h1⟩:=inner
   exact⟨y,hx,h1⟩
  ·rintro j ⟨b4,jj,s4⟩ hj ⟨hjj,hp4,hc4⟩
   simp only at hjj hp4 hc4
   subst hjj
   left
   have hl4:=hp4.sn.len
   simp only[H6]
   have hr:=hvn.2.2 j hj
   rw[AB (by omega),AB (by omega),AB (by omega),AE (e:=(j:Int)+1) (by omega) (by omega)]
   have nxt:(gl false s4 k=true->0<=gl 0 (nd g (k:Int)).1 j->gl false s4 (gl 0 (nd g (k:Int)).1 j).toNat=true)->((j:Int)+1=((j+1:Nat):Int)/\Ps g s0 b4 s4/\(b4=false->Clo g s0 k/\(gl false s0 k=true->∀ j' :Nat,j' <j+1->0<=gl 0 (nd g (k:Int)).1 j' ->gl false s0 (gl 0 (nd g (k:Int)).1 j').toNat=true))):=by
    intro hn
    refine⟨rfl,hp4,fun hb=>⟨(hc4 hb).1,fun h0 j' eX e_ => ?_⟩⟩
    by_cases he:j' =j
    ·subst he
     have:=hp4.no hb
     subst this
     exact hn h0 e_
    ·exact (hc4 hb).2 h0 j' (by omega) e_
   by_cases c1:gl false s4 k=true
   rotate_left
   ·rw[AD c1]
    exact⟨_,rfl,nxt fun h=>absurd h c1⟩
   rw[AB c1]
   by_cases c2:gl 0 (nd g (k:Int)).1 j≥0
   rotate_left
   ·rw[AD c2]
    exact⟨_,rfl,nxt fun _ h=>absurd h c2⟩
   rw[AB c2,AB (by omega)]
   cases c3:gl false s4 (gl 0 (nd g (k:Int)).1 j).toNat with
   |true=>
    rw[AD (by decide)]
    exact⟨_,rfl,nxt fun _ _=>c3⟩
   |false=>
    rw[AB (by decide),AB (by omega)]
    exact⟨_,rfl,rfl,hp4.put v hk c1 hj c2 c3,fun h=>by cases h⟩
  ·rintro⟨b4,jj,s4⟩ ⟨hjj,hp4,hc4⟩
   simp only at hjj hp4 hc4
   subst hjj
   simp only
   rw[AD (by omega),AE (e:=(k:Int)+1) (by omega) (by omega)]
   refine⟨_,rfl,_,rfl,rfl,hp4,fun hb=> ?_⟩
   obtain⟨h1,h2⟩:=hc4 hb
   intro k' MU hu j hj h0
   by_cases he:k' =k
   ·subst he;exact h2 hu j hj h0
   ·exact h1 k' (by omega) hu j hj h0
 ·rintro⟨b,kk,s⟩ ⟨HU,hp,hc⟩
  simp only at HU hp hc
  subst HU
  simp only
  rw[AD (by omega)]
  exact⟨_,rfl,_,rfl,hp,hc⟩
theorem ASL {M:Nat} {g:Gh} (v:GV M g) (hM:M<=1000):∃ l,I_ g=some l/\l.Pairwise (·< ·)/\∀ x,x∈l↔GRe g x:=by
 have hul:=v.ul
 have hrl:=v.rl
 have x6:=v.nn
 unfold I_
 rw[AB (by omega)]
 refine AN (fun k (st:Int×List Bool)=>st.1=(k:Int)/\st.2.length=g.1.length/\(∀ i:Nat,i<k->gl false g.2.1 i=true->gl false st.2 (gl 0 g.2.2 i).toNat=true)/\∀ i:Nat,i<g.1.length->gl false st.2 i=true->GRe g (i:Int)) _ 32 ?_ ?_ ⟨rfl,by simp,fun i hi=>by omega,fun i hi hu=> ?_⟩
 ·rintro k ⟨kk,s⟩ hk ⟨HU,hl,h1,h2⟩
  simp only at HU hl h1 h2
  subst HU
  left
  simp only[H6]
  rw[AB (by omega),AB (by omega),AE (e:=(k:Int)+1) (by omega) (by omega)]
  cases hu:gl false g.2.1 k with
  |false=>
   rw[AD (by decide)]
   refine⟨_,rfl,rfl,hl,fun i hi hui=> ?_,h2⟩
   by_cases eS:i=k
   ·subst eS;rw[hu] at hui;cases hui
   ·exact h1 i (by omega) hui
  |true=>
   have hr:=v.rt k hk hu
   have DM:(gl 0 g.2.2 k).toNat<s.length:=by omega
   rw[AB rfl,AB (by omega),AB (by omega)]
   refine⟨_,rfl,rfl,by simp only[EP];exact hl,fun i hi hui=> ?_,fun i hi hui=> ?_⟩
   ·simp only
    rw[D8 DM]
    split
    ·rfl
    ·rename_i CO
     by_cases eS:i=k
     ·subst eS;exact absurd rfl CO
     ·exact h1 i (by omega) hui
   ·simp only at hui
    rw[D8 DM] at hui
    split at hui
    ·rename_i he
     rw[he,sF hr.1]
     exact .rt k hk hu
    ·exact h2 i hi hui
 ·rintro⟨kk,s⟩ ⟨HU,hl,h1,h2⟩
  simp only at HU hl h1 h2
  subst HU
  simp only
  rw[AD (by omega)]
  refine SP ?_
  have fin:∀ (s1:List Bool),Sn g s1->Clo g s1 g.1.length->∃ b,Option.map (Sum.inr (α:=Bool×List Bool)) (AJ (σ:=((List Int)×Int)) (β:=(List Int)) (fun s5=>
    if s5.2<(s1.length:Int) then
    if 0<=s5.2/\s5.2<(s1.length:Int) then
    if (gl (false:Bool) s1 s5.2.toNat)=true then
    if (s5.1.length+([s5.2]:List Int).length)*8<=140737488355328 then
    some (Sum.inl ((s5.1++([s5.2]:List Int),AG (s5.2+1))))
    else none
    else some (Sum.inl ((s5.1,AG (s5.2+1))))
    else none
    else some (Sum.inr (s5.1))) (([],0)))=some (Sum.inr b)/\(b.Pairwise (·< ·)/\∀ x,x∈b↔GRe g x):=by
   intro s1 sn hc
   refine SP ?_
   have hl1:=sn.len
   refine AN (fun k (st:List Int×Int)=>st=((EX k).filter (fun x=>gl false s1 x.toNat),(k:Int))) _ s1.length ?_ ?_ (s:=([],0)) rfl
   ·rintro k st hk rfl
    left
    have kN:=iY (fun x:Int=>gl false s1 x.toNat) (EX k)
    rw[HO] at kN
    simp only[H6]
    rw[AB (by omega),AB (by omega),AE (e:=(k:Int)+1) (by omega) (by omega),JU,qO]
    cases hu:gl false s1 k with
    |true=>
     rw[AB rfl,AB (by simp only[H7];omega)]
     refine⟨_,rfl, ?_⟩
     simp [hu]
    |false=>
     rw[AD (by decide)]
     refine⟨_,rfl, ?_⟩
     simp [hu]
   ·rintro st rfl
    simp only
    rw[AD (by omega)]
    refine⟨_,rfl,(oJ _).filter _,fun x=> ?_⟩
    rw[WY,MJ]
    constructor
    ·rintro⟨⟨x0,x1⟩,hu⟩
     have:=sn.sub x.toNat (by omega) hu
     rw[sF x0] at this
     exact this
    ·intro hx
     have:=hx.IA v
     exact⟨by omega,sn.all v hc hx⟩
  refine AN (fun m (st:Bool×List Bool)=>Sn g st.2/\(st.1=true->m<=rH st.2)/\(st.1=false->Clo g st.2 g.1.length)) _ (g.1.length+1) ?_ ?_ (s:=(true,s)) ⟨⟨hl,h1,h2⟩,fun _=>kW _,fun h=>by cases h⟩
  ·rintro m ⟨b,s1⟩ hm ⟨sn,c1,c2⟩
   simp only at sn c1 c2
   cases b with
   |false=>
    right
    rw[AD (show ¬false=true by decide)]
    exact fin s1 sn (c2 rfl)
   |true=>
    rw[AB rfl]
    obtain⟨y,g1,g2,g3⟩:=AVJ v hM sn
    refine .inl ⟨y,g1,g2.sn,fun hb=> ?_,fun hb=> ?_⟩
    ·have:=g2.gr hb
     have:=c1 rfl
     omega
    ·have:=g2.no hb
     rw[this]
     exact g3 hb
  ·rintro⟨b,s1⟩ ⟨sn,c1,c2⟩
   simp only at sn c1 c2
   cases b with
   |false=>
    rw[AD (show ¬false=true by decide)]
    exact fin s1 sn (c2 rfl)
   |true=>
    have h1:=c1 rfl
    have h2:=AL9 s1
    have h3:=sn.len
    omega
 ·simp only at hu
  rw[show (g.1.length:Int).toNat=g.1.length from rfl,S1 hi] at hu
  cases hu
def AG4 (g:Gh) (l:List Int):Int:=l.foldl (fun n x=>n+(1+((nd g x).1.length:Int)+((nd g x).2.length:Int))) 0
theorem ANO {g:Gh} (l:List Int) {k:Nat} (hk:k<l.length):AG4 g (l.take (k+1))=AG4 g (l.take k)+(1+((nd g (gl 0 l k)).1.length:Int)+((nd g (gl 0 l k)).2.length:Int)):=by
 unfold AG4
 rw[GQ (d:=0) l k hk,ACS];rfl
theorem ASM {M:Nat} {g:Gh} (v:GV M g) (hM:M<=1000):∃ l,KB g=some (AG4 g l)/\l.Pairwise (·< ·)/\∀ x,x∈l↔GRe g x:=by
 obtain⟨l,h1,h2,h3⟩:=ASL v hM
 refine⟨l, ?_,h2,h3⟩
 have zO:l.length<=1000:=oT h2 fun x hx=>by have:=((h3 x).1 hx).IA v;have:=v.nn;omega
 unfold KB
 rw[h1,BC]
 refine (AN (fun k (st:Int×Int)=>st=(AG4 g (l.take k),(k:Int))/\0<=st.1/\st.1<=100*k) (fun b=>b=AG4 g l) l.length ?_ ?_ (s:=(0,0)) ⟨rfl,by simp,by simp⟩).elim fun b hb=>by rw[hb.1,hb.2]
 ·rintro k st hk ⟨rfl,hs0,hs1⟩
  left
  have hr:=((h3 _).1 (BS (d:=0) hk)).IA v
  have hn:=v.nd _ hr.1 hr.2
  simp only at hs0 hs1
  simp only[H6]
  have e1:gl (([],[]):((List Int)×(List (BitVec 64)))) g.1 (gl 0 l k).toNat=nd g (gl 0 l k):=rfl
  rw[AB (by omega),AB (by omega),AB (by omega),AB (by omega),e1,AE (e:=(1:Int)+((nd g (gl 0 l k)).1.length:Int)) (by omega) (by omega),AE (e:=(1:Int)+((nd g (gl 0 l k)).1.length:Int)+((nd g (gl 0 l k)).2.length:Int)) (by omega) (by omega),AE (e:=AG4 g (l.take k)+_) (by omega) (by omega),AE (e:=(k:Int)+1) (by omega) (by omega)]
  exact⟨_,rfl,by rw[ANO l hk];rfl,by simp only;omega,by simp only;omega⟩
 ·rintro st ⟨rfl,_,_⟩
  simp only
  rw[AD (by omega),T5]
  exact⟨_,rfl,rfl⟩
end Go.Proofs.YtjbojdpdkikioaaGreatDoor
