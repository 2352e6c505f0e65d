import Derived.Test.YtokeceeccmgcmaaGreatDoorSpD
set_option linter.unusedVariables false
set_option linter.unusedSimpArgs false
namespace Go.Proofs.YtokeceeccmgcmaaGreatDoor
open Go Go.V3
variable {v w:BitVec 64} {d e:Nat} {DL m mv:List (Int×Int)} {l0 lb:List Int} {CB to:AI} {t:Sp} {l:List AI} {q:Rows} {R:Int->Prop}
theorem CI.move {s0:Sp} (h:Cd s0 q l CB l0 DL) (c:CI R s0 q l CB l0 DL t to lb m mv d e)
  {w:BitVec 64} (gw:Gw s0 l w) (hr:Wn (AV l) s0 w->R ((w.toNat:Int)-1)) {v:BitVec 64} {err:Int} {t' :Sp} {I2 :AI} {mm:List (Int×Int)} (hm:tB (AV l) t to w v err t' I2 mm) (he:err=0):
  ∃ lH m',CI R s0 q l CB l0 DL t' I2 lH m' (mv++mm) d e/\Im s0 (AV l) (mv++mm) w v/\(∃ r,lH =lb++r)/\∃ r,m' =m++r:=by
 have hz:sz t.1=sz s0.1:=by rw[c.sh]
 have W7:=VS.IK h.hb.bv.vs
 have z:=BU s0.1
 by_cases hw:Wn (AV l) t w
 rotate_left
 ·cases hm with
  |out _=>exact⟨lb,m,by rw[FP];exact c,.inl ⟨fun hh=>hw ((c.wn h w).2 hh),rfl⟩,⟨[],by rw[FP]⟩,[],by rw[FP]⟩
  |gZ h1|bad h1|g_ h1|full h1|MP h1=>exact absurd h1 hw
 have hw0:=(c.wn h w).1 hw
 obtain⟨i,hi,pa,x,la,oa,o⟩:=gw hw0
 have AF0:=o.IA
 have hA:=h.W2 hi o.has AF0.2.2.1 o.FZ
 generalize hAe:(w.toNat:Int)-1=A at*
 have AF8:Z0 t w=gl 0#64 t.2.1 A.toNat:=by rw[<-hAe]
 by_cases MR:A∈mv.map (·.1)
 ·
  obtain⟨xx,hx1,hx2⟩:=DH.1 MR
  have h2:=c.wd2 xx hx1
  rw[hx2] at h2
  obtain⟨k,hk,MZ⟩:=EF (d:=((0,0):Int×Int)) hx1
  obtain⟨i',la',oa',pa',p',cc⟩:=c.uT k hk
  have hbr:=CH c.cy.vs c.cy.fit c.has cc.dst.IA.2.2.1 cc.dst.FZ
  rw[MZ] at hbr
  have cA:0<=xx.2/\xx.2<=16383:=by have:=c.wl;omega
  have hdc:=AF4 cA.1 cA.2
  cases hm with
  |out h1=>exact absurd hw h1
  |gZ h1 h3 h4=>
   refine⟨lb,m,by rw[FP];exact c,.inr ⟨hw0,xx.2, ?_, ?_⟩,⟨[],by rw[FP]⟩,[],by rw[FP]⟩
   ·rw[FP,hAe,←hx2];exact hx1
   ·rw[AF8,h2,hdc]
  |bad h1 h3=>rw[AF8,h2,hdc] at h3;exact absurd rfl h3
  |g_ h1 hh=>rw[AF8,h2,AF3 cA.1 cA.2] at hh;cases hh
  |full h1 hh=>rw[AF8,h2,AF3 cA.1 cA.2] at hh;cases hh
  |MP h1 hh=>rw[AF8,h2,AF3 cA.1 cA.2] at hh;cases hh
 have htA:gl 0#64 t.2.1 A.toNat=gl 0#64 s0.2.1 A.toNat:=c.wd1 A hA.1.1 hA.1.2 (by rw[hA.2.2.1];omega) (by rw[hA.2.2.1];exact hA.2.2.2.2.2) MR
 have hhd:hd (Z0 t w)=some x:=by rw[AF8,htA];exact AIF o
 cases hm with
 |out h1=>exact absurd hw h1
 |gZ h1 h3 h4=>rw[SA hhd] at h4;cases h4
 |bad h1 h3=>rw[SA hhd] at h3;exact absurd rfl h3
 |g_=>cases he
 |full=>cases he
 | @MP _ r dd hh la2 hl e' ha u _ b l1 l' g=>
 rw[hhd] at hh
 obtain rfl:x=(r,dd):=HO hh
 obtain⟨⟨⟨r0,r1⟩,d0,d1⟩,hsA,hp0,hpe⟩:=AF0
 simp only at r0 r1 d0 d1 hpe hsA
 have hmw:=hO c.cy hw hhd hl ha g rfl
 obtain⟨cy', -,A7C,A51,A52, -, -, -⟩:=tB.cy c.cy (.MP hw hhd hl ha g)
 obtain rfl:=K_ g.has c.has
 rw[hAe] at hl ha hmw cy' A51 A7C A52 ⊢
 rw[hz] at hl ha hmw
 have lG:=c.cy.fit.1
 have hq:=hA.2.2.2.2.1
 have hAt:(fr t.2.2 (A / sz s0.1))=fr s0.2.2 (A / sz s0.1):=c.fr3 _ hA.2.1.1 hA.2.1.2 (by rw[hA.2.2.1];omega) (by rw[hA.2.2.1];exact hA.2.2.2.2.2)
 have AUO:∀ k,0<=k->CM (sz s0.1) la2 (A%sz s0.1+k)=CM (sz s0.1) la (pa+k):=by
  intro k k0
  rcases o.has with ⟨hw',_⟩|⟨hw',hpi⟩
  ·omega
  obtain⟨l2,q1,⟨q2,q2',A8A⟩,q3⟩:=KF z hpi hp0 o.FZ k0
  have:Pa t.2.2 (A / sz s0.1) l2:=by
   refine q1.gT c.fl fun y hy=> ?_
   obtain⟨y0,y1⟩:=q1.mem hy
   have ho:=(h.hb.bv.vs.owner q1 y hy).1
   rw[HS y0 (by rw[c.fl];exact y1),HS y0 y1,c.fr3 y y0 y1 (by rw[ho,hA.2.2.1];omega) (by rw[ho,hA.2.2.1];exact hA.2.2.2.2.2)]
  rw[hl.fn this];exact q3
 obtain⟨hm1,hm2,hm3,hm4⟩:=hmw
 generalize hQ:(cpy (sz t.1) la2 (A%sz t.1) l' to.2.2.2.2 (1+r+dd).toNat t.2.1).set A.toNat (fwd b)=ws at*
 rw[hz] at hQ
 rw[hQ] at hm1 hm2 hm3
 have A53:=g.AQB lG.2.2.2.2.1 (by omega:(1:Int)<=1+r+dd)
 have hvu:VS (t.1,t.2.1,u.2.2):=by have:=g.vs;rw[<-g.sh,←g.ws];exact this
 have HN:=g.path.nodup
 have hpl:∀ p y,0<=p->CM (sz s0.1) l' p=some y->(0<=y/\y<s0.2.1.length)/\(fr u.2.2 (y / sz s0.1)).1=CB.1:=by
  intro p y p0 hy
  have:=EE hvu g.path p0 (by rw[hz];exact hy)
  simp only at this
  rw[c.wl,hz] at this
  exact⟨this.1,by rw[A53 _ this.2,c.seq]⟩
 have A7D:∀ y:Int,0<=y->y<s0.2.1.length->(fr s0.2.2 (y / sz s0.1)).1≠-1->(fr s0.2.2 (y / sz s0.1)).1≠CB.1->(fr u.2.2 (y / sz s0.1)).1≠CB.1:=by
  intro y y0 y1 h1 h2
  obtain⟨f0,f1⟩:=EP h.hb.bv.vs y0 y1
  have h3:=c.fr3 _ f0 f1 h1 h2
  rw[g.frs _ f0 (by rw[c.fl];exact f1) (by rw[h3];exact h1) (by rw[h3,c.seq];exact h2),h3]
  exact h2
 have AZU:∀ y:Int,0<=y->y<s0.2.1.length->(fr s0.2.2 (y / sz s0.1)).1≠-1->(fr s0.2.2 (y / sz s0.1)).1≠CB.1->∀ p,0<=p->CM (sz s0.1) l' p≠some y:=by
  intro y y0 y1 h1 h2 p p0 hy
  exact A7D y y0 y1 h1 h2 (hpl p y p0 hy).2
 have A7E:∀ p,0<=p->CM (sz s0.1) l' p≠some A:=AZU A hA.1.1 hA.1.2 (by rw[hA.2.2.1];omega) (by rw[hA.2.2.1];exact hA.2.2.2.2.2)
 have hold:∀ p y,0<=p->p<to.2.2.2.2->CM (sz s0.1) l1 p=some y->CM (sz s0.1) l' p=some y/\gl 0#64 ws y.toNat=gl 0#64 t.2.1 y.toNat:=by
  intro p y p0 p1 hy
  have hy' :CM (sz s0.1) l' p=some y:=by rw[g.more];exact CK hy
  refine⟨hy',hm1 y (hpl p y p0 hy').1.1 (fun xN =>A7E p p0 (xN ▸ hy')) fun i' i0 i1 KM => ?_⟩
  have:=F9 z HN p0 (by omega) hy' KM
  omega
 have CZ:∀ y:Int,0<=y->y<s0.2.1.length->(fr s0.2.2 (y / sz s0.1)).1≠-1->(fr s0.2.2 (y / sz s0.1)).1≠CB.1->y≠A->gl 0#64 ws y.toNat=gl 0#64 t.2.1 y.toNat:=
  fun y y0 y1 h1 h2 h3=>hm1 y y0 h3 fun i' i0 i1=>AZU y y0 y1 h1 h2 _ (by omega)
 have A7F:I2.2.2.2.2≠0:=by rw[g.words];omega
 have vC:Has (t.1,ws,u.2.2) I2 l' := .inr ⟨A7F,g.path⟩
 have AIK:CM (sz s0.1) l' to.2.2.2.2=some b:=by rw[<-hz];exact g.FZ
 have hbw:gl 0#64 ws b.toNat=Y9 r dd:=by
  have h1:=hm2 0 (by omega) (by omega) b A (by rw[b7];exact AIK) (by rw[AUO 0 (by omega),b7];exact o.FZ)
  rw[h1,htA,hsA]
 have AIL:DK (sz s0.1) ws l' 0 (DL++m) to.2.2.2.2:=c.Q2.CQ fun p y p0 p1 hy=>hold p y p0 p1 hy
 have AF9:DK (sz s0.1) ws l' 0 (DL++(m++ [(r,dd)])) I2.2.2.2.2:=by
  rw[<-I0,g.words]
  exact AIL.snoc ⟨r0,r1⟩ ⟨d0,d1⟩ AIK hbw
 have N6:∀ {p a:Int} {x:Int×Int},OB t to l1 (DL++m) p a x->OB (t.1,ws,u.2.2) I2 l' (DL++(m++ [(r,dd)])) p a x:=by
  intro p a x ob
  refine⟨vC,by rw[show sz (t.1,ws,u.2.2).1=sz s0.1 from hz];exact AF9, ?_, ?_⟩
  ·rw[<-I0]
   exact (TA.snoc AIL).2 (.inl ob.ta)
  ·have:=ob.FZ
   rw[hz] at this
   rw[show sz (t.1,ws,u.2.2).1=sz s0.1 from hz]
   exact (hold p a ob.IA.2.2.1 (by have:=ob.IA;omega) this).1
 have AUP:(mv++ [(A,b)]).length=mv.length+1:=by simp
 have A2A:∀ {k},k<mv.length->gl (0,0) (mv++ [(A,b)]) k=gl (0,0) mv k:=fun hk=>JM hk
 have A2B:gl (0,0) (mv++ [(A,b)]) mv.length=(A,b):=by
  rw[DJ (by simp),AD7 (EH _)];simp
 have A7G:∀ {k},k<mv.length->gl (0,0) (m++ [(r,dd)]) k=gl (0,0) m k:=fun hk=>JM (by rw[c.ml];exact hk)
 have A7H:gl (0,0) (m++ [(r,dd)]) mv.length=(r,dd):=by
  rw[DJ (by rw[PQ,c.ml];simp),AD7 (by rw[c.ml];exact EH _)];simp [c.ml]
 have GR:∀ x∈mv,x∈mv++ [(A,b)]:=fun x hx=>AA8 _ hx
 refine⟨l',m++ [(r,dd)], ?_,.inr ⟨hw0,b,by rw[hAe];simp,rfl⟩,⟨_,g.more⟩,_,rfl⟩
 refine { cy:=cy',sh:=c.sh,wl:=by rw[A51,c.wl],fl:=by rw[A52,c.fl],seq:=by rw[g.seq,c.seq],XK:=by rw[g.XK,c.XK],wd:=by rw[g.words];have:=c.wd;omega,has:=vC,Q2:=AF9,pre:= ?_,fr1:= ?_,fr2:= ?_,fr3:= ?_,wd1:= ?_,wd2:= ?_,wd3:= ?_,ml:=by simp [c.ml],uT:= ?_,mvn:= ?_,mvb:= ?_,cov:= ?_,rch:= ?_,de:= ?_ }
 ·obtain⟨r',nY⟩:=c.pre
  exact⟨r' ++List.take (l'.length-l1.length) (C1 t.2.2),by rw[<-I0,←nY];exact g.more⟩
 ·intro y y0 y1 CW
  simp only at CW ⊢
  have h1:=Grown.fr1 c.cy.vs g lG.1 y0 (by rw[c.fl];exact y1) (by rw[c.seq];exact CW)
  rw[h1] at CW ⊢
  exact c.fr1 y y0 y1 CW
 ·intro y y0 y1 hy
  have h1:=Grown.fr2 c.cy.vs c.cy.fit c.cy.own (by omega) g y0 (by rw[c.fl];exact y1) (by rw[c.fr2 y y0 y1 hy,c.seq])
  simp only
  rw[h1,c.seq]
 ·intro y y0 y1 h1 h2
  have h3:=c.fr3 y y0 y1 h1 h2
  simp only
  rw[g.frs y y0 (by rw[c.fl];exact y1) (by rw[h3];exact h1) (by rw[h3,c.seq];exact h2),h3]
 ·intro y y0 y1 h1 h2 h3
  rw[YC,FG] at h3
  simp only
  rw[CZ y y0 y1 h1 h2 (fun xN =>h3 (.inr (by rw[xN];simp)))]
  exact c.wd1 y y0 y1 h1 h2 fun h4=>h3 (.inl h4)
 ·intro xx hx
  rcases FG.1 hx with hx|hx
  ·have h1:=c.wd2 xx hx
   simp only
   obtain⟨k,hk,MZ⟩:=EF (d:=((0,0):Int×Int)) hx
   obtain⟨i',la',oa',pa',p',cc⟩:=c.uT k hk
   have h2:=h.W2 cc.inl cc.src.has cc.src.IA.2.2.1 cc.src.FZ
   rw[MZ] at h2
   rw[CZ xx.1 h2.1.1 h2.1.2 (by rw[h2.2.2.1];omega) (by rw[h2.2.2.1];exact h2.2.2.2.2.2) (fun xN =>MR (DH.2 ⟨xx,hx,xN⟩)),h1]
  ·rw[GG.1 hx]
   exact hm3
 ·intro p y p0 p1 hy
  have h1:=c.wd3 p y p0 p1 hy
  obtain⟨r',nY⟩:=c.pre
  have h2:CM (sz s0.1) l1 p=some y:=by rw[nY];exact CK hy
  simp only
  rw[(hold p y p0 (by have:=c.wd;omega) h2).2,h1]
 ·intro k hk
  rw[AUP] at hk
  by_cases KA :k<mv.length
  ·obtain⟨i',la',oa',pa',p',cc⟩:=c.uT k KA
   rw[A7G KA]
   refine⟨i',la',oa',pa',p',cc.inl,by rw[A2A KA];exact cc.src,by rw[A2A KA];exact N6 cc.dst,cc.new,fun j j1 j2 ya yb nZ hyb=> ?_⟩
   have A8B :=cc.dst.IA
   obtain⟨yb',A2C⟩:=cc.dst.vN c.cy.vs c.cy.fit (k:=j) (by omega) j2
   rw[hz] at A2C
   obtain⟨h1,h2⟩:=hold (p' +j) yb' (by omega) (by omega) A2C
   rw[hyb] at h1
   obtain rfl:=HO h1
   obtain⟨h3,h4⟩:=cc.wds j j1 j2 ya yb nZ A2C
   simp only
   rw[h2]
   exact⟨fun hh=>(h3 hh).mono GR,h4⟩
  ·obtain rfl:k=mv.length:=by omega
   rw[A7H]
   have AUQ:OB (t.1,ws,u.2.2) I2 l' (DL++(m++ [(r,dd)])) to.2.2.2.2 b (r,dd):=by
    refine⟨vC,by rw[show sz (t.1,ws,u.2.2).1=sz s0.1 from hz];exact AF9, ?_,by rw[show sz (t.1,ws,u.2.2).1=sz s0.1 from hz];exact AIK⟩
    rw[<-I0]
    exact (TA.snoc AIL).2 (.inr ⟨rfl,rfl⟩)
   refine⟨i,la,oa,pa,to.2.2.2.2,hi,by rw[A2B];exact o,by rw[A2B];exact AUQ,c.wd,fun j j1 j2 ya yb nZ hyb=>⟨fun hh=> ?_,fun _=> ?_⟩⟩
   ·exfalso
    obtain⟨yS,hd2⟩:=c.de
    rcases hh.2 with h1|⟨h1,h2⟩
    ·omega
    ·have:=hd2 h1.symm;omega
   ·simp only at j2 ⊢
    rw[hm2 j (by omega) (by omega) yb ya hyb (by rw[AUO j (by omega)];exact nZ)]
    exact c.vN h hi o j1 j2 nZ
 ·rw[YC,PB]
  refine⟨c.mvn,by simp,fun y hy y' hy' xN => ?_⟩
  rw[JS,ABO,GG] at hy'
  subst xN;rw[hy'] at hy;exact MR hy
 ·rw[YC,PB]
  refine⟨c.mvb,by simp,fun y hy y' hy' xN => ?_⟩
  rw[JS,ABO,GG] at hy'
  subst xN
  obtain⟨xx,hx1,hx2⟩:=DH.1 hy
  obtain⟨k,hk,MZ⟩:=EF (d:=((0,0):Int×Int)) hx1
  obtain⟨i',la',oa',pa',p',cc⟩:=c.uT k hk
  have h1:=cc.dst.FZ
  have h2:=cc.dst.IA
  rw[MZ,hz] at h1
  have h3:=(hold p' xx.2 h2.2.2.1 (by omega) h1).1
  rw[hx2,hy'] at h3
  have:=F9 z HN h2.2.2.1 lG.2.2.2.2.1 h3 AIK
  omega
 ·intro p y hp
  rw[<-I0] at hp
  rcases (TA.snoc AIL).1 hp with hp|⟨rfl,rfl⟩
  ·rcases c.cov p y hp with h1|⟨h1,k,hk,h2⟩
   ·exact .inl h1
   ·have h3:=AIL.ta hp
    have h4:=(c.Q2.ta hp)
    refine .inr ⟨h1,k,by omega, ?_⟩
    rw[A2A hk]
    exact (hold p _ h4.2.2.1 (by omega) h2).1
  ·exact .inr ⟨c.wd,mv.length,by omega,by rw[A2B];exact AIK⟩
 ·intro xx hx
  rcases FG.1 hx with hx|hx
  ·exact c.rch xx hx
  ·rw[GG.1 hx];exact hr hw0
 ·have:=c.de
  rw[AUP]
  exact⟨by omega,fun h1=>by omega⟩
theorem DK.ACX {z:Int} {ws ws' :List (BitVec 64)} {l l' :List Int}:∀ {os:List (Int×Int)} {at' w:Int},DK z ws l at' os w->(∀ p x a,TA at' os p x->CM z l p=some a->CM z l' p=some a/\gl 0#64 ws' a.toNat=gl 0#64 ws a.toNat)->DK z ws' l' at' os w
 | [],at',w,h,_=>h
 |o::r,at',w,h,hk=>by
  obtain⟨h1,⟨a,h2,h3⟩,h4⟩:=h
  obtain⟨k1,k2⟩:=hk at' o a (.inl ⟨rfl,rfl⟩) h2
  exact⟨h1,⟨a,k1,by rw[k2];exact h3⟩,h4.ACX fun p x a hp ha=>hk p x a (.inr hp) ha⟩
variable {k:Nat} {α:Type}
theorem qR {d:α} {f:α->Int} {l:List α} (h:(l.map f).Nodup) {j:Nat} (hj:j<l.length) (hk:k<l.length) (he:f (gl d l j)=f (gl d l k)):j=k:=by
 have h1:(l.map f)[j]'(by rw[V6];exact hj)=(l.map f)[k]'(by rw[V6];exact hk):=by
  rw[rH,rH,←DJ (d:=d) hj,←DJ (d:=d) hk];exact he
 exact (List.getElem_inj h).1 h1
variable {p y:Int} {la:List Int} {i:AI}
theorem CI.write {s0:Sp} (h:Cd s0 q l CB l0 DL) (c:CI R s0 q l CB l0 DL t to lb m mv d e)
  (hd:d<mv.length) {oa:List (Int×Int)} {pa:Int} (cc:Cop s0 (AV l) l CB t to lb (DL++m) mv d e d i la oa pa p (gl (0,0) m d)) (hj:(e:Int)+1<=(gl (0,0) m d).1) {ya:Int} (hy:CM (sz s0.1) lb (p+((e:Int)+1))=some y) (nZ:CM (sz s0.1) la (pa+((e:Int)+1))=some ya)
  (hv:Im s0 (AV l) mv (gl 0#64 s0.2.1 ya.toNat) v):CI R s0 q l CB l0 DL (t.1,t.2.1.set y.toNat v,t.2.2) to lb m mv d (e+1):=by
 have hz:sz t.1=sz s0.1:=by rw[c.sh]
 have z:=BU s0.1
 have hrd:=cc.dst.IA
 have D8:=cc.new
 have hp0:=hrd.2.2.1
 have hY:=CH c.cy.vs c.cy.fit c.has (p:=p+((e:Int)+1)) (by omega) (by rw[hz];exact hy)
 rw[hz] at hY
 have lG:=c.cy.fit.1
 have HN:=YP c.has
 have hg:∀ k:Int,0<=k->k≠y->gl 0#64 (t.2.1.set y.toNat v) k.toNat=gl 0#64 t.2.1 k.toNat:=fun k k0 kn=>qN (by omega)
 have CW:∀ y1:Int,0<=y1->y1<s0.2.1.length->(fr s0.2.2 (y1 / sz s0.1)).1≠-1->(fr s0.2.2 (y1 / sz s0.1)).1≠CB.1->y1≠y:=by
  intro y1 a0 a1 h1 h2 he
  subst he
  obtain⟨f0,f1⟩:=EP h.hb.bv.vs a0 a1
  have h3:=c.fr3 _ f0 f1 h1 h2
  have h4:=hY.2.2.2.1
  rw[h3,c.seq] at h4
  exact h2 h4
 have aA:∀ p1 y1,0<=p1->CM (sz s0.1) lb p1=some y1->p1≠p+((e:Int)+1)->0<=y1/\y1≠y:=by
  intro p1 y1 a0 h1 h2
  have h3:=CH c.cy.vs c.cy.fit c.has a0 (by rw[hz];exact h1)
  exact⟨h3.1.1,fun he=>h2 (F9 z HN a0 (by omega) (he ▸ h1) hy)⟩
 have AF9:DK (sz s0.1) (t.2.1.set y.toNat v) lb 0 (DL++m) to.2.2.2.2:=by
  refine c.Q2.ACX fun p1 x1 a1 ht ha=>⟨ha, ?_⟩
  have h1:=c.Q2.ta ht
  have rP:p1≠p+((e:Int)+1):=by
   intro he
   rcases c.Q2.apart ht cc.dst.ta with ⟨h2,_⟩|h2|h2 <;> omega
  obtain⟨g0,g1⟩:=aA p1 a1 h1.2.2.1 ha rP
  exact hg a1 g0 g1
 have vC:Has (t.1,t.2.1.set y.toNat v,t.2.2) to lb:=c.has
 have N6:∀ {p a:Int} {x:Int×Int},OB t to lb (DL++m) p a x->OB (t.1,t.2.1.set y.toNat v,t.2.2) to lb (DL++m) p a x:=by
  intro p a x ob
  exact⟨vC,by rw[show sz (t.1,t.2.1.set y.toNat v,t.2.2).1=sz s0.1 from hz];exact AF9,ob.ta,ob.FZ⟩
 refine { cy:=⟨c.cy.vs.word hY.1.1 (by rw[hz,hY.2.2.2.1];omega) v,DB.words (by simp) c.cy.fit,c.cy.own,c.cy.out,c.cy.nn⟩,sh:=c.sh,wl:=by rw[<-c.wl];simp,fl:=c.fl,seq:=c.seq,XK:=c.XK,wd:=c.wd,has:=vC,Q2:=AF9,pre:=c.pre,fr1:=c.fr1,fr2:=c.fr2,fr3:=c.fr3,wd1:= ?_,wd2:= ?_,wd3:= ?_,ml:=c.ml,uT:= ?_,mvn:=c.mvn,mvb:=c.mvb,cov:=c.cov,rch:=c.rch,de:=⟨c.de.1,fun hh=>by omega⟩ }
 ·intro y1 a0 a1 h1 h2 h3
  simp only
  rw[hg y1 a0 (CW y1 a0 a1 h1 h2)]
  exact c.wd1 y1 a0 a1 h1 h2 h3
 ·intro xx hx
  obtain⟨k,hk,MZ⟩:=EF (d:=((0,0):Int×Int)) hx
  obtain⟨i',la',oa',pa',p',c2⟩:=c.uT k hk
  have h2:=h.W2 c2.inl c2.src.has c2.src.IA.2.2.1 c2.src.FZ
  rw[MZ] at h2
  simp only
  rw[hg xx.1 h2.1.1 (CW xx.1 h2.1.1 h2.1.2 (by rw[h2.2.2.1];omega) (by rw[h2.2.2.1];exact h2.2.2.2.2.2))]
  exact c.wd2 xx hx
 ·intro p1 y1 a0 a1 hy1
  obtain⟨r',nY⟩:=c.pre
  have h2:CM (sz s0.1) lb p1=some y1:=by rw[nY];exact CK hy1
  obtain⟨g0,g1⟩:=aA p1 y1 a0 h2 (by omega)
  simp only
  rw[hg y1 g0 g1]
  exact c.wd3 p1 y1 a0 a1 hy1
 ·intro k hk
  by_cases hkd:k=d
  ·subst hkd
   refine⟨i,la,oa,pa,p,cc.inl,cc.src,N6 cc.dst,cc.new,fun j j1 j2 za zb hza hzb=> ?_⟩
   obtain⟨h3,h4⟩:=cc.wds j j1 j2 za zb hza hzb
   simp only
   by_cases hje:j=(e:Int)+1
   ·subst hje
    rw[nZ] at hza
    rw[hy] at hzb
    obtain rfl:=HO hza
    obtain rfl:=HO hzb
    have n8:=hY.1.2
    rw[DS (by omega),AA rfl]
    exact⟨fun _=>hv,fun hh=>absurd ⟨hj,.inr ⟨rfl,by omega⟩⟩ hh⟩
   ·obtain⟨g0,g1⟩:=aA (p+j) zb (by omega) hzb (by omega)
    rw[hg zb g0 g1]
    refine⟨fun hh=>h3 ⟨hh.1, ?_⟩,fun hh=>h4 fun h5=>hh ⟨h5.1, ?_⟩⟩
    ·rcases hh.2 with h6|⟨h6,h7⟩
     ·omega
     ·exact .inr ⟨rfl,by omega⟩
    ·rcases h5.2 with h6|⟨h6,h7⟩
     ·omega
     ·exact .inr ⟨rfl,by omega⟩
  ·obtain⟨i',la',oa',pa',p',c2⟩:=c.uT k hk
   refine⟨i',la',oa',pa',p',c2.inl,c2.src,N6 c2.dst,c2.new,fun j j1 j2 za zb hza hzb=> ?_⟩
   obtain⟨h3,h4⟩:=c2.wds j j1 j2 za zb hza hzb
   have h5:=c2.dst.IA
   have A7I :p' +j≠p+((e:Int)+1):=by
    intro he
    rcases c.Q2.apart (by have:=c2.dst.ta;exact this) cc.dst.ta with ⟨h6,_⟩|h6|h6
    ·subst h6
     have h7:=c2.dst.FZ
     have h8:=cc.dst.FZ
     rw[h7] at h8
     exact hkd (qR (d:=((0,0):Int×Int)) c.mvb hk hd (HO h8))
    ·omega
    ·omega
   obtain⟨g0,g1⟩:=aA (p' +j) zb (by omega) hzb A7I
   simp only
   rw[hg zb g0 g1]
   refine⟨fun hh=>h3 ⟨hh.1, ?_⟩,fun hh=>h4 fun h5=>hh ⟨h5.1, ?_⟩⟩
   ·rcases hh.2 with h6|⟨h6,h7⟩
    ·exact .inl h6
    ·exact absurd h6 hkd
   ·rcases h5.2 with h6|⟨h6,h7⟩
    ·exact .inl h6
    ·exact absurd h6 hkd
theorem CI.next {s0:Sp} (c:CI R s0 q l CB l0 DL t to lb m mv d e)
  (hd:d<mv.length) (he:(gl (0,0) m d).1<=(e:Int)):CI R s0 q l CB l0 DL t to lb m mv (d+1) 0:=by
 refine { c with uT:=fun k hk=> ?_,de:=⟨hd,fun _=>rfl⟩ }
 obtain⟨i,la,oa,pa,p,cc⟩:=c.uT k hk
 refine⟨i,la,oa,pa,p,cc.inl,cc.src,cc.dst,cc.new,fun j j1 j2 ya yb nZ hyb=> ?_⟩
 obtain⟨h3,h4⟩:=cc.wds j j1 j2 ya yb nZ hyb
 have A7J:(j<=(gl (0,0) m k).1/\scn (d+1) 0 k j)↔(j<=(gl (0,0) m k).1/\scn d e k j):=by
  unfold scn
  constructor
  ·rintro⟨a,b|⟨b,b'⟩⟩
   ·by_cases hkd:k=d
    ·subst hkd;exact⟨a,.inr ⟨rfl,by omega⟩⟩
    ·exact⟨a,.inl (by omega)⟩
   ·omega
  ·rintro⟨a,b|⟨b,_⟩⟩
   ·exact⟨a,.inl (by omega)⟩
   ·exact⟨a,.inl (by omega)⟩
 rw[A7J]
 exact⟨h3,h4⟩
abbrev RunT:Type:=AI×List (Int×Int)×List (BitVec 64)×Int×List (BitVec 64)×List Fr
def Er (s0:Sp) (w:Wk):Prop:=w.2.2.2.2=4/\w.1.2.1.length=s0.2.1.length
def Grf (R:Int->Prop) (s0:Sp) (l:List AI):Prop:=∀ i∈l,∀ la oa pa a x,OB s0 i la oa pa a x->R a->∀ j ya,1<=j->j<=x.1->CM (sz s0.1) la (pa+j)=some ya->Gw s0 l (gl 0#64 s0.2.1 ya.toNat)/\(Wn (AV l) s0 (gl 0#64 s0.2.1 ya.toNat)->R (((gl 0#64 s0.2.1 ya.toNat).toNat:Int)-1))
theorem AFA {d:α} {l l' r:List α} (h:l' =l++r) (hk:k<l.length):gl d l' k=gl d l k:=by rw[h,JM hk]
variable {x:Int×Int} {p':Int}
theorem CI.same {s0:Sp} (c:CI R s0 q l CB l0 DL t to lb m mv d e) {oa:List (Int×Int)} {pa:Int} (cc:Cop s0 (AV l) l CB t to lb (DL++m) mv d e k i la oa pa p x) (p0:0<=p') (hp:CM (sz s0.1) lb p' =some (gl (0,0) mv k).2):p=p' :=by
 have h1:=cc.dst.FZ
 rw[c.sh] at h1
 exact F9 (BU s0.1) (YP c.has) cc.dst.IA.2.2.1 p0 h1 hp
theorem CI.A54 {s0:Sp} (h:Cd s0 q l CB l0 DL) (c:CI R s0 q l CB l0 DL t to lb m mv d e)
  (gw:Gw s0 l w) {err:Int} {t' :Sp} {I2 :AI} {mm:List (Int×Int)} (hm:tB (AV l) t to w v err t' I2 mm):err=0\/err=4:=by
 have key:Wn (AV l) t w->(∃ b,wI (Z0 t w)=(0,0,b,true,0))\/∃ x,hd (Z0 t w)=some x/\∀ la2,Pa t.2.2 (((w.toNat:Int)-1) / sz t.1) la2->∃ y,CM (sz t.1) la2 (((w.toNat:Int)-1)%sz t.1+(x.1+x.2))=some y:=by
  intro hw
  have hz:sz t.1=sz s0.1:=by rw[c.sh]
  have W7:=VS.IK h.hb.bv.vs
  have z:=BU s0.1
  have hw0:=(c.wn h w).1 hw
  obtain⟨i,hi,pa,x,la,oa,o⟩:=gw hw0
  have AF0:=o.IA
  have hA:=h.W2 hi o.has AF0.2.2.1 o.FZ
  generalize hAe:(w.toNat:Int)-1=A at*
  have AF8:Z0 t w=gl 0#64 t.2.1 A.toNat:=by rw[<-hAe]
  by_cases MR:A∈mv.map (·.1)
  ·obtain⟨xx,hx1,hx2⟩:=DH.1 MR
   have h2:=c.wd2 xx hx1
   rw[hx2] at h2
   obtain⟨k,hk,MZ⟩:=EF (d:=((0,0):Int×Int)) hx1
   obtain⟨i',la',oa',pa',p',cc⟩:=c.uT k hk
   have hbr:=CH c.cy.vs c.cy.fit c.has cc.dst.IA.2.2.1 cc.dst.FZ
   rw[MZ] at hbr
   have cA:0<=xx.2/\xx.2<=16383:=by have:=c.wl;omega
   exact .inl ⟨xx.2,by rw[AF8,h2,AF4 cA.1 cA.2]⟩
  ·have htA:gl 0#64 t.2.1 A.toNat=gl 0#64 s0.2.1 A.toNat:=c.wd1 A hA.1.1 hA.1.2 (by rw[hA.2.2.1];omega) (by rw[hA.2.2.1];exact hA.2.2.2.2.2) MR
   refine .inr ⟨x,by rw[AF8,htA];exact AIF o,fun la2 hl=> ?_⟩
   obtain⟨y,hy⟩:=o.vN h.hb.bv.vs (h.hb.fit (h.sub i hi)).1 (k:=x.1+x.2) (by omega) (by omega)
   rcases o.has with ⟨hw',_⟩|⟨hw',hpi⟩
   ·omega
   obtain⟨l2,q1,_,q3⟩:=KF z hpi AF0.2.2.1 o.FZ (k:=x.1+x.2) (by omega)
   have hp2:Pa t.2.2 (A / sz s0.1) l2:=by
    refine q1.gT c.fl fun y hy=> ?_
    obtain⟨y0,y1⟩:=q1.mem hy
    have ho:=(h.hb.bv.vs.owner q1 y hy).1
    rw[HS y0 (by rw[c.fl];exact y1),HS y0 y1,c.fr3 y y0 y1 (by rw[ho,hA.2.2.1];omega) (by rw[ho,hA.2.2.1];exact hA.2.2.2.2.2)]
   rw[hz] at hl ⊢
   rw[hl.fn hp2,q3]
   exact⟨y,hy⟩
 cases hm with
 |out|gZ|MP=>exact .inl rfl
 |full=>exact .inr rfl
 |bad hw h3=>
  exfalso
  rcases key hw with ⟨b,hb⟩|⟨x,hx,_⟩
  ·rw[hb] at h3;exact h3 rfl
  ·rw[SA hx] at h3;exact h3 rfl
 |g_ hw hh hl ha=>
  exfalso
  rcases key hw with ⟨b,hb⟩|⟨x,hx,hy⟩
  ·rw[SA hh] at hb;cases hb
  ·rw[hh] at hx
   obtain rfl:=HO hx
   obtain⟨y,hy⟩:=hy _ hl
   rw[ha] at hy;cases hy
theorem A2D {s0:Sp} (h:Cd s0 q l CB l0 DL) (lE:l.length<=1000000) (grf:Grf R s0 l) (c:CI R s0 q l CB l0 DL t to lb m mv d 0)
  (hd:d<mv.length) {S:List Int} (hS:B_ (s0.1,t.2) (gl ((0,0):Int×Int) mv d).2=some (S,0)):
  ∃ b,AH (σ:=Int×Wk) (β:=(Int×Wk) ⊕ RunT) (fun s3=>
   if s3.1<(S.length:Int) then
   if 0<=s3.1/\s3.1<(S.length:Int) then
   if 0<=(gl (0:Int) S s3.1.toNat)/\(gl (0:Int) S s3.1.toNat)<(s3.2.1.2.1.length:Int) then
   (B9 s3.2 (gl (0#64:(BitVec 64)) s3.2.1.2.1 ((gl (0:Int) S s3.1.toNat).toNat))).bind (fun r3=>
   if 0<=(gl (0:Int) S s3.1.toNat)/\(gl (0:Int) S s3.1.toNat)<(r3.2.1.2.1.length:Int) then
   some (Sum.inl ((AG (s3.1+1),((r3.2.1.1,r3.2.1.2.1.set ((gl (0:Int) S s3.1.toNat).toNat) r3.1,r3.2.1.2.2),r3.2.2))))
   else none)
   else none
   else none
   else some (Sum.inr (Sum.inl ((AG ((d:Int)+1),s3.2))))) ((0,(t,l,to,mv,0)))=some b∧
  ∃ w',b=Sum.inl ((d:Int)+1,w')/\(Er s0 w' \/∃ t1 P8 rD m1 JO,w' =(t1,l,P8,JO,0)/\CI R s0 q l CB l0 DL t1 P8 rD m1 JO (d+1) 0/\∃ r,JO=mv++r):=by
 have W7:=VS.IK h.hb.bv.vs
 have z:=BU s0.1
 obtain⟨i,la,oa,pa,p,cc⟩:=c.uT d hd
 have hz:sz t.1=sz s0.1:=by rw[c.sh]
 have hts:((s0.1,t.2):Sp)=t:=by rw[<-c.sh]
 have hml:=c.W3 h
 have hfs:=cc.dst.fields c.cy.vs c.cy.fit
 rw[hts,hfs] at hS
 obtain rfl:YQ (sz t.1) lb p (gl (0,0) m d).1.toNat=S:=by simpa using hS
 rw[hz]
 have hlen:(YQ (sz s0.1) lb p (gl (0,0) m d).1.toNat).length=(gl (0,0) m d).1.toNat:=LO _ _ _ _
 have hrd:=cc.dst.IA
 have hpb:CM (sz s0.1) lb p=some (gl (0,0) mv d).2:=by rw[<-hz];exact cc.dst.FZ
 have pA:∀ j:Nat,j<(gl (0,0) m d).1.toNat->∃ y,CM (sz s0.1) lb (p+((j:Int)+1))=some y/\(0<=y/\y<s0.2.1.length)/\gl 0 (YQ (sz s0.1) lb p (gl (0,0) m d).1.toNat) j=y:=by
  intro j hj
  obtain⟨y,hy⟩:=cc.dst.vN c.cy.vs c.cy.fit (k:=(j:Int)+1) (by omega) (by omega)
  have hr:=CH c.cy.vs c.cy.fit c.has (by omega) hy
  rw[c.wl] at hr
  rw[hz] at hy
  refine⟨y,hy,hr.1, ?_⟩
  rw[qP hj,show p+(1+(j:Int))=p+((j:Int)+1) from by omega,hy];rfl
 generalize hSS:YQ (sz s0.1) lb p (gl (0,0) m d).1.toNat=S at*
 generalize hX:gl ((0,0):Int×Int) m d=X at*
 refine AK (fun j (st:Int×Wk)=>st.1=(j:Int)/\(Er s0 st.2\/∃ t1 P8 rD m1 JO,st.2=(t1,l,P8,JO,0)/\CI R s0 q l CB l0 DL t1 P8 rD m1 JO d j/\(∃ r,rD=lb++r)/\(∃ r,m1=m++r)/\∃ r,JO=mv++r)) _ X.1.toNat ?_ ?_ ⟨rfl,.inr ⟨t,to,lb,m,mv,rfl,c,⟨[],by rw[FP]⟩,⟨[],by rw[FP]⟩,[],by rw[FP]⟩⟩
 ·rintro j ⟨jj,w⟩ hj ⟨vO,hw⟩
  simp only at vO hw
  subst vO
  obtain⟨y,hy,⟨y0,y1⟩,hgl⟩:=pA j hj
  left
  simp only[HM]
  rw[hgl,ab,ab,ah (e:=(j:Int)+1)]
  rcases hw with ⟨e1,e2⟩|⟨t1,P8,rD,m1,JO,rfl,c1,⟨r1,hr1⟩,⟨r2,hr2⟩,r3,hr3⟩
  ·rw[ab,jG (by rw[e1];decide),AW]
   simp only
   rw[ab]
   exact⟨_,rfl,rfl,.inl ⟨e1,by simpa using e2⟩⟩
  ·have yS:d<JO.length:=by rw[hr3,PQ];omega
   have hgm:gl ((0,0):Int×Int) m1 d=X:=by rw[AFA hr2 (by rw[c.ml];exact hd),hX]
   have hgv:gl ((0,0):Int×Int) JO d=gl (0,0) mv d:=AFA hr3 hd
   obtain⟨i1,la1,oa1,pa1,p1,cc1⟩:=c1.uT d yS
   obtain rfl:p1=p:=c1.same cc1 hrd.2.2.1 (by rw[hgv,hr1];exact CK hpb)
   rw[hgm] at cc1
   have hsr:=cc1.src.IA
   obtain⟨ya,nZ⟩:=cc1.src.vN h.hb.bv.vs (h.hb.fit (h.sub _ cc1.inl)).1 (k:=(j:Int)+1) (by omega) (by omega)
   have hy1:CM (sz s0.1) rD (p1+((j:Int)+1))=some y:=by rw[hr1];exact CK hy
   have hty:gl 0#64 t1.2.1 y.toNat=gl 0#64 s0.2.1 ya.toNat:=by
    refine (cc1.wds ((j:Int)+1) (by omega) (by omega) ya y nZ hy1).2 fun hh=> ?_
    rcases hh.2 with h1|⟨_,h1⟩ <;> omega
   obtain⟨gw,gr⟩:=grf i1 cc1.inl la1 oa1 pa1 _ X cc1.src (c1.rch _ (B3 yS)) ((j:Int)+1) ya (by omega) (by omega) nZ
   obtain⟨v,v',err,t2,to2,mm,hm,he,hv⟩:=qO lE c1.cy (mv:=JO) (by have:=c1.W3 h;omega) (gl 0#64 t1.2.1 y.toNat)
   obtain⟨-, -, -,b_, -⟩:=tB.cy c1.cy hm
   have hl1:=c1.wl
   rw[AA (by simp only;omega)]
   simp only
   rw[he,AW]
   simp only
   rw[ab]
   refine⟨_,rfl,rfl, ?_⟩
   by_cases AFB:err=0
   rotate_left
   ·exact .inl ⟨(c1.A54 h gw (by rw[hty] at hm;exact hm)).resolve_left AFB,by simp only[EG];omega⟩
   ·right
    rw[hty] at hm
    obtain⟨lb2,m2,c2,him,⟨r4,hr4⟩,r5,hr5⟩:=c1.move h gw gr hm AFB
    have hd2:d<(JO++mm).length:=by rw[PQ];omega
    have A55:gl ((0,0):Int×Int) m2 d=X:=by rw[AFA hr5 (by rw[c1.ml];exact yS),hgm]
    have A2E:gl ((0,0):Int×Int) (JO++mm) d=gl (0,0) mv d:=by rw[JM yS,hgv]
    obtain⟨i2,la2,oa2,pa2,p2,cc2⟩:=c2.uT d hd2
    obtain rfl:p2=p1:=c2.same cc2 hrd.2.2.1 (by rw[A2E,hr4,hr1];exact CK (CK hpb))
    have A7K:=cc2.src
    rw[A55] at A7K
    have hii:i2=i1:=by
     have a1:=h.W2 cc1.inl cc1.src.has cc1.src.IA.2.2.1 cc1.src.FZ
     have a2:=h.W2 cc2.inl cc2.src.has cc2.src.IA.2.2.1 cc2.src.FZ
     rw[hgv] at a1
     rw[A2E] at a2
     exact h.hb.uniq (h.sub _ cc2.inl) (h.sub _ cc1.inl) (by rw[<-a2.2.2.1,←a1.2.2.1])
    subst hii
    obtain rfl:=K_ cc1.src.has cc2.src.has
    have hpp:pa2=pa1:=by
     have a1:=cc1.src.FZ
     have a2:=cc2.src.FZ
     rw[hgv] at a1
     rw[A2E] at a2
     exact F9 z (YP cc1.src.has) cc2.src.IA.2.2.1 cc1.src.IA.2.2.1 a2 a1
    subst hpp
    refine⟨_,to2,lb2,m2,JO++mm, ?_,c2.write h hd2 cc2 (by rw[A55];omega) (y:=y) (ya:=ya) (v:=v) (by rw[hr4];exact CK hy1) nZ him,⟨r1++r4,by rw[hr4,hr1,I0]⟩,⟨r2++r5,by rw[hr5,hr2,I0]⟩,r3++mm,by rw[hr3,I0]⟩
    rw[hv AFB,AFB]
 ·rintro⟨jj,w⟩ ⟨vO,hw⟩
  simp only at vO hw
  subst vO
  simp only
  rw[af,ah (e:=(d:Int)+1)]
  refine⟨_,rfl,w,rfl, ?_⟩
  rcases hw with hw|⟨t1,P8,rD,m1,JO,rfl,c1,⟨r1,hr1⟩,⟨r2,hr2⟩,r3,hr3⟩
  ·exact .inl hw
  ·have yS:d<JO.length:=by rw[hr3,PQ];omega
   refine .inr ⟨t1,P8,rD,m1,JO,rfl,c1.next yS ?_,r3,hr3⟩
   rw[AFA hr2 (by rw[c.ml];exact hd),hX]
   omega
variable {ws:List (BitVec 64)}
theorem ALC {s0:Sp} (h:Cd s0 q l CB l0 DL) (lE:l.length<=1000000) (grf:Grf R s0 l) (hQ:ws.length<=1000000) (gws:∀ w∈ws,Gw s0 l w/\(Wn (AV l) s0 w->R ((w.toNat:Int)-1))):
  ∃ res:RunT,BQ s0 l CB ws=some res/\(res.2.2.2.1=4\/∃ t to lb m mv out,res=(to,mv,out,0,t.2.1,t.2.2)/\CI R s0 q l CB l0 DL t to lb m mv mv.length 0/\out.length=ws.length/\∀ k,k<ws.length->Im s0 (AV l) mv (gl 0#64 ws k) (gl 0#64 out k)):=by
 unfold BQ zaM
 refine AK (fun k (st:List (BitVec 64)×Int×Wk)=>st.2.1=(k:Int)/\st.1.length=k/\(Er s0 st.2.2\/∃ t to lb m mv,st.2.2=(t,l,to,mv,0)/\CI R s0 q l CB l0 DL t to lb m mv 0 0/\∀ j,j<k->Im s0 (AV l) mv (gl 0#64 ws j) (gl 0#64 st.1 j))) _ ws.length ?_ ?_ ⟨rfl,rfl,.inr ⟨s0,CB,l0,[],[],rfl,CI.start h,fun j hj=>by omega⟩⟩
 ·rintro k ⟨out,kk,w⟩ hk ⟨HR,hol,hw⟩
  simp only at HR hol hw
  subst HR
  left
  simp only[HM]
  rw[ab,ab]
  rcases hw with ⟨e1,e2⟩|⟨t,to,lb,m,mv,rfl,c,him⟩
  ·rw[jG (by rw[e1];decide),AW,AA (by simp only[Q5];omega),ah]
   exact⟨_,rfl,rfl,by simp only[PQ,Q5,hol],.inl ⟨e1,e2⟩⟩
  ·obtain⟨gw,gr⟩:=gws _ (B3 (d:=0#64) hk)
   obtain⟨v,v',err,t2,to2,mm,hm,he,hv⟩:=qO lE c.cy (mv:=mv) (by have:=c.W3 h;omega) (gl 0#64 ws k)
   obtain⟨-, -, -,b_, -⟩:=tB.cy c.cy hm
   rw[he,AW,AA (by simp only[Q5];omega),ah]
   refine⟨_,rfl,rfl,by simp only[PQ,Q5,hol], ?_⟩
   by_cases AFB:err=0
   rotate_left
   ·exact .inl ⟨(c.A54 h gw hm).resolve_left AFB,by simp only;rw[b_,c.wl]⟩
   ·obtain⟨lb2,m2,c2,A7L, -, -⟩:=c.move h gw gr hm AFB
    refine .inr ⟨t2,to2,lb2,m2,mv++mm,by rw[AFB],c2,fun j hj=> ?_⟩
    simp only
    by_cases WC:j=k
    ·subst WC
     rw[DJ (xs:=out++ [v']) (by rw[PQ,hol];simp),AD7 (by rw[hol];exact EH _)]
     simp only[hol,bL,AR9]
     rw[hv AFB];exact A7L
    ·rw[JM (by rw[hol];omega)]
     exact (him j (by omega)).mono fun x hx=>AA8 _ hx
 ·rintro⟨out,kk,w⟩ ⟨HR,hol,hw⟩
  simp only at HR hol hw
  subst HR
  simp only
  rw[af]
  have key:=AK (f:=fun s2:Int×Wk=>
   if s2.1<(s2.2.2.2.2.1.length:Int) then
   if s2.2.2.2.2.2=0 then
   if 0<=s2.1/\s2.1<(s2.2.2.2.2.1.length:Int) then
   (B_ (s0.1,s2.2.1.2) ((gl ((0,0):(Int×Int)) s2.2.2.2.2.1 s2.1.toNat).2)).bind (fun r2=>
   AH (σ:=(Int×Wk)) (β:=((Int×Wk) ⊕ RunT)) (fun s3=>
   if s3.1<(r2.1.length:Int) then
   if 0<=s3.1/\s3.1<(r2.1.length:Int) then
   if 0<=(gl (0:Int) r2.1 s3.1.toNat)/\(gl (0:Int) r2.1 s3.1.toNat)<(s3.2.1.2.1.length:Int) then
   (B9 s3.2 (gl (0#64:(BitVec 64)) s3.2.1.2.1 ((gl (0:Int) r2.1 s3.1.toNat).toNat))).bind (fun r3=>
   if 0<=(gl (0:Int) r2.1 s3.1.toNat)/\(gl (0:Int) r2.1 s3.1.toNat)<(r3.2.1.2.1.length:Int) then
   some (Sum.inl ((AG (s3.1+1),((r3.2.1.1,r3.2.1.2.1.set ((gl (0:Int) r2.1 s3.1.toNat).toNat) r3.1,r3.2.1.2.2),r3.2.2))))
   else none)
   else none
   else none
   else some (Sum.inr (Sum.inl ((AG (s2.1+1),s3.2))))) ((0,s2.2)))
   else none
   else some (Sum.inr ((s2.2.2.2.1,s2.2.2.2.2.1,out,s2.2.2.2.2.2,s2.2.1.2.1,s2.2.1.2.2)))
   else some (Sum.inr ((s2.2.2.2.1,s2.2.2.2.2.1,out,s2.2.2.2.2.2,s2.2.1.2.1,s2.2.1.2.2))))
   (fun k (st:Int×Wk)=>st.1=(k:Int)/\(Er s0 st.2\/∃ t to lb m mv,st.2=(t,l,to,mv,0)/\CI R s0 q l CB l0 DL t to lb m mv k 0/\∀ j,j<ws.length->Im s0 (AV l) mv (gl 0#64 ws j) (gl 0#64 out j)))
   (fun (res:RunT)=>(res.2.2.2.1=4\/∃ t to lb m mv out,res=(to,mv,out,0,t.2.1,t.2.2)/\CI R s0 q l CB l0 DL t to lb m mv mv.length 0/\out.length=ws.length/\∀ k,k<ws.length->Im s0 (AV l) mv (gl 0#64 ws k) (gl 0#64 out k)))
   16385 ?_ ?_ (s:=(0,w)) ⟨rfl,hw⟩
  ·obtain⟨b,cA,hb2⟩:=key
   refine⟨b, ?_,hb2⟩
   exact Option.map_eq_some_iff.2 ⟨b,cA,rfl⟩
  ·rintro k ⟨kk,w⟩ hk ⟨HR,hw⟩
   simp only at HR hw
   subst HR
   simp only[HM]
   rcases hw with ⟨e1,e2⟩|⟨t,to,lb,m,mv,rfl,c,him⟩
   ·right
    by_cases h1:(k:Int)<(w.2.2.2.1.length:Int)
    ·rw[AA h1,AE (by rw[e1];decide)];exact⟨_,rfl,.inl e1⟩
    ·rw[AE h1];exact⟨_,rfl,.inl e1⟩
   ·simp only
    by_cases h1:(k:Int)<(mv.length:Int)
    rotate_left
    ·rw[AE h1]
     obtain⟨d1,d2⟩:=c.de
     obtain rfl:k=mv.length:=by omega
     exact .inr ⟨_,rfl,.inr ⟨t,to,lb,m,mv,out,rfl,c,hol,him⟩⟩
    ·left
     have KA :k<mv.length:=by omega
     rw[AA h1,AA trivial,AA ⟨by omega,h1⟩]
     obtain⟨i,la,oa,pa,p,cc⟩:=c.uT k KA
     have hfs:=cc.dst.fields c.cy.vs c.cy.fit
     have hts:((s0.1,t.2):Sp)=t:=by rw[<-c.sh]
     rw[<-hts] at hfs
     obtain⟨b,cA,w',rfl,hb3⟩:=A2D h lE grf c KA hfs
     rw[hfs,AW]
     refine⟨_,cA,rfl, ?_⟩
     rcases hb3 with hb3|⟨t1,P8,rD,m1,JO,rfl,c1,r,hr⟩
     ·exact .inl hb3
     ·exact .inr ⟨t1,P8,rD,m1,JO,rfl,c1,fun j hj=>(him j hj).mono fun x hx=>by rw[hr];exact AA8 _ hx⟩
  ·rintro⟨kk,w⟩ ⟨HR,hw⟩
   simp only at HR hw
   subst HR
   rcases hw with ⟨e1,e2⟩|⟨t,to,lb,m,mv,rfl,c,him⟩
   ·by_cases h1:(((16385:Nat):Int))<(w.2.2.2.1.length:Int)
    ·simp only
     rw[AA h1,AE (by rw[e1];decide)];exact⟨_,rfl,.inl e1⟩
    ·simp only
     rw[AE h1];exact⟨_,rfl,.inl e1⟩
   ·have:=c.W3 h
    have:=c.de.1
    omega
structure Sm (s s' :Sp) (n:Int):Prop where
 sh:s'.1=s.1
 wl:s'.2.1.length=s.2.1.length
 fl:s'.2.2.length=s.2.2.length
 fr:∀ x:Int,0<=x->x<s.2.2.length->(Go.V3.fr s.2.2 x).1=n\/(Go.V3.fr s'.2.2 x).1=n->Go.V3.fr s'.2.2 x=Go.V3.fr s.2.2 x
theorem Sm.owned {s s' :Sp} {n:Int} (h:Sm s s' n):Go.V3.owned s'.2.2 n=Go.V3.owned s.2.2 n:=by
 unfold Go.V3.owned
 rw[h.fl]
 refine AG3 fun x hx=> ?_
 obtain⟨x0,x1⟩:=NR.1 hx
 rw[jL]
 constructor
 ·intro he;rw[<-h.fr x x0 x1 (.inr he)];exact he
 ·intro he;rw[h.fr x x0 x1 (.inl he)];exact he
theorem Sm.symm {s s' :Sp} {n:Int} (h:Sm s s' n):Sm s' s n:=⟨h.sh.symm,h.wl.symm,h.fl.symm,fun x x0 x1 hh=>(h.fr x x0 (by rw[<-h.fl];exact x1) hh.symm).symm⟩
variable {n:Int} {s s':Sp}
theorem Sm.pa (hv:VS s) (h:Sm s s' n) {f:Int} {l:List Int} (hp:Pa s.2.2 f l) (hn:(Go.V3.fr s.2.2 f).1=n):Pa s'.2.2 f l:=by
 refine hp.gT h.fl fun x hx=> ?_
 obtain⟨x0,x1⟩:=hp.mem hx
 have ho:=(hv.owner hp x hx).1
 rw[HS x0 (by rw[h.fl];exact x1),HS x0 x1,h.fr x x0 x1 (.inl (by rw[ho];exact hn))]
theorem Sm.has (hv:VS s) (hf:DB s i) (h:Sm s s' i.1) {l:List Int} (hl:Has s i l):Has s' i l:=by
 rcases hl with ⟨hw,rfl⟩|⟨hw,hp⟩
 ·exact .inl ⟨hw,rfl⟩
 ·rcases hf.2 with ⟨hw',_⟩|⟨_,_,hn,_⟩
  ·exact absurd hw' hw
  ·exact .inr ⟨hw,h.pa hv hp hn⟩
theorem Sm.fit (hv:VS s) (hf:DB s i) (h:Sm s s' i.1):DB s' i:=by
 refine⟨by rw[h.wl];exact hf.1, ?_⟩
 rcases hf.2 with hw|⟨hw,⟨f0,f1⟩,hn,hst,l,hp,h1,h2,h3⟩
 ·exact .inl hw
 ·have he:=h.fr _ f0 f1 (.inl hn)
  exact .inr ⟨hw,⟨f0,by rw[h.fl];exact f1⟩,by rw[he];exact hn,by rw[he];exact hst,l,h.pa hv hp hn,by rw[h.sh];exact h1,by rw[h.owned];exact h2,h3⟩
variable {os:List (Int×Int)}
theorem Sm.uU (h:Sm s s' i.1) {l:List Int} (ht:DK (sz s.1) s.2.1 l 0 os i.2.2.2.2) (hw:∀ p x a,TA 0 os p x->CM (sz s.1) l p=some a->gl 0#64 s'.2.1 a.toNat=gl 0#64 s.2.1 a.toNat):DK (sz s'.1) s'.2.1 l 0 os i.2.2.2.2:=by
 rw[h.sh]
 exact ht.ACX fun p x a hp ha=>⟨ha,hw p x a hp ha⟩
variable {a:Int}
theorem Sm.ob (hv:VS s) (hf:DB s i) (h:Sm s s' i.1) {l:List Int} (hw:∀ p x a,TA 0 os p x->CM (sz s.1) l p=some a->gl 0#64 s'.2.1 a.toNat=gl 0#64 s.2.1 a.toNat) (o:OB s i l os p a x):OB s' i l os p a x:=
 ⟨h.has hv hf o.has,h.uU o.Q2 hw,o.ta,by rw[h.sh];exact o.FZ⟩
variable {rC:List (Int×Int)} {l':List Int}
theorem LA {l:List Int} (hl:Has s i l) (ht:DK (sz s.1) s.2.1 l 0 os i.2.2.2.2) (o:OB s i l' rC p a x):l' =l/\rC =os:=by
 obtain rfl:=K_ o.has hl
 exact⟨rfl,o.Q2.fn ht⟩
def gvs (s:Sp):List Int->Sp
 | []=>s
 |n::r=>gvs (gv s n) r
theorem ALD:∀ {C:List Int} {s:Sp},VS s->(∀ n∈C,0<=n)->VS (gvs s C)/\(gvs s C).1=s.1/\(gvs s C).2.1.length=s.2.1.length/\(gvs s C).2.2.length=s.2.2.length∧
  (∀ x:Int,0<=x->x<s.2.2.length->fr (gvs s C).2.2 x=if (fr s.2.2 x).1∈C then (-1, -1, -1) else fr s.2.2 x)∧
  (∀ y:Int,0<=y->y<s.2.1.length->gl 0#64 (gvs s C).2.1 y.toNat=if (fr s.2.2 (y / sz s.1)).1∈C then 0#64 else gl 0#64 s.2.1 y.toNat)
 | [],s,h,_=>⟨h,rfl,rfl,rfl,fun _ _ _=>by simp [gvs],fun _ _ _=>by simp [gvs]⟩
 |n::r,s,h,hn=>by
  have n0:=hn n (by simp)
  obtain⟨i1,i2,i3,i4,i5,i6⟩:=ALD (C:=r) (h.A6Y n0) (fun k hk=>hn k (YB _ hk))
  rw[ANJ] at i3 i6
  rw[ATQ] at i4 i5
  have e1:(gv s n).1=s.1:=rfl
  rw[e1] at i2 i6
  refine⟨i1,i2,i3,i4,fun x x0 x1=> ?_,fun y y0 y1=> ?_⟩
  ·rw[gvs,i5 x x0 x1,ATP x0 x1]
   by_cases h1:(fr s.2.2 x).1=n
   ·rw[AA h1,AA (show (fr s.2.2 x).1∈n::r by rw[h1];simp)]
    split <;> rfl
   ·rw[AE h1]
    by_cases h2:(fr s.2.2 x).1∈r
    ·rw[AA h2,AA (YB _ h2)]
    ·rw[AE h2,AE (fun hh=>by rcases GH.1 hh with hh|hh;exact h1 hh;exact h2 hh)]
  ·obtain⟨f0,f1⟩:=EP h y0 y1
   have hyn:((y.toNat:Nat):Int)=y:=by omega
   have hg:=A4R h (o:=n) (a:=y.toNat) (by omega)
   rw[hyn] at hg
   rw[gvs,i6 y y0 y1,ATP f0 f1,hg]
   by_cases h1:(fr s.2.2 (y / sz s.1)).1=n
   ·rw[AA h1,AA h1,AA (show (fr s.2.2 (y / sz s.1)).1∈n::r by rw[h1];simp)]
    split <;> rfl
   ·rw[AE h1,AE h1]
    by_cases h2:(fr s.2.2 (y / sz s.1)).1∈r
    ·rw[AA h2,AA (YB _ h2)]
    ·rw[AE h2,AE (fun hh=>by rcases GH.1 hh with hh|hh;exact h1 hh;exact h2 hh)]
theorem AIM:∀ (C:List Int) (s:Sp) (n:Int),gvs s (C++ [n])=gv (gvs s C) n
 | [],s,n=>rfl
 |m::r,s,n=>by rw[w8,gvs,gvs,AIM r]
structure OkR (s:Sp) (q:Rows):Prop where
 pw:∀ k,k<q.length->(gl [] q k).Pairwise fun a b=>a.1<b.1
 e:∀ k,k<q.length->∀ i∈gl [] q k,i.2.1=(k:Int)/\1<=i.2.2.2.2/\DB s i
 nd:(q.flatten.map (·.1)).Nodup
theorem zX {α:Type} {d:α} {f:α->Int}:∀ {l:List α},(∀ j,0<j->j<l.length->f (gl d l (j-1))<f (gl d l j))->l.Pairwise fun a b=>f a<f b
 | [],_=>List.Pairwise.nil
 | [a],_=>ALO _ _
 |a::b::r,h=>by
  have ih:(b::r).Pairwise fun a b=>f a<f b:=zX (d:=d) fun j j0 j1=>by
   have:=h (j+1) (by omega) (by simp at j1 ⊢;omega)
   rw[show j+1-1=j-1+1 by omega] at this
   exact this
  have xV:f a<f b:=h 1 (by omega) (by simp)
  refine List.Pairwise.cons (fun x hx=> ?_) ih
  rcases GH.1 hx with rfl|hx
  ·exact xV
  ·exact Int.lt_trans xV ((dN.1 ih).1 x hx)
theorem mC.rows (h:mC s q):OkR s q:=by
 refine⟨fun k hk=>zX (d:=((0,0,0,0,0):AI)) (f:=fun i:AI=>i.1) fun j j0 j1=>(h k j hk j1).2.2.1 j0,fun k hk i hi=> ?_,h.nodup⟩
 obtain⟨j,hj,rfl⟩:=EF (d:=((0,0,0,0,0):AI)) hi
 have:=h k j hk hj
 exact⟨this.1,this.2.1,this.2.2.2.2⟩
theorem OkR.all (h:OkR s q):mC s q:=by
 intro k j hk hj
 obtain⟨h1,h2,h3⟩:=h.e k hk _ (B3 (d:=((0,0,0,0,0):AI)) hj)
 refine⟨h1,h2,fun j0=> ?_, ?_,h3⟩
 ·have:=AFQ.1 (h.pw k hk) (j-1) j (by omega) hj (by omega)
  rw[DJ (by omega),DJ hj];exact this
 ·have hn:=h.nd
  rw[IS q k hk,wF (d:=((0,0,0,0,0):AI)) (gl [] q k) j hj,I0,w8,←I0,YC,PB] at hn
  intro hm
  exact hn.2.2 _ hm _ (by rw[JS];exact oC) rfl
def mD (q:Rows) (C:List Int):Rows:=q.map fun x=>x.filter fun i=>decide (i.1∉C)
theorem O_ (q:Rows) (C:List Int):(mD q C).length=q.length:=by unfold mD;rw[V6]
theorem AUR {C:List Int} (hk:k<q.length):gl [] (mD q C) k=(gl [] q k).filter fun i=>decide (i.1∉C):=by
 unfold mD;rw[AUN (d:=[]) hk]
theorem hU (q:Rows) (C:List Int):(mD q C).flatten=q.flatten.filter fun i=>decide (i.1∉C):=by
 unfold mD;rw[List.filter_flatten]
theorem AXZ (q:Rows):mD q []=q:=by
 unfold mD
 conv=>rhs;rw[<-List.map_id q]
 refine W9 fun x _=> ?_
 rw[ALW.2 (fun i _=>by simp)];rfl
theorem AUS (q:Rows) (C:List Int) (n:Int):mD (mD q C) [n]=mD q (C++ [n]):=by
 unfold mD
 rw[XB]
 refine W9 fun x _=> ?_
 simp only[ARI,List.filter_filter]
 refine AG3 fun i _=> ?_
 simp only[FG,GG,not_or,Bool.decide_and]
 rw[Bool.and_comm]
theorem erase_filter {f:AI->Int}:∀ {xs:List AI} {j:Nat} {n:Int},(xs.map f).Nodup->j<xs.length->f (gl ((0,0,0,0,0):AI) xs j)=n->xs.eraseIdx j=xs.filter fun i=>decide (f i∉[n])
 | [],j,n,_,h,_=>by simp at h
 |a::r,0,n,hd,_,hn=>by
  obtain⟨h1,h2⟩:=VE.1 hd
  have hn' :f a=n:=hn
  rw[List.eraseIdx_cons_zero,u5,AE (by simp [hn']),ALW.2]
  intro x hx
  simp only[GG,LD]
  intro he
  exact h1 (by rw[hn',←he];exact DH.2 ⟨x,hx,rfl⟩)
 |a::r,j+1,n,hd,hj,hn=>by
  obtain⟨h1,h2⟩:=VE.1 hd
  have bQ :j<r.length:=by simpa using hj
  have hn' :f (gl ((0,0,0,0,0):AI) r j)=n:=hn
  have CW:f a≠n:=fun he=>h1 (by rw[he,←hn'];exact DH.2 ⟨_,B3 bQ,rfl⟩)
  rw[List.eraseIdx_cons_succ,u5,AA (by simpa using CW),erase_filter h2 bQ hn']
theorem AUT (h:(q.flatten.map (·.1)).Nodup) (hk:k<q.length):((gl [] q k).map (·.1)).Nodup:=by
 rw[IS q k hk,YC,YC,PB] at h
 exact (PB.1 h.2.1).1
theorem AUU {d:α} {q:List α} {f:α->α} (hk:k<q.length) (h:∀ j,j<q.length->j≠k->f (gl d q j)=gl d q j):q.set k (f (gl d q k))=q.map f:=by
 refine List.ext_getElem (by simp) fun j h1 h2=> ?_
 rw[EG] at h1
 rw[List.getElem_set,rH]
 split
 ·rename_i hj;subst hj;rw[DJ hk]
 ·rename_i hj
  have:=h j h1 (Ne.symm hj)
  rw[DJ h1] at this
  exact this.symm
variable {i':AI}
theorem AIN (h:(q.flatten.map (·.1)).Nodup) {j:Nat} (hk:k<q.length) (hj:j<q.length) (hi:i∈gl [] q k) (KM :i' ∈gl [] q j) (he:i.1=i'.1):j=k:=by
 by_cases DY:j=k
 ·exact DY
 exfalso
 have key:∀ {k j:Nat} {i i' :AI},k<q.length->j<q.length->k<j->i∈gl [] q k->i' ∈gl [] q j->i.1=i'.1->False:=by
  intro k j i i' hk hj hkj hi KM he
  have hn:=h
  rw[IS q k hk,YC,YC,PB] at hn
  have h2:=(PB.1 hn.2.1).2.2
  refine h2 _ (DH.2 ⟨i,hi,rfl⟩) _ (DH.2 ⟨i', ?_,rfl⟩) he
  refine w9.2 ⟨gl [] q j, ?_,KM⟩
  rw[DJ hj,AA9]
  exact⟨j-(k+1),by rw[oD];omega,by rw[List.getElem_drop];congr 1;omega⟩
 rcases IG k j with h1|h1
 ·exact key hk hj h1 hi KM he
 ·exact key hj hk (by omega) KM hi he.symm
theorem AQC (hq:q.length<=1000000) (hx:∀ x∈q,x.length<=1000000) (hn:(q.flatten.map (·.1)).Nodup) (hi:i∈q.flatten):EO q i.1=some (mD q [i.1],0):=by
 rcases ALB hq hx i.1 with ⟨h1,_⟩|⟨k,j,⟨hk,hj,hf,_⟩,h2⟩
 ·exact absurd rfl (h1 i hi)
 ·rw[h2,erase_filter (f:=fun i:AI=>i.1) (AUT hn hk) hj hf]
  congr 2
  unfold mD
  refine AUU (f:=fun x:List AI=>x.filter fun i' =>decide (i'.1∉[i.1])) hk fun j' bQ CW=> ?_
  refine ALW.2 fun y hy=> ?_
  simp only[GG,LD]
  intro he
  exact CW (AIN hn hk bQ (B3 (d:=((0,0,0,0,0):AI)) hj) hy (by rw[hf,he]))
structure OkN (q:Rows):Prop where
 pw:∀ k,k<q.length->(gl [] q k).Pairwise fun a b=>a.1<b.1
 e:∀ k,k<q.length->∀ i∈gl [] q k,i.2.1=(k:Int)/\1<=i.2.2.2.2
 nd:(q.flatten.map (·.1)).Nodup
theorem LP:i∈q.flatten↔∃ k,k<q.length/\i∈gl [] q k:=by
 rw[w9]
 constructor
 ·rintro⟨x,hx,hi⟩
  obtain⟨k,hk,rfl⟩:=EF (d:=([]:List AI)) hx
  exact⟨k,hk,hi⟩
 ·rintro⟨k,hk,hi⟩
  exact⟨_,B3 hk,hi⟩
theorem GF:mC s q↔OkN q/\∀ i∈q.flatten,DB s i:=by
 constructor
 ·intro h
  have hr:=h.rows
  exact⟨⟨hr.pw,fun k hk i hi=>⟨(hr.e k hk i hi).1,(hr.e k hk i hi).2.1⟩,hr.nd⟩,fun i hi=>(h.fit i hi).1⟩
 ·rintro⟨h,hf⟩
  exact OkR.all ⟨h.pw,fun k hk i hi=>⟨(h.e k hk i hi).1,(h.e k hk i hi).2,hf i (LP.2 ⟨k,hk,hi⟩)⟩,h.nd⟩
theorem OkN.row (h:OkN q) (hi:i∈q.flatten):(0<=i.2.1/\i.2.1<q.length)/\i∈gl [] q i.2.1.toNat:=by
 obtain⟨k,hk,iO⟩:=LP.1 hi
 have:=(h.e k hk i iO).1
 exact⟨by omega,by rw[show i.2.1.toNat=k by omega];exact iO⟩
theorem PA {C:List Int} :i∈(mD q C).flatten↔i∈q.flatten/\i.1∉C:=by
 rw[hU,Z1,LD]
theorem OkN.mD {q:Rows} (h:OkN q) (C:List Int):OkN (mD q C):=by
 refine⟨fun k hk=> ?_,fun k hk i hi=> ?_, ?_⟩
 ·rw[O_] at hk
  rw[AUR hk]
  exact (h.pw k hk).sublist ABA
 ·rw[O_] at hk
  rw[AUR hk] at hi
  exact h.e k hk i (Z1.1 hi).1
 ·rw[hU]
  exact h.nd.sublist (ABA.map _)
def rpl (q:Rows) (j:AI):Rows:=q.map fun x=>x.map fun i=>if i.1=j.1 then j else i
theorem qS (q:Rows) (j:AI):(rpl q j).length=q.length:=by unfold rpl;rw[V6]
variable {j:AI}
theorem AUV (hk:k<q.length):gl [] (rpl q j) k=(gl [] q k).map fun i=>if i.1=j.1 then j else i:=by
 unfold rpl;rw[AUN (d:=[]) hk]
theorem AO5 (x:List AI) (j:AI):(x.map fun i=>if i.1=j.1 then j else i).map (·.1)=x.map (·.1):=by
 rw[XB]
 refine W9 fun i _=> ?_
 simp only[ARI]
 split
 ·rename_i h;exact h.symm
 ·rfl
theorem zY (q:Rows) (j:AI):(rpl q j).flatten=q.flatten.map fun i=>if i.1=j.1 then j else i:=by
 unfold rpl;rw[List.map_flatten]
theorem OkN.rpl {q:Rows} (h:OkN q) {j:AI} (hj:∀ i∈q.flatten,i.1=j.1->i.2.1=j.2.1) (hw:1<=j.2.2.2.2):OkN (rpl q j):=by
 refine⟨fun k hk=> ?_,fun k hk i hi=> ?_, ?_⟩
 ·rw[qS] at hk
  rw[AUV hk]
  have:=h.pw k hk
  have e:∀ l:List AI,l.Pairwise (fun a b:AI=>a.1<b.1)↔(l.map (·.1)).Pairwise (·< ·):=fun l=>by rw[AG5]
  rw[e,AO5,←e];exact this
 ·rw[qS] at hk
  rw[AUV hk] at hi
  obtain⟨i',KM,rfl⟩:=DH.1 hi
  have:=h.e k hk i' KM
  split
  ·rename_i he
   exact⟨by rw[<-hj i' (LP.2 ⟨k,hk,KM⟩) he];exact this.1,hw⟩
  ·exact this
 ·rw[zY,AO5];exact h.nd
theorem AO6:i∈(rpl q j).flatten↔(i∈q.flatten/\i.1≠j.1)\/(i=j/\∃ i' ∈q.flatten,i'.1=j.1):=by
 rw[zY,DH]
 constructor
 ·rintro⟨i',KM,rfl⟩
  split
  ·rename_i h;exact .inr ⟨rfl,i',KM,h⟩
  ·rename_i h;exact .inl ⟨KM,h⟩
 ·rintro (⟨h1,h2⟩|⟨rfl,i',h1,h2⟩)
  ·exact⟨i,h1,by rw[AE h2]⟩
  ·exact⟨i',h1,by rw[AA h2]⟩
theorem AO7 {f:AI->Int} {j:AI}:∀ {xs:List AI} {k:Nat},(xs.map f).Nodup->k<xs.length->f (gl ((0,0,0,0,0):AI) xs k)=f j->xs.set k j=xs.map fun i=>if f i=f j then j else i
 | [],k,_,h,_=>by simp at h
 |a::r,0,hd,_,hn=>by
  obtain⟨h1,h2⟩:=VE.1 hd
  have hn' :f a=f j:=hn
  rw[AM1,JS,AA hn']
  congr 1
  conv=>lhs;rw[<-List.map_id r]
  refine W9 fun x hx=> ?_
  rw[AE (fun he=>h1 (by rw[hn',←he];exact DH.2 ⟨x,hx,rfl⟩))];rfl
 |a::r,k+1,hd,hk,hn=>by
  obtain⟨h1,h2⟩:=VE.1 hd
  have KA :k<r.length:=by simpa using hk
  have hn' :f (gl ((0,0,0,0,0):AI) r k)=f j:=hn
  have CW:f a≠f j:=fun he=>h1 (by rw[he,←hn'];exact DH.2 ⟨_,B3 KA,rfl⟩)
  rw[List.set_cons_succ,JS,AE CW,AO7 h2 KA hn']
theorem zZ (hq:q.length<=1000000) (hx:∀ x∈q,x.length<=1000000) (h:OkN q) (hi:i∈q.flatten) (hj:i.1=j.1) (hb:i.2.1=j.2.1):DO q j=some (rpl q j,0):=by
 obtain⟨hr,YE⟩:=h.row hi
 rw[hb] at hr YE
 rcases AI8 hq hx (j:=j) hr.1 hr.2 with ⟨h1,_⟩|⟨k,hk,hf,h2⟩
 ·exact absurd hj (h1 i YE)
 ·have DY:j.2.1.toNat<q.length:=by omega
  rw[h2,AO7 (f:=fun i:AI=>i.1) (AUT h.nd DY) hk hf]
  congr 2
  unfold rpl
  refine AUU (f:=fun x:List AI=>x.map fun i' =>if i'.1=j.1 then j else i') DY fun j' bQ CW=> ?_
  conv=>rhs;rw[<-List.map_id (gl [] q j')]
  refine W9 fun y hy=> ?_
  rw[AE]
  ·rfl
  ·intro he
   exact CW (AIN h.nd DY bQ YE hy (by rw[he,hj]))
def addr (q:Rows) (j:AI):Rows:=q.set j.2.1.toNat (gl [] q j.2.1.toNat++ [j])
theorem AIO (b1:j.2.1.toNat<q.length):i∈(addr q j).flatten↔i∈q.flatten\/i=j:=by
 have hg:∀ k,k<q.length->gl [] (addr q j) k=if k=j.2.1.toNat then gl [] q k++ [j] else gl [] q k:=by
  intro k hk
  unfold addr
  rw[DS b1]
  split
  ·rename_i h;rw[h]
  ·rfl
 have hl:(addr q j).length=q.length:=by unfold addr;rw[EG]
 rw[LP,LP,hl]
 constructor
 ·rintro⟨k,hk,hi⟩
  rw[hg k hk] at hi
  split at hi
  ·rcases FG.1 hi with hi|hi
   ·exact .inl ⟨k,hk,hi⟩
   ·exact .inr (GG.1 hi)
  ·exact .inl ⟨k,hk,hi⟩
 ·rintro (⟨k,hk,hi⟩|rfl)
  ·refine⟨k,hk, ?_⟩
   rw[hg k hk]
   split
   ·exact AA8 _ hi
   ·exact hi
  ·exact⟨_,b1,by rw[hg _ b1,AA rfl];simp⟩
theorem hZ (q:Rows) (j:AI):(addr q j).length=q.length:=by unfold addr;rw[EG]
theorem OkN.addr {q:Rows} (h:OkN q) {j:AI} (b0:0<=j.2.1) (b1:j.2.1<q.length) (hw:1<=j.2.2.2.2) (hj:∀ i∈q.flatten,i.1<j.1):OkN (addr q j):=by
 have hb:j.2.1.toNat<q.length:=by omega
 have hl:(Go.Proofs.YtokeceeccmgcmaaGreatDoor.addr q j).length=q.length:=hZ q j
 have hg:∀ k,k<q.length->gl [] (Go.Proofs.YtokeceeccmgcmaaGreatDoor.addr q j) k=if k=j.2.1.toNat then gl [] q k++ [j] else gl [] q k:=by
  intro k hk
  unfold Go.Proofs.YtokeceeccmgcmaaGreatDoor.addr
  rw[DS hb]
  split
  ·rename_i h;rw[h]
  ·rfl
 refine⟨fun k hk=> ?_,fun k hk i hi=> ?_, ?_⟩
 ·rw[hl] at hk
  rw[hg k hk]
  split
  ·rw[wY]
   refine⟨h.pw k hk,ALO _ _,fun a ha b UB => ?_⟩
   rw[GG.1 UB]
   exact hj a (LP.2 ⟨k,hk,ha⟩)
  ·exact h.pw k hk
 ·rw[hl] at hk
  rw[hg k hk] at hi
  split at hi
  ·rename_i he
   rcases FG.1 hi with hi|hi
   ·exact h.e k hk i hi
   ·rw[GG.1 hi];exact⟨by omega,hw⟩
  ·exact h.e k hk i hi
 ·have e1:(Go.Proofs.YtokeceeccmgcmaaGreatDoor.addr q j).flatten=(q.take j.2.1.toNat).flatten++((gl [] q j.2.1.toNat++ [j])++(q.drop (j.2.1.toNat+1)).flatten):=by
   rw[IS (Go.Proofs.YtokeceeccmgcmaaGreatDoor.addr q j) _ (by rw[hl];exact hb),hg _ hb,AA rfl]
   unfold Go.Proofs.YtokeceeccmgcmaaGreatDoor.addr
   rw[ARF (EH _),ARG (by omega)]
  have hn:=h.nd
  rw[IS q _ hb] at hn
  have hp:((q.take j.2.1.toNat).flatten++((gl [] q j.2.1.toNat++ [j])++(q.drop (j.2.1.toNat+1)).flatten)).Perm (j::((q.take j.2.1.toNat).flatten++(gl [] q j.2.1.toNat++(q.drop (j.2.1.toNat+1)).flatten))):=by
   rw[I0,ALS,←I0,←I0]
   exact List.perm_middle
  rw[e1]
  refine ((hp.map (·.1)).nodup_iff).2 ?_
  rw[JS,VE]
  refine⟨fun hm=> ?_,hn⟩
  rw[<-IS q _ hb] at hm
  obtain⟨i,hi,he⟩:=DH.1 hm
  have:=hj i hi
  omega
theorem AUW (hq:q.length<=1000000) (hx:∀ x∈q,x.length<=1000000) (b0:0<=j.2.1) (b1:j.2.1<q.length) (hj:∀ i∈q.flatten,i.1<j.1):F8 q j=some (addr q j,0):=
 AXP hq hx b0 b1 fun i hi=>hj i (LP.2 ⟨_,by omega,hi⟩)
end Go.Proofs.YtokeceeccmgcmaaGreatDoor
namespace Go.Proofs.YtokeceeccmgcmaaGreatDoor
open Go Go.V3
def Slot (s:Sp) (q:Rows) (y:Int):Prop:=∃ i∈q.flatten,∃ l os p a x j,OB s i l os p a x/\1<=j/\j<=x.1/\CM (sz s.1) l (p+j)=some y
def Rf (s:Sp) (q:Rows) (w:BitVec 64):Prop:=w=0#64\/IsO s q ((w.toNat:Int)-1)
structure HI (s:Sp) (q:Rows) (n:Int) (ss:Ss) (r:Ro):Prop where
 hb:HB s q
 seq:∀ i∈q.flatten,i.1<n
 n0:0<=n
 ref:∀ y,Slot s q y->Rf s q (gl 0#64 s.2.1 y.toNat)
 ro:bE r
 root:∀ i:Nat,i<32->gl false r.1 i=true->gl 0#64 r.2 i≠0#64/\IsO s q (((gl 0#64 r.2 i).toNat:Int)-1)
 rv:RV ss
 ins:∀ f g y,In ss f g y->Slot s q y/\f=y / sz s.1
 rem:∀ y,Slot s q y->∀ f g,Pr s y (gl 0#64 s.2.1 y.toNat) f g->In ss f g y
variable {ws:List (BitVec 64)} {s:Sp}
theorem VS.words (h:VS s) (hl:ws.length=s.2.1.length) (hz:∀ y:Int,0<=y->y<s.2.1.length->(Go.V3.fr s.2.2 (y / sz s.1)).1= -1->gl 0#64 ws y.toNat=gl 0#64 s.2.1 y.toNat):VS (s.1,ws,s.2.2):=by
 refine⟨h.sh,h.n,by simp only;rw[hl];exact h.w,fun i i0 i1=> ?_,h.inj,h.acy⟩
 rcases h.fr i i0 i1 with ⟨h1,h2⟩|h1
 ·refine .inl ⟨h1,fun a a0 a1=> ?_⟩
  simp only at a0 a1 ⊢
  have z:=BU s.1
  have e1:(a:Int) / sz s.1=i:=by
   refine Int.le_antisymm (Int.lt_add_one_iff.1 ((AFS z).2 a1)) ((AD9 z).2 a0)
  have h3:(i+1)*sz s.1<=s.2.2.length*sz s.1:=rE (by simp only at i1;omega) (by omega)
  have h4:=hz a (by omega) (by rw[h.w];omega) (by
   rw[e1]
   have:Go.V3.fr s.2.2 i=(-1, -1, -1):=h1
   rw[this])
  rw[HM] at h4
  rw[h4]
  exact h2 a a0 a1
 ·exact .inr h1
theorem TA.app {p:Int} {x:Int×Int}:∀ {os m:List (Int×Int)} {a:Int},TA a os p x->TA a (os++m) p x
 | [],m,a,h=>h.elim
 |o::r,m,a,h=>by
  rcases h with h|h
  ·exact .inl h
  ·exact .inr h.app
structure P9 (R:Int->Prop) (s0:Sp) (q:Rows) (n:Int) (ss:Ss) (r:Ro) (l:List AI) (CB:AI) (l0:List Int) (DL:List (Int×Int)) (t:Sp) (to:AI) (lb:List Int) (m mv:List (Int×Int)) (ys:List Int) (ws:List (BitVec 64)) (r' :Ro):Prop where
 hi:HI s0 q n ss r
 pre:∀ i∈l,∀ j∈q.flatten,j∉l->i.2.1*4294967296+i.1<j.2.1*4294967296+j.1
 qT:CB∈q.flatten\/(CB.1=n/\CB.2.2.2.2=0/\0<=CB.2.1/\CB.2.1<q.length)
 cd:Cd s0 q l CB l0 DL
 ci:CI R s0 q l CB l0 DL t to lb m mv mv.length 0
 yi:∀ y,y∈ys↔InF ss (zW s0 (AV l) s0.2.2.length) y/\(0<=y/\y<s0.2.1.length)/\Wn (AV l) s0 (gl 0#64 s0.2.1 y.toNat)
 wl:ws.length=s0.2.1.length
 w1:∀ y∈ys,Im s0 (AV l) mv (gl 0#64 s0.2.1 y.toNat) (gl 0#64 ws y.toNat)
 w2:∀ y:Int,0<=y->y∉ys->gl 0#64 ws y.toNat=gl 0#64 t.2.1 y.toNat
 ru:r'.1=r.1
 rl:r'.2.length=r.2.length
 r1:∀ i:Nat,i<32->gl false r.1 i=true->Im s0 (AV l) mv (gl 0#64 r.2 i) (gl 0#64 r'.2 i)
 r2:∀ i:Nat,i<32->gl false r.1 i=false->gl 0#64 r'.2 i=gl 0#64 r.2 i
structure Sin (s0:Sp) (ss:Ss) (l:List AI) (DL:List (Int×Int)) (t:Sp) (to:AI) (lb:List Int) (m mv:List (Int×Int)) (ys:List Int) (ws:List (BitVec 64)) (W8 :Ss):Prop where
 srv:RV W8
 sin:∀ f g y,In W8 f g y↔In (qJ ss (zW s0 (AV l) s0.2.2.length)) f g y\/((y∈ys\/∃ k,k<mv.length/\∃ p x j,OB t to lb (DL++m) p (gl (0,0) mv k).2 x/\1<=j/\j<=x.1/\CM (sz s0.1) lb (p+j)=some y)/\Pr (t.1,ws,t.2.2) y (gl 0#64 ws y.toNat) f g)
def ZY (q:Rows) (l:List AI) (CB to:AI):Rows:=if CB.2.2.2.2>0 then rpl (mD q (AV l)) to else if to.2.2.2.2>0 then addr (mD q (AV l)) to else mD q (AV l)
section
variable {R:Int->Prop} {s0:Sp} {q:Rows} {n:Int} {ss:Ss} {r:Ro} {l:List AI} {CB:AI} {l0:List Int} {DL:List (Int×Int)} {t:Sp} {to:AI} {lb:List Int} {m mv:List (Int×Int)} {ys:List Int} {ws:List (BitVec 64)} {r' :Ro}
variable {i:AI}
theorem P9.lI (h:P9 R s0 q n ss r l CB l0 DL t to lb m mv ys ws r') (hi:i∈q.flatten):i∉l↔i.1∉AV l:=by
 constructor
 ·intro h1 h2
  obtain⟨j,hj,he⟩:=FC.1 h2
  rw[h.hi.hb.uniq (h.cd.sub j hj) hi he] at hj
  exact h1 hj
 ·intro h1 h2
  exact h1 (FC.2 ⟨i,h2,rfl⟩)
theorem P9.mem (h:P9 R s0 q n ss r l CB l0 DL t to lb m mv ys ws r') :i∈(ZY q l CB to).flatten↔(i∈q.flatten/\i∉l/\i.1≠CB.1)\/(i=to/\0<to.2.2.2.2):=by
 have AIP:=h.ci.seq
 have z5:=h.ci.XK
 have Z0:=h.ci.wd
 unfold ZY
 by_cases h1:CB.2.2.2.2>0
 ·rw[AA h1,AO6]
  have ht:CB∈q.flatten:=by
   rcases h.qT with ht|ht
   ·exact ht
   ·omega
  rw[AIP]
  constructor
  ·rintro (⟨h2,h3⟩|⟨rfl,_⟩)
   ·obtain⟨h4,h5⟩:=PA.1 h2
    exact .inl ⟨h4,(h.lI h4).2 h5,h3⟩
   ·exact .inr ⟨rfl,by omega⟩
  ·rintro (⟨h2,h3,h4⟩|⟨rfl,h2⟩)
   ·exact .inl ⟨PA.2 ⟨h2,(h.lI h2).1 h3⟩,h4⟩
   ·exact .inr ⟨rfl,CB,PA.2 ⟨ht,h.cd.out⟩,rfl⟩
 ·have XS:∀ i∈q.flatten,i.1≠CB.1:=by
   intro i hi he
   rcases h.qT with ht|ht
   ·have:=(h.hi.hb.fit ht).2;omega
   ·have:=h.hi.seq i hi;omega
  rw[AE h1]
  by_cases h2:to.2.2.2.2>0
  ·rw[AA h2,AIO]
   ·constructor
    ·rintro (h3|rfl)
     ·obtain⟨h4,h5⟩:=PA.1 h3
      exact .inl ⟨h4,(h.lI h4).2 h5,XS i h4⟩
     ·exact .inr ⟨rfl,h2⟩
    ·rintro (⟨h3,h4,_⟩|⟨rfl,_⟩)
     ·exact .inl (PA.2 ⟨h3,(h.lI h3).1 h4⟩)
     ·exact .inr rfl
   ·rw[O_,z5]
    rcases h.qT with ht|ht
    ·have:=(h.hi.hb.fit ht).2;omega
    ·omega
  ·rw[AE h2,PA]
   constructor
   ·rintro⟨h4,h5⟩
    exact .inl ⟨h4,(h.lI h4).2 h5,XS i h4⟩
   ·rintro (⟨h3,h4,_⟩|⟨rfl,h3⟩)
    ·exact⟨h3,(h.lI h3).1 h4⟩
    ·omega
variable {y:Int}
theorem P9.ysl (h:P9 R s0 q n ss r l CB l0 DL t to lb m mv ys ws r') (hy:y∈ys):∃ i∈q.flatten,i∉l/\∃ la os p a x j,OB s0 i la os p a x/\1<=j/\j<=x.1/\CM (sz s0.1) la (p+j)=some y:=by
 obtain⟨⟨f,g,h1,h2,h3⟩,_,_⟩:=(h.yi y).1 hy
 obtain⟨⟨i,hi,la,os,p,a,x,j,o,j1,j2,ha⟩,hf⟩:=h.hi.ins f g y h1
 refine⟨i,hi, ?_,la,os,p,a,x,j,o,j1,j2,ha⟩
 rw[h.lI hi]
 intro hC
 have hr:=CH h.hi.hb.bv.vs (h.hi.hb.fit hi).1 o.has (by have:=o.IA;omega) ha
 exact h3 (bF.2 ⟨by rw[hf];exact hr.2.2.1,by rw[hf,hr.2.2.2.1];exact hC⟩)
theorem P9.frt (h:P9 R s0 q n ss r l CB l0 DL t to lb m mv ys ws r') {x:Int} (x0:0<=x) (x1:x<s0.2.2.length) (h1:(fr s0.2.2 x).1≠-1):(fr t.2.2 x).1=(fr s0.2.2 x).1:=by
 by_cases h2:(fr s0.2.2 x).1=CB.1
 ·rw[h.ci.fr2 x x0 x1 h2,h2]
 ·rw[h.ci.fr3 x x0 x1 h1 h2]
theorem P9.vsT (h:P9 R s0 q n ss r l CB l0 DL t to lb m mv ys ws r'):VS (t.1,ws,t.2.2):=by
 refine VS.words h.ci.cy.vs (by rw[h.wl,h.ci.wl]) fun y y0 y1 hf=>h.w2 y y0 fun hy=> ?_
 obtain⟨i,hi,_,la,os,p,a,x,j,o,j1,j2,ha⟩:=h.ysl hy
 have hr:=CH h.hi.hb.bv.vs (h.hi.hb.fit hi).1 o.has (by have:=o.IA;omega) ha
 have hi0:=(h.hi.hb.fit hi).1.1.1
 have:=h.frt hr.2.2.1.1 hr.2.2.1.2 (by rw[hr.2.2.2.1];omega)
 rw[h.ci.sh] at hf
 rw[hf,hr.2.2.2.1] at this
 omega
def OS (t:Sp) (ws:List (BitVec 64)) (l:List AI):Sp:=gvs (t.1,ws,t.2.2) (AV l)
theorem P9.aft (h:P9 R s0 q n ss r l CB l0 DL t to lb m mv ys ws r'):VS (OS t ws l)/\(OS t ws l).1=s0.1/\(OS t ws l).2.1.length=s0.2.1.length/\(OS t ws l).2.2.length=s0.2.2.length∧
  (∀ x:Int,0<=x->x<s0.2.2.length->fr (OS t ws l).2.2 x=if (fr t.2.2 x).1∈AV l then (-1, -1, -1) else fr t.2.2 x)∧
  (∀ y:Int,0<=y->y<s0.2.1.length->gl 0#64 (OS t ws l).2.1 y.toNat=if (fr t.2.2 (y / sz s0.1)).1∈AV l then 0#64 else gl 0#64 ws y.toNat):=by
 obtain⟨h1,h2,h3,h4,h5,h6⟩:=ALD (C:=AV l) h.vsT h.cd.nn
 simp only at h2 h3 h4 h5 h6
 have hz:sz t.1=sz s0.1:=by rw[h.ci.sh]
 rw[hz] at h6
 rw[h.wl] at h3 h6
 rw[h.ci.fl] at h4 h5
 exact⟨h1,h2.trans h.ci.sh,h3,h4,h5,h6⟩
theorem P9.smO (h:P9 R s0 q n ss r l CB l0 DL t to lb m mv ys ws r') (hi:i∈q.flatten) (hl:i∉l) (CW:i.1≠CB.1):Sm s0 (OS t ws l) i.1:=by
 obtain⟨h1,h2,h3,h4,h5,h6⟩:=h.aft
 have hi0:=(h.hi.hb.fit hi).1.1.1
 have hC:=(h.lI hi).1 hl
 refine⟨h2,h3,h4,fun x x0 x1 hh=> ?_⟩
 have e5:=h5 x x0 x1
 rcases hh with hh|hh
 ·have e1:=h.ci.fr3 x x0 x1 (by rw[hh];omega) (by rw[hh];exact CW)
  rw[e5,AE (by rw[e1,hh];exact hC),e1]
 ·rw[e5] at hh ⊢
  split at hh
  ·simp only at hh;omega
  ·rename_i h7
   rw[AE h7]
   exact h.ci.fr1 x x0 x1 (by rw[hh];exact CW)
theorem P9.smT (h:P9 R s0 q n ss r l CB l0 DL t to lb m mv ys ws r'):Sm t (OS t ws l) to.1:=by
 obtain⟨h1,h2,h3,h4,h5,h6⟩:=h.aft
 have hi0:=h.ci.cy.fit.1.1
 refine⟨by rw[h2,h.ci.sh],by rw[h3,h.ci.wl],by rw[h4,h.ci.fl],fun x x0 x1 hh=> ?_⟩
 rw[h.ci.fl] at x1
 have e5:=h5 x x0 x1
 rcases hh with hh|hh
 ·rw[e5,AE (by rw[hh];exact h.ci.cy.out)]
 ·rw[e5] at hh ⊢
  split at hh
  ·simp only at hh;omega
  ·rename_i h7
   rw[AE h7]
variable {p:Int} {la:List Int}
theorem P9.wO (h:P9 R s0 q n ss r l CB l0 DL t to lb m mv ys ws r') (hi:i∈q.flatten) (hl:i∉l) (hla:Has s0 i la) (p0:0<=p) (p1:p<i.2.2.2.2) (hy:CM (sz s0.1) la p=some y) (hny:y∉ys):
  gl 0#64 (OS t ws l).2.1 y.toNat=gl 0#64 s0.2.1 y.toNat:=by
 obtain⟨h1,h2,h3,h4,h5,h6⟩:=h.aft
 have hf:=h.hi.hb.fit hi
 have hr:=CH h.hi.hb.bv.vs hf.1 hla p0 hy
 have hC:=(h.lI hi).1 hl
 have hi0:=hf.1.1.1
 have ho:=h.frt hr.2.2.1.1 hr.2.2.1.2 (by rw[hr.2.2.2.1];omega)
 rw[hr.2.2.2.1] at ho
 rw[h6 y hr.1.1 hr.1.2,AE (by rw[ho];exact hC),h.w2 y hr.1.1 hny]
 by_cases CW:i.1=CB.1
 ·rcases h.qT with ht|ht
  ·obtain rfl:=h.hi.hb.uniq hi ht CW
   obtain rfl:=K_ hla h.cd.has
   exact h.ci.wd3 p y p0 p1 hy
  ·have:=h.hi.seq i hi;omega
 ·refine h.ci.wd1 y hr.1.1 hr.1.2 (by rw[hr.2.2.2.1];omega) (by rw[hr.2.2.2.1];exact CW) fun hm=> ?_
  obtain⟨z',hz,he⟩:=DH.1 hm
  obtain⟨k,hk,rfl⟩:=EF (d:=((0,0):Int×Int)) hz
  obtain⟨i',la',oa',pa',p',cc⟩:=h.ci.uT k hk
  have h7:=h.cd.W2 cc.inl cc.src.has cc.src.IA.2.2.1 cc.src.FZ
  rw[he] at h7
  rw[h7.2.2.1] at hr
  exact hC (by rw[<-hr.2.2.2.1];exact h7.2.2.2.1)
variable {x:Int×Int} {a:Int} {os:List (Int×Int)}
theorem P9.head (h:P9 R s0 q n ss r l CB l0 DL t to lb m mv ys ws r') (hi:i∈q.flatten) (o:OB s0 i la os p a x):a∉ys:=by
 intro hy
 obtain⟨i',KM,_,la',rC,p',a',x',j,o',j1,j2,ha⟩:=h.ysl hy
 have r1:=o.IA
 have r2:=o'.IA
 have c1:=CH h.hi.hb.bv.vs (h.hi.hb.fit hi).1 o.has r1.2.2.1 o.FZ
 have c2:=CH h.hi.hb.bv.vs (h.hi.hb.fit KM).1 o'.has (by omega) ha
 obtain rfl:=h.hi.hb.uniq hi KM (by rw[<-c1.2.2.2.1,←c2.2.2.2.1])
 obtain⟨rfl,rfl⟩:=LA o.has o.Q2 o'
 have:=F9 (BU s0.1) (YP o.has) r1.2.2.1 (by omega) o.FZ ha
 rcases o.Q2.apart o.ta o'.ta with ⟨h3,_⟩|h3|h3 <;> omega
theorem P9.obO (h:P9 R s0 q n ss r l CB l0 DL t to lb m mv ys ws r') (hi:i∈q.flatten) (hl:i∉l) (CW:i.1≠CB.1) (hla:Has s0 i la) (htl:DK (sz s0.1) s0.2.1 la 0 os i.2.2.2.2) :
  OB s0 i la os p a x↔OB (OS t ws l) i la os p a x:=by
 have hs:=h.smO hi hl CW
 have hv:=h.hi.hb.bv.vs
 have hf:=(h.hi.hb.fit hi).1
 have hw:∀ p x a,TA 0 os p x->CM (sz s0.1) la p=some a->gl 0#64 (OS t ws l).2.1 a.toNat=gl 0#64 s0.2.1 a.toNat:=by
  intro p x a hp ha
  have ho:OB s0 i la os p a x:=⟨hla,htl,hp,ha⟩
  have hr:=ho.IA
  exact h.wO hi hl hla hr.2.2.1 (by omega) ha (h.head hi ho)
 constructor
 ·exact fun o=>hs.ob hv hf hw o
 ·intro o
  exact⟨hla,htl,o.ta,by have:=o.FZ;rw[hs.sh] at this;exact this⟩
theorem P9.wT (h:P9 R s0 q n ss r l CB l0 DL t to lb m mv ys ws r') (p0:0<=p) (hy:CM (sz s0.1) lb p=some y):(0<=y/\y<s0.2.1.length)/\gl 0#64 (OS t ws l).2.1 y.toNat=gl 0#64 ws y.toNat:=by
 obtain⟨h1,h2,h3,h4,h5,h6⟩:=h.aft
 have hr:=CH h.ci.cy.vs h.ci.cy.fit h.ci.has p0 (by rw[h.ci.sh];exact hy)
 rw[h.ci.sh,h.ci.wl] at hr
 exact⟨hr.1,by rw[h6 y hr.1.1 hr.1.2,AE (by rw[hr.2.2.2.1];exact h.ci.cy.out)]⟩
theorem P9.yT (h:P9 R s0 q n ss r l CB l0 DL t to lb m mv ys ws r') (p0:0<=p) (hy:CM (sz s0.1) lb p=some y) (hm:y∈ys):CB∈q.flatten/\∃ p' a x j,OB s0 CB l0 DL p' a x/\1<=j/\j<=x.1/\p=p' +j:=by
 obtain⟨i',KM,lU,la',rC,p',a',x',j,o',j1,j2,ha⟩:=h.ysl hm
 have r2:=o'.IA
 have hf:=(h.hi.hb.fit KM).1
 have c2:=CH h.hi.hb.bv.vs hf o'.has (by omega) ha
 have hr:=CH h.ci.cy.vs h.ci.cy.fit h.ci.has p0 (by rw[h.ci.sh];exact hy)
 rw[h.ci.sh] at hr
 have ho:=h.frt c2.2.2.1.1 c2.2.2.1.2 (by rw[c2.2.2.2.1];have:=hf.1.1;omega)
 rw[c2.2.2.2.1,hr.2.2.2.1,h.ci.seq] at ho
 rcases h.qT with ht|ht
 ·obtain rfl:=h.hi.hb.uniq ht KM ho
  obtain⟨rfl,rfl⟩:=LA h.cd.has h.cd.Q2 o'
  obtain⟨r0,vG⟩:=h.ci.pre
  have h7:CM (sz s0.1) lb (p' +j)=some y:=by rw[vG];exact CK ha
  exact⟨ht,p',a',x',j,o',j1,j2,F9 (BU s0.1) (YP h.ci.has) p0 (by omega) hy h7⟩
 ·have:=h.hi.seq i' KM;omega
theorem P9.AUX (h:P9 R s0 q n ss r l CB l0 DL t to lb m mv ys ws r') (hp:TA 0 (DL++m) p x) (ha:CM (sz s0.1) lb p=some a):gl 0#64 (OS t ws l).2.1 a.toNat=gl 0#64 t.2.1 a.toNat:=by
 have hr:=h.ci.Q2.ta hp
 obtain⟨h1,h2⟩:=h.wT hr.2.2.1 ha
 rw[h2]
 refine h.w2 a h1.1 fun hm=> ?_
 obtain⟨_,p',a',x',j,o',j1,j2,he⟩:=h.yT hr.2.2.1 ha hm
 have:=o'.IA
 rcases h.ci.Q2.apart hp (TA.app (m:=m) o'.ta) with ⟨h3,_⟩|h3|h3 <;> omega
theorem P9.obT (h:P9 R s0 q n ss r l CB l0 DL t to lb m mv ys ws r') :OB t to lb (DL++m) p a x↔OB (OS t ws l) to lb (DL++m) p a x:=by
 have hs:=h.smT
 have hz:sz t.1=sz s0.1:=by rw[h.ci.sh]
 constructor
 ·exact fun o=>hs.ob h.ci.cy.vs h.ci.cy.fit (fun p x a hp ha=>h.AUX hp (by rw[<-hz];exact ha)) o
 ·intro o
  exact⟨h.ci.has,by rw[hz];exact h.ci.Q2,o.ta,by have:=o.FZ;rw[hs.sh] at this;exact this⟩
end
end Go.Proofs.YtokeceeccmgcmaaGreatDoor
namespace Go.Proofs.YtokeceeccmgcmaaGreatDoor
open Go Go.V3
section
variable {R:Int->Prop} {s0:Sp} {q:Rows} {n:Int} {ss:Ss} {r:Ro} {l:List AI} {CB:AI} {l0:List Int} {DL:List (Int×Int)} {t:Sp} {to:AI} {lb:List Int} {m mv:List (Int×Int)} {ys:List Int} {ws:List (BitVec 64)} {r' :Ro}
theorem P9.okN (h:P9 R s0 q n ss r l CB l0 DL t to lb m mv ys ws r'):OkN (ZY q l CB to)/\(ZY q l CB to).length=q.length:=by
 have hq:=(GF.1 h.hi.hb.bv.ok).1
 have hr:=hq.mD (AV l)
 have AIP:=h.ci.seq
 have z5:=h.ci.XK
 have Z0:=h.ci.wd
 unfold ZY
 by_cases h1:CB.2.2.2.2>0
 ·rw[AA h1,qS,O_]
  refine⟨hr.rpl (fun i hi he=> ?_) (by omega),rfl⟩
  have ht:CB∈q.flatten:=by
   rcases h.qT with ht|ht
   ·exact ht
   ·omega
  rw[AIP] at he
  rw[h.hi.hb.uniq (PA.1 hi).1 ht he,z5]
 ·rw[AE h1]
  by_cases h2:to.2.2.2.2>0
  ·rw[AA h2,hZ,O_]
   rcases h.qT with ht|ht
   ·have:=(h.hi.hb.fit ht).2;omega
   ·refine⟨hr.addr (by omega) (by rw[O_];omega) (by omega) fun i hi=> ?_,rfl⟩
    have:=h.hi.seq i (PA.1 hi).1
    omega
  ·rw[AE h2,O_];exact⟨hr,rfl⟩
variable {x:Int×Int} {a p:Int}
theorem P9.A2F (h:P9 R s0 q n ss r l CB l0 DL t to lb m mv ys ws r') (o:OB s0 CB l0 DL p a x):OB t to lb (DL++m) p a x:=by
 obtain⟨r0,vG⟩:=h.ci.pre
 have hz:sz t.1=sz s0.1:=by rw[h.ci.sh]
 exact⟨h.ci.has,by rw[hz];exact h.ci.Q2,TA.app o.ta,by rw[hz,vG];exact CK o.FZ⟩
variable {i:AI}
theorem P9.AY0 (h:P9 R s0 q n ss r l CB l0 DL t to lb m mv ys ws r') (hi:i∈q.flatten) (he:i.1=CB.1):i=CB/\CB∈q.flatten:=by
 rcases h.qT with ht|ht
 ·exact⟨h.hi.hb.uniq hi ht he,ht⟩
 ·have:=h.hi.seq i hi;omega
variable {os:List (Int×Int)}
theorem P9.AY1 (h:P9 R s0 q n ss r l CB l0 DL t to lb m mv ys ws r') {lc:List Int} (o:OB t to lc os p a x):to∈(ZY q l CB to).flatten:=by
 have:=o.IA
 exact h.mem.2 (.inr ⟨rfl,by omega⟩)
theorem P9.CQ (h:P9 R s0 q n ss r l CB l0 DL t to lb m mv ys ws r') {k:AI} (hk:k∈q.flatten) (xK:k∉l) (o:Obj s0 k p a x):IsO (OS t ws l) (ZY q l CB to) a:=by
 obtain⟨la,os,o⟩:=o
 by_cases CW:k.1=CB.1
 ·obtain⟨rfl,ht⟩:=h.AY0 hk CW
  obtain⟨rfl,rfl⟩:=LA h.cd.has h.cd.Q2 o
  have o2:=h.A2F o
  exact⟨to,h.AY1 o2,p,x,_,_,h.obT.1 o2⟩
 ·exact⟨k,h.mem.2 (.inl ⟨hk,xK,CW⟩),p,x,la,os,(h.obO hk xK CW o.has o.Q2).1 o⟩
variable {b:Int}
theorem P9.new (h:P9 R s0 q n ss r l CB l0 DL t to lb m mv ys ws r') (hm:(a,b)∈mv):IsO (OS t ws l) (ZY q l CB to) b/\0<=b/\b<=16383:=by
 obtain⟨k,hk,MZ⟩:=EF (d:=((0,0):Int×Int)) hm
 obtain⟨i',la',oa',pa',p',cc⟩:=h.ci.uT k hk
 have o:=cc.dst
 rw[MZ] at o
 have hr:=CH h.ci.cy.vs h.ci.cy.fit h.ci.has o.IA.2.2.1 o.FZ
 have:=VS.IK h.ci.cy.vs
 exact⟨⟨to,h.AY1 o,_,_,_,_,h.obT.1 o⟩,by omega,by omega⟩
variable {v w:BitVec 64}
theorem P9.im (h:P9 R s0 q n ss r l CB l0 DL t to lb m mv ys ws r') (hw:Rf s0 q w) (hi:Im s0 (AV l) mv w v):(v=0#64↔w=0#64)/\Rf (OS t ws l) (ZY q l CB to) v:=by
 rcases hi with ⟨h1,rfl⟩|⟨h1,b,h2,rfl⟩
 ·refine⟨Iff.rfl, ?_⟩
  rcases hw with hw|⟨k,hk,p,x,o⟩
  ·exact .inl hw
  ·by_cases h0:v=0#64
   ·exact .inl h0
   refine .inr (h.CQ hk (fun xK=>h1 ?_) o)
   have hr:=o.FZ h.hi.hb.bv.vs (h.hi.hb.fit hk).1
   exact⟨h0,by omega,by rw[hr.2.2.1];exact FC.2 ⟨k,xK,rfl⟩⟩
 ·obtain⟨h3,b0,b1⟩:=h.new h2
  have e:(BitVec.ofInt 64 b+1#64).toNat=b.toNat+1:=by
   rw[ABF,jK]
   have:(1#64).toNat=1:=rfl
   omega
  refine⟨⟨fun h0=> ?_,fun h0=>absurd h0 h1.1⟩,.inr ?_⟩
  ·rw[h0] at e
   have:(0#64).toNat=0:=rfl
   omega
  ·rw[e,show (((b.toNat+1:Nat):Int))-1=b by omega]
   exact h3
variable {y:Int} {la:List Int}
theorem P9.A56 (h:P9 R s0 q n ss r l CB l0 DL t to lb m mv ys ws r') (hi:i∈q.flatten) (hl:i∉l) {j:Int} (o:OB s0 i la os p a x) (j1:1<=j) (j2:j<=x.1) (hy:CM (sz s0.1) la (p+j)=some y) (hw:Wn (AV l) s0 (gl 0#64 s0.2.1 y.toNat)):y∈ys:=by
 have hv:=h.hi.hb.bv.vs
 have hf:=(h.hi.hb.fit hi).1
 have hr:=CH hv hf o.has (by have:=o.IA;omega) hy
 have Q8:Slot s0 q y:=⟨i,hi,la,os,p,a,x,j,o,j1,j2,hy⟩
 have hC:=(h.lI hi).1 hl
 rcases h.hi.ref y Q8 with h0|⟨k,hk,p',x',o'⟩
 ·exact absurd h0 hw.1
 have nY :=o'.FZ hv (h.hi.hb.fit hk).1
 have hkC:k.1∈AV l:=by rw[<-nY.2.2.1];exact hw.2.2
 have xK:k∈l:=AB7 fun hn=>(h.lI hk).1 hn hkC
 have hi0:=hf.1.1
 have hk0:=(h.hi.hb.fit hk).1.1.1
 have DY:=h.pre k xK i hi hl
 have hp:Pr s0 y (gl 0#64 s0.2.1 y.toNat) (y / sz s0.1) ((((gl 0#64 s0.2.1 y.toNat).toNat:Int)-1) / sz s0.1):=
  ⟨hw.1,hw.2.1,rfl,rfl,by rw[hr.2.2.2.1];omega,by rw[nY.2.2.1];omega,by rw[hr.2.2.2.2,nY.2.2.2];exact DY⟩
 exact (h.yi y).2 ⟨⟨_,_,h.hi.rem y Q8 _ _ hp,bF.2 ⟨nY.2.1,hw.2.2⟩,fun hm=>hC (by rw[<-hr.2.2.2.1];exact (bF.1 hm).2)⟩,hr.1,hw⟩
theorem P9.AZV (h:P9 R s0 q n ss r l CB l0 DL t to lb m mv ys ws r') (hi:i∈q.flatten) (hl:i∉l) {j:Int} (o:OB s0 i la os p a x) (j1:1<=j) (j2:j<=x.1) (hy:CM (sz s0.1) la (p+j)=some y):Slot (OS t ws l) (ZY q l CB to) y:=by
 have XU:sz (OS t ws l).1=sz s0.1:=by rw[h.aft.2.1]
 by_cases CW:i.1=CB.1
 ·obtain⟨rfl,ht⟩:=h.AY0 hi CW
  obtain⟨rfl,rfl⟩:=LA h.cd.has h.cd.Q2 o
  have o2:=h.A2F o
  obtain⟨r0,vG⟩:=h.ci.pre
  exact⟨to,h.AY1 o2,lb,_,p,a,x,j,h.obT.1 o2,j1,j2,by rw[XU,vG];exact CK hy⟩
 ·exact⟨i,h.mem.2 (.inl ⟨hi,hl,CW⟩),la,os,p,a,x,j,(h.obO hi hl CW o.has o.Q2).1 o,j1,j2,by rw[XU];exact hy⟩
theorem P9.ACY (h:P9 R s0 q n ss r l CB l0 DL t to lb m mv ys ws r') (hy:Slot (OS t ws l) (ZY q l CB to) y):
  (∃ i∈q.flatten,i∉l/\∃ la os p a x j,OB s0 i la os p a x/\1<=j/\j<=x.1/\CM (sz s0.1) la (p+j)=some y)∨
  (y∉ys/\(∃ k,k<mv.length/\∃ p x j,OB t to lb (DL++m) p (gl (0,0) mv k).2 x/\1<=j/\j<=x.1/\CM (sz s0.1) lb (p+j)=some y)/\∃ ya,Slot s0 q ya/\Im s0 (AV l) mv (gl 0#64 s0.2.1 ya.toNat) (gl 0#64 t.2.1 y.toNat)):=by
 have XU:sz (OS t ws l).1=sz s0.1:=by rw[h.aft.2.1]
 have hz:sz t.1=sz s0.1:=by rw[h.ci.sh]
 obtain⟨i,hi,la,os,p,a,x,j,o,j1,j2,ha⟩:=hy
 rw[XU] at ha
 rcases h.mem.1 hi with ⟨hi,hl,CW⟩|⟨rfl,hw⟩
 ·obtain⟨os1,la1,AIQ,AQD⟩:=h.hi.hb.full i hi
  have hs:=h.smO hi hl CW
  have hf:=(h.hi.hb.fit hi).1
  have htS:DK (sz (OS t ws l).1) (OS t ws l).2.1 la1 0 os1 i.2.2.2.2:=hs.uU AQD fun p x a hp ha=>by
   have o1:OB s0 i la1 os1 p a x:=⟨AIQ,AQD,hp,ha⟩
   have hr:=o1.IA
   exact h.wO hi hl AIQ hr.2.2.1 (by omega) ha (h.head hi o1)
  obtain⟨rfl,rfl⟩:=LA (hs.has h.hi.hb.bv.vs hf AIQ) htS o
  exact .inl ⟨i,hi,hl,la,os,p,a,x,j,(h.obO hi hl CW AIQ AQD).2 o,j1,j2,ha⟩
 ·have hs:=h.smT
  have htS:DK (sz (OS t ws l).1) (OS t ws l).2.1 lb 0 (DL++m) i.2.2.2.2:=hs.uU (by rw[hz];exact h.ci.Q2) fun p x a hp ha=>h.AUX hp (by rw[<-hz];exact ha)
  obtain⟨rfl,rfl⟩:=LA (hs.has h.ci.cy.vs h.ci.cy.fit h.ci.has) htS o
  have ot:=h.obT.2 o
  have hro:=ot.IA
  rcases h.ci.cov p x ot.ta with h1|⟨h1,k,hk,h2⟩
  ·have h3:=h.cd.Q2.ta h1
   have ht:CB∈q.flatten:=by
    rcases h.qT with ht|ht
    ·exact ht
    ·omega
   obtain⟨y1,hy1⟩:=tD h.hi.hb.bv.vs h.cd.fit h.cd.has (p:=p+j) (by omega) (by omega)
   obtain⟨a1,ha1,_⟩:=h3.2.1
   obtain⟨r0,vG⟩:=h.ci.pre
   have h4:CM (sz s0.1) la (p+j)=some y1:=by rw[vG];exact CK hy1
   rw[ha] at h4
   obtain rfl:=HO h4
   have hl:CB∉l:=(h.lI ht).2 h.cd.out
   exact .inl ⟨CB,ht,hl,l0,DL,p,a1,x,j,⟨h.cd.has,h.cd.Q2,h1,ha1⟩,j1,j2,hy1⟩
  ·have xV:a=(gl (0,0) mv k).2:=by
    have h3:=ot.FZ
    rw[hz,h2] at h3
    exact (HO h3).symm
   subst xV
   refine .inr ⟨fun hm=> ?_,⟨k,hk,p,x,j,ot,j1,j2,ha⟩, ?_⟩
   ·obtain⟨_,p',a',x',j',o',k1,k2,he⟩:=h.yT (by omega) ha hm
    have:=o'.IA
    omega
   ·obtain⟨i',la',oa',pa',p',cc⟩:=h.ci.uT k hk
    obtain rfl:p' =p:=h.ci.same cc hro.2.2.1 h2
    have hx:gl (0,0) m k=x:=by
     rcases h.ci.Q2.apart cc.dst.ta ot.ta with ⟨_,h4⟩|h4|h4
     ·exact h4
     ·have:=cc.dst.IA;omega
     ·omega
    rw[hx] at cc
    have hrs:=cc.src.IA
    obtain⟨ya,nZ⟩:=cc.src.vN h.hi.hb.bv.vs (h.hi.hb.fit (h.cd.sub _ cc.inl)).1 (k:=j) (by omega) (by omega)
    exact⟨ya,⟨i',h.cd.sub _ cc.inl,la',oa',pa',_,x,j,cc.src,j1,j2,nZ⟩,(cc.wds j j1 (by omega) ya y nZ ha).1 ⟨j2,.inl hk⟩⟩
theorem P9.word (h:P9 R s0 q n ss r l CB l0 DL t to lb m mv ys ws r') (hy:Slot (OS t ws l) (ZY q l CB to) y):(0<=y/\y<s0.2.1.length)/\gl 0#64 (OS t ws l).2.1 y.toNat=gl 0#64 ws y.toNat:=by
 obtain⟨h1,h2,h3,h4,h5,h6⟩:=h.aft
 rcases h.ACY hy with ⟨i,hi,hl,la,os,p,a,x,j,o,j1,j2,ha⟩|⟨_,⟨k,hk,p,x,j,o,j1,j2,ha⟩,_⟩
 ·have hf:=h.hi.hb.fit hi
  have hr:=CH h.hi.hb.bv.vs hf.1 o.has (by have:=o.IA;omega) ha
  have ho:=h.frt hr.2.2.1.1 hr.2.2.1.2 (by rw[hr.2.2.2.1];have:=hf.1.1;omega)
  rw[hr.2.2.2.1] at ho
  exact⟨hr.1,by rw[h6 y hr.1.1 hr.1.2,AE (by rw[ho];exact (h.lI hi).1 hl)]⟩
 ·exact h.wT (by have:=o.IA;omega) ha
theorem P9.hb (h:P9 R s0 q n ss r l CB l0 DL t to lb m mv ys ws r'):HB (OS t ws l) (ZY q l CB to):=by
 obtain⟨h1,h2,h3,h4,h5,h6⟩:=h.aft
 obtain⟨k1,k2⟩:=h.okN
 have hz:sz t.1=sz s0.1:=by rw[h.ci.sh]
 refine⟨⟨h1,by rw[k2];exact h.hi.hb.bv.n,GF.2 ⟨k1,fun i hi=> ?_⟩,fun x x0 x1 hx=> ?_⟩,fun i hi=> ?_⟩
 ·rcases h.mem.1 hi with ⟨hi,hl,CW⟩|⟨rfl,_⟩
  ·exact (h.smO hi hl CW).fit h.hi.hb.bv.vs (h.hi.hb.fit hi).1
  ·exact h.smT.fit h.ci.cy.vs h.ci.cy.fit
 ·rw[h4] at x1
  rw[h5 x x0 x1] at hx ⊢
  split at hx
  ·exact absurd rfl hx
  ·rename_i hC
   rw[AE hC]
   by_cases he:(fr t.2.2 x).1=CB.1
   ·have hw:0<to.2.2.2.2:=by
     have:=h.ci.cy.fit.1
     by_cases hw:to.2.2.2.2=0
     ·have hm:x∈owned t.2.2 to.1:=B6.2 ⟨⟨x0,by rw[h.ci.fl];exact x1⟩,by rw[he,h.ci.seq]⟩
      rw[h.ci.cy.own hw] at hm
      cases hm
     ·omega
    exact DH.2 ⟨to,h.mem.2 (.inr ⟨rfl,hw⟩),by rw[he,h.ci.seq]⟩
   ·have e1:=h.ci.fr1 x x0 x1 he
    rw[e1] at hx hC he ⊢
    obtain⟨i,hi,hie⟩:=DH.1 (h.hi.hb.bv.cov x x0 x1 hx)
    refine DH.2 ⟨i,h.mem.2 (.inl ⟨hi, ?_,by rw[hie];exact he⟩),hie⟩
    rw[h.lI hi,hie];exact hC
 ·rcases h.mem.1 hi with ⟨hi,hl,CW⟩|⟨rfl,_⟩
  ·obtain⟨os1,la1,AIQ,AQD⟩:=h.hi.hb.full i hi
   have hs:=h.smO hi hl CW
   refine⟨os1,la1,hs.has h.hi.hb.bv.vs (h.hi.hb.fit hi).1 AIQ,hs.uU AQD fun p x a hp ha=> ?_⟩
   have o1:OB s0 i la1 os1 p a x:=⟨AIQ,AQD,hp,ha⟩
   have hr:=o1.IA
   exact h.wO hi hl AIQ hr.2.2.1 (by omega) ha (h.head hi o1)
  ·exact⟨_,lb,h.smT.has h.ci.cy.vs h.ci.cy.fit h.ci.has,h.smT.uU (by rw[hz];exact h.ci.Q2) fun p x a hp ha=>h.AUX hp (by rw[<-hz];exact ha)⟩
def AB5 (n:Int) (CB to:AI):Int:=if CB.2.2.2.2>0 then n else if to.2.2.2.2>0 then n+1 else n
theorem AFC (n:Int) (CB to:AI):n<=AB5 n CB to/\AB5 n CB to<=n+1:=by
 unfold AB5
 split
 ·omega
 ·split <;> omega
theorem P9.done (h:P9 R s0 q n ss r l CB l0 DL t to lb m mv ys ws r') {W8 :Ss} (hS:Sin s0 ss l DL t to lb m mv ys ws W8):HI (OS t ws l) (ZY q l CB to) (AB5 n CB to) W8 r' :=by
 obtain⟨h1,h2,h3,h4,h5,h6⟩:=h.aft
 have hv:=h.hi.hb.bv.vs
 have hnl:=AFC n CB to
 have hz:sz t.1=sz s0.1:=by rw[h.ci.sh]
 have XU:sz (OS t ws l).1=sz s0.1:=by rw[h2]
 refine { hb:=h.hb,seq:=fun i hi=> ?_,n0:=by have:=h.hi.n0;omega,ref:=fun y hy=> ?_,ro:= ?_,root:=fun i hi hu=> ?_,rv:=hS.srv,ins:=fun f g y MR=> ?_,rem:=fun y hy f g hp=> ?_ }
 ·rcases h.mem.1 hi with ⟨hi,hl,CW⟩|⟨rfl,hw⟩
  ·have:=h.hi.seq i hi;omega
  ·rw[h.ci.seq]
   rcases h.qT with ht|ht
   ·have:=h.hi.seq CB ht;omega
   ·unfold AB5
    rw[af,ab];omega
 ·obtain⟨hyr,hw⟩:=h.word hy
  rw[hw]
  rcases h.ACY hy with ⟨i,hi,hl,la,os,p,a,x,j,o,j1,j2,ha⟩|⟨hny,_,ya,nZ,him⟩
  ·have Q8:Slot s0 q y:=⟨i,hi,la,os,p,a,x,j,o,j1,j2,ha⟩
   by_cases hm:y∈ys
   ·exact (h.im (h.hi.ref y Q8) (h.w1 y hm)).2
   ·have hro:=o.IA
    rw[<-hw,h.wO hi hl o.has (by omega) (by omega) ha hm]
    exact (h.im (h.hi.ref y Q8) (.inl ⟨fun hwn=>hm (h.A56 hi hl o j1 j2 ha hwn),rfl⟩)).2
  ·rw[h.w2 y hyr.1 hny]
   exact (h.im (h.hi.ref ya nZ) him).2
 ·refine⟨by rw[h.ru];exact h.hi.ro.ul,by rw[h.rl];exact h.hi.ro.rl,fun i hi hu=> ?_⟩
  rw[h.ru] at hu
  rw[h.r2 i hi hu]
  exact h.hi.ro.z i hi hu
 ·rw[h.ru] at hu
  obtain⟨g1,g2⟩:=h.hi.root i hi hu
  obtain⟨g3,g4⟩:=h.im (.inr g2) (h.r1 i hi hu)
  have CW:gl 0#64 r'.2 i≠0#64:=fun h0=>g1 (g3.1 h0)
  exact⟨CW,g4.resolve_left CW⟩
 ·rw[XU]
  rcases (hS.sin f g y).1 MR with hd|⟨hd|⟨k,hk,p,x,j,o,j1,j2,ha⟩,hp⟩
  ·obtain⟨g1,g2,g3⟩:=AO1.1 hd
   obtain⟨⟨i,hi,la,os,p,a,x,j,o,j1,j2,ha⟩,hf⟩:=h.hi.ins f g y g1
   refine⟨h.AZV hi (fun hl=>g2 ?_) o j1 j2 ha,hf⟩
   have hr:=CH hv (h.hi.hb.fit hi).1 o.has (by have:=o.IA;omega) ha
   exact bF.2 ⟨by rw[hf];exact hr.2.2.1,by rw[hf,hr.2.2.2.1];exact FC.2 ⟨i,hl,rfl⟩⟩
  ·obtain⟨i,hi,hl,la,os,p,a,x,j,o,j1,j2,ha⟩:=h.ysl hd
   have:=hp.2.2.1
   simp only at this
   rw[hz] at this
   exact⟨h.AZV hi hl o j1 j2 ha,this⟩
  ·have:=hp.2.2.1
   simp only at this
   rw[hz] at this
   exact⟨⟨to,h.AY1 o,lb,_,p,_,x,j,h.obT.1 o,j1,j2,by rw[XU];exact ha⟩,this⟩
 ·obtain⟨hyr,hw⟩:=h.word hy
  rw[hw] at hp
  have hpT:Pr (t.1,ws,t.2.2) y (gl 0#64 ws y.toNat) f g:=by
   obtain⟨a1,a2,a3,a4,a5,a6,a7⟩:=hp
   have hw1:=(JH a1).2
   rw[h3] at a2
   rw[XU] at a3 a4
   have ff:=EP hv hyr.1 hyr.2
   have gg:=EP hv (a:=((gl 0#64 ws y.toNat).toNat:Int)-1) (by omega) (by omega)
   rw[<-a3] at ff
   rw[<-a4] at gg
   have e1:fr (OS t ws l).2.2 f=fr t.2.2 f:=by
    rw[h5 f ff.1 ff.2] at a5 ⊢
    split at a5
    ·exact absurd rfl a5
    ·rename_i hc;rw[AE hc]
   have e2:fr (OS t ws l).2.2 g=fr t.2.2 g:=by
    rw[h5 g gg.1 gg.2] at a6 ⊢
    split at a6
    ·exact absurd rfl a6
    ·rename_i hc;rw[AE hc]
   rw[e1] at a5 a7
   rw[e2] at a6 a7
   exact⟨a1,by simp only;rw[h.wl];exact a2,by simp only;rw[hz];exact a3,by simp only;rw[hz];exact a4,a5,a6,a7⟩
  rcases h.ACY hy with ⟨i,hi,hl,la,os,p,a,x,j,o,j1,j2,ha⟩|⟨_,hc,_⟩
  rotate_left
  ·exact (hS.sin f g y).2 (.inr ⟨.inr hc,hpT⟩)
  by_cases hm:y∈ys
  ·exact (hS.sin f g y).2 (.inr ⟨.inl hm,hpT⟩)
  have Q8:Slot s0 q y:=⟨i,hi,la,os,p,a,x,j,o,j1,j2,ha⟩
  have hro:=o.IA
  have hf:=(h.hi.hb.fit hi).1
  have hr:=CH hv hf o.has (by omega) ha
  have hww:=h.wO hi hl o.has (by omega) (by omega) ha hm
  rw[hw] at hww
  rw[hww] at hpT hp
  obtain⟨a1,a2,a3,a4,a5,a6,a7⟩:=hpT
  simp only at a2 a3 a4 a5 a6 a7
  rw[h.wl] at a2
  rw[hz] at a3 a4
  have hC:=(h.lI hi).1 hl
  have ef:(fr t.2.2 f).1=(fr s0.2.2 f).1/\(fr t.2.2 f).2.1=(fr s0.2.2 f).2.1:=by
   rw[a3]
   by_cases CW:i.1=CB.1
   ·obtain⟨rfl,ht⟩:=h.AY0 hi CW
    obtain rfl:=K_ o.has h.cd.has
    obtain⟨r0,vG⟩:=h.ci.pre
    have hrt:=CH h.ci.cy.vs h.ci.cy.fit h.ci.has (p:=p+j) (y:=y) (by omega) (by rw[hz,vG];exact CK ha)
    rw[hz] at hrt
    rw[hrt.2.2.2.1,hrt.2.2.2.2,hr.2.2.2.1,hr.2.2.2.2,h.ci.seq,h.ci.XK]
    exact⟨rfl,rfl⟩
   ·rw[h.ci.fr3 _ hr.2.2.1.1 hr.2.2.1.2 (by rw[hr.2.2.2.1];have:=hf.1;omega) (by rw[hr.2.2.2.1];exact CW)]
    exact⟨rfl,rfl⟩
  rcases h.hi.ref y Q8 with h0|⟨k,hk,p',x',o'⟩
  ·exact absurd h0 a1
  have nY :=o'.FZ hv (h.hi.hb.fit hk).1
  have hkf:=(h.hi.hb.fit hk).1
  have xK:k∉l:=fun xK=>hm (h.A56 hi hl o j1 j2 ha ⟨a1,a2,by rw[nY.2.2.1];exact FC.2 ⟨k,xK,rfl⟩⟩)
  have hkC:=(h.lI hk).1 xK
  have eg:(fr t.2.2 g).1=(fr s0.2.2 g).1/\(fr t.2.2 g).2.1=(fr s0.2.2 g).2.1:=by
   rw[a4]
   by_cases CW:k.1=CB.1
   ·obtain⟨rfl,ht⟩:=h.AY0 hk CW
    obtain⟨la2,os2,o2⟩:=o'
    obtain⟨rfl,rfl⟩:=LA h.cd.has h.cd.Q2 o2
    have o3:=h.A2F o2
    have hrt:=CH h.ci.cy.vs h.ci.cy.fit h.ci.has o3.IA.2.2.1 o3.FZ
    rw[hz] at hrt
    rw[hrt.2.2.2.1,hrt.2.2.2.2,nY.2.2.1,nY.2.2.2,h.ci.seq,h.ci.XK]
    exact⟨rfl,rfl⟩
   ·rw[h.ci.fr3 _ nY.2.1.1 nY.2.1.2 (by rw[nY.2.2.1];have:=hkf.1;omega) (by rw[nY.2.2.1];exact CW)]
    exact⟨rfl,rfl⟩
  rw[ef.1] at a5
  rw[eg.1] at a6
  rw[ef.2,eg.2] at a7
  refine (hS.sin f g y).2 (.inl (AO1.2 ⟨h.hi.rem y Q8 f g ⟨a1,a2,a3,a4,a5,a6,a7⟩,fun hm' => ?_,fun hm' => ?_⟩))
  ·have:=(bF.1 hm').2
   rw[a3,hr.2.2.2.1] at this
   exact hC this
  ·have:=(bF.1 hm').2
   rw[a4,nY.2.2.1] at this
   exact hkC this
end
end Go.Proofs.YtokeceeccmgcmaaGreatDoor
namespace Go.Proofs.YtokeceeccmgcmaaGreatDoor
open Go Go.V3
variable {q:Rows}
theorem z6 (hq:q.length<=1000000) (hx:q.flatten.length<=1000000):JA q=some q.flatten:=by
 unfold JA
 refine (AK (fun k (st:List AI×Int)=>st=((q.take k).flatten,(k:Int))) (fun b=>b=q.flatten) q.length ?_ ?_ (s:=([],0)) (by simp)).elim fun b hb=>by rw[hb.1,hb.2]
 ·rintro k st hk rfl
  left
  have hs:=IS q k hk
  have hl:(q.take k).flatten.length+(gl [] q k).length<=q.flatten.length:=by
   rw[hs,PQ,PQ];omega
  simp only[HM]
  rw[ab,ab,ab,ah]
  refine⟨_,rfl, ?_⟩
  rw[IY (d:=[]) q k hk,ARH]
  simp
 ·rintro st rfl
  simp only
  rw[af,VD]
  exact⟨_,rfl,rfl⟩
variable {β:Type}
theorem AIR {f:Bool×Int->Option ((Bool×Int) ⊕ β)} (P:Nat->Prop) (n:Nat) {b0:Bool} {r:Bool->β}
  (hs:∀ (k:Nat) (b:Bool),k<n->∃ c:Bool,f (b,(k:Int))=some (.inl (c,(k:Int)+1))/\(c=true->b=true\/P k)) (he:∀ b,f (b,(n:Int))=some (.inr (r b))):
  ∃ b,AH f (b0,0)=some (r b)/\(b=true->b0=true\/∃ k,k<n/\P k):=by
 have key:=AK (f:=f) (fun k (st:Bool×Int)=>st.2=(k:Int)/\(st.1=true->b0=true\/∃ j,j<k/\P j)) (fun x=>∃ b,x=r b/\(b=true->b0=true\/∃ k,k<n/\P k)) n ?_ ?_ (s:=(b0,0)) ⟨rfl,fun h=> .inl h⟩
 ·obtain⟨x,hx,b,rfl,h⟩:=key
  exact⟨b,hx,h⟩
 ·rintro k ⟨b,kk⟩ hk ⟨HR,hb⟩
  simp only at HR hb
  subst HR
  obtain⟨c,h1,h2⟩:=hs k b hk
  refine .inl ⟨_,h1,rfl,fun hc=> ?_⟩
  rcases h2 hc with h3|h3
  ·rcases hb h3 with h4|⟨j,h4,h5⟩
   ·exact .inl h4
   ·exact .inr ⟨j,by omega,h5⟩
  ·exact .inr ⟨k,by omega,h3⟩
 ·rintro⟨b,kk⟩ ⟨HR,hb⟩
  simp only at HR hb
  subst HR
  exact⟨_,he b,b,rfl,hb⟩
structure Pfx (q:Rows) (l:List Int):Prop where
 len:l.length<=q.flatten.length
 nd:∀ i j:Nat,j<i->i<l.length->gl 0 l j≠gl 0 l i
 sub:∀ i:Nat,i<l.length->∃ k,k<l.length/\(gl ((0,0,0,0,0):AI) q.flatten k).1=gl 0 l i
 all:∀ k:Nat,k<l.length->∃ i,i<l.length/\(gl ((0,0,0,0,0):AI) q.flatten k).1=gl 0 l i
theorem ALE (hq:q.length<=1000000) (hx:q.flatten.length<=1000000) {l:List Int} (hl:l.length<=1000000):∃ b,JB q l=some b/\(b=true->Pfx q l):=by
 unfold JB
 rw[z6 hq hx,AW]
 by_cases hlen:(l.length:Int)>(q.flatten.length:Int)
 ·rw[AA hlen];exact⟨false,rfl,fun h=>by cases h⟩
 rw[AE hlen]
 generalize hA:q.flatten=A at*
 have bd:Bd none (some (l.length:Int)) ((l.length:Int).toNat) A.length:=⟨by omega,trivial⟩
 refine AK (fun k (st:Int)=>st=(k:Int)/\(∀ i j:Nat,j<i->i<k->gl 0 l j≠gl 0 l i)/\∀ i:Nat,i<k->∃ m,m<l.length/\(gl ((0,0,0,0,0):AI) A m).1=gl 0 l i) _ l.length ?_ ?_ ⟨rfl,fun i j h1 h2=>by omega,fun i h=>by omega⟩
 ·rintro k st hk ⟨rfl,HN,GR⟩
  rw[ab,ab,AA bd]
  simp only[HM,AG8]
  have inner:=AK (β:=Int ⊕ Bool) (f:=fun s2:Int=>
   if s2<(k:Int) then
   if 0<=s2/\s2<(l.length:Int) then
   if (gl (0:Int) l s2.toNat)=(gl (0:Int) l k) then
   some (Sum.inr (Sum.inr (false)))
   else some (Sum.inl (AG (s2+1)))
   else none
   else Option.map Sum.inr (AH (σ:=(Bool×Int)) (β:=(Int ⊕ Bool)) (fun s3=>
   if s3.2<(l.length:Int) then
   if 0<=s3.2/\s3.2<(l.length:Int) then
   if s3.1=true then
   some (Sum.inl ((true,AG (s3.2+1))))
   else some (Sum.inl ((decide (((gl ((0,0,0,0,0):AI) A (0+s3.2.toNat)).1)=(gl (0:Int) l k)),AG (s3.2+1))))
   else none
   else Option.map Sum.inr (if (!s3.1)=true then
   some (Sum.inr (false))
   else some (Sum.inl (AG ((k:Int)+1))))) ((false,0))))
   (fun j (st:Int)=>st=(j:Int)/\∀ m:Nat,m<j->gl 0 l m≠gl 0 l k)
   (fun b=>b=Sum.inr false\/(b=Sum.inl ((k:Int)+1)/\(∀ m:Nat,m<k->gl 0 l m≠gl 0 l k)/\∃ m,m<l.length/\(gl ((0,0,0,0,0):AI) A m).1=gl 0 l k)) k ?_ ?_ (s:=0) ⟨rfl,fun m hm=>by omega⟩
  ·obtain⟨b,cA,hb2⟩:=inner
   rw[cA]
   rcases hb2 with rfl|⟨rfl,h1,h2⟩
   ·exact .inr ⟨_,rfl,fun h=>by cases h⟩
   ·refine .inl ⟨_,rfl,rfl,fun i j hj hi=> ?_,fun i hi=> ?_⟩
    ·by_cases iO:i=k
     ·subst iO;exact h1 j hj
     ·exact HN i j hj (by omega)
    ·by_cases iO:i=k
     ·subst iO;exact h2
     ·exact GR i (by omega)
  ·rintro j st hj ⟨rfl,hm⟩
   rw[ab,ab]
   simp only[HM]
   by_cases he:gl 0 l j=gl 0 l k
   ·rw[AA he];exact .inr ⟨_,rfl,.inl rfl⟩
   ·rw[AE he,ah]
    refine .inl ⟨_,rfl,rfl,fun m hm' => ?_⟩
    by_cases hmj:m=j
    ·subst hmj;exact he
    ·exact hm m (by omega)
  ·rintro st ⟨rfl,hm⟩
   rw[af]
   obtain⟨b,cA,hb2⟩:=AIR (β:=Int ⊕ Bool) (f:=fun s3:Bool×Int=>
    if s3.2<(l.length:Int) then
    if 0<=s3.2/\s3.2<(l.length:Int) then
    if s3.1=true then
    some (Sum.inl ((true,AG (s3.2+1))))
    else some (Sum.inl ((decide (((gl ((0,0,0,0,0):AI) A (0+s3.2.toNat)).1)=(gl (0:Int) l k)),AG (s3.2+1))))
    else none
    else Option.map Sum.inr (if (!s3.1)=true then
    some (Sum.inr (false))
    else some (Sum.inl (AG ((k:Int)+1))))) (fun m=>(gl ((0,0,0,0,0):AI) A m).1=gl 0 l k) l.length (b0:=false) (r:=fun b=>if b=true then Sum.inl ((k:Int)+1) else Sum.inr false) (fun j b hj=>by
     simp only[HM]
     rw[ab,ab,ah (e:=(j:Int)+1)]
     cases b with
     |true=>exact⟨true,by rw[AA rfl],fun _=> .inl rfl⟩
     |false=>
      refine⟨_,by rw[AE (by decide)],fun h=> .inr ?_⟩
      have h' :=SJ h
      rw[NV] at h'
      exact h') (fun b=>by
     simp only
     rw[af,ah (e:=(k:Int)+1)]
     cases b <;> rfl)
   rw[cA]
   cases b with
   |true=>
    rcases hb2 rfl with h|⟨m,h1,h2⟩
    ·cases h
    ·exact⟨_,rfl,.inr ⟨rfl,hm,m,h1,h2⟩⟩
   |false=>exact⟨_,rfl,.inl rfl⟩
 ·rintro st ⟨rfl,HN,GR⟩
  rw[af,AA bd]
  simp only[HM,AG8]
  have second:=AK (β:=Bool) (f:=fun s4:Int=>
   if s4<(l.length:Int) then
   if 0<=s4/\s4<(l.length:Int) then
   AH (σ:=(Bool×Int)) (β:=(Int ⊕ Bool)) (fun s5=>
   if s5.2<(l.length:Int) then
   if 0<=s5.2/\s5.2<(l.length:Int) then
   if s5.1=true then
   some (Sum.inl ((true,AG (s5.2+1))))
   else some (Sum.inl ((decide (((gl ((0,0,0,0,0):AI) A (0+s4.toNat)).1)=(gl (0:Int) l s5.2.toNat)),AG (s5.2+1))))
   else none
   else Option.map Sum.inr (if (!s5.1)=true then
   some (Sum.inr (false))
   else some (Sum.inl (AG (s4+1))))) ((false,0))
   else none
   else some (Sum.inr (true)))
   (fun k (st:Int)=>st=(k:Int)/\∀ m:Nat,m<k->∃ i,i<l.length/\(gl ((0,0,0,0,0):AI) A m).1=gl 0 l i)
   (fun b=>b=true->∀ m:Nat,m<l.length->∃ i,i<l.length/\(gl ((0,0,0,0,0):AI) A m).1=gl 0 l i) l.length ?_ ?_ (s:=0) ⟨rfl,fun m hm=>by omega⟩
  ·obtain⟨b,cA,hb2⟩:=second
   rw[cA]
   exact⟨_,rfl,fun h=>⟨by rw[hA];omega,HN,by rw[hA];exact GR,by rw[hA];exact hb2 h⟩⟩
  ·rintro k st hk ⟨rfl,QF⟩
   rw[ab,ab]
   simp only[HM]
   obtain⟨b,cA,hb2⟩:=AIR (β:=Int ⊕ Bool) (f:=fun s5:Bool×Int=>
    if s5.2<(l.length:Int) then
    if 0<=s5.2/\s5.2<(l.length:Int) then
    if s5.1=true then
    some (Sum.inl ((true,AG (s5.2+1))))
    else some (Sum.inl ((decide (((gl ((0,0,0,0,0):AI) A (0+k)).1)=(gl (0:Int) l s5.2.toNat)),AG (s5.2+1))))
    else none
    else Option.map Sum.inr (if (!s5.1)=true then
    some (Sum.inr (false))
    else some (Sum.inl (AG ((k:Int)+1))))) (fun m=>(gl ((0,0,0,0,0):AI) A k).1=gl 0 l m) l.length (b0:=false) (r:=fun b=>if b=true then Sum.inl ((k:Int)+1) else Sum.inr false) (fun j b hj=>by
     simp only[HM]
     rw[ab,ab,ah (e:=(j:Int)+1)]
     cases b with
     |true=>exact⟨true,by rw[AA rfl],fun _=> .inl rfl⟩
     |false=>
      refine⟨_,by rw[AE (by decide)],fun h=> .inr ?_⟩
      have h' :=SJ h
      rw[NV] at h'
      exact h') (fun b=>by
     simp only
     rw[af,ah (e:=(k:Int)+1)]
     cases b <;> rfl)
   rw[cA]
   cases b with
   |true=>
    rcases hb2 rfl with h|⟨m,h1,h2⟩
    ·cases h
    ·refine .inl ⟨_,rfl,rfl,fun m' hm' => ?_⟩
     by_cases hmk:m' =k
     ·subst hmk;exact⟨m,h1,h2⟩
     ·exact QF m' (by omega)
   |false=>exact .inr ⟨_,rfl,fun h=>by cases h⟩
  ·rintro st ⟨rfl,QF⟩
   rw[af]
   exact⟨_,rfl,fun _=>QF⟩
variable {s:Sp}
theorem AIS (h:HB s q):q.flatten.Pairwise fun a b=>a.2.1*4294967296+a.1<b.2.1*4294967296+b.1:=by
 have hN:=(GF.1 h.bv.ok).1
 have hf:∀ i∈q.flatten,0<=i.1/\i.1<=4294967295:=fun i hi=>by have:=(h.fit hi).1.1;omega
 have key:∀ n,n<=q.length->(q.take n).flatten.Pairwise fun a b:AI=>a.2.1*4294967296+a.1<b.2.1*4294967296+b.1:=by
  intro n
  induction n with
  |zero=>intro _;simp
  |succ n ih=>
   intro hn
   rw[IY (d:=[]) q n hn,ARH,wY]
   refine⟨ih (by omega), ?_,fun a ha b hb=> ?_⟩
   ·simp only[List.flatten_cons,List.flatten_nil,FP]
    refine List.Pairwise.imp_of_mem ?_ (hN.pw n hn)
    intro a b ha hb xV
    have e1:=(hN.e n hn a ha).1
    have e2:=(hN.e n hn b hb).1
    omega
   ·simp only[List.flatten_cons,List.flatten_nil,FP] at hb
    have e2:=(hN.e n hn b hb).1
    obtain⟨x,hx,hax⟩:=w9.1 ha
    obtain⟨j,hj,iU,rfl⟩:=uR (d:=([]:List AI)) hx
    have e1:=(hN.e j iU a hax).1
    have f1:=hf a (LP.2 ⟨j,iU,hax⟩)
    have f2:=hf b (LP.2 ⟨n,hn,hb⟩)
    have:(j:Int)+1<=n:=by omega
    omega
 have:=key q.length (EH _)
 rw[VD] at this
 exact this
variable {l:List AI}
theorem Pfx.pre (h:HB s q) (hl:∀ i∈l,i∈q.flatten) (hp:Pfx q (AV l)):∀ i∈l,∀ j∈q.flatten,j∉l->i.2.1*4294967296+i.1<j.2.1*4294967296+j.1:=by
 intro i hi j hj vD
 have hlen:=hp.len
 have hs:=qQ l
 obtain⟨a,ha,rfl⟩:=EF (d:=((0,0,0,0,0):AI)) hi
 obtain⟨k,hk,MZ⟩:=hp.sub a (by omega)
 rw[AF6 ha] at MZ
 have iO:=h.uniq (B3 (d:=((0,0,0,0,0):AI)) (xs:=q.flatten) (k:=k) (by omega)) (hl _ hi) MZ
 rw[<-iO]
 obtain⟨b,hb,rfl⟩:=EF (d:=((0,0,0,0,0):AI)) hj
 have hbl:¬b<l.length:=by
  intro hbl
  obtain⟨i2,hi2,he⟩:=hp.all b (by omega)
  rw[AF6 (by omega)] at he
  have:=h.uniq hj (hl _ (B3 (d:=((0,0,0,0,0):AI)) (k:=i2) (by omega))) he
  rw[this] at vD
  exact vD (B3 (by omega))
 have:=AFQ.1 (AIS h) k b (by omega) hb (by omega)
 rw[DJ (by omega),DJ hb]
 exact this
theorem Pfx.AY2 (hp:Pfx q (AV l)):(AV l).Nodup:=by
 rw[AR3,AFQ]
 intro i j hi hj rT
 have:=hp.nd j i rT hj
 rw[DJ hi,DJ hj] at this
 exact this
variable {b n:Int} {c:Cf}
theorem AY3 (g:Good c) (b0:0<=b) (b1:b<c.2.1.length) (n0:1<=n) (n1:n<=64):∃ k,F7 c b n=some (k,0)/\0<=k/\k<=64:=by
 have hn:=g.n.2
 have hz:=g.nm.2.1
 have hr:gl (0,0,0,0) c.2.1 b.toNat=ru c b:=rfl
 have hv:=(g.ru b b0 b1).1
 unfold F7
 rw[ACU (by omega) (by omega) g.sh,g.YV,AW,AE (by simp),af,af,af,af,ab,hr]
 generalize (ru c b).1=x at hv
 rcases hv with rfl|⟨h0,h1⟩
 ·unfold FU zaf
  rw[jD,jC (by omega)]
  simp only[AW]
  rw[AE (by decide),af,af,AA (by decide)]
  exact⟨0,rfl,by omega,by omega⟩
 ·rw[zM h0 h1 n0 n1]
  have:=AZL (n:=n.toNat) h1 (by omega)
  exact⟨_,rfl,by omega,by omega⟩
structure HV (N:Int) (h:Hs):Prop where
 g:Good h.1
 hi:HI h.2.1 h.2.2.1 h.2.2.2.1 h.2.2.2.2.1 h.2.2.2.2.2.1
 ql:h.2.2.1.length=h.1.2.1.length
 n1:h.2.2.2.1<=N
theorem HV.vs {N:Int} {h:Hs} (v:HV N h):VS h.2.1:=v.hi.hb.bv.vs
theorem HV.copy {N:Int} {h:Hs} (v:HV N h):BX h=some h:=by
 obtain⟨c,s,q,n,ss,r,rest⟩:=h
 obtain⟨h1,h2,h3⟩:=v.hi.hb.lens
 have hg:=v.g.n.2
 simp only at h1 h2 h3 hg
 unfold BX
 rw[AA (by simp only[SK];omega),VS.copy v.vs,AW,gX (q:=q) (by omega) (fun x hx=>by have:=h3 x hx;omega),AW,v.hi.rv.copy,AW,v.hi.ro.copy]
 rfl
structure Tg (h:Hs) (l:List AI) (to:AI):Prop where
 sub:∀ i∈l,i∈h.2.2.1.flatten
 ne:l≠[]
 blt:∀ i∈l,i.2.1=(gl ((0,0,0,0,0):AI) l 0).2.1
 pfx:Pfx h.2.2.1 (AV l)
 tb:to.2.1=(ru h.1 (gl ((0,0,0,0,0):AI) l 0).2.1).2.2.2
 qT:to∈h.2.2.1.flatten\/to=(h.2.2.2.1,(ru h.1 (gl ((0,0,0,0,0):AI) l 0).2.1).2.2.2, -1, -1,0)
 out:to.1∉AV l
theorem AQE {a b c d e:Bool} (h:Z2 [a,b,c,d,e]=true):a=true/\b=true/\c=true/\d=true/\e=true:=by
 simpa [Z2] using h
variable {i j:AI}
theorem AY4 (h1:i.1=j.1) (h2:i.2.1=j.2.1) (h3:i.2.2.1=j.2.2.1) (h4:i.2.2.2.1=j.2.2.2.1) (h5:i.2.2.2.2=j.2.2.2.2):i=j:=by
 obtain⟨a,b,c,d,e⟩:=i
 obtain⟨a',b',c',d',e'⟩:=j
 simp only at h1 h2 h3 h4 h5
 subst h1 h2 h3 h4 h5;rfl
variable {k:Nat}
theorem ACZ (hk:k<l.length):AV (l.take (k+1))=AV (l.take k)++ [(gl ((0,0,0,0,0):AI) l k).1]:=by
 rw[IY (d:=((0,0,0,0,0):AI)) l k hk];unfold AV;rw[YC];rfl
theorem AIT {f:Bool×Int->Option ((Bool×Int) ⊕ β)} (P:Nat->Prop) (n:Nat) {b0:Bool} {r:Bool->Option β}
  (hs:∀ (k:Nat) (b:Bool),k<n->∃ c:Bool,f (b,(k:Int))=some (.inl (c,(k:Int)+1))/\(c=true->b=true/\P k))
  (he:∀ b,f (b,(n:Int))=Option.map Sum.inr (r b)) {Q:β->Prop} (hq:∀ b,(b=true->b0=true/\∀ k,k<n->P k)->∃ x,r b=some x/\Q x):
  ∃ x,AH f (b0,0)=some x/\Q x:=by
 refine AK (f:=f) (fun k (st:Bool×Int)=>st.2=(k:Int)/\(st.1=true->b0=true/\∀ j,j<k->P j)) Q n ?_ ?_ (s:=(b0,0)) ⟨rfl,fun h=>⟨h,fun j hj=>by omega⟩⟩
 ·rintro k ⟨b,kk⟩ hk ⟨HR,hb⟩
  simp only at HR hb
  subst HR
  obtain⟨c,h1,h2⟩:=hs k b hk
  refine .inl ⟨_,h1,rfl,fun hc=> ?_⟩
  obtain⟨h3,h4⟩:=h2 hc
  obtain⟨h5,h6⟩:=hb h3
  refine⟨h5,fun j hj=> ?_⟩
  by_cases WC:j=k
  ·subst WC;exact h4
  ·exact h6 j (by omega)
 ·rintro⟨b,kk⟩ ⟨HR,hb⟩
  simp only at HR hb
  subst HR
  obtain⟨x,h1,h2⟩:=hq b hb
  exact⟨x,by rw[he,h1];rfl,h2⟩
variable {h:Hs} {N:Int}
theorem AQF (v:HV N h) (hl:l.length<=1000000):∃ to e,HA h l=some (to,e)/\(e≠0\/(e=0/\Tg h l to)):=by
 suffices hh:∃ x,HA h l=some x/\(x.2≠0\/(x.2=0/\Tg h l x.1)) by
  obtain⟨x,h1,h2⟩:=hh
  exact⟨x.1,x.2,h1,h2⟩
 obtain⟨l1,l2,l3⟩:=v.hi.hb.lens
 have hN:=(GF.1 v.hi.hb.bv.ok).1
 have hql:=v.ql
 unfold HA zz zaN zac zai
 refine AK (fun k (st:List Int×Int)=>st=(AV (l.take k),(k:Int))/\∀ j,j<k->gl ((0,0,0,0,0):AI) l j∈h.2.2.1.flatten/\(gl ((0,0,0,0,0):AI) l j).2.1=(gl ((0,0,0,0,0):AI) l 0).2.1) _ l.length ?_ ?_ ⟨rfl,fun j hj=>by omega⟩
 ·rintro k st hk ⟨rfl,hj⟩
  simp only[HM]
  rw[ab,ab]
  rcases AIH (q:=h.2.2.1) (by omega) (fun x hx=>by have:=l3 x hx;omega) (gl ((0,0,0,0,0):AI) l k).1 with ⟨h4,h5⟩|⟨i,h4,h5,h6⟩
  ·rw[h5];exact .inr ⟨_,rfl,.inl (by decide)⟩
  ·rw[h6,AW]
   rw[AE (show ¬(!true)=true by decide)]
   split
   ·exact .inr ⟨_,rfl,.inl (by decide)⟩
   rename_i hb
   simp only[b6,Bool.not_eq_false] at hb
   obtain⟨b1,b2,b3,b4,b5⟩:=AQE hb
   obtain rfl:i=gl ((0,0,0,0,0):AI) l k:=AY4 (SJ b1) (SJ b2) (SJ b3) (SJ b4) (SJ b5)
   rw[ab]
   split
   ·exact .inr ⟨_,rfl,.inl (by decide)⟩
   rename_i hbe
   have A7M :=Decidable.not_not.1 hbe
   have Q8:(AV (l.take k)).length<=l.length:=by rw[qQ,jM];omega
   rw[AA (by simp only[Q5];omega),ah]
   refine .inl ⟨_,rfl, ?_,fun j WC=> ?_⟩
   ·rw[ACZ hk];rfl
   ·by_cases A7N :j=k
    ·subst A7N;exact⟨h4,A7M⟩
    ·exact hj j (by omega)
 ·rintro st ⟨rfl,hj⟩
  simp only
  rw[af,VD]
  by_cases h0:(l.length:Int)=0
  ·rw[AA h0];exact⟨_,rfl,.inl (by decide)⟩
  rw[AE h0]
  obtain⟨b,rP,hp2⟩:=ALE (q:=h.2.2.1) (l:=AV l) (by omega) (by omega) (by rw[qQ];exact hl)
  rw[rP,AW]
  cases b with
  |false=>exact⟨_,rfl,.inl (by decide)⟩
  |true=>
  have hp:=hp2 rfl
  obtain⟨hm0, -⟩:=hj 0 (by omega)
  obtain⟨⟨r0,r1⟩,YE⟩:=hN.row hm0
  have SN:∀ i∈l,i∈h.2.2.1.flatten/\i.2.1=(gl ((0,0,0,0,0):AI) l 0).2.1:=by
   intro i hi
   obtain⟨k,hk,rfl⟩:=EF (d:=((0,0,0,0,0):AI)) hi
   exact hj k hk
  have A57:l≠[]:=by rintro rfl;simp at h0
  rw[AE (by decide),ab]
  simp only[show (0:Int).toNat=0 from rfl]
  rw[ab]
  obtain⟨-,hlm,htb⟩:=v.g.ru (gl ((0,0,0,0,0):AI) l 0).2.1 r0 (by omega)
  have hb:gl (0,0,0,0) h.1.2.1 (gl ((0,0,0,0,0):AI) l 0).2.1.toNat=ru h.1 (gl ((0,0,0,0,0):AI) l 0).2.1:=rfl
  rw[hb]
  generalize hT:(ru h.1 (gl ((0,0,0,0,0):AI) l 0).2.1).2.2.2=T at htb
  have hTr:0<=T/\T<h.1.2.1.length:=by
   unfold H9 at htb
   rw[hT] at htb
   by_cases cA:(gl ((0,0,0,0,0):AI) l 0).2.1=(h.1.2.1.length:Int)-1
   ·have:T=(gl ((0,0,0,0,0):AI) l 0).2.1:=AB7 fun hn=>htb (.inl ⟨cA,hn⟩)
    omega
   ·have h1:¬(T<=(gl ((0,0,0,0,0):AI) l 0).2.1\/(h.1.2.1.length:Int)-1<T):=fun hn=>htb (.inr ⟨by omega,hn⟩)
    omega
  have hn:=v.vs.n
  obtain⟨cap,hc,c0,c1⟩:=AY3 v.g (b:=T) (n:=h.2.1.2.2.length) hTr.1 hTr.2 (by omega) (by omega)
  rw[hc,AW]
  have AUY:Tg h l (h.2.2.2.1,T, -1, -1,0):=
   ⟨fun i hi=>(SN i hi).1,A57,fun i hi=>(SN i hi).2,hp,by simp only;exact hT.symm,.inr (by rw[hT]),fun hm=>by
    obtain⟨i,hi,he⟩:=FC.1 hm
    have:=v.hi.seq i (SN i hi).1
    simp only at he;omega⟩
  have wrap:∀ {X:Option (AI×Int)},(∃ x,X=some x/\(x.2≠0\/(x.2=0/\Tg h l x.1)))->∃ b,Option.map (Sum.inr (α:=List Int×Int)) X=some (Sum.inr b)/\(b.2≠0\/(b.2=0/\Tg h l b.1)):=by
   rintro X ⟨x,rfl,hx⟩;exact⟨x,rfl,hx⟩
  rcases qH (q:=h.2.2.1) (fun x hx=>by have:=l3 x hx;omega) hTr.1 (by omega) with ⟨y1,y2⟩|⟨y,y1,y2⟩
  ·rw[y2,AW]
   simp only
   refine wrap (AIT (fun _=>True) l.length (r:=fun b=>if b=true then (if decide (cap=0\/((0,0,0,0,0):AI).2.2.2.2<cap*sz h.2.1.1)=true then some (((0,0,0,0,0):AI),0) else some ((h.2.2.2.1,T, -1, -1,0),0)) else some ((h.2.2.2.1,T, -1, -1,0),0)) ?_ ?_ ?_)
   ·intro k b hk
    simp only
    rw[ab,ab,ah (e:=(k:Int)+1)]
    cases b with
    |true=>exact⟨_,by rw[AA rfl],fun _=>⟨rfl,trivial⟩⟩
    |false=>exact⟨false,by rw[AE (by decide)],fun h=>by cases h⟩
   ·intro b
    simp only
    rw[af,zS v.vs.sh ((0,0,0,0,0):AI) c0 (by omega)]
    rfl
   ·intro b hb
    cases b with
    |true=>exact absurd (hb rfl).1 (by decide)
    |false=>exact⟨_,rfl,.inr ⟨rfl,AUY⟩⟩
  ·rw[y2,AW]
   have hyb:=(hN.e T.toNat (by omega) y y1).1
   have hym:y∈h.2.2.1.flatten:=LP.2 ⟨T.toNat,by omega,y1⟩
   simp only
   refine wrap (AIT (fun k=>(gl ((0,0,0,0,0):AI) l k).1≠y.1) l.length (r:=fun b=>if b=true then (if decide (cap=0\/y.2.2.2.2<cap*sz h.2.1.1)=true then some (y,0) else some ((h.2.2.2.1,T, -1, -1,0),0)) else some ((h.2.2.2.1,T, -1, -1,0),0)) ?_ ?_ ?_)
   ·intro k b hk
    simp only[HM]
    rw[ab,ab,ah (e:=(k:Int)+1)]
    cases b with
    |true=>exact⟨_,by rw[AA rfl],fun hc=>⟨rfl,SJ hc⟩⟩
    |false=>exact⟨false,by rw[AE (by decide)],fun h=>by cases h⟩
   ·intro b
    simp only
    rw[af,zS v.vs.sh y c0 (by omega)]
    rfl
   ·intro b hb
    by_cases cA:b=true
    ·rw[AA cA]
     obtain⟨-,QF⟩:=hb cA
     split
     ·refine⟨_,rfl,.inr ⟨rfl,fun i hi=>(SN i hi).1,A57,fun i hi=>(SN i hi).2,hp,by rw[hT];simp only;omega,.inl hym,fun hm=> ?_⟩⟩
      obtain⟨i,hi,he⟩:=FC.1 hm
      obtain⟨k,hk,rfl⟩:=EF (d:=((0,0,0,0,0):AI)) hi
      exact QF k hk he
     ·exact⟨_,rfl,.inr ⟨rfl,AUY⟩⟩
    ·rw[AE cA];exact⟨_,rfl,.inr ⟨rfl,AUY⟩⟩
def ms (w:AI->Nat) (l:List AI):Nat:=(l.map w).sum
theorem AY5 {w:AI->Nat} {a b:List AI} (h:a.Perm b):ms w a=ms w b:=by
 unfold ms
 induction h with
 |nil=>rfl
 |cons x _ ih=>simp only[JS,bK,ih]
 |swap x y l=>simp only[JS,bK];omega
 |trans _ _ h1 h2=>rw[h1,h2]
theorem qU (w:AI->Nat) (p:AI->Bool):∀ l:List AI,ms w (l.filter p)<=ms w l
 | []=>EH _
 |a::r=>by
  have:=qU w p r
  unfold ms at this ⊢
  rw[u5]
  split <;> simp only[JS,bK] <;> omega
theorem AD0 (w:AI->Nat) (p:AI->Bool) {i:AI} (hp:p i=false):∀ {l:List AI},i∈l->ms w (l.filter p)+w i<=ms w l
 |a::r,hi=>by
  rw[u5]
  rcases GH.1 hi with rfl|hi
  ·have:=qU w p r
   rw[hp];unfold ms at this ⊢
   simp only[JS,bK,W_,KK];omega
  ·have:=AD0 w p hp hi
   unfold ms at this ⊢
   split <;> simp only[JS,bK] <;> omega
theorem AUZ {w w' :AI->Nat} (h:∀ i∈l,w i=w' i):ms w l=ms w' l:=by
 unfold ms;rw[W9 h]
theorem AZW {w:AI->Nat} {b:Nat}:∀ {l:List AI},(∀ i∈l,w i<=b)->ms w l<=l.length*b
 | [],_=>by simp [ms]
 |a::r,h=>by
  have h1:=h a (by simp)
  have h2:=AZW (w:=w) (b:=b) (l:=r) fun i hi=>h i (YB _ hi)
  unfold ms at h2 ⊢
  simp only[JS,bK,NU]
  rw[Nat.succ_mul];omega
variable {α:Type}
theorem AO8 {d:α} {n:Nat} (pos:Nat->Int) (val:Nat->α) {xs:List α} (hr:∀ k,k<n->0<=pos k/\pos k<xs.length) (hi:∀ j k,j<n->k<n->pos j=pos k->j=k)
  {f:Int×List α->Option ((Int×List α) ⊕ β)} (hs:∀ k ys,k<n->ys.length=xs.length->f ((k:Int),ys)=some (.inl ((k:Int)+1,ys.set (pos k).toNat (val k)))) {Q:β->Prop}
  (he:∀ ys,ys.length=xs.length->(∀ k,k<n->gl d ys (pos k).toNat=val k)->(∀ y:Nat,(∀ k,k<n->pos k≠y)->gl d ys y=gl d xs y)->∃ b,f ((n:Int),ys)=some (.inr b)/\Q b):∃ b,AH f (0,xs)=some b/\Q b:=by
 refine AK (f:=f) (fun k (st:Int×List α)=>st.1=(k:Int)/\st.2.length=xs.length/\(∀ j,j<k->gl d st.2 (pos j).toNat=val j)/\∀ y:Nat,(∀ j,j<k->pos j≠y)->gl d st.2 y=gl d xs y) Q n ?_ ?_ (s:=(0,xs)) ⟨rfl,rfl,fun j hj=>by omega,fun _ _=>rfl⟩
 ·rintro k ⟨kk,ys⟩ hk ⟨HR,hl,h1,h2⟩
  simp only at HR hl h1 h2
  subst HR
  have KA :=hr k hk
  have DY:(pos k).toNat<ys.length:=by omega
  refine .inl ⟨_,hs k ys hk hl,rfl,by simp only[EG];exact hl,fun j hj=> ?_,fun y hy=> ?_⟩
  ·simp only
   rw[DS DY]
   by_cases WC:j=k
   ·subst WC;rw[AA rfl]
   ·have:=hr j (by omega)
    rw[AE (fun he=>WC (hi j k (by omega) hk (by omega))),h1 j (by omega)]
  ·simp only
   rw[DS DY,AE (fun he=>hy k (by omega) (by omega))]
   exact h2 y fun j hj=>hy j (by omega)
 ·rintro⟨kk,ys⟩ ⟨HR,hl,h1,h2⟩
  simp only at HR hl h1 h2
  subst HR
  exact he ys hl h1 h2
variable {ss:Ss}
theorem notes (h:VS s) {xs:List Int} (hx:∀ y∈xs,0<=y/\y<s.2.1.length)
  {f:Ss×Int×List (BitVec 64)×List Fr->Option ((Ss×Int×List (BitVec 64)×List Fr) ⊕ β)}
  (hs:∀ (k:Nat) ss,k<xs.length->f (ss,(k:Int),s.2.1,s.2.2)=Option.bind (C5 s ss (gl 0 xs k) (gl 0#64 s.2.1 (gl 0 xs k).toNat)) fun r=>some (.inl (r.1,(k:Int)+1,r.2.1,r.2.2)))
  (hr:RV ss) {Q:β->Prop}
  (hq:∀ W8,RV W8 ->(∀ f g y,In W8 f g y↔In ss f g y\/(y∈xs/\Pr s y (gl 0#64 s.2.1 y.toNat) f g))->∃ b,f (W8,(xs.length:Int),s.2.1,s.2.2)=some (.inr b)/\Q b):
  ∃ b,AH f (ss,0,s.2.1,s.2.2)=some b/\Q b:=by
 refine AK (f:=f) (fun k (st:Ss×Int×List (BitVec 64)×List Fr)=>st.2=((k:Int),s.2.1,s.2.2)/\RV st.1/\∀ f g y,In st.1 f g y↔In ss f g y\/(y∈xs.take k/\Pr s y (gl 0#64 s.2.1 y.toNat) f g)) Q xs.length ?_ ?_ (s:=(ss,0,s.2.1,s.2.2)) ⟨rfl,hr,fun f g y=>by simp⟩
 ·rintro k ⟨ss1,st⟩ hk ⟨hst,h1,h2⟩
  simp only at hst h1 h2
  subst hst
  have hxk:=hx _ (B3 (d:=0) hk)
  obtain⟨W8,g1,g2,g3⟩:=AO4 h h1 hxk.1 hxk.2 (gl 0#64 s.2.1 (gl 0 xs k).toNat)
  refine .inl ⟨(W8,(k:Int)+1,s.2.1,s.2.2),by rw[hs k ss1 hk,g1];rfl,by simp only[w_];rfl,g2,fun f g y=> ?_⟩
  simp only
  rw[g3,h2,IY (d:=0) xs k hk,FG,GG]
  constructor
  ·rintro ((h|⟨h,h'⟩)|⟨rfl,h⟩)
   ·exact .inl h
   ·exact .inr ⟨.inl h,h'⟩
   ·exact .inr ⟨.inr rfl,h⟩
  ·rintro (h|⟨h|rfl,h'⟩)
   ·exact .inl (.inl h)
   ·exact .inl (.inr ⟨h,h'⟩)
   ·exact .inr ⟨rfl,h'⟩
 ·rintro⟨ss1,st⟩ ⟨hst,h1,h2⟩
  simp only at hst h1 h2
  subst hst
  rw[VD] at h2
  exact hq ss1 h1 h2
variable {mv:List (Int×Int)}
theorem AV0 (h:VS s) (hr:RV ss) (hl:l.length<=1000000) {ys:List Int} (hy:∀ y∈ys,0<=y/\y<s.2.1.length) (n8:ys.length<=1000000) (hml:mv.length<=1000000) (S:Nat->List Int)
  (hS:∀ k,k<mv.length->B_ s (gl (0,0) mv k).2=some (S k,0)/\(S k).length<=1000000/\∀ y∈S k,0<=y/\y<s.2.1.length):
  ∃ W8,HY s ss l ys mv=some (W8,s.2.1,s.2.2)/\RV W8 /\∀ f g y,In W8 f g y↔In (qJ ss (zW s (AV l) s.2.2.length)) f g y\/((y∈ys\/∃ k,k<mv.length/\y∈S k)/\Pr s y (gl 0#64 s.2.1 y.toNat) f g):=by
 have hn:=h.n.2
 have hc:=AF7 s (AV l) s.2.2.length
 suffices hh:∃ b,HY s ss l ys mv=some b/\(b.2=(s.2.1,s.2.2)/\RV b.1/\∀ f g y,In b.1 f g y↔In (qJ ss (zW s (AV l) s.2.2.length)) f g y\/((y∈ys\/∃ k,k<mv.length/\y∈S k)/\Pr s y (gl 0#64 s.2.1 y.toNat) f g)) by
  obtain⟨b,h1,h2,h3,h4⟩:=hh
  exact⟨b.1,by rw[h1,←h2],h3,h4⟩
 unfold HY
 rw[uS h hl,AW,AXV hr (by omega),AW]
 have wrap:∀ {σ α:Type} {X:Option α} {Q:α->Prop},(∃ x,X=some x/\Q x)->∃ b,Option.map (Sum.inr (α:=σ)) X=some (Sum.inr b)/\Q b:=by
  rintro σ α X Q ⟨x,rfl,hx⟩;exact⟨x,rfl,hx⟩
 refine notes h hy ?_ (hr.drop _) ?_
 ·intro k ss1 hk
  have:=hy _ (B3 (d:=0) hk)
  simp only[HM]
  rw[ab,ab,ab,ah (e:=(k:Int)+1)]
 ·intro ss1 h1 h2
  simp only
  rw[af]
  refine wrap (AK (fun k (st:Ss×Int×List (BitVec 64)×List Fr)=>st.2=((k:Int),s.2.1,s.2.2)/\RV st.1/\∀ f g y,In st.1 f g y↔In (qJ ss (zW s (AV l) s.2.2.length)) f g y\/((y∈ys\/∃ j,j<k/\y∈S j)/\Pr s y (gl 0#64 s.2.1 y.toNat) f g)) _ mv.length ?_ ?_ ⟨rfl,h1,fun f g y=> ?_⟩)
  ·rintro k ⟨ss2,st⟩ hk ⟨hst,h3,h4⟩
   simp only at hst h3 h4
   subst hst
   obtain⟨g1,g2,g3⟩:=hS k hk
   left
   simp only[HM]
   rw[ab,ab]
   have e1:((s.1,s.2.1,s.2.2):Sp)=s:=rfl
   rw[e1,g1,AW]
   have key:=notes (β:=(Ss×Int×List (BitVec 64)×List Fr) ⊕ (Ss×List (BitVec 64)×List Fr)) h g3 (f:=fun s3:Ss×Int×List (BitVec 64)×List Fr=>
    if s3.2.1<((S k).length:Int) then
    if 0<=s3.2.1/\s3.2.1<((S k).length:Int) then
    if 0<=(gl (0:Int) (S k) s3.2.1.toNat)/\(gl (0:Int) (S k) s3.2.1.toNat)<(s3.2.2.1.length:Int) then
    (C5 (s.1,s3.2.2) s3.1 (gl (0:Int) (S k) s3.2.1.toNat) (gl (0#64:(BitVec 64)) s3.2.2.1 ((gl (0:Int) (S k) s3.2.1.toNat).toNat))).bind (fun r5=>
    some (Sum.inl ((r5.1,AG (s3.2.1+1),r5.2.1,r5.2.2))))
    else none
    else none
    else some (Sum.inr (Sum.inl ((s3.1,AG ((k:Int)+1),s3.2.2.1,s3.2.2.2))))) (ss:=ss2) (by
     intro j ss3 hj
     have:=g3 _ (B3 (d:=0) hj)
     simp only[HM]
     rw[ab,ab,ab,ah (e:=(j:Int)+1)]) h3
    (Q:=fun b=>∃ s',b=Sum.inl s' /\(s'.2=(((k+1:Nat):Int),s.2.1,s.2.2)/\RV s'.1/\∀ f g y,In s'.1 f g y↔In (qJ ss (zW s (AV l) s.2.2.length)) f g y\/((y∈ys\/∃ j,j<k+1/\y∈S j)/\Pr s y (gl 0#64 s.2.1 y.toNat) f g))) (by
     intro ss3 h5 h6
     simp only
     rw[af,ah (e:=(k:Int)+1)]
     refine⟨_,rfl,_,rfl,rfl,h5,fun f g y=> ?_⟩
     simp only
     rw[h6,h4]
     constructor
     ·rintro ((h|⟨h|⟨j,hj,hjy⟩,h'⟩)|⟨h,h'⟩)
      ·exact .inl h
      ·exact .inr ⟨.inl h,h'⟩
      ·exact .inr ⟨.inr ⟨j,by omega,hjy⟩,h'⟩
      ·exact .inr ⟨.inr ⟨k,by omega,h⟩,h'⟩
     ·rintro (h|⟨h|⟨j,hj,hjy⟩,h'⟩)
      ·exact .inl (.inl h)
      ·exact .inl (.inr ⟨.inl h,h'⟩)
      ·by_cases WC:j=k
       ·subst WC;exact .inr ⟨hjy,h'⟩
       ·exact .inl (.inr ⟨.inr ⟨j,by omega,hjy⟩,h'⟩))
   obtain⟨b,hb,s',rfl,hs'⟩:=key
   exact⟨s',hb,hs'⟩
  ·rintro⟨ss2,st⟩ ⟨hst,h3,h4⟩
   simp only at hst h3 h4
   subst hst
   simp only
   rw[af]
   exact⟨_,rfl,rfl,h3,h4⟩
  ·simp only
   rw[h2]
   constructor
   ·rintro (h|⟨h,h'⟩)
    ·exact .inl h
    ·exact .inr ⟨.inl h,h'⟩
   ·rintro (h|⟨h|⟨j,hj,_⟩,h'⟩)
    ·exact .inl h
    ·exact .inr ⟨h,h'⟩
    ·omega
theorem AY6 (s:Sp) {q:Int} (q0:0<=q) (q1:q<=4294967295) (b0:0<=b) (b1:b<4):DB s (q,b, -1, -1,0):=⟨by simp only;omega,.inl (by simp)⟩
variable {w:BitVec 64} {r:Ro}
theorem HI.gw (h:HI s q n ss r) (hl:∀ i∈l,i∈q.flatten) (hw:Rf s q w):Gw s l w:=by
 intro hn
 rcases hw with hw|⟨k,hk,p,x,o⟩
 ·exact absurd hw hn.1
 ·have hr:=o.FZ h.hb.bv.vs (h.hb.fit hk).1
  have h3:=hn.2.2
  rw[hr.2.2.1] at h3
  obtain⟨i,hi,he⟩:=FC.1 h3
  rw[h.hb.uniq (hl i hi) hk he] at hi
  exact⟨k,hi,p,x,o⟩
structure Rch (R:Int->Prop) (s:Sp) (q:Rows) (r:Ro) (l:List AI):Prop where
 ob:∀ i∈l,∀ la oa pa a x,OB s i la oa pa a x->R a->∀ j ya,1<=j->j<=x.1->CM (sz s.1) la (pa+j)=some ya->Wn (AV l) s (gl 0#64 s.2.1 ya.toNat)->R (((gl 0#64 s.2.1 ya.toNat).toNat:Int)-1)
 rt:∀ i:Nat,i<32->gl false r.1 i=true->Wn (AV l) s (gl 0#64 r.2 i)->R (((gl 0#64 r.2 i).toNat:Int)-1)
 sl:∀ y,Slot s q y->(fr s.2.2 (y / sz s.1)).1∉AV l->Wn (AV l) s (gl 0#64 s.2.1 y.toNat)->R (((gl 0#64 s.2.1 y.toNat).toNat:Int)-1)
def Dn (R:Int->Prop) (h:Hs) (l:List AI) (CB:AI) (h' :Hs) (u:Int):Prop:=
 ∃ l0 DL t to lb m mv ys ws r' W8 st,P9 R h.2.1 h.2.2.1 h.2.2.2.1 h.2.2.2.2.1 h.2.2.2.2.2.1 l CB l0 DL t to lb m mv ys ws r' /\Sin h.2.1 h.2.2.2.2.1 l DL t to lb m mv ys ws W8 ∧
  h' =(h.1,OS t ws l,ZY h.2.2.1 l CB to,AB5 h.2.2.2.1 CB to,W8,r',h.2.2.2.2.2.2.1,st,h.2.2.2.2.2.2.2.2)/\u=to.2.2.2.2-CB.2.2.2.2
variable {h':Hs} {CB:AI} {R:Int->Prop}
theorem Dn.hv {u:Int} (v:HV N h) (d:Dn R h l CB h' u):HV (N+1) h' :=by
 obtain⟨l0,DL,t,to,lb,m,mv,ys,ws,r',W8,st,h1,h2,rfl, -⟩:=d
 have:=AFC h.2.2.2.1 CB to
 have:=v.n1
 exact⟨v.g,h1.done h2,by simp only;rw[h1.okN.2];exact v.ql,by simp only;omega⟩
theorem Tg.cd (v:HV N h) (hN:N<=4294967295) (g:Tg h l CB):(∃ l0 DL,Cd h.2.1 h.2.2.1 l CB l0 DL)/\(CB∈h.2.2.1.flatten\/(CB.1=h.2.2.2.1/\CB.2.2.2.2=0/\0<=CB.2.1/\CB.2.1<h.2.2.1.length)):=by
 have hv:=v.vs
 rcases g.qT with ht|ht
 ·obtain⟨DL,l0,h1,h2⟩:=v.hi.hb.full CB ht
  have hf:=v.hi.hb.fit ht
  exact⟨⟨l0,DL,v.hi.hb,g.sub,hf.1,g.out,fun hw=>by omega,h1,h2⟩,.inl ht⟩
 ·have h0:gl ((0,0,0,0,0):AI) l 0∈l:=B3 (AAA.2 g.ne)
  obtain⟨⟨r0,r1⟩, -⟩:=(GF.1 v.hi.hb.bv.ok).1.row (g.sub _ h0)
  have hql:=v.ql
  obtain⟨-, -,htb⟩:=v.g.ru _ r0 (by omega)
  have hg:=v.g.n
  generalize hT:(ru h.1 (gl ((0,0,0,0,0):AI) l 0).2.1).2.2.2=T at htb ht
  have hTr:0<=T/\T<h.1.2.1.length:=by
   unfold H9 at htb
   rw[hT] at htb
   by_cases cA:(gl ((0,0,0,0,0):AI) l 0).2.1=(h.1.2.1.length:Int)-1
   ·have:T=(gl ((0,0,0,0,0):AI) l 0).2.1:=AB7 fun hn=>htb (.inl ⟨cA,hn⟩)
    omega
   ·have h1:¬(T<=(gl ((0,0,0,0,0):AI) l 0).2.1\/(h.1.2.1.length:Int)-1<T):=fun hn=>htb (.inr ⟨by omega,hn⟩)
    omega
  subst ht
  have hn0:=v.hi.n0
  have hn1:=v.n1
  refine⟨⟨[],[],v.hi.hb,g.sub,AY6 _ hn0 (by omega) hTr.1 (by omega),g.out,fun _=> ?_,.inl ⟨rfl,rfl⟩,rfl⟩,.inr ⟨rfl,rfl,hTr.1,by simp only;omega⟩⟩
  refine AJA.2 fun x hx=> ?_
  obtain⟨⟨x0,x1⟩,hxo⟩:=B6.1 hx
  simp only at hxo
  have:=v.hi.hb.bv.cov x x0 x1 (by rw[hxo];omega)
  obtain⟨i,hi,he⟩:=DH.1 this
  have:=v.hi.seq i hi
  omega
theorem bY {σ:Type} {X:Option α} {Q:α->Prop} (h:∃ x,X=some x/\Q x):∃ b,Option.map (Sum.inr (α:=σ)) X=some (Sum.inr b)/\Q b:=by
 obtain⟨x,rfl,hx⟩:=h;exact⟨x,rfl,hx⟩
theorem AIU {d:α} {n:Nat} (val:Nat->α) {a0:List α} {f:List α×Int->Option ((List α×Int) ⊕ β)} (hs:∀ (k:Nat) acc,k<n->acc.length=a0.length+k->f (acc,(k:Int))=some (.inl (acc++ [val k],(k:Int)+1))) {Q:β->Prop}
  (he:∀ acc,acc.length=a0.length+n->(∀ k,k<n->gl d acc (a0.length+k)=val k)->(∀ k,k<a0.length->gl d acc k=gl d a0 k)->∃ b,f (acc,(n:Int))=some (.inr b)/\Q b):∃ b,AH f (a0,0)=some b/\Q b:=by
 refine AK (f:=f) (fun k (st:List α×Int)=>st.2=(k:Int)/\st.1.length=a0.length+k/\(∀ j,j<k->gl d st.1 (a0.length+j)=val j)/\∀ j,j<a0.length->gl d st.1 j=gl d a0 j) Q n ?_ ?_ (s:=(a0,0)) ⟨rfl,rfl,fun j hj=>by omega,fun _ _=>rfl⟩
 ·rintro k ⟨acc,kk⟩ hk ⟨HR,hl,h1,h2⟩
  simp only at HR hl h1 h2
  subst HR
  refine .inl ⟨_,hs k acc hk hl,rfl,by simp only[PQ,Q5];omega,fun j hj=> ?_,fun j hj=> ?_⟩
  ·simp only
   by_cases WC:j=k
   ·subst WC
    rw[DJ (xs:=acc++ [val j]) (by rw[PQ,Q5];omega),AD7 (by omega)]
    simp only[hl,bL,AR9]
   ·rw[JM (by omega)];exact h1 j (by omega)
  ·simp only
   rw[JM (by omega)];exact h2 j hj
 ·rintro⟨acc,kk⟩ ⟨HR,hl,h1,h2⟩
  simp only at HR hl h1 h2
  subst HR
  exact he acc hl h1 h2
theorem A2G (u:List Bool) (k:Nat):(liv u k).Pairwise (·< ·):=by
 induction k with
 |zero=>exact List.Pairwise.nil
 |succ k ih=>
  unfold liv
  split
  ·rw[wY]
   refine⟨ih,ALO _ _,fun a ha b hb=> ?_⟩
   obtain⟨j,hj,_,rfl⟩:=wG.1 ha
   rw[GG.1 hb];omega
  ·rw[FP];exact ih
theorem AZX {l:List Int} (h:l.Pairwise (·< ·)) {j:Nat} (hj:j<l.length) (hk:k<l.length) (he:gl 0 l j=gl 0 l k):j=k:=by
 rw[DJ hj,DJ hk] at he
 rcases Nat.lt_trichotomy j k with DY|DY|DY
 ·have:=AFQ.1 h j k hj hk DY;omega
 ·exact DY
 ·have:=AFQ.1 h k j hk hj DY;omega
variable {x:Int×Int} {a p:Int} {ws:List (BitVec 64)} {DL m:List (Int×Int)} {l0 lb:List Int} {to:AI} {t:Sp}
theorem P9.obW {s0:Sp} {ys:List Int} {r' :Ro}
  (h:P9 R s0 q n ss r l CB l0 DL t to lb m mv ys ws r') (o:OB t to lb (DL++m) p a x):OB (t.1,ws,t.2.2) to lb (DL++m) p a x/\DB (t.1,ws,t.2.2) to:=by
 have hz:sz t.1=sz s0.1:=by rw[h.ci.sh]
 refine⟨⟨o.has,o.Q2.ACX fun p x a hp ha=>⟨ha, ?_⟩,o.ta,o.FZ⟩, ?_⟩
 ·have hr:=h.ci.Q2.ta hp
  have hc:=CH h.ci.cy.vs h.ci.cy.fit h.ci.has hr.2.2.1 ha
  refine h.w2 a hc.1.1 fun hm=> ?_
  rw[hz] at ha
  obtain⟨_,p',a',x',j,o',j1,j2,he⟩:=h.yT hr.2.2.1 ha hm
  have:=o'.IA
  rcases h.ci.Q2.apart hp (TA.app (m:=m) o'.ta) with ⟨h3,_⟩|h3|h3 <;> omega
 ·have hf:=h.ci.cy.fit
  refine⟨?_,hf.2⟩
  have:=hf.1
  have e1:ws.length=t.2.1.length:=by rw[h.wl,h.ci.wl]
  simp only
  rw[e1];exact this
theorem AQG {rest:Int×Ss×Ro×Int×(Int×Int×Int×Int×Int×Int×Int×Int×Int)×Bool} (hv:VS s) (hN:OkN q) (hl:∀ i∈l,i∈q.flatten/\0<=i.1) (HN:(AV l).Nodup) (lE:l.length<=1000000)
  (hq1:q.length<=4) (vR:q.flatten.length<=64) {fin:Int×Hs->Option β} {f:Int×Hs->Option ((Int×Hs) ⊕ β)}
  (hs:∀ s6:Int×Hs,f s6=if s6.1<(l.length:Int) then
   if 0<=s6.1/\s6.1<(l.length:Int) then
   (EO s6.2.2.2.1 ((gl ((0,0,0,0,0):(Int×Int×Int×Int×Int)) l s6.1.toNat).1)).bind (fun r9=>
   (HZ s6.2.2.1 ((gl ((0,0,0,0,0):(Int×Int×Int×Int×Int)) l s6.1.toNat).1)).bind (fun ID=>
   some (Sum.inl ((AG (s6.1+1),(s6.2.1,(s6.2.2.1.1,ID.2),r9.1,s6.2.2.2.2))))))
   else none
   else Option.map Sum.inr (fin s6)) {Q:β->Prop}
  (he:∃ b,fin ((l.length:Int),(c,gvs s (AV l),mD q (AV l),rest))=some b/\Q b):∃ b,AH f (0,(c,s,q,rest))=some b/\Q b:=by
 refine AK (f:=f) (fun k (st:Int×Hs)=>st=((k:Int),(c,gvs s (AV (l.take k)),mD q (AV (l.take k)),rest))) Q l.length ?_ ?_ (s:=(0,(c,s,q,rest))) ?_
 ·rintro k st hk rfl
  left
  rw[hs]
  simp only[HM]
  rw[ab,ab]
  have hm:=B3 (d:=((0,0,0,0,0):AI)) hk
  obtain⟨hi,hi0⟩:=hl _ hm
  have hrm:=hN.mD (AV (l.take k))
  have uC:(mD q (AV (l.take k))).flatten.length<=64:=by
   rw[hU];exact oG (rF _ _) vR
  have AGO:(gl ((0,0,0,0,0):AI) l k).1∉AV (l.take k):=by
   intro hm
   have h1:=HN
   rw[show AV l=AV (l.take k)++AV (gl ((0,0,0,0,0):AI) l k::l.drop (k+1)) from by
    conv=>lhs;rw[wF (d:=((0,0,0,0,0):AI)) l k hk]
    unfold AV;rw[YC],PB] at h1
   exact h1.2.2 _ hm _ (by unfold AV;rw[JS];exact oC) rfl
  rw[AQC (by rw[O_];omega) (fun x hx=>by have:=wJ uC x hx;omega) hrm.nd (PA.2 ⟨hi,AGO⟩),AW]
  have hvk:=(ALD (C:=AV (l.take k)) hv (fun n hn=>by
   obtain⟨i,hi,rfl⟩:=FC.1 hn
   exact (hl i (AA7 hi)).2)).1
  rw[APZ hvk _ (by omega),AW,ah]
  refine⟨_,rfl, ?_⟩
  rw[ACZ hk,AIM,AUS]
  rfl
 ·rintro st rfl
  rw[hs]
  simp only
  rw[af,VD]
  exact bY he
 ·simp only[AM7]
  rw[show AV []=[] from rfl,AXZ];rfl
abbrev hz0:Hs:=(((⟨#[]⟩:ByteArray),[],0),(0,[],[]),[],0,[],([],[]),0,(0,0,0,0,0,0,0,0,0),false)
theorem A58 (v:HV N h) (hN:N<=4294967295) (hl:l.length<=1000000) (hR:Rch R h.2.1 h.2.2.1 h.2.2.2.2.2.1 l):
  ∃ h' rep e,CO h l=some (h',rep,e)/\((e≠0/\h' =hz0)\/(e=0/\∃ CB u,Tg h l CB/\Dn R h l CB h' u)):=by
 suffices hh:∃ x,CO h l=some x/\((x.2.2≠0/\x.1=hz0)\/(x.2.2=0/\∃ CB u,Tg h l CB/\Dn R h l CB x.1 u)) by
  obtain⟨x,h1,h2⟩:=hh
  exact⟨x.1,x.2.1,x.2.2,h1,h2⟩
 obtain⟨CB,e,ht1,ht2⟩:=AQF v hl
 unfold CO zaW zaI
 rw[ht1,AW]
 rcases ht2 with he|⟨rfl,tg⟩
 ·rw[AA he];exact⟨_,rfl,.inl ⟨he,rfl⟩⟩
 rw[AE (show ¬¬((CB,(0:Int)).2=0) from DQ rfl)]
 obtain⟨⟨l0,DL,cd⟩,qT⟩:=tg.cd v hN
 obtain⟨l1,l2,l3⟩:=v.hi.hb.lens
 have hv:=v.vs
 have hn:=hv.n
 have W7:=VS.IK hv
 have GR:=tg.sub
 refine AK (fun k (st:Int×Int×(Int×Int×Int×Int))=>st.2.1=(k:Int)) _ l.length ?_ ?_ (s:=(0,0,(0,0,0,0))) rfl
 ·rintro k st hk hst
  left
  have hm:=GR _ (B3 (d:=((0,0,0,0,0):AI)) hk)
  have hf:=(v.hi.hb.fit hm).1.1
  rw[hst]
  simp only[HM]
  rw[ab,ab,AUB,V1 hv (by omega) (by omega),AW,ah (e:=(k:Int)+1)]
  exact⟨_,rfl,rfl⟩
 intro st hst
 rw[hst,af]
 refine bY ?_
 rw[wD hn.2,AW]
 by_cases MO:st.1>((C1 h.2.1.2.2).length:Int)
 ·rw[AA MO];exact⟨_,rfl,.inl ⟨by decide,rfl⟩⟩
 rw[AE MO,v.copy,AW,AII hv v.hi.ro hl,AW]
 obtain⟨ys,ne,tW,he2,he3⟩:=AIJ hv v.hi.rv hl
 rw[tW,AW]
 generalize hH:((liv h.2.2.2.2.2.1.1 32).filter fun x=>decide (Wn (AV l) h.2.1 (gl 0#64 h.2.2.2.2.2.1.2 (x-1).toNat)))=H
 have hHp:H.Pairwise (·< ·):=by rw[<-hH];exact (A2G _ _).filter _
 have hHm:∀ x,x∈H↔(∃ j:Nat,j<32/\gl false h.2.2.2.2.2.1.1 j=true/\x=(j:Int)+1)/\Wn (AV l) h.2.1 (gl 0#64 h.2.2.2.2.2.1.2 (x-1).toNat):=by
  intro x;rw[<-hH,Z1,wG,LD]
 have hHr:∀ k,k<H.length->1<=gl 0 H k/\gl 0 H k<=32:=by
  intro k hk
  obtain⟨⟨j,hj,_,he⟩,_⟩:=(hHm _).1 (B3 (d:=0) hk)
  omega
 have hHl:H.length<=32:=by
  have h1:=qL h.2.2.2.2.2.1.1 32
  rw[<-hH];exact oG (rF _ _) h1
 have n8:ys.length<=16384:=s_ he2 fun y hy=>by have:=((he3 y).1 hy).2.1;omega
 have hyr:∀ k,k<ys.length->0<=gl 0 ys k/\gl 0 ys k<h.2.1.2.1.length:=fun k hk=>((he3 _).1 (B3 (d:=0) hk)).2.1
 have hrl:=v.hi.ro.rl
 have hru:=v.hi.ro.ul
 dsimp only
 refine AIU (d:=0#64) (n:=H.length) (fun k=>gl 0#64 h.2.2.2.2.2.1.2 (gl 0 H k-1).toNat) ?_ ?_
 ·intro k acc hk AX4
  have:=hHr k hk
  simp only[SK] at AX4
  simp only[HM]
  rw[ab,ab,ah (e:=gl 0 H k-1),ab,AA (by simp only[Q5];omega),ah (e:=(k:Int)+1)]
 intro ws1 hw1 hw2 _
 simp only[SK,NV] at hw1 hw2
 dsimp only
 rw[af]
 refine bY ?_
 refine AIU (d:=0#64) (n:=ys.length) (fun k=>gl 0#64 h.2.1.2.1 (gl 0 ys k).toNat) ?_ ?_
 ·intro k acc hk AX4
  have:=hyr k hk
  simp only[HM]
  rw[ab,ab,ab,AA (by simp only[Q5];omega),ah (e:=(k:Int)+1)]
 intro words hw3 hw4 hw5
 dsimp only
 rw[af]
 refine bY ?_
 have hwk:∀ k,k<H.length->gl 0#64 words k=gl 0#64 h.2.2.2.2.2.1.2 (gl 0 H k-1).toNat:=fun k hk=>by rw[hw5 k (by omega),hw2 k hk]
 have hwy:∀ k,k<ys.length->gl 0#64 words (H.length+k)=gl 0#64 h.2.1.2.1 (gl 0 ys k).toNat:=fun k hk=>by rw[<-hw1];exact hw4 k hk
 have pA:∀ y∈ys,Slot h.2.1 h.2.2.1 y/\(fr h.2.1.2.2 (y / sz h.2.1.1)).1∉AV l:=by
  intro y hy
  obtain⟨⟨f,g,h1,h2,h3⟩,h4,_⟩:=(he3 y).1 hy
  obtain⟨h5,h6⟩:=v.hi.ins f g y h1
  have ff:=EP hv h4.1 h4.2
  exact⟨h5,fun hC=>h3 (bF.2 ⟨by rw[h6];exact ff,by rw[h6];exact hC⟩)⟩
 have grf:Grf R h.2.1 l:=by
  intro i hi la oa pa a x o hRa j ya j1 j2 nZ
  exact⟨v.hi.gw GR (v.hi.ref ya ⟨i,GR i hi,la,oa,pa,a,x,j,o,j1,j2,nZ⟩),hR.ob i hi la oa pa a x o hRa j ya j1 j2 nZ⟩
 have gws:∀ w∈words,Gw h.2.1 l w/\(Wn (AV l) h.2.1 w->R ((w.toNat:Int)-1)):=by
  intro w hw
  obtain⟨k,hk,rfl⟩:=EF (d:=0#64) hw
  rw[hw3,hw1] at hk
  by_cases hkH:k<H.length
  ·rw[hwk k hkH]
   obtain⟨⟨j,hj,hu,he⟩,_⟩:=(hHm _).1 (B3 (d:=0) hkH)
   rw[he,show ((j:Int)+1-1).toNat=j from by omega]
   exact⟨v.hi.gw GR (.inr (v.hi.root j hj hu).2),hR.rt j hj hu⟩
  ·obtain⟨k',rfl⟩:∃ k',k=H.length+k' :=⟨k-H.length,by omega⟩
   rw[hwy k' (by omega)]
   obtain⟨h1,h2⟩:=pA _ (B3 (d:=0) (k:=k') (xs:=ys) (by omega))
   exact⟨v.hi.gw GR (v.hi.ref _ h1),hR.sl _ h1 h2⟩
 obtain⟨res,hr1,hr2⟩:=ALC cd hl grf (ws:=words) (by omega) gws
 rw[hr1,AW]
 rcases hr2 with hr2|⟨t,to,lb,m,mv,out,rfl,ci,hol,him⟩
 ·rw[AA (by rw[hr2];decide)];exact⟨_,rfl,.inl ⟨by simp only;rw[hr2];decide,rfl⟩⟩
 rw[AE (show ¬¬((to,mv,out,(0:Int),t.2.1,t.2.2).2.2.2.1=0) from DQ rfl)]
 refine AO8 (d:=0#64) (n:=H.length) (fun k=>gl 0 H k-1) (fun k=>gl 0#64 out k) (fun k hk=>by have:=hHr k hk;omega) (fun j k hj hk he=>AZX hHp hj hk (by omega)) ?_ ?_
 ·intro k rs hk hrs
  have:=hHr k hk
  simp only[HM]
  rw[ab,ab,ab,ah (e:=gl 0 H k-1),ab,ah (e:=(k:Int)+1)]
 intro rs hrs A7O A59
 dsimp only
 rw[af]
 refine bY ?_
 refine AO8 (d:=0#64) (n:=ys.length) (fun k=>gl 0 ys k) (fun k=>gl 0#64 out (H.length+k)) (fun k hk=>by have:=hyr k hk;rw[ci.wl];exact this) (fun j k hj hk he=>AZX he2 hj hk he) ?_ ?_
 ·intro k ws hk hQ
  have:=hyr k hk
  rw[ci.wl] at hQ
  simp only[HM]
  rw[ab,ab,ah (e:=(H.length:Int)+k),ab,ab,ah (e:=(k:Int)+1),show ((H.length:Int)+k).toNat=H.length+k from by omega]
 intro ws hQ A7P A7Q
 rw[ci.wl] at hQ
 dsimp only
 rw[af]
 refine bY ?_
 have stp:P9 R h.2.1 h.2.2.1 h.2.2.2.1 h.2.2.2.2.1 h.2.2.2.2.2.1 l CB l0 DL t to lb m mv ys ws (h.2.2.2.2.2.1.1,rs):=by
  refine⟨v.hi,tg.pfx.pre v.hi.hb GR,qT,cd,ci,he3,hQ,fun y hy=> ?_,fun y y0 hy=> ?_,rfl,hrs,fun i hi hu=> ?_,fun i hi hu=> ?_⟩
  ·obtain⟨k,hk,rfl⟩:=EF (d:=0) hy
   rw[A7P k hk,←hwy k hk]
   exact him _ (by omega)
  ·refine A7Q y.toNat fun k hk he=>hy ?_
   rw[show y=gl 0 ys k from by omega]
   exact B3 hk
  ·by_cases hw:Wn (AV l) h.2.1 (gl 0#64 h.2.2.2.2.2.1.2 i)
   ·have hm:((i:Int)+1)∈H:=(hHm _).2 ⟨⟨i,hi,hu,rfl⟩,by rw[show ((i:Int)+1-1).toNat=i from by omega];exact hw⟩
    obtain⟨k,hk,he⟩:=EF (d:=0) hm
    have h1:=A7O k hk
    have h2:=hwk k hk
    rw[he,show ((i:Int)+1-1).toNat=i from by omega] at h1 h2
    simp only
    rw[h1,←h2]
    exact him k (by omega)
   ·refine .inl ⟨hw, ?_⟩
    refine A59 i fun k hk he=>hw ?_
    have h1:=((hHm _).1 (B3 (d:=0) hk)).2
    rw[he] at h1
    simpa using h1
  ·refine A59 i fun k hk he=> ?_
   obtain⟨⟨j,hj,hu',xN⟩,_⟩:=(hHm _).1 (B3 (d:=0) hk)
   rw[show j=i from by omega,hu] at hu'
   cases hu'
 have hvT:=stp.vsT
 have hz:sz t.1=sz h.2.1.1:=by rw[ci.sh]
 have hml:=ci.W3 cd
 have hS:∀ k,k<mv.length->∃ S:List Int,(B_ (t.1,ws,t.2.2) (gl (0,0) mv k).2=some (S,0)/\S.length<=1000000/\∀ y∈S,0<=y/\y<ws.length)∧
   ∀ y,y∈S↔∃ p x j,OB t to lb (DL++m) p (gl (0,0) mv k).2 x/\1<=j/\j<=x.1/\CM (sz h.2.1.1) lb (p+j)=some y:=by
  intro k hk
  obtain⟨i,la,oa,pa,p,cc⟩:=ci.uT k hk
  obtain⟨ow,fw⟩:=stp.obW cc.dst
  have hf:=ow.fields hvT fw
  have hro:=cc.dst.IA
  have RX:∀ j:Nat,j<(gl (0,0) m k).1.toNat->∃ y,CM (sz h.2.1.1) lb (p+(1+(j:Int)))=some y/\(0<=y/\y<ws.length):=by
   intro j hj
   obtain⟨y,hy⟩:=cc.dst.vN ci.cy.vs ci.cy.fit (k:=1+(j:Int)) (by omega) (by omega)
   have hc:=CH ci.cy.vs ci.cy.fit ci.has (by omega) hy
   rw[hz] at hy
   rw[ci.wl] at hc
   exact⟨y,hy,by rw[hQ];exact hc.1⟩
  have SN:∀ y,y∈YQ (sz t.1) lb p (gl (0,0) m k).1.toNat↔∃ j:Nat,j<(gl (0,0) m k).1.toNat/\CM (sz h.2.1.1) lb (p+(1+(j:Int)))=some y:=by
   intro y
   rw[hz]
   constructor
   ·intro hy
    obtain⟨j,hj,rfl⟩:=EF (d:=0) hy
    rw[LO] at hj
    obtain⟨y,hy1,_⟩:=RX j hj
    refine⟨j,hj, ?_⟩
    rw[qP hj,hy1];rfl
   ·rintro⟨j,hj,hy⟩
    have:gl 0 (YQ (sz h.2.1.1) lb p (gl (0,0) m k).1.toNat) j=y:=by rw[qP hj,hy];rfl
    rw[<-this]
    exact B3 (by rw[LO];exact hj)
  refine⟨_,⟨hf,by rw[LO];omega,fun y hy=> ?_⟩,fun y=> ?_⟩
  ·obtain⟨j,hj,hy⟩:=(SN y).1 hy
   obtain⟨y',hy1,hy2⟩:=RX j hj
   rw[hy] at hy1
   rw[HO hy1];exact hy2
  ·rw[SN]
   constructor
   ·rintro⟨j,hj,hy⟩
    exact⟨p,_,1+(j:Int),cc.dst,by omega,by omega,hy⟩
   ·rintro⟨p',x',j,o',j1,j2,hy⟩
    have A7R :=o'.IA
    have hpp:p=p' :=ci.same cc A7R.2.2.1 (by rw[<-hz];exact o'.FZ)
    subst hpp
    have hx:x' =gl (0,0) m k:=by
     rcases ci.Q2.apart o'.ta cc.dst.ta with ⟨_,h3⟩|h3|h3
     ·exact h3
     ·omega
     ·omega
    rw[hx] at j2
    exact⟨(j-1).toNat,by omega,by rw[show (1+((j-1).toNat:Int))=j from by omega];exact hy⟩
 have hSc:∃ S:Nat->List Int,∀ k,k<mv.length->(B_ (t.1,ws,t.2.2) (gl (0,0) mv k).2=some (S k,0)/\(S k).length<=1000000/\∀ y∈S k,0<=y/\y<ws.length)∧
   ∀ y,y∈S k↔∃ p x j,OB t to lb (DL++m) p (gl (0,0) mv k).2 x/\1<=j/\j<=x.1/\CM (sz h.2.1.1) lb (p+j)=some y:=
  ⟨fun k=>if hk:k<mv.length then Classical.choose (hS k hk) else [],fun k hk=>by simp only[dif_pos hk];exact Classical.choose_spec (hS k hk)⟩
 obtain⟨S,hS'⟩:=hSc
 obtain⟨W8,hn1,hn2,hn3⟩:=AV0 hvT v.hi.rv hl (ys:=ys) (fun y hy=>by simp only;rw[hQ];exact ((he3 y).1 hy).2.1) (by omega) (mv:=mv) (by omega) S (fun k hk=>(hS' k hk).1)
 have XU:((h.2.1.1,ws,t.2.2):Sp)=(t.1,ws,t.2.2):=by rw[ci.sh]
 rw[XU,hn1,AW]
 have hcf:zW (t.1,ws,t.2.2) (AV l) t.2.2.length=zW h.2.1 (AV l) h.2.1.2.2.length:=by
  unfold zW
  rw[ci.fl]
  refine AG3 fun x hx=> ?_
  obtain⟨x0,x1⟩:=NR.1 hx
  rw[jL]
  exact ci.inC cd x0 x1
 have sin:Sin h.2.1 h.2.2.2.2.1 l DL t to lb m mv ys ws W8 :=by
  refine⟨hn2,fun f g y=> ?_⟩
  rw[hn3]
  simp only
  rw[hcf]
  have:(∃ k,k<mv.length/\y∈S k)↔∃ k,k<mv.length/\∃ p x j,OB t to lb (DL++m) p (gl (0,0) mv k).2 x/\1<=j/\j<=x.1/\CM (sz h.2.1.1) lb (p+j)=some y:=
   ⟨fun ⟨k,hk,hy⟩=>⟨k,hk,((hS' k hk).2 y).1 hy⟩,fun ⟨k,hk,hy⟩=>⟨k,hk,((hS' k hk).2 y).2 hy⟩⟩
  rw[this]
 dsimp only
 rw[<-ci.sh]
 have hN0:=(GF.1 v.hi.hb.bv.ok).1
 refine AQG (s:=(t.1,ws,t.2.2)) (q:=h.2.2.1) hvT hN0 (fun i hi=>⟨GR i hi,(v.hi.hb.fit (GR i hi)).1.1.1⟩) tg.pfx.AY2 hl l1 l2 (fun s6=>rfl) ?_
 dsimp only
 have hrl:=tA v.hi.ro
 have uC:(mD h.2.2.1 (AV l)).flatten.length<=64:=by
  rw[hU];exact oG (rF _ _) l2
 have AIP:=ci.seq
 have z5:=ci.XK
 have hn0:=v.hi.n0
 have hn1:=v.n1
 have fin:∀ {x:Hs×(Int×Int×Int×Int)×Int} {Q:Rows} {n' :Int},ZY h.2.2.1 l CB to=Q->AB5 h.2.2.2.1 CB to=n' ->x.2.2=0->(∃ st,x.1=(h.1,gvs (t.1,ws,t.2.2) (AV l),Q,n',W8,(h.2.2.2.2.2.1.1,rs),h.2.2.2.2.2.2.1,st,h.2.2.2.2.2.2.2.2))→
   ((x.2.2≠0/\x.1=hz0)\/(x.2.2=0/\∃ CB u,Tg h l CB/\Dn R h l CB x.1 u)):=by
  rintro x Q n' rfl rfl h1 ⟨st,h2⟩
  exact .inr ⟨h1,CB,_,tg,l0,DL,t,to,lb,m,mv,ys,ws,_,W8,st,stp,sin,h2,rfl⟩
 by_cases c1:CB.2.2.2.2>0
 ·have ht:CB∈h.2.2.1.flatten:=by
   rcases qT with ht|ht
   ·exact ht
   ·omega
  rw[AA c1,zZ (by rw[O_];omega) (fun x hx=>by have:=wJ uC x hx;omega) (hN0.mD _) (PA.2 ⟨ht,cd.out⟩) AIP.symm z5.symm,AW,AW]
  dsimp only
  rw[hrl,AW]
  exact⟨_,rfl,fin (by unfold ZY;rw[AA c1]) (by unfold AB5;rw[AA c1]) rfl ⟨_,rfl⟩⟩
 ·rw[AE c1]
  have htn:CB.1=h.2.2.2.1/\0<=CB.2.1/\CB.2.1<h.2.2.1.length:=by
   rcases qT with ht|ht
   ·have:=(v.hi.hb.fit ht).2;omega
   ·exact⟨ht.1,ht.2.2⟩
  by_cases c2:to.2.2.2.2>0
  ·rw[AA c2,AUW (by rw[O_];omega) (fun x hx=>by have:=wJ uC x hx;omega) (by omega) (by rw[O_];omega) (fun i hi=>by
    have:=v.hi.seq i (PA.1 hi).1
    omega),AW,AW]
   dsimp only
   rw[hrl,AW,ah (e:=h.2.2.2.1+1)]
   exact⟨_,rfl,fin (by unfold ZY;rw[AE c1,AA c2]) (by unfold AB5;rw[AE c1,AA c2]) rfl ⟨_,rfl⟩⟩
  ·rw[AE c2,AW]
   dsimp only
   rw[hrl,AW]
   exact⟨_,rfl,fin (by unfold ZY;rw[AE c1,AE c2]) (by unfold AB5;rw[AE c1,AE c2]) rfl ⟨_,rfl⟩⟩
abbrev Cu:Type:=Int×Bool×Int
def AD1 (q:Rows):Int:=if gl [] q (q.length-1)=[] then -1 else (gl ((0,0,0,0,0):AI) (gl [] q (q.length-1)) ((gl [] q (q.length-1)).length-1)).1
def chF (q:Rows) (k:Cu):Cu:=if k.1=(q.length:Int)-1/\k.2.1=false then (k.1,true,AD1 q) else k
def chK (q:Rows):Nat->Cu->Cu
 |0,k=>chF q k
 |n+1,k=>if gl [] q k.1.toNat=[] then chK q n (k.1+1,false,0) else chF q k
def chL (q:Rows) (j:Cu):List AI:=(gl [] q j.1.toNat).filter fun i=>decide (j.1<(q.length:Int)-1\/i.1<=j.2.2)
def chB (z batch:Int):Int->Int->List AI->List AI
 |_,_,[]=>[]
 |f,n,i::r=>if f-cl z i.2.2.2.2<0\/(batch≠0/\n=batch) then [] else i::chB z batch (f-cl z i.2.2.2.2) (n+1) r
def wK (c:Cf) (s:Sp) (q:Rows) (j:Cu):List AI×Cu×Bool:=
 if chL q j=[] then ([],j,true) else (chB (sz s.1) (ru c j.1).2.2.1 (C1 s.2.2).length 0 (chL q j),j,false)
noncomputable def AFD (c:Cf) (s:Sp) (q:Rows) (j:Cu):Option (List AI×Cu×Bool):=
 if 0<=j.1/\j.1<(q.length:Int) then
 AH (σ:=List AI×Int) (β:=List AI×Cu×Bool) (fun s2=>
 if s2.2<((gl ([]:List AI) q j.1.toNat).length:Int) then
 if 0<=s2.2/\s2.2<((gl ([]:List AI) q j.1.toNat).length:Int) then
 if j.1<(AG ((q.length:Int)-1)) then
 if (s2.1.length+([gl ((0,0,0,0,0):AI) (gl ([]:List AI) q j.1.toNat) s2.2.toNat]:List AI).length)*40<=140737488355328 then
 some (Sum.inl ((s2.1++([gl ((0,0,0,0,0):AI) (gl ([]:List AI) q j.1.toNat) s2.2.toNat]:List AI),AG (s2.2+1))))
 else none
 else if (gl ((0,0,0,0,0):AI) (gl ([]:List AI) q j.1.toNat) s2.2.toNat).1<=j.2.2 then
 if (s2.1.length+([gl ((0,0,0,0,0):AI) (gl ([]:List AI) q j.1.toNat) s2.2.toNat]:List AI).length)*40<=140737488355328 then
 some (Sum.inl ((s2.1++([gl ((0,0,0,0,0):AI) (gl ([]:List AI) q j.1.toNat) s2.2.toNat]:List AI),AG (s2.2+1))))
 else none
 else some (Sum.inl ((s2.1,AG (s2.2+1))))
 else none
 else Option.map Sum.inr (if (s2.1.length:Int)=0 then
 some (([],j,true))
 else (DZ s).bind (fun r2=>
 if 0<=j.1/\j.1<(c.2.1.length:Int) then
 AH (σ:=List AI×Int×Int) (β:=List AI×Cu×Bool) (fun s3=>
 if s3.2.2<(s2.1.length:Int) then
 if 0<=s3.2.2/\s3.2.2<(s2.1.length:Int) then
 (CF s (gl ((0,0,0,0,0):AI) s2.1 s3.2.2.toNat)).bind (fun r3=>
 if (AG (s3.2.1-r3))<0 then
 some (Sum.inr ((s3.1,j,false)))
 else if ¬(gl ((0,0,0,0):(Nat×Int×Int×Int)) c.2.1 j.1.toNat).2.2.1=0 then
 if (s3.1.length:Int)=(gl ((0,0,0,0):(Nat×Int×Int×Int)) c.2.1 j.1.toNat).2.2.1 then
 some (Sum.inr ((s3.1,j,false)))
 else if (s3.1.length+([gl ((0,0,0,0,0):AI) s2.1 s3.2.2.toNat]:List AI).length)*40<=140737488355328 then
 some (Sum.inl ((s3.1++([gl ((0,0,0,0,0):AI) s2.1 s3.2.2.toNat]:List AI),AG (s3.2.1-r3),AG (s3.2.2+1))))
 else none
 else if (s3.1.length+([gl ((0,0,0,0,0):AI) s2.1 s3.2.2.toNat]:List AI).length)*40<=140737488355328 then
 some (Sum.inl ((s3.1++([gl ((0,0,0,0,0):AI) s2.1 s3.2.2.toNat]:List AI),AG (s3.2.1-r3),AG (s3.2.2+1))))
 else none)
 else none
 else some (Sum.inr ((s3.1,j,false)))) (([],(r2.length:Int),0))
 else none))) (([],0))
 else none
theorem AD2 (hv:VS s) (hx:∀ x∈q,x.length<=1000000) (hq:q.length<=1000000) (hw:∀ i∈q.flatten,0<=i.2.2.2.2/\i.2.2.2.2<=1000000) (hc:q.length<=c.2.1.length) {j:Cu} (j0:0<=j.1) (j1:j.1<q.length):AFD c s q j=some (wK c s q j):=by
 have hrl:=hx _ (B3 (d:=([]:List AI)) (k:=j.1.toNat) (xs:=q) (by omega))
 have hn:=hv.n
 have hwr:∀ i∈gl [] q j.1.toNat,0<=i.2.2.2.2/\i.2.2.2.2<=1000000:=fun i hi=>hw i (w9.2 ⟨_,B3 (by omega),hi⟩)
 unfold AFD
 rw[ab,ah (e:=(q.length:Int)-1)]
 refine (AK (fun k (st:List AI×Int)=>st=(((gl [] q j.1.toNat).take k).filter (fun i=>decide (j.1<(q.length:Int)-1\/i.1<=j.2.2)),(k:Int))) (fun b=>b=wK c s q j) (gl [] q j.1.toNat).length ?_ ?_ (s:=([],0)) (by simp)).elim fun b hb=>by rw[hb.1,hb.2]
 ·rintro k st hk rfl
  left
  have uC:=UK (fun i:AI=>decide (j.1<(q.length:Int)-1\/i.1<=j.2.2)) (gl [] q j.1.toNat) k
  simp only[HM]
  rw[ab,ab,gY (d:=((0,0,0,0,0):AI)) _ _ hk,ah (e:=(k:Int)+1)]
  by_cases c1:j.1<(q.length:Int)-1
  ·rw[AA c1,AA (by simp only[Q5];omega),AA (JR (.inl c1))]
   exact⟨_,rfl,rfl⟩
  ·rw[AE c1]
   by_cases c2:(gl ((0,0,0,0,0):AI) (gl [] q j.1.toNat) k).1<=j.2.2
   ·rw[AA c2,AA (by simp only[Q5];omega),AA (JR (.inr c2))]
    exact⟨_,rfl,rfl⟩
   ·rw[AE c2,AE (by simp only[LD];omega),FP]
    exact⟨_,rfl,rfl⟩
 ·rintro st rfl
  simp only
  rw[af,VD]
  have e1:(gl [] q j.1.toNat).filter (fun i=>decide (j.1<(q.length:Int)-1\/i.1<=j.2.2))=chL q j:=rfl
  rw[e1]
  refine bY ?_
  unfold wK
  have lE:(chL q j).length<=1000000:=oG (rF _ _) hrl
  have hlw:∀ i∈chL q j,0<=i.2.2.2.2/\i.2.2.2.2<=1000000:=fun i hi=>hwr i (Z1.1 hi).1
  by_cases h0:chL q j=[]
  ·rw[AA (by rw[h0];rfl),AA h0];exact⟨_,rfl,rfl⟩
  rw[AE (by have:=AAA.2 h0;omega),AE h0,wD hn.2,AW,ab]
  generalize hL:chL q j=L at lE hlw
  have hru:gl (0,0,0,0) c.2.1 j.1.toNat=ru c j.1:=rfl
  simp only[hru]
  generalize (ru c j.1).2.2.1=B
  have uC:(C1 s.2.2).length<=s.2.2.length:=V0 s.2.2 (-1)
  obtain⟨z1,z2⟩:=MF hv.sh
  have key:=AK (β:=List AI×Cu×Bool) (f:=fun s3:List AI×Int×Int=>
   if s3.2.2<(L.length:Int) then
   if 0<=s3.2.2/\s3.2.2<(L.length:Int) then
   (CF s (gl ((0,0,0,0,0):AI) L s3.2.2.toNat)).bind (fun r3=>
   if (AG (s3.2.1-r3))<0 then
   some (Sum.inr ((s3.1,j,false)))
   else if ¬B=0 then
   if (s3.1.length:Int)=B then
   some (Sum.inr ((s3.1,j,false)))
   else if (s3.1.length+([gl ((0,0,0,0,0):AI) L s3.2.2.toNat]:List AI).length)*40<=140737488355328 then
   some (Sum.inl ((s3.1++([gl ((0,0,0,0,0):AI) L s3.2.2.toNat]:List AI),AG (s3.2.1-r3),AG (s3.2.2+1))))
   else none
   else if (s3.1.length+([gl ((0,0,0,0,0):AI) L s3.2.2.toNat]:List AI).length)*40<=140737488355328 then
   some (Sum.inl ((s3.1++([gl ((0,0,0,0,0):AI) L s3.2.2.toNat]:List AI),AG (s3.2.1-r3),AG (s3.2.2+1))))
   else none)
   else none
   else some (Sum.inr ((s3.1,j,false))))
   (fun k (st:List AI×Int×Int)=>st.2.2=(k:Int)/\st.1.length=k/\(0<=st.2.1/\st.2.1<=64)/\chB (sz s.1) B (C1 s.2.2).length 0 L=st.1++chB (sz s.1) B st.2.1 k (L.drop k))
   (fun b=>b=(chB (sz s.1) B (C1 s.2.2).length 0 L,j,false)) L.length ?_ ?_ (s:=([],((C1 s.2.2).length:Int),0)) ⟨rfl,rfl,by simp only;omega,by simp⟩
  ·obtain⟨b,cA,hb2⟩:=key
   exact⟨b,cA,hb2⟩
  ·rintro k ⟨acc,f,kk⟩ hk ⟨HR,NX,hf,he⟩
   simp only at HR NX hf he
   subst HR
   have hm:=hlw _ (B3 (d:=((0,0,0,0,0):AI)) hk)
   have hcl:=ZW z1 hm.1
   have Y9:L.drop k=gl ((0,0,0,0,0):AI) L k::L.drop (k+1):=by
    rw[DJ hk];exact AJB hk
   rw[Y9,chB] at he
   simp only[HM]
   rw[ab,ab,V1 hv hm.1 hm.2,AW,ah (e:=f-cl (sz s.1) (gl ((0,0,0,0,0):AI) L k).2.2.2.2),ah (e:=(k:Int)+1)]
   by_cases c1:f-cl (sz s.1) (gl ((0,0,0,0,0):AI) L k).2.2.2.2<0
   ·rw[AA (.inl c1),FP] at he
    rw[AA c1]
    exact .inr ⟨_,rfl,by rw[he]⟩
   rw[AE c1]
   have VY:∀ h:¬(f-cl (sz s.1) (gl ((0,0,0,0,0):AI) L k).2.2.2.2<0\/(B≠0/\(k:Int)=B)),(fun (st:List AI×Int×Int)=>st.2.2=((k+1:Nat):Int)/\st.1.length=k+1/\(0<=st.2.1/\st.2.1<=64)/\chB (sz s.1) B (C1 s.2.2).length 0 L=st.1++chB (sz s.1) B st.2.1 (k+1:Nat) (L.drop (k+1))) (acc++ [gl ((0,0,0,0,0):AI) L k],f-cl (sz s.1) (gl ((0,0,0,0,0):AI) L k).2.2.2.2,(k:Int)+1):=by
    intro h
    rw[AE h] at he
    refine⟨rfl,by simp [NX],by simp only;omega, ?_⟩
    simp only
    rw[he,I0];rfl
   by_cases c2:B=0
   ·rw[AE (DQ c2),AA (by simp only[Q5];omega)]
    exact .inl ⟨_,rfl,VY (by omega)⟩
   ·rw[AA c2]
    by_cases c3:(acc.length:Int)=B
    ·rw[AA (.inr ⟨c2,by omega⟩),FP] at he
     rw[AA c3]
     exact .inr ⟨_,rfl,by rw[he]⟩
    ·rw[AE c3,AA (by simp only[Q5];omega)]
     exact .inl ⟨_,rfl,VY (by omega)⟩
  ·rintro⟨acc,f,kk⟩ ⟨HR,NX,hf,he⟩
   simp only at HR NX hf he
   subst HR
   rw[List.drop_length,chB,FP] at he
   simp only
   rw[af]
   exact⟨_,rfl,by rw[he]⟩
theorem qV (hx:∀ x∈q,x.length<=1000000) (b0:0<=b) (b1:b<q.length):
  B4 q b=some (if gl [] q b.toNat=[] then (((0,0,0,0,0):AI),false) else (gl ((0,0,0,0,0):AI) (gl [] q b.toNat) ((gl [] q b.toNat).length-1),true)):=by
 have hl:=hx (gl [] q b.toNat) (B3 (by omega))
 unfold B4 zam zt
 rw[af,af,ab]
 by_cases h:gl [] q b.toNat=[]
 ·rw[AA (by rw[h];rfl),AA h]
 ·have hp:=AAA.2 h
  rw[af,ab,ab,ah (e:=((gl [] q b.toNat).length:Int)-1),ab,AE h,show (((gl [] q b.toNat).length:Int)-1).toNat=(gl [] q b.toNat).length-1 from by omega]
theorem AO9 (hx:∀ x∈q,x.length<=1000000) (hq:q.length<=1000000) (hq0:1<=q.length) {k:Cu} {X:Cu->Option (List AI×Cu×Bool)}:
  Option.bind (α:=Cu ⊕ (List AI×Cu×Bool)) (if k.1=(AG ((q.length:Int)-1)) then
   if (!k.2.1)=true then
   (B4 q (AG ((q.length:Int)-1))).bind (fun r1=>
   if r1.2=true then
   some (Sum.inl ((k.1,true,r1.1.1)))
   else some (Sum.inl ((k.1,true,(-1)))))
   else some (Sum.inl k)
   else some (Sum.inl k)) (fun q=>match q with
   |Sum.inl j1=>X j1
   |Sum.inr b1=>some b1)=X (chF q k):=by
 unfold chF
 rw[ah (e:=(q.length:Int)-1)]
 by_cases c1:k.1=(q.length:Int)-1
 ·rw[AA c1]
  cases h2:k.2.1 with
  |true=>rw[AE (by decide),AE (by simp)];rfl
  |false=>
   have e1:k.1=(q.length:Int)-1/\false=false:=⟨c1,rfl⟩
   rw[AA (by decide),qV hx (by omega) (by omega),AW,AA e1,show ((q.length:Int)-1).toNat=q.length-1 from by omega]
   unfold AD1
   by_cases h:gl [] q (q.length-1)=[]
   ·rw[AA h,AA h];rfl
   ·rw[AE h,AE h];rfl
 ·rw[AE c1,AE (fun h=>c1 h.1)];rfl
theorem AQH (hv:VS s) (hx:∀ x∈q,x.length<=1000000) (hq:q.length<=1000000) (hw:∀ i∈q.flatten,0<=i.2.2.2.2/\i.2.2.2.2<=1000000) (hc:q.length<=c.2.1.length) {k:Cu} (k0:0<=k.1) (k1:k.1<q.length):
  DC c s q k=some (wK c s q (chK q (q.length-1-k.1.toNat) k))/\k.1<=(chK q (q.length-1-k.1.toNat) k).1/\(chK q (q.length-1-k.1.toNat) k).1<q.length:=by
 have hF:∀ k,(chF q k).1=k.1:=fun k=>by unfold chF;split <;> rfl
 suffices hh:∃ b,DC c s q k=some b/\(b=wK c s q (chK q (q.length-1-k.1.toNat) k)/\k.1<=(chK q (q.length-1-k.1.toNat) k).1/\(chK q (q.length-1-k.1.toNat) k).1<q.length) by
  obtain⟨b,h1,rfl,h2⟩:=hh
  exact⟨h1,h2⟩
 unfold DC zd zah zo zaZ
 refine AK (fun t (st:Cu)=>st.1=k.1+(t:Int)/\chK q (q.length-1-k.1.toNat-t) st=chK q (q.length-1-k.1.toNat) k) _ (q.length-1-k.1.toNat) ?_ ?_ (s:=k) ⟨by simp,by simp⟩
 ·rintro t st ht ⟨h1,h2⟩
  rw[AA (by rw[ah (e:=(q.length:Int)-1)];omega),ab]
  rw[show q.length-1-k.1.toNat-t=(q.length-1-k.1.toNat-(t+1))+1 from by omega,chK] at h2
  by_cases c1:gl [] q st.1.toNat=[]
  ·rw[AA (by rw[c1];rfl),ah (e:=st.1+1)]
   rw[AA c1] at h2
   exact .inl ⟨_,rfl,by simp only;omega,h2⟩
  ·rw[AE (by have:=AAA.2 c1;omega)]
   rw[AE c1] at h2
   right
   refine bY ?_
   rw[<-h2]
   refine⟨_,(AO9 hx hq (by omega) (k:=st) (X:=AFD c s q)).trans (AD2 hv hx hq hw hc (by rw[hF];omega) (by rw[hF];omega)),rfl,by rw[hF];omega,by rw[hF];omega⟩
 ·rintro st ⟨h1,h2⟩
  rw[AE (by rw[ah (e:=(q.length:Int)-1)];omega)]
  rw[bL,chK] at h2
  refine bY ?_
  rw[<-h2]
  exact⟨_,(AO9 hx hq (by omega) (k:=st) (X:=AFD c s q)).trans (AD2 hv hx hq hw hc (by rw[hF];omega) (by rw[hF];omega)),rfl,by rw[hF];omega,by rw[hF];omega⟩
def cmp (c:Cf):Bool:=decide ((ru c ((c.2.1.length:Int)-1)).1=0)
theorem AV1 {x:Nat} (h:VV x):FD x 0=some .eq↔x=0:=by
 have hx:x<9223372036854775808:=by rcases h with h|h <;> omega
 rw[AL9]
 constructor
 ·rintro⟨_,_,h3⟩
  rw[W0 hx,W0 (by decide)] at h3
  have h4:vv x=vv 0:=by omega
  rcases ALY x with h0|h0
  ·exact h0
  ·have:=mB h0;omega
 ·rintro rfl
  exact⟨by decide,by decide,rfl⟩
theorem wL (g:Good c):D5 c=some 0:=by
 have hn:=g.n.2
 have hz:=g.nm.2.1
 rw[ACU (by omega) (by omega) g.sh,g.YV]
theorem qW (g:Good c):CX c=some (cmp c):=by
 have hn:=g.n
 unfold CX zaK zaa
 rw[wL g,AW,AA rfl,ah (e:=(c.2.1.length:Int)-1),ab]
 have hr:gl (0,0,0,0) c.2.1 ((c.2.1.length:Int)-1).toNat=ru c ((c.2.1.length:Int)-1):=rfl
 rw[hr]
 unfold cmp
 congr 1
 rw[jL]
 exact AV1 (g.ru _ (by omega) (by omega)).1
def AFE (c:Cf) (b n:Int):Int:=if (ru c b).1=0 then 0 else (FR (ru c b).1 n.toNat:Int)
theorem AY7 (g:Good c) (b0:0<=b) (b1:b<c.2.1.length) (n0:1<=n) (n1:n<=64):0<=AFE c b n/\AFE c b n<=64:=by
 unfold AFE
 rcases (g.ru b b0 b1).1 with h|⟨h0,h1⟩
 ·rw[AA h];omega
 ·have:=AZL (n:=n.toNat) h1 (by omega)
  rw[af];omega
theorem AY8 (g:Good c) (b0:0<=b) (b1:b<c.2.1.length) (n0:1<=n) (n1:n<=64):F7 c b n=some (AFE c b n,0):=by
 have hn:=g.n.2
 have hz:=g.nm.2.1
 have hr:gl (0,0,0,0) c.2.1 b.toNat=ru c b:=rfl
 have hv:=(g.ru b b0 b1).1
 unfold F7 AFE
 rw[wL g,AW,AE (by simp),af,af,af,af,ab,hr]
 generalize (ru c b).1=x at hv
 rcases hv with rfl|⟨h0,h1⟩
 ·unfold FU zaf
  rw[jD,jC (by omega)]
  simp only[AW]
  rw[AE (by decide),af,af,AA (by decide),AA trivial]
  rfl
 ·rw[zM h0 h1 n0 n1,af]
  rfl
def uV (s:Sp) (i:AI) (n:Int):Int:=cl (sz s.1) (i.2.2.2.2+n)-cl (sz s.1) i.2.2.2.2
def GrF (v:Bool) (F u L k f:Int):Prop:=k=0\/(v=true/\u+k<=F-(u+k))\/(v=false/\L<=F-(u+k)/\f+k<=F-(u+k))
instance (v:Bool) (F u L k f:Int):Decidable (GrF v F u L k f):=by unfold GrF;infer_instance
def GrT (v:Bool) (s:Sp) (q:Rows) (i:AI) (n:Int):Prop:=GrF v s.2.2.length (used s) (lrg (sz s.1) q.flatten) (uV s i n) (cl (sz s.1) i.2.2.2.2)
instance (v:Bool) (s:Sp) (q:Rows) (i:AI) (n:Int):Decidable (GrT v s q i n):=by unfold GrT;infer_instance
structure Qq (s:Sp) (q:Rows):Prop where
 vs:VS s
 len:q.length<=1000
 A5A:∀ x∈q,x.length<=1000
 w:∀ i∈q.flatten,0<=i.2.2.2.2/\i.2.2.2.2<=16384
theorem Qq.lrg {s:Sp} {q:Rows} (h:Qq s q):0<=lrg (sz s.1) q.flatten/\Go.Proofs.YtokeceeccmgcmaaGreatDoor.lrg (sz s.1) q.flatten<=20000:=by
 refine⟨(A24 _).1,(AUA _).2 ⟨by omega,fun i hi=> ?_⟩⟩
 obtain⟨w0,w1⟩:=h.w i hi
 obtain⟨z1,z2⟩:=MF h.vs.sh
 have:=ZW z1 w0
 omega
theorem Qq.ref (h:Qq s q):GO s q=some (Go.Proofs.YtokeceeccmgcmaaGreatDoor.lrg (sz s.1) q.flatten):=by
 have h1:q.length<=1000000:=by have:=h.len;omega
 have h2:∀ x∈q,x.length<=1000000:=fun x hx=>by have:=h.A5A x hx;omega
 have h3:∀ i∈q.flatten,0<=i.2.2.2.2/\i.2.2.2.2<=1000000:=fun i hi=>by have:=h.w i hi;omega
 exact AI7 h.vs h1 h2 h3
theorem z7 {v:Bool} (hr:CX c=some v) (h:Qq s q) (w0:0<=i.2.2.2.2) (w1:i.2.2.2.2<=16384) (n0:1<=n) (n1:n<=48):
  CG c s q i n=some (decide (GrT v s q i n)):=by
 suffices hh:∃ b,CG c s q i n=some b/\(b=true↔GrF v s.2.2.length (used s) (lrg (sz s.1) q.flatten) (uV s i n) (cl (sz s.1) i.2.2.2.2)) by
  obtain⟨b,h1,h2⟩:=hh
  rw[h1]
  congr 1
  by_cases hG:GrT v s q i n
  ·rw[JR hG];exact h2.2 hG
  ·rw[P_ hG]
   cases b with
   |true=>exact absurd (h2.1 rfl) hG
   |false=>rfl
 have hn:=h.vs.n.2
 obtain⟨z1,z2⟩:=MF h.vs.sh
 have c1:=ZW z1 (show 0<=i.2.2.2.2+n by omega)
 have c2:=ZW z1 w0
 have c3:=ANN (z:=sz s.1) (by omega) (show i.2.2.2.2<=i.2.2.2.2+n by omega)
 obtain⟨l0,l1⟩:=h.lrg
 have u0:=AXQ s
 have uC:(C1 s.2.2).length<=s.2.2.length:=V0 s.2.2 (-1)
 have hu:(s.2.2.length:Int)-(C1 s.2.2).length=used s:=rfl
 unfold CG
 rw[AI5 h.vs w0 w1 (by omega) (by omega),AW]
 have hk:cl (sz s.1) (i.2.2.2.2+n)-cl (sz s.1) i.2.2.2.2=uV s i n:=rfl
 rw[hk]
 have hk0:0<=uV s i n:=by omega
 have hk1:uV s i n<=20000:=by omega
 generalize uV s i n=k at hk hk0 hk1 ⊢
 by_cases e:k=0
 ·rw[AA e];exact⟨_,rfl,oJ rfl (.inl e)⟩
 rw[AE e,ATX hn,hr,h.ref,V1 h.vs w0 (by omega)]
 simp only[AW]
 rw[hu]
 have hub:used s<=64:=by omega
 generalize used s=u at hu u0 hub ⊢
 generalize Go.Proofs.YtokeceeccmgcmaaGreatDoor.lrg (sz s.1) q.flatten=L at l0 l1 ⊢
 generalize hF:cl (sz s.1) i.2.2.2.2=f at c2 ⊢
 rw[ah (e:=u+k),ah (e:=(s.2.2.length:Int)-(u+k)),ah (e:=2*(u+k)),ah (e:=f+k)]
 generalize (s.2.2.length:Int)=F at hu hn ⊢
 unfold GrF
 by_cases g0:u+k>F
 ·rw[AA g0]
  refine⟨_,rfl,AGA (by decide) ?_⟩
  rintro (h|⟨_,h⟩|⟨_,h,_⟩) <;> omega
 rw[AE g0]
 cases v with
 |true=>
  rw[AA rfl]
  refine⟨_,rfl, ?_⟩
  rw[P5]
  constructor
  ·intro h;exact .inr (.inl ⟨rfl,by omega⟩)
  ·rintro (h|⟨_,h⟩|⟨h,_⟩)
   ·exact absurd h e
   ·omega
   ·cases h
 |false=>
  rw[AE (show ¬false=true by decide)]
  refine⟨_,rfl, ?_⟩
  rw[P5]
  constructor
  ·intro h;refine .inr (.inr ⟨rfl, ?_, ?_⟩) <;> split at h <;> omega
  ·rintro (h|⟨h,_⟩|⟨_,h1,h2⟩)
   ·exact absurd h e
   ·cases h
   ·split <;> omega
def yng (q:Rows):AI:=gl ((0,0,0,0,0):AI) (gl [] q 0) ((gl [] q 0).length-1)
def opn (c:Cf) (s:Sp) (q:Rows):Prop:=gl [] q 0≠[]/\(AFE c 0 s.2.2.length=0\/(yng q).2.2.2.2<AFE c 0 s.2.2.length*sz s.1)
instance (c:Cf) (s:Sp) (q:Rows):Decidable (opn c s q):=by unfold opn;infer_instance
def uW (c:Cf) (s:Sp) (q:Rows) (n k:Int):Int×AI:=
 if opn c s q then (if GrT (cmp c) s q (yng q) k then (1,yng q) else (3,(0,0,0,0,0)))
 else if (ru c 0).2.1≠0/\(ru c 0).2.1<=(gl [] q 0).length then (3,(0,0,0,0,0))
 else if GrT (cmp c) s q (n,0, -1, -1,0) k then (2,(n,0, -1, -1,0)) else (3,(0,0,0,0,0))
theorem AFF (g:Good c) (h:Qq s q) (hq:1<=q.length) {k:Int} (k0:1<=k) (k1:k<=48):CD c s q n k=some (uW c s q n k):=by
 have hn:=h.vs.n
 have hg:=g.n
 have hx:∀ x∈q,x.length<=1000000:=fun x hx=>by have:=h.A5A x hx;omega
 have hc:=AY7 g (b:=0) (n:=s.2.2.length) (by omega) (by omega) (by omega) (by omega)
 unfold CD zn zaQ za0 uW
 rw[AY8 g (b:=0) (n:=s.2.2.length) (by omega) (by omega) (by omega) (by omega),AW,qV hx (b:=0) (by omega) (by omega),AW]
 simp only[show (0:Int).toNat=0 from rfl]
 have hr:gl (0,0,0,0) c.2.1 0=ru c 0:=rfl
 rw[hr]
 have D8:∀ (T:Option (Int×AI)) (X:Int×AI),(CG c s q (n,0, -1, -1,0) k).bind (fun r5=>if (!r5)=true then some ((3,(0,0,0,0,0)):Int×AI) else some ((2,(n,0, -1, -1,0)):Int×AI))=some (if GrT (cmp c) s q (n,0, -1, -1,0) k then (2,(n,0, -1, -1,0)) else (3,(0,0,0,0,0))):=by
  intro T X
  rw[z7 (qW g) h (i:=(n,0, -1, -1,0)) (by simp) (by simp) k0 k1,AW]
  by_cases hG:GrT (cmp c) s q (n,0, -1, -1,0) k
  ·rw[JR hG,AA hG];rfl
  ·rw[P_ hG,AE hG];rfl
 have AZY:(if 0<=(0:Int)/\(0:Int)<(c.2.1.length:Int) then
   if ¬(ru c 0).2.1=0 then
   if 0<=(0:Int)/\(0:Int)<(q.length:Int) then
   if ((gl ([]:List AI) q 0).length:Int)≥(ru c 0).2.1 then
   some ((3,(0,0,0,0,0)):Int×AI)
   else (CG c s q (n,0,(-1),(-1),0) k).bind (fun r5=>
   if (!r5)=true then
   some ((3,(0,0,0,0,0)):Int×AI)
   else some ((2,(n,0,(-1),(-1),0))))
   else none
   else (CG c s q (n,0,(-1),(-1),0) k).bind (fun r6=>
   if (!r6)=true then
   some ((3,(0,0,0,0,0)):Int×AI)
   else some ((2,(n,0,(-1),(-1),0))))
   else none)=some (if (ru c 0).2.1≠0/\(ru c 0).2.1<=(gl [] q 0).length then (3,(0,0,0,0,0))
   else if GrT (cmp c) s q (n,0, -1, -1,0) k then (2,(n,0, -1, -1,0)) else (3,(0,0,0,0,0))):=by
  rw[ab,D8 none (0,(0,0,0,0,0))]
  by_cases c1:(ru c 0).2.1=0
  ·have e:¬((ru c 0).2.1≠0/\(ru c 0).2.1<=(gl [] q 0).length):=fun h=>h.1 c1
   rw[AE (DQ c1),AE e]
  ·rw[AA c1,ab]
   by_cases c2:((gl ([]:List AI) q 0).length:Int)≥(ru c 0).2.1
   ·rw[AA c2,AA ⟨c1,c2⟩]
   ·have e:¬((ru c 0).2.1≠0/\(ru c 0).2.1<=(gl [] q 0).length):=fun h=>c2 h.2
    rw[AE c2,AE e]
 by_cases h0:gl [] q 0=[]
 ·have GJ:¬opn c s q:=fun hh=>hh.1 h0
  have e1:(if gl ([]:List AI) q 0=[] then (((0,0,0,0,0):AI),false) else (gl ((0,0,0,0,0):AI) (gl [] q 0) ((gl [] q 0).length-1),true))=(((0,0,0,0,0):AI),false):=AA h0
  rw[e1,AE (show ¬((((0,0,0,0,0):AI),false):AI×Bool).2=true by decide),AE GJ]
  exact AZY
 ·have e1:(if gl ([]:List AI) q 0=[] then (((0,0,0,0,0):AI),false) else (gl ((0,0,0,0,0):AI) (gl [] q 0) ((gl [] q 0).length-1),true))=(yng q,true):=AE h0
  have hlp:=AAA.2 h0
  have hy:yng q∈q.flatten:=w9.2 ⟨gl [] q 0,B3 (by omega),B3 (by omega)⟩
  have hyw:=h.w _ hy
  rw[e1,AA rfl,zS h.vs.sh _ hc.1 (by omega),AW]
  by_cases c1:AFE c 0 s.2.2.length=0\/(yng q).2.2.2.2<AFE c 0 s.2.2.length*sz s.1
  ·have GJ:opn c s q:=⟨h0,c1⟩
   rw[JR c1,AA rfl,AA GJ,z7 (qW g) h (i:=yng q) hyw.1 hyw.2 k0 k1,AW]
   by_cases hG:GrT (cmp c) s q (yng q) k
   ·rw[JR hG,AA hG];rfl
   ·rw[P_ hG,AE hG];rfl
  ·have GJ:¬opn c s q:=fun hh=>c1 hh.2
   rw[P_ c1,AE (by decide),AE GJ]
   exact AZY
def AOA (c:Cf) (q:Rows):List Int:=(GK q.length).filter fun b=>decide ((ru c b).2.1≠0/\(ru c b).2.1<(gl [] q b.toNat).length)
theorem AY9 (g:Good c) (hq:q.length=c.2.1.length) (hx:∀ x∈q,x.length<=1000000):GX c q=some (AOA c q):=by
 have hg:=g.n
 unfold GX zaz
 rw[wL g,AW,AE (DQ rfl),af]
 refine (AK (fun k (st:List Int×Int)=>st=((GK k).filter (fun b=>decide ((ru c b).2.1≠0/\(ru c b).2.1<(gl [] q b.toNat).length)),(k:Int))) (fun b=>b=AOA c q) q.length ?_ ?_ (s:=([],0)) rfl).elim fun b hb=>by rw[hb.1,hb.2]
 ·rintro k st hk rfl
  left
  have lE:((GK k).filter (fun b=>decide ((ru c b).2.1≠0/\(ru c b).2.1<(gl [] q b.toNat).length))).length<=k:=by
   have:=rF (fun b=>decide ((ru c b).2.1≠0/\(ru c b).2.1<(gl [] q b.toNat).length)) (GK k)
   rw[IE] at this;exact this
  have hr:gl (0,0,0,0) c.2.1 k=ru c (k:Int):=rfl
  simp only[HM]
  rw[ab,ab,ab,hr,ah (e:=(k:Int)+1),KO,AAB]
  by_cases c1:(ru c (k:Int)).2.1=0
  ·rw[AE (DQ c1)]
   refine⟨_,rfl, ?_⟩
   simp [c1]
  ·rw[AA c1]
   by_cases c2:((gl ([]:List AI) q k).length:Int)>(ru c (k:Int)).2.1
   ·rw[AA c2,AA (by simp only[Q5];omega)]
    refine⟨_,rfl, ?_⟩
    simp [c1,c2]
   ·rw[AE c2]
    refine⟨_,rfl, ?_⟩
    simp [c1,c2]
 ·rintro st rfl
  simp only
  rw[af]
  exact⟨_,rfl,rfl⟩
inductive Rea (s:Sp) (q:Rows) (r:Ro) (l:List AI):Int->Prop
 |rt (i:Nat) (hi:i<32) (hu:gl false r.1 i=true) (hw:Wn (AV l) s (gl 0#64 r.2 i)):Rea s q r l (((gl 0#64 r.2 i).toNat:Int)-1)
 |sl (y:Int) (hy:Slot s q y) (hn:(fr s.2.2 (y / sz s.1)).1∉AV l) (hw:Wn (AV l) s (gl 0#64 s.2.1 y.toNat)):Rea s q r l (((gl 0#64 s.2.1 y.toNat).toNat:Int)-1)
 |ob (i:AI) (hi:i∈l) (la:List Int) (oa:List (Int×Int)) (pa a:Int) (x:Int×Int) (o:OB s i la oa pa a x) (ha:Rea s q r l a) (j ya:Int) (j1:1<=j) (j2:j<=x.1) (hy:CM (sz s.1) la (pa+j)=some ya) (hw:Wn (AV l) s (gl 0#64 s.2.1 ya.toNat)):Rea s q r l (((gl 0#64 s.2.1 ya.toNat).toNat:Int)-1)
theorem Rea.rch (s:Sp) (q:Rows) (r:Ro) (l:List AI):Rch (Rea s q r l) s q r l:=
 ⟨fun i hi la oa pa a x o ha j ya j1 j2 hy hw=> .ob i hi la oa pa a x o ha j ya j1 j2 hy hw,fun i hi hu hw=> .rt i hi hu hw,fun y hy hn hw=> .sl y hy hn hw⟩
abbrev A5B (h:Hs) (l:List AI):Int->Prop:=Rea h.2.1 h.2.2.1 h.2.2.2.2.2.1 l
theorem AQI (hb:j.2.1.toNat<q.length):(addr q j).flatten.Perm (j::q.flatten):=by
 have hg:gl [] (addr q j) j.2.1.toNat=gl [] q j.2.1.toNat++ [j]:=by
  unfold addr;rw[DS hb,AA rfl]
 have e1:(addr q j).flatten=(q.take j.2.1.toNat).flatten++((gl [] q j.2.1.toNat++ [j])++(q.drop (j.2.1.toNat+1)).flatten):=by
  rw[IS (addr q j) _ (by rw[hZ];exact hb),hg]
  unfold addr
  rw[ARF (EH _),ARG (by omega)]
 rw[e1,IS q _ hb,I0,ALS,←I0,←I0]
 exact List.perm_middle
def wt (L:Int) (k:Cu) (i:AI):Nat:=if i.2.1<L-1 then (L-i.2.1).toNat else if (k.2.1=true->i.1<=k.2.2) then 1 else 0
theorem AYA {L:Int} {k:Cu} (h1:i.1=j.1) (h2:i.2.1=j.2.1):wt L k i=wt L k j:=by
 unfold wt;rw[h1,h2]
structure KOk (q:Rows) (n:Int) (k:Cu):Prop where
 k0:0<=k.1
 k1:k.1<q.length
 bg:k.2.1=true->k.1=(q.length:Int)-1/\k.2.2<n
theorem AV2 (h:HB s q) (hi:i∈q.flatten) (hb:i.2.1=(q.length:Int)-1):i.1<=AD1 q:=by
 have hN:=(GF.1 h.bv.ok).1
 obtain⟨-,hr⟩:=hN.row hi
 rw[hb,show ((q.length:Int)-1).toNat=q.length-1 from by omega] at hr
 obtain⟨j,hj,rfl⟩:=EF (d:=((0,0,0,0,0):AI)) hr
 have hn:=h.bv.n
 unfold AD1
 rw[AE (fun he=>by rw[he] at hj;simp at hj)]
 by_cases vD:j=(gl [] q (q.length-1)).length-1
 ·subst vD;exact YT _
 ·have:=AFQ.1 (hN.pw (q.length-1) (by omega)) j ((gl [] q (q.length-1)).length-1) hj (by omega) (by omega)
  rw[<-DJ (d:=((0,0,0,0,0):AI)) hj,←DJ (d:=((0,0,0,0,0):AI)) (show (gl [] q (q.length-1)).length-1< _ by omega)] at this;omega
theorem AV3 (h:HB s q) (hn:∀ i∈q.flatten,i.1<n) (n0:0<=n):AD1 q<n:=by
 have hl:=h.bv.n
 unfold AD1
 split
 ·omega
 ·rename_i he
  have:=AAA.2 he
  exact hn _ (LP.2 ⟨q.length-1,by omega,B3 (by omega)⟩)
theorem A2H (h:HB s q) (hn:∀ i∈q.flatten,i.1<n) (n0:0<=n):∀ (m:Nat) {k:Cu},KOk q n k->m=q.length-1-k.1.toNat→
  KOk q n (chK q m k)/\((chK q m k).1=(q.length:Int)-1->(chK q m k).2.1=true)/\∀ i∈q.flatten,wt q.length (chK q m k) i=wt q.length k i:=by
 have hF:∀ {k:Cu},KOk q n k->KOk q n (chF q k)/\((chF q k).1=(q.length:Int)-1->(chF q k).2.1=true)/\∀ i∈q.flatten,wt q.length (chF q k) i=wt q.length k i:=by
  intro k hk
  unfold chF
  by_cases c1:k.1=(q.length:Int)-1/\k.2.1=false
  ·rw[AA c1]
   refine⟨⟨hk.k0,hk.k1,fun _=>⟨c1.1,AV3 h hn n0⟩⟩,fun _=>rfl,fun i hi=> ?_⟩
   unfold wt
   by_cases c2:i.2.1<(q.length:Int)-1
   ·rw[AA c2,AA c2]
   ·have hN:=(GF.1 h.bv.ok).1
    have:=(hN.row hi).1
    rw[AE c2,AE c2,AA (fun _=>AV2 h hi (by omega)),AA (fun h=>by rw[c1.2] at h;cases h)]
  ·rw[AE c1]
   refine⟨hk,fun h1=> ?_,fun _ _=>rfl⟩
   cases h2:k.2.1 with
   |true=>rfl
   |false=>exact absurd ⟨h1,h2⟩ c1
 intro m
 induction m with
 |zero=>intro k hk _;exact hF hk
 |succ m ih=>
  intro k hk hm
  rw[chK]
  by_cases c1:gl [] q k.1.toNat=[]
  ·rw[AA c1]
   have hk0:=hk.k0
   have hk1:=hk.k1
   have hnb:k.2.1=false:=by
    cases h2:k.2.1 with
    |true=>have:=(hk.bg h2).1;omega
    |false=>rfl
   have KA :KOk q n (k.1+1,false,0):=⟨by simp only;omega,by simp only;omega,fun h=>by cases h⟩
   obtain⟨g1,g2,g3⟩:=ih KA (by simp only;omega)
   refine⟨g1,g2,fun i hi=> ?_⟩
   rw[g3 i hi]
   unfold wt
   rw[hnb]
   have e:∀ p:Prop,(false=true->p):=fun p h=>by cases h
   rw[AA (e (i.1<=(k.1+1,false,0).2.2)),AA (e (i.1<=k.2.2))]
  ·rw[AE c1];exact hF hk
theorem AOB {z B:Int}:∀ {L:List AI} {f n:Int} {i:AI},i∈chB z B f n L->i∈L
 | [],_,_,_,h=>h
 |a::r,f,n,i,h=>by
  rw[chB] at h
  split at h
  ·cases h
  ·rcases GH.1 h with rfl|h
   ·exact oC
   ·exact YB _ (AOB h)
theorem AOC {z B:Int}:∀ {L:List AI} {f n:Int},(chB z B f n L).length<=L.length
 | [],_,_=>EH _
 |a::r,f,n=>by
  rw[chB]
  split
  ·exact oI _
  ·have:=AOC (z:=z) (B:=B) (L:=r) (f:=f-cl z a.2.2.2.2) (n:=n+1)
   simp only[NU];omega
theorem HV.qq (v:HV N h):Qq h.2.1 h.2.2.1:=by
 obtain⟨l1,l2,l3⟩:=v.hi.hb.lens
 have W7:=VS.IK v.vs
 refine⟨v.vs,by omega,fun x hx=>by have:=l3 x hx;omega,fun i hi=> ?_⟩
 have:=(v.hi.hb.fit hi).1.1
 omega
theorem Dn.less (v:HV N h) {u:Int} (tg:Tg h l CB) (d:Dn R h l CB h' u) {k:Cu} (hk:KOk h.2.2.1 h.2.2.2.1 k) (xK:k.1=(h.2.2.1.length:Int)-1->k.2.1=true)
  (hl:∀ i∈l,i∈chL h.2.2.1 k):ms (wt h.2.2.1.length k) h'.2.2.1.flatten<ms (wt h.2.2.1.length k) h.2.2.1.flatten/\h'.2.2.1.length=h.2.2.1.length/\KOk h'.2.2.1 h'.2.2.2.1 k:=by
 obtain⟨l0,DL,t,to,lb,m,mv,ys,ws,r',W8,st,h1,h2,rfl, -⟩:=d
 have ZZ:=h1.okN
 have hle:=AFC h.2.2.2.1 CB to
 refine⟨?_,ZZ.2,⟨hk.k0,by simp only;rw[ZZ.2];exact hk.k1,fun hb=>⟨by simp only;rw[ZZ.2];exact (hk.bg hb).1,by have:=(hk.bg hb).2;simp only;omega⟩⟩⟩
 simp only
 have hm:=B3 (d:=((0,0,0,0,0):AI)) (AAA.2 tg.ne)
 generalize hI:gl ((0,0,0,0,0):AI) l 0=i0 at hm
 have hi0:=tg.sub _ hm
 have hch:=hl _ hm
 unfold chL at hch
 obtain⟨YE,A5C⟩:=Z1.1 hch
 have A5C:=SJ A5C
 have hN:=(GF.1 v.hi.hb.bv.ok).1
 have hk0:=hk.k0
 have hk1:=hk.k1
 have hbe:i0.2.1=k.1:=by
  have:=(hN.e k.1.toNat (by omega) i0 YE).1
  omega
 have hrm:ms (wt h.2.2.1.length k) (mD h.2.2.1 (AV l)).flatten+wt h.2.2.1.length k i0<=ms (wt h.2.2.1.length k) h.2.2.1.flatten:=by
  rw[hU]
  exact AD0 _ _ (by simp only[wM,Decidable.not_not];exact FC.2 ⟨i0,hm,rfl⟩) hi0
 have hw0:1<=wt h.2.2.1.length k i0/\(k.1<(h.2.2.1.length:Int)-1->wt h.2.2.1.length k i0=(h.2.2.1.length-k.1).toNat):=by
  unfold wt
  by_cases c1:i0.2.1<(h.2.2.1.length:Int)-1
  ·rw[AA c1];exact⟨by omega,fun _=>by rw[hbe]⟩
  ·rw[AE c1,AA (fun _=>by omega)];exact⟨EH _,fun _=>by omega⟩
 unfold ZY
 by_cases c1:CB.2.2.2.2>0
 ·rw[AA c1,zY]
  have ht:CB∈h.2.2.1.flatten:=by
   rcases h1.qT with ht|ht
   ·exact ht
   ·omega
  have:ms (wt h.2.2.1.length k) ((mD h.2.2.1 (AV l)).flatten.map fun i=>if i.1=to.1 then to else i)=ms (wt h.2.2.1.length k) (mD h.2.2.1 (AV l)).flatten:=by
   unfold ms
   rw[XB]
   congr 1
   refine W9 fun i hi=> ?_
   simp only[ARI]
   split
   ·rename_i he
    have:=v.hi.hb.uniq (PA.1 hi).1 ht (by rw[he,h1.ci.seq])
    exact AYA he.symm (by rw[h1.ci.XK,this])
   ·rfl
  rw[this];omega
 ·rw[AE c1]
  by_cases c2:to.2.2.2.2>0
  ·have htn:CB.1=h.2.2.2.1/\0<=CB.2.1/\CB.2.1<h.2.2.1.length:=by
    rcases h1.qT with ht|ht
    ·have:=(v.hi.hb.fit ht).2;omega
    ·exact⟨ht.1,ht.2.2⟩
   have htb:=h1.ci.XK
   rw[AA c2,AY5 (AQI (by rw[O_];omega))]
   have e:ms (wt h.2.2.1.length k) (to::(mD h.2.2.1 (AV l)).flatten)=wt h.2.2.1.length k to+ms (wt h.2.2.1.length k) (mD h.2.2.1 (AV l)).flatten:=by unfold ms;simp
   rw[e]
   suffices wt h.2.2.1.length k to<wt h.2.2.1.length k i0 by omega
   have hql:=v.ql
   have htt:=tg.tb
   rw[hI,hbe] at htt
   obtain⟨-, -,hgt⟩:=v.g.ru k.1 hk0 (by omega)
   unfold H9 at hgt
   by_cases c3:k.1<(h.2.2.1.length:Int)-1
   ·have h4:k.1<CB.2.1:=by
     refine AB7 fun hn=>hgt (.inr ⟨by omega,.inl (by omega)⟩)
    rw[hw0.2 c3]
    unfold wt
    split
    ·omega
    ·split <;> omega
   ·have h4:CB.2.1=k.1:=by
     refine AB7 fun hn=>hgt (.inl ⟨by omega,fun he=>hn (by omega)⟩)
    have hbg:=xK (by omega)
    have:=hk.bg hbg
    have h5:wt h.2.2.1.length k to=0:=by
     unfold wt
     rw[af,AE (fun hh=>by have:=hh hbg;rw[h1.ci.seq] at this;omega)]
    omega
  ·rw[AE c2];omega
abbrev chC (h:Hs) (k:Cu):Cu:=chK h.2.2.1 (h.2.2.1.length-1-k.1.toNat) k
abbrev A2I (h:Hs):Hs:=(h.1,h.2.1,h.2.2.1,h.2.2.2.1,h.2.2.2.2.1,h.2.2.2.2.2.1,0,(h.2.2.2.2.2.2.2.1.1,h.2.2.2.2.2.2.2.1.2.1,h.2.2.2.2.2.2.2.1.2.2.1,h.2.2.2.2.2.2.2.1.2.2.2.1,AG (h.2.2.2.2.2.2.2.1.2.2.2.2.1+1),h.2.2.2.2.2.2.2.1.2.2.2.2.2),h.2.2.2.2.2.2.2.2)
noncomputable def mE (s1:Hs×Cu):Option ((Hs×Cu) ⊕ (Hs×Bool)):=
 (DC s1.1.1 s1.1.2.1 s1.1.2.2.1 s1.2).bind (fun r4=>
 if r4.2.2=true then
 some (Sum.inr ((A2I s1.1,true)))
 else if (r4.1.length:Int)=0 then
 some (Sum.inr ((s1.1,false)))
 else (CO s1.1 r4.1).bind (fun r5=>
 bif bN (C0.rs++C0.os) r5 then if ¬r5.2.2=0 then
 some (Sum.inr ((s1.1,false)))
 else some (Sum.inl ((r5.1,r4.2.1))) else (CO s1.1 r4.1).bind (fun r6=>
 if ¬r6.2.2=0 then
 Option.map Sum.inr (none)
 else some (Sum.inl ((r6.1,r4.2.1))))))
theorem AV4 (h:Hs) (n:Int):GC h n=(BX h).bind (fun r1=>AH (σ:=Hs×Cu) (β:=Hs×Bool) (fun s1=>
 if n>0 then
 (E4 s1.1 n).bind (fun r2=>
 if (!r2)=true then
 (GX s1.1.1 s1.1.2.2.1).bind (fun r3=>
 if (r3.length:Int)=0 then
 some (Sum.inr ((s1.1,false)))
 else mE s1)
 else mE s1)
 else mE s1) (r1,(0,false,0))):=rfl
def Go1 (h:Hs) (k:Cu) (h1:Hs) (k1:Cu):Prop:=
 ∃ l CB u,wK h.1 h.2.1 h.2.2.1 (chC h k)=(l,k1,false)/\l≠[]/\Tg h l CB/\Dn (A5B h l) h l CB h1 u
def A2J (h:Hs) (k:Cu) (b:Hs×Bool):Prop:=
 (b=(A2I h,true)/\(wK h.1 h.2.1 h.2.2.1 (chC h k)).2.2=true)∨
 (b=(h,false)/\(wK h.1 h.2.1 h.2.2.1 (chC h k)).2.2=false/\((wK h.1 h.2.1 h.2.2.1 (chC h k)).1=[]\/∃ rep e,CO h (wK h.1 h.2.1 h.2.2.1 (chC h k)).1=some (hz0,rep,e)/\e≠0))
theorem AV5 (rep:Int×Int×Int×Int) (e:Int):bN (C0.rs++C0.os) (hz0,rep,e)=true:=rfl
theorem AYB {j:Cu} (h:i∈(wK c s q j).1):i∈chL q j:=by
 unfold wK at h
 split at h
 ·cases h
 ·exact AOB h
theorem AYC {j:Cu}:(wK c s q j).1.length<=(chL q j).length:=by
 unfold wK
 split
 ·exact oI _
 ·exact AOC
theorem A2K (c:Cf) (s:Sp) (q:Rows) (j:Cu):(wK c s q j).2.1=j:=by
 unfold wK
 split <;> rfl
theorem HV.choose (v:HV N h) {k:Cu} (hk:KOk h.2.2.1 h.2.2.2.1 k):DC h.1 h.2.1 h.2.2.1 k=some (wK h.1 h.2.1 h.2.2.1 (chC h k)):=by
 have hq:=v.qq
 have hql:=v.ql
 obtain⟨l1,l2,l3⟩:=v.hi.hb.lens
 exact (AQH v.vs (fun x hx=>by have:=l3 x hx;omega) (by omega) (fun i hi=>by have:=hq.w i hi;omega) (by omega) hk.k0 hk.k1).1
theorem AQJ {x y z:α} (b:Bool) (h1:x=z) (h2:y=z):(bif b then x else y)=z:=by
 cases b
 ·exact h2
 ·exact h1
theorem AV6 (v:HV N h) (hN:N<=4294967295) {k:Cu} (hk:KOk h.2.2.1 h.2.2.2.1 k):∃ x,mE (h,k)=some x/\((∃ h1 k1,x= .inl (h1,k1)/\Go1 h k h1 k1)\/∃ b,x= .inr b/\A2J h k b):=by
 obtain⟨l1,l2,l3⟩:=v.hi.hb.lens
 unfold mE
 simp only
 rw[v.choose hk,AW]
 have hgo:∀ h1 k1,Go1 h k h1 k1↔∃ l CB u,wK h.1 h.2.1 h.2.2.1 (chC h k)=(l,k1,false)/\l≠[]/\Tg h l CB/\Dn (A5B h l) h l CB h1 u:=fun _ _=>Iff.rfl
 have hre:∀ b,A2J h k b↔(b=(A2I h,true)/\(wK h.1 h.2.1 h.2.2.1 (chC h k)).2.2=true)∨
  (b=(h,false)/\(wK h.1 h.2.1 h.2.2.1 (chC h k)).2.2=false/\((wK h.1 h.2.1 h.2.2.1 (chC h k)).1=[]\/∃ rep e,CO h (wK h.1 h.2.1 h.2.2.1 (chC h k)).1=some (hz0,rep,e)/\e≠0)):=fun _=>Iff.rfl
 have hcl:(wK h.1 h.2.1 h.2.2.1 (chC h k)).1.length<=64:=by
  have h1:=AYC (c:=h.1) (s:=h.2.1) (q:=h.2.2.1) (j:=chC h k)
  have h2:(chL h.2.2.1 (chC h k)).length<=(gl [] h.2.2.1 (chC h k).1.toNat).length:=rF _ _
  by_cases h3:(chC h k).1.toNat<h.2.2.1.length
  ·have:=l3 _ (B3 (d:=([]:List AI)) h3);omega
  ·have h4:gl ([]:List AI) h.2.2.1 (chC h k).1.toNat=[]:=by
    unfold gl;rw[n9,IF (by omega)];rfl
   have h5:(gl ([]:List AI) h.2.2.1 (chC h k).1.toNat).length=0:=by rw[h4];rfl
   omega
 generalize hr:wK h.1 h.2.1 h.2.2.1 (chC h k)=r at hgo hre hcl
 by_cases c1:r.2.2=true
 ·rw[AA c1]
  exact⟨_,rfl,.inr ⟨_,rfl,(hre _).2 (.inl ⟨rfl,c1⟩)⟩⟩
 have c1' :r.2.2=false:=by simpa using c1
 rw[AE c1]
 by_cases c2:(r.1.length:Int)=0
 ·rw[AA c2]
  exact⟨_,rfl,.inr ⟨_,rfl,(hre _).2 (.inr ⟨rfl,c1',.inl (List.eq_nil_iff_length_eq_zero.2 (by omega))⟩)⟩⟩
 rw[AE c2]
 obtain⟨h1,rep,e,yS,hd2⟩:=A58 v hN (l:=r.1) (by omega) (Rea.rch h.2.1 h.2.2.1 h.2.2.2.2.2.1 r.1)
 rw[yS,AW]
 rcases hd2 with ⟨he,rfl⟩|⟨rfl,CB,u,tg,dn⟩
 ·rw[AV5]
  simp only[cond_true]
  rw[AA he]
  exact⟨_,rfl,.inr ⟨_,rfl,(hre _).2 (.inr ⟨rfl,c1',.inr ⟨rep,e,yS,he⟩⟩)⟩⟩
 ·have hx:Go1 h k h1 r.2.1:=(hgo _ _).2 ⟨r.1,CB,u,by rw[<-c1'],fun hn=>by rw[hn] at c2;exact c2 rfl,tg,dn⟩
  refine⟨Sum.inl (h1,r.2.1), ?_,.inl ⟨_,_,rfl,hx⟩⟩
  exact AQJ _ rfl rfl
def qX (h:Hs) (k:Cu):Nat:=ms (wt h.2.2.1.length k) h.2.2.1.flatten
theorem Go1.ok (v:HV N h) {k:Cu} (hk:KOk h.2.2.1 h.2.2.2.1 k) {h1:Hs} {k1:Cu} (g:Go1 h k h1 k1):
  HV (N+1) h1/\KOk h1.2.2.1 h1.2.2.2.1 k1/\qX h1 k1<qX h k/\h1.1=h.1/\h1.2.1.1=h.2.1.1/\h1.2.1.2.2.length=h.2.1.2.2.length/\h1.2.2.2.2.2.2.2.2=h.2.2.2.2.2.2.2.2/\h1.2.2.2.2.2.2.1=h.2.2.2.2.2.2.1:=by
 obtain⟨l,CB,u,hc,hl,tg,dn⟩:=g
 have hs:=A2K h.1 h.2.1 h.2.2.1 (chC h k)
 rw[hc] at hs
 simp only at hs
 obtain⟨g1,g2,g3⟩:=A2H v.hi.hb v.hi.seq v.hi.n0 (h.2.2.1.length-1-k.1.toNat) hk rfl
 have GR:∀ i∈l,i∈chL h.2.2.1 k1:=by
  intro i hi
  have:=AYB (c:=h.1) (s:=h.2.1) (q:=h.2.2.1) (j:=chC h k) (i:=i) (by rw[hc];exact hi)
  rw[hs];exact this
 have hk1:chK h.2.2.1 (h.2.2.1.length-1-k.1.toNat) k=k1:=hs.symm
 rw[hk1] at g1 g2 g3
 obtain⟨d1,d2,d3⟩:=dn.less v tg g1 g2 GR
 have hm:qX h k1=qX h k:=AUZ g3
 have hv1:=dn.hv v
 obtain⟨l0,DL,t,to,lb,m,mv,ys,ws,r',W8,st,h1,h2,rfl, -⟩:=dn
 refine⟨hv1,d3, ?_,rfl, ?_, ?_,rfl,rfl⟩
 ·rw[<-hm]
  unfold qX
  rw[d2];exact d1
 ·exact h1.aft.2.1
 ·exact h1.aft.2.2.2.1
inductive Rn:Nat->Hs->Cu->Hs->Cu->Prop
 |z (h:Hs) (k:Cu):Rn 0 h k h k
 |s {m:Nat} {h:Hs} {k:Cu} {h1:Hs} {k1:Cu} {h2:Hs} {k2:Cu} (a:Rn m h k h1 k1) (b:Go1 h1 k1 h2 k2):Rn (m+1) h k h2 k2
theorem Rn.ok {N:Int} {h:Hs} (v:HV N h) {k:Cu} (hk:KOk h.2.2.1 h.2.2.2.1 k):∀ {m:Nat} {h1:Hs} {k1:Cu},Rn m h k h1 k1→
  HV (N+m) h1/\KOk h1.2.2.1 h1.2.2.2.1 k1/\qX h1 k1+m<=qX h k/\h1.1=h.1/\h1.2.1.1=h.2.1.1/\h1.2.1.2.2.length=h.2.1.2.2.length/\h1.2.2.2.2.2.2.2.2=h.2.2.2.2.2.2.2.2/\h1.2.2.2.2.2.2.1=h.2.2.2.2.2.2.1:=by
 intro m h1 k1 r
 induction r with
 |z=>exact⟨by simpa using v,hk,EH _,rfl,rfl,rfl,rfl,rfl⟩
 |s a b ih=>
  obtain⟨v1,k1,m1,e1,e2,e3,e4,e5⟩:=ih v hk
  obtain⟨v2,k2,m2,f1,f2,f3,f4,f5⟩:=b.ok v1 k1
  exact⟨by have:=v2;rw[w_];rw[<-Int.add_assoc];exact this,k2,by omega,by rw[f1,e1],by rw[f2,e2],by rw[f3,e3],by rw[f4,e4],by rw[f5,e5]⟩
theorem AYD (v:HV N h) (k:Cu):qX h k<=256:=by
 obtain⟨l1,l2,l3⟩:=v.hi.hb.lens
 have hN:=(GF.1 v.hi.hb.bv.ok).1
 have:=AZW (w:=wt h.2.2.1.length k) (b:=4) (l:=h.2.2.1.flatten) fun i hi=>by
  have:=(hN.row hi).1
  unfold wt
  split
  ·omega
  ·split <;> omega
 unfold qX
 omega
theorem AIV (v:HV N h) (n0:1<=n) (n1:n<=48):E4 h n=some (decide ((uW h.1 h.2.1 h.2.2.1 h.2.2.2.1 n).1=3)):=by
 unfold E4
 rw[AFF v.g v.qq v.hi.hb.bv.n.1 n0 n1];rfl
structure RD (n:Int) (h:Hs) (b:Hs×Bool) (m:Nat) (h1:Hs) (k1:Cu):Prop where
 rn:Rn m h (0,false,0) h1 k1
 fin:(b=(h1,false)/\0<n/\(uW h1.1 h1.2.1 h1.2.2.1 h1.2.2.2.1 n).1≠3/\AOA h1.1 h1.2.2.1=[])\/A2J h1 k1 b
theorem KOk.init (v:HV N h):KOk h.2.2.1 h.2.2.2.1 (0,false,0):=
 ⟨YT _,by have:=v.hi.hb.bv.n;simp only;omega,fun h=>by cases h⟩
theorem AIW (v:HV N h) (hN:N<=4294967000) (n0:0<=n) (n1:n<=48):∃ b m h1 k1,GC h n=some b/\RD n h b m h1 k1/\m<=256:=by
 suffices hh:∃ b,GC h n=some b/\∃ m h1 k1,RD n h b m h1 k1/\m<=256 by
  obtain⟨b,g1,m,h1,k1,g2⟩:=hh
  exact⟨b,m,h1,k1,g1,g2⟩
 rw[AV4,v.copy,AW]
 have hk:=KOk.init v
 have hml:=AYD v (0,false,0)
 have step:∀ (m:Nat) (h1:Hs) (k1:Cu),m<=qX h (0,false,0)->Rn m h (0,false,0) h1 k1→
   ((∃ s',mE (h1,k1)=some (.inl s')/\m<qX h (0,false,0)/\Rn (m+1) h (0,false,0) s'.1 s'.2)\/∃ b,mE (h1,k1)=some (.inr b)/\∃ m h1 k1,RD n h b m h1 k1/\m<=256):=by
  intro m h1 k1 hm hr
  obtain⟨v1,kk,m1, -⟩:=hr.ok v hk
  obtain⟨x,hx1,hx2⟩:=AV6 v1 (by omega) kk
  rcases hx2 with ⟨h2,k2,rfl,g⟩|⟨b,rfl,g⟩
  ·have:=(g.ok v1 kk).2.2.1
   exact .inl ⟨_,hx1,by omega,.s hr g⟩
  ·exact .inr ⟨b,hx1,m,h1,k1,⟨hr,.inr g⟩,by omega⟩
 have body:∀ (m:Nat) (st:Hs×Cu),m<=qX h (0,false,0)->Rn m h (0,false,0) st.1 st.2->∀ F,F=(if n>0 then
   (E4 st.1 n).bind (fun r2=>
   if (!r2)=true then
   (GX st.1.1 st.1.2.2.1).bind (fun r3=>
   if (r3.length:Int)=0 then
   some (Sum.inr ((st.1,false)))
   else mE st)
   else mE st)
   else mE st)->((∃ s',F=some (.inl s')/\m<qX h (0,false,0)/\Rn (m+1) h (0,false,0) s'.1 s'.2)\/∃ b,F=some (.inr b)/\∃ m h1 k1,RD n h b m h1 k1/\m<=256):=by
  rintro m ⟨h1,k1⟩ hm hr F rfl
  simp only at hr ⊢
  obtain⟨v1,kk,m1, -⟩:=hr.ok v hk
  have hst:=step m h1 k1 hm hr
  by_cases c1:n>0
  ·rw[AA c1,AIV v1 (by omega) n1,AW]
   by_cases c2:(uW h1.1 h1.2.1 h1.2.2.1 h1.2.2.2.1 n).1=3
   ·rw[JR c2,AE (by decide)];exact hst
   ·obtain⟨l1,l2,l3⟩:=v1.hi.hb.lens
    rw[P_ c2,AA (by decide),AY9 v1.g v1.ql (fun x hx=>by have:=l3 x hx;omega),AW]
    by_cases c3:((AOA h1.1 h1.2.2.1).length:Int)=0
    ·rw[AA c3]
     exact .inr ⟨_,rfl,m,h1,k1,⟨hr,.inl ⟨rfl,c1,c2,List.eq_nil_iff_length_eq_zero.2 (by omega)⟩⟩,by omega⟩
    ·rw[AE c3];exact hst
  ·rw[AE c1];exact hst
 refine AK (fun m (st:Hs×Cu)=>Rn m h (0,false,0) st.1 st.2) _ (qX h (0,false,0)) ?_ ?_ (s:=(h,(0,false,0))) (.z h _)
 ·intro m st hm hr
  rcases body m st (by omega) hr _ rfl with ⟨s',g1,g2,g3⟩|g
  ·exact .inl ⟨s',g1,g3⟩
  ·exact .inr g
 ·intro st hr
  rcases body _ st (EH _) hr _ rfl with ⟨s',g1,g2,g3⟩|g
  ·omega
  ·exact g
end Go.Proofs.YtokeceeccmgcmaaGreatDoor
namespace Go.Proofs.YtokeceeccmgcmaaGreatDoor
open Go Go.V3
structure Al (s:Sp) (q:Rows) (n:Int) (i:AI) (r d:Int) (u:Sp) (j:AI) (a:Int) (l l' :List Int) (os:List (Int×Int)) (q' :Rows) (n' :Int):Prop where
 hb:HB s q
 seq:∀ i∈q.flatten,i.1<n
 n0:0<=n
 rd:(0<=r/\r<=15)/\(0<=d/\d<=32)
 fit:DB s i
 ad:gV s i r d u j a l l'
 has:Has s i l
 Q2:DK (sz s.1) s.2.1 l 0 os i.2.2.2.2
 cs:(i∈q.flatten/\q' =rpl q j/\n' =n)\/(i.1=n/\i.2.2.2.2=0/\(0<=i.2.1/\i.2.1<q.length)/\q' =addr q j/\n' =n+1)
section
variable {s:Sp} {q:Rows} {n:Int} {i:AI} {r d:Int} {u:Sp} {j:AI} {a:Int} {l l' :List Int} {os:List (Int×Int)} {q' :Rows} {n' :Int}
theorem Al.z (h:Al s q n i r d u j a l l' os q' n'):sz u.1=sz s.1:=by rw[h.ad.sh]
theorem Al.jf (h:Al s q n i r d u j a l l' os q' n'):DB u j:=(gV.self h.hb.bv.vs h.fit h.rd.1.1 h.rd.1.2 h.rd.2.1 h.rd.2.2 h.ad).1
theorem Al.jw (h:Al s q n i r d u j a l l' os q' n'):j.1=i.1/\j.2.1=i.2.1/\j.2.2.2.2=i.2.2.2.2+(1+r+d)/\0<=i.2.2.2.2:=⟨h.ad.grown.seq,h.ad.grown.XK,h.ad.grown.words,h.fit.1.2.2.2.2.1⟩
theorem Al.jh (h:Al s q n i r d u j a l l' os q' n'):Has u j l' := .inr ⟨by have:=h.jw;have:=h.rd;omega,h.ad.grown.path⟩
theorem Al.jt (h:Al s q n i r d u j a l l' os q' n'):DK (sz s.1) u.2.1 l' 0 (os++ [(r,d)]) j.2.2.2.2:=by
 obtain⟨l2,h1,h2⟩:=(gV.self h.hb.bv.vs h.fit h.rd.1.1 h.rd.1.2 h.rd.2.1 h.rd.2.2 h.ad).2 os ⟨l,h.has,h.Q2⟩
 rw[K_ h1 h.jh,h.z] at h2
 exact h2
theorem Al.pre (h:Al s q n i r d u j a l l' os q' n'):∃ e,l' =l++e:=⟨_,h.ad.grown.more⟩
theorem Al.uni (h:Al s q n i r d u j a l l' os q' n') {p:AI} (hp:p∈q.flatten) (he:p.1=i.1):p=i/\i∈q.flatten:=by
 rcases h.cs with ⟨hi,_⟩|⟨hi,_⟩
 ·exact⟨h.hb.uniq hp hi he,hi⟩
 ·have:=h.seq p hp;omega
theorem Al.mem (h:Al s q n i r d u j a l l' os q' n') {p:AI}:p∈q'.flatten↔(p∈q.flatten/\p.1≠i.1)\/p=j:=by
 have hj:=h.jw
 rcases h.cs with ⟨hi,rfl,_⟩|⟨hi,hw,hb,rfl,_⟩
 ·rw[AO6,hj.1]
  constructor
  ·rintro (h1|⟨h1,_⟩)
   ·exact .inl h1
   ·exact .inr h1
  ·rintro (h1|h1)
   ·exact .inl h1
   ·exact .inr ⟨h1,i,hi,rfl⟩
 ·rw[AIO (by omega)]
  constructor
  ·rintro (h1|h1)
   ·exact .inl ⟨h1,fun he=>by have:=h.seq p h1;omega⟩
   ·exact .inr h1
  ·rintro (⟨h1,_⟩|h1)
   ·exact .inl h1
   ·exact .inr h1
variable {p y:Int}
theorem Al.wS (h:Al s q n i r d u j a l l' os q' n') (p0:0<=p) (p1:p<i.2.2.2.2) (hy:CM (sz s.1) l p=some y):gl 0#64 u.2.1 y.toNat=gl 0#64 s.2.1 y.toNat:=by
 have z:=BU s.1
 have hy' :CM (sz s.1) l' p=some y:=by rw[h.ad.grown.more];exact CK hy
 have hr:=CH h.hb.bv.vs h.fit h.has p0 hy
 refine h.ad.wr.oth y.toNat fun k k0 k1 he=> ?_
 rw[wQ hr.1.1] at he
 have:=F9 z h.ad.grown.path.nodup (by have:=h.jw;omega) p0 he hy'
 omega
theorem Al.other (h:Al s q n i r d u j a l l' os q' n') {p:AI} (hp:p∈q.flatten) (CW:p.1≠i.1):DB u p/\(∀ lp,Has s p lp->Has u p lp/\∀ off x,0<=off->CM (sz s.1) lp off=some x->gl 0#64 u.2.1 x.toNat=gl 0#64 s.2.1 x.toNat)/\∀ os,Full s p os->Full u p os:=gV.other h.hb.bv.vs h.fit h.ad (h.hb.fit hp).1 CW
variable {x:Int×Int} {b:Int} {lp:List Int}
theorem Al.obO (h:Al s q n i r d u j a l l' os q' n') {p:AI} (hp:p∈q.flatten) (CW:p.1≠i.1) {op:List (Int×Int)} {pp:Int} (o:OB s p lp op pp b x):OB u p lp op pp b x:=by
 obtain⟨h1,h2,h3⟩:=h.other hp CW
 obtain⟨h4,h5⟩:=h2 lp o.has
 refine⟨h4, ?_,o.ta,by rw[h.z];exact o.FZ⟩
 rw[h.z]
 exact o.Q2.CQ fun k y k0 k1 hk=>⟨hk,h5 k y k0 hk⟩
theorem Al.A7S (h:Al s q n i r d u j a l l' os q' n') {p:AI} (hp:p∈q.flatten) (CW:p.1≠i.1) {op:List (Int×Int)} {pp:Int} (o:OB u p lp op pp b x):OB s p lp op pp b x:=by
 obtain⟨o1,l1,g1,g2⟩:=h.hb.full p hp
 obtain⟨h1,h2,h3⟩:=h.other hp CW
 obtain⟨h4,h5⟩:=h2 l1 g1
 have ht:DK (sz u.1) u.2.1 l1 0 o1 p.2.2.2.2:=by
  rw[h.z]
  exact g2.CQ fun k y k0 k1 hk=>⟨hk,h5 k y k0 hk⟩
 obtain⟨rfl,rfl⟩:=LA h4 ht o
 exact⟨g1,g2,o.ta,by rw[<-h.z];exact o.FZ⟩
theorem Al.obS (h:Al s q n i r d u j a l l' os q' n') (o:OB s i l os p b x):OB u j l' (os++ [(r,d)]) p b x:=by
 obtain⟨e,he⟩:=h.pre
 exact⟨h.jh,by rw[h.z];exact h.jt,TA.app o.ta,by rw[h.z,he];exact CK o.FZ⟩
theorem Al.obN (h:Al s q n i r d u j a l l' os q' n'):OB u j l' (os++ [(r,d)]) i.2.2.2.2 a (r,d):=
 ⟨h.jh,by rw[h.z];exact h.jt,(TA.snoc h.Q2).2 (.inr ⟨rfl,rfl⟩),by rw[h.z];exact h.ad.grown.FZ⟩
theorem Al.cls (h:Al s q n i r d u j a l l' os q' n') {lc:List Int} {oc:List (Int×Int)} (o:OB u j lc oc p b x):lc=l' /\oc=os++ [(r,d)]/\(OB s i l os p b x\/(p=i.2.2.2.2/\b=a/\x=(r,d))):=by
 obtain⟨rfl,rfl⟩:=LA h.jh (by rw[h.z];exact h.jt) o
 refine⟨rfl,rfl, ?_⟩
 rcases (TA.snoc h.Q2).1 o.ta with h1|⟨rfl,rfl⟩
 ·left
  have hr:=h.Q2.ta h1
  obtain⟨y,hy,_⟩:=hr.2.1
  obtain⟨e,he⟩:=h.pre
  have h2:=o.FZ
  rw[h.z,he,CK hy] at h2
  obtain rfl:=HO h2
  exact⟨h.has,h.Q2,h1,hy⟩
 ·right
  have h2:=o.FZ
  rw[h.z,h.ad.grown.FZ] at h2
  exact⟨rfl,(HO h2).symm,rfl⟩
theorem Al.iso (h:Al s q n i r d u j a l l' os q' n') (hb:IsO s q b):IsO u q' b:=by
 obtain⟨p,hp,k,x,lp,op,o⟩:=hb
 by_cases CW:p.1=i.1
 ·obtain⟨rfl,hi⟩:=h.uni hp CW
  obtain⟨rfl,rfl⟩:=LA h.has h.Q2 o
  exact⟨j,h.mem.2 (.inr rfl),k,x,_,_,h.obS o⟩
 ·exact⟨p,h.mem.2 (.inl ⟨hp,CW⟩),k,x,lp,op,h.obO hp CW o⟩
theorem Al.slot (h:Al s q n i r d u j a l l' os q' n') (hy:Slot s q y):Slot u q' y:=by
 obtain⟨p,hp,lp,op,pp,b,x,k,o,k1,k2,ha⟩:=hy
 by_cases CW:p.1=i.1
 ·obtain⟨rfl,hi⟩:=h.uni hp CW
  obtain⟨rfl,rfl⟩:=LA h.has h.Q2 o
  obtain⟨e,he⟩:=h.pre
  exact⟨j,h.mem.2 (.inr rfl),_,_,pp,b,x,k,h.obS o,k1,k2,by rw[h.z,he];exact CK ha⟩
 ·exact⟨p,h.mem.2 (.inl ⟨hp,CW⟩),lp,op,pp,b,x,k,h.obO hp CW o,k1,k2,by rw[h.z];exact ha⟩
theorem Al.ACY (h:Al s q n i r d u j a l l' os q' n') (hy:Slot u q' y):(Slot s q y/\gl 0#64 u.2.1 y.toNat=gl 0#64 s.2.1 y.toNat)\/gl 0#64 u.2.1 y.toNat=0#64:=by
 obtain⟨p,hp,lp,op,pp,b,x,k,o,k1,k2,ha⟩:=hy
 rw[h.z] at ha
 rcases h.mem.1 hp with ⟨hp,CW⟩|rfl
 ·have o' :=h.A7S hp CW o
  have hr:=o'.IA
  obtain⟨h1,h2,h3⟩:=h.other hp CW
  exact .inl ⟨⟨p,hp,lp,op,pp,b,x,k,o',k1,k2,ha⟩,(h2 lp o'.has).2 (pp+k) y (by omega) ha⟩
 ·obtain⟨rfl,rfl,h1⟩:=h.cls o
  rcases h1 with o' |⟨rfl,rfl,rfl⟩
  ·have hr:=o'.IA
   obtain⟨y1,hy1⟩:=tD h.hb.bv.vs h.fit h.has (p:=pp+k) (by omega) (by omega)
   obtain⟨e,he⟩:=h.pre
   rw[he,CK hy1] at ha
   obtain rfl:=HO ha
   have hi:i∈q.flatten:=by
    rcases h.cs with ⟨hi,_⟩|⟨_,hw,_⟩
    ·exact hi
    ·omega
   exact .inl ⟨⟨i,hi,l,os,pp,b,x,k,o',k1,k2,hy1⟩,h.wS (by omega) (by omega) hy1⟩
  ·simp only at k2
   exact .inr (h.ad.wr.vN k y k1 (by have:=h.rd;omega) ha)
theorem Al.UB (h:Al s q n i r d u j a l l' os q' n'):HB u q' :=by
 have hj:=h.jw
 have hv:=h.hb.bv.vs
 have hN:=(GF.1 h.hb.bv.ok).1
 have hq:OkN q' /\q'.length=q.length:=by
  rcases h.cs with ⟨hi,rfl,_⟩|⟨hi,hw,hb,rfl,_⟩
  ·exact⟨hN.rpl (fun p hp he=>by rw[(h.uni hp (by omega)).1];exact hj.2.1.symm) (by have:=h.rd;omega),qS _ _⟩
  ·exact⟨hN.addr (by omega) (by omega) (by have:=h.rd;omega) (fun p hp=>by have:=h.seq p hp;omega),hZ _ _⟩
 refine⟨⟨h.ad.vs,by rw[hq.2];exact h.hb.bv.n,GF.2 ⟨hq.1,fun p hp=> ?_⟩,fun x x0 x1 hx=> ?_⟩,fun p hp=> ?_⟩
 ·rcases h.mem.1 hp with ⟨hp,CW⟩|rfl
  ·exact (h.other hp CW).1
  ·exact h.jf
 ·have hl:u.2.2.length=s.2.2.length:=h.ad.grown.len
  by_cases he:(fr u.2.2 x).1=i.1
  ·exact DH.2 ⟨j,h.mem.2 (.inr rfl),by rw[he];exact hj.1⟩
  ·have hf:fr u.2.2 x=fr s.2.2 x:=Grown.fr1 hv h.ad.grown h.fit.1.1 x0 (by omega) he
   rw[hf] at hx he ⊢
   obtain⟨p,hp,hpe⟩:=DH.1 (h.hb.bv.cov x x0 (by omega) hx)
   exact DH.2 ⟨p,h.mem.2 (.inl ⟨hp,by rw[hpe];exact he⟩),hpe⟩
 ·rcases h.mem.1 hp with ⟨hp,CW⟩|rfl
  ·obtain⟨o1,g⟩:=h.hb.full p hp
   exact⟨o1,(h.other hp CW).2.2 o1 g⟩
  ·exact⟨_,l',h.jh,by rw[h.z];exact h.jt⟩
theorem Al.frm (h:Al s q n i r d u j a l l' os q' n') {p:AI} (hp:p∈q.flatten) (hlp:Has s p lp) {pp:Int} (p0:0<=pp) (hy:CM (sz s.1) lp pp=some y):(fr u.2.2 (y / sz s.1)).1=(fr s.2.2 (y / sz s.1)).1/\(fr u.2.2 (y / sz s.1)).2.1=(fr s.2.2 (y / sz s.1)).2.1:=by
 have hr:=CH h.hb.bv.vs (h.hb.fit hp).1 hlp p0 hy
 have hj:=h.jw
 by_cases CW:p.1=i.1
 ·obtain⟨rfl,hi⟩:=h.uni hp CW
  obtain rfl:=K_ hlp h.has
  obtain⟨e,he⟩:=h.pre
  have nY :=CH h.ad.vs h.jf h.jh p0 (y:=y) (by rw[h.z,he];exact CK hy)
  rw[h.z] at nY
  rw[nY.2.2.2.1,nY.2.2.2.2,hr.2.2.2.1,hr.2.2.2.2,hj.1,hj.2.1]
  exact⟨rfl,rfl⟩
 ·obtain⟨h1,h2,h3⟩:=h.other hp CW
  have nY :=CH h.ad.vs h1 (h2 lp hlp).1 p0 (y:=y) (by rw[h.z];exact hy)
  rw[h.z] at nY
  rw[nY.2.2.2.1,nY.2.2.2.2,hr.2.2.2.1,hr.2.2.2.2]
  exact⟨rfl,rfl⟩
variable {ss:Ss}
theorem Al.done (h:Al s q n i r d u j a l l' os q' n') {ro:Ro} (hi:HI s q n ss ro):HI u q' n' ss ro/\IsO u q' a/\n' <=n+1/\q'.length=q.length:=by
 have hj:=h.jw
 have hn:n<=n' /\n' <=n+1/\j.1<n' /\q'.length=q.length:=by
  rcases h.cs with ⟨h1,rfl,h2⟩|⟨h1,_,_,rfl,h2⟩
  ·have:=h.seq i h1
   exact⟨by omega,by omega,by omega,qS _ _⟩
  ·exact⟨by omega,by omega,by omega,hZ _ _⟩
 refine⟨{ hb:=h.UB,seq:=fun p hp=> ?_,n0:=by have:=h.n0;omega,ref:=fun y hy=> ?_,ro:=hi.ro,root:=fun k hk hu=>⟨(hi.root k hk hu).1,h.iso (hi.root k hk hu).2⟩,rv:=hi.rv,ins:=fun f g y MR=> ?_,rem:=fun y hy f g hp=> ?_ },⟨j,h.mem.2 (.inr rfl),_,_,_,_,h.obN⟩,hn.2.1,hn.2.2.2⟩
 ·rcases h.mem.1 hp with ⟨hp,_⟩|rfl
  ·have:=h.seq p hp;omega
  ·exact hn.2.2.1
 ·rcases h.ACY hy with ⟨h1,h2⟩|h1
  ·rw[h2]
   rcases hi.ref y h1 with h3|h3
   ·exact .inl h3
   ·exact .inr (h.iso h3)
  ·exact .inl h1
 ·obtain⟨h1,h2⟩:=hi.ins f g y MR
  exact⟨h.slot h1,by rw[h.z];exact h2⟩
 ·rcases h.ACY hy with ⟨h1,h2⟩|h1
  rotate_left
  ·exact absurd h1 hp.1
  obtain⟨a1,a2,a3,a4,a5,a6,a7⟩:=hp
  rw[h2] at a1 a2 a4
  rw[h.z] at a3 a4
  rw[h.ad.wr.len] at a2
  obtain⟨p,hp,lp,op,pp,b,x,k,o,k1,k2,ha⟩:=id h1
  have hr:=o.IA
  obtain⟨f1,f2⟩:=h.frm hp o.has (pp:=pp+k) (by omega) ha
  rcases hi.ref y h1 with h3|⟨p',hp',pp',x',lp',op',o'⟩
  ·exact absurd h3 a1
  have nY :=o'.IA
  obtain⟨g1,g2⟩:=h.frm hp' o'.has (pp:=pp') (by omega) o'.FZ
  rw[<-a3] at f1 f2
  rw[<-a4] at g1 g2
  exact hi.rem y h1 f g ⟨a1,a2,a3,a4,by rw[<-f1];exact a5,by rw[<-g1];exact a6,by rw[<-f2,←g2];exact a7⟩
end
end Go.Proofs.YtokeceeccmgcmaaGreatDoor
namespace Go.Proofs.YtokeceeccmgcmaaGreatDoor
open Go Go.V3
abbrev mF (h:Hs):Hs:=(h.1,h.2.1,h.2.2.1,h.2.2.2.1,h.2.2.2.2.1,h.2.2.2.2.2.1,h.2.2.2.2.2.2.1,h.2.2.2.2.2.2.2.1,true)
abbrev AQK (h:Hs):Hs:=(h.1,h.2.1,h.2.2.1,h.2.2.2.1,h.2.2.2.2.1,h.2.2.2.2.2.1,if cmp h.1=true then AG (h.2.2.2.2.2.2.1+1) else h.2.2.2.2.2.2.1,(h.2.2.2.2.2.2.2.1.1,h.2.2.2.2.2.2.2.1.2.1,AG (h.2.2.2.2.2.2.2.1.2.2.1+1),h.2.2.2.2.2.2.2.1.2.2.2),h.2.2.2.2.2.2.2.2)
abbrev FX (h:Hs) (n:Int):Int×AI:=uW h.1 h.2.1 h.2.2.1 h.2.2.2.1 n
def ALF (h:Hs) (n:Int):Int:=if cmp h.1=true/\h.2.2.2.2.2.2.1≥h.1.2.2 then 0 else n
noncomputable def AFG (a1 a2:Int) (j2:Hs):Option ((Int×Hs×AI) ⊕ (Hs×Int×Int)):=
 (CX j2.1).bind (fun r5=>
 if r5=true then
 if j2.2.2.2.2.2.2.1≥j2.1.2.2 then
 (GY j2).bind (fun r6=>
 (CD r6.1.1 r6.1.2.1 r6.1.2.2.1 r6.1.2.2.2.1 (AG ((AG ((1:Int)+a1))+a2))).bind (fun r7=>
 if r7.1=3 then
 some (Sum.inr ((mF r6.1,0,18)))
 else some (Sum.inl ((r7.1,r6.1,r7.2)))))
 else (E7 j2 (AG ((AG ((1:Int)+a1))+a2))).bind (fun r8=>
 (CD r8.1.1 r8.1.2.1 r8.1.2.2.1 r8.1.2.2.2.1 (AG ((AG ((1:Int)+a1))+a2))).bind (fun r9=>
 if r9.1=3 then
 some (Sum.inr ((mF r8.1,0,18)))
 else some (Sum.inl ((r9.1,r8.1,r9.2)))))
 else (E7 j2 (AG ((AG ((1:Int)+a1))+a2))).bind (fun ID=>
 (CD ID.1.1 ID.1.2.1 ID.1.2.2.1 ID.1.2.2.2.1 (AG ((AG ((1:Int)+a1))+a2))).bind (fun OC=>
 if OC.1=3 then
 some (Sum.inr ((mF ID.1,0,18)))
 else some (Sum.inl ((OC.1,ID.1,OC.2))))))
noncomputable def AD3 (a1 a2:Int) (j1:Int×Hs×AI):Option (Hs×Int×Int):=
 (C4 j1.2.1.2.1 j1.2.2 (AG ((AG ((1:Int)+a1))+a2))).bind (fun O8=>
 if ¬O8.2.2.1=0 then
 some (((j1.2.1.1,(j1.2.1.2.1.1,O8.2.2.2),j1.2.1.2.2.1,j1.2.1.2.2.2.1,j1.2.1.2.2.2.2.1,j1.2.1.2.2.2.2.2.1,j1.2.1.2.2.2.2.2.2.1,j1.2.1.2.2.2.2.2.2.2.1,true),0,18))
 else (EI (j1.2.1.2.1.1,O8.2.2.2) O8.2.1 a1 a2).bind (fun UZ=>
 if j1.1=2 then
 (F8 j1.2.1.2.2.1 O8.1).bind (fun pN=>
 some (((j1.2.1.1,(j1.2.1.2.1.1,UZ.2),pN.1,AG (j1.2.1.2.2.2.1+1),j1.2.1.2.2.2.2.1,j1.2.1.2.2.2.2.2.1,j1.2.1.2.2.2.2.2.2.1,(AG (j1.2.1.2.2.2.2.2.2.2.1.1+(AG ((AG ((1:Int)+a1))+a2))),AG (j1.2.1.2.2.2.2.2.2.2.1.2.1+1),j1.2.1.2.2.2.2.2.2.2.1.2.2),j1.2.1.2.2.2.2.2.2.2.2),O8.2.1,0)))
 else (DO j1.2.1.2.2.1 O8.1).bind (fun sI=>
 some (((j1.2.1.1,(j1.2.1.2.1.1,UZ.2),sI.1,j1.2.1.2.2.2.1,j1.2.1.2.2.2.2.1,j1.2.1.2.2.2.2.2.1,j1.2.1.2.2.2.2.2.2.1,(AG (j1.2.1.2.2.2.2.2.2.2.1.1+(AG ((AG ((1:Int)+a1))+a2))),AG (j1.2.1.2.2.2.2.2.2.2.1.2.1+1),j1.2.1.2.2.2.2.2.2.2.1.2.2),j1.2.1.2.2.2.2.2.2.2.2),O8.2.1,0)))))
theorem AV7 (h:Hs) (a1 a2:Int):J2 h a1 a2=(
 if h.2.2.2.2.2.2.2.2=true then
 some (((hz0,0,19):Hs×Int×Int))
 else (D1 a1 a2).bind (fun r1=>
 if ¬r1.2=0 then
 some ((hz0,0,r1.2))
 else (BX h).bind (fun r2=>
 (CD r2.1 r2.2.1 r2.2.2.1 r2.2.2.2.1 (AG ((AG ((1:Int)+a1))+a2))).bind (fun r3=>
 Option.bind (α:=(Int×Hs×AI) ⊕ (Hs×Int×Int)) (if r3.1=3 then
 Option.bind (α:=Hs ⊕ ((Int×Hs×AI) ⊕ (Hs×Int×Int))) ((CX r2.1).bind (fun r4=>
 if r4=true then
 some (Sum.inl ((r2.1,r2.2.1,r2.2.2.1,r2.2.2.2.1,r2.2.2.2.2.1,r2.2.2.2.2.2.1,AG (r2.2.2.2.2.2.2.1+1),(r2.2.2.2.2.2.2.2.1.1,r2.2.2.2.2.2.2.2.1.2.1,AG (r2.2.2.2.2.2.2.2.1.2.2.1+1),r2.2.2.2.2.2.2.2.1.2.2.2),r2.2.2.2.2.2.2.2.2)))
 else some (Sum.inl ((r2.1,r2.2.1,r2.2.2.1,r2.2.2.2.1,r2.2.2.2.2.1,r2.2.2.2.2.2.1,r2.2.2.2.2.2.2.1,(r2.2.2.2.2.2.2.2.1.1,r2.2.2.2.2.2.2.2.1.2.1,AG (r2.2.2.2.2.2.2.2.1.2.2.1+1),r2.2.2.2.2.2.2.2.1.2.2.2),r2.2.2.2.2.2.2.2.2))))) (fun q=>match q with
 |Sum.inl j2=>AFG a1 a2 j2
 |Sum.inr b1=>some b1)
 else some (Sum.inl ((r3.1,r2,r3.2)))) (fun q=>match q with
 |Sum.inl j1=>AD3 a1 a2 j1
 |Sum.inr b2=>some b2))))):=rfl
def Gcd (h:Hs) (n:Int) (h1:Hs):Prop:=((FX h n).1≠3/\h1=h)\/((FX h n).1=3/\∃ b m hx kx,RD (ALF (AQK h) n) (AQK h) b m hx kx/\m<=256/\h1=b.1)
variable {h:Hs} {N:Int}
theorem HV.mono {M:Int} (v:HV N h) (hM:N<=M):HV M h:=⟨v.g,v.hi,v.ql,by have:=v.n1;omega⟩
theorem HV.col (v:HV N h):HV N (AQK h):=⟨v.g,v.hi,v.ql,v.n1⟩
theorem RD.ok {N:Int} {h:Hs} (v:HV N h) {n:Int} {b:Hs×Bool} {m:Nat} {h1:Hs} {k1:Cu} (r:RD n h b m h1 k1):HV (N+m) b.1/\b.1.1=h.1/\b.1.2.1.1=h.2.1.1/\b.1.2.1.2.2.length=h.2.1.2.2.length/\b.1.2.2.2.2.2.2.2.2=h.2.2.2.2.2.2.2.2:=by
 obtain⟨g1,g2,g3,g4,g5,g6,g7,g8⟩:=r.rn.ok v (KOk.init v)
 rcases r.fin with ⟨rfl,_⟩|⟨rfl,_⟩|⟨rfl,_⟩
 ·exact⟨g1,g4,g5,g6,g7⟩
 ·exact⟨⟨g1.g,g1.hi,g1.ql,g1.n1⟩,g4,g5,g6,g7⟩
 ·exact⟨g1,g4,g5,g6,g7⟩
theorem Gcd.ok {N:Int} {h:Hs} (v:HV N h) {n:Int} {h1:Hs} (g:Gcd h n h1):HV (N+256) h1/\h1.1=h.1/\h1.2.1.1=h.2.1.1/\h1.2.1.2.2.length=h.2.1.2.2.length/\h1.2.2.2.2.2.2.2.2=h.2.2.2.2.2.2.2.2:=by
 rcases g with ⟨_,rfl⟩|⟨_,b,m,hx,kx,r,hm,rfl⟩
 ·exact⟨v.mono (by omega),rfl,rfl,rfl,rfl⟩
 ·obtain⟨g1,g2⟩:=r.ok v.col
  exact⟨g1.mono (by omega),g2⟩
theorem AV8 (r d:Int):∃ w e,D1 r d=some (w,e)/\((e=0/\(0<=r/\r<=15)/\(0<=d/\d<=32))\/e=13):=by
 by_cases h:(0<=r/\r<=15)/\(0<=d/\d<=32)
 ·exact⟨_,_,wE h.1.1 h.1.2 h.2.1 h.2.2,.inl ⟨rfl,h⟩⟩
 ·unfold D1
  refine⟨0#64,13, ?_,.inr rfl⟩
  by_cases h1:r<0
  ·rw[AA h1]
  by_cases h2:r>15
  ·rw[AE h1,AA h2]
  by_cases h3:d<0
  ·rw[AE h1,AE h2,AA h3]
  rw[AE h1,AE h2,AE h3,ab]
theorem AOD (v:HV N h) (hN:N<=4294967000):∃ b m h1 k1,GY h=some b/\RD 0 h b m h1 k1/\m<=256:=by
 obtain⟨b,m,h1,k1,g1,g2⟩:=AIW v hN (n:=0) (YT _) (by omega)
 unfold GY
 rw[g1]
 exact⟨b,m,h1,k1,rfl,g2⟩
variable {n:Int}
theorem A2L (v:HV N h) (hN:N<=4294967000) (n0:1<=n) (n1:n<=48):∃ b c m h1 k1,E7 h n=some (b.1,c)/\RD n h b m h1 k1/\m<=256:=by
 obtain⟨b,m,h1,k1,g1,g2,g3⟩:=AIW v hN (n:=n) (by omega) (by omega)
 unfold E7
 rw[g1,AW,AIV (g2.ok v).1 n0 n1]
 exact⟨b,_,m,h1,k1,rfl,g2,g3⟩
theorem AQL (v:HV N h) (hN:N<=4294967000) {a1 a2:Int} (r0:0<=a1) (r1:a1<=15) (d0:0<=a2) (d1:a2<=32):
  ∃ b m hx kx,RD (ALF h (1+a1+a2)) h b m hx kx/\m<=256/\AFG a1 a2 h=some (if (FX b.1 (1+a1+a2)).1=3 then .inr (mF b.1,0,18) else .inl ((FX b.1 (1+a1+a2)).1,b.1,(FX b.1 (1+a1+a2)).2)):=by
 have hw:AG ((AG ((1:Int)+a1))+a2)=1+a1+a2:=by rw[ah (e:=1+a1),ah]
 have A5D:∀ {M:Int} {h1:Hs},HV M h1->CD h1.1 h1.2.1 h1.2.2.1 h1.2.2.2.1 (1+a1+a2)=some (FX h1 (1+a1+a2)):=fun v1=>AFF v1.g v1.qq v1.hi.hb.bv.n.1 (by omega) (by omega)
 have fin:∀ (h1:Hs),(if (FX h1 (1+a1+a2)).1=3 then (some (Sum.inr ((mF h1,(0:Int),(18:Int)))):Option ((Int×Hs×AI) ⊕ (Hs×Int×Int))) else some (Sum.inl (((FX h1 (1+a1+a2)).1,h1,(FX h1 (1+a1+a2)).2))))=some (if (FX h1 (1+a1+a2)).1=3 then .inr (mF h1,0,18) else .inl ((FX h1 (1+a1+a2)).1,h1,(FX h1 (1+a1+a2)).2)):=by
  intro h1
  split <;> rfl
 unfold AFG
 rw[qW v.g,AW,hw]
 have A5E:∀ (hr:ALF h (1+a1+a2)=1+a1+a2),∃ b m hx kx,RD (ALF h (1+a1+a2)) h b m hx kx/\m<=256/\(E7 h (1+a1+a2)).bind (fun ID=>
   (CD ID.1.1 ID.1.2.1 ID.1.2.2.1 ID.1.2.2.2.1 (1+a1+a2)).bind (fun OC=>
   if OC.1=3 then
   some (Sum.inr ((mF ID.1,(0:Int),(18:Int))))
   else some (Sum.inl ((OC.1,ID.1,OC.2)))))=some (if (FX b.1 (1+a1+a2)).1=3 then .inr (mF b.1,0,18) else .inl ((FX b.1 (1+a1+a2)).1,b.1,(FX b.1 (1+a1+a2)).2)):=by
  intro hr
  obtain⟨b,c,m,hx,kx,g1,g2,g3⟩:=A2L v hN (n:=1+a1+a2) (by omega) (by omega)
  refine⟨b,m,hx,kx,by rw[hr];exact g2,g3, ?_⟩
  rw[g1,AW]
  simp only
  rw[A5D (g2.ok v).1,AW]
  exact fin b.1
 by_cases c1:cmp h.1=true
 ·rw[AA c1]
  by_cases c2:h.2.2.2.2.2.2.1≥h.1.2.2
  ·rw[AA c2]
   obtain⟨b,m,hx,kx,g1,g2,g3⟩:=AOD v hN
   refine⟨b,m,hx,kx,by unfold ALF;rw[AA ⟨c1,c2⟩];exact g2,g3, ?_⟩
   rw[g1,AW,A5D (g2.ok v).1,AW]
   exact fin b.1
  ·rw[AE c2]
   exact A5E (by unfold ALF;rw[AE (fun hh=>c2 hh.2)])
 ·rw[AE c1]
  exact A5E (by unfold ALF;rw[AE (fun hh=>c1 hh.1)])
theorem AV9 (v:HV N h) (hN:N<=4294967295) (hp:(FX h n).1≠3):
  DB h.2.1 (FX h n).2/\((FX h n).2.2.2.2.2=0->owned h.2.1.2.2 (FX h n).2.1=[])∧
  ((FX h n).1=1/\(FX h n).2∈h.2.2.1.flatten\/(FX h n).1=2/\(FX h n).2=(h.2.2.2.1,0, -1, -1,0)):=by
 have hn0:=v.hi.n0
 have hn1:=v.n1
 unfold FX uW at*
 by_cases c1:opn h.1 h.2.1 h.2.2.1
 ·rw[AA c1] at hp ⊢
  by_cases c2:GrT (cmp h.1) h.2.1 h.2.2.1 (yng h.2.2.1) n
  ·rw[AA c2]
   have hl:=AAA.2 c1.1
   have hb:=v.hi.hb.bv.n
   have hy:yng h.2.2.1∈h.2.2.1.flatten:=LP.2 ⟨0,by omega,B3 (by omega)⟩
   have hf:=v.hi.hb.fit hy
   exact⟨hf.1,fun hw=>by simp only at hw;omega,.inl ⟨rfl,hy⟩⟩
  ·rw[AE c2] at hp;exact absurd rfl hp
 ·rw[AE c1] at hp ⊢
  by_cases c2:(ru h.1 0).2.1≠0/\(ru h.1 0).2.1<=(gl [] h.2.2.1 0).length
  ·rw[AA c2] at hp;exact absurd rfl hp
  rw[AE c2] at hp ⊢
  by_cases c3:GrT (cmp h.1) h.2.1 h.2.2.1 (h.2.2.2.1,0, -1, -1,0) n
  ·rw[AA c3]
   refine⟨AY6 _ hn0 (by omega) (by omega) (by omega),fun _=> ?_,.inr ⟨rfl,rfl⟩⟩
   refine AJA.2 fun x hx=> ?_
   obtain⟨⟨x0,x1⟩,hxo⟩:=B6.1 hx
   simp only at hxo
   have:=v.hi.hb.bv.cov x x0 x1 (by rw[hxo];omega)
   obtain⟨i,hi,he⟩:=DH.1 this
   have:=v.hi.seq i hi
   omega
  ·rw[AE c3] at hp;exact absurd rfl hp
def Ald (h:Hs) (i:AI) (r d:Int) (h' :Hs) (a:Int):Prop:=
 ∃ u j l l' os q' n',Al h.2.1 h.2.2.1 h.2.2.2.1 i r d u j a l l' os q' n' /\h' =(h.1,u,q',n',h.2.2.2.2.1,h.2.2.2.2.2.1,h.2.2.2.2.2.2.1,(AG (h.2.2.2.2.2.2.2.1.1+(1+r+d)),AG (h.2.2.2.2.2.2.2.1.2.1+1),h.2.2.2.2.2.2.2.1.2.2),h.2.2.2.2.2.2.2.2)
theorem AVA (v:HV N h) (hN:N<=4294967290) {a1 a2:Int} (r0:0<=a1) (r1:a1<=15) (d0:0<=a2) (d1:a2<=32) (hp:(FX h (1+a1+a2)).1≠3):
  (((C1 h.2.1.2.2).length:Int)<uV h.2.1 (FX h (1+a1+a2)).2 (1+a1+a2)/\AD3 a1 a2 ((FX h (1+a1+a2)).1,h,(FX h (1+a1+a2)).2)=some (mF h,0,18))∨
  ∃ h' a,AD3 a1 a2 ((FX h (1+a1+a2)).1,h,(FX h (1+a1+a2)).2)=some (h',a,0)/\Ald h (FX h (1+a1+a2)).2 a1 a2 h' a:=by
 have hw:AG ((AG ((1:Int)+a1))+a2)=1+a1+a2:=by rw[ah (e:=1+a1),ah]
 obtain⟨hf,C6,hk⟩:=AV9 v (by omega) hp
 generalize hI:(FX h (1+a1+a2)).2=i at*
 generalize hK:(FX h (1+a1+a2)).1=kd at*
 obtain⟨l1,l2,l3⟩:=v.hi.hb.lens
 have hn0:=v.hi.n0
 have hn1:=v.n1
 have hqn:=v.hi.hb.bv.n
 unfold AD3
 simp only[hw]
 rcases AEU v.vs hf C6 (n:=1+a1+a2) (by omega) (by omega) with ⟨g1,g2⟩|⟨g1,t,j,a,l,l',g2,g3⟩
 ·left
  rw[g2,AW]
  exact⟨g1,rfl⟩
 ·right
  rw[g2,AW]
  simp only
  rw[AE (DQ trivial)]
  obtain⟨u,m1,m2,m3⟩:=ANR v.vs r0 r1 d0 d1 hf g3
  have e1:((h.2.1.1,t.2.1,t.2.2):Sp)=t:=by rw[<-g3.sh]
  rw[e1,m1,AW]
  have e2:((h.2.1.1,u.2.1,u.2.2):Sp)=u:=by rw[<-m3.sh]
  simp only
  rw[e2]
  have A5F:∃ os,DK (sz h.2.1.1) h.2.1.2.1 l 0 os i.2.2.2.2:=by
   rcases hk with ⟨_,hm⟩|⟨_,rfl⟩
   ·obtain⟨os,l2,f1,f2⟩:=v.hi.hb.full i hm
    rw[K_ f1 g3.has] at f2
    exact⟨os,f2⟩
   ·exact⟨[],rfl⟩
  obtain⟨os,AF9⟩:=A5F
  have AIP:=g3.seq
  have z5:=g3.XK
  rcases hk with ⟨rfl,hm⟩|⟨rfl,hi⟩
  ·rw[AE (by decide),zZ (by omega) (fun x hx=>by have:=l3 x hx;omega) (GF.1 v.hi.hb.bv.ok).1 hm AIP.symm z5.symm,AW]
   exact⟨_,_,rfl,u,j,l,l',os,_,_,⟨v.hi.hb,v.hi.seq,v.hi.n0,⟨⟨r0,r1⟩,d0,d1⟩,hf,m3,g3.has,AF9,.inl ⟨hm,rfl,rfl⟩⟩,rfl⟩
  ·have hi1:i.1=h.2.2.2.1:=by rw[hi]
   have hi2:i.2.1=0:=by rw[hi]
   have hi3:i.2.2.2.2=0:=by rw[hi]
   rw[AA rfl,AUW (by omega) (fun x hx=>by have:=l3 x hx;omega) (by omega) (by omega) (fun p hp=>by have:=v.hi.seq p hp;omega),AW,ah (e:=h.2.2.2.1+1)]
   exact⟨_,_,rfl,u,j,l,l',os,_,_,⟨v.hi.hb,v.hi.seq,v.hi.n0,⟨⟨r0,r1⟩,d0,d1⟩,hf,m3,g3.has,AF9,.inr ⟨hi1,hi3,by omega,rfl,rfl⟩⟩,rfl⟩
variable {a:Int} {h':Hs} {i:AI}
theorem Ald.ok (v:HV N h) {r d:Int} (al:Ald h i r d h' a):HV (N+1) h' /\IsO h'.2.1 h'.2.2.1 a/\h'.1=h.1/\h'.2.2.2.2.2.2.2.2=h.2.2.2.2.2.2.2.2/\h'.2.1.1=h.2.1.1/\h'.2.1.2.2.length=h.2.1.2.2.length/\h'.2.2.2.2.2.1=h.2.2.2.2.2.1:=by
 obtain⟨u,j,l,l',os,q',n',h1,rfl⟩:=al
 obtain⟨g1,g2,g3,g4⟩:=h1.done v.hi
 have:=v.n1
 exact⟨⟨v.g,g1,by simp only;rw[g4];exact v.ql,by simp only;omega⟩,g2,rfl,rfl,h1.ad.sh,h1.ad.grown.len,rfl⟩
def AlR (h:Hs) (r d:Int) (h' :Hs) (a e:Int):Prop:=
 ∃ h1,Gcd h (1+r+d) h1/\((e=18/\h' =mF h1/\a=0/\((FX h1 (1+r+d)).1=3\/((C1 h1.2.1.2.2).length:Int)<uV h1.2.1 (FX h1 (1+r+d)).2 (1+r+d)))\/(e=0/\(FX h1 (1+r+d)).1≠3/\Ald h1 (FX h1 (1+r+d)).2 r d h' a))
theorem AQM (v:HV N h) (hN:N<=4294966000) (hd:h.2.2.2.2.2.2.2.2=false) {r d:Int} (r0:0<=r) (r1:r<=15) (d0:0<=d) (d1:d<=32):∃ h' a e,J2 h r d=some (h',a,e)/\AlR h r d h' a e:=by
 have hw:AG ((AG ((1:Int)+r))+d)=1+r+d:=by rw[ah (e:=1+r),ah]
 have tail:∀ {h1:Hs},Gcd h (1+r+d) h1->(FX h1 (1+r+d)).1≠3->∃ h' a e,AD3 r d ((FX h1 (1+r+d)).1,h1,(FX h1 (1+r+d)).2)=some (h',a,e)/\AlR h r d h' a e:=by
  intro h1 g hp
  rcases AVA (g.ok v).1 (by omega) r0 r1 d0 d1 hp with ⟨g1,g2⟩|⟨h',a,g1,g2⟩
  ·exact⟨_,_,_,g2,h1,g,.inl ⟨rfl,rfl,rfl,.inr g1⟩⟩
  ·exact⟨_,_,_,g1,h1,g,.inr ⟨rfl,hp,g2⟩⟩
 rw[AV7,hd,AE (by decide),wE r0 r1 d0 d1,AW,AE (DQ rfl),v.copy,AW,hw,AFF v.g v.qq v.hi.hb.bv.n.1 (n:=h.2.2.2.1) (k:=1+r+d) (by omega) (by omega),AW]
 by_cases c1:(uW h.1 h.2.1 h.2.2.1 h.2.2.2.1 (1+r+d)).1=3
 ·rw[AA c1,qW v.g,AW]
  have key:∀ X:Option ((Int×Hs×AI) ⊕ (Hs×Int×Int)),X=AFG r d (AQK h)->∃ h' a e,(Option.bind X fun q=>match q with
    |Sum.inl j1=>AD3 r d j1
    |Sum.inr b2=>some b2)=some (h',a,e)/\AlR h r d h' a e:=by
   rintro X rfl
   obtain⟨b,m,hx,kx,g1,g2,g3⟩:=AQL v.col (by omega) r0 r1 d0 d1
   have hg:Gcd h (1+r+d) b.1:= .inr ⟨c1,b,m,hx,kx,g1,g2,rfl⟩
   rw[g3,AW]
   by_cases c2:(FX b.1 (1+r+d)).1=3
   ·rw[AA c2]
    exact⟨_,_,_,rfl,b.1,hg,.inl ⟨rfl,rfl,rfl,.inl c2⟩⟩
   ·rw[AE c2]
    exact tail hg c2
  refine key _ ?_
  unfold AQK
  by_cases c3:cmp h.1=true
  ·rw[AA c3,AA c3];rfl
  ·rw[AE c3,AE c3];rfl
 ·rw[AE c1,AW]
  exact tail (.inl ⟨c1,rfl⟩) c1
end Go.Proofs.YtokeceeccmgcmaaGreatDoor
namespace Go.Proofs.YtokeceeccmgcmaaGreatDoor
open Go Go.V3
variable {w:BitVec 64} {r:Ro} {ss:Ss} {n:Int} {q:Rows} {s:Sp}
theorem HI.take (h:HI s q n ss r) {i:Nat} (hi:i<32) (hw:w≠0#64) (ho:IsO s q ((w.toNat:Int)-1)):HI s q n ss (r.1.set i true,r.2.set i w):=by
 have h1:=h.ro.ul
 have h2:=h.ro.rl
 refine { h with ro:=h.ro.set i w,root:=fun k hk hu=> ?_ }
 simp only at hu ⊢
 rw[DS (by omega)] at hu ⊢
 split
 ·exact⟨hw,ho⟩
 ·rename_i hn
  rw[AE hn] at hu
  exact h.root k hk hu
theorem HI.drop (h:HI s q n ss r) {i:Nat} (hi:i<32):HI s q n ss (r.1.set i false,r.2.set i 0#64):=by
 have h1:=h.ro.ul
 have h2:=h.ro.rl
 refine { h with ro:=h.ro.clear hi,root:=fun k hk hu=> ?_ }
 simp only at hu ⊢
 rw[DS (by omega)] at hu ⊢
 split at hu
 ·cases hu
 ·rename_i hn
  rw[AE hn]
  exact h.root k hk hu
structure Fd (s:Sp) (q:Rows) (i:AI) (l:List Int) (os:List (Int×Int)) (p a:Int) (x:Int×Int) (k y:Int):Prop where
 hb:HB s q
 hi:i∈q.flatten
 o:OB s i l os p a x
 k0:1<=k
 k1:k<=x.1+x.2
 hy:CM (sz s.1) l (p+k)=some y
abbrev bG (s:Sp) (y:Int) (v:BitVec 64):Sp:=(s.1,s.2.1.set y.toNat v,s.2.2)
section
variable {s:Sp} {q:Rows} {i:AI} {l:List Int} {os:List (Int×Int)} {p a:Int} {x:Int×Int} {k y:Int}
theorem Fd.FZ (h:Fd s q i l os p a x k y):(0<=y/\y<s.2.1.length)/\(fr s.2.2 (y / sz s.1)).1=i.1:=by
 have hr:=CH h.hb.bv.vs (h.hb.fit h.hi).1 h.o.has (by have:=h.o.IA;have:=h.k0;omega) h.hy
 exact⟨hr.1,hr.2.2.2.1⟩
variable {x':Int×Int} {b p':Int} {rC:List (Int×Int)} {l':List Int} {i':AI}
theorem Fd.head (h:Fd s q i l os p a x k y) (KM :i' ∈q.flatten) (o' :OB s i' l' rC p' b x'):b≠y:=by
 rintro rfl
 have r1:=h.o.IA
 have r2:=o'.IA
 have k0:=h.k0
 have k1:=h.k1
 have c1:=h.FZ.2
 have c2:=CH h.hb.bv.vs (h.hb.fit KM).1 o'.has r2.2.2.1 o'.FZ
 obtain rfl:=h.hb.uniq KM h.hi (by rw[<-c2.2.2.2.1,←c1])
 obtain⟨rfl,rfl⟩:=LA o'.has o'.Q2 h.o
 have:=F9 (BU s.1) (YP o'.has) r2.2.2.1 (by omega) o'.FZ h.hy
 rcases o'.Q2.apart o'.ta h.o.ta with ⟨h3,_⟩|h3|h3 <;> omega
theorem Fd.one (h:Fd s q i l os p a x k y) (KM :i' ∈q.flatten) (o' :OB s i' l' rC p' b x') {j:Int} (j0:0<=j) (j1:j<=x'.1+x'.2) (hj:CM (sz s.1) l' (p' +j)=some y):i' =i/\b=a/\x' =x/\j=k/\p' =p:=by
 have r1:=h.o.IA
 have r2:=o'.IA
 have k0:=h.k0
 have k1:=h.k1
 have c1:=h.FZ.2
 have c2:=CH h.hb.bv.vs (h.hb.fit KM).1 o'.has (by omega) hj
 obtain rfl:=h.hb.uniq KM h.hi (by rw[<-c2.2.2.2.1,←c1])
 obtain⟨rfl,rfl⟩:=LA o'.has o'.Q2 h.o
 have:=F9 (BU s.1) (YP o'.has) (by omega) (by omega) hj h.hy
 rcases o'.Q2.apart o'.ta h.o.ta with ⟨rfl,rfl⟩|h3|h3
 ·have e:=o'.FZ
  rw[h.o.FZ] at e
  exact⟨rfl,(HO e).symm,rfl,by omega,rfl⟩
 ·omega
 ·omega
theorem Fd.vs (h:Fd s q i l os p a x k y) (v:BitVec 64):VS (bG s y v):=
 h.hb.bv.vs.word h.FZ.1.1 (by rw[h.FZ.2];have:=(h.hb.fit h.hi).1.1;omega) v
theorem Fd.wd (h:Fd s q i l os p a x k y) (v:BitVec 64) {z:Int} (z0:0<=z):gl 0#64 (bG s y v).2.1 z.toNat=if z=y then v else gl 0#64 s.2.1 z.toNat:=by
 have hr:=h.FZ.1
 unfold bG
 simp only
 rw[DS (by omega)]
 by_cases hz:z=y
 ·rw[AA hz,AA (by rw[hz])]
 ·rw[AE hz,af]
theorem Fd.ob (h:Fd s q i l os p a x k y) (v:BitVec 64) (KM :i' ∈q.flatten) :OB (bG s y v) i' l' rC p' b x' ↔OB s i' l' rC p' b x' :=by
 obtain⟨o1,l1,g1,g2⟩:=h.hb.full i' KM
 have hv:=h.hb.bv.vs
 have hf:=(h.hb.fit KM).1
 have ht:DK (sz s.1) (bG s y v).2.1 l1 0 o1 i'.2.2.2.2:=g2.ACX fun p' x' b hp hb=>⟨hb,by
  have o' :OB s i' l1 o1 p' b x' :=⟨g1,g2,hp,hb⟩
  have hr:=CH hv hf g1 o'.IA.2.2.1 hb
  rw[h.wd v hr.1.1,AE (h.head KM o')]⟩
 constructor
 ·intro o'
  obtain⟨rfl,rfl⟩:=LA (s:=bG s y v) g1 ht o'
  exact⟨g1,g2,o'.ta,o'.FZ⟩
 ·intro o'
  obtain⟨rfl,rfl⟩:=LA g1 g2 o'
  exact⟨g1,ht,o'.ta,o'.FZ⟩
theorem Fd.UB (h:Fd s q i l os p a x k y) (v:BitVec 64):HB (bG s y v) q:=by
 have ZZ:=GF.1 h.hb.bv.ok
 refine⟨⟨h.vs v,h.hb.bv.n,GF.2 ⟨ZZ.1,fun p hp=>DB.words (by simp) (ZZ.2 p hp)⟩,h.hb.bv.cov⟩,fun i' KM => ?_⟩
 obtain⟨o1,l1,g1,g2⟩:=h.hb.full i' KM
 refine⟨o1,l1,g1,g2.ACX fun p' x' b hp hb=>⟨hb, ?_⟩⟩
 have o' :OB s i' l1 o1 p' b x' :=⟨g1,g2,hp,hb⟩
 have hr:=CH h.hb.bv.vs (h.hb.fit KM).1 g1 o'.IA.2.2.1 hb
 rw[h.wd v hr.1.1,AE (h.head KM o')]
theorem Fd.slot (h:Fd s q i l os p a x k y) (v:BitVec 64) {z:Int}:Slot (bG s y v) q z↔Slot s q z:=by
 constructor
 ·rintro⟨i',KM,l',rC,p',b,x',j,o',j1,j2,ha⟩
  exact⟨i',KM,l',rC,p',b,x',j,(h.ob v KM).1 o',j1,j2,ha⟩
 ·rintro⟨i',KM,l',rC,p',b,x',j,o',j1,j2,ha⟩
  exact⟨i',KM,l',rC,p',b,x',j,(h.ob v KM).2 o',j1,j2,ha⟩
theorem Fd.iso (h:Fd s q i l os p a x k y) (v:BitVec 64) :IsO (bG s y v) q b↔IsO s q b:=by
 constructor
 ·rintro⟨i',KM,p',x',l',rC,o'⟩
  exact⟨i',KM,p',x',l',rC,(h.ob v KM).1 o'⟩
 ·rintro⟨i',KM,p',x',l',rC,o'⟩
  exact⟨i',KM,p',x',l',rC,(h.ob v KM).2 o'⟩
theorem Fd.pr (h:Fd s q i l os p a x k y) (v:BitVec 64) {z:Int} {f g:Int}:Pr (bG s y v) z w f g↔Pr s z w f g:=by
 unfold Pr bG
 simp only[EG]
theorem Fd.data (h:Fd s q i l os p a x k y) (v:BitVec 64) (hk:x.1<k) (hi:HI s q n ss r):HI (bG s y v) q n ss r:=by
 have CW:∀ z,Slot s q z->z≠y:=by
  rintro z ⟨i',KM,l',rC,p',b,x',j,o',j1,j2,ha⟩ rfl
  obtain⟨_,_,rfl,rfl,_⟩:=h.one KM o' (by omega) (by have:=o'.IA;omega) ha
  omega
 have hw:∀ z,Slot s q z->gl 0#64 (bG s y v).2.1 z.toNat=gl 0#64 s.2.1 z.toNat:=by
  intro z hz
  have h1:=CW z hz
  obtain⟨i',KM,l',rC,p',b,x',j,o',j1,j2,ha⟩:=hz
  have hr:=CH hi.hb.bv.vs (hi.hb.fit KM).1 o'.has (by have:=o'.IA;omega) ha
  rw[h.wd v hr.1.1,AE h1]
 refine { hb:=h.UB v,seq:=hi.seq,n0:=hi.n0,ref:=fun z hz=> ?_,ro:=hi.ro,root:=fun k hk hu=>⟨(hi.root k hk hu).1,(h.iso v).2 (hi.root k hk hu).2⟩,rv:=hi.rv,ins:=fun f g z hz=>⟨(h.slot v).2 (hi.ins f g z hz).1,(hi.ins f g z hz).2⟩,rem:=fun z hz f g hp=> ?_ }
 ·have hz' :=(h.slot v).1 hz
  rw[hw z hz']
  rcases hi.ref z hz' with h1|h1
  ·exact .inl h1
  ·exact .inr ((h.iso v).2 h1)
 ·have hz' :=(h.slot v).1 hz
  rw[hw z hz'] at hp
  exact hi.rem z hz' f g ((h.pr v).1 hp)
theorem Fd.ref (h:Fd s q i l os p a x k y) {v:BitVec 64} (hk:k<=x.1) (hv:Rf s q v) {n:Int} {ss:Ss} {r:Ro} (hi:HI s q n ss r) {W8 :Ss} (hr:RV W8) (hs:∀ f g y',In W8 f g y' ↔In ss f g y' \/(y' =y/\Pr (bG s y v) y v f g)):HI (bG s y v) q n W8 r:=by
 have Q8:Slot s q y:=⟨i,h.hi,l,os,p,a,x,k,h.o,h.k0,hk,h.hy⟩
 have hrf:∀ w,Rf s q w->Rf (bG s y v) q w:=by
  rintro w (h1|h1)
  ·exact .inl h1
  ·exact .inr ((h.iso v).2 h1)
 have hw:∀ z,Slot s q z->gl 0#64 (bG s y v).2.1 z.toNat=if z=y then v else gl 0#64 s.2.1 z.toNat:=by
  intro z hz
  obtain⟨i',KM,l',rC,p',b,x',j,o',j1,j2,ha⟩:=hz
  have hr:=CH hi.hb.bv.vs (hi.hb.fit KM).1 o'.has (by have:=o'.IA;omega) ha
  exact h.wd v hr.1.1
 refine { hb:=h.UB v,seq:=hi.seq,n0:=hi.n0,ref:=fun z hz=> ?_,ro:=hi.ro,root:=fun k hk hu=>⟨(hi.root k hk hu).1,(h.iso v).2 (hi.root k hk hu).2⟩,rv:=hr,ins:=fun f g z hz=> ?_,rem:=fun z hz f g hp=> ?_ }
 ·have hz' :=(h.slot v).1 hz
  rw[hw z hz']
  split
  ·exact hrf v hv
  ·exact hrf _ (hi.ref z hz')
 ·rcases (hs f g z).1 hz with h1|⟨rfl,h1⟩
  ·exact⟨(h.slot v).2 (hi.ins f g z h1).1,(hi.ins f g z h1).2⟩
  ·exact⟨(h.slot v).2 Q8,h1.2.2.1⟩
 ·have hz' :=(h.slot v).1 hz
  rw[hw z hz'] at hp
  by_cases he:z=y
  ·subst he
   rw[AA rfl] at hp
   exact (hs f g z).2 (.inr ⟨rfl,hp⟩)
  ·rw[AE he] at hp
   exact (hs f g z).2 (.inl (hi.rem z hz' f g ((h.pr v).1 hp)))
end
end Go.Proofs.YtokeceeccmgcmaaGreatDoor
namespace Go.Proofs.YtokeceeccmgcmaaGreatDoor
open Go Go.V3
abbrev Op:Type:=Int×Int×Int×Int
abbrev An:Type:=Int×BitVec 64
def N3 (u:List Bool) (x:Int) (need:Bool):Int:=if x=0 then (if need=true then 16 else 0) else if x<0\/32<x\/gl false u (x-1).toNat=false then 14 else 0
def wrd (r:Ro) (x:Int):BitVec 64:=if x=0 then 0#64 else gl 0#64 r.2 (x-1).toNat
variable {h:Hs}
theorem jH (hr:bE h.2.2.2.2.2.1) (x:Int) (need:Bool):DD h x need=some (N3 h.2.2.2.2.2.1.1 x need):=by
 have h1:=hr.ul
 unfold DD zak zaG N3
 by_cases c0:x=0
 ·simp only[AA c0]
  cases need <;> rfl
 simp only[AE c0]
 by_cases c1:x<0
 ·rw[AA c1,AA (.inl c1)]
 by_cases c2:x>32
 ·rw[AE c1,AA c2,AA (.inr (.inl c2))]
 rw[AE c1,AE c2,ah (e:=x-1),ab]
 cases hu:gl false h.2.2.2.2.2.1.1 (x-1).toNat with
 |true=>rw[AE (by decide),AE (fun hh=>by rcases hh with hh|hh|hh;omega;omega;cases hh)]
 |false=>rw[AA (by decide),AA (.inr (.inr rfl))]
theorem h_ {u:List Bool} {x:Int} (h:N3 u x true=0):1<=x/\x<=32/\gl false u (x-1).toNat=true:=by
 unfold N3 at h
 by_cases c0:x=0
 ·rw[AA c0,AA rfl] at h;omega
 rw[AE c0] at h
 by_cases c1:x<0\/32<x\/gl false u (x-1).toNat=false
 ·rw[AA c1] at h;omega
 refine⟨by omega,by omega, ?_⟩
 cases hu:gl false u (x-1).toNat with
 |true=>rfl
 |false=>exact absurd (.inr (.inr hu)) c1
theorem AOE {u:List Bool} {x:Int} (h:N3 u x false=0):x=0\/(1<=x/\x<=32/\gl false u (x-1).toNat=true):=by
 by_cases c0:x=0
 ·exact .inl c0
 ·refine .inr (h_ ?_)
  unfold N3 at h ⊢
  rw[AE c0] at h ⊢
  exact h
theorem bH (hr:bE h.2.2.2.2.2.1) {x:Int} (x0:0<=x) (x1:x<=32):BO h x=some (wrd h.2.2.2.2.2.1 x):=by
 have h1:=hr.rl
 unfold BO zaG wrd
 by_cases c0:x=0
 ·rw[AA c0,AA c0]
 ·rw[AE c0,AE c0,ah (e:=x-1),ab]
variable {r:Ro}
theorem AIX (h:bE r) (w:BitVec 64):
  (∃ i:Nat,i<32/\gl false r.1 i=false/\(∀ j:Nat,j<i->gl false r.1 j=true)/\D2 r w=some ((r.1.set i true,r.2.set i w),(i:Int)+1,0))\/((∀ i:Nat,i<32->gl false r.1 i=true)/\D2 r w=some (([],[]),0,15)):=by
 have h1:=h.ul
 have h2:=h.rl
 unfold D2
 rw[h.valid,AW,AE (by simp),h.copy]
 refine (AK (fun k (st:Int)=>st=(k:Int)/\∀ j:Nat,j<k->gl false r.1 j=true) (fun b=>(∃ i:Nat,i<32/\gl false r.1 i=false/\(∀ j:Nat,j<i->gl false r.1 j=true)/\b=((r.1.set i true,r.2.set i w),(i:Int)+1,(0:Int)))\/((∀ i:Nat,i<32->gl false r.1 i=true)/\b=(([],[]),(0:Int),(15:Int)))) r.1.length ?_ ?_ (s:=0) ⟨rfl,fun j hj=>by omega⟩).elim fun b hb=>by
  rcases hb.2 with ⟨i,a1,a2,a3,a4⟩|⟨a1,a2⟩
  ·exact .inl ⟨i,a1,a2,a3,by rw[hb.1,a4]⟩
  ·exact .inr ⟨a1,by rw[hb.1,a2]⟩
 ·rintro k st hk ⟨rfl,hj⟩
  rw[ab,ab]
  simp only[HM]
  cases hu:gl false r.1 k with
  |true=>
   rw[AE (by simp),ah]
   refine .inl ⟨_,rfl,rfl,fun j bQ => ?_⟩
   by_cases WC:j=k
   ·rw[WC];exact hu
   ·exact hj j (by omega)
  |false=>
   rw[AA (by simp),AW,ab,ab,ah]
   exact .inr ⟨_,rfl,.inl ⟨k,by omega,hu,hj,rfl⟩⟩
 ·rintro st ⟨rfl,hj⟩
  rw[af]
  exact⟨_,rfl,.inr ⟨fun i hi=>hj i (by omega),rfl⟩⟩
def U_ (u:List Bool):Prop:=∀ i:Nat,i<32->gl false u i=true
instance (u:List Bool):Decidable (U_ u):=by unfold U_;infer_instance
theorem AIY (u:List Bool):∀ k:Nat,(liv u k).length=k↔∀ i:Nat,i<k->gl false u i=true
 |0=>⟨fun _ i hi=>by omega,fun _=>rfl⟩
 |k+1=>by
  have hl:=qL u k
  have ih:=AIY u k
  rw[liv,PQ]
  by_cases hu:gl false u k=true
  ·rw[AA hu,Q5]
   constructor
   ·intro h i hi
    by_cases iO:i=k
    ·rw[iO];exact hu
    ·exact ih.1 (by omega) i (by omega)
   ·intro h
    rw[ih.2 fun i hi=>h i (by omega)]
  ·rw[AE hu,SK]
   constructor
   ·intro h;omega
   ·intro h;exact absurd (h k (by omega)) hu
theorem AD4 (hr:bE h.2.2.2.2.2.1):FN h=some (decide (U_ h.2.2.2.2.2.1.1)):=by
 unfold FN
 rw[tA hr,AW]
 have:=AIY h.2.2.2.2.2.1.1 32
 by_cases hf:U_ h.2.2.2.2.2.1.1
 ·rw[JR hf,JR (show ((liv h.2.2.2.2.2.1.1 32).length:Int)=32 by have:=this.2 hf;omega)]
 ·rw[P_ hf,P_ (show ¬((liv h.2.2.2.2.2.1.1 32).length:Int)=32 from fun hh=>hf (this.1 (by omega)))]
abbrev AZZ (h:Hs) (r:Ro):Hs:=(h.1,h.2.1,h.2.2.1,h.2.2.2.1,h.2.2.2.2.1,r,h.2.2.2.2.2.2)
def AVB (h:Hs) (w:BitVec 64) (h' :Hs) (v:BitVec 64):Prop:=
 ∃ i:Nat,i<32/\gl false h.2.2.2.2.2.1.1 i=false/\(∀ j:Nat,j<i->gl false h.2.2.2.2.2.1.1 j=true)/\h' =AZZ h (h.2.2.2.2.2.1.1.set i true,h.2.2.2.2.2.1.2.set i w)/\v=BitVec.ofInt 64 ((i:Int)+1)
variable {h':Hs} {w:BitVec 64} {N:Int}
theorem AVB.hv (v:HV N h) {x:BitVec 64} (t:AVB h w h' x) (hw:w≠0#64) (ho:IsO h.2.1 h.2.2.1 ((w.toNat:Int)-1)):HV N h' :=by
 obtain⟨i,h1,h2,_,rfl,_⟩:=t
 exact⟨v.g,v.hi.take h1 hw ho,v.ql,v.n1⟩
theorem AOF (hr:bE h.2.2.2.2.2.1) (hf:¬U_ h.2.2.2.2.2.1.1) (w:BitVec 64):∃ h' v,(D2 h.2.2.2.2.2.1 w).bind (fun r7=>
  (BI (h.1,h.2.1,h.2.2.1,h.2.2.2.1,h.2.2.2.2.1,r7.1,h.2.2.2.2.2.2) (BitVec.ofInt 64 r7.2.1)).bind (fun r8=>
  some ((r8.1,r8.2))))=some (h',(0,v))/\AVB h w h' v:=by
 rcases AIX hr w with ⟨i,h1,h2,h3,h4⟩|⟨h1,_⟩
 ·rw[h4]
  exact⟨_,_,rfl,i,h1,h2,h3,rfl,rfl⟩
 ·exact absurd h1 hf
variable {x:Int×Int} {a p:Int} {os:List (Int×Int)} {i:AI} {s:Sp}
theorem OB.A2M (hv:VS s) (hf:DB s i) {l:List Int} (h:OB s i l os p a x) (k:Int) (b:Bool):
  (¬(0<=k/\k<(if b=true then x.1 else x.2))/\B2 s a k b=some (0,17))\/((0<=k/\k<(if b=true then x.1 else x.2))/\∃ y,CM (sz s.1) l (p+(if b=true then 1+k else 1+x.1+k))=some y/\B2 s a k b=some (y,0)):=by
 obtain⟨⟨⟨r0,r1⟩,d0,d1⟩,h2,h3,h4⟩:=h.IA
 unfold B2
 rw[h.look hv hf,AW,AE (show ¬¬(((x.1,x.2,(0:Int)):Int×Int×Int).2.2=0) from DQ rfl)]
 cases b with
 |true=>
  simp only[HP]
  by_cases k0:k<0
  ·rw[AA k0];exact .inl ⟨by omega,rfl⟩
  rw[AE k0]
  by_cases k1:k≥x.1
  ·rw[AA k1];exact .inl ⟨by omega,rfl⟩
  rw[AE k1,ah]
  obtain⟨y,hy⟩:=h.vN hv hf (k:=1+k) (by omega) (by omega)
  rw[h.go hv hf (by omega) (by omega),hy]
  exact .inr ⟨by omega,y,rfl,rfl⟩
 |false=>
  simp only[W_,KK]
  by_cases k0:k<0
  ·rw[AA k0];exact .inl ⟨by omega,rfl⟩
  rw[AE k0]
  by_cases k1:k≥x.2
  ·rw[AA k1];exact .inl ⟨by omega,rfl⟩
  rw[AE k1,ah (e:=1+x.1),ah (e:=1+x.1+k)]
  obtain⟨y,hy⟩:=h.vN hv hf (k:=1+x.1+k) (by omega) (by omega)
  rw[h.go hv hf (by omega) (by omega),hy]
  exact .inr ⟨by omega,y,rfl,rfl⟩
theorem HV.root {N:Int} {h:Hs} (v:HV N h) {x:Int} (hx:N3 h.2.2.2.2.2.1.1 x true=0):∃ i∈h.2.2.1.flatten,∃ l os p a y,OB h.2.1 i l os p a y/\(wrd h.2.2.2.2.2.1 x).toNat=a+1/\AG (AG ((wrd h.2.2.2.2.2.1 x).toNat:Int)-1)=a/\0<=a:=by
 obtain⟨x0,x1,hu⟩:=h_ hx
 obtain⟨h1,i,hi,p,y,l,os,o⟩:=v.hi.root (x-1).toNat (by omega) hu
 have hw:wrd h.2.2.2.2.2.1 x=gl 0#64 h.2.2.2.2.2.1.2 (x-1).toNat:=by unfold wrd;rw[af]
 rw[<-hw] at h1 o
 have hr:=CH v.vs (v.hi.hb.fit hi).1 o.has o.IA.2.2.1 o.FZ
 have W7:=VS.IK v.vs
 have h2:=(JH h1).2
 refine⟨i,hi,l,os,p,_,y,o,by omega, ?_,by omega⟩
 rw[ah (e:=((wrd h.2.2.2.2.2.1 x).toNat:Int)),ah]
theorem AFH (v:HV N h) {x:Int} (hx:N3 h.2.2.2.2.2.1.1 x false=0):Rf h.2.1 h.2.2.1 (wrd h.2.2.2.2.2.1 x)/\0<=x/\x<=32:=by
 rcases AOE hx with rfl|⟨x0,x1,hu⟩
 ·exact⟨.inl rfl,by omega,by omega⟩
 ·have hw:wrd h.2.2.2.2.2.1 x=gl 0#64 h.2.2.2.2.2.1.2 (x-1).toNat:=by unfold wrd;rw[af]
  rw[hw]
  exact⟨.inr (v.hi.root (x-1).toNat (by omega) hu).2,by omega,by omega⟩
noncomputable def A00 (h:Hs) (o:Op) (nM:Int×Int):Option (Hs×An):=
 if ¬nM.2=0 then
 (BH h nM.2).bind (fun r22=>
 some ((r22.1,r22.2)))
 else if 0<=nM.1/\nM.1<(h.2.1.2.1.length:Int) then
 if o.1=4 then
 (BI h (gl (0#64:(BitVec 64)) h.2.1.2.1 nM.1.toNat)).bind (fun ZO=>
 some ((ZO.1,ZO.2)))
 else if o.1=2 then
 if (gl (0#64:(BitVec 64)) h.2.1.2.1 nM.1.toNat)=(0#64) then
 (BI h (0#64)).bind (fun r24=>
 some ((r24.1,r24.2)))
 else (FN h).bind (fun r25=>
 if r25=true then
 (BH h 15).bind (fun wB=>
 some ((wB.1,wB.2)))
 else (BX h).bind (fun nN=>
 (D2 nN.2.2.2.2.2.1 (gl (0#64:(BitVec 64)) h.2.1.2.1 nM.1.toNat)).bind (fun r28=>
 (BI (nN.1,nN.2.1,nN.2.2.1,nN.2.2.2.1,nN.2.2.2.2.1,r28.1,nN.2.2.2.2.2.2) (BitVec.ofInt 64 r28.2.1)).bind (fun r29=>
 some ((r29.1,r29.2))))))
 else if o.1=3 then
 (DD h o.2.2.2 false).bind (fun r30=>
 if ¬r30=0 then
 (BH h r30).bind (fun wC=>
 some ((wC.1,wC.2)))
 else (BO h o.2.1).bind (fun r32=>
 (BO h o.2.2.2).bind (fun r33=>
 (EV h (AG ((AG ((r32.toNat:Int)))-1)) o.2.2.1 r33).bind (fun r34=>
 (BI r34.1 (0#64)).bind (fun r35=>
 some ((r35.1,r35.2)))))))
 else (BO h o.2.1).bind (fun r36=>
 (EC h (AG ((AG ((r36.toNat:Int)))-1)) o.2.2.1 (BitVec.ofInt 64 o.2.2.2)).bind (fun r37=>
 (BI r37.1 (0#64)).bind (fun r38=>
 some ((r38.1,r38.2)))))
 else none
theorem AVC (h:Hs) (o:Op):GD h o=(BO h o.2.1).bind (fun r1=>
  Option.bind (B2 h.2.1 (AG ((AG ((r1.toNat:Int)))-1)) o.2.2.1 (decide (o.1=2\/o.1=3))) (A00 h o)):=by
 unfold GD zj zaL
 by_cases c:o.1=2
 ·rw[AA c,JR (show o.1=2\/o.1=3 from .inl c)];rfl
 ·rw[AE c]
  have:(decide (o.1=2\/o.1=3))=decide (o.1=3):=by rw[jL];omega
  rw[this];rfl
abbrev AYE (h:Hs) (y:Int) (w:BitVec 64) (W8 :Ss):Hs:=(h.1,bG h.2.1 y w,h.2.2.1,h.2.2.2.1,W8,h.2.2.2.2.2)
inductive FdR (h:Hs) (o:Op) (i:AI) (l:List Int) (os:List (Int×Int)) (p a:Int) (x:Int×Int):Hs->An->Prop
 |bad (hk:¬(0<=o.2.2.1/\o.2.2.1<(if o.1=2\/o.1=3 then x.1 else x.2))):FdR h o i l os p a x h (17,0#64)
 |rd (c:o.1=4) (k0:0<=o.2.2.1) (k1:o.2.2.1<x.2) (y:Int) (hy:CM (sz h.2.1.1) l (p+(1+x.1+o.2.2.1))=some y):FdR h o i l os p a x h (0,gl 0#64 h.2.1.2.1 y.toNat)
 |rr0 (c:o.1=2) (k0:0<=o.2.2.1) (k1:o.2.2.1<x.1) (y:Int) (hy:CM (sz h.2.1.1) l (p+(1+o.2.2.1))=some y) (hw:gl 0#64 h.2.1.2.1 y.toNat=0#64):FdR h o i l os p a x h (0,0#64)
 |rrf (c:o.1=2) (k0:0<=o.2.2.1) (k1:o.2.2.1<x.1) (y:Int) (hy:CM (sz h.2.1.1) l (p+(1+o.2.2.1))=some y) (hw:gl 0#64 h.2.1.2.1 y.toNat≠0#64) (hf:U_ h.2.2.2.2.2.1.1):FdR h o i l os p a x h (15,0#64)
 |rr (c:o.1=2) (k0:0<=o.2.2.1) (k1:o.2.2.1<x.1) (y:Int) (hy:CM (sz h.2.1.1) l (p+(1+o.2.2.1))=some y) (hw:gl 0#64 h.2.1.2.1 y.toNat≠0#64) (hf:¬U_ h.2.2.2.2.2.1.1) (h' :Hs) (v:BitVec 64) (t:AVB h (gl 0#64 h.2.1.2.1 y.toNat) h' v):FdR h o i l os p a x h' (0,v)
 |wrh (c:o.1=3) (k0:0<=o.2.2.1) (k1:o.2.2.1<x.1) (hh:N3 h.2.2.2.2.2.1.1 o.2.2.2 false≠0):FdR h o i l os p a x h (N3 h.2.2.2.2.2.1.1 o.2.2.2 false,0#64)
 |wr (c:o.1=3) (k0:0<=o.2.2.1) (k1:o.2.2.1<x.1) (y:Int) (hy:CM (sz h.2.1.1) l (p+(1+o.2.2.1))=some y) (hh:N3 h.2.2.2.2.2.1.1 o.2.2.2 false=0) (W8 :Ss) (hr:RV W8) (hs:∀ f g y',In W8 f g y' ↔In h.2.2.2.2.1 f g y' \/(y' =y/\Pr (bG h.2.1 y (wrd h.2.2.2.2.2.1 o.2.2.2)) y (wrd h.2.2.2.2.2.1 o.2.2.2) f g)):FdR h o i l os p a x (AYE h y (wrd h.2.2.2.2.2.1 o.2.2.2) W8) (0,0#64)
 |wd (c:o.1=5) (k0:0<=o.2.2.1) (k1:o.2.2.1<x.2) (y:Int) (hy:CM (sz h.2.1.1) l (p+(1+x.1+o.2.2.1))=some y):FdR h o i l os p a x (AYE h y (BitVec.ofInt 64 o.2.2.2) h.2.2.2.2.1) (0,0#64)
theorem AVD (v:HV N h) (hd:h.2.2.2.2.2.2.2.2=false) {o:Op} (hc:2<=o.1/\o.1<=5) (hx:N3 h.2.2.2.2.2.1.1 o.2.1 true=0):
  ∃ i∈h.2.2.1.flatten,∃ l os p a x h' an,OB h.2.1 i l os p a x/\(wrd h.2.2.2.2.2.1 o.2.1).toNat=a+1/\GD h o=some (h',an)/\FdR h o i l os p a x h' an:=by
 obtain⟨i,hi,l,os,p,a,x,ob,hw1,hw2,a0⟩:=v.root hx
 obtain⟨x0,x1,hu⟩:=h_ hx
 have hf:=(v.hi.hb.fit hi).1
 refine⟨i,hi,l,os,p,a,x, ?_⟩
 suffices hh:∃ h' an,GD h o=some (h',an)/\FdR h o i l os p a x h' an by
  obtain⟨h',an,g1,g2⟩:=hh
  exact⟨h',an,ob,hw1,g1,g2⟩
 rw[AVC,bH v.hi.ro (by omega) x1,AW,hw2]
 have hcd:(decide (o.1=2\/o.1=3)=true)↔(o.1=2\/o.1=3):=P5
 have hro:=ob.IA
 have hIs:GZ h a=some true:=AZT v.hi.hb ⟨i,hi,p,x,l,os,ob⟩
 rcases ob.A2M v.vs hf o.2.2.1 (decide (o.1=2\/o.1=3)) with ⟨g1,g2⟩|⟨g1,y,g2,g3⟩
 ·rw[g2,AW]
  simp only[hcd] at g1
  exact⟨_,_,rfl,.bad g1⟩
 ·simp only[hcd] at g1 g2
  have hyr:=CH v.vs hf ob.has (by split at g2 <;> omega) g2
  have hfd:∀ k,p+k=p+(if o.1=2\/o.1=3 then 1+o.2.2.1 else 1+x.1+o.2.2.1)->Fd h.2.1 h.2.2.1 i l os p a x k y:=by
   intro k hk
   refine⟨v.hi.hb,hi,ob, ?_, ?_,by rw[hk];exact g2⟩
   ·split at hk <;> split at g1 <;> omega
   ·split at hk <;> split at g1 <;> omega
  have g3' :=g3
  rw[g3,AW]
  unfold A00
  simp only
  rw[AE (DQ trivial),AA hyr.1]
  by_cases c4:o.1=4
  ·rw[AA c4]
   rw[af] at g1 g2
   exact⟨_,_,rfl,.rd c4 g1.1 g1.2 y g2⟩
  rw[AE c4]
  by_cases c2:o.1=2
  ·rw[AA c2]
   rw[AA (.inl c2)] at g1 g2
   by_cases c5:gl 0#64 h.2.1.2.1 y.toNat=0#64
   ·rw[AA c5]
    exact⟨_,_,rfl,.rr0 c2 g1.1 g1.2 y g2 c5⟩
   rw[AE c5,AD4 v.hi.ro,AW]
   by_cases c6:U_ h.2.2.2.2.2.1.1
   ·rw[JR c6,AA rfl]
    exact⟨_,_,rfl,.rrf c2 g1.1 g1.2 y g2 c5 c6⟩
   ·rw[P_ c6,AE (by decide),v.copy,AW]
    obtain⟨h',w,t1,t2⟩:=AOF v.hi.ro c6 (gl 0#64 h.2.1.2.1 y.toNat)
    exact⟨_,_,t1,.rr c2 g1.1 g1.2 y g2 c5 c6 h' w t2⟩
  rw[AE c2]
  by_cases c3:o.1=3
  ·rw[AA c3]
   have A7T :=hfd (1+o.2.2.1) (by rw[AA (.inr c3)])
   rw[JR (show o.1=2\/o.1=3 from .inr c3)] at g3'
   rw[AA (.inr c3)] at g1 g2
   rw[jH v.hi.ro,AW]
   by_cases c7:N3 h.2.2.2.2.2.1.1 o.2.2.2 false=0
   rotate_left
   ·rw[AA c7]
    exact⟨_,_,rfl,.wrh c3 g1.1 g1.2 c7⟩
   obtain⟨hrf,y0,y1⟩:=AFH v c7
   rw[AE (DQ c7),bH v.hi.ro (by omega) x1,AW,bH v.hi.ro y0 y1,AW,hw2]
   generalize hW:wrd h.2.2.2.2.2.1 o.2.2.2=w at hrf
   have W7:w≠0#64->¬(w.toNat>(BitVec.ofInt 64 ((h.2.1.2.1.length:Nat):Int)).toNat)/\GZ h (AG (((w-(1#64)).toNat:Int)))=some true:=by
    intro hw
    rcases hrf with h0|h0
    ·exact absurd h0 hw
    obtain⟨i2,hi2,p2,x2,o2⟩:=id h0
    have hr2:=o2.FZ v.vs (v.hi.hb.fit hi2).1
    have W7:=VS.IK v.vs
    have e3:(BitVec.ofInt 64 ((h.2.1.2.1.length:Nat):Int)).toNat=h.2.1.2.1.length:=by
     rw[jK];omega
    obtain⟨e1,e2⟩:=JH hw
    refine⟨by rw[e3];omega, ?_⟩
    rw[e1,show ((w.toNat-1:Nat):Int)=(w.toNat:Int)-1 by omega,ah]
    exact AZT v.hi.hb h0
   have hvs:=A7T.vs w
   obtain⟨W8,n1,n2,n3⟩:=AO4 hvs v.hi.rv (y:=y) hyr.1.1 (by simp only[EG];exact hyr.1.2) w
   have hWR:EV h a o.2.2.1 w=some (AYE h y w W8,0):=by
    unfold EV zm zl H2
    rw[hd,AE (by decide),hIs,AW,AE (by decide),g3',AW,AW]
    simp only
    rw[AE (by decide)]
    by_cases c8:w=0#64
    ·rw[AE (DQ c8),AE (DQ trivial),v.copy,AW,AA hyr.1,n1,AW]
    ·obtain⟨q1,q2⟩:=W7 c8
     rw[AA c8,AE q1,q2,AW,AE (by decide),AE (DQ trivial),v.copy,AW,AA hyr.1,n1,AW]
   rw[hWR]
   subst hW
   exact⟨_,_,rfl,.wr c3 g1.1 g1.2 y g2 c7 W8 n2 n3⟩
  ·rw[AE c3]
   have A5G :=g3'
   rw[P_ (show ¬(o.1=2\/o.1=3) by omega)] at A5G
   rw[af] at g1 g2
   rw[bH v.hi.ro (by omega) x1,AW,hw2]
   have hWD:EC h a o.2.2.1 (BitVec.ofInt 64 o.2.2.2)=some (AYE h y (BitVec.ofInt 64 o.2.2.2) h.2.2.2.2.1,0):=by
    unfold EC H2
    rw[hd,AE (by decide),hIs,AW,AE (by decide),A5G,AW,AW]
    simp only
    rw[AE (DQ trivial),v.copy,AW,AA hyr.1]
   rw[hWD]
   exact⟨_,_,rfl,.wd (by omega) g1.1 g1.2 y g2⟩
theorem AD5 {z:Int} (hz:0<z):∀ {xs:List AI},(∀ i∈xs,0<=i.2.2.2.2)->ZX xs<=zQ z xs*z
 | [],_=>by unfold ZX zQ;simp
 |a::r,h=>by
  have h1:=h a (by simp)
  have h2:=AD5 hz (xs:=r) fun i hi=>h i (YB _ hi)
  have h3:=J7 (n:=a.2.2.2.2) hz
  rw[sW,ACV,dS]
  omega
theorem HB.ZX {s:Sp} {q:Rows} (h:HB s q):0<=ZX q.flatten/\Go.Proofs.YtokeceeccmgcmaaGreatDoor.ZX q.flatten<=s.2.1.length:=by
 have hw:∀ i∈q.flatten,0<=i.2.2.2.2:=fun i hi=>by have:=(h.fit hi).2;omega
 have hv:=h.bv.vs
 have z:=BU s.1
 have h1:=AD5 z hw
 have h2:=(AXR h.bv.ok).1
 have h3:used s<=s.2.2.length:=by unfold used;omega
 have h4:zQ (sz s.1) q.flatten*sz s.1<=s.2.2.length*sz s.1:=rE (by omega) (by omega)
 have h5:=hv.w
 exact⟨gW hw,by omega⟩
abbrev AVE (h:Hs):Hs:=(h.1,h.2.1,h.2.2.1,h.2.2.2.1,h.2.2.2.2.1,h.2.2.2.2.2.1,h.2.2.2.2.2.2.1,(h.2.2.2.2.2.2.2.1.1,h.2.2.2.2.2.2.2.1.2.1,AG (h.2.2.2.2.2.2.2.1.2.2.1+1),h.2.2.2.2.2.2.2.1.2.2.2),h.2.2.2.2.2.2.2.2)
def AB6 (r d:Int):Prop:=(0<=r/\r<=15)/\(0<=d/\d<=32)
instance (r d:Int):Decidable (AB6 r d):=by unfold AB6;infer_instance
inductive DoR (h:Hs) (o:Op):Hs->An->Prop
 |bad (c:¬(1<=o.1/\o.1<=10)):DoR h o h (20,0#64)
 |size (c:o.1=1) (hs:¬AB6 o.2.1 o.2.2.1):DoR h o h (13,0#64)
 |AVF (c:o.1=1) (hs:AB6 o.2.1 o.2.2.1) (hf:U_ h.2.2.2.2.2.1.1):DoR h o h (15,0#64)
 |nom (c:o.1=1) (hs:AB6 o.2.1 o.2.2.1) (hf:¬U_ h.2.2.2.2.2.1.1) (h' :Hs) (a:Int) (g:AlR h o.2.1 o.2.2.1 h' a 18):DoR h o h' (18,0#64)
 |all (c:o.1=1) (hs:AB6 o.2.1 o.2.2.1) (hf:¬U_ h.2.2.2.2.2.1.1) (h1 h' :Hs) (a:Int) (v:BitVec 64) (g:AlR h o.2.1 o.2.2.1 h1 a 0) (t:AVB h1 (BitVec.ofInt 64 (a+1)) h' v):DoR h o h' (0,v)
 |col (c:o.1=8) (b:Hs×Bool) (m:Nat) (hx:Hs) (kx:Cu) (r:RD 0 (AVE h) b m hx kx) (hm:m<=256):DoR h o b.1 (0,0#64)
 |sta (c:o.1=10):DoR h o h (0,BitVec.ofInt 64 (ZX h.2.2.1.flatten))
 |eqa (c:o.1=6) (e:N3 h.2.2.2.2.2.1.1 o.2.1 false≠0):DoR h o h (N3 h.2.2.2.2.2.1.1 o.2.1 false,0#64)
 |eqb (c:o.1=6) (e:N3 h.2.2.2.2.2.1.1 o.2.1 false=0) (f:N3 h.2.2.2.2.2.1.1 o.2.2.1 false≠0):DoR h o h (N3 h.2.2.2.2.2.1.1 o.2.2.1 false,0#64)
 |equ (c:o.1=6) (e:N3 h.2.2.2.2.2.1.1 o.2.1 false=0) (f:N3 h.2.2.2.2.2.1.1 o.2.2.1 false=0):DoR h o h (0,if wrd h.2.2.2.2.2.1 o.2.1=wrd h.2.2.2.2.2.1 o.2.2.1 then 1#64 else 0#64)
 |dH (c:(2<=o.1/\o.1<=5)\/o.1=7\/o.1=9) (e:N3 h.2.2.2.2.2.1.1 o.2.1 true≠0):DoR h o h (N3 h.2.2.2.2.2.1.1 o.2.1 true,0#64)
 |drp (c:o.1=7) (e:N3 h.2.2.2.2.2.1.1 o.2.1 true=0):DoR h o (AZZ h (h.2.2.2.2.2.1.1.set (o.2.1-1).toNat false,h.2.2.2.2.2.1.2.set (o.2.1-1).toNat 0#64)) (0,0#64)
 |shp (c:o.1=9) (e:N3 h.2.2.2.2.2.1.1 o.2.1 true=0) (i:AI) (hi:i∈h.2.2.1.flatten) (l:List Int) (os:List (Int×Int)) (p a:Int) (x:Int×Int) (ob:OB h.2.1 i l os p a x) (hw:(wrd h.2.2.2.2.2.1 o.2.1).toNat=a+1):DoR h o h (0,BitVec.ofInt 64 (256*x.1+x.2))
 |vN (c:2<=o.1/\o.1<=5) (e:N3 h.2.2.2.2.2.1.1 o.2.1 true=0) (i:AI) (hi:i∈h.2.2.1.flatten) (l:List Int) (os:List (Int×Int)) (p a:Int) (x:Int×Int) (ob:OB h.2.1 i l os p a x) (hw:(wrd h.2.2.2.2.2.1 o.2.1).toNat=a+1) (h' :Hs) (an:An) (f:FdR h o i l os p a x h' an):DoR h o h' an
theorem AlR.hv (v:HV N h) {r d:Int} (g:AlR h r d h' a 0):HV (N+257) h' /\IsO h'.2.1 h'.2.2.1 a/\(0<=a/\a<16384)/\h'.1=h.1/\h'.2.2.2.2.2.2.2.2=h.2.2.2.2.2.2.2.2:=by
 obtain⟨h1,g1,⟨g2,_⟩|⟨_,g2,g3⟩⟩:=g
 ·omega
 ·obtain⟨v1,c1,_,_,d1⟩:=g1.ok v
  obtain⟨v2,i2,c2,d2,_⟩:=g3.ok v1
  obtain⟨i,hi,p,x,o⟩:=id i2
  have hr:=o.FZ v2.vs (v2.hi.hb.fit hi).1
  have:=VS.IK v2.vs
  exact⟨v2.mono (by omega),i2,by omega,by rw[c2,c1],by rw[d2,d1]⟩
theorem AlR.A7U (v:HV N h) {r d:Int} (g:AlR h r d h' a 18):HV (N+256) h' :=by
 obtain⟨h1,g1,⟨_,rfl,_⟩|⟨g2,_⟩⟩:=g
 ·have v1:=(g1.ok v).1
  exact⟨v1.g,v1.hi,v1.ql,v1.n1⟩
 ·omega
theorem Rn.used {k:Cu}:∀ {m:Nat} {h1:Hs} {k1:Cu},Rn m h k h1 k1->h1.2.2.2.2.2.1.1=h.2.2.2.2.2.1.1:=by
 intro m h1 k1 r
 induction r with
 |z=>rfl
 |s a b ih=>
  obtain⟨l,CB,u,_,_,_,dn⟩:=b
  obtain⟨l0,DL,t,to,lb,m,mv,ys,ws,r',W8,st,g1,_,rfl,_⟩:=dn
  exact g1.ru.trans ih
theorem RD.used {N:Int} {h:Hs} (v:HV N h) {n:Int} {b:Hs×Bool} {m:Nat} {h1:Hs} {k1:Cu} (r:RD n h b m h1 k1):b.1.2.2.2.2.2.1.1=h.2.2.2.2.2.1.1:=by
 have h2:=r.rn.used
 rcases r.fin with ⟨rfl,_⟩|⟨rfl,_⟩|⟨rfl,_⟩ <;> exact h2
theorem Gcd.used {N:Int} {h:Hs} (v:HV N h) {n:Int} {h1:Hs} (g:Gcd h n h1):h1.2.2.2.2.2.1.1=h.2.2.2.2.2.1.1:=by
 rcases g with ⟨_,rfl⟩|⟨_,b,m,hx,kx,r,hm,rfl⟩
 ·rfl
 ·exact RD.used (N:=N) (h:=AQK h) v.col r
theorem AlR.used {N:Int} {h:Hs} (v:HV N h) {r d:Int} {h' :Hs} {a:Int} (g:AlR h r d h' a 0):h'.2.2.2.2.2.1.1=h.2.2.2.2.2.1.1:=by
 obtain⟨h1,g1,⟨g2,_⟩|⟨_,g2,g3⟩⟩:=g
 ·omega
 ·rw[<-g1.used v]
  obtain⟨u,j,l,l',os,q',n',h1,rfl⟩:=g3
  rfl
theorem A5H (v:HV N h) (hN:N<=4294966000) (hd:h.2.2.2.2.2.2.2.2=false) (o:Op):∃ h' an,NZ h o=some (h',an)/\DoR h o h' an:=by
 have hro:=v.hi.ro
 unfold NZ zaL zaF
 by_cases c1:o.1<1
 ·rw[AA c1,hd,AE (by decide)]
  exact⟨_,_,rfl,.bad (by omega)⟩
 rw[AE c1]
 by_cases c2:o.1>10
 ·rw[AA c2,hd,AE (by decide)]
  exact⟨_,_,rfl,.bad (by omega)⟩
 rw[AE c2,AE (by rw[hd];decide)]
 by_cases c3:o.1=1
 ·rw[AA c3]
  unfold OL
  obtain⟨w,e,he,hs⟩:=AV8 o.2.1 o.2.2.1
  rw[he,AW]
  rcases hs with ⟨rfl,hs⟩|rfl
  rotate_left
  ·rw[AA (by simp)]
   refine⟨_,_,rfl,.size c3 fun hh=> ?_⟩
   have:=wE hh.1.1 hh.1.2 hh.2.1 hh.2.2
   rw[he] at this
   exact absurd (KL Prod.snd (HO this)) (by simp)
  rw[AE (show ¬¬((w,(0:Int)).2=0) from DQ rfl),AD4 hro,AW]
  by_cases c4:U_ h.2.2.2.2.2.1.1
  ·rw[JR c4,AA rfl]
   exact⟨_,_,rfl,.AVF c3 hs c4⟩
  rw[P_ c4,AE (by decide)]
  obtain⟨h1,a,e,ha,g⟩:=AQM v hN hd hs.1.1 hs.1.2 hs.2.1 hs.2.2
  rw[ha,AW]
  by_cases c5:e=0
  ·subst c5
   rw[AE (show ¬¬((h1,a,(0:Int)).2.2=0) from DQ rfl)]
   obtain⟨v1,i1,ar,_,_⟩:=g.hv v
   have hu:=g.used v
   obtain⟨h',w,t1,t2⟩:=AOF (h:=h1) v1.hi.ro (by rw[hu];exact c4) (BitVec.ofInt 64 (a+1))
   simp only
   rw[ah (e:=a+1),t1,AW]
   exact⟨_,_,rfl,.all c3 hs c4 h1 _ a w g t2⟩
  ·have he:e=18:=by
    obtain⟨_,_,⟨h3,_⟩|⟨h3,_⟩⟩:=g
    ·exact h3
    ·exact absurd h3 c5
   subst he
   rw[AA (by simp)]
   exact⟨_,_,rfl,.nom c3 hs c4 h1 a g⟩
 rw[AE c3]
 by_cases c4:o.1=8
 ·rw[AA c4]
  unfold L6
  rw[hd,AE (by decide)]
  have vc:HV N (AVE h):=⟨v.g,v.hi,v.ql,v.n1⟩
  obtain⟨b,m,hx,kx,g1,g2,g3⟩:=AOD vc (by omega)
  have e1:(h.1,h.2.1,h.2.2.1,h.2.2.2.1,h.2.2.2.2.1,h.2.2.2.2.2.1,h.2.2.2.2.2.2.1,(h.2.2.2.2.2.2.2.1.1,h.2.2.2.2.2.2.2.1.2.1,AG (h.2.2.2.2.2.2.2.1.2.2.1+1),h.2.2.2.2.2.2.2.1.2.2.2),false)=AVE h:=by unfold AVE;rw[hd]
  rw[e1,g1]
  exact⟨_,_,rfl,.col c4 b m hx kx g2 g3⟩
 rw[AE c4]
 by_cases c5:o.1=10
 ·rw[AA c5]
  unfold K1
  obtain⟨l1,l2,l3⟩:=v.hi.hb.lens
  have hw:=v.hi.hb.ZX
  have:=VS.IK v.vs
  rw[AQ4 (by omega) (fun x hx=>by have:=l3 x hx;omega) (fun i hi=>by have:=(v.hi.hb.fit hi).2;omega) (by omega)]
  exact⟨_,_,rfl,.sta c5⟩
 rw[AE c5]
 by_cases c6:o.1=6
 ·rw[AA c6,jH hro,AW]
  by_cases c7:N3 h.2.2.2.2.2.1.1 o.2.1 false=0
  rotate_left
  ·rw[AA c7];exact⟨_,_,rfl,.eqa c6 c7⟩
  rw[AE (DQ c7),jH hro,AW]
  by_cases c8:N3 h.2.2.2.2.2.1.1 o.2.2.1 false=0
  rotate_left
  ·rw[AA c8];exact⟨_,_,rfl,.eqb c6 c7 c8⟩
  obtain⟨_,x0,x1⟩:=AFH v c7
  obtain⟨_,y0,y1⟩:=AFH v c8
  rw[AE (DQ c8),bH hro x0 x1,AW,bH hro y0 y1,AW]
  unfold ON
  have:=DoR.equ c6 c7 c8
  refine⟨_,_, ?_,this⟩
  by_cases c9:wrd h.2.2.2.2.2.1 o.2.1=wrd h.2.2.2.2.2.1 o.2.2.1
  ·rw[JR c9,AA rfl,AA c9];rfl
  ·rw[P_ c9,AE (by decide),AE c9];rfl
 rw[AE c6,jH hro,AW]
 by_cases c7:N3 h.2.2.2.2.2.1.1 o.2.1 true=0
 rotate_left
 ·rw[AA c7];exact⟨_,_,rfl,.dH (by omega) c7⟩
 obtain⟨x0,x1,hu⟩:=h_ c7
 rw[AE (DQ c7)]
 by_cases c8:o.1=7
 ·rw[AA c8,v.copy,AW,AUI hro x0 x1 hu]
  exact⟨_,_,rfl,.drp c8 c7⟩
 rw[AE c8]
 by_cases c9:o.1=9
 ·rw[AA c9,bH hro (by omega) x1,AW]
  obtain⟨i,hi,l,os,p,a,x,ob,hw1,hw2,a0⟩:=v.root c7
  have hr:=ob.IA
  rw[hw2,ob.look v.vs (v.hi.hb.fit hi).1,AW]
  simp only
  rw[ah (e:=256*x.1),ah (e:=256*x.1+x.2)]
  exact⟨_,_,rfl,.shp c9 c7 i hi l os p a x ob hw1⟩
 rw[AE c9]
 obtain⟨i,hi,l,os,p,a,x,h',an,ob,hw,g1,g2⟩:=AVD v hd (o:=o) (by omega) c7
 rw[g1]
 exact⟨_,_,rfl,.vN (by omega) c7 i hi l os p a x ob hw h' an g2⟩
theorem tE (a0:0<=a) (a1:a<16384):(BitVec.ofInt 64 (a+1)).toNat=a.toNat+1:=by
 rw[jK];omega
theorem FdR.hv {N:Int} {h:Hs} (v:HV N h) {o:Op} {i:AI} (hi:i∈h.2.2.1.flatten) {l:List Int} {os:List (Int×Int)} {p a:Int} {x:Int×Int} (ob:OB h.2.1 i l os p a x) {h' :Hs} {an:An} (f:FdR h o i l os p a x h' an):
  HV N h' /\an.1≠18/\h'.1=h.1/\h'.2.2.2.2.2.2.2.2=h.2.2.2.2.2.2.2.2/\h'.2.1.1=h.2.1.1/\h'.2.1.2.2.length=h.2.1.2.2.length:=by
 have hro:=ob.IA
 cases f with
 |bad hk=>exact⟨v,by simp,rfl,rfl,rfl,rfl⟩
 |rd c k0 k1 y hy=>exact⟨v,by simp,rfl,rfl,rfl,rfl⟩
 |rr0 c k0 k1 y hy hw=>exact⟨v,by simp,rfl,rfl,rfl,rfl⟩
 |rrf c k0 k1 y hy hw hf=>exact⟨v,by simp,rfl,rfl,rfl,rfl⟩
 |rr c k0 k1 y hy hw hf h2 v' t=>
  have Q8:Slot h.2.1 h.2.2.1 y:=⟨i,hi,l,os,p,a,x,1+o.2.2.1,ob,by omega,by omega,hy⟩
  have ho:=(v.hi.ref y Q8).resolve_left hw
  have hv' :=t.hv v hw ho
  obtain⟨i',_,_,_,rfl,_⟩:=t
  exact⟨hv',by simp,rfl,rfl,rfl,rfl⟩
 |wrh c k0 k1 hh=>
  refine⟨v, ?_,rfl,rfl,rfl,rfl⟩
  simp only
  unfold N3
  split
  ·split <;> omega
  ·split <;> omega
 |wr c k0 k1 y hy hh W8 hr hs=>
  have fd:Fd h.2.1 h.2.2.1 i l os p a x (1+o.2.2.1) y:=⟨v.hi.hb,hi,ob,by omega,by omega,hy⟩
  exact⟨⟨v.g,fd.ref (by omega) (AFH v hh).1 v.hi hr hs,v.ql,v.n1⟩,by simp,rfl,rfl,rfl,rfl⟩
 |wd c k0 k1 y hy=>
  have fd:Fd h.2.1 h.2.2.1 i l os p a x (1+x.1+o.2.2.1) y:=⟨v.hi.hb,hi,ob,by omega,by omega,hy⟩
  exact⟨⟨v.g,fd.data _ (by omega) v.hi,v.ql,v.n1⟩,by simp,rfl,rfl,rfl,rfl⟩
theorem DoR.hv {N:Int} {h:Hs} (v:HV N h) {o:Op} {h' :Hs} {an:An} (g:DoR h o h' an):HV (N+257) h' /\(an.1≠18->h'.2.2.2.2.2.2.2.2=h.2.2.2.2.2.2.2.2)/\h'.1=h.1/\h'.2.1.1=h.2.1.1/\h'.2.1.2.2.length=h.2.1.2.2.length:=by
 have vs:HV (N+257) h:=v.mono (by omega)
 cases g with
 |bad c=>exact⟨vs,fun _=>rfl,rfl,rfl,rfl⟩
 |size c hs=>exact⟨vs,fun _=>rfl,rfl,rfl,rfl⟩
 |AVF c hs hf=>exact⟨vs,fun _=>rfl,rfl,rfl,rfl⟩
 |nom c hs hf h2 a g=>
  refine⟨(g.A7U v).mono (by omega),fun hh=>absurd rfl hh, ?_⟩
  obtain⟨h1,g1,⟨_,rfl,_⟩|⟨g2,_⟩⟩:=g
  ·obtain⟨_,c1,c2,c3,_⟩:=g1.ok v
   exact⟨c1,c2,c3⟩
  ·omega
 |all c hs hf h1 h2 a v' g t=>
  obtain⟨v1,i1,ar,c1,d1⟩:=g.hv v
  have e:=tE ar.1 ar.2
  have hv' :=t.hv v1 (fun h0=>by rw[h0] at e;have:(0#64).toNat=0:=rfl;omega) (by rw[e];rw[show ((a.toNat+1:Nat):Int)-1=a by omega];exact i1)
  obtain⟨i',_,_,_,rfl,_⟩:=t
  refine⟨hv',fun _=>d1,c1, ?_⟩
  obtain⟨h2,g1,⟨g2,_⟩|⟨_,g2,g3⟩⟩:=g
  ·omega
  ·obtain⟨v2,_,c2,c3,_⟩:=g1.ok v
   obtain⟨_,_,_,_,c4,c5,_⟩:=g3.ok v2
   exact⟨by simp only;rw[c4,c2],by simp only;rw[c5,c3]⟩
 |col c b m hx kx r hm=>
  obtain⟨g1,g2,g3,g4,g5⟩:=r.ok (N:=N) (h:=AVE h) ⟨v.g,v.hi,v.ql,v.n1⟩
  exact⟨g1.mono (by omega),fun _=>g5,g2,g3,g4⟩
 |sta c=>exact⟨vs,fun _=>rfl,rfl,rfl,rfl⟩
 |eqa c e=>exact⟨vs,fun _=>rfl,rfl,rfl,rfl⟩
 |eqb c e f=>exact⟨vs,fun _=>rfl,rfl,rfl,rfl⟩
 |equ c e f=>exact⟨vs,fun _=>rfl,rfl,rfl,rfl⟩
 |dH c e=>exact⟨vs,fun _=>rfl,rfl,rfl,rfl⟩
 |drp c e=>
  obtain⟨x0,x1,hu⟩:=h_ e
  exact⟨⟨v.g,v.hi.drop (i:=(o.2.1-1).toNat) (by omega),v.ql,by have:=v.n1;simp only;omega⟩,fun _=>rfl,rfl,rfl,rfl⟩
 |shp c e i hi l os p a x ob hw=>exact⟨vs,fun _=>rfl,rfl,rfl,rfl⟩
 |vN c e i hi l os p a x ob hw h2 an2 f=>
  obtain⟨g1,g2,g3,g4,g5⟩:=f.hv v hi ob
  exact⟨g1.mono (by omega),fun _=>g4,g3,g5⟩
abbrev Nd:Type:=List Int×List (BitVec 64)
abbrev Gh:Type:=List Nd×List Bool×List Int
def nd (g:Gh) (k:Int):Nd:=gl (([],[]):Nd) g.1 k.toNat
structure GV (M:Nat) (g:Gh):Prop where
 ul:g.2.1.length=32
 rl:g.2.2.length=32
 nn:g.1.length<=M
 nd:∀ k:Int,0<=k->k<g.1.length->(nd g k).1.length<=15/\(Go.Proofs.YtokeceeccmgcmaaGreatDoor.nd g k).2.length<=32/\∀ j:Nat,j<(Go.Proofs.YtokeceeccmgcmaaGreatDoor.nd g k).1.length→-1<=gl 0 (Go.Proofs.YtokeceeccmgcmaaGreatDoor.nd g k).1 j/\gl 0 (Go.Proofs.YtokeceeccmgcmaaGreatDoor.nd g k).1 j<g.1.length
 rt:∀ i:Nat,i<32->gl false g.2.1 i=true->0<=gl 0 g.2.2 i/\gl 0 g.2.2 i<g.1.length
 un:∀ i:Nat,i<32->gl false g.2.1 i=false->gl 0 g.2.2 i= -1
inductive GRe (g:Gh):Int->Prop
 |rt (i:Nat) (hi:i<32) (hu:gl false g.2.1 i=true):GRe g (gl 0 g.2.2 i)
 |rf (x:Int) (hx:GRe g x) (j:Nat) (hj:j<(nd g x).1.length) (h0:0<=gl 0 (nd g x).1 j):GRe g (gl 0 (nd g x).1 j)
variable {g:Gh} {M:Nat}
theorem GRe.IA (v:GV M g) {x:Int} (h:GRe g x):0<=x/\x<g.1.length:=by
 induction h with
 |rt i hi hu=>exact v.rt i hi hu
 |rf x hx j hj h0 ih=>exact⟨h0,((v.nd x ih.1 ih.2).2.2 j hj).2⟩
def vP:List Bool->Nat
 | []=>0
 |b::r=>(if b=true then 1 else 0)+vP r
theorem AOG:∀ l:List Bool,vP l<=l.length
 | []=>EH _
 |b::r=>by
  have:=AOG r
  simp only[vP,NU]
  split <;> omega
theorem AIZ:∀ {l:List Bool} {k:Nat},k<l.length->gl false l k=false->vP (l.set k true)=vP l+1
 |b::r,0,_,h=>by
  have hb:b=false:=h
  rw[AM1,hb];simp [vP];omega
 |b::r,k+1,hk,h=>by
  have ih:=AIZ (l:=r) (k:=k) (by simpa using hk) h
  rw[List.set_cons_succ];simp only[vP];rw[ih];omega
structure Sn (g:Gh) (s:List Bool):Prop where
 len:s.length=g.1.length
 rt:∀ i:Nat,i<32->gl false g.2.1 i=true->gl false s (gl 0 g.2.2 i).toNat=true
 sub:∀ k:Nat,k<g.1.length->gl false s k=true->GRe g (k:Int)
def Clo (g:Gh) (s:List Bool) (n:Nat):Prop:=∀ k:Nat,k<n->gl false s k=true->∀ j:Nat,j<(nd g k).1.length->0<=gl 0 (nd g k).1 j->gl false s (gl 0 (nd g k).1 j).toNat=true
theorem Sn.all (v:GV M g) {s:List Bool} (h:Sn g s) (hc:Clo g s g.1.length) {x:Int} (hx:GRe g x):gl false s x.toNat=true:=by
 induction hx with
 |rt i hi hu=>exact h.rt i hi hu
 |rf x hx j hj h0 ih=>
  have hr:=hx.IA v
  have:=hc x.toNat (by omega) ih j (by rw[show ((x.toNat:Nat):Int)=x by omega];exact hj)
  rw[show ((x.toNat:Nat):Int)=x by omega] at this
  exact this h0
structure Ps (g:Gh) (s0:List Bool) (b:Bool) (s:List Bool):Prop where
 sn:Sn g s
 up:∀ k:Nat,gl false s0 k=true->gl false s k=true
 gr:b=true->vP s0<vP s
 no:b=false->s=s0
 le:vP s0<=vP s
variable {k:Nat}
theorem Ps.put (v:GV M g) {s0:List Bool} {b:Bool} {s:List Bool} (h:Ps g s0 b s) (hk:k<g.1.length) (hs:gl false s k=true) {j:Nat} (hj:j<(nd g k).1.length) (h0:0<=gl 0 (nd g k).1 j) (hn:gl false s (gl 0 (nd g k).1 j).toNat=false):
  Ps g s0 true (s.set (gl 0 (nd g k).1 j).toNat true):=by
 have hl:=h.sn.len
 have hr:=(v.nd k (by omega) (by omega)).2.2 j hj
 have DY:(gl 0 (nd g k).1 j).toNat<s.length:=by omega
 have hc:=AIZ DY hn
 have hg:∀ i:Nat,gl false s i=true->gl false (s.set (gl 0 (nd g k).1 j).toNat true) i=true:=by
  intro i hi
  rw[DS DY];split
  ·rfl
  ·exact hi
 refine⟨⟨by rw[EG];exact hl,fun i hi hu=>hg _ (h.sn.rt i hi hu),fun i hi hu=> ?_⟩,fun i hi=>hg i (h.up i hi),fun _=>(by have:=h.le;omega),fun h=>(by cases h),by have:=h.le;omega⟩
 rw[DS DY] at hu
 split at hu
 ·rename_i he
  rw[he,wQ h0]
  exact .rf k (h.sn.sub k hk hs) j hj h0
 ·exact h.sn.sub i hi hu
theorem AYF (v:GV M g) (hM:M<=1000) {s0:List Bool} (hs0:Sn g s0):∃ y:Bool×List Bool,AH (σ:=(Bool×Int×(List Bool))) (β:=((Bool×(List Bool)) ⊕ (List Int))) (fun s3=>
  if s3.2.1<(g.1.length:Int) then
  if 0<=s3.2.1/\s3.2.1<(g.1.length:Int) then
  AH (σ:=(Bool×Int×(List Bool))) (β:=((Bool×Int×(List Bool)) ⊕ ((Bool×(List Bool)) ⊕ (List Int)))) (fun s4=>
  if s4.2.1<(((gl (([],[]):((List Int)×(List (BitVec 64)))) g.1 s3.2.1.toNat).1).length:Int) then
  if 0<=s4.2.1/\s4.2.1<(((gl (([],[]):((List Int)×(List (BitVec 64)))) g.1 s3.2.1.toNat).1).length:Int) then
  if 0<=s3.2.1/\s3.2.1<(s4.2.2.length:Int) then
  if (gl (false:Bool) s4.2.2 s3.2.1.toNat)=true then
  if (gl (0:Int) ((gl (([],[]):((List Int)×(List (BitVec 64)))) g.1 s3.2.1.toNat).1) s4.2.1.toNat)≥0 then
  if 0<=(gl (0:Int) ((gl (([],[]):((List Int)×(List (BitVec 64)))) g.1 s3.2.1.toNat).1) s4.2.1.toNat)/\(gl (0:Int) ((gl (([],[]):((List Int)×(List (BitVec 64)))) g.1 s3.2.1.toNat).1) s4.2.1.toNat)<(s4.2.2.length:Int) then
  if (!(gl (false:Bool) s4.2.2 ((gl (0:Int) ((gl (([],[]):((List Int)×(List (BitVec 64)))) g.1 s3.2.1.toNat).1) s4.2.1.toNat).toNat)))=true then
  if 0<=(gl (0:Int) ((gl (([],[]):((List Int)×(List (BitVec 64)))) g.1 s3.2.1.toNat).1) s4.2.1.toNat)/\(gl (0:Int) ((gl (([],[]):((List Int)×(List (BitVec 64)))) g.1 s3.2.1.toNat).1) s4.2.1.toNat)<(s4.2.2.length:Int) then
  some (Sum.inl ((true,AG (s4.2.1+1),s4.2.2.set ((gl (0:Int) ((gl (([],[]):((List Int)×(List (BitVec 64)))) g.1 s3.2.1.toNat).1) s4.2.1.toNat).toNat) true)))
  else none
  else some (Sum.inl ((s4.1,AG (s4.2.1+1),s4.2.2)))
  else none
  else some (Sum.inl ((s4.1,AG (s4.2.1+1),s4.2.2)))
  else some (Sum.inl ((s4.1,AG (s4.2.1+1),s4.2.2)))
  else none
  else none
  else some (Sum.inr (Sum.inl ((s4.1,AG (s3.2.1+1),s4.2.2))))) ((s3.1,0,s3.2.2))
  else none
  else some (Sum.inr (Sum.inl ((s3.1,s3.2.2))))) ((false,0,s0))=some (Sum.inl y)/\Ps g s0 y.1 y.2/\(y.1=false->Clo g s0 g.1.length):=by
 have hnn:=v.nn
 have key:=AK (β:=((Bool×(List Bool)) ⊕ (List Int))) (f:=fun s3:Bool×Int×List Bool=>
  if s3.2.1<(g.1.length:Int) then
  if 0<=s3.2.1/\s3.2.1<(g.1.length:Int) then
  AH (σ:=(Bool×Int×(List Bool))) (β:=((Bool×Int×(List Bool)) ⊕ ((Bool×(List Bool)) ⊕ (List Int)))) (fun s4=>
  if s4.2.1<(((gl (([],[]):((List Int)×(List (BitVec 64)))) g.1 s3.2.1.toNat).1).length:Int) then
  if 0<=s4.2.1/\s4.2.1<(((gl (([],[]):((List Int)×(List (BitVec 64)))) g.1 s3.2.1.toNat).1).length:Int) then
  if 0<=s3.2.1/\s3.2.1<(s4.2.2.length:Int) then
  if (gl (false:Bool) s4.2.2 s3.2.1.toNat)=true then
  if (gl (0:Int) ((gl (([],[]):((List Int)×(List (BitVec 64)))) g.1 s3.2.1.toNat).1) s4.2.1.toNat)≥0 then
  if 0<=(gl (0:Int) ((gl (([],[]):((List Int)×(List (BitVec 64)))) g.1 s3.2.1.toNat).1) s4.2.1.toNat)/\(gl (0:Int) ((gl (([],[]):((List Int)×(List (BitVec 64)))) g.1 s3.2.1.toNat).1) s4.2.1.toNat)<(s4.2.2.length:Int) then
  if (!(gl (false:Bool) s4.2.2 ((gl (0:Int) ((gl (([],[]):((List Int)×(List (BitVec 64)))) g.1 s3.2.1.toNat).1) s4.2.1.toNat).toNat)))=true then
  if 0<=(gl (0:Int) ((gl (([],[]):((List Int)×(List (BitVec 64)))) g.1 s3.2.1.toNat).1) s4.2.1.toNat)/\(gl (0:Int) ((gl (([],[]):((List Int)×(List (BitVec 64)))) g.1 s3.2.1.toNat).1) s4.2.1.toNat)<(s4.2.2.length:Int) then
  some (Sum.inl ((true,AG (s4.2.1+1),s4.2.2.set ((gl (0:Int) ((gl (([],[]):((List Int)×(List (BitVec 64)))) g.1 s3.2.1.toNat).1) s4.2.1.toNat).toNat) true)))
  else none
  else some (Sum.inl ((s4.1,AG (s4.2.1+1),s4.2.2)))
  else none
  else some (Sum.inl ((s4.1,AG (s4.2.1+1),s4.2.2)))
  else some (Sum.inl ((s4.1,AG (s4.2.1+1),s4.2.2)))
  else none
  else none
  else some (Sum.inr (Sum.inl ((s4.1,AG (s3.2.1+1),s4.2.2))))) ((s3.1,0,s3.2.2))
  else none
  else some (Sum.inr (Sum.inl ((s3.1,s3.2.2)))))
  (fun k (st:Bool×Int×List Bool)=>st.2.1=(k:Int)/\Ps g s0 st.1 st.2.2/\(st.1=false->Clo g s0 k))
  (fun x=>∃ y:Bool×List Bool,x=Sum.inl y/\Ps g s0 y.1 y.2/\(y.1=false->Clo g s0 g.1.length)) g.1.length ?_ ?_ (s:=(false,0,s0))
  ⟨rfl,⟨hs0,fun _ h=>h,fun h=>(by cases h),fun _=>rfl,EH _⟩,fun _ k hk=>by omega⟩
 ·obtain⟨x,hx,y,rfl,h1⟩:=key
  exact⟨y,hx,h1⟩
 ·rintro k ⟨b,kk,s⟩ hk ⟨HR,hp,hc⟩
  simp only at HR hp hc
  subst HR
  left
  simp only[HM]
  rw[ab,ab]
  have HN:gl (([],[]):((List Int)×(List (BitVec 64)))) g.1 k=nd g (k:Int):=rfl
  have hvn:=v.nd k (by omega) (by omega)
  rw[HN]
  have inner:=AK (β:=((Bool×Int×(List Bool)) ⊕ ((Bool×(List Bool)) ⊕ (List Int)))) (f:=fun s4:Bool×Int×List Bool=>
   if s4.2.1<((nd g (k:Int)).1.length:Int) then
   if 0<=s4.2.1/\s4.2.1<((nd g (k:Int)).1.length:Int) then
   if 0<=(k:Int)/\(k:Int)<(s4.2.2.length:Int) then
   if (gl (false:Bool) s4.2.2 k)=true then
   if (gl (0:Int) (nd g (k:Int)).1 s4.2.1.toNat)≥0 then
   if 0<=(gl (0:Int) (nd g (k:Int)).1 s4.2.1.toNat)/\(gl (0:Int) (nd g (k:Int)).1 s4.2.1.toNat)<(s4.2.2.length:Int) then
   if (!(gl (false:Bool) s4.2.2 ((gl (0:Int) (nd g (k:Int)).1 s4.2.1.toNat).toNat)))=true then
   if 0<=(gl (0:Int) (nd g (k:Int)).1 s4.2.1.toNat)/\(gl (0:Int) (nd g (k:Int)).1 s4.2.1.toNat)<(s4.2.2.length:Int) then
   some (Sum.inl ((true,AG (s4.2.1+1),s4.2.2.set ((gl (0:Int) (nd g (k:Int)).1 s4.2.1.toNat).toNat) true)))
   else none
   else some (Sum.inl ((s4.1,AG (s4.2.1+1),s4.2.2)))
   else none
   else some (Sum.inl ((s4.1,AG (s4.2.1+1),s4.2.2)))
   else some (Sum.inl ((s4.1,AG (s4.2.1+1),s4.2.2)))
   else none
   else none
   else some (Sum.inr (Sum.inl ((s4.1,AG ((k:Int)+1),s4.2.2)))))
   (fun j (st:Bool×Int×List Bool)=>st.2.1=(j:Int)/\Ps g s0 st.1 st.2.2/\(st.1=false->Clo g s0 k/\(gl false s0 k=true->∀ j' :Nat,j' <j->0<=gl 0 (nd g (k:Int)).1 j' ->gl false s0 (gl 0 (nd g (k:Int)).1 j').toNat=true)))
   (fun x=>∃ y:Bool×Int×List Bool,x=Sum.inl y/\y.2.1=((k+1:Nat):Int)/\Ps g s0 y.1 y.2.2/\(y.1=false->Clo g s0 (k+1))) (nd g (k:Int)).1.length ?_ ?_ (s:=(b,0,s))
   ⟨rfl,hp,fun hb=>⟨hc hb,fun _ j' bQ =>by omega⟩⟩
  ·obtain⟨x,hx,y,rfl,h1⟩:=inner
   exact⟨y,hx,h1⟩
  ·rintro j ⟨b4,jj,s4⟩ hj ⟨vO,hp4,hc4⟩
   simp only at vO hp4 hc4
   subst vO
   left
   have hl4:=hp4.sn.len
   simp only[HM]
   have hr:=hvn.2.2 j hj
   rw[ab,ab,ab,ah (e:=(j:Int)+1)]
   have nxt:(gl false s4 k=true->0<=gl 0 (nd g (k:Int)).1 j->gl false s4 (gl 0 (nd g (k:Int)).1 j).toNat=true)->((j:Int)+1=((j+1:Nat):Int)/\Ps g s0 b4 s4/\(b4=false->Clo g s0 k/\(gl false s0 k=true->∀ j' :Nat,j' <j+1->0<=gl 0 (nd g (k:Int)).1 j' ->gl false s0 (gl 0 (nd g (k:Int)).1 j').toNat=true))):=by
    intro hn
    refine⟨rfl,hp4,fun hb=>⟨(hc4 hb).1,fun h0 j' bQ nY => ?_⟩⟩
    by_cases he:j' =j
    ·subst he
     have:=hp4.no hb
     subst this
     exact hn h0 nY
    ·exact (hc4 hb).2 h0 j' (by omega) nY
   by_cases c1:gl false s4 k=true
   rotate_left
   ·rw[AE c1]
    exact⟨_,rfl,nxt fun h=>absurd h c1⟩
   rw[AA c1]
   by_cases c2:gl 0 (nd g (k:Int)).1 j≥0
   rotate_left
   ·rw[AE c2]
    exact⟨_,rfl,nxt fun _ h=>absurd h c2⟩
   rw[AA c2,ab]
   cases c3:gl false s4 (gl 0 (nd g (k:Int)).1 j).toNat with
   |true=>
    rw[AE (by decide)]
    exact⟨_,rfl,nxt fun _ _=>c3⟩
   |false=>
    rw[AA (by decide),ab]
    exact⟨_,rfl,rfl,hp4.put v hk c1 hj c2 c3,fun h=>by cases h⟩
  ·rintro⟨b4,jj,s4⟩ ⟨vO,hp4,hc4⟩
   simp only at vO hp4 hc4
   subst vO
   simp only
   rw[af,ah (e:=(k:Int)+1)]
   refine⟨_,rfl,_,rfl,rfl,hp4,fun hb=> ?_⟩
   obtain⟨h1,h2⟩:=hc4 hb
   intro k' KA hu j hj h0
   by_cases he:k' =k
   ·subst he;exact h2 hu j hj h0
   ·exact h1 k' (by omega) hu j hj h0
 ·rintro⟨b,kk,s⟩ ⟨HR,hp,hc⟩
  simp only at HR hp hc
  subst HR
  simp only
  rw[af]
  exact⟨_,rfl,_,rfl,hp,hc⟩
theorem AVG (v:GV M g) (hM:M<=1000):∃ l,J4 g=some l/\l.Pairwise (·< ·)/\∀ x,x∈l↔GRe g x:=by
 have hul:=v.ul
 have hrl:=v.rl
 have hnn:=v.nn
 unfold J4 zaz zab
 rw[ab]
 refine AK (fun k (st:Int×List Bool)=>st.1=(k:Int)/\st.2.length=g.1.length/\(∀ i:Nat,i<k->gl false g.2.1 i=true->gl false st.2 (gl 0 g.2.2 i).toNat=true)/\∀ i:Nat,i<g.1.length->gl false st.2 i=true->GRe g (i:Int)) _ 32 ?_ ?_ ⟨rfl,by simp,fun i hi=>by omega,fun i hi hu=> ?_⟩
 ·rintro k ⟨kk,s⟩ hk ⟨HR,hl,h1,h2⟩
  simp only at HR hl h1 h2
  subst HR
  left
  simp only[HM]
  rw[ab,ab,ah (e:=(k:Int)+1)]
  cases hu:gl false g.2.1 k with
  |false=>
   rw[AE (by decide)]
   refine⟨_,rfl,rfl,hl,fun i hi hui=> ?_,h2⟩
   by_cases iO:i=k
   ·subst iO;rw[hu] at hui;cases hui
   ·exact h1 i (by omega) hui
  |true=>
   have hr:=v.rt k hk hu
   have DY:(gl 0 g.2.2 k).toNat<s.length:=by omega
   rw[AA rfl,ab,ab]
   refine⟨_,rfl,rfl,by simp only[EG];exact hl,fun i hi hui=> ?_,fun i hi hui=> ?_⟩
   ·simp only
    rw[DS DY]
    split
    ·rfl
    ·rename_i CW
     by_cases iO:i=k
     ·subst iO;exact absurd rfl CW
     ·exact h1 i (by omega) hui
   ·simp only at hui
    rw[DS DY] at hui
    split at hui
    ·rename_i he
     rw[he,wQ hr.1]
     exact .rt k hk hu
    ·exact h2 i hi hui
 ·rintro⟨kk,s⟩ ⟨HR,hl,h1,h2⟩
  simp only at HR hl h1 h2
  subst HR
  simp only
  rw[af]
  refine bY ?_
  have fin:∀ (s1:List Bool),Sn g s1->Clo g s1 g.1.length->∃ b,Option.map (Sum.inr (α:=Bool×List Bool)) (AH (σ:=((List Int)×Int)) (β:=(List Int)) (fun s5=>
    if s5.2<(s1.length:Int) then
    if 0<=s5.2/\s5.2<(s1.length:Int) then
    if (gl (false:Bool) s1 s5.2.toNat)=true then
    if (s5.1.length+([s5.2]:List Int).length)*8<=140737488355328 then
    some (Sum.inl ((s5.1++([s5.2]:List Int),AG (s5.2+1))))
    else none
    else some (Sum.inl ((s5.1,AG (s5.2+1))))
    else none
    else some (Sum.inr (s5.1))) (([],0)))=some (Sum.inr b)/\(b.Pairwise (·< ·)/\∀ x,x∈b↔GRe g x):=by
   intro s1 sn hc
   refine bY ?_
   have hl1:=sn.len
   refine AK (fun k (st:List Int×Int)=>st=((GK k).filter (fun x=>gl false s1 x.toNat),(k:Int))) _ s1.length ?_ ?_ (s:=([],0)) rfl
   ·rintro k st hk rfl
    left
    have uC:=rF (fun x:Int=>gl false s1 x.toNat) (GK k)
    rw[IE] at uC
    simp only[HM]
    rw[ab,ab,ah (e:=(k:Int)+1),KO,AAB]
    cases hu:gl false s1 k with
    |true=>
     rw[AA rfl,AA (by simp only[Q5];omega)]
     refine⟨_,rfl, ?_⟩
     simp [hu]
    |false=>
     rw[AE (by decide)]
     refine⟨_,rfl, ?_⟩
     simp [hu]
   ·rintro st rfl
    simp only
    rw[af]
    refine⟨_,rfl,(sS _).filter _,fun x=> ?_⟩
    rw[Z1,NR]
    constructor
    ·rintro⟨⟨x0,x1⟩,hu⟩
     have:=sn.sub x.toNat (by omega) hu
     rw[wQ x0] at this
     exact this
    ·intro hx
     have:=hx.IA v
     exact⟨by omega,sn.all v hc hx⟩
  refine AK (fun m (st:Bool×List Bool)=>Sn g st.2/\(st.1=true->m<=vP st.2)/\(st.1=false->Clo g st.2 g.1.length)) _ (g.1.length+1) ?_ ?_ (s:=(true,s)) ⟨⟨hl,h1,h2⟩,fun _=>oI _,fun h=>by cases h⟩
  ·rintro m ⟨b,s1⟩ hm ⟨sn,c1,c2⟩
   simp only at sn c1 c2
   cases b with
   |false=>
    right
    rw[AE (show ¬false=true by decide)]
    exact fin s1 sn (c2 rfl)
   |true=>
    rw[AA rfl]
    obtain⟨y,g1,g2,g3⟩:=AYF v hM sn
    refine .inl ⟨y,g1,g2.sn,fun hb=> ?_,fun hb=> ?_⟩
    ·have:=g2.gr hb
     have:=c1 rfl
     omega
    ·have:=g2.no hb
     rw[this]
     exact g3 hb
  ·rintro⟨b,s1⟩ ⟨sn,c1,c2⟩
   simp only at sn c1 c2
   cases b with
   |false=>
    rw[AE (show ¬false=true by decide)]
    exact fin s1 sn (c2 rfl)
   |true=>
    have h1:=c1 rfl
    have h2:=AOG s1
    have h3:=sn.len
    omega
 ·simp only at hu
  rw[show (g.1.length:Int).toNat=g.1.length from rfl,NB hi] at hu
  cases hu
def AJ0 (g:Gh) (l:List Int):Int:=l.foldl (fun n x=>n+(1+((nd g x).1.length:Int)+((nd g x).2.length:Int))) 0
theorem AQN (l:List Int) (hk:k<l.length):AJ0 g (l.take (k+1))=AJ0 g (l.take k)+(1+((nd g (gl 0 l k)).1.length:Int)+((nd g (gl 0 l k)).2.length:Int)):=by
 unfold AJ0
 rw[IY (d:=0) l k hk,List.foldl_append];rfl
theorem AVH (v:GV M g) (hM:M<=1000):∃ l,K5 g=some (AJ0 g l)/\l.Pairwise (·< ·)/\∀ x,x∈l↔GRe g x:=by
 obtain⟨l,h1,h2,h3⟩:=AVG v hM
 refine⟨l, ?_,h2,h3⟩
 have lE:l.length<=1000:=s_ h2 fun x hx=>by have:=((h3 x).1 hx).IA v;have:=v.nn;omega
 unfold K5 zaX
 rw[h1,AW]
 refine (AK (fun k (st:Int×Int)=>st=(AJ0 g (l.take k),(k:Int))/\0<=st.1/\st.1<=100*k) (fun b=>b=AJ0 g l) l.length ?_ ?_ (s:=(0,0)) ⟨rfl,by simp,by simp⟩).elim fun b hb=>by rw[hb.1,hb.2]
 ·rintro k st hk ⟨rfl,hs0,hs1⟩
  left
  have hr:=((h3 _).1 (B3 (d:=0) hk)).IA v
  have hn:=v.nd _ hr.1 hr.2
  simp only at hs0 hs1
  simp only[HM]
  have e1:gl (([],[]):((List Int)×(List (BitVec 64)))) g.1 (gl 0 l k).toNat=nd g (gl 0 l k):=rfl
  rw[ab,ab,ab,ab,e1,ah (e:=(1:Int)+((nd g (gl 0 l k)).1.length:Int)),ah (e:=(1:Int)+((nd g (gl 0 l k)).1.length:Int)+((nd g (gl 0 l k)).2.length:Int)),ah (e:=AJ0 g (l.take k)+_),ah (e:=(k:Int)+1)]
  exact⟨_,rfl,by rw[AQN l hk];rfl,by simp only;omega,by simp only;omega⟩
 ·rintro st ⟨rfl,_,_⟩
  simp only
  rw[af,VD]
  exact⟨_,rfl,rfl⟩
end Go.Proofs.YtokeceeccmgcmaaGreatDoor
