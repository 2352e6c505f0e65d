import Derived.Test.YthmiilamegpllaaGreatSpE
set_option linter.unusedVariables false
set_option linter.unusedSimpArgs false
namespace Go.Proofs.YthmiilamegpllaaGreat
open Go Go.V3
def Im (s:Sp) (C:List Int) (mv:List (Int×Int)) (w v:BitVec 64):Prop:=
 (¬Wn C s w/\v=w)\/(Wn C s w/\∃ b,((w.toNat:Int)-1,b)∈mv/\v=BitVec.ofInt 64 b+1#64)
theorem Im.mono {s:Sp} {C:List Int} {mv mv' :List (Int×Int)} {w v:BitVec 64} (h:Im s C mv w v) (hs:∀ x∈mv,x∈mv'):Im s C mv' w v:=by
 rcases h with h|⟨h1,b,h2,h3⟩
 ·exact .inl h
 ·exact .inr ⟨h1,b,hs _ h2,h3⟩
def scn (d e k:Nat) (j:Int):Prop:=k<d\/(k=d/\j<=e)
structure Cop (s0:Sp) (C:List Int) (l:List AH) (CC:AH) (t:Sp) (to:AH) (lb:List Int) (ot:List (Int×Int)) (mv:List (Int×Int)) (d e k:Nat) (i:AH) (la:List Int) (oa:List (Int×Int)) (pa p:Int) (x:Int×Int):Prop where
 inl:i∈l
 src:OB s0 i la oa pa (gl (0,0) mv k).1 x
 dst:OB t to lb ot p (gl (0,0) mv k).2 x
 new:CC.2.2.2.2<=p
 wds:∀ j,1<=j->j<=x.1+x.2->∀ ya yb,DY (sz s0.1) la (pa+j)=some ya->DY (sz s0.1) lb (p+j)=some yb→
  ((j<=x.1/\scn d e k j)->Im s0 C mv (gl 0#64 s0.2.1 ya.toNat) (gl 0#64 t.2.1 yb.toNat))/\(¬(j<=x.1/\scn d e k j)->gl 0#64 t.2.1 yb.toNat=gl 0#64 s0.2.1 ya.toNat)
structure CI (R:Int->Prop) (s0:Sp) (q:Rows) (l:List AH) (CC:AH) (l0:List Int) (E_:List (Int×Int)) (t:Sp) (to:AH) (lb:List Int) (m:List (Int×Int)) (mv:List (Int×Int)) (d e:Nat):Prop where
 cy:Cy (B3 l) t to
 sh:t.1=s0.1
 wl:t.2.1.length=s0.2.1.length
 fl:t.2.2.length=s0.2.2.length
 seq:to.1=CC.1
 j9:to.2.1=CC.2.1
 wd:CC.2.2.2.2<=to.2.2.2.2
 has:Has t to lb
 TT:EB (sz s0.1) t.2.1 lb 0 (E_++m) to.2.2.2.2
 pre:∃ r,lb=l0++r
 fr1:∀ x:Int,0<=x->x<s0.2.2.length->(fr t.2.2 x).1≠CC.1->fr t.2.2 x=fr s0.2.2 x
 qS:∀ x:Int,0<=x->x<s0.2.2.length->(fr s0.2.2 x).1=CC.1->(fr t.2.2 x).1=CC.1
 aT:∀ x:Int,0<=x->x<s0.2.2.length->(fr s0.2.2 x).1≠-1->(fr s0.2.2 x).1≠CC.1->fr t.2.2 x=fr s0.2.2 x
 wd1:∀ y:Int,0<=y->y<s0.2.1.length->(fr s0.2.2 (y / sz s0.1)).1≠-1->(fr s0.2.2 (y / sz s0.1)).1≠CC.1->y∉mv.map (·.1)->gl 0#64 t.2.1 y.toNat=gl 0#64 s0.2.1 y.toNat
 wd2:∀ x∈mv,gl 0#64 t.2.1 x.1.toNat=fwd x.2
 wd3:∀ p y,0<=p->p<CC.2.2.2.2->DY (sz s0.1) l0 p=some y->gl 0#64 t.2.1 y.toNat=gl 0#64 s0.2.1 y.toNat
 ml:m.length=mv.length
 cop:∀ k,k<mv.length->∃ i la oa pa p,Cop s0 (B3 l) l CC t to lb (E_++m) mv d e k i la oa pa p (gl (0,0) m k)
 mvn:(mv.map (·.1)).Nodup
 mvb:(mv.map (·.2)).Nodup
 cov:∀ p x,TA 0 (E_++m) p x->TA 0 E_ p x\/(CC.2.2.2.2<=p/\∃ k,k<mv.length/\DY (sz s0.1) lb p=some (gl (0,0) mv k).2)
 rch:∀ x∈mv,R x.1
 de:d<=mv.length/\(d=mv.length->e=0)
structure Cd (s0:Sp) (q:Rows) (l:List AH) (CC:AH) (l0:List Int) (E_:List (Int×Int)):Prop where
 hb:HB s0 q
 sub:∀ i∈l,i∈q.flatten
 fit:EJ s0 CC
 out:CC.1∉B3 l
 own:CC.2.2.2.2=0->owned s0.2.2 CC.1=[]
 has:Has s0 CC l0
 TT:EB (sz s0.1) s0.2.1 l0 0 E_ CC.2.2.2.2
theorem LH {l:List AH} {n:Int}:n∈B3 l↔∃ i∈l,i.1=n:=by
 unfold B3;rw[DD]
theorem Cd.nn {s0:Sp} {q:Rows} {l:List AH} {CC:AH} {l0:List Int} {E_:List (Int×Int)} (h:Cd s0 q l CC l0 E_):∀ n∈B3 l,0<=n:=by
 intro n hn
 obtain⟨i,hi,rfl⟩:=LH.1 hn
 exact (h.hb.fit (h.sub i hi)).1.1.1
def Gw (s0:Sp) (l:List AH) (w:BitVec 64):Prop:=Wn (B3 l) s0 w->∃ i∈l,∃ p x,Obj s0 i p ((w.toNat:Int)-1) x
theorem CI.start {R:Int->Prop} {s0:Sp} {q:Rows} {l:List AH} {CC:AH} {l0:List Int} {E_:List (Int×Int)} (h:Cd s0 q l CC l0 E_):CI R s0 q l CC l0 E_ s0 CC l0 [] [] 0 0 where
 cy:=⟨h.hb.bv.vs,h.fit,h.own,h.out,h.nn⟩
 sh:=rfl
 wl:=rfl
 fl:=rfl
 seq:=rfl
 j9:=rfl
 wd:=bC _
 has:=h.has
 TT:=by rw[HH];exact h.TT
 pre:=⟨[],by rw[HH]⟩
 fr1:=fun _ _ _ _=>rfl
 qS:=fun _ _ _ h=>h
 aT:=fun _ _ _ _ _=>rfl
 wd1:=fun _ _ _ _ _ _=>rfl
 wd2:=fun x hx=>by cases hx
 wd3:=fun _ _ _ _ _=>rfl
 ml:=rfl
 cop:=fun k hk=>by simp at hk
 mvn:=iF
 mvb:=iF
 cov:=fun p x hx=>by rw[HH] at hx;exact .inl hx
 rch:=fun x hx=>by cases hx
 de:=⟨EY _,fun _=>rfl⟩
theorem Grown.fr1 {s:Sp} {i:AH} {n:Int} {t:Sp} {j:AH} {a:Int} {l l' :List Int} (h:VS s) (g:Grown s i n t j a l l') (i0:0<=i.1) {x:Int} (x0:0<=x) (x1:x<s.2.2.length) (CU:(fr t.2.2 x).1≠i.1):fr t.2.2 x=fr s.2.2 x:=by
 by_cases hf:(fr t.2.2 x).1= -1
 ·have h1:x∈DX t.2.2:=CB.2 ⟨⟨x0,by rw[g.len];exact x1⟩,hf⟩
  rw[g.fre] at h1
  have h2:=CB.1 (AAA h1)
  have h3:=(h.free x0 x1 h2.2).1
  have h4:=(g.vs.free x0 (by rw[g.len];exact x1) hf).1
  rw[show fr t.2.2 x=(-1, -1, -1) from h4,show fr s.2.2 x=(-1, -1, -1) from h3]
 ·have h1:x∈owned t.2.2 (fr t.2.2 x).1:=CB.2 ⟨⟨x0,by rw[g.len];exact x1⟩,rfl⟩
  rw[g.oth _ CU hf] at h1
  have h2:=(CB.1 h1).2
  exact g.frs x x0 x1 (by rw[h2];exact hf) (by rw[h2];exact CU)
theorem Grown.qS {s:Sp} {i:AH} {n:Int} {t:Sp} {j:AH} {a:Int} {l l' :List Int} (h:VS s) (hf:EJ s i) (C1:i.2.2.2.2=0->owned s.2.2 i.1=[]) (n0:1<=n) (g:Grown s i n t j a l l') {x:Int} (x0:0<=x) (x1:x<s.2.2.length) (he:(fr s.2.2 x).1=i.1):(fr t.2.2 x).1=i.1:=by
 have hx:x∈owned s.2.2 i.1:=CB.2 ⟨⟨x0,x1⟩,he⟩
 by_cases hw:i.2.2.2.2=0
 ·rw[C1 hw] at hx;cases hx
 ·have h1:=APN h hf hw hx g.has
  have h2:x∈l' :=by rw[g.more];exact AAB _ h1
  exact g.AUH hf.1.2.2.2.2.1 n0 x h2
theorem CI.inC {R:Int->Prop} {s0:Sp} {q:Rows} {l:List AH} {CC:AH} {l0:List Int} {E_:List (Int×Int)} (h:Cd s0 q l CC l0 E_) {t:Sp} {to:AH} {lb:List Int} {m mv:List (Int×Int)} {d e:Nat} (c:CI R s0 q l CC l0 E_ t to lb m mv d e) {x:Int} (x0:0<=x) (x1:x<s0.2.2.length):(fr t.2.2 x).1∈B3 l↔(fr s0.2.2 x).1∈B3 l:=by
 constructor
 ·intro hx
  rw[<-c.fr1 x x0 x1 (fun he=>h.out (he ▸ hx))];exact hx
 ·intro hx
  have:=h.nn _ hx
  rw[c.aT x x0 x1 (by omega) (fun he=>h.out (he ▸ hx))];exact hx
theorem CI.wn {R:Int->Prop} {s0:Sp} {q:Rows} {l:List AH} {CC:AH} {l0:List Int} {E_:List (Int×Int)} (h:Cd s0 q l CC l0 E_) {t:Sp} {to:AH} {lb:List Int} {m mv:List (Int×Int)} {d e:Nat} (c:CI R s0 q l CC l0 E_ t to lb m mv d e) (w:BitVec 64):Wn (B3 l) t w↔Wn (B3 l) s0 w:=by
 unfold Wn
 rw[c.wl,c.sh]
 constructor
 ·rintro⟨h1,h2,h3⟩
  have:=(NL h1).2
  obtain⟨f0,f1⟩:=HU h.hb.bv.vs (a:=(w.toNat:Int)-1) (by omega) (by omega)
  exact⟨h1,h2,(c.inC h f0 f1).1 h3⟩
 ·rintro⟨h1,h2,h3⟩
  have:=(NL h1).2
  obtain⟨f0,f1⟩:=HU h.hb.bv.vs (a:=(w.toNat:Int)-1) (by omega) (by omega)
  exact⟨h1,h2,(c.inC h f0 f1).2 h3⟩
theorem Cd.XR {s0:Sp} {q:Rows} {l:List AH} {CC:AH} {l0:List Int} {E_:List (Int×Int)} (h:Cd s0 q l CC l0 E_) {i:AH} (hi:i∈l) {la:List Int} (hla:Has s0 i la) {p y:Int} (p0:0<=p) (hy:DY (sz s0.1) la p=some y):
  (0<=y/\y<s0.2.1.length)/\(0<=y / sz s0.1/\y / sz s0.1<s0.2.2.length)/\(fr s0.2.2 (y / sz s0.1)).1=i.1/\i.1∈B3 l/\0<=i.1/\i.1≠CC.1:=by
 have hf:=h.hb.fit (h.sub i hi)
 obtain⟨h1,_,h3,h4,_⟩:=D0 h.hb.bv.vs hf.1 hla p0 hy
 have h5:i.1∈B3 l:=LH.2 ⟨i,hi,rfl⟩
 exact⟨h1,h3,h4,h5,hf.1.1.1,fun he=>h.out (he ▸ h5)⟩
theorem Cd.AXT {s0:Sp} {q:Rows} {l:List AH} {CC:AH} {l0:List Int} {E_:List (Int×Int)} (h:Cd s0 q l CC l0 E_) {i i' :AH} (hi:i∈l) (LQ :i' ∈l) {la la' :List Int} {oa oa' :List (Int×Int)} {pa pa' a a' :Int} {x x' :Int×Int} (o:OB s0 i la oa pa a x) (o' :OB s0 i' la' oa' pa' a' x') {j:Int} (j1:1<=j) (j2:j<=x.1+x.2):DY (sz s0.1) la (pa+j)≠some a' :=by
 intro hy
 have r:=o.IZ
 have r' :=o'.IZ
 have h1:=h.XR hi o.has (by omega) hy
 have h2:=h.XR LQ o'.has r'.2.2.1 o'.J9
 have he:i.1=i'.1:=by rw[<-h1.2.2.1,←h2.2.2.1]
 obtain rfl:=h.hb.uniq (h.sub i hi) (h.sub i' LQ) he
 obtain rfl:=T7 o.has o'.has
 obtain rfl:=o.TT.fn o'.TT
 have hp:=K_ (CM s0.1) (gA o.has) (by omega) r'.2.2.1 hy o'.J9
 rcases o.TT.apart o.ta o'.ta with ⟨h3,_⟩|h3|h3 <;> omega
theorem HD {α:Type} {d x:α} {l:List α} (h:x∈l):∃ k,k<l.length/\gl d l k=x:=by
 obtain⟨k,hk,rfl⟩:=ACD.1 h
 exact⟨k,hk,D8 hk⟩
theorem AUM {α β:Type} {d:α} {d' :β} {l:List α} {f:α->β} {k:Nat} (hk:k<l.length):gl d' (l.map f) k=f (gl d l k):=by
 rw[D8 (by rw[RG];exact hk),D8 hk,vM]
theorem CI.fld {R:Int->Prop} {s0:Sp} {q:Rows} {l:List AH} {CC:AH} {l0:List Int} {E_:List (Int×Int)} (h:Cd s0 q l CC l0 E_) {t:Sp} {to:AH} {lb:List Int} {m mv:List (Int×Int)} {d e:Nat} (c:CI R s0 q l CC l0 E_ t to lb m mv d e) {i:AH} (hi:i∈l) {la:List Int} {oa:List (Int×Int)} {pa a:Int} {x:Int×Int} (o:OB s0 i la oa pa a x) {j y:Int} (j1:1<=j) (j2:j<=x.1+x.2) (hy:DY (sz s0.1) la (pa+j)=some y):gl 0#64 t.2.1 y.toNat=gl 0#64 s0.2.1 y.toNat:=by
 have r:=o.IZ
 obtain⟨h1,h2,h3,h4,h5,h6⟩:=h.XR hi o.has (by omega) hy
 refine c.wd1 y h1.1 h1.2 (by rw[h3];omega) (by rw[h3];exact h6) fun hm=> ?_
 obtain⟨z',hz,rfl⟩:=DD.1 hm
 obtain⟨k,hk,rfl⟩:=HD (d:=((0,0):Int×Int)) hz
 obtain⟨i',la',oa',pa',p',cc⟩:=c.cop k hk
 exact h.AXT hi cc.inl o cc.src j1 j2 hy
theorem CI.AUN {R:Int->Prop} {s0:Sp} {q:Rows} {l:List AH} {CC:AH} {l0:List Int} {E_:List (Int×Int)} (h:Cd s0 q l CC l0 E_) {t:Sp} {to:AH} {lb:List Int} {m mv:List (Int×Int)} {d e:Nat} (c:CI R s0 q l CC l0 E_ t to lb m mv d e):mv.length<=16384:=by
 have pQ:=VS.PO h.hb.bv.vs
 have:(mv.map (·.1)).length<=16384:=by
  refine SU 16384 _ c.mvn fun y hy=> ?_
  obtain⟨z',hz,rfl⟩:=DD.1 hy
  obtain⟨k,hk,rfl⟩:=HD (d:=((0,0):Int×Int)) hz
  obtain⟨i',la',oa',pa',p',cc⟩:=c.cop k hk
  have:=h.XR cc.inl cc.src.has cc.src.IZ.2.2.1 cc.src.J9
  omega
 rw[RG] at this
 exact this
theorem CI.move {R:Int->Prop} {s0:Sp} {q:Rows} {l:List AH} {CC:AH} {l0:List Int} {E_:List (Int×Int)} (h:Cd s0 q l CC l0 E_) {t:Sp} {to:AH} {lb:List Int} {m mv:List (Int×Int)} {d e:Nat} (c:CI R s0 q l CC l0 E_ t to lb m mv d e)
  {w:BitVec 64} (gw:Gw s0 l w) (hr:Wn (B3 l) s0 w->R ((w.toNat:Int)-1)) {v:BitVec 64} {err:Int} {t' :Sp} {zA :AH} {mm:List (Int×Int)} (hm:MvR (B3 l) t to w v err t' zA mm) (he:err=0):
  ∃ lb' m',CI R s0 q l CC l0 E_ t' zA lb' m' (mv++mm) d e/\Im s0 (B3 l) (mv++mm) w v/\(∃ r,lb' =lb++r)/\∃ r,m' =m++r:=by
 have hz:sz t.1=sz s0.1:=by rw[c.sh]
 have pQ:=VS.PO h.hb.bv.vs
 have z:=CM s0.1
 by_cases hw:Wn (B3 l) t w
 rotate_left
 ·cases hm with
  |out _=>exact⟨lb,m,by rw[HH];exact c,.inl ⟨fun hh=>hw ((c.wn h w).2 hh),rfl⟩,⟨[],by rw[HH]⟩,[],by rw[HH]⟩
  |AUF h1|bad h1|AUG h1|full h1|ABW h1=>exact absurd h1 hw
 have hw0:=(c.wn h w).1 hw
 obtain⟨i,hi,pa,x,la,oa,o⟩:=gw hw0
 have A1O:=o.IZ
 have hA:=h.XR hi o.has A1O.2.2.1 o.J9
 generalize hAe:(w.toNat:Int)-1=A at*
 have AQ4:hwd t w=gl 0#64 t.2.1 A.toNat:=by rw[<-hAe]
 by_cases OU:A∈mv.map (·.1)
 ·
  obtain⟨xx,hx1,hx2⟩:=DD.1 OU
  have h2:=c.wd2 xx hx1
  rw[hx2] at h2
  obtain⟨k,hk,PW⟩:=HD (d:=((0,0):Int×Int)) hx1
  obtain⟨i',la',oa',pa',p',cc⟩:=c.cop k hk
  have hbr:=D0 c.cy.vs c.cy.fit c.has cc.dst.IZ.2.2.1 cc.dst.J9
  rw[PW] at hbr
  have WU:0<=xx.2/\xx.2<=16383:=by have:=c.wl;omega
  have hdc:=AXR WU.1 WU.2
  cases hm with
  |out h1=>exact absurd hw h1
  |AUF h1 h3 h4=>
   refine⟨lb,m,by rw[HH];exact c,.inr ⟨hw0,xx.2, ?_, ?_⟩,⟨[],by rw[HH]⟩,[],by rw[HH]⟩
   ·rw[HH,hAe,←hx2];exact hx1
   ·rw[AQ4,h2,hdc]
  |bad h1 h3=>rw[AQ4,h2,hdc] at h3;exact absurd rfl h3
  |AUG h1 hh=>rw[AQ4,h2,AKW WU.1 WU.2] at hh;cases hh
  |full h1 hh=>rw[AQ4,h2,AKW WU.1 WU.2] at hh;cases hh
  |ABW h1 hh=>rw[AQ4,h2,AKW WU.1 WU.2] at hh;cases hh
 have htA:gl 0#64 t.2.1 A.toNat=gl 0#64 s0.2.1 A.toNat:=c.wd1 A hA.1.1 hA.1.2 (by rw[hA.2.2.1];omega) (by rw[hA.2.2.1];exact hA.2.2.2.2.2) OU
 have hhd:hd (hwd t w)=some x:=by rw[AQ4,htA];exact AZH o
 cases hm with
 |out h1=>exact absurd hw h1
 |AUF h1 h3 h4=>rw[yM hhd] at h4;cases h4
 |bad h1 h3=>rw[yM hhd] at h3;exact absurd rfl h3
 |AUG=>cases he
 |full=>cases he
 | @ABW _ r dd hh la2 hl e' ha u _ b l1 l' g=>
 rw[hhd] at hh
 obtain rfl:x=(r,dd):=XW hh
 obtain⟨⟨⟨r0,r1⟩,d0,d1⟩,hsA,hp0,hpe⟩:=A1O
 simp only at r0 r1 d0 d1 hpe hsA
 have hmw:=AI1 c.cy hw hhd hl ha g rfl
 obtain⟨cy', -,A6Z,A4S,A4T, -, -, -⟩:=MvR.cy c.cy (.ABW hw hhd hl ha g)
 obtain rfl:=T7 g.has c.has
 rw[hAe] at hl ha hmw cy' A4S A6Z A4T ⊢
 rw[hz] at hl ha hmw
 have hto:=c.cy.fit.1
 have hq:=hA.2.2.2.2.1
 have hAt:(fr t.2.2 (A / sz s0.1))=fr s0.2.2 (A / sz s0.1):=c.aT _ hA.2.1.1 hA.2.1.2 (by rw[hA.2.2.1];omega) (by rw[hA.2.2.1];exact hA.2.2.2.2.2)
 have AUO:∀ k,0<=k->DY (sz s0.1) la2 (A%sz s0.1+k)=DY (sz s0.1) la (pa+k):=by
  intro k k0
  rcases o.has with ⟨hw',_⟩|⟨hw',hpi⟩
  ·omega
  obtain⟨l2,q1,⟨q2,q2',A7T⟩,q3⟩:=QL z hpi hp0 o.J9 k0
  have:Pa t.2.2 (A / sz s0.1) l2:=by
   refine q1.mE c.fl fun y hy=> ?_
   obtain⟨y0,y1⟩:=q1.mem hy
   have ho:=(h.hb.bv.vs.owner q1 y hy).1
   rw[I4 y0 (by rw[c.fl];exact y1),I4 y0 y1,c.aT y y0 y1 (by rw[ho,hA.2.2.1];omega) (by rw[ho,hA.2.2.1];exact hA.2.2.2.2.2)]
  rw[hl.fn this];exact q3
 obtain⟨hm1,hm2,hm3,hm4⟩:=hmw
 generalize hws:(cpy (sz t.1) la2 (A%sz t.1) l' to.2.2.2.2 (1+r+dd).toNat t.2.1).set A.toNat (fwd b)=ws at*
 rw[hz] at hws
 rw[hws] at hm1 hm2 hm3
 have A4U:=g.AUH hto.2.2.2.2.1 (by omega:(1:Int)<=1+r+dd)
 have hvu:VS (t.1,t.2.1,u.2.2):=by have:=g.vs;rw[<-g.sh,←g.ws];exact this
 have JE:=g.path.nodup
 have hpl:∀ p y,0<=p->DY (sz s0.1) l' p=some y->(0<=y/\y<s0.2.1.length)/\(fr u.2.2 (y / sz s0.1)).1=CC.1:=by
  intro p y p0 hy
  have:=SB hvu g.path p0 (by rw[hz];exact hy)
  simp only at this
  rw[c.wl,hz] at this
  exact⟨this.1,by rw[A4U _ this.2,c.seq]⟩
 have A70:∀ y:Int,0<=y->y<s0.2.1.length->(fr s0.2.2 (y / sz s0.1)).1≠-1->(fr s0.2.2 (y / sz s0.1)).1≠CC.1->(fr u.2.2 (y / sz s0.1)).1≠CC.1:=by
  intro y y0 y1 h1 h2
  obtain⟨f0,f1⟩:=HU h.hb.bv.vs y0 y1
  have h3:=c.aT _ f0 f1 h1 h2
  rw[g.frs _ f0 (by rw[c.fl];exact f1) (by rw[h3];exact h1) (by rw[h3,c.seq];exact h2),h3]
  exact h2
 have AZJ:∀ y:Int,0<=y->y<s0.2.1.length->(fr s0.2.2 (y / sz s0.1)).1≠-1->(fr s0.2.2 (y / sz s0.1)).1≠CC.1->∀ p,0<=p->DY (sz s0.1) l' p≠some y:=by
  intro y y0 y1 h1 h2 p p0 hy
  exact A70 y y0 y1 h1 h2 (hpl p y p0 hy).2
 have A71:∀ p,0<=p->DY (sz s0.1) l' p≠some A:=AZJ A hA.1.1 hA.1.2 (by rw[hA.2.2.1];omega) (by rw[hA.2.2.1];exact hA.2.2.2.2.2)
 have hold:∀ p y,0<=p->p<to.2.2.2.2->DY (sz s0.1) l1 p=some y->DY (sz s0.1) l' p=some y/\gl 0#64 ws y.toNat=gl 0#64 t.2.1 y.toNat:=by
  intro p y p0 p1 hy
  have hy' :DY (sz s0.1) l' p=some y:=by rw[g.more];exact C5 hy
  refine⟨hy',hm1 y (hpl p y p0 hy').1.1 (fun zH =>A71 p p0 (zH ▸ hy')) fun i' i0 i1 LQ => ?_⟩
  have:=K_ z JE p0 (by omega) hy' LQ
  omega
 have CP:∀ y:Int,0<=y->y<s0.2.1.length->(fr s0.2.2 (y / sz s0.1)).1≠-1->(fr s0.2.2 (y / sz s0.1)).1≠CC.1->y≠A->gl 0#64 ws y.toNat=gl 0#64 t.2.1 y.toNat:=
  fun y y0 y1 h1 h2 h3=>hm1 y y0 h3 fun i' i0 i1=>AZJ y y0 y1 h1 h2 _ (by omega)
 have A72:zA.2.2.2.2≠0:=by rw[g.words];omega
 have AGH:Has (t.1,ws,u.2.2) zA l' := .inr ⟨A72,g.path⟩
 have AI6:DY (sz s0.1) l' to.2.2.2.2=some b:=by rw[<-hz];exact g.J9
 have hbw:gl 0#64 ws b.toNat=gZ r dd:=by
  have h1:=hm2 0 (by omega) (by omega) b A (by rw[aJ];exact AI6) (by rw[AUO 0 (by omega),aJ];exact o.J9)
  rw[h1,htA,hsA]
 have AI7:EB (sz s0.1) ws l' 0 (E_++m) to.2.2.2.2:=c.TT.CK fun p y p0 p1 hy=>hold p y p0 p1 hy
 have AEK:EB (sz s0.1) ws l' 0 (E_++(m++ [(r,dd)])) zA.2.2.2.2:=by
  rw[<-J_,g.words]
  exact AI7.snoc ⟨r0,r1⟩ ⟨d0,d1⟩ AI6 hbw
 have MV:∀ {p a:Int} {x:Int×Int},OB t to l1 (E_++m) p a x->OB (t.1,ws,u.2.2) zA l' (E_++(m++ [(r,dd)])) p a x:=by
  intro p a x ob
  refine⟨AGH,by rw[show sz (t.1,ws,u.2.2).1=sz s0.1 from hz];exact AEK, ?_, ?_⟩
  ·rw[<-J_]
   exact (TA.snoc AI7).2 (.inl ob.ta)
  ·have:=ob.J9
   rw[hz] at this
   rw[show sz (t.1,ws,u.2.2).1=sz s0.1 from hz]
   exact (hold p a ob.IZ.2.2.1 (by have:=ob.IZ;omega) this).1
 have AZK:(mv++ [(A,b)]).length=mv.length+1:=by simp
 have A1X:∀ {k},k<mv.length->gl (0,0) (mv++ [(A,b)]) k=gl (0,0) mv k:=fun hk=>ZJ hk
 have A1Y:gl (0,0) (mv++ [(A,b)]) mv.length=(A,b):=by
  rw[D8 (by simp),AA7 (EY _)];simp
 have A73:∀ {k},k<mv.length->gl (0,0) (m++ [(r,dd)]) k=gl (0,0) m k:=fun hk=>ZJ (by rw[c.ml];exact hk)
 have A74:gl (0,0) (m++ [(r,dd)]) mv.length=(r,dd):=by
  rw[D8 (by rw[JK,c.ml];simp),AA7 (by rw[c.ml];exact EY _)];simp [c.ml]
 have KP:∀ x∈mv,x∈mv++ [(A,b)]:=fun x hx=>AAB _ hx
 refine⟨l',m++ [(r,dd)], ?_,.inr ⟨hw0,b,by rw[hAe];simp,rfl⟩,⟨_,g.more⟩,_,rfl⟩
 refine { cy:=cy',sh:=c.sh,wl:=by rw[A4S,c.wl],fl:=by rw[A4T,c.fl],seq:=by rw[g.seq,c.seq],j9:=by rw[g.j9,c.j9],wd:=by rw[g.words];have:=c.wd;omega,has:=AGH,TT:=AEK,pre:= ?_,fr1:= ?_,qS:= ?_,aT:= ?_,wd1:= ?_,wd2:= ?_,wd3:= ?_,ml:=by simp [c.ml],cop:= ?_,mvn:= ?_,mvb:= ?_,cov:= ?_,rch:= ?_,de:= ?_ }
 ·obtain⟨r',g_⟩:=c.pre
  exact⟨r' ++List.take (l'.length-l1.length) (DX t.2.2),by rw[<-J_,←g_];exact g.more⟩
 ·intro y y0 y1 CU
  simp only at CU ⊢
  have h1:=Grown.fr1 c.cy.vs g hto.1 y0 (by rw[c.fl];exact y1) (by rw[c.seq];exact CU)
  rw[h1] at CU ⊢
  exact c.fr1 y y0 y1 CU
 ·intro y y0 y1 hy
  have h1:=Grown.qS c.cy.vs c.cy.fit c.cy.own (by omega) g y0 (by rw[c.fl];exact y1) (by rw[c.qS y y0 y1 hy,c.seq])
  simp only
  rw[h1,c.seq]
 ·intro y y0 y1 h1 h2
  have h3:=c.aT y y0 y1 h1 h2
  simp only
  rw[g.frs y y0 (by rw[c.fl];exact y1) (by rw[h3];exact h1) (by rw[h3,c.seq];exact h2),h3]
 ·intro y y0 y1 h1 h2 h3
  rw[bA,FG] at h3
  simp only
  rw[CP y y0 y1 h1 h2 (fun zH =>h3 (.inr (by rw[zH];simp)))]
  exact c.wd1 y y0 y1 h1 h2 fun h4=>h3 (.inl h4)
 ·intro xx hx
  rcases FG.1 hx with hx|hx
  ·have h1:=c.wd2 xx hx
   simp only
   obtain⟨k,hk,PW⟩:=HD (d:=((0,0):Int×Int)) hx
   obtain⟨i',la',oa',pa',p',cc⟩:=c.cop k hk
   have h2:=h.XR cc.inl cc.src.has cc.src.IZ.2.2.1 cc.src.J9
   rw[PW] at h2
   rw[CP xx.1 h2.1.1 h2.1.2 (by rw[h2.2.2.1];omega) (by rw[h2.2.2.1];exact h2.2.2.2.2.2) (fun zH =>OU (DD.2 ⟨xx,hx,zH⟩)),h1]
  ·rw[HA.1 hx]
   exact hm3
 ·intro p y p0 p1 hy
  have h1:=c.wd3 p y p0 p1 hy
  obtain⟨r',g_⟩:=c.pre
  have h2:DY (sz s0.1) l1 p=some y:=by rw[g_];exact C5 hy
  simp only
  rw[(hold p y p0 (by have:=c.wd;omega) h2).2,h1]
 ·intro k hk
  rw[AZK] at hk
  by_cases NW :k<mv.length
  ·obtain⟨i',la',oa',pa',p',cc⟩:=c.cop k NW
   rw[A73 NW]
   refine⟨i',la',oa',pa',p',cc.inl,by rw[A1X NW];exact cc.src,by rw[A1X NW];exact MV cc.dst,cc.new,fun j j1 j2 ya yb hya hyb=> ?_⟩
   have A7U :=cc.dst.IZ
   obtain⟨yb',A1Z⟩:=cc.dst.fld c.cy.vs c.cy.fit (k:=j) (by omega) j2
   rw[hz] at A1Z
   obtain⟨h1,h2⟩:=hold (p' +j) yb' (by omega) (by omega) A1Z
   rw[hyb] at h1
   obtain rfl:=XW h1
   obtain⟨h3,h4⟩:=cc.wds j j1 j2 ya yb hya A1Z
   simp only
   rw[h2]
   exact⟨fun hh=>(h3 hh).mono KP,h4⟩
  ·obtain rfl:k=mv.length:=by omega
   rw[A74]
   have A75:OB (t.1,ws,u.2.2) zA l' (E_++(m++ [(r,dd)])) to.2.2.2.2 b (r,dd):=by
    refine⟨AGH,by rw[show sz (t.1,ws,u.2.2).1=sz s0.1 from hz];exact AEK, ?_,by rw[show sz (t.1,ws,u.2.2).1=sz s0.1 from hz];exact AI6⟩
    rw[<-J_]
    exact (TA.snoc AI7).2 (.inr ⟨rfl,rfl⟩)
   refine⟨i,la,oa,pa,to.2.2.2.2,hi,by rw[A1Y];exact o,by rw[A1Y];exact A75,c.wd,fun j j1 j2 ya yb hya hyb=>⟨fun hh=> ?_,fun _=> ?_⟩⟩
   ·exfalso
    obtain⟨hd1,hd2⟩:=c.de
    rcases hh.2 with h1|⟨h1,h2⟩
    ·omega
    ·have:=hd2 h1.symm;omega
   ·simp only at j2 ⊢
    rw[hm2 j (by omega) (by omega) yb ya hyb (by rw[AUO j (by omega)];exact hya)]
    exact c.fld h hi o j1 j2 hya
 ·rw[bA,RF]
  refine⟨c.mvn,by simp,fun y hy y' hy' zH => ?_⟩
  rw[MN,vX,HA] at hy'
  subst zH;rw[hy'] at hy;exact OU hy
 ·rw[bA,RF]
  refine⟨c.mvb,by simp,fun y hy y' hy' zH => ?_⟩
  rw[MN,vX,HA] at hy'
  subst zH
  obtain⟨xx,hx1,hx2⟩:=DD.1 hy
  obtain⟨k,hk,PW⟩:=HD (d:=((0,0):Int×Int)) hx1
  obtain⟨i',la',oa',pa',p',cc⟩:=c.cop k hk
  have h1:=cc.dst.J9
  have h2:=cc.dst.IZ
  rw[PW,hz] at h1
  have h3:=(hold p' xx.2 h2.2.2.1 (by omega) h1).1
  rw[hx2,hy'] at h3
  have:=K_ z JE h2.2.2.1 hto.2.2.2.2.1 h3 AI6
  omega
 ·intro p y hp
  rw[<-J_] at hp
  rcases (TA.snoc AI7).1 hp with hp|⟨rfl,rfl⟩
  ·rcases c.cov p y hp with h1|⟨h1,k,hk,h2⟩
   ·exact .inl h1
   ·have h3:=AI7.ta hp
    have h4:=(c.TT.ta hp)
    refine .inr ⟨h1,k,by omega, ?_⟩
    rw[A1X hk]
    exact (hold p _ h4.2.2.1 (by omega) h2).1
  ·exact .inr ⟨c.wd,mv.length,by omega,by rw[A1Y];exact AI6⟩
 ·intro xx hx
  rcases FG.1 hx with hx|hx
  ·exact c.rch xx hx
  ·rw[HA.1 hx];exact hr hw0
 ·have:=c.de
  rw[AZK]
  exact⟨by omega,fun h1=>by omega⟩
theorem EB.ABZ {z:Int} {ws ws' :List (BitVec 64)} {l l' :List Int}:∀ {os:List (Int×Int)} {at' w:Int},EB z ws l at' os w->(∀ p x a,TA at' os p x->DY z l p=some a->DY z l' p=some a/\gl 0#64 ws' a.toNat=gl 0#64 ws a.toNat)->EB z ws' l' at' os w
 | [],at',w,h,_=>h
 |o::r,at',w,h,hk=>by
  obtain⟨h1,⟨a,h2,h3⟩,h4⟩:=h
  obtain⟨k1,k2⟩:=hk at' o a (.inl ⟨rfl,rfl⟩) h2
  exact⟨h1,⟨a,k1,by rw[k2];exact h3⟩,h4.ABZ fun p x a hp ha=>hk p x a (.inr hp) ha⟩
theorem AUP {α:Type} {d:α} {f:α->Int} {l:List α} (h:(l.map f).Nodup) {j k:Nat} (hj:j<l.length) (hk:k<l.length) (he:f (gl d l j)=f (gl d l k)):j=k:=by
 have h1:(l.map f)[j]'(by rw[RG];exact hj)=(l.map f)[k]'(by rw[RG];exact hk):=by
  rw[vM,vM,←D8 (d:=d) hj,←D8 (d:=d) hk];exact he
 exact (List.getElem_inj h).1 h1
theorem CI.write {R:Int->Prop} {s0:Sp} {q:Rows} {l:List AH} {CC:AH} {l0:List Int} {E_:List (Int×Int)} (h:Cd s0 q l CC l0 E_) {t:Sp} {to:AH} {lb:List Int} {m mv:List (Int×Int)} {d e:Nat} (c:CI R s0 q l CC l0 E_ t to lb m mv d e)
  (hd:d<mv.length) {i:AH} {la:List Int} {oa:List (Int×Int)} {pa p:Int} (cc:Cop s0 (B3 l) l CC t to lb (E_++m) mv d e d i la oa pa p (gl (0,0) m d)) (hj:(e:Int)+1<=(gl (0,0) m d).1) {y ya:Int} (hy:DY (sz s0.1) lb (p+((e:Int)+1))=some y) (hya:DY (sz s0.1) la (pa+((e:Int)+1))=some ya)
  {v:BitVec 64} (hv:Im s0 (B3 l) mv (gl 0#64 s0.2.1 ya.toNat) v):CI R s0 q l CC l0 E_ (t.1,t.2.1.set y.toNat v,t.2.2) to lb m mv d (e+1):=by
 have hz:sz t.1=sz s0.1:=by rw[c.sh]
 have z:=CM s0.1
 have hrd:=cc.dst.IZ
 have DZ:=cc.new
 have hp0:=hrd.2.2.1
 have hY:=D0 c.cy.vs c.cy.fit c.has (p:=p+((e:Int)+1)) (by omega) (by rw[hz];exact hy)
 rw[hz] at hY
 have hto:=c.cy.fit.1
 have JE:=gA c.has
 have hg:∀ k:Int,0<=k->k≠y->gl 0#64 (t.2.1.set y.toNat v) k.toNat=gl 0#64 t.2.1 k.toNat:=fun k k0 kn=>AI0 (by omega)
 have CU:∀ y1:Int,0<=y1->y1<s0.2.1.length->(fr s0.2.2 (y1 / sz s0.1)).1≠-1->(fr s0.2.2 (y1 / sz s0.1)).1≠CC.1->y1≠y:=by
  intro y1 a0 a1 h1 h2 he
  subst he
  obtain⟨f0,f1⟩:=HU h.hb.bv.vs a0 a1
  have h3:=c.aT _ f0 f1 h1 h2
  have h4:=hY.2.2.2.1
  rw[h3,c.seq] at h4
  exact h2 h4
 have XF:∀ p1 y1,0<=p1->DY (sz s0.1) lb p1=some y1->p1≠p+((e:Int)+1)->0<=y1/\y1≠y:=by
  intro p1 y1 a0 h1 h2
  have h3:=D0 c.cy.vs c.cy.fit c.has a0 (by rw[hz];exact h1)
  exact⟨h3.1.1,fun he=>h2 (K_ z JE a0 (by omega) (he ▸ h1) hy)⟩
 have AEK:EB (sz s0.1) (t.2.1.set y.toNat v) lb 0 (E_++m) to.2.2.2.2:=by
  refine c.TT.ABZ fun p1 x1 a1 ht ha=>⟨ha, ?_⟩
  have h1:=c.TT.ta ht
  have uG:p1≠p+((e:Int)+1):=by
   intro he
   rcases c.TT.apart ht cc.dst.ta with ⟨h2,_⟩|h2|h2 <;> omega
  obtain⟨g0,g1⟩:=XF p1 a1 h1.2.2.1 ha uG
  exact hg a1 g0 g1
 have AGH:Has (t.1,t.2.1.set y.toNat v,t.2.2) to lb:=c.has
 have MV:∀ {p a:Int} {x:Int×Int},OB t to lb (E_++m) p a x->OB (t.1,t.2.1.set y.toNat v,t.2.2) to lb (E_++m) p a x:=by
  intro p a x ob
  exact⟨AGH,by rw[show sz (t.1,t.2.1.set y.toNat v,t.2.2).1=sz s0.1 from hz];exact AEK,ob.ta,ob.J9⟩
 refine { cy:=⟨c.cy.vs.word hY.1.1 (by rw[hz,hY.2.2.2.1];omega) v,EJ.words (by simp) c.cy.fit,c.cy.own,c.cy.out,c.cy.nn⟩,sh:=c.sh,wl:=by rw[<-c.wl];simp,fl:=c.fl,seq:=c.seq,j9:=c.j9,wd:=c.wd,has:=AGH,TT:=AEK,pre:=c.pre,fr1:=c.fr1,qS:=c.qS,aT:=c.aT,wd1:= ?_,wd2:= ?_,wd3:= ?_,ml:=c.ml,cop:= ?_,mvn:=c.mvn,mvb:=c.mvb,cov:=c.cov,rch:=c.rch,de:=⟨c.de.1,fun hh=>by omega⟩ }
 ·intro y1 a0 a1 h1 h2 h3
  simp only
  rw[hg y1 a0 (CU y1 a0 a1 h1 h2)]
  exact c.wd1 y1 a0 a1 h1 h2 h3
 ·intro xx hx
  obtain⟨k,hk,PW⟩:=HD (d:=((0,0):Int×Int)) hx
  obtain⟨i',la',oa',pa',p',c2⟩:=c.cop k hk
  have h2:=h.XR c2.inl c2.src.has c2.src.IZ.2.2.1 c2.src.J9
  rw[PW] at h2
  simp only
  rw[hg xx.1 h2.1.1 (CU xx.1 h2.1.1 h2.1.2 (by rw[h2.2.2.1];omega) (by rw[h2.2.2.1];exact h2.2.2.2.2.2))]
  exact c.wd2 xx hx
 ·intro p1 y1 a0 a1 hy1
  obtain⟨r',g_⟩:=c.pre
  have h2:DY (sz s0.1) lb p1=some y1:=by rw[g_];exact C5 hy1
  obtain⟨g0,g1⟩:=XF p1 y1 a0 h2 (by omega)
  simp only
  rw[hg y1 g0 g1]
  exact c.wd3 p1 y1 a0 a1 hy1
 ·intro k hk
  by_cases hkd:k=d
  ·subst hkd
   refine⟨i,la,oa,pa,p,cc.inl,cc.src,MV cc.dst,cc.new,fun j j1 j2 za zb hza hzb=> ?_⟩
   obtain⟨h3,h4⟩:=cc.wds j j1 j2 za zb hza hzb
   simp only
   by_cases hje:j=(e:Int)+1
   ·subst hje
    rw[hya] at hza
    rw[hy] at hzb
    obtain rfl:=XW hza
    obtain rfl:=XW hzb
    have mM:=hY.1.2
    rw[D5 (by omega),AA rfl]
    exact⟨fun _=>hv,fun hh=>absurd ⟨hj,.inr ⟨rfl,by omega⟩⟩ hh⟩
   ·obtain⟨g0,g1⟩:=XF (p+j) zb (by omega) hzb (by omega)
    rw[hg zb g0 g1]
    refine⟨fun hh=>h3 ⟨hh.1, ?_⟩,fun hh=>h4 fun h5=>hh ⟨h5.1, ?_⟩⟩
    ·rcases hh.2 with h6|⟨h6,h7⟩
     ·omega
     ·exact .inr ⟨rfl,by omega⟩
    ·rcases h5.2 with h6|⟨h6,h7⟩
     ·omega
     ·exact .inr ⟨rfl,by omega⟩
  ·obtain⟨i',la',oa',pa',p',c2⟩:=c.cop k hk
   refine⟨i',la',oa',pa',p',c2.inl,c2.src,MV c2.dst,c2.new,fun j j1 j2 za zb hza hzb=> ?_⟩
   obtain⟨h3,h4⟩:=c2.wds j j1 j2 za zb hza hzb
   have h5:=c2.dst.IZ
   have A76 :p' +j≠p+((e:Int)+1):=by
    intro he
    rcases c.TT.apart (by have:=c2.dst.ta;exact this) cc.dst.ta with ⟨h6,_⟩|h6|h6
    ·subst h6
     have h7:=c2.dst.J9
     have h8:=cc.dst.J9
     rw[h7] at h8
     exact hkd (AUP (d:=((0,0):Int×Int)) c.mvb hk hd (XW h8))
    ·omega
    ·omega
   obtain⟨g0,g1⟩:=XF (p' +j) zb (by omega) hzb A76
   simp only
   rw[hg zb g0 g1]
   refine⟨fun hh=>h3 ⟨hh.1, ?_⟩,fun hh=>h4 fun h5=>hh ⟨h5.1, ?_⟩⟩
   ·rcases hh.2 with h6|⟨h6,h7⟩
    ·exact .inl h6
    ·exact absurd h6 hkd
   ·rcases h5.2 with h6|⟨h6,h7⟩
    ·exact .inl h6
    ·exact absurd h6 hkd
theorem CI.next {R:Int->Prop} {s0:Sp} {q:Rows} {l:List AH} {CC:AH} {l0:List Int} {E_:List (Int×Int)} {t:Sp} {to:AH} {lb:List Int} {m mv:List (Int×Int)} {d e:Nat} (c:CI R s0 q l CC l0 E_ t to lb m mv d e)
  (hd:d<mv.length) (he:(gl (0,0) m d).1<=(e:Int)):CI R s0 q l CC l0 E_ t to lb m mv (d+1) 0:=by
 refine { c with cop:=fun k hk=> ?_,de:=⟨hd,fun _=>rfl⟩ }
 obtain⟨i,la,oa,pa,p,cc⟩:=c.cop k hk
 refine⟨i,la,oa,pa,p,cc.inl,cc.src,cc.dst,cc.new,fun j j1 j2 ya yb hya hyb=> ?_⟩
 obtain⟨h3,h4⟩:=cc.wds j j1 j2 ya yb hya hyb
 have A77:(j<=(gl (0,0) m k).1/\scn (d+1) 0 k j)↔(j<=(gl (0,0) m k).1/\scn d e k j):=by
  unfold scn
  constructor
  ·rintro⟨a,b|⟨b,b'⟩⟩
   ·by_cases hkd:k=d
    ·subst hkd;exact⟨a,.inr ⟨rfl,by omega⟩⟩
    ·exact⟨a,.inl (by omega)⟩
   ·omega
  ·rintro⟨a,b|⟨b,_⟩⟩
   ·exact⟨a,.inl (by omega)⟩
   ·exact⟨a,.inl (by omega)⟩
 rw[A77]
 exact⟨h3,h4⟩
abbrev RunT:Type:=AH×List (Int×Int)×List (BitVec 64)×Int×List (BitVec 64)×List Fr×List AH
def Er (s0:Sp) (w:Wk):Prop:=w.2.2.2.2≠0/\w.1.2.1.length=s0.2.1.length
def Grf (R:Int->Prop) (s0:Sp) (l:List AH):Prop:=∀ i∈l,∀ la oa pa a x,OB s0 i la oa pa a x->R a->∀ j ya,1<=j->j<=x.1->DY (sz s0.1) la (pa+j)=some ya->Gw s0 l (gl 0#64 s0.2.1 ya.toNat)/\(Wn (B3 l) s0 (gl 0#64 s0.2.1 ya.toNat)->R (((gl 0#64 s0.2.1 ya.toNat).toNat:Int)-1))
theorem AEL {α:Type} {d:α} {l l' r:List α} (h:l' =l++r) {k:Nat} (hk:k<l.length):gl d l' k=gl d l k:=by rw[h,ZJ hk]
theorem CI.same {R:Int->Prop} {s0:Sp} {q:Rows} {l:List AH} {CC:AH} {l0:List Int} {E_:List (Int×Int)} {t:Sp} {to:AH} {lb:List Int} {m mv:List (Int×Int)} {d e:Nat} (c:CI R s0 q l CC l0 E_ t to lb m mv d e) {k:Nat} {i:AH} {la:List Int} {oa:List (Int×Int)} {pa p p' :Int} {x:Int×Int} (cc:Cop s0 (B3 l) l CC t to lb (E_++m) mv d e k i la oa pa p x) (p0:0<=p') (hp:DY (sz s0.1) lb p' =some (gl (0,0) mv k).2):p=p' :=by
 have h1:=cc.dst.J9
 rw[c.sh] at h1
 exact K_ (CM s0.1) (gA c.has) cc.dst.IZ.2.2.1 p0 h1 hp
theorem A20 {R:Int->Prop} {s0:Sp} {q:Rows} {l:List AH} {CC:AH} {l0:List Int} {E_:List (Int×Int)} (h:Cd s0 q l CC l0 E_) (yD:l.length<=1000000) (grf:Grf R s0 l) {t:Sp} {to:AH} {lb:List Int} {m mv:List (Int×Int)} {d:Nat} (c:CI R s0 q l CC l0 E_ t to lb m mv d 0)
  (hd:d<mv.length) {S:List Int} (hS:CO (s0.1,t.2) (gl ((0,0):Int×Int) mv d).2=some (S,0)):
  ∃ b,AI (σ:=Int×Wk) (β:=(Int×Wk) ⊕ RunT) (fun s3=>
   if s3.1<(S.length:Int) then
   if 0<=s3.1/\s3.1<(S.length:Int) then
   if 0<=(gl (0:Int) S s3.1.toNat)/\(gl (0:Int) S s3.1.toNat)<(s3.2.1.2.1.length:Int) then
   Option.bind (CG s3.2 (gl (0#64:(BitVec 64)) s3.2.1.2.1 ((gl (0:Int) S s3.1.toNat).toNat))) (fun r3=>
   if 0<=(gl (0:Int) S s3.1.toNat)/\(gl (0:Int) S s3.1.toNat)<(r3.2.1.2.1.length:Int) then
   some (Sum.inl ((AG (s3.1+1),((r3.2.1.1,r3.2.1.2.1.set ((gl (0:Int) S s3.1.toNat).toNat) r3.1,r3.2.1.2.2),r3.2.2))))
   else none)
   else none
   else none
   else some (Sum.inr (Sum.inl ((AG ((d:Int)+1),s3.2))))) ((0,(t,l,to,mv,0)))=some b∧
  ∃ w',b=Sum.inl ((d:Int)+1,w')/\(Er s0 w' \/∃ t1 to1 lb1 m1 mv1,w' =(t1,l,to1,mv1,0)/\CI R s0 q l CC l0 E_ t1 to1 lb1 m1 mv1 (d+1) 0/\∃ r,mv1=mv++r):=by
 have pQ:=VS.PO h.hb.bv.vs
 have z:=CM s0.1
 obtain⟨i,la,oa,pa,p,cc⟩:=c.cop d hd
 have hz:sz t.1=sz s0.1:=by rw[c.sh]
 have hts:((s0.1,t.2):Sp)=t:=by rw[<-c.sh]
 have hml:=c.AUN h
 have hfs:=cc.dst.fields c.cy.vs c.cy.fit
 rw[hts,hfs] at hS
 obtain rfl:pC (sz t.1) lb p (gl (0,0) m d).1.toNat=S:=by simpa using hS
 rw[hz]
 have hlen:(pC (sz s0.1) lb p (gl (0,0) m d).1.toNat).length=(gl (0,0) m d).1.toNat:=OS _ _ _ _
 have hrd:=cc.dst.IZ
 have hpb:DY (sz s0.1) lb p=some (gl (0,0) mv d).2:=by rw[<-hz];exact cc.dst.J9
 have ABC:∀ j:Nat,j<(gl (0,0) m d).1.toNat->∃ y,DY (sz s0.1) lb (p+((j:Int)+1))=some y/\(0<=y/\y<s0.2.1.length)/\gl 0 (pC (sz s0.1) lb p (gl (0,0) m d).1.toNat) j=y:=by
  intro j hj
  obtain⟨y,hy⟩:=cc.dst.fld c.cy.vs c.cy.fit (k:=(j:Int)+1) (by omega) (by omega)
  have hr:=D0 c.cy.vs c.cy.fit c.has (by omega) hy
  rw[c.wl] at hr
  rw[hz] at hy
  refine⟨y,hy,hr.1, ?_⟩
  rw[u6 hj,show p+(1+(j:Int))=p+((j:Int)+1) from by omega,hy];rfl
 generalize hSS:pC (sz s0.1) lb p (gl (0,0) m d).1.toNat=S at*
 generalize hX:gl ((0,0):Int×Int) m d=X at*
 refine AO (fun j (st:Int×Wk)=>st.1=(j:Int)/\(Er s0 st.2\/∃ t1 to1 lb1 m1 mv1,st.2=(t1,l,to1,mv1,0)/\CI R s0 q l CC l0 E_ t1 to1 lb1 m1 mv1 d j/\(∃ r,lb1=lb++r)/\(∃ r,m1=m++r)/\∃ r,mv1=mv++r)) _ X.1.toNat ?_ ?_ ⟨rfl,.inr ⟨t,to,lb,m,mv,rfl,c,⟨[],by rw[HH]⟩,⟨[],by rw[HH]⟩,[],by rw[HH]⟩⟩
 ·rintro j ⟨jj,w⟩ hj ⟨hjj,hw⟩
  simp only at hjj hw
  subst hjj
  obtain⟨y,hy,⟨y0,y1⟩,hgl⟩:=ABC j hj
  left
  simp only[HX]
  rw[hgl,AA (by omega),AA (by omega),AE (e:=(j:Int)+1) (by omega) (by omega)]
  rcases hw with ⟨e1,e2⟩|⟨t1,to1,lb1,m1,mv1,rfl,c1,⟨r1,hr1⟩,⟨r2,uP⟩,r3,hr3⟩
  ·rw[AA (by omega),ABX e1,AZ]
   simp only
   rw[AA (by omega)]
   exact⟨_,rfl,rfl,.inl ⟨e1,by simpa using e2⟩⟩
  ·have hd1:d<mv1.length:=by rw[hr3,JK];omega
   have hgm:gl ((0,0):Int×Int) m1 d=X:=by rw[AEL uP (by rw[c.ml];exact hd),hX]
   have hgv:gl ((0,0):Int×Int) mv1 d=gl (0,0) mv d:=AEL hr3 hd
   obtain⟨i1,la1,oa1,pa1,p1,cc1⟩:=c1.cop d hd1
   obtain rfl:p1=p:=c1.same cc1 hrd.2.2.1 (by rw[hgv,hr1];exact C5 hpb)
   rw[hgm] at cc1
   have hsr:=cc1.src.IZ
   obtain⟨ya,hya⟩:=cc1.src.fld h.hb.bv.vs (h.hb.fit (h.sub _ cc1.inl)).1 (k:=(j:Int)+1) (by omega) (by omega)
   have hy1:DY (sz s0.1) lb1 (p1+((j:Int)+1))=some y:=by rw[hr1];exact C5 hy
   have hty:gl 0#64 t1.2.1 y.toNat=gl 0#64 s0.2.1 ya.toNat:=by
    refine (cc1.wds ((j:Int)+1) (by omega) (by omega) ya y hya hy1).2 fun hh=> ?_
    rcases hh.2 with h1|⟨_,h1⟩ <;> omega
   obtain⟨gw,gr⟩:=grf i1 cc1.inl la1 oa1 pa1 _ X cc1.src (c1.rch _ (BN hd1)) ((j:Int)+1) ya (by omega) (by omega) hya
   obtain⟨v,v',err,t2,to2,mm,hm,he,hv⟩:=AI2 yD c1.cy (mv:=mv1) (by have:=c1.AUN h;omega) (gl 0#64 t1.2.1 y.toNat)
   obtain⟨-, -, -,lB, -⟩:=MvR.cy c1.cy hm
   have hl1:=c1.wl
   rw[AA (by simp only;omega)]
   simp only
   rw[he,AZ]
   simp only
   rw[AA (by omega)]
   refine⟨_,rfl,rfl, ?_⟩
   by_cases AEM:err=0
   rotate_left
   ·exact .inl ⟨AEM,by simp only[EW];omega⟩
   ·right
    rw[hty] at hm
    obtain⟨lb2,m2,c2,him,⟨r4,hr4⟩,r5,hr5⟩:=c1.move h gw gr hm AEM
    have hd2:d<(mv1++mm).length:=by rw[JK];omega
    have A4V:gl ((0,0):Int×Int) m2 d=X:=by rw[AEL hr5 (by rw[c1.ml];exact hd1),hgm]
    have A21:gl ((0,0):Int×Int) (mv1++mm) d=gl (0,0) mv d:=by rw[ZJ hd1,hgv]
    obtain⟨i2,la2,oa2,pa2,p2,cc2⟩:=c2.cop d hd2
    obtain rfl:p2=p1:=c2.same cc2 hrd.2.2.1 (by rw[A21,hr4,hr1];exact C5 (C5 hpb))
    have A78:=cc2.src
    rw[A4V] at A78
    have hii:i2=i1:=by
     have a1:=h.XR cc1.inl cc1.src.has cc1.src.IZ.2.2.1 cc1.src.J9
     have a2:=h.XR cc2.inl cc2.src.has cc2.src.IZ.2.2.1 cc2.src.J9
     rw[hgv] at a1
     rw[A21] at a2
     exact h.hb.uniq (h.sub _ cc2.inl) (h.sub _ cc1.inl) (by rw[<-a2.2.2.1,←a1.2.2.1])
    subst hii
    obtain rfl:=T7 cc1.src.has cc2.src.has
    have hpp:pa2=pa1:=by
     have a1:=cc1.src.J9
     have a2:=cc2.src.J9
     rw[hgv] at a1
     rw[A21] at a2
     exact K_ z (gA cc1.src.has) cc2.src.IZ.2.2.1 cc1.src.IZ.2.2.1 a2 a1
    subst hpp
    refine⟨_,to2,lb2,m2,mv1++mm, ?_,c2.write h hd2 cc2 (by rw[A4V];omega) (y:=y) (ya:=ya) (v:=v) (by rw[hr4];exact C5 hy1) hya him,⟨r1++r4,by rw[hr4,hr1,J_]⟩,⟨r2++r5,by rw[hr5,uP,J_]⟩,r3++mm,by rw[hr3,J_]⟩
    rw[hv AEM,AEM]
 ·rintro⟨jj,w⟩ ⟨hjj,hw⟩
  simp only at hjj hw
  subst hjj
  simp only
  rw[AD (by omega),AE (e:=(d:Int)+1) (by omega) (by omega)]
  refine⟨_,rfl,w,rfl, ?_⟩
  rcases hw with hw|⟨t1,to1,lb1,m1,mv1,rfl,c1,⟨r1,hr1⟩,⟨r2,uP⟩,r3,hr3⟩
  ·exact .inl hw
  ·have hd1:d<mv1.length:=by rw[hr3,JK];omega
   refine .inr ⟨t1,to1,lb1,m1,mv1,rfl,c1.next hd1 ?_,r3,hr3⟩
   rw[AEL uP (by rw[c.ml];exact hd),hX]
   omega
theorem A22 {R:Int->Prop} {s0:Sp} {q:Rows} {l:List AH} {CC:AH} {l0:List Int} {E_:List (Int×Int)} (h:Cd s0 q l CC l0 E_) (yD:l.length<=1000000) (grf:Grf R s0 l) {ws:List (BitVec 64)} (hws:ws.length<=1000000) (gws:∀ w∈ws,Gw s0 l w/\(Wn (B3 l) s0 w->R ((w.toNat:Int)-1))):
  ∃ res:RunT,ME s0 l CC ws=some res/\(res.2.2.2.1≠0\/∃ t to lb m mv out,res=(to,mv,out,0,t.2.1,t.2.2,l)/\CI R s0 q l CC l0 E_ t to lb m mv mv.length 0/\out.length=ws.length/\∀ k,k<ws.length->Im s0 (B3 l) mv (gl 0#64 ws k) (gl 0#64 out k)):=by
 unfold ME
 refine AO (fun k (st:List (BitVec 64)×Int×Wk)=>st.2.1=(k:Int)/\st.1.length=k/\(Er s0 st.2.2\/∃ t to lb m mv,st.2.2=(t,l,to,mv,0)/\CI R s0 q l CC l0 E_ t to lb m mv 0 0/\∀ j,j<k->Im s0 (B3 l) mv (gl 0#64 ws j) (gl 0#64 st.1 j))) _ ws.length ?_ ?_ ⟨rfl,rfl,.inr ⟨s0,CC,l0,[],[],rfl,CI.start h,fun j hj=>by omega⟩⟩
 ·rintro k ⟨out,kk,w⟩ hk ⟨I0,hol,hw⟩
  simp only at I0 hol hw
  subst I0
  left
  simp only[HX]
  rw[AA (by omega),AA (by omega)]
  rcases hw with ⟨e1,e2⟩|⟨t,to,lb,m,mv,rfl,c,him⟩
  ·rw[ABX e1,AZ,AA (by simp only[IC];omega),AE (by omega) (by omega)]
   exact⟨_,rfl,rfl,by simp only[JK,IC,hol],.inl ⟨e1,e2⟩⟩
  ·obtain⟨gw,gr⟩:=gws _ (BN (d:=0#64) hk)
   obtain⟨v,v',err,t2,to2,mm,hm,he,hv⟩:=AI2 yD c.cy (mv:=mv) (by have:=c.AUN h;omega) (gl 0#64 ws k)
   obtain⟨-, -, -,lB, -⟩:=MvR.cy c.cy hm
   rw[he,AZ,AA (by simp only[IC];omega),AE (by omega) (by omega)]
   refine⟨_,rfl,rfl,by simp only[JK,IC,hol], ?_⟩
   by_cases AEM:err=0
   rotate_left
   ·exact .inl ⟨AEM,by simp only;rw[lB,c.wl]⟩
   ·obtain⟨lb2,m2,c2,A79, -, -⟩:=c.move h gw gr hm AEM
    refine .inr ⟨t2,to2,lb2,m2,mv++mm,by rw[AEM],c2,fun j hj=> ?_⟩
    simp only
    by_cases kL:j=k
    ·subst kL
     rw[D8 (xs:=out++ [v']) (by rw[JK,hol];simp),AA7 (by rw[hol];exact EY _)]
     simp only[hol,mX,AQT]
     rw[hv AEM];exact A79
    ·rw[ZJ (by rw[hol];omega)]
     exact (him j (by omega)).mono fun x hx=>AAB _ hx
 ·rintro⟨out,kk,w⟩ ⟨I0,hol,hw⟩
  simp only at I0 hol hw
  subst I0
  simp only
  rw[AD (by omega)]
  have key:=AO (f:=fun s2:Int×Wk=>
   if s2.1<(s2.2.2.2.2.1.length:Int) then
   if s2.2.2.2.2.2=0 then
   if 0<=s2.1/\s2.1<(s2.2.2.2.2.1.length:Int) then
   Option.bind (CO (s0.1,s2.2.1.2) ((gl ((0,0):(Int×Int)) s2.2.2.2.2.1 s2.1.toNat).2)) (fun r2=>
   AI (σ:=(Int×Wk)) (β:=((Int×Wk) ⊕ RunT)) (fun s3=>
   if s3.1<(r2.1.length:Int) then
   if 0<=s3.1/\s3.1<(r2.1.length:Int) then
   if 0<=(gl (0:Int) r2.1 s3.1.toNat)/\(gl (0:Int) r2.1 s3.1.toNat)<(s3.2.1.2.1.length:Int) then
   Option.bind (CG s3.2 (gl (0#64:(BitVec 64)) s3.2.1.2.1 ((gl (0:Int) r2.1 s3.1.toNat).toNat))) (fun r3=>
   if 0<=(gl (0:Int) r2.1 s3.1.toNat)/\(gl (0:Int) r2.1 s3.1.toNat)<(r3.2.1.2.1.length:Int) then
   some (Sum.inl ((AG (s3.1+1),((r3.2.1.1,r3.2.1.2.1.set ((gl (0:Int) r2.1 s3.1.toNat).toNat) r3.1,r3.2.1.2.2),r3.2.2))))
   else none)
   else none
   else none
   else some (Sum.inr (Sum.inl ((AG (s2.1+1),s3.2))))) ((0,s2.2)))
   else none
   else some (Sum.inr ((s2.2.2.2.1,s2.2.2.2.2.1,out,s2.2.2.2.2.2,s2.2.1.2.1,s2.2.1.2.2,s2.2.2.1)))
   else some (Sum.inr ((s2.2.2.2.1,s2.2.2.2.2.1,out,s2.2.2.2.2.2,s2.2.1.2.1,s2.2.1.2.2,s2.2.2.1))))
   (fun k (st:Int×Wk)=>st.1=(k:Int)/\(Er s0 st.2\/∃ t to lb m mv,st.2=(t,l,to,mv,0)/\CI R s0 q l CC l0 E_ t to lb m mv k 0/\∀ j,j<ws.length->Im s0 (B3 l) mv (gl 0#64 ws j) (gl 0#64 out j)))
   (fun (res:RunT)=>(res.2.2.2.1≠0\/∃ t to lb m mv out,res=(to,mv,out,0,t.2.1,t.2.2,l)/\CI R s0 q l CC l0 E_ t to lb m mv mv.length 0/\out.length=ws.length/\∀ k,k<ws.length->Im s0 (B3 l) mv (gl 0#64 ws k) (gl 0#64 out k)))
   16385 ?_ ?_ (s:=(0,w)) ⟨rfl,hw⟩
  ·obtain⟨b,WU,uJ⟩:=key
   refine⟨b, ?_,uJ⟩
   exact Option.map_eq_some_iff.2 ⟨b,WU,rfl⟩
  ·rintro k ⟨kk,w⟩ hk ⟨I0,hw⟩
   simp only at I0 hw
   subst I0
   simp only[HX]
   rcases hw with ⟨e1,e2⟩|⟨t,to,lb,m,mv,rfl,c,him⟩
   ·right
    by_cases h1:(k:Int)<(w.2.2.2.1.length:Int)
    ·rw[AA h1,AD e1];exact⟨_,rfl,.inl e1⟩
    ·rw[AD h1];exact⟨_,rfl,.inl e1⟩
   ·simp only
    by_cases h1:(k:Int)<(mv.length:Int)
    rotate_left
    ·rw[AD h1]
     obtain⟨d1,d2⟩:=c.de
     obtain rfl:k=mv.length:=by omega
     exact .inr ⟨_,rfl,.inr ⟨t,to,lb,m,mv,out,rfl,c,hol,him⟩⟩
    ·left
     have NW :k<mv.length:=by omega
     rw[AA h1,AA trivial,AA ⟨by omega,h1⟩]
     obtain⟨i,la,oa,pa,p,cc⟩:=c.cop k NW
     have hfs:=cc.dst.fields c.cy.vs c.cy.fit
     have hts:((s0.1,t.2):Sp)=t:=by rw[<-c.sh]
     rw[<-hts] at hfs
     obtain⟨b,WU,w',rfl,hb3⟩:=A20 h yD grf c NW hfs
     rw[hfs,AZ]
     refine⟨_,WU,rfl, ?_⟩
     rcases hb3 with hb3|⟨t1,to1,lb1,m1,mv1,rfl,c1,r,hr⟩
     ·exact .inl hb3
     ·exact .inr ⟨t1,to1,lb1,m1,mv1,rfl,c1,fun j hj=>(him j hj).mono fun x hx=>by rw[hr];exact AAB _ hx⟩
  ·rintro⟨kk,w⟩ ⟨I0,hw⟩
   simp only at I0 hw
   subst I0
   rcases hw with ⟨e1,e2⟩|⟨t,to,lb,m,mv,rfl,c,him⟩
   ·by_cases h1:(((16385:Nat):Int))<(w.2.2.2.1.length:Int)
    ·simp only
     rw[AA h1,AD e1];exact⟨_,rfl,.inl e1⟩
    ·simp only
     rw[AD h1];exact⟨_,rfl,.inl e1⟩
   ·have:=c.AUN h
    have:=c.de.1
    omega
structure Sm (s s' :Sp) (n:Int):Prop where
 sh:s'.1=s.1
 wl:s'.2.1.length=s.2.1.length
 fl:s'.2.2.length=s.2.2.length
 fr:∀ x:Int,0<=x->x<s.2.2.length->(Go.V3.fr s.2.2 x).1=n\/(Go.V3.fr s'.2.2 x).1=n->Go.V3.fr s'.2.2 x=Go.V3.fr s.2.2 x
theorem Sm.owned {s s' :Sp} {n:Int} (h:Sm s s' n):Go.V3.owned s'.2.2 n=Go.V3.owned s.2.2 n:=by
 unfold Go.V3.owned
 rw[h.fl]
 refine rR fun x hx=> ?_
 obtain⟨x0,x1⟩:=NJ.1 hx
 rw[tI]
 constructor
 ·intro he;rw[<-h.fr x x0 x1 (.inr he)];exact he
 ·intro he;rw[h.fr x x0 x1 (.inl he)];exact he
theorem Sm.symm {s s' :Sp} {n:Int} (h:Sm s s' n):Sm s' s n:=⟨h.sh.symm,h.wl.symm,h.fl.symm,fun x x0 x1 hh=>(h.fr x x0 (by rw[<-h.fl];exact x1) hh.symm).symm⟩
theorem Sm.pa {s s' :Sp} (hv:VS s) {n:Int} (h:Sm s s' n) {f:Int} {l:List Int} (hp:Pa s.2.2 f l) (hn:(Go.V3.fr s.2.2 f).1=n):Pa s'.2.2 f l:=by
 refine hp.mE h.fl fun x hx=> ?_
 obtain⟨x0,x1⟩:=hp.mem hx
 have ho:=(hv.owner hp x hx).1
 rw[I4 x0 (by rw[h.fl];exact x1),I4 x0 x1,h.fr x x0 x1 (.inl (by rw[ho];exact hn))]
theorem Sm.has {s s' :Sp} (hv:VS s) {i:AH} (hf:EJ s i) (h:Sm s s' i.1) {l:List Int} (hl:Has s i l):Has s' i l:=by
 rcases hl with ⟨hw,rfl⟩|⟨hw,hp⟩
 ·exact .inl ⟨hw,rfl⟩
 ·rcases hf.2 with ⟨hw',_⟩|⟨_,_,hn,_⟩
  ·exact absurd hw' hw
  ·exact .inr ⟨hw,h.pa hv hp hn⟩
theorem Sm.fit {s s' :Sp} (hv:VS s) {i:AH} (hf:EJ s i) (h:Sm s s' i.1):EJ s' i:=by
 refine⟨by rw[h.wl];exact hf.1, ?_⟩
 rcases hf.2 with hw|⟨hw,⟨f0,f1⟩,hn,hst,l,hp,h1,h2,h3⟩
 ·exact .inl hw
 ·have he:=h.fr _ f0 f1 (.inl hn)
  exact .inr ⟨hw,⟨f0,by rw[h.fl];exact f1⟩,by rw[he];exact hn,by rw[he];exact hst,l,h.pa hv hp hn,by rw[h.sh];exact h1,by rw[h.owned];exact h2,h3⟩
theorem Sm.AI8 {s s' :Sp} {i:AH} (h:Sm s s' i.1) {l:List Int} {os:List (Int×Int)} (ht:EB (sz s.1) s.2.1 l 0 os i.2.2.2.2) (hw:∀ p x a,TA 0 os p x->DY (sz s.1) l p=some a->gl 0#64 s'.2.1 a.toNat=gl 0#64 s.2.1 a.toNat):EB (sz s'.1) s'.2.1 l 0 os i.2.2.2.2:=by
 rw[h.sh]
 exact ht.ABZ fun p x a hp ha=>⟨ha,hw p x a hp ha⟩
theorem Sm.ob {s s' :Sp} (hv:VS s) {i:AH} (hf:EJ s i) (h:Sm s s' i.1) {l:List Int} {os:List (Int×Int)} (hw:∀ p x a,TA 0 os p x->DY (sz s.1) l p=some a->gl 0#64 s'.2.1 a.toNat=gl 0#64 s.2.1 a.toNat) {p a:Int} {x:Int×Int} (o:OB s i l os p a x):OB s' i l os p a x:=
 ⟨h.has hv hf o.has,h.AI8 o.TT hw,o.ta,by rw[h.sh];exact o.J9⟩
theorem LA {s:Sp} {i:AH} {l:List Int} {os:List (Int×Int)} (hl:Has s i l) (ht:EB (sz s.1) s.2.1 l 0 os i.2.2.2.2) {l' :List Int} {tB :List (Int×Int)} {p a:Int} {x:Int×Int} (o:OB s i l' tB p a x):l' =l/\tB =os:=by
 obtain rfl:=T7 o.has hl
 exact⟨rfl,o.TT.fn ht⟩
def gvs (s:Sp):List Int->Sp
 | []=>s
 |n::r=>gvs (gv s n) r
theorem AKZ:∀ {C:List Int} {s:Sp},VS s->(∀ n∈C,0<=n)->VS (gvs s C)/\(gvs s C).1=s.1/\(gvs s C).2.1.length=s.2.1.length/\(gvs s C).2.2.length=s.2.2.length∧
  (∀ x:Int,0<=x->x<s.2.2.length->fr (gvs s C).2.2 x=if (fr s.2.2 x).1∈C then (-1, -1, -1) else fr s.2.2 x)∧
  (∀ y:Int,0<=y->y<s.2.1.length->gl 0#64 (gvs s C).2.1 y.toNat=if (fr s.2.2 (y / sz s.1)).1∈C then 0#64 else gl 0#64 s.2.1 y.toNat)
 | [],s,h,_=>⟨h,rfl,rfl,rfl,fun _ _ _=>by simp [gvs],fun _ _ _=>by simp [gvs]⟩
 |n::r,s,h,hn=>by
  have n0:=hn n (by simp)
  obtain⟨i1,i2,i3,i4,i5,i6⟩:=AKZ (C:=r) (h.A6M n0) (fun k hk=>hn k (UY _ hk))
  rw[AN6] at i3 i6
  rw[AT9] at i4 i5
  have e1:(gv s n).1=s.1:=rfl
  rw[e1] at i2 i6
  refine⟨i1,i2,i3,i4,fun x x0 x1=> ?_,fun y y0 y1=> ?_⟩
  ·rw[gvs,i5 x x0 x1,AT8 x0 x1]
   by_cases h1:(fr s.2.2 x).1=n
   ·rw[AA h1,AA (show (fr s.2.2 x).1∈n::r by rw[h1];simp)]
    split <;> rfl
   ·rw[AD h1]
    by_cases h2:(fr s.2.2 x).1∈r
    ·rw[AA h2,AA (UY _ h2)]
    ·rw[AD h2,AD (fun hh=>by rcases GA.1 hh with hh|hh;exact h1 hh;exact h2 hh)]
  ·obtain⟨f0,f1⟩:=HU h y0 y1
   have hyn:((y.toNat:Nat):Int)=y:=by omega
   have hg:=A4E h (o:=n) (a:=y.toNat) (by omega)
   rw[hyn] at hg
   rw[gvs,i6 y y0 y1,AT8 f0 f1,hg]
   by_cases h1:(fr s.2.2 (y / sz s.1)).1=n
   ·rw[AA h1,AA h1,AA (show (fr s.2.2 (y / sz s.1)).1∈n::r by rw[h1];simp)]
    split <;> rfl
   ·rw[AD h1,AD h1]
    by_cases h2:(fr s.2.2 (y / sz s.1)).1∈r
    ·rw[AA h2,AA (UY _ h2)]
    ·rw[AD h2,AD (fun hh=>by rcases GA.1 hh with hh|hh;exact h1 hh;exact h2 hh)]
theorem AI9:∀ (C:List Int) (s:Sp) (n:Int),gvs s (C++ [n])=gv (gvs s C) n
 | [],s,n=>rfl
 |m::r,s,n=>by rw[rU,gvs,gvs,AI9 r]
structure OkR (s:Sp) (q:Rows):Prop where
 pw:∀ k,k<q.length->(gl [] q k).Pairwise fun a b=>a.1<b.1
 e:∀ k,k<q.length->∀ i∈gl [] q k,i.2.1=(k:Int)/\1<=i.2.2.2.2/\EJ s i
 nd:(q.flatten.map (·.1)).Nodup
theorem yO {α:Type} {d:α} {f:α->Int}:∀ {l:List α},(∀ j,0<j->j<l.length->f (gl d l (j-1))<f (gl d l j))->l.Pairwise fun a b=>f a<f b
 | [],_=>List.Pairwise.nil
 | [a],_=>ALE _ _
 |a::b::r,h=>by
  have ih:(b::r).Pairwise fun a b=>f a<f b:=yO (d:=d) fun j j0 j1=>by
   have:=h (j+1) (by omega) (by simp at j1 ⊢;omega)
   rw[show j+1-1=j-1+1 by omega] at this
   exact this
  have hab:f a<f b:=h 1 (by omega) (by simp)
  refine List.Pairwise.cons (fun x hx=> ?_) ih
  rcases GA.1 hx with rfl|hx
  ·exact hab
  ·exact Int.lt_trans hab ((cQ.1 ih).1 x hx)
theorem aX.rows {s:Sp} {q:Rows} (h:aX s q):OkR s q:=by
 refine⟨fun k hk=>yO (d:=((0,0,0,0,0):AH)) (f:=fun i:AH=>i.1) fun j j0 j1=>(h k j hk j1).2.2.1 j0,fun k hk i hi=> ?_,h.nodup⟩
 obtain⟨j,hj,rfl⟩:=HD (d:=((0,0,0,0,0):AH)) hi
 have:=h k j hk hj
 exact⟨this.1,this.2.1,this.2.2.2.2⟩
theorem OkR.all {s:Sp} {q:Rows} (h:OkR s q):aX s q:=by
 intro k j hk hj
 obtain⟨h1,h2,h3⟩:=h.e k hk _ (BN (d:=((0,0,0,0,0):AH)) hj)
 refine⟨h1,h2,fun j0=> ?_, ?_,h3⟩
 ·have:=AIW.1 (h.pw k hk) (j-1) j (by omega) hj (by omega)
  rw[D8 (by omega),D8 hj];exact this
 ·have hn:=h.nd
  rw[HF q k hk,uZ (d:=((0,0,0,0,0):AH)) (gl [] q k) j hj,J_,rU,←J_,bA,RF] at hn
  intro hm
  exact hn.2.2 _ hm _ (by rw[MN];exact vQ) rfl
def kU (q:Rows) (C:List Int):Rows:=q.map fun x=>x.filter fun i=>decide (i.1∉C)
theorem OY (q:Rows) (C:List Int):(kU q C).length=q.length:=by unfold kU;rw[RG]
theorem AUQ {q:Rows} {C:List Int} {k:Nat} (hk:k<q.length):gl [] (kU q C) k=(gl [] q k).filter fun i=>decide (i.1∉C):=by
 unfold kU;rw[AUM (d:=[]) hk]
theorem gB (q:Rows) (C:List Int):(kU q C).flatten=q.flatten.filter fun i=>decide (i.1∉C):=by
 unfold kU;rw[List.filter_flatten]
theorem AXU (q:Rows):kU q []=q:=by
 unfold kU
 conv=>rhs;rw[<-List.map_id q]
 refine WB fun x _=> ?_
 rw[ALM.2 (fun i _=>by simp)];rfl
theorem AUR (q:Rows) (C:List Int) (n:Int):kU (kU q C) [n]=kU q (C++ [n]):=by
 unfold kU
 rw[VH]
 refine WB fun x _=> ?_
 simp only[ALN,List.filter_filter]
 refine rR fun i _=> ?_
 simp only[FG,HA,not_or,Bool.decide_and]
 rw[Bool.and_comm]
theorem erase_filter {f:AH->Int}:∀ {xs:List AH} {j:Nat} {n:Int},(xs.map f).Nodup->j<xs.length->f (gl ((0,0,0,0,0):AH) xs j)=n->xs.eraseIdx j=xs.filter fun i=>decide (f i∉[n])
 | [],j,n,_,h,_=>by simp at h
 |a::r,0,n,hd,_,hn=>by
  obtain⟨h1,h2⟩:=WD.1 hd
  have hn' :f a=n:=hn
  rw[List.eraseIdx_cons_zero,vN,AD (by simp [hn']),ALM.2]
  intro x hx
  simp only[HA,JL]
  intro he
  exact h1 (by rw[hn',←he];exact DD.2 ⟨x,hx,rfl⟩)
 |a::r,j+1,n,hd,hj,hn=>by
  obtain⟨h1,h2⟩:=WD.1 hd
  have bH :j<r.length:=by simpa using hj
  have hn' :f (gl ((0,0,0,0,0):AH) r j)=n:=hn
  have CU:f a≠n:=fun he=>h1 (by rw[he,←hn'];exact DD.2 ⟨_,BN bH,rfl⟩)
  rw[List.eraseIdx_cons_succ,vN,AA (by simpa using CU),erase_filter h2 bH hn']
theorem AUS {q:Rows} (h:(q.flatten.map (·.1)).Nodup) {k:Nat} (hk:k<q.length):((gl [] q k).map (·.1)).Nodup:=by
 rw[HF q k hk,bA,bA,RF] at h
 exact (RF.1 h.2.1).1
theorem AUT {α:Type} {d:α} {q:List α} {k:Nat} {f:α->α} (hk:k<q.length) (h:∀ j,j<q.length->j≠k->f (gl d q j)=gl d q j):q.set k (f (gl d q k))=q.map f:=by
 refine List.ext_getElem (by simp) fun j h1 h2=> ?_
 rw[EW] at h1
 rw[List.getElem_set,vM]
 split
 ·rename_i hj;subst hj;rw[D8 hk]
 ·rename_i hj
  have:=h j h1 (Ne.symm hj)
  rw[D8 h1] at this
  exact this.symm
theorem AIA {q:Rows} (h:(q.flatten.map (·.1)).Nodup) {k j:Nat} (hk:k<q.length) (hj:j<q.length) {i i' :AH} (hi:i∈gl [] q k) (LQ :i' ∈gl [] q j) (he:i.1=i'.1):j=k:=by
 by_cases DO:j=k
 ·exact DO
 exfalso
 have key:∀ {k j:Nat} {i i' :AH},k<q.length->j<q.length->k<j->i∈gl [] q k->i' ∈gl [] q j->i.1=i'.1->False:=by
  intro k j i i' hk hj hkj hi LQ he
  have hn:=h
  rw[HF q k hk,bA,bA,RF] at hn
  have h2:=(RF.1 hn.2.1).2.2
  refine h2 _ (DD.2 ⟨i,hi,rfl⟩) _ (DD.2 ⟨i', ?_,rfl⟩) he
  refine mU.2 ⟨gl [] q j, ?_,LQ⟩
  rw[D8 hj,ACD]
  exact⟨j-(k+1),by rw[AFD];omega,by rw[List.getElem_drop];congr 1;omega⟩
 rcases IA k j with h1|h1
 ·exact key hk hj h1 hi LQ he
 ·exact key hj hk (by omega) LQ hi he.symm
theorem AQ5 {q:Rows} (hq:q.length<=1000000) (hx:∀ x∈q,x.length<=1000000) (hn:(q.flatten.map (·.1)).Nodup) {i:AH} (hi:i∈q.flatten):EH q i.1=some (kU q [i.1],0):=by
 rcases AKV hq hx i.1 with ⟨h1,_⟩|⟨k,j,⟨hk,hj,hf,_⟩,h2⟩
 ·exact absurd rfl (h1 i hi)
 ·rw[h2,erase_filter (f:=fun i:AH=>i.1) (AUS hn hk) hj hf]
  congr 2
  unfold kU
  refine AUT (f:=fun x:List AH=>x.filter fun i' =>decide (i'.1∉[i.1])) hk fun j' bH CU=> ?_
  refine ALM.2 fun y hy=> ?_
  simp only[HA,JL]
  intro he
  exact CU (AIA hn hk bH (BN (d:=((0,0,0,0,0):AH)) hj) hy (by rw[hf,he]))
structure OkN (q:Rows):Prop where
 pw:∀ k,k<q.length->(gl [] q k).Pairwise fun a b=>a.1<b.1
 e:∀ k,k<q.length->∀ i∈gl [] q k,i.2.1=(k:Int)/\1<=i.2.2.2.2
 nd:(q.flatten.map (·.1)).Nodup
theorem KJ {q:Rows} {i:AH}:i∈q.flatten↔∃ k,k<q.length/\i∈gl [] q k:=by
 rw[mU]
 constructor
 ·rintro⟨x,hx,hi⟩
  obtain⟨k,hk,rfl⟩:=HD (d:=([]:List AH)) hx
  exact⟨k,hk,hi⟩
 ·rintro⟨k,hk,hi⟩
  exact⟨_,BN hk,hi⟩
theorem F_ {s:Sp} {q:Rows}:aX s q↔OkN q/\∀ i∈q.flatten,EJ s i:=by
 constructor
 ·intro h
  have hr:=h.rows
  exact⟨⟨hr.pw,fun k hk i hi=>⟨(hr.e k hk i hi).1,(hr.e k hk i hi).2.1⟩,hr.nd⟩,fun i hi=>(h.fit i hi).1⟩
 ·rintro⟨h,hf⟩
  exact OkR.all ⟨h.pw,fun k hk i hi=>⟨(h.e k hk i hi).1,(h.e k hk i hi).2,hf i (KJ.2 ⟨k,hk,hi⟩)⟩,h.nd⟩
theorem OkN.row {q:Rows} (h:OkN q) {i:AH} (hi:i∈q.flatten):(0<=i.2.1/\i.2.1<q.length)/\i∈gl [] q i.2.1.toNat:=by
 obtain⟨k,hk,gS⟩:=KJ.1 hi
 have:=(h.e k hk i gS).1
 exact⟨by omega,by rw[show i.2.1.toNat=k by omega];exact gS⟩
theorem OZ {q:Rows} {C:List Int} {i:AH}:i∈(kU q C).flatten↔i∈q.flatten/\i.1∉C:=by
 rw[gB,bB,JL]
theorem OkN.kU {q:Rows} (h:OkN q) (C:List Int):OkN (kU q C):=by
 refine⟨fun k hk=> ?_,fun k hk i hi=> ?_, ?_⟩
 ·rw[OY] at hk
  rw[AUQ hk]
  exact (h.pw k hk).sublist AAC
 ·rw[OY] at hk
  rw[AUQ hk] at hi
  exact h.e k hk i (bB.1 hi).1
 ·rw[gB]
  exact h.nd.sublist (AAC.map _)
def rpl (q:Rows) (j:AH):Rows:=q.map fun x=>x.map fun i=>if i.1=j.1 then j else i
theorem pF (q:Rows) (j:AH):(rpl q j).length=q.length:=by unfold rpl;rw[RG]
theorem AUU {q:Rows} {j:AH} {k:Nat} (hk:k<q.length):gl [] (rpl q j) k=(gl [] q k).map fun i=>if i.1=j.1 then j else i:=by
 unfold rpl;rw[AUM (d:=[]) hk]
theorem ANP (x:List AH) (j:AH):(x.map fun i=>if i.1=j.1 then j else i).map (·.1)=x.map (·.1):=by
 rw[VH]
 refine WB fun i _=> ?_
 simp only[ALN]
 split
 ·rename_i h;exact h.symm
 ·rfl
theorem yP (q:Rows) (j:AH):(rpl q j).flatten=q.flatten.map fun i=>if i.1=j.1 then j else i:=by
 unfold rpl;rw[List.map_flatten]
theorem OkN.rpl {q:Rows} (h:OkN q) {j:AH} (hj:∀ i∈q.flatten,i.1=j.1->i.2.1=j.2.1) (hw:1<=j.2.2.2.2):OkN (rpl q j):=by
 refine⟨fun k hk=> ?_,fun k hk i hi=> ?_, ?_⟩
 ·rw[pF] at hk
  rw[AUU hk]
  have:=h.pw k hk
  have e:∀ l:List AH,l.Pairwise (fun a b:AH=>a.1<b.1)↔(l.map (·.1)).Pairwise (·< ·):=fun l=>by rw[ALR]
  rw[e,ANP,←e];exact this
 ·rw[pF] at hk
  rw[AUU hk] at hi
  obtain⟨i',LQ,rfl⟩:=DD.1 hi
  have:=h.e k hk i' LQ
  split
  ·rename_i he
   exact⟨by rw[<-hj i' (KJ.2 ⟨k,hk,LQ⟩) he];exact this.1,hw⟩
  ·exact this
 ·rw[yP,ANP];exact h.nd
theorem ANQ {q:Rows} {j i:AH}:i∈(rpl q j).flatten↔(i∈q.flatten/\i.1≠j.1)\/(i=j/\∃ i' ∈q.flatten,i'.1=j.1):=by
 rw[yP,DD]
 constructor
 ·rintro⟨i',LQ,rfl⟩
  split
  ·rename_i h;exact .inr ⟨rfl,i',LQ,h⟩
  ·rename_i h;exact .inl ⟨LQ,h⟩
 ·rintro (⟨h1,h2⟩|⟨rfl,i',h1,h2⟩)
  ·exact⟨i,h1,by rw[AD h2]⟩
  ·exact⟨i',h1,by rw[AA h2]⟩
theorem ANR {f:AH->Int} {j:AH}:∀ {xs:List AH} {k:Nat},(xs.map f).Nodup->k<xs.length->f (gl ((0,0,0,0,0):AH) xs k)=f j->xs.set k j=xs.map fun i=>if f i=f j then j else i
 | [],k,_,h,_=>by simp at h
 |a::r,0,hd,_,hn=>by
  obtain⟨h1,h2⟩:=WD.1 hd
  have hn' :f a=f j:=hn
  rw[AR2,MN,AA hn']
  congr 1
  conv=>lhs;rw[<-List.map_id r]
  refine WB fun x hx=> ?_
  rw[AD (fun he=>h1 (by rw[hn',←he];exact DD.2 ⟨x,hx,rfl⟩))];rfl
 |a::r,k+1,hd,hk,hn=>by
  obtain⟨h1,h2⟩:=WD.1 hd
  have NW :k<r.length:=by simpa using hk
  have hn' :f (gl ((0,0,0,0,0):AH) r k)=f j:=hn
  have CU:f a≠f j:=fun he=>h1 (by rw[he,←hn'];exact DD.2 ⟨_,BN NW,rfl⟩)
  rw[List.set_cons_succ,MN,AD CU,ANR h2 NW hn']
theorem yQ {q:Rows} (hq:q.length<=1000000) (hx:∀ x∈q,x.length<=1000000) (h:OkN q) {i j:AH} (hi:i∈q.flatten) (hj:i.1=j.1) (hb:i.2.1=j.2.1):C9 q j=some (rpl q j,0):=by
 obtain⟨hr,QQ⟩:=h.row hi
 rw[hb] at hr QQ
 rcases AHS hq hx (j:=j) hr.1 hr.2 with ⟨h1,_⟩|⟨k,hk,hf,h2⟩
 ·exact absurd hj (h1 i QQ)
 ·have DO:j.2.1.toNat<q.length:=by omega
  rw[h2,ANR (f:=fun i:AH=>i.1) (AUS h.nd DO) hk hf]
  congr 2
  unfold rpl
  refine AUT (f:=fun x:List AH=>x.map fun i' =>if i'.1=j.1 then j else i') DO fun j' bH CU=> ?_
  conv=>rhs;rw[<-List.map_id (gl [] q j')]
  refine WB fun y hy=> ?_
  rw[AD]
  ·rfl
  ·intro he
   exact CU (AIA h.nd DO bH QQ hy (by rw[he,hj]))
def addr (q:Rows) (j:AH):Rows:=q.set j.2.1.toNat (gl [] q j.2.1.toNat++ [j])
theorem AIB {q:Rows} {j i:AH} (b1:j.2.1.toNat<q.length):i∈(addr q j).flatten↔i∈q.flatten\/i=j:=by
 have hg:∀ k,k<q.length->gl [] (addr q j) k=if k=j.2.1.toNat then gl [] q k++ [j] else gl [] q k:=by
  intro k hk
  unfold addr
  rw[D5 b1]
  split
  ·rename_i h;rw[h]
  ·rfl
 have hl:(addr q j).length=q.length:=by unfold addr;rw[EW]
 rw[KJ,KJ,hl]
 constructor
 ·rintro⟨k,hk,hi⟩
  rw[hg k hk] at hi
  split at hi
  ·rcases FG.1 hi with hi|hi
   ·exact .inl ⟨k,hk,hi⟩
   ·exact .inr (HA.1 hi)
  ·exact .inl ⟨k,hk,hi⟩
 ·rintro (⟨k,hk,hi⟩|rfl)
  ·refine⟨k,hk, ?_⟩
   rw[hg k hk]
   split
   ·exact AAB _ hi
   ·exact hi
  ·exact⟨_,b1,by rw[hg _ b1,AA rfl];simp⟩
theorem gC (q:Rows) (j:AH):(addr q j).length=q.length:=by unfold addr;rw[EW]
theorem OkN.addr {q:Rows} (h:OkN q) {j:AH} (b0:0<=j.2.1) (b1:j.2.1<q.length) (hw:1<=j.2.2.2.2) (hj:∀ i∈q.flatten,i.1<j.1):OkN (addr q j):=by
 have hb:j.2.1.toNat<q.length:=by omega
 have hl:(Go.Proofs.YthmiilamegpllaaGreat.addr q j).length=q.length:=gC q j
 have hg:∀ k,k<q.length->gl [] (Go.Proofs.YthmiilamegpllaaGreat.addr q j) k=if k=j.2.1.toNat then gl [] q k++ [j] else gl [] q k:=by
  intro k hk
  unfold Go.Proofs.YthmiilamegpllaaGreat.addr
  rw[D5 hb]
  split
  ·rename_i h;rw[h]
  ·rfl
 refine⟨fun k hk=> ?_,fun k hk i hi=> ?_, ?_⟩
 ·rw[hl] at hk
  rw[hg k hk]
  split
  ·rw[vP]
   refine⟨h.pw k hk,ALE _ _,fun a ha b UA => ?_⟩
   rw[HA.1 UA]
   exact hj a (KJ.2 ⟨k,hk,ha⟩)
  ·exact h.pw k hk
 ·rw[hl] at hk
  rw[hg k hk] at hi
  split at hi
  ·rename_i he
   rcases FG.1 hi with hi|hi
   ·exact h.e k hk i hi
   ·rw[HA.1 hi];exact⟨by omega,hw⟩
  ·exact h.e k hk i hi
 ·have e1:(Go.Proofs.YthmiilamegpllaaGreat.addr q j).flatten=(q.take j.2.1.toNat).flatten++((gl [] q j.2.1.toNat++ [j])++(q.drop (j.2.1.toNat+1)).flatten):=by
   rw[HF (Go.Proofs.YthmiilamegpllaaGreat.addr q j) _ (by rw[hl];exact hb),hg _ hb,AA rfl]
   unfold Go.Proofs.YthmiilamegpllaaGreat.addr
   rw[AQW (EY _),AQX (by omega)]
  have hn:=h.nd
  rw[HF q _ hb] at hn
  have hp:((q.take j.2.1.toNat).flatten++((gl [] q j.2.1.toNat++ [j])++(q.drop (j.2.1.toNat+1)).flatten)).Perm (j::((q.take j.2.1.toNat).flatten++(gl [] q j.2.1.toNat++(q.drop (j.2.1.toNat+1)).flatten))):=by
   rw[J_,ALI,←J_,←J_]
   exact List.perm_middle
  rw[e1]
  refine ((hp.map (·.1)).nodup_iff).2 ?_
  rw[MN,WD]
  refine⟨fun hm=> ?_,hn⟩
  rw[<-HF q _ hb] at hm
  obtain⟨i,hi,he⟩:=DD.1 hm
  have:=hj i hi
  omega
theorem AUV {q:Rows} (hq:q.length<=1000000) (hx:∀ x∈q,x.length<=1000000) {j:AH} (b0:0<=j.2.1) (b1:j.2.1<q.length) (hj:∀ i∈q.flatten,i.1<j.1):FU q j=some (addr q j,0):=
 AXJ hq hx b0 b1 fun i hi=>hj i (KJ.2 ⟨_,by omega,hi⟩)
end Go.Proofs.YthmiilamegpllaaGreat
namespace Go.Proofs.YthmiilamegpllaaGreat
open Go Go.V3
def Slot (s:Sp) (q:Rows) (y:Int):Prop:=∃ i∈q.flatten,∃ l os p a x j,OB s i l os p a x/\1<=j/\j<=x.1/\DY (sz s.1) l (p+j)=some y
def Rf (s:Sp) (q:Rows) (w:BitVec 64):Prop:=w=0#64\/IsO s q ((w.toNat:Int)-1)
structure HI (s:Sp) (q:Rows) (n:Int) (ss:Ss) (r:Ro):Prop where
 hb:HB s q
 seq:∀ i∈q.flatten,i.1<n
 n0:0<=n
 ref:∀ y,Slot s q y->Rf s q (gl 0#64 s.2.1 y.toNat)
 ro:aA r
 root:∀ i:Nat,i<32->gl false r.1 i=true->gl 0#64 r.2 i≠0#64/\IsO s q (((gl 0#64 r.2 i).toNat:Int)-1)
 rv:RV ss
 ins:∀ f g y,In ss f g y->Slot s q y/\f=y / sz s.1
 rem:∀ y,Slot s q y->∀ f g,Pr s y (gl 0#64 s.2.1 y.toNat) f g->In ss f g y
theorem VS.words {s:Sp} (h:VS s) {ws:List (BitVec 64)} (hl:ws.length=s.2.1.length) (hz:∀ y:Int,0<=y->y<s.2.1.length->(Go.V3.fr s.2.2 (y / sz s.1)).1= -1->gl 0#64 ws y.toNat=gl 0#64 s.2.1 y.toNat):VS (s.1,ws,s.2.2):=by
 refine⟨h.sh,h.n,by simp only;rw[hl];exact h.w,fun i i0 i1=> ?_,h.inj,h.acy⟩
 rcases h.fr i i0 i1 with ⟨h1,h2⟩|h1
 ·refine .inl ⟨h1,fun a a0 a1=> ?_⟩
  simp only at a0 a1 ⊢
  have z:=CM s.1
  have e1:(a:Int) / sz s.1=i:=by
   refine Int.le_antisymm (Int.lt_add_one_iff.1 ((AF0 z).2 a1)) ((ACA z).2 a0)
  have h3:(i+1)*sz s.1<=s.2.2.length*sz s.1:=AEV (by simp only at i1;omega) (by omega)
  have h4:=hz a (by omega) (by rw[h.w];omega) (by
   rw[e1]
   have:Go.V3.fr s.2.2 i=(-1, -1, -1):=h1
   rw[this])
  rw[HX] at h4
  rw[h4]
  exact h2 a a0 a1
 ·exact .inr h1
theorem TA.app {p:Int} {x:Int×Int}:∀ {os m:List (Int×Int)} {a:Int},TA a os p x->TA a (os++m) p x
 | [],m,a,h=>h.elim
 |o::r,m,a,h=>by
  rcases h with h|h
  ·exact .inl h
  ·exact .inr h.app
structure PQ (R:Int->Prop) (s0:Sp) (q:Rows) (n:Int) (ss:Ss) (r:Ro) (l:List AH) (CC:AH) (l0:List Int) (E_:List (Int×Int)) (t:Sp) (to:AH) (lb:List Int) (m mv:List (Int×Int)) (ys:List Int) (ws:List (BitVec 64)) (r' :Ro):Prop where
 hi:HI s0 q n ss r
 pre:∀ i∈l,∀ j∈q.flatten,j∉l->i.2.1*4294967296+i.1<j.2.1*4294967296+j.1
 tgt:CC∈q.flatten\/(CC.1=n/\CC.2.2.2.2=0/\0<=CC.2.1/\CC.2.1<q.length)
 cd:Cd s0 q l CC l0 E_
 ci:CI R s0 q l CC l0 E_ t to lb m mv mv.length 0
 yi:∀ y,y∈ys↔InF ss (yN s0 (B3 l) s0.2.2.length) y/\(0<=y/\y<s0.2.1.length)/\Wn (B3 l) s0 (gl 0#64 s0.2.1 y.toNat)
 wl:ws.length=s0.2.1.length
 w1:∀ y∈ys,Im s0 (B3 l) mv (gl 0#64 s0.2.1 y.toNat) (gl 0#64 ws y.toNat)
 w2:∀ y:Int,0<=y->y∉ys->gl 0#64 ws y.toNat=gl 0#64 t.2.1 y.toNat
 ru:r'.1=r.1
 rl:r'.2.length=r.2.length
 r1:∀ i:Nat,i<32->gl false r.1 i=true->Im s0 (B3 l) mv (gl 0#64 r.2 i) (gl 0#64 r'.2 i)
 r2:∀ i:Nat,i<32->gl false r.1 i=false->gl 0#64 r'.2 i=gl 0#64 r.2 i
structure Sin (s0:Sp) (ss:Ss) (l:List AH) (E_:List (Int×Int)) (t:Sp) (to:AH) (lb:List Int) (m mv:List (Int×Int)) (ys:List Int) (ws:List (BitVec 64)) (V9 :Ss):Prop where
 srv:RV V9
 sin:∀ f g y,In V9 f g y↔In (o_ ss (yN s0 (B3 l) s0.2.2.length)) f g y\/((y∈ys\/∃ k,k<mv.length/\∃ p x j,OB t to lb (E_++m) p (gl (0,0) mv k).2 x/\1<=j/\j<=x.1/\DY (sz s0.1) lb (p+j)=some y)/\Pr (t.1,ws,t.2.2) y (gl 0#64 ws y.toNat) f g)
def Y0 (q:Rows) (l:List AH) (CC to:AH):Rows:=if CC.2.2.2.2>0 then rpl (kU q (B3 l)) to else if to.2.2.2.2>0 then addr (kU q (B3 l)) to else kU q (B3 l)
section
variable {R:Int->Prop} {s0:Sp} {q:Rows} {n:Int} {ss:Ss} {r:Ro} {l:List AH} {CC:AH} {l0:List Int} {E_:List (Int×Int)} {t:Sp} {to:AH} {lb:List Int} {m mv:List (Int×Int)} {ys:List Int} {ws:List (BitVec 64)} {r' :Ro}
theorem PQ.kA (h:PQ R s0 q n ss r l CC l0 E_ t to lb m mv ys ws r') {i:AH} (hi:i∈q.flatten):i∉l↔i.1∉B3 l:=by
 constructor
 ·intro h1 h2
  obtain⟨j,hj,he⟩:=LH.1 h2
  rw[h.hi.hb.uniq (h.cd.sub j hj) hi he] at hj
  exact h1 hj
 ·intro h1 h2
  exact h1 (LH.2 ⟨i,h2,rfl⟩)
theorem PQ.mem (h:PQ R s0 q n ss r l CC l0 E_ t to lb m mv ys ws r') {i:AH}:i∈(Y0 q l CC to).flatten↔(i∈q.flatten/\i∉l/\i.1≠CC.1)\/(i=to/\0<to.2.2.2.2):=by
 have AL0:=h.ci.seq
 have yR:=h.ci.j9
 have hwd:=h.ci.wd
 unfold Y0
 by_cases h1:CC.2.2.2.2>0
 ·rw[AA h1,ANQ]
  have ht:CC∈q.flatten:=by
   rcases h.tgt with ht|ht
   ·exact ht
   ·omega
  rw[AL0]
  constructor
  ·rintro (⟨h2,h3⟩|⟨rfl,_⟩)
   ·obtain⟨h4,h5⟩:=OZ.1 h2
    exact .inl ⟨h4,(h.kA h4).2 h5,h3⟩
   ·exact .inr ⟨rfl,by omega⟩
  ·rintro (⟨h2,h3,h4⟩|⟨rfl,h2⟩)
   ·exact .inl ⟨OZ.2 ⟨h2,(h.kA h2).1 h3⟩,h4⟩
   ·exact .inr ⟨rfl,CC,OZ.2 ⟨ht,h.cd.out⟩,rfl⟩
 ·have XU:∀ i∈q.flatten,i.1≠CC.1:=by
   intro i hi he
   rcases h.tgt with ht|ht
   ·have:=(h.hi.hb.fit ht).2;omega
   ·have:=h.hi.seq i hi;omega
  rw[AD h1]
  by_cases h2:to.2.2.2.2>0
  ·rw[AA h2,AIB]
   ·constructor
    ·rintro (h3|rfl)
     ·obtain⟨h4,h5⟩:=OZ.1 h3
      exact .inl ⟨h4,(h.kA h4).2 h5,XU i h4⟩
     ·exact .inr ⟨rfl,h2⟩
    ·rintro (⟨h3,h4,_⟩|⟨rfl,_⟩)
     ·exact .inl (OZ.2 ⟨h3,(h.kA h3).1 h4⟩)
     ·exact .inr rfl
   ·rw[OY,yR]
    rcases h.tgt with ht|ht
    ·have:=(h.hi.hb.fit ht).2;omega
    ·omega
  ·rw[AD h2,OZ]
   constructor
   ·rintro⟨h4,h5⟩
    exact .inl ⟨h4,(h.kA h4).2 h5,XU i h4⟩
   ·rintro (⟨h3,h4,_⟩|⟨rfl,h3⟩)
    ·exact⟨h3,(h.kA h3).1 h4⟩
    ·omega
theorem PQ.ysl (h:PQ R s0 q n ss r l CC l0 E_ t to lb m mv ys ws r') {y:Int} (hy:y∈ys):∃ i∈q.flatten,i∉l/\∃ la os p a x j,OB s0 i la os p a x/\1<=j/\j<=x.1/\DY (sz s0.1) la (p+j)=some y:=by
 obtain⟨⟨f,g,h1,h2,h3⟩,_,_⟩:=(h.yi y).1 hy
 obtain⟨⟨i,hi,la,os,p,a,x,j,o,j1,j2,ha⟩,hf⟩:=h.hi.ins f g y h1
 refine⟨i,hi, ?_,la,os,p,a,x,j,o,j1,j2,ha⟩
 rw[h.kA hi]
 intro hC
 have hr:=D0 h.hi.hb.bv.vs (h.hi.hb.fit hi).1 o.has (by have:=o.IZ;omega) ha
 exact h3 (aC.2 ⟨by rw[hf];exact hr.2.2.1,by rw[hf,hr.2.2.2.1];exact hC⟩)
theorem PQ.frt (h:PQ R s0 q n ss r l CC l0 E_ t to lb m mv ys ws r') {x:Int} (x0:0<=x) (x1:x<s0.2.2.length) (h1:(fr s0.2.2 x).1≠-1):(fr t.2.2 x).1=(fr s0.2.2 x).1:=by
 by_cases h2:(fr s0.2.2 x).1=CC.1
 ·rw[h.ci.qS x x0 x1 h2,h2]
 ·rw[h.ci.aT x x0 x1 h1 h2]
theorem PQ.vsT (h:PQ R s0 q n ss r l CC l0 E_ t to lb m mv ys ws r'):VS (t.1,ws,t.2.2):=by
 refine VS.words h.ci.cy.vs (by rw[h.wl,h.ci.wl]) fun y y0 y1 hf=>h.w2 y y0 fun hy=> ?_
 obtain⟨i,hi,_,la,os,p,a,x,j,o,j1,j2,ha⟩:=h.ysl hy
 have hr:=D0 h.hi.hb.bv.vs (h.hi.hb.fit hi).1 o.has (by have:=o.IZ;omega) ha
 have hi0:=(h.hi.hb.fit hi).1.1.1
 have:=h.frt hr.2.2.1.1 hr.2.2.1.2 (by rw[hr.2.2.2.1];omega)
 rw[h.ci.sh] at hf
 rw[hf,hr.2.2.2.1] at this
 omega
def OE (t:Sp) (ws:List (BitVec 64)) (l:List AH):Sp:=gvs (t.1,ws,t.2.2) (B3 l)
theorem PQ.aft (h:PQ R s0 q n ss r l CC l0 E_ t to lb m mv ys ws r'):VS (OE t ws l)/\(OE t ws l).1=s0.1/\(OE t ws l).2.1.length=s0.2.1.length/\(OE t ws l).2.2.length=s0.2.2.length∧
  (∀ x:Int,0<=x->x<s0.2.2.length->fr (OE t ws l).2.2 x=if (fr t.2.2 x).1∈B3 l then (-1, -1, -1) else fr t.2.2 x)∧
  (∀ y:Int,0<=y->y<s0.2.1.length->gl 0#64 (OE t ws l).2.1 y.toNat=if (fr t.2.2 (y / sz s0.1)).1∈B3 l then 0#64 else gl 0#64 ws y.toNat):=by
 obtain⟨h1,h2,h3,h4,h5,h6⟩:=AKZ (C:=B3 l) h.vsT h.cd.nn
 simp only at h2 h3 h4 h5 h6
 have hz:sz t.1=sz s0.1:=by rw[h.ci.sh]
 rw[hz] at h6
 rw[h.wl] at h3 h6
 rw[h.ci.fl] at h4 h5
 exact⟨h1,h2.trans h.ci.sh,h3,h4,h5,h6⟩
theorem PQ.smO (h:PQ R s0 q n ss r l CC l0 E_ t to lb m mv ys ws r') {i:AH} (hi:i∈q.flatten) (hl:i∉l) (CU:i.1≠CC.1):Sm s0 (OE t ws l) i.1:=by
 obtain⟨h1,h2,h3,h4,h5,h6⟩:=h.aft
 have hi0:=(h.hi.hb.fit hi).1.1.1
 have hC:=(h.kA hi).1 hl
 refine⟨h2,h3,h4,fun x x0 x1 hh=> ?_⟩
 have e5:=h5 x x0 x1
 rcases hh with hh|hh
 ·have e1:=h.ci.aT x x0 x1 (by rw[hh];omega) (by rw[hh];exact CU)
  rw[e5,AD (by rw[e1,hh];exact hC),e1]
 ·rw[e5] at hh ⊢
  split at hh
  ·simp only at hh;omega
  ·rename_i h7
   rw[AD h7]
   exact h.ci.fr1 x x0 x1 (by rw[hh];exact CU)
theorem PQ.smT (h:PQ R s0 q n ss r l CC l0 E_ t to lb m mv ys ws r'):Sm t (OE t ws l) to.1:=by
 obtain⟨h1,h2,h3,h4,h5,h6⟩:=h.aft
 have hi0:=h.ci.cy.fit.1.1
 refine⟨by rw[h2,h.ci.sh],by rw[h3,h.ci.wl],by rw[h4,h.ci.fl],fun x x0 x1 hh=> ?_⟩
 rw[h.ci.fl] at x1
 have e5:=h5 x x0 x1
 rcases hh with hh|hh
 ·rw[e5,AD (by rw[hh];exact h.ci.cy.out)]
 ·rw[e5] at hh ⊢
  split at hh
  ·simp only at hh;omega
  ·rename_i h7
   rw[AD h7]
theorem PQ.wO (h:PQ R s0 q n ss r l CC l0 E_ t to lb m mv ys ws r') {i:AH} (hi:i∈q.flatten) (hl:i∉l) {la:List Int} (hla:Has s0 i la) {p y:Int} (p0:0<=p) (p1:p<i.2.2.2.2) (hy:DY (sz s0.1) la p=some y) (hny:y∉ys):
  gl 0#64 (OE t ws l).2.1 y.toNat=gl 0#64 s0.2.1 y.toNat:=by
 obtain⟨h1,h2,h3,h4,h5,h6⟩:=h.aft
 have hf:=h.hi.hb.fit hi
 have hr:=D0 h.hi.hb.bv.vs hf.1 hla p0 hy
 have hC:=(h.kA hi).1 hl
 have hi0:=hf.1.1.1
 have ho:=h.frt hr.2.2.1.1 hr.2.2.1.2 (by rw[hr.2.2.2.1];omega)
 rw[hr.2.2.2.1] at ho
 rw[h6 y hr.1.1 hr.1.2,AD (by rw[ho];exact hC),h.w2 y hr.1.1 hny]
 by_cases CU:i.1=CC.1
 ·rcases h.tgt with ht|ht
  ·obtain rfl:=h.hi.hb.uniq hi ht CU
   obtain rfl:=T7 hla h.cd.has
   exact h.ci.wd3 p y p0 p1 hy
  ·have:=h.hi.seq i hi;omega
 ·refine h.ci.wd1 y hr.1.1 hr.1.2 (by rw[hr.2.2.2.1];omega) (by rw[hr.2.2.2.1];exact CU) fun hm=> ?_
  obtain⟨z',hz,he⟩:=DD.1 hm
  obtain⟨k,hk,rfl⟩:=HD (d:=((0,0):Int×Int)) hz
  obtain⟨i',la',oa',pa',p',cc⟩:=h.ci.cop k hk
  have h7:=h.cd.XR cc.inl cc.src.has cc.src.IZ.2.2.1 cc.src.J9
  rw[he] at h7
  rw[h7.2.2.1] at hr
  exact hC (by rw[<-hr.2.2.2.1];exact h7.2.2.2.1)
theorem PQ.head (h:PQ R s0 q n ss r l CC l0 E_ t to lb m mv ys ws r') {i:AH} (hi:i∈q.flatten) {la:List Int} {os:List (Int×Int)} {p a:Int} {x:Int×Int} (o:OB s0 i la os p a x):a∉ys:=by
 intro hy
 obtain⟨i',LQ,_,la',tB,p',a',x',j,o',j1,j2,ha⟩:=h.ysl hy
 have r1:=o.IZ
 have r2:=o'.IZ
 have c1:=D0 h.hi.hb.bv.vs (h.hi.hb.fit hi).1 o.has r1.2.2.1 o.J9
 have c2:=D0 h.hi.hb.bv.vs (h.hi.hb.fit LQ).1 o'.has (by omega) ha
 obtain rfl:=h.hi.hb.uniq hi LQ (by rw[<-c1.2.2.2.1,←c2.2.2.2.1])
 obtain⟨rfl,rfl⟩:=LA o.has o.TT o'
 have:=K_ (CM s0.1) (gA o.has) r1.2.2.1 (by omega) o.J9 ha
 rcases o.TT.apart o.ta o'.ta with ⟨h3,_⟩|h3|h3 <;> omega
theorem PQ.obO (h:PQ R s0 q n ss r l CC l0 E_ t to lb m mv ys ws r') {i:AH} (hi:i∈q.flatten) (hl:i∉l) (CU:i.1≠CC.1) {la:List Int} {os:List (Int×Int)} (hla:Has s0 i la) (htl:EB (sz s0.1) s0.2.1 la 0 os i.2.2.2.2) {p a:Int} {x:Int×Int}:
  OB s0 i la os p a x↔OB (OE t ws l) i la os p a x:=by
 have hs:=h.smO hi hl CU
 have hv:=h.hi.hb.bv.vs
 have hf:=(h.hi.hb.fit hi).1
 have hw:∀ p x a,TA 0 os p x->DY (sz s0.1) la p=some a->gl 0#64 (OE t ws l).2.1 a.toNat=gl 0#64 s0.2.1 a.toNat:=by
  intro p x a hp ha
  have ho:OB s0 i la os p a x:=⟨hla,htl,hp,ha⟩
  have hr:=ho.IZ
  exact h.wO hi hl hla hr.2.2.1 (by omega) ha (h.head hi ho)
 constructor
 ·exact fun o=>hs.ob hv hf hw o
 ·intro o
  exact⟨hla,htl,o.ta,by have:=o.J9;rw[hs.sh] at this;exact this⟩
theorem PQ.wT (h:PQ R s0 q n ss r l CC l0 E_ t to lb m mv ys ws r') {p y:Int} (p0:0<=p) (hy:DY (sz s0.1) lb p=some y):(0<=y/\y<s0.2.1.length)/\gl 0#64 (OE t ws l).2.1 y.toNat=gl 0#64 ws y.toNat:=by
 obtain⟨h1,h2,h3,h4,h5,h6⟩:=h.aft
 have hr:=D0 h.ci.cy.vs h.ci.cy.fit h.ci.has p0 (by rw[h.ci.sh];exact hy)
 rw[h.ci.sh,h.ci.wl] at hr
 exact⟨hr.1,by rw[h6 y hr.1.1 hr.1.2,AD (by rw[hr.2.2.2.1];exact h.ci.cy.out)]⟩
theorem PQ.yT (h:PQ R s0 q n ss r l CC l0 E_ t to lb m mv ys ws r') {p y:Int} (p0:0<=p) (hy:DY (sz s0.1) lb p=some y) (hm:y∈ys):CC∈q.flatten/\∃ p' a x j,OB s0 CC l0 E_ p' a x/\1<=j/\j<=x.1/\p=p' +j:=by
 obtain⟨i',LQ,hl',la',tB,p',a',x',j,o',j1,j2,ha⟩:=h.ysl hm
 have r2:=o'.IZ
 have hf:=(h.hi.hb.fit LQ).1
 have c2:=D0 h.hi.hb.bv.vs hf o'.has (by omega) ha
 have hr:=D0 h.ci.cy.vs h.ci.cy.fit h.ci.has p0 (by rw[h.ci.sh];exact hy)
 rw[h.ci.sh] at hr
 have ho:=h.frt c2.2.2.1.1 c2.2.2.1.2 (by rw[c2.2.2.2.1];have:=hf.1.1;omega)
 rw[c2.2.2.2.1,hr.2.2.2.1,h.ci.seq] at ho
 rcases h.tgt with ht|ht
 ·obtain rfl:=h.hi.hb.uniq ht LQ ho
  obtain⟨rfl,rfl⟩:=LA h.cd.has h.cd.TT o'
  obtain⟨r0,hr0⟩:=h.ci.pre
  have h7:DY (sz s0.1) lb (p' +j)=some y:=by rw[hr0];exact C5 ha
  exact⟨ht,p',a',x',j,o',j1,j2,K_ (CM s0.1) (gA h.ci.has) p0 (by omega) hy h7⟩
 ·have:=h.hi.seq i' LQ;omega
theorem PQ.AUW (h:PQ R s0 q n ss r l CC l0 E_ t to lb m mv ys ws r') {p a:Int} {x:Int×Int} (hp:TA 0 (E_++m) p x) (ha:DY (sz s0.1) lb p=some a):gl 0#64 (OE t ws l).2.1 a.toNat=gl 0#64 t.2.1 a.toNat:=by
 have hr:=h.ci.TT.ta hp
 obtain⟨h1,h2⟩:=h.wT hr.2.2.1 ha
 rw[h2]
 refine h.w2 a h1.1 fun hm=> ?_
 obtain⟨_,p',a',x',j,o',j1,j2,he⟩:=h.yT hr.2.2.1 ha hm
 have:=o'.IZ
 rcases h.ci.TT.apart hp (TA.app (m:=m) o'.ta) with ⟨h3,_⟩|h3|h3 <;> omega
theorem PQ.obT (h:PQ R s0 q n ss r l CC l0 E_ t to lb m mv ys ws r') {p a:Int} {x:Int×Int}:OB t to lb (E_++m) p a x↔OB (OE t ws l) to lb (E_++m) p a x:=by
 have hs:=h.smT
 have hz:sz t.1=sz s0.1:=by rw[h.ci.sh]
 constructor
 ·exact fun o=>hs.ob h.ci.cy.vs h.ci.cy.fit (fun p x a hp ha=>h.AUW hp (by rw[<-hz];exact ha)) o
 ·intro o
  exact⟨h.ci.has,by rw[hz];exact h.ci.TT,o.ta,by have:=o.J9;rw[hs.sh] at this;exact this⟩
end
end Go.Proofs.YthmiilamegpllaaGreat
namespace Go.Proofs.YthmiilamegpllaaGreat
open Go Go.V3
section
variable {R:Int->Prop} {s0:Sp} {q:Rows} {n:Int} {ss:Ss} {r:Ro} {l:List AH} {CC:AH} {l0:List Int} {E_:List (Int×Int)} {t:Sp} {to:AH} {lb:List Int} {m mv:List (Int×Int)} {ys:List Int} {ws:List (BitVec 64)} {r' :Ro}
theorem PQ.okN (h:PQ R s0 q n ss r l CC l0 E_ t to lb m mv ys ws r'):OkN (Y0 q l CC to)/\(Y0 q l CC to).length=q.length:=by
 have hq:=(F_.1 h.hi.hb.bv.ok).1
 have hr:=hq.kU (B3 l)
 have AL0:=h.ci.seq
 have yR:=h.ci.j9
 have hwd:=h.ci.wd
 unfold Y0
 by_cases h1:CC.2.2.2.2>0
 ·rw[AA h1,pF,OY]
  refine⟨hr.rpl (fun i hi he=> ?_) (by omega),rfl⟩
  have ht:CC∈q.flatten:=by
   rcases h.tgt with ht|ht
   ·exact ht
   ·omega
  rw[AL0] at he
  rw[h.hi.hb.uniq (OZ.1 hi).1 ht he,yR]
 ·rw[AD h1]
  by_cases h2:to.2.2.2.2>0
  ·rw[AA h2,gC,OY]
   rcases h.tgt with ht|ht
   ·have:=(h.hi.hb.fit ht).2;omega
   ·refine⟨hr.addr (by omega) (by rw[OY];omega) (by omega) fun i hi=> ?_,rfl⟩
    have:=h.hi.seq i (OZ.1 hi).1
    omega
  ·rw[AD h2,OY];exact⟨hr,rfl⟩
theorem PQ.A23 (h:PQ R s0 q n ss r l CC l0 E_ t to lb m mv ys ws r') {p a:Int} {x:Int×Int} (o:OB s0 CC l0 E_ p a x):OB t to lb (E_++m) p a x:=by
 obtain⟨r0,hr0⟩:=h.ci.pre
 have hz:sz t.1=sz s0.1:=by rw[h.ci.sh]
 exact⟨h.ci.has,by rw[hz];exact h.ci.TT,TA.app o.ta,by rw[hz,hr0];exact C5 o.J9⟩
theorem PQ.AXV (h:PQ R s0 q n ss r l CC l0 E_ t to lb m mv ys ws r') {i:AH} (hi:i∈q.flatten) (he:i.1=CC.1):i=CC/\CC∈q.flatten:=by
 rcases h.tgt with ht|ht
 ·exact⟨h.hi.hb.uniq hi ht he,ht⟩
 ·have:=h.hi.seq i hi;omega
theorem PQ.AXW (h:PQ R s0 q n ss r l CC l0 E_ t to lb m mv ys ws r') {lc:List Int} {os:List (Int×Int)} {p a:Int} {x:Int×Int} (o:OB t to lc os p a x):to∈(Y0 q l CC to).flatten:=by
 have:=o.IZ
 exact h.mem.2 (.inr ⟨rfl,by omega⟩)
theorem PQ.CK (h:PQ R s0 q n ss r l CC l0 E_ t to lb m mv ys ws r') {k:AH} (hk:k∈q.flatten) (hkl:k∉l) {p a:Int} {x:Int×Int} (o:Obj s0 k p a x):IsO (OE t ws l) (Y0 q l CC to) a:=by
 obtain⟨la,os,o⟩:=o
 by_cases CU:k.1=CC.1
 ·obtain⟨rfl,ht⟩:=h.AXV hk CU
  obtain⟨rfl,rfl⟩:=LA h.cd.has h.cd.TT o
  have o2:=h.A23 o
  exact⟨to,h.AXW o2,p,x,_,_,h.obT.1 o2⟩
 ·exact⟨k,h.mem.2 (.inl ⟨hk,hkl,CU⟩),p,x,la,os,(h.obO hk hkl CU o.has o.TT).1 o⟩
theorem PQ.new (h:PQ R s0 q n ss r l CC l0 E_ t to lb m mv ys ws r') {a b:Int} (hm:(a,b)∈mv):IsO (OE t ws l) (Y0 q l CC to) b/\0<=b/\b<=16383:=by
 obtain⟨k,hk,PW⟩:=HD (d:=((0,0):Int×Int)) hm
 obtain⟨i',la',oa',pa',p',cc⟩:=h.ci.cop k hk
 have o:=cc.dst
 rw[PW] at o
 have hr:=D0 h.ci.cy.vs h.ci.cy.fit h.ci.has o.IZ.2.2.1 o.J9
 have:=VS.PO h.ci.cy.vs
 exact⟨⟨to,h.AXW o,_,_,_,_,h.obT.1 o⟩,by omega,by omega⟩
theorem PQ.im (h:PQ R s0 q n ss r l CC l0 E_ t to lb m mv ys ws r') {w v:BitVec 64} (hw:Rf s0 q w) (hi:Im s0 (B3 l) mv w v):(v=0#64↔w=0#64)/\Rf (OE t ws l) (Y0 q l CC to) v:=by
 rcases hi with ⟨h1,rfl⟩|⟨h1,b,h2,rfl⟩
 ·refine⟨m9, ?_⟩
  rcases hw with hw|⟨k,hk,p,x,o⟩
  ·exact .inl hw
  ·by_cases h0:v=0#64
   ·exact .inl h0
   refine .inr (h.CK hk (fun hkl=>h1 ?_) o)
   have hr:=o.J9 h.hi.hb.bv.vs (h.hi.hb.fit hk).1
   exact⟨h0,by omega,by rw[hr.2.2.1];exact LH.2 ⟨k,hkl,rfl⟩⟩
 ·obtain⟨h3,b0,b1⟩:=h.new h2
  have e:(BitVec.ofInt 64 b+1#64).toNat=b.toNat+1:=by
   rw[BitVec.toNat_add,vK]
   have:(1#64).toNat=1:=rfl
   omega
  refine⟨⟨fun h0=> ?_,fun h0=>absurd h0 h1.1⟩,.inr ?_⟩
  ·rw[h0] at e
   have:(0#64).toNat=0:=rfl
   omega
  ·rw[e,show (((b.toNat+1:Nat):Int))-1=b by omega]
   exact h3
theorem PQ.A4W (h:PQ R s0 q n ss r l CC l0 E_ t to lb m mv ys ws r') {i:AH} (hi:i∈q.flatten) (hl:i∉l) {la:List Int} {os:List (Int×Int)} {p a j y:Int} {x:Int×Int} (o:OB s0 i la os p a x) (j1:1<=j) (j2:j<=x.1) (hy:DY (sz s0.1) la (p+j)=some y) (hw:Wn (B3 l) s0 (gl 0#64 s0.2.1 y.toNat)):y∈ys:=by
 have hv:=h.hi.hb.bv.vs
 have hf:=(h.hi.hb.fit hi).1
 have hr:=D0 hv hf o.has (by have:=o.IZ;omega) hy
 have QO:Slot s0 q y:=⟨i,hi,la,os,p,a,x,j,o,j1,j2,hy⟩
 have hC:=(h.kA hi).1 hl
 rcases h.hi.ref y QO with h0|⟨k,hk,p',x',o'⟩
 ·exact absurd h0 hw.1
 have g_ :=o'.J9 hv (h.hi.hb.fit hk).1
 have hkC:k.1∈B3 l:=by rw[<-g_.2.2.1];exact hw.2.2
 have hkl:k∈l:=AC9 fun hn=>(h.kA hk).1 hn hkC
 have hi0:=hf.1.1
 have hk0:=(h.hi.hb.fit hk).1.1.1
 have DO:=h.pre k hkl i hi hl
 have hp:Pr s0 y (gl 0#64 s0.2.1 y.toNat) (y / sz s0.1) ((((gl 0#64 s0.2.1 y.toNat).toNat:Int)-1) / sz s0.1):=
  ⟨hw.1,hw.2.1,rfl,rfl,by rw[hr.2.2.2.1];omega,by rw[g_.2.2.1];omega,by rw[hr.2.2.2.2,g_.2.2.2];exact DO⟩
 exact (h.yi y).2 ⟨⟨_,_,h.hi.rem y QO _ _ hp,aC.2 ⟨g_.2.1,hw.2.2⟩,fun hm=>hC (by rw[<-hr.2.2.2.1];exact (aC.1 hm).2)⟩,hr.1,hw⟩
theorem PQ.AZL (h:PQ R s0 q n ss r l CC l0 E_ t to lb m mv ys ws r') {i:AH} (hi:i∈q.flatten) (hl:i∉l) {la:List Int} {os:List (Int×Int)} {p a j y:Int} {x:Int×Int} (o:OB s0 i la os p a x) (j1:1<=j) (j2:j<=x.1) (hy:DY (sz s0.1) la (p+j)=some y):Slot (OE t ws l) (Y0 q l CC to) y:=by
 have uK:sz (OE t ws l).1=sz s0.1:=by rw[h.aft.2.1]
 by_cases CU:i.1=CC.1
 ·obtain⟨rfl,ht⟩:=h.AXV hi CU
  obtain⟨rfl,rfl⟩:=LA h.cd.has h.cd.TT o
  have o2:=h.A23 o
  obtain⟨r0,hr0⟩:=h.ci.pre
  exact⟨to,h.AXW o2,lb,_,p,a,x,j,h.obT.1 o2,j1,j2,by rw[uK,hr0];exact C5 hy⟩
 ·exact⟨i,h.mem.2 (.inl ⟨hi,hl,CU⟩),la,os,p,a,x,j,(h.obO hi hl CU o.has o.TT).1 o,j1,j2,by rw[uK];exact hy⟩
theorem PQ.AC0 (h:PQ R s0 q n ss r l CC l0 E_ t to lb m mv ys ws r') {y:Int} (hy:Slot (OE t ws l) (Y0 q l CC to) y):
  (∃ i∈q.flatten,i∉l/\∃ la os p a x j,OB s0 i la os p a x/\1<=j/\j<=x.1/\DY (sz s0.1) la (p+j)=some y)∨
  (y∉ys/\(∃ k,k<mv.length/\∃ p x j,OB t to lb (E_++m) p (gl (0,0) mv k).2 x/\1<=j/\j<=x.1/\DY (sz s0.1) lb (p+j)=some y)/\∃ ya,Slot s0 q ya/\Im s0 (B3 l) mv (gl 0#64 s0.2.1 ya.toNat) (gl 0#64 t.2.1 y.toNat)):=by
 have uK:sz (OE t ws l).1=sz s0.1:=by rw[h.aft.2.1]
 have hz:sz t.1=sz s0.1:=by rw[h.ci.sh]
 obtain⟨i,hi,la,os,p,a,x,j,o,j1,j2,ha⟩:=hy
 rw[uK] at ha
 rcases h.mem.1 hi with ⟨hi,hl,CU⟩|⟨rfl,hw⟩
 ·obtain⟨os1,la1,AIC,AQ6⟩:=h.hi.hb.full i hi
  have hs:=h.smO hi hl CU
  have hf:=(h.hi.hb.fit hi).1
  have htS:EB (sz (OE t ws l).1) (OE t ws l).2.1 la1 0 os1 i.2.2.2.2:=hs.AI8 AQ6 fun p x a hp ha=>by
   have o1:OB s0 i la1 os1 p a x:=⟨AIC,AQ6,hp,ha⟩
   have hr:=o1.IZ
   exact h.wO hi hl AIC hr.2.2.1 (by omega) ha (h.head hi o1)
  obtain⟨rfl,rfl⟩:=LA (hs.has h.hi.hb.bv.vs hf AIC) htS o
  exact .inl ⟨i,hi,hl,la,os,p,a,x,j,(h.obO hi hl CU AIC AQ6).2 o,j1,j2,ha⟩
 ·have hs:=h.smT
  have htS:EB (sz (OE t ws l).1) (OE t ws l).2.1 lb 0 (E_++m) i.2.2.2.2:=hs.AI8 (by rw[hz];exact h.ci.TT) fun p x a hp ha=>h.AUW hp (by rw[<-hz];exact ha)
  obtain⟨rfl,rfl⟩:=LA (hs.has h.ci.cy.vs h.ci.cy.fit h.ci.has) htS o
  have ot:=h.obT.2 o
  have hro:=ot.IZ
  rcases h.ci.cov p x ot.ta with h1|⟨h1,k,hk,h2⟩
  ·have h3:=h.cd.TT.ta h1
   have ht:CC∈q.flatten:=by
    rcases h.tgt with ht|ht
    ·exact ht
    ·omega
   obtain⟨y1,hy1⟩:=AKY h.hi.hb.bv.vs h.cd.fit h.cd.has (p:=p+j) (by omega) (by omega)
   obtain⟨a1,ha1,_⟩:=h3.2.1
   obtain⟨r0,hr0⟩:=h.ci.pre
   have h4:DY (sz s0.1) la (p+j)=some y1:=by rw[hr0];exact C5 hy1
   rw[ha] at h4
   obtain rfl:=XW h4
   have hl:CC∉l:=(h.kA ht).2 h.cd.out
   exact .inl ⟨CC,ht,hl,l0,E_,p,a1,x,j,⟨h.cd.has,h.cd.TT,h1,ha1⟩,j1,j2,hy1⟩
  ·have hab:a=(gl (0,0) mv k).2:=by
    have h3:=ot.J9
    rw[hz,h2] at h3
    exact (XW h3).symm
   subst hab
   refine .inr ⟨fun hm=> ?_,⟨k,hk,p,x,j,ot,j1,j2,ha⟩, ?_⟩
   ·obtain⟨_,p',a',x',j',o',k1,k2,he⟩:=h.yT (by omega) ha hm
    have:=o'.IZ
    omega
   ·obtain⟨i',la',oa',pa',p',cc⟩:=h.ci.cop k hk
    obtain rfl:p' =p:=h.ci.same cc hro.2.2.1 h2
    have hx:gl (0,0) m k=x:=by
     rcases h.ci.TT.apart cc.dst.ta ot.ta with ⟨_,h4⟩|h4|h4
     ·exact h4
     ·have:=cc.dst.IZ;omega
     ·omega
    rw[hx] at cc
    have hrs:=cc.src.IZ
    obtain⟨ya,hya⟩:=cc.src.fld h.hi.hb.bv.vs (h.hi.hb.fit (h.cd.sub _ cc.inl)).1 (k:=j) (by omega) (by omega)
    exact⟨ya,⟨i',h.cd.sub _ cc.inl,la',oa',pa',_,x,j,cc.src,j1,j2,hya⟩,(cc.wds j j1 (by omega) ya y hya ha).1 ⟨j2,.inl hk⟩⟩
theorem PQ.word (h:PQ R s0 q n ss r l CC l0 E_ t to lb m mv ys ws r') {y:Int} (hy:Slot (OE t ws l) (Y0 q l CC to) y):(0<=y/\y<s0.2.1.length)/\gl 0#64 (OE t ws l).2.1 y.toNat=gl 0#64 ws y.toNat:=by
 obtain⟨h1,h2,h3,h4,h5,h6⟩:=h.aft
 rcases h.AC0 hy with ⟨i,hi,hl,la,os,p,a,x,j,o,j1,j2,ha⟩|⟨_,⟨k,hk,p,x,j,o,j1,j2,ha⟩,_⟩
 ·have hf:=h.hi.hb.fit hi
  have hr:=D0 h.hi.hb.bv.vs hf.1 o.has (by have:=o.IZ;omega) ha
  have ho:=h.frt hr.2.2.1.1 hr.2.2.1.2 (by rw[hr.2.2.2.1];have:=hf.1.1;omega)
  rw[hr.2.2.2.1] at ho
  exact⟨hr.1,by rw[h6 y hr.1.1 hr.1.2,AD (by rw[ho];exact (h.kA hi).1 hl)]⟩
 ·exact h.wT (by have:=o.IZ;omega) ha
theorem PQ.hb (h:PQ R s0 q n ss r l CC l0 E_ t to lb m mv ys ws r'):HB (OE t ws l) (Y0 q l CC to):=by
 obtain⟨h1,h2,h3,h4,h5,h6⟩:=h.aft
 obtain⟨k1,k2⟩:=h.okN
 have hz:sz t.1=sz s0.1:=by rw[h.ci.sh]
 refine⟨⟨h1,by rw[k2];exact h.hi.hb.bv.n,F_.2 ⟨k1,fun i hi=> ?_⟩,fun x x0 x1 hx=> ?_⟩,fun i hi=> ?_⟩
 ·rcases h.mem.1 hi with ⟨hi,hl,CU⟩|⟨rfl,_⟩
  ·exact (h.smO hi hl CU).fit h.hi.hb.bv.vs (h.hi.hb.fit hi).1
  ·exact h.smT.fit h.ci.cy.vs h.ci.cy.fit
 ·rw[h4] at x1
  rw[h5 x x0 x1] at hx ⊢
  split at hx
  ·exact absurd rfl hx
  ·rename_i hC
   rw[AD hC]
   by_cases he:(fr t.2.2 x).1=CC.1
   ·have hw:0<to.2.2.2.2:=by
     have:=h.ci.cy.fit.1
     by_cases hw:to.2.2.2.2=0
     ·have hm:x∈owned t.2.2 to.1:=CB.2 ⟨⟨x0,by rw[h.ci.fl];exact x1⟩,by rw[he,h.ci.seq]⟩
      rw[h.ci.cy.own hw] at hm
      cases hm
     ·omega
    exact DD.2 ⟨to,h.mem.2 (.inr ⟨rfl,hw⟩),by rw[he,h.ci.seq]⟩
   ·have e1:=h.ci.fr1 x x0 x1 he
    rw[e1] at hx hC he ⊢
    obtain⟨i,hi,hie⟩:=DD.1 (h.hi.hb.bv.cov x x0 x1 hx)
    refine DD.2 ⟨i,h.mem.2 (.inl ⟨hi, ?_,by rw[hie];exact he⟩),hie⟩
    rw[h.kA hi,hie];exact hC
 ·rcases h.mem.1 hi with ⟨hi,hl,CU⟩|⟨rfl,_⟩
  ·obtain⟨os1,la1,AIC,AQ6⟩:=h.hi.hb.full i hi
   have hs:=h.smO hi hl CU
   refine⟨os1,la1,hs.has h.hi.hb.bv.vs (h.hi.hb.fit hi).1 AIC,hs.AI8 AQ6 fun p x a hp ha=> ?_⟩
   have o1:OB s0 i la1 os1 p a x:=⟨AIC,AQ6,hp,ha⟩
   have hr:=o1.IZ
   exact h.wO hi hl AIC hr.2.2.1 (by omega) ha (h.head hi o1)
  ·exact⟨_,lb,h.smT.has h.ci.cy.vs h.ci.cy.fit h.ci.has,h.smT.AI8 (by rw[hz];exact h.ci.TT) fun p x a hp ha=>h.AUW hp (by rw[<-hz];exact ha)⟩
def AA4 (n:Int) (CC to:AH):Int:=if CC.2.2.2.2>0 then n else if to.2.2.2.2>0 then n+1 else n
theorem AEN (n:Int) (CC to:AH):n<=AA4 n CC to/\AA4 n CC to<=n+1:=by
 unfold AA4
 split
 ·omega
 ·split <;> omega
theorem PQ.done (h:PQ R s0 q n ss r l CC l0 E_ t to lb m mv ys ws r') {V9 :Ss} (hS:Sin s0 ss l E_ t to lb m mv ys ws V9):HI (OE t ws l) (Y0 q l CC to) (AA4 n CC to) V9 r' :=by
 obtain⟨h1,h2,h3,h4,h5,h6⟩:=h.aft
 have hv:=h.hi.hb.bv.vs
 have hnl:=AEN n CC to
 have hz:sz t.1=sz s0.1:=by rw[h.ci.sh]
 have uK:sz (OE t ws l).1=sz s0.1:=by rw[h2]
 refine { hb:=h.hb,seq:=fun i hi=> ?_,n0:=by have:=h.hi.n0;omega,ref:=fun y hy=> ?_,ro:= ?_,root:=fun i hi hu=> ?_,rv:=hS.srv,ins:=fun f g y OU=> ?_,rem:=fun y hy f g hp=> ?_ }
 ·rcases h.mem.1 hi with ⟨hi,hl,CU⟩|⟨rfl,hw⟩
  ·have:=h.hi.seq i hi;omega
  ·rw[h.ci.seq]
   rcases h.tgt with ht|ht
   ·have:=h.hi.seq CC ht;omega
   ·unfold AA4
    rw[AD (by omega),AA (by omega)];omega
 ·obtain⟨hyr,hw⟩:=h.word hy
  rw[hw]
  rcases h.AC0 hy with ⟨i,hi,hl,la,os,p,a,x,j,o,j1,j2,ha⟩|⟨hny,_,ya,hya,him⟩
  ·have QO:Slot s0 q y:=⟨i,hi,la,os,p,a,x,j,o,j1,j2,ha⟩
   by_cases hm:y∈ys
   ·exact (h.im (h.hi.ref y QO) (h.w1 y hm)).2
   ·have hro:=o.IZ
    rw[<-hw,h.wO hi hl o.has (by omega) (by omega) ha hm]
    exact (h.im (h.hi.ref y QO) (.inl ⟨fun hwn=>hm (h.A4W hi hl o j1 j2 ha hwn),rfl⟩)).2
  ·rw[h.w2 y hyr.1 hny]
   exact (h.im (h.hi.ref ya hya) him).2
 ·refine⟨by rw[h.ru];exact h.hi.ro.ul,by rw[h.rl];exact h.hi.ro.rl,fun i hi hu=> ?_⟩
  rw[h.ru] at hu
  rw[h.r2 i hi hu]
  exact h.hi.ro.z i hi hu
 ·rw[h.ru] at hu
  obtain⟨g1,g2⟩:=h.hi.root i hi hu
  obtain⟨g3,g4⟩:=h.im (.inr g2) (h.r1 i hi hu)
  have CU:gl 0#64 r'.2 i≠0#64:=fun h0=>g1 (g3.1 h0)
  exact⟨CU,g4.resolve_left CU⟩
 ·rw[uK]
  rcases (hS.sin f g y).1 OU with hd|⟨hd|⟨k,hk,p,x,j,o,j1,j2,ha⟩,hp⟩
  ·obtain⟨g1,g2,g3⟩:=ANK.1 hd
   obtain⟨⟨i,hi,la,os,p,a,x,j,o,j1,j2,ha⟩,hf⟩:=h.hi.ins f g y g1
   refine⟨h.AZL hi (fun hl=>g2 ?_) o j1 j2 ha,hf⟩
   have hr:=D0 hv (h.hi.hb.fit hi).1 o.has (by have:=o.IZ;omega) ha
   exact aC.2 ⟨by rw[hf];exact hr.2.2.1,by rw[hf,hr.2.2.2.1];exact LH.2 ⟨i,hl,rfl⟩⟩
  ·obtain⟨i,hi,hl,la,os,p,a,x,j,o,j1,j2,ha⟩:=h.ysl hd
   have:=hp.2.2.1
   simp only at this
   rw[hz] at this
   exact⟨h.AZL hi hl o j1 j2 ha,this⟩
  ·have:=hp.2.2.1
   simp only at this
   rw[hz] at this
   exact⟨⟨to,h.AXW o,lb,_,p,_,x,j,h.obT.1 o,j1,j2,by rw[uK];exact ha⟩,this⟩
 ·obtain⟨hyr,hw⟩:=h.word hy
  rw[hw] at hp
  have hpT:Pr (t.1,ws,t.2.2) y (gl 0#64 ws y.toNat) f g:=by
   obtain⟨a1,a2,a3,a4,a5,a6,a7⟩:=hp
   have hw1:=(NL a1).2
   rw[h3] at a2
   rw[uK] at a3 a4
   have ff:=HU hv hyr.1 hyr.2
   have gg:=HU hv (a:=((gl 0#64 ws y.toNat).toNat:Int)-1) (by omega) (by omega)
   rw[<-a3] at ff
   rw[<-a4] at gg
   have e1:fr (OE t ws l).2.2 f=fr t.2.2 f:=by
    rw[h5 f ff.1 ff.2] at a5 ⊢
    split at a5
    ·exact absurd rfl a5
    ·rename_i hc;rw[AD hc]
   have e2:fr (OE t ws l).2.2 g=fr t.2.2 g:=by
    rw[h5 g gg.1 gg.2] at a6 ⊢
    split at a6
    ·exact absurd rfl a6
    ·rename_i hc;rw[AD hc]
   rw[e1] at a5 a7
   rw[e2] at a6 a7
   exact⟨a1,by simp only;rw[h.wl];exact a2,by simp only;rw[hz];exact a3,by simp only;rw[hz];exact a4,a5,a6,a7⟩
  rcases h.AC0 hy with ⟨i,hi,hl,la,os,p,a,x,j,o,j1,j2,ha⟩|⟨_,hc,_⟩
  rotate_left
  ·exact (hS.sin f g y).2 (.inr ⟨.inr hc,hpT⟩)
  by_cases hm:y∈ys
  ·exact (hS.sin f g y).2 (.inr ⟨.inl hm,hpT⟩)
  have QO:Slot s0 q y:=⟨i,hi,la,os,p,a,x,j,o,j1,j2,ha⟩
  have hro:=o.IZ
  have hf:=(h.hi.hb.fit hi).1
  have hr:=D0 hv hf o.has (by omega) ha
  have hww:=h.wO hi hl o.has (by omega) (by omega) ha hm
  rw[hw] at hww
  rw[hww] at hpT hp
  obtain⟨a1,a2,a3,a4,a5,a6,a7⟩:=hpT
  simp only at a2 a3 a4 a5 a6 a7
  rw[h.wl] at a2
  rw[hz] at a3 a4
  have hC:=(h.kA hi).1 hl
  have ef:(fr t.2.2 f).1=(fr s0.2.2 f).1/\(fr t.2.2 f).2.1=(fr s0.2.2 f).2.1:=by
   rw[a3]
   by_cases CU:i.1=CC.1
   ·obtain⟨rfl,ht⟩:=h.AXV hi CU
    obtain rfl:=T7 o.has h.cd.has
    obtain⟨r0,hr0⟩:=h.ci.pre
    have hrt:=D0 h.ci.cy.vs h.ci.cy.fit h.ci.has (p:=p+j) (y:=y) (by omega) (by rw[hz,hr0];exact C5 ha)
    rw[hz] at hrt
    rw[hrt.2.2.2.1,hrt.2.2.2.2,hr.2.2.2.1,hr.2.2.2.2,h.ci.seq,h.ci.j9]
    exact⟨rfl,rfl⟩
   ·rw[h.ci.aT _ hr.2.2.1.1 hr.2.2.1.2 (by rw[hr.2.2.2.1];have:=hf.1;omega) (by rw[hr.2.2.2.1];exact CU)]
    exact⟨rfl,rfl⟩
  rcases h.hi.ref y QO with h0|⟨k,hk,p',x',o'⟩
  ·exact absurd h0 a1
  have g_ :=o'.J9 hv (h.hi.hb.fit hk).1
  have hkf:=(h.hi.hb.fit hk).1
  have hkl:k∉l:=fun hkl=>hm (h.A4W hi hl o j1 j2 ha ⟨a1,a2,by rw[g_.2.2.1];exact LH.2 ⟨k,hkl,rfl⟩⟩)
  have hkC:=(h.kA hk).1 hkl
  have eg:(fr t.2.2 g).1=(fr s0.2.2 g).1/\(fr t.2.2 g).2.1=(fr s0.2.2 g).2.1:=by
   rw[a4]
   by_cases CU:k.1=CC.1
   ·obtain⟨rfl,ht⟩:=h.AXV hk CU
    obtain⟨la2,os2,o2⟩:=o'
    obtain⟨rfl,rfl⟩:=LA h.cd.has h.cd.TT o2
    have o3:=h.A23 o2
    have hrt:=D0 h.ci.cy.vs h.ci.cy.fit h.ci.has o3.IZ.2.2.1 o3.J9
    rw[hz] at hrt
    rw[hrt.2.2.2.1,hrt.2.2.2.2,g_.2.2.1,g_.2.2.2,h.ci.seq,h.ci.j9]
    exact⟨rfl,rfl⟩
   ·rw[h.ci.aT _ g_.2.1.1 g_.2.1.2 (by rw[g_.2.2.1];have:=hkf.1;omega) (by rw[g_.2.2.1];exact CU)]
    exact⟨rfl,rfl⟩
  rw[ef.1] at a5
  rw[eg.1] at a6
  rw[ef.2,eg.2] at a7
  refine (hS.sin f g y).2 (.inl (ANK.2 ⟨h.hi.rem y QO f g ⟨a1,a2,a3,a4,a5,a6,a7⟩,fun hm' => ?_,fun hm' => ?_⟩))
  ·have:=(aC.1 hm').2
   rw[a3,hr.2.2.2.1] at this
   exact hC this
  ·have:=(aC.1 hm').2
   rw[a4,g_.2.2.1] at this
   exact hkC this
end
end Go.Proofs.YthmiilamegpllaaGreat
namespace Go.Proofs.YthmiilamegpllaaGreat
open Go Go.V3
theorem AL1 {q:Rows} (hq:q.length<=1000000) (hx:q.flatten.length<=1000000):MF q=some q.flatten:=by
 unfold MF
 refine (AO (fun k (st:List AH×Int)=>st=((q.take k).flatten,(k:Int))) (fun b=>b=q.flatten) q.length ?_ ?_ (s:=([],0)) (by simp)).elim fun b hb=>by rw[hb.1,hb.2]
 ·rintro k st hk rfl
  left
  have hs:=HF q k hk
  have hl:(q.take k).flatten.length+(gl [] q k).length<=q.flatten.length:=by
   rw[hs,JK,JK];omega
  simp only[HX]
  rw[AA (by omega),AA (by omega),AA (by omega),AE (by omega) (by omega)]
  refine⟨_,rfl, ?_⟩
  rw[FZ (d:=[]) q k hk,ALL]
  simp
 ·rintro st rfl
  simp only
  rw[AD (by omega),SD]
  exact⟨_,rfl,rfl⟩
theorem AID {β:Type} {f:Bool×Int->Option ((Bool×Int) ⊕ β)} (P:Nat->Prop) (n:Nat) {b0:Bool} {r:Bool->β}
  (hs:∀ (k:Nat) (b:Bool),k<n->∃ c:Bool,f (b,(k:Int))=some (.inl (c,(k:Int)+1))/\(c=true->b=true\/P k)) (he:∀ b,f (b,(n:Int))=some (.inr (r b))):
  ∃ b,AI f (b0,0)=some (r b)/\(b=true->b0=true\/∃ k,k<n/\P k):=by
 have key:=AO (f:=f) (fun k (st:Bool×Int)=>st.2=(k:Int)/\(st.1=true->b0=true\/∃ j,j<k/\P j)) (fun x=>∃ b,x=r b/\(b=true->b0=true\/∃ k,k<n/\P k)) n ?_ ?_ (s:=(b0,0)) ⟨rfl,fun h=> .inl h⟩
 ·obtain⟨x,hx,b,rfl,h⟩:=key
  exact⟨b,hx,h⟩
 ·rintro k ⟨b,kk⟩ hk ⟨I0,hb⟩
  simp only at I0 hb
  subst I0
  obtain⟨c,h1,h2⟩:=hs k b hk
  refine .inl ⟨_,h1,rfl,fun hc=> ?_⟩
  rcases h2 hc with h3|h3
  ·rcases hb h3 with h4|⟨j,h4,h5⟩
   ·exact .inl h4
   ·exact .inr ⟨j,by omega,h5⟩
  ·exact .inr ⟨k,by omega,h3⟩
 ·rintro⟨b,kk⟩ ⟨I0,hb⟩
  simp only at I0 hb
  subst I0
  exact⟨_,he b,b,rfl,hb⟩
structure Pfx (q:Rows) (l:List Int):Prop where
 len:l.length<=q.flatten.length
 nd:∀ i j:Nat,j<i->i<l.length->gl 0 l j≠gl 0 l i
 sub:∀ i:Nat,i<l.length->∃ k,k<l.length/\(gl ((0,0,0,0,0):AH) q.flatten k).1=gl 0 l i
 all:∀ k:Nat,k<l.length->∃ i,i<l.length/\(gl ((0,0,0,0,0):AH) q.flatten k).1=gl 0 l i
theorem AL2 {q:Rows} (hq:q.length<=1000000) (hx:q.flatten.length<=1000000) {l:List Int} (hl:l.length<=1000000):∃ b,I_ q l=some b/\(b=true->Pfx q l):=by
 unfold I_
 rw[AL1 hq hx,AZ]
 by_cases hlen:(l.length:Int)>(q.flatten.length:Int)
 ·rw[AA hlen];exact⟨false,rfl,fun h=>by cases h⟩
 rw[AD hlen]
 generalize hA:q.flatten=A at*
 have bd:Bd none (some (l.length:Int)) ((l.length:Int).toNat) A.length:=⟨by omega,trivial⟩
 refine AO (fun k (st:Int)=>st=(k:Int)/\(∀ i j:Nat,j<i->i<k->gl 0 l j≠gl 0 l i)/\∀ i:Nat,i<k->∃ m,m<l.length/\(gl ((0,0,0,0,0):AH) A m).1=gl 0 l i) _ l.length ?_ ?_ ⟨rfl,fun i j h1 h2=>by omega,fun i h=>by omega⟩
 ·rintro k st hk ⟨rfl,JE,KP⟩
  rw[AA (by omega),AA (by omega),AA bd]
  simp only[HX,AFI]
  have inner:=AO (β:=Int ⊕ Bool) (f:=fun s2:Int=>
   if s2<(k:Int) then
   if 0<=s2/\s2<(l.length:Int) then
   if (gl (0:Int) l s2.toNat)=(gl (0:Int) l k) then
   some (Sum.inr (Sum.inr (false)))
   else some (Sum.inl (AG (s2+1)))
   else none
   else Option.map Sum.inr (AI (σ:=(Bool×Int)) (β:=(Int ⊕ Bool)) (fun s3=>
   if s3.2<(l.length:Int) then
   if 0<=s3.2/\s3.2<(l.length:Int) then
   if s3.1=true then
   some (Sum.inl ((true,AG (s3.2+1))))
   else some (Sum.inl ((decide (((gl ((0,0,0,0,0):AH) A (0+s3.2.toNat)).1)=(gl (0:Int) l k)),AG (s3.2+1))))
   else none
   else Option.map Sum.inr (if (!s3.1)=true then
   some (Sum.inr (false))
   else some (Sum.inl (AG ((k:Int)+1))))) ((false,0))))
   (fun j (st:Int)=>st=(j:Int)/\∀ m:Nat,m<j->gl 0 l m≠gl 0 l k)
   (fun b=>b=Sum.inr false\/(b=Sum.inl ((k:Int)+1)/\(∀ m:Nat,m<k->gl 0 l m≠gl 0 l k)/\∃ m,m<l.length/\(gl ((0,0,0,0,0):AH) A m).1=gl 0 l k)) k ?_ ?_ (s:=0) ⟨rfl,fun m hm=>by omega⟩
  ·obtain⟨b,WU,uJ⟩:=inner
   rw[WU]
   rcases uJ with rfl|⟨rfl,h1,h2⟩
   ·exact .inr ⟨_,rfl,fun h=>by cases h⟩
   ·refine .inl ⟨_,rfl,rfl,fun i j hj hi=> ?_,fun i hi=> ?_⟩
    ·by_cases gS:i=k
     ·subst gS;exact h1 j hj
     ·exact JE i j hj (by omega)
    ·by_cases gS:i=k
     ·subst gS;exact h2
     ·exact KP i (by omega)
  ·rintro j st hj ⟨rfl,hm⟩
   rw[AA (by omega),AA (by omega)]
   simp only[HX]
   by_cases he:gl 0 l j=gl 0 l k
   ·rw[AA he];exact .inr ⟨_,rfl,.inl rfl⟩
   ·rw[AD he,AE (by omega) (by omega)]
    refine .inl ⟨_,rfl,rfl,fun m hm' => ?_⟩
    by_cases hmj:m=j
    ·subst hmj;exact he
    ·exact hm m (by omega)
  ·rintro st ⟨rfl,hm⟩
   rw[AD (by omega)]
   obtain⟨b,WU,uJ⟩:=AID (β:=Int ⊕ Bool) (f:=fun s3:Bool×Int=>
    if s3.2<(l.length:Int) then
    if 0<=s3.2/\s3.2<(l.length:Int) then
    if s3.1=true then
    some (Sum.inl ((true,AG (s3.2+1))))
    else some (Sum.inl ((decide (((gl ((0,0,0,0,0):AH) A (0+s3.2.toNat)).1)=(gl (0:Int) l k)),AG (s3.2+1))))
    else none
    else Option.map Sum.inr (if (!s3.1)=true then
    some (Sum.inr (false))
    else some (Sum.inl (AG ((k:Int)+1))))) (fun m=>(gl ((0,0,0,0,0):AH) A m).1=gl 0 l k) l.length (b0:=false) (r:=fun b=>if b=true then Sum.inl ((k:Int)+1) else Sum.inr false) (fun j b hj=>by
     simp only[HX]
     rw[AA (by omega),AA (by omega),AE (e:=(j:Int)+1) (by omega) (by omega)]
     cases b with
     |true=>exact⟨true,by rw[AA rfl],fun _=> .inl rfl⟩
     |false=>
      refine⟨_,by rw[AD (by decide)],fun h=> .inr ?_⟩
      have h' :=MM h
      rw[KK] at h'
      exact h') (fun b=>by
     simp only
     rw[AD (by omega),AE (e:=(k:Int)+1) (by omega) (by omega)]
     cases b <;> rfl)
   rw[WU]
   cases b with
   |true=>
    rcases uJ rfl with h|⟨m,h1,h2⟩
    ·cases h
    ·exact⟨_,rfl,.inr ⟨rfl,hm,m,h1,h2⟩⟩
   |false=>exact⟨_,rfl,.inl rfl⟩
 ·rintro st ⟨rfl,JE,KP⟩
  rw[AD (by omega),AA bd]
  simp only[HX,AFI]
  have second:=AO (β:=Bool) (f:=fun s4:Int=>
   if s4<(l.length:Int) then
   if 0<=s4/\s4<(l.length:Int) then
   AI (σ:=(Bool×Int)) (β:=(Int ⊕ Bool)) (fun s5=>
   if s5.2<(l.length:Int) then
   if 0<=s5.2/\s5.2<(l.length:Int) then
   if s5.1=true then
   some (Sum.inl ((true,AG (s5.2+1))))
   else some (Sum.inl ((decide (((gl ((0,0,0,0,0):AH) A (0+s4.toNat)).1)=(gl (0:Int) l s5.2.toNat)),AG (s5.2+1))))
   else none
   else Option.map Sum.inr (if (!s5.1)=true then
   some (Sum.inr (false))
   else some (Sum.inl (AG (s4+1))))) ((false,0))
   else none
   else some (Sum.inr (true)))
   (fun k (st:Int)=>st=(k:Int)/\∀ m:Nat,m<k->∃ i,i<l.length/\(gl ((0,0,0,0,0):AH) A m).1=gl 0 l i)
   (fun b=>b=true->∀ m:Nat,m<l.length->∃ i,i<l.length/\(gl ((0,0,0,0,0):AH) A m).1=gl 0 l i) l.length ?_ ?_ (s:=0) ⟨rfl,fun m hm=>by omega⟩
  ·obtain⟨b,WU,uJ⟩:=second
   rw[WU]
   exact⟨_,rfl,fun h=>⟨by rw[hA];omega,JE,by rw[hA];exact KP,by rw[hA];exact uJ h⟩⟩
  ·rintro k st hk ⟨rfl,ZD⟩
   rw[AA (by omega),AA (by omega)]
   simp only[HX]
   obtain⟨b,WU,uJ⟩:=AID (β:=Int ⊕ Bool) (f:=fun s5:Bool×Int=>
    if s5.2<(l.length:Int) then
    if 0<=s5.2/\s5.2<(l.length:Int) then
    if s5.1=true then
    some (Sum.inl ((true,AG (s5.2+1))))
    else some (Sum.inl ((decide (((gl ((0,0,0,0,0):AH) A (0+k)).1)=(gl (0:Int) l s5.2.toNat)),AG (s5.2+1))))
    else none
    else Option.map Sum.inr (if (!s5.1)=true then
    some (Sum.inr (false))
    else some (Sum.inl (AG ((k:Int)+1))))) (fun m=>(gl ((0,0,0,0,0):AH) A k).1=gl 0 l m) l.length (b0:=false) (r:=fun b=>if b=true then Sum.inl ((k:Int)+1) else Sum.inr false) (fun j b hj=>by
     simp only[HX]
     rw[AA (by omega),AA (by omega),AE (e:=(j:Int)+1) (by omega) (by omega)]
     cases b with
     |true=>exact⟨true,by rw[AA rfl],fun _=> .inl rfl⟩
     |false=>
      refine⟨_,by rw[AD (by decide)],fun h=> .inr ?_⟩
      have h' :=MM h
      rw[KK] at h'
      exact h') (fun b=>by
     simp only
     rw[AD (by omega),AE (e:=(k:Int)+1) (by omega) (by omega)]
     cases b <;> rfl)
   rw[WU]
   cases b with
   |true=>
    rcases uJ rfl with h|⟨m,h1,h2⟩
    ·cases h
    ·refine .inl ⟨_,rfl,rfl,fun m' hm' => ?_⟩
     by_cases hmk:m' =k
     ·subst hmk;exact⟨m,h1,h2⟩
     ·exact ZD m' (by omega)
   |false=>exact .inr ⟨_,rfl,fun h=>by cases h⟩
  ·rintro st ⟨rfl,ZD⟩
   rw[AD (by omega)]
   exact⟨_,rfl,fun _=>ZD⟩
theorem AIE {s:Sp} {q:Rows} (h:HB s q):q.flatten.Pairwise fun a b=>a.2.1*4294967296+a.1<b.2.1*4294967296+b.1:=by
 have hN:=(F_.1 h.bv.ok).1
 have hf:∀ i∈q.flatten,0<=i.1/\i.1<=4294967295:=fun i hi=>by have:=(h.fit hi).1.1;omega
 have key:∀ n,n<=q.length->(q.take n).flatten.Pairwise fun a b:AH=>a.2.1*4294967296+a.1<b.2.1*4294967296+b.1:=by
  intro n
  induction n with
  |zero=>intro _;simp
  |succ n ih=>
   intro hn
   rw[FZ (d:=[]) q n hn,ALL,vP]
   refine⟨ih (by omega), ?_,fun a ha b hb=> ?_⟩
   ·simp only[List.flatten_cons,List.flatten_nil,HH]
    refine List.Pairwise.imp_of_mem ?_ (hN.pw n hn)
    intro a b ha hb hab
    have e1:=(hN.e n hn a ha).1
    have e2:=(hN.e n hn b hb).1
    omega
   ·simp only[List.flatten_cons,List.flatten_nil,HH] at hb
    have e2:=(hN.e n hn b hb).1
    obtain⟨x,hx,hax⟩:=mU.1 ha
    obtain⟨j,hj,hj2,rfl⟩:=tA (d:=([]:List AH)) hx
    have e1:=(hN.e j hj2 a hax).1
    have f1:=hf a (KJ.2 ⟨j,hj2,hax⟩)
    have f2:=hf b (KJ.2 ⟨n,hn,hb⟩)
    have:(j:Int)+1<=n:=by omega
    omega
 have:=key q.length (EY _)
 rw[SD] at this
 exact this
theorem Pfx.pre {s:Sp} {q:Rows} (h:HB s q) {l:List AH} (hl:∀ i∈l,i∈q.flatten) (hp:Pfx q (B3 l)):∀ i∈l,∀ j∈q.flatten,j∉l->i.2.1*4294967296+i.1<j.2.1*4294967296+j.1:=by
 intro i hi j hj tQ
 have hlen:=hp.len
 have hs:=pE l
 obtain⟨a,ha,rfl⟩:=HD (d:=((0,0,0,0,0):AH)) hi
 obtain⟨k,hk,PW⟩:=hp.sub a (by omega)
 rw[AEI ha] at PW
 have gS:=h.uniq (BN (d:=((0,0,0,0,0):AH)) (xs:=q.flatten) (k:=k) (by omega)) (hl _ hi) PW
 rw[<-gS]
 obtain⟨b,hb,rfl⟩:=HD (d:=((0,0,0,0,0):AH)) hj
 have hbl:¬b<l.length:=by
  intro hbl
  obtain⟨i2,hi2,he⟩:=hp.all b (by omega)
  rw[AEI (by omega)] at he
  have:=h.uniq hj (hl _ (BN (d:=((0,0,0,0,0):AH)) (k:=i2) (by omega))) he
  rw[this] at tQ
  exact tQ (BN (by omega))
 have:=AIW.1 (AIE h) k b (by omega) hb (by omega)
 rw[D8 (by omega),D8 hb]
 exact this
theorem Pfx.AXX {q:Rows} {l:List AH} (hp:Pfx q (B3 l)):(B3 l).Nodup:=by
 rw[List.nodup_iff_pairwise_ne,AIW]
 intro i j hi hj mK
 have:=hp.nd j i mK hj
 rw[D8 hi,D8 hj] at this
 exact this
theorem AXY {c:Cf} (g:Good c) {b n:Int} (b0:0<=b) (b1:b<c.2.1.length) (n0:1<=n) (n1:n<=64):∃ k,D9 c b n=some (k,0)/\0<=k/\k<=64:=by
 have hn:=g.n.2
 have hz:=g.nm.2.1
 have hr:gl (0,0,0,0) c.2.1 b.toNat=ru c b:=rfl
 have hv:=(g.ru b b0 b1).1
 unfold D9
 rw[iB (by omega) (by omega) g.sh,g.UZ,AZ,AD (by simp),AD (by omega),AD (by omega),AD (by omega),AD (by omega),AA (by omega),hr]
 generalize (ru c b).1=x at hv
 rcases hv with rfl|⟨h0,h1⟩
 ·unfold FK
  rw[iA,RT (by omega)]
  simp only[AZ]
  rw[AD (by decide),AD (by omega),AD (by omega),AA (by decide)]
  exact⟨0,rfl,by omega,by omega⟩
 ·rw[yH h0 h1 n0 n1]
  have:=AZ9 (n:=n.toNat) h1 (by omega)
  exact⟨_,rfl,by omega,by omega⟩
structure HV (N:Int) (h:Hs):Prop where
 g:Good h.1
 hi:HI h.2.1 h.2.2.1 h.2.2.2.1 h.2.2.2.2.1 h.2.2.2.2.2.1
 ql:h.2.2.1.length=h.1.2.1.length
 n1:h.2.2.2.1<=N
theorem HV.vs {N:Int} {h:Hs} (v:HV N h):VS h.2.1:=v.hi.hb.bv.vs
theorem HV.copy {N:Int} {h:Hs} (v:HV N h):BX h=some h:=by
 obtain⟨c,s,q,n,ss,r,rest⟩:=h
 obtain⟨h1,h2,h3⟩:=v.hi.hb.lens
 have hg:=v.g.n.2
 simp only at h1 h2 h3 hg
 unfold BX
 rw[AA (by simp only[VG];omega),VS.copy v.vs,AZ,YY (q:=q) (by omega) (fun x hx=>by have:=h3 x hx;omega),AZ,v.hi.rv.copy,AZ,v.hi.ro.copy]
 rfl
structure Tg (h:Hs) (l:List AH) (to:AH):Prop where
 sub:∀ i∈l,i∈h.2.2.1.flatten
 ne:l≠[]
 blt:∀ i∈l,i.2.1=(gl ((0,0,0,0,0):AH) l 0).2.1
 pfx:Pfx h.2.2.1 (B3 l)
 tb:to.2.1=(ru h.1 (gl ((0,0,0,0,0):AH) l 0).2.1).2.2.2
 tgt:to∈h.2.2.1.flatten\/to=(h.2.2.2.1,(ru h.1 (gl ((0,0,0,0,0):AH) l 0).2.1).2.2.2, -1, -1,0)
 out:to.1∉B3 l
theorem AQ7 {a b c d e:Bool} (h:Y5 [a,b,c,d,e]=true):a=true/\b=true/\c=true/\d=true/\e=true:=by
 simpa [Y5] using h
theorem AXZ {i j:AH} (h1:i.1=j.1) (h2:i.2.1=j.2.1) (h3:i.2.2.1=j.2.2.1) (h4:i.2.2.2.1=j.2.2.2.1) (h5:i.2.2.2.2=j.2.2.2.2):i=j:=by
 obtain⟨a,b,c,d,e⟩:=i
 obtain⟨a',b',c',d',e'⟩:=j
 simp only at h1 h2 h3 h4 h5
 subst h1 h2 h3 h4 h5;rfl
theorem AC1 {l:List AH} {k:Nat} (hk:k<l.length):B3 (l.take (k+1))=B3 (l.take k)++ [(gl ((0,0,0,0,0):AH) l k).1]:=by
 rw[FZ (d:=((0,0,0,0,0):AH)) l k hk];unfold B3;rw[bA];rfl
theorem AIF {β:Type} {f:Bool×Int->Option ((Bool×Int) ⊕ β)} (P:Nat->Prop) (n:Nat) {b0:Bool} {r:Bool->Option β}
  (hs:∀ (k:Nat) (b:Bool),k<n->∃ c:Bool,f (b,(k:Int))=some (.inl (c,(k:Int)+1))/\(c=true->b=true/\P k))
  (he:∀ b,f (b,(n:Int))=Option.map Sum.inr (r b)) {Q:β->Prop} (hq:∀ b,(b=true->b0=true/\∀ k,k<n->P k)->∃ x,r b=some x/\Q x):
  ∃ x,AI f (b0,0)=some x/\Q x:=by
 refine AO (f:=f) (fun k (st:Bool×Int)=>st.2=(k:Int)/\(st.1=true->b0=true/\∀ j,j<k->P j)) Q n ?_ ?_ (s:=(b0,0)) ⟨rfl,fun h=>⟨h,fun j hj=>by omega⟩⟩
 ·rintro k ⟨b,kk⟩ hk ⟨I0,hb⟩
  simp only at I0 hb
  subst I0
  obtain⟨c,h1,h2⟩:=hs k b hk
  refine .inl ⟨_,h1,rfl,fun hc=> ?_⟩
  obtain⟨h3,h4⟩:=h2 hc
  obtain⟨h5,h6⟩:=hb h3
  refine⟨h5,fun j hj=> ?_⟩
  by_cases kL:j=k
  ·subst kL;exact h4
  ·exact h6 j (by omega)
 ·rintro⟨b,kk⟩ ⟨I0,hb⟩
  simp only at I0 hb
  subst I0
  obtain⟨x,h1,h2⟩:=hq b hb
  exact⟨x,by rw[he,h1];rfl,h2⟩
theorem AQ8 {N:Int} {h:Hs} (v:HV N h) {l:List AH} (hl:l.length<=1000000):∃ to e,G6 h l=some (to,e)/\(e≠0\/(e=0/\Tg h l to)):=by
 suffices hh:∃ x,G6 h l=some x/\(x.2≠0\/(x.2=0/\Tg h l x.1)) by
  obtain⟨x,h1,h2⟩:=hh
  exact⟨x.1,x.2,h1,h2⟩
 obtain⟨l1,l2,l3⟩:=v.hi.hb.lens
 have hN:=(F_.1 v.hi.hb.bv.ok).1
 have hql:=v.ql
 unfold G6
 refine AO (fun k (st:List Int×Int)=>st=(B3 (l.take k),(k:Int))/\∀ j,j<k->gl ((0,0,0,0,0):AH) l j∈h.2.2.1.flatten/\(gl ((0,0,0,0,0):AH) l j).2.1=(gl ((0,0,0,0,0):AH) l 0).2.1) _ l.length ?_ ?_ ⟨rfl,fun j hj=>by omega⟩
 ·rintro k st hk ⟨rfl,hj⟩
  simp only[HX]
  rw[AA (by omega),AA (by omega)]
  rcases AI3 (q:=h.2.2.1) (by omega) (fun x hx=>by have:=l3 x hx;omega) (gl ((0,0,0,0,0):AH) l k).1 with ⟨h4,h5⟩|⟨i,h4,h5,h6⟩
  ·rw[h5];exact .inr ⟨_,rfl,.inl (by decide)⟩
  ·rw[h6,AZ]
   rw[AD (show ¬(!true)=true by decide)]
   split
   ·exact .inr ⟨_,rfl,.inl (by decide)⟩
   rename_i hb
   simp only[TZ,Bool.not_eq_false] at hb
   obtain⟨b1,b2,b3,b4,b5⟩:=AQ7 hb
   obtain rfl:i=gl ((0,0,0,0,0):AH) l k:=AXZ (MM b1) (MM b2) (MM b3) (MM b4) (MM b5)
   rw[AA (by omega)]
   split
   ·exact .inr ⟨_,rfl,.inl (by decide)⟩
   rename_i hbe
   have A7A :=Decidable.not_not.1 hbe
   have QO:(B3 (l.take k)).length<=l.length:=by rw[pE,rV];omega
   rw[AA (by simp only[IC];omega),AE (by omega) (by omega)]
   refine .inl ⟨_,rfl, ?_,fun j kL=> ?_⟩
   ·rw[AC1 hk];rfl
   ·by_cases A7B :j=k
    ·subst A7B;exact⟨h4,A7A⟩
    ·exact hj j (by omega)
 ·rintro st ⟨rfl,hj⟩
  simp only
  rw[AD (by omega),SD]
  by_cases h0:(l.length:Int)=0
  ·rw[AA h0];exact⟨_,rfl,.inl (by decide)⟩
  rw[AD h0]
  obtain⟨b,uG,hp2⟩:=AL2 (q:=h.2.2.1) (l:=B3 l) (by omega) (by omega) (by rw[pE];exact hl)
  rw[uG,AZ]
  cases b with
  |false=>exact⟨_,rfl,.inl (by decide)⟩
  |true=>
  have hp:=hp2 rfl
  obtain⟨hm0, -⟩:=hj 0 (by omega)
  obtain⟨⟨r0,r1⟩,QQ⟩:=hN.row hm0
  have XE:∀ i∈l,i∈h.2.2.1.flatten/\i.2.1=(gl ((0,0,0,0,0):AH) l 0).2.1:=by
   intro i hi
   obtain⟨k,hk,rfl⟩:=HD (d:=((0,0,0,0,0):AH)) hi
   exact hj k hk
  have A4X:l≠[]:=by rintro rfl;simp at h0
  rw[AD (by decide),AA (by omega)]
  simp only[show (0:Int).toNat=0 from rfl]
  rw[AA (by omega)]
  obtain⟨-,hlm,htb⟩:=v.g.ru (gl ((0,0,0,0,0):AH) l 0).2.1 r0 (by omega)
  have hb:gl (0,0,0,0) h.1.2.1 (gl ((0,0,0,0,0):AH) l 0).2.1.toNat=ru h.1 (gl ((0,0,0,0,0):AH) l 0).2.1:=rfl
  rw[hb]
  generalize hT:(ru h.1 (gl ((0,0,0,0,0):AH) l 0).2.1).2.2.2=T at htb
  have hTr:0<=T/\T<h.1.2.1.length:=by
   unfold FY at htb
   rw[hT] at htb
   by_cases WU:(gl ((0,0,0,0,0):AH) l 0).2.1=(h.1.2.1.length:Int)-1
   ·have:T=(gl ((0,0,0,0,0):AH) l 0).2.1:=AC9 fun hn=>htb (.inl ⟨WU,hn⟩)
    omega
   ·have h1:¬(T<=(gl ((0,0,0,0,0):AH) l 0).2.1\/(h.1.2.1.length:Int)-1<T):=fun hn=>htb (.inr ⟨by omega,hn⟩)
    omega
  have hn:=v.vs.n
  obtain⟨cap,hc,c0,c1⟩:=AXY v.g (b:=T) (n:=h.2.1.2.2.length) hTr.1 hTr.2 (by omega) (by omega)
  rw[hc,AZ]
  have AUX:Tg h l (h.2.2.2.1,T, -1, -1,0):=
   ⟨fun i hi=>(XE i hi).1,A4X,fun i hi=>(XE i hi).2,hp,by simp only;exact hT.symm,.inr (by rw[hT]),fun hm=>by
    obtain⟨i,hi,he⟩:=LH.1 hm
    have:=v.hi.seq i (XE i hi).1
    simp only at he;omega⟩
  have wrap:∀ {X:Option (AH×Int)},(∃ x,X=some x/\(x.2≠0\/(x.2=0/\Tg h l x.1)))->∃ b,Option.map (Sum.inr (α:=List Int×Int)) X=some (Sum.inr b)/\(b.2≠0\/(b.2=0/\Tg h l b.1)):=by
   rintro X ⟨x,rfl,hx⟩;exact⟨x,rfl,hx⟩
  rcases o9 (q:=h.2.2.1) (fun x hx=>by have:=l3 x hx;omega) hTr.1 (by omega) with ⟨y1,y2⟩|⟨y,y1,y2⟩
  ·rw[y2,AZ]
   simp only
   refine wrap (AIF (fun _=>True) l.length (r:=fun b=>if b=true then (if decide (cap=0\/((0,0,0,0,0):AH).2.2.2.2<cap*sz h.2.1.1)=true then some (((0,0,0,0,0):AH),0) else some ((h.2.2.2.1,T, -1, -1,0),0)) else some ((h.2.2.2.1,T, -1, -1,0),0)) ?_ ?_ ?_)
   ·intro k b hk
    simp only
    rw[AA (by omega),AA (by omega),AE (e:=(k:Int)+1) (by omega) (by omega)]
    cases b with
    |true=>exact⟨_,by rw[AA rfl],fun _=>⟨rfl,trivial⟩⟩
    |false=>exact⟨false,by rw[AD (by decide)],fun h=>by cases h⟩
   ·intro b
    simp only
    rw[AD (by omega),fZ v.vs.sh ((0,0,0,0,0):AH) c0 (by omega)]
    rfl
   ·intro b hb
    cases b with
    |true=>exact absurd (hb rfl).1 (by decide)
    |false=>exact⟨_,rfl,.inr ⟨rfl,AUX⟩⟩
  ·rw[y2,AZ]
   have hyb:=(hN.e T.toNat (by omega) y y1).1
   have hym:y∈h.2.2.1.flatten:=KJ.2 ⟨T.toNat,by omega,y1⟩
   simp only
   refine wrap (AIF (fun k=>(gl ((0,0,0,0,0):AH) l k).1≠y.1) l.length (r:=fun b=>if b=true then (if decide (cap=0\/y.2.2.2.2<cap*sz h.2.1.1)=true then some (y,0) else some ((h.2.2.2.1,T, -1, -1,0),0)) else some ((h.2.2.2.1,T, -1, -1,0),0)) ?_ ?_ ?_)
   ·intro k b hk
    simp only[HX]
    rw[AA (by omega),AA (by omega),AE (e:=(k:Int)+1) (by omega) (by omega)]
    cases b with
    |true=>exact⟨_,by rw[AA rfl],fun hc=>⟨rfl,MM hc⟩⟩
    |false=>exact⟨false,by rw[AD (by decide)],fun h=>by cases h⟩
   ·intro b
    simp only
    rw[AD (by omega),fZ v.vs.sh y c0 (by omega)]
    rfl
   ·intro b hb
    by_cases WU:b=true
    ·rw[AA WU]
     obtain⟨-,ZD⟩:=hb WU
     split
     ·refine⟨_,rfl,.inr ⟨rfl,fun i hi=>(XE i hi).1,A4X,fun i hi=>(XE i hi).2,hp,by rw[hT];simp only;omega,.inl hym,fun hm=> ?_⟩⟩
      obtain⟨i,hi,he⟩:=LH.1 hm
      obtain⟨k,hk,rfl⟩:=HD (d:=((0,0,0,0,0):AH)) hi
      exact ZD k hk he
     ·exact⟨_,rfl,.inr ⟨rfl,AUX⟩⟩
    ·rw[AD WU];exact⟨_,rfl,.inr ⟨rfl,AUX⟩⟩
def ms (w:AH->Nat) (l:List AH):Nat:=(l.map w).sum
theorem AY0 {w:AH->Nat} {a b:List AH} (h:a.Perm b):ms w a=ms w b:=by
 unfold ms
 induction h with
 |nil=>rfl
 |cons x _ ih=>simp only[MN,vW,ih]
 |swap x y l=>simp only[MN,vW];omega
 |trans _ _ h1 h2=>rw[h1,h2]
theorem pG (w:AH->Nat) (p:AH->Bool):∀ l:List AH,ms w (l.filter p)<=ms w l
 | []=>EY _
 |a::r=>by
  have:=pG w p r
  unfold ms at this ⊢
  rw[vN]
  split <;> simp only[MN,vW] <;> omega
theorem AC2 (w:AH->Nat) (p:AH->Bool) {i:AH} (hp:p i=false):∀ {l:List AH},i∈l->ms w (l.filter p)+w i<=ms w l
 |a::r,hi=>by
  rw[vN]
  rcases GA.1 hi with rfl|hi
  ·have:=pG w p r
   rw[hp];unfold ms at this ⊢
   simp only[MN,vW,VF,KA];omega
  ·have:=AC2 w p hp hi
   unfold ms at this ⊢
   split <;> simp only[MN,vW] <;> omega
theorem AUY {w w' :AH->Nat} {l:List AH} (h:∀ i∈l,w i=w' i):ms w l=ms w' l:=by
 unfold ms;rw[WB h]
theorem AZM {w:AH->Nat} {b:Nat}:∀ {l:List AH},(∀ i∈l,w i<=b)->ms w l<=l.length*b
 | [],_=>by simp [ms]
 |a::r,h=>by
  have h1:=h a (by simp)
  have h2:=AZM (w:=w) (b:=b) (l:=r) fun i hi=>h i (UY _ hi)
  unfold ms at h2 ⊢
  simp only[MN,vW,O0]
  rw[Nat.succ_mul];omega
theorem ANS {α β:Type} {d:α} {n:Nat} (pos:Nat->Int) (val:Nat->α) {xs:List α} (hr:∀ k,k<n->0<=pos k/\pos k<xs.length) (hi:∀ j k,j<n->k<n->pos j=pos k->j=k)
  {f:Int×List α->Option ((Int×List α) ⊕ β)} (hs:∀ k ys,k<n->ys.length=xs.length->f ((k:Int),ys)=some (.inl ((k:Int)+1,ys.set (pos k).toNat (val k)))) {Q:β->Prop}
  (he:∀ ys,ys.length=xs.length->(∀ k,k<n->gl d ys (pos k).toNat=val k)->(∀ y:Nat,(∀ k,k<n->pos k≠y)->gl d ys y=gl d xs y)->∃ b,f ((n:Int),ys)=some (.inr b)/\Q b):∃ b,AI f (0,xs)=some b/\Q b:=by
 refine AO (f:=f) (fun k (st:Int×List α)=>st.1=(k:Int)/\st.2.length=xs.length/\(∀ j,j<k->gl d st.2 (pos j).toNat=val j)/\∀ y:Nat,(∀ j,j<k->pos j≠y)->gl d st.2 y=gl d xs y) Q n ?_ ?_ (s:=(0,xs)) ⟨rfl,rfl,fun j hj=>by omega,fun _ _=>rfl⟩
 ·rintro k ⟨kk,ys⟩ hk ⟨I0,hl,h1,h2⟩
  simp only at I0 hl h1 h2
  subst I0
  have NW :=hr k hk
  have DO:(pos k).toNat<ys.length:=by omega
  refine .inl ⟨_,hs k ys hk hl,rfl,by simp only[EW];exact hl,fun j hj=> ?_,fun y hy=> ?_⟩
  ·simp only
   rw[D5 DO]
   by_cases kL:j=k
   ·subst kL;rw[AA rfl]
   ·have:=hr j (by omega)
    rw[AD (fun he=>kL (hi j k (by omega) hk (by omega))),h1 j (by omega)]
  ·simp only
   rw[D5 DO,AD (fun he=>hy k (by omega) (by omega))]
   exact h2 y fun j hj=>hy j (by omega)
 ·rintro⟨kk,ys⟩ ⟨I0,hl,h1,h2⟩
  simp only at I0 hl h1 h2
  subst I0
  exact he ys hl h1 h2
theorem notes {β:Type} {s:Sp} (h:VS s) {xs:List Int} (hx:∀ y∈xs,0<=y/\y<s.2.1.length)
  {f:Ss×Int×List (BitVec 64)×List Fr->Option ((Ss×Int×List (BitVec 64)×List Fr) ⊕ β)}
  (hs:∀ (k:Nat) ss,k<xs.length->f (ss,(k:Int),s.2.1,s.2.2)=Option.bind (CS s ss (gl 0 xs k) (gl 0#64 s.2.1 (gl 0 xs k).toNat)) fun r=>some (.inl (r.1,(k:Int)+1,r.2.1,r.2.2)))
  {ss:Ss} (hr:RV ss) {Q:β->Prop}
  (hq:∀ V9,RV V9 ->(∀ f g y,In V9 f g y↔In ss f g y\/(y∈xs/\Pr s y (gl 0#64 s.2.1 y.toNat) f g))->∃ b,f (V9,(xs.length:Int),s.2.1,s.2.2)=some (.inr b)/\Q b):
  ∃ b,AI f (ss,0,s.2.1,s.2.2)=some b/\Q b:=by
 refine AO (f:=f) (fun k (st:Ss×Int×List (BitVec 64)×List Fr)=>st.2=((k:Int),s.2.1,s.2.2)/\RV st.1/\∀ f g y,In st.1 f g y↔In ss f g y\/(y∈xs.take k/\Pr s y (gl 0#64 s.2.1 y.toNat) f g)) Q xs.length ?_ ?_ (s:=(ss,0,s.2.1,s.2.2)) ⟨rfl,hr,fun f g y=>by simp⟩
 ·rintro k ⟨ss1,st⟩ hk ⟨hst,h1,h2⟩
  simp only at hst h1 h2
  subst hst
  have hxk:=hx _ (BN (d:=0) hk)
  obtain⟨V9,g1,g2,g3⟩:=ANO h h1 hxk.1 hxk.2 (gl 0#64 s.2.1 (gl 0 xs k).toNat)
  refine .inl ⟨(V9,(k:Int)+1,s.2.1,s.2.2),by rw[hs k ss1 hk,g1];rfl,by simp only[AFF];rfl,g2,fun f g y=> ?_⟩
  simp only
  rw[g3,h2,FZ (d:=0) xs k hk,FG,HA]
  constructor
  ·rintro ((h|⟨h,h'⟩)|⟨rfl,h⟩)
   ·exact .inl h
   ·exact .inr ⟨.inl h,h'⟩
   ·exact .inr ⟨.inr rfl,h⟩
  ·rintro (h|⟨h|rfl,h'⟩)
   ·exact .inl (.inl h)
   ·exact .inl (.inr ⟨h,h'⟩)
   ·exact .inr ⟨rfl,h'⟩
 ·rintro⟨ss1,st⟩ ⟨hst,h1,h2⟩
  simp only at hst h1 h2
  subst hst
  rw[SD] at h2
  exact hq ss1 h1 h2
theorem AUZ {s:Sp} (h:VS s) {ss:Ss} (hr:RV ss) {l:List AH} (hl:l.length<=1000000) {ys:List Int} (hy:∀ y∈ys,0<=y/\y<s.2.1.length) (mM:ys.length<=1000000) {mv:List (Int×Int)} (hml:mv.length<=1000000) (S:Nat->List Int)
  (hS:∀ k,k<mv.length->CO s (gl (0,0) mv k).2=some (S k,0)/\(S k).length<=1000000/\∀ y∈S k,0<=y/\y<s.2.1.length):
  ∃ V9,HO s ss l ys mv=some (V9,s.2.1,s.2.2)/\RV V9 /\∀ f g y,In V9 f g y↔In (o_ ss (yN s (B3 l) s.2.2.length)) f g y\/((y∈ys\/∃ k,k<mv.length/\y∈S k)/\Pr s y (gl 0#64 s.2.1 y.toNat) f g):=by
 have hn:=h.n.2
 have hc:=AEJ s (B3 l) s.2.2.length
 suffices hh:∃ b,HO s ss l ys mv=some b/\(b.2=(s.2.1,s.2.2)/\RV b.1/\∀ f g y,In b.1 f g y↔In (o_ ss (yN s (B3 l) s.2.2.length)) f g y\/((y∈ys\/∃ k,k<mv.length/\y∈S k)/\Pr s y (gl 0#64 s.2.1 y.toNat) f g)) by
  obtain⟨b,h1,h2,h3,h4⟩:=hh
  exact⟨b.1,by rw[h1,←h2],h3,h4⟩
 unfold HO
 rw[tC h hl,AZ,AXO hr (by omega),AZ]
 have wrap:∀ {σ α:Type} {X:Option α} {Q:α->Prop},(∃ x,X=some x/\Q x)->∃ b,Option.map (Sum.inr (α:=σ)) X=some (Sum.inr b)/\Q b:=by
  rintro σ α X Q ⟨x,rfl,hx⟩;exact⟨x,rfl,hx⟩
 refine notes h hy ?_ (hr.drop _) ?_
 ·intro k ss1 hk
  have:=hy _ (BN (d:=0) hk)
  simp only[HX]
  rw[AA (by omega),AA (by omega),AA (by omega),AE (e:=(k:Int)+1) (by omega) (by omega)]
 ·intro ss1 h1 h2
  simp only
  rw[AD (by omega)]
  refine wrap (AO (fun k (st:Ss×Int×List (BitVec 64)×List Fr)=>st.2=((k:Int),s.2.1,s.2.2)/\RV st.1/\∀ f g y,In st.1 f g y↔In (o_ ss (yN s (B3 l) s.2.2.length)) f g y\/((y∈ys\/∃ j,j<k/\y∈S j)/\Pr s y (gl 0#64 s.2.1 y.toNat) f g)) _ mv.length ?_ ?_ ⟨rfl,h1,fun f g y=> ?_⟩)
  ·rintro k ⟨ss2,st⟩ hk ⟨hst,h3,h4⟩
   simp only at hst h3 h4
   subst hst
   obtain⟨g1,g2,g3⟩:=hS k hk
   left
   simp only[HX]
   rw[AA (by omega),AA (by omega)]
   have e1:((s.1,s.2.1,s.2.2):Sp)=s:=rfl
   rw[e1,g1,AZ]
   have key:=notes (β:=(Ss×Int×List (BitVec 64)×List Fr) ⊕ (Ss×List (BitVec 64)×List Fr)) h g3 (f:=fun s3:Ss×Int×List (BitVec 64)×List Fr=>
    if s3.2.1<((S k).length:Int) then
    if 0<=s3.2.1/\s3.2.1<((S k).length:Int) then
    if 0<=(gl (0:Int) (S k) s3.2.1.toNat)/\(gl (0:Int) (S k) s3.2.1.toNat)<(s3.2.2.1.length:Int) then
    Option.bind (CS (s.1,s3.2.2) s3.1 (gl (0:Int) (S k) s3.2.1.toNat) (gl (0#64:(BitVec 64)) s3.2.2.1 ((gl (0:Int) (S k) s3.2.1.toNat).toNat))) (fun r5=>
    some (Sum.inl ((r5.1,AG (s3.2.1+1),r5.2.1,r5.2.2))))
    else none
    else none
    else some (Sum.inr (Sum.inl ((s3.1,AG ((k:Int)+1),s3.2.2.1,s3.2.2.2))))) (ss:=ss2) (by
     intro j ss3 hj
     have:=g3 _ (BN (d:=0) hj)
     simp only[HX]
     rw[AA (by omega),AA (by omega),AA (by omega),AE (e:=(j:Int)+1) (by omega) (by omega)]) h3
    (Q:=fun b=>∃ s',b=Sum.inl s' /\(s'.2=(((k+1:Nat):Int),s.2.1,s.2.2)/\RV s'.1/\∀ f g y,In s'.1 f g y↔In (o_ ss (yN s (B3 l) s.2.2.length)) f g y\/((y∈ys\/∃ j,j<k+1/\y∈S j)/\Pr s y (gl 0#64 s.2.1 y.toNat) f g))) (by
     intro ss3 h5 h6
     simp only
     rw[AD (by omega),AE (e:=(k:Int)+1) (by omega) (by omega)]
     refine⟨_,rfl,_,rfl,rfl,h5,fun f g y=> ?_⟩
     simp only
     rw[h6,h4]
     constructor
     ·rintro ((h|⟨h|⟨j,hj,hjy⟩,h'⟩)|⟨h,h'⟩)
      ·exact .inl h
      ·exact .inr ⟨.inl h,h'⟩
      ·exact .inr ⟨.inr ⟨j,by omega,hjy⟩,h'⟩
      ·exact .inr ⟨.inr ⟨k,by omega,h⟩,h'⟩
     ·rintro (h|⟨h|⟨j,hj,hjy⟩,h'⟩)
      ·exact .inl (.inl h)
      ·exact .inl (.inr ⟨.inl h,h'⟩)
      ·by_cases kL:j=k
       ·subst kL;exact .inr ⟨hjy,h'⟩
       ·exact .inl (.inr ⟨.inr ⟨j,by omega,hjy⟩,h'⟩))
   obtain⟨b,hb,s',rfl,hs'⟩:=key
   exact⟨s',hb,hs'⟩
  ·rintro⟨ss2,st⟩ ⟨hst,h3,h4⟩
   simp only at hst h3 h4
   subst hst
   simp only
   rw[AD (by omega)]
   exact⟨_,rfl,rfl,h3,h4⟩
  ·simp only
   rw[h2]
   constructor
   ·rintro (h|⟨h,h'⟩)
    ·exact .inl h
    ·exact .inr ⟨.inl h,h'⟩
   ·rintro (h|⟨h|⟨j,hj,_⟩,h'⟩)
    ·exact .inl h
    ·exact .inr ⟨h,h'⟩
    ·omega
theorem A4Y (s:Sp) {q b:Int} (q0:0<=q) (q1:q<=4294967295) (b0:0<=b) (b1:b<4):EJ s (q,b, -1, -1,0):=⟨by simp only;omega,.inl (by simp)⟩
theorem HI.gw {s:Sp} {q:Rows} {n:Int} {ss:Ss} {r:Ro} (h:HI s q n ss r) {l:List AH} (hl:∀ i∈l,i∈q.flatten) {w:BitVec 64} (hw:Rf s q w):Gw s l w:=by
 intro hn
 rcases hw with hw|⟨k,hk,p,x,o⟩
 ·exact absurd hw hn.1
 ·have hr:=o.J9 h.hb.bv.vs (h.hb.fit hk).1
  have h3:=hn.2.2
  rw[hr.2.2.1] at h3
  obtain⟨i,hi,he⟩:=LH.1 h3
  rw[h.hb.uniq (hl i hi) hk he] at hi
  exact⟨k,hi,p,x,o⟩
structure Rch (R:Int->Prop) (s:Sp) (q:Rows) (r:Ro) (l:List AH):Prop where
 ob:∀ i∈l,∀ la oa pa a x,OB s i la oa pa a x->R a->∀ j ya,1<=j->j<=x.1->DY (sz s.1) la (pa+j)=some ya->Wn (B3 l) s (gl 0#64 s.2.1 ya.toNat)->R (((gl 0#64 s.2.1 ya.toNat).toNat:Int)-1)
 rt:∀ i:Nat,i<32->gl false r.1 i=true->Wn (B3 l) s (gl 0#64 r.2 i)->R (((gl 0#64 r.2 i).toNat:Int)-1)
 sl:∀ y,Slot s q y->(fr s.2.2 (y / sz s.1)).1∉B3 l->Wn (B3 l) s (gl 0#64 s.2.1 y.toNat)->R (((gl 0#64 s.2.1 y.toNat).toNat:Int)-1)
def Dn (R:Int->Prop) (h:Hs) (l:List AH) (CC:AH) (h' :Hs) (u:Int):Prop:=
 ∃ l0 E_ t to lb m mv ys ws r' V9 st,PQ R h.2.1 h.2.2.1 h.2.2.2.1 h.2.2.2.2.1 h.2.2.2.2.2.1 l CC l0 E_ t to lb m mv ys ws r' /\Sin h.2.1 h.2.2.2.2.1 l E_ t to lb m mv ys ws V9 ∧
  h' =(h.1,OE t ws l,Y0 h.2.2.1 l CC to,AA4 h.2.2.2.1 CC to,V9,r',h.2.2.2.2.2.2.1,st,h.2.2.2.2.2.2.2.2)/\u=to.2.2.2.2-CC.2.2.2.2
theorem Dn.hv {R:Int->Prop} {N:Int} {h:Hs} {l:List AH} {CC:AH} {h' :Hs} {u:Int} (v:HV N h) (d:Dn R h l CC h' u):HV (N+1) h' :=by
 obtain⟨l0,E_,t,to,lb,m,mv,ys,ws,r',V9,st,h1,h2,rfl, -⟩:=d
 have:=AEN h.2.2.2.1 CC to
 have:=v.n1
 exact⟨v.g,h1.done h2,by simp only;rw[h1.okN.2];exact v.ql,by simp only;omega⟩
theorem Tg.cd {N:Int} {h:Hs} (v:HV N h) (hN:N<=4294967295) {l:List AH} {CC:AH} (g:Tg h l CC):(∃ l0 E_,Cd h.2.1 h.2.2.1 l CC l0 E_)/\(CC∈h.2.2.1.flatten\/(CC.1=h.2.2.2.1/\CC.2.2.2.2=0/\0<=CC.2.1/\CC.2.1<h.2.2.1.length)):=by
 have hv:=v.vs
 rcases g.tgt with ht|ht
 ·obtain⟨E_,l0,h1,h2⟩:=v.hi.hb.full CC ht
  have hf:=v.hi.hb.fit ht
  exact⟨⟨l0,E_,v.hi.hb,g.sub,hf.1,g.out,fun hw=>by omega,h1,h2⟩,.inl ht⟩
 ·have h0:gl ((0,0,0,0,0):AH) l 0∈l:=BN (mQ.2 g.ne)
  obtain⟨⟨r0,r1⟩, -⟩:=(F_.1 v.hi.hb.bv.ok).1.row (g.sub _ h0)
  have hql:=v.ql
  obtain⟨-, -,htb⟩:=v.g.ru _ r0 (by omega)
  have hg:=v.g.n
  generalize hT:(ru h.1 (gl ((0,0,0,0,0):AH) l 0).2.1).2.2.2=T at htb ht
  have hTr:0<=T/\T<h.1.2.1.length:=by
   unfold FY at htb
   rw[hT] at htb
   by_cases WU:(gl ((0,0,0,0,0):AH) l 0).2.1=(h.1.2.1.length:Int)-1
   ·have:T=(gl ((0,0,0,0,0):AH) l 0).2.1:=AC9 fun hn=>htb (.inl ⟨WU,hn⟩)
    omega
   ·have h1:¬(T<=(gl ((0,0,0,0,0):AH) l 0).2.1\/(h.1.2.1.length:Int)-1<T):=fun hn=>htb (.inr ⟨by omega,hn⟩)
    omega
  subst ht
  have hn0:=v.hi.n0
  have hn1:=v.n1
  refine⟨⟨[],[],v.hi.hb,g.sub,A4Y _ hn0 (by omega) hTr.1 (by omega),g.out,fun _=> ?_,.inl ⟨rfl,rfl⟩,rfl⟩,.inr ⟨rfl,rfl,hTr.1,by simp only;omega⟩⟩
  refine AQL.2 fun x hx=> ?_
  obtain⟨⟨x0,x1⟩,hxo⟩:=CB.1 hx
  simp only at hxo
  have:=v.hi.hb.bv.cov x x0 x1 (by rw[hxo];omega)
  obtain⟨i,hi,he⟩:=DD.1 this
  have:=v.hi.seq i hi
  omega
theorem Y1 {σ α:Type} {X:Option α} {Q:α->Prop} (h:∃ x,X=some x/\Q x):∃ b,Option.map (Sum.inr (α:=σ)) X=some (Sum.inr b)/\Q b:=by
 obtain⟨x,rfl,hx⟩:=h;exact⟨x,rfl,hx⟩
theorem AIH {α β:Type} {d:α} {n:Nat} (val:Nat->α) {a0:List α} {f:List α×Int->Option ((List α×Int) ⊕ β)} (hs:∀ (k:Nat) acc,k<n->acc.length=a0.length+k->f (acc,(k:Int))=some (.inl (acc++ [val k],(k:Int)+1))) {Q:β->Prop}
  (he:∀ acc,acc.length=a0.length+n->(∀ k,k<n->gl d acc (a0.length+k)=val k)->(∀ k,k<a0.length->gl d acc k=gl d a0 k)->∃ b,f (acc,(n:Int))=some (.inr b)/\Q b):∃ b,AI f (a0,0)=some b/\Q b:=by
 refine AO (f:=f) (fun k (st:List α×Int)=>st.2=(k:Int)/\st.1.length=a0.length+k/\(∀ j,j<k->gl d st.1 (a0.length+j)=val j)/\∀ j,j<a0.length->gl d st.1 j=gl d a0 j) Q n ?_ ?_ (s:=(a0,0)) ⟨rfl,rfl,fun j hj=>by omega,fun _ _=>rfl⟩
 ·rintro k ⟨acc,kk⟩ hk ⟨I0,hl,h1,h2⟩
  simp only at I0 hl h1 h2
  subst I0
  refine .inl ⟨_,hs k acc hk hl,rfl,by simp only[JK,IC];omega,fun j hj=> ?_,fun j hj=> ?_⟩
  ·simp only
   by_cases kL:j=k
   ·subst kL
    rw[D8 (xs:=acc++ [val j]) (by rw[JK,IC];omega),AA7 (by omega)]
    simp only[hl,mX,AQT]
   ·rw[ZJ (by omega)];exact h1 j (by omega)
  ·simp only
   rw[ZJ (by omega)];exact h2 j hj
 ·rintro⟨acc,kk⟩ ⟨I0,hl,h1,h2⟩
  simp only at I0 hl h1 h2
  subst I0
  exact he acc hl h1 h2
theorem A24 (u:List Bool) (k:Nat):(liv u k).Pairwise (·< ·):=by
 induction k with
 |zero=>exact List.Pairwise.nil
 |succ k ih=>
  unfold liv
  split
  ·rw[vP]
   refine⟨ih,ALE _ _,fun a ha b hb=> ?_⟩
   obtain⟨j,hj,_,rfl⟩:=u4.1 ha
   rw[HA.1 hb];omega
  ·rw[HH];exact ih
theorem AZN {l:List Int} (h:l.Pairwise (·< ·)) {j k:Nat} (hj:j<l.length) (hk:k<l.length) (he:gl 0 l j=gl 0 l k):j=k:=by
 rw[D8 hj,D8 hk] at he
 rcases Nat.lt_trichotomy j k with DO|DO|DO
 ·have:=AIW.1 h j k hj hk DO;omega
 ·exact DO
 ·have:=AIW.1 h k j hk hj DO;omega
theorem PQ.obW {R:Int->Prop} {s0:Sp} {q:Rows} {n:Int} {ss:Ss} {r:Ro} {l:List AH} {CC:AH} {l0:List Int} {E_:List (Int×Int)} {t:Sp} {to:AH} {lb:List Int} {m mv:List (Int×Int)} {ys:List Int} {ws:List (BitVec 64)} {r' :Ro}
  (h:PQ R s0 q n ss r l CC l0 E_ t to lb m mv ys ws r') {p a:Int} {x:Int×Int} (o:OB t to lb (E_++m) p a x):OB (t.1,ws,t.2.2) to lb (E_++m) p a x/\EJ (t.1,ws,t.2.2) to:=by
 have hz:sz t.1=sz s0.1:=by rw[h.ci.sh]
 refine⟨⟨o.has,o.TT.ABZ fun p x a hp ha=>⟨ha, ?_⟩,o.ta,o.J9⟩, ?_⟩
 ·have hr:=h.ci.TT.ta hp
  have hc:=D0 h.ci.cy.vs h.ci.cy.fit h.ci.has hr.2.2.1 ha
  refine h.w2 a hc.1.1 fun hm=> ?_
  rw[hz] at ha
  obtain⟨_,p',a',x',j,o',j1,j2,he⟩:=h.yT hr.2.2.1 ha hm
  have:=o'.IZ
  rcases h.ci.TT.apart hp (TA.app (m:=m) o'.ta) with ⟨h3,_⟩|h3|h3 <;> omega
 ·have hf:=h.ci.cy.fit
  refine⟨?_,hf.2⟩
  have:=hf.1
  have e1:ws.length=t.2.1.length:=by rw[h.wl,h.ci.wl]
  simp only
  rw[e1];exact this
theorem AQ9 {β:Type} {c:Cf} {s:Sp} {q:Rows} {rest:Int×Ss×Ro×Int×(Int×Int×Int×Int×Int×Int×Int×Int×Int)×Bool} (hv:VS s) (hN:OkN q) {l:List AH} (hl:∀ i∈l,i∈q.flatten/\0<=i.1) (JE:(B3 l).Nodup) (yD:l.length<=1000000)
  (hq1:q.length<=4) (hq2:q.flatten.length<=64) {fin:Int×Hs->Option β} {f:Int×Hs->Option ((Int×Hs) ⊕ β)}
  (hs:∀ s6:Int×Hs,f s6=if s6.1<(l.length:Int) then
   if 0<=s6.1/\s6.1<(l.length:Int) then
   Option.bind (EH s6.2.2.2.1 ((gl ((0,0,0,0,0):(Int×Int×Int×Int×Int)) l s6.1.toNat).1)) (fun r9=>
   Option.bind (HP s6.2.2.1 ((gl ((0,0,0,0,0):(Int×Int×Int×Int×Int)) l s6.1.toNat).1)) (fun JJ=>
   some (Sum.inl ((AG (s6.1+1),(s6.2.1,(s6.2.2.1.1,JJ.2),r9.1,s6.2.2.2.2))))))
   else none
   else Option.map Sum.inr (fin s6)) {Q:β->Prop}
  (he:∃ b,fin ((l.length:Int),(c,gvs s (B3 l),kU q (B3 l),rest))=some b/\Q b):∃ b,AI f (0,(c,s,q,rest))=some b/\Q b:=by
 refine AO (f:=f) (fun k (st:Int×Hs)=>st=((k:Int),(c,gvs s (B3 (l.take k)),kU q (B3 (l.take k)),rest))) Q l.length ?_ ?_ (s:=(0,(c,s,q,rest))) ?_
 ·rintro k st hk rfl
  left
  rw[hs]
  simp only[HX]
  rw[AA (by omega),AA (by omega)]
  have hm:=BN (d:=((0,0,0,0,0):AH)) hk
  obtain⟨hi,hi0⟩:=hl _ hm
  have hrm:=hN.kU (B3 (l.take k))
  have tP:(kU q (B3 (l.take k))).flatten.length<=64:=by
   rw[gB];exact kF (mO _ _) hq2
  have AFY:(gl ((0,0,0,0,0):AH) l k).1∉B3 (l.take k):=by
   intro hm
   have h1:=JE
   rw[show B3 l=B3 (l.take k)++B3 (gl ((0,0,0,0,0):AH) l k::l.drop (k+1)) from by
    conv=>lhs;rw[uZ (d:=((0,0,0,0,0):AH)) l k hk]
    unfold B3;rw[bA],RF] at h1
   exact h1.2.2 _ hm _ (by unfold B3;rw[MN];exact vQ) rfl
  rw[AQ5 (by rw[OY];omega) (fun x hx=>by have:=pD tP x hx;omega) hrm.nd (OZ.2 ⟨hi,AFY⟩),AZ]
  have hvk:=(AKZ (C:=B3 (l.take k)) hv (fun n hn=>by
   obtain⟨i,hi,rfl⟩:=LH.1 hn
   exact (hl i (AA9 hi)).2)).1
  rw[APQ hvk _ (by omega),AZ,AE (by omega) (by omega)]
  refine⟨_,rfl, ?_⟩
  rw[AC1 hk,AI9,AUR]
  rfl
 ·rintro st rfl
  rw[hs]
  simp only
  rw[AD (by omega),SD]
  exact Y1 he
 ·simp only[List.take_zero]
  rw[show B3 []=[] from rfl,AXU];rfl
abbrev hz0:Hs:=(((⟨#[]⟩:ByteArray),[],0),(0,[],[]),[],0,[],([],[]),0,(0,0,0,0,0,0,0,0,0),false)
theorem A4Z {R:Int->Prop} {N:Int} {h:Hs} (v:HV N h) (hN:N<=4294967295) {l:List AH} (hl:l.length<=1000000) (hR:Rch R h.2.1 h.2.2.1 h.2.2.2.2.2.1 l):
  ∃ h' rep e,CH h l=some (h',rep,e)/\((e≠0/\h' =hz0)\/(e=0/\∃ CC u,Tg h l CC/\Dn R h l CC h' u)):=by
 suffices hh:∃ x,CH h l=some x/\((x.2.2≠0/\x.1=hz0)\/(x.2.2=0/\∃ CC u,Tg h l CC/\Dn R h l CC x.1 u)) by
  obtain⟨x,h1,h2⟩:=hh
  exact⟨x.1,x.2.1,x.2.2,h1,h2⟩
 obtain⟨CC,e,ht1,ht2⟩:=AQ8 v hl
 unfold CH
 rw[ht1,AZ]
 rcases ht2 with he|⟨rfl,tg⟩
 ·rw[AA he];exact⟨_,rfl,.inl ⟨he,rfl⟩⟩
 rw[AD (show ¬¬((CC,(0:Int)).2=0) from H_ rfl)]
 obtain⟨⟨l0,E_,cd⟩,tgt⟩:=tg.cd v hN
 obtain⟨l1,l2,l3⟩:=v.hi.hb.lens
 have hv:=v.vs
 have hn:=hv.n
 have pQ:=VS.PO hv
 have KP:=tg.sub
 refine AO (fun k (st:Int×Int×(Int×Int×Int×Int))=>st.2.1=(k:Int)) _ l.length ?_ ?_ (s:=(0,0,(0,0,0,0))) rfl
 ·rintro k st hk hst
  left
  have hm:=KP _ (BN (d:=((0,0,0,0,0):AH)) hk)
  have hf:=(v.hi.hb.fit hm).1.1
  rw[hst]
  simp only[HX]
  rw[AA (by omega),AA (by omega),fY,RR hv (by omega) (by omega),AZ,AE (e:=(k:Int)+1) (by omega) (by omega)]
  exact⟨_,rfl,rfl⟩
 intro st hst
 rw[hst,AD (by omega)]
 refine Y1 ?_
 rw[uV hn.2,AZ]
 by_cases MY:st.1>((DX h.2.1.2.2).length:Int)
 ·rw[AA MY];exact⟨_,rfl,.inl ⟨by decide,rfl⟩⟩
 rw[AD MY,v.copy,AZ,AI4 hv v.hi.ro hl,AZ]
 obtain⟨ys,ne,wG,he2,he3⟩:=AI5 hv v.hi.rv hl
 rw[wG,AZ]
 generalize hH:((liv h.2.2.2.2.2.1.1 32).filter fun x=>decide (Wn (B3 l) h.2.1 (gl 0#64 h.2.2.2.2.2.1.2 (x-1).toNat)))=H
 have hHp:H.Pairwise (·< ·):=by rw[<-hH];exact (A24 _ _).filter _
 have hHm:∀ x,x∈H↔(∃ j:Nat,j<32/\gl false h.2.2.2.2.2.1.1 j=true/\x=(j:Int)+1)/\Wn (B3 l) h.2.1 (gl 0#64 h.2.2.2.2.2.1.2 (x-1).toNat):=by
  intro x;rw[<-hH,bB,u4,JL]
 have hHr:∀ k,k<H.length->1<=gl 0 H k/\gl 0 H k<=32:=by
  intro k hk
  obtain⟨⟨j,hj,_,he⟩,_⟩:=(hHm _).1 (BN (d:=0) hk)
  omega
 have hHl:H.length<=32:=by
  have h1:=pB h.2.2.2.2.2.1.1 32
  rw[<-hH];exact kF (mO _ _) h1
 have mM:ys.length<=16384:=rK he2 fun y hy=>by have:=((he3 y).1 hy).2.1;omega
 have hyr:∀ k,k<ys.length->0<=gl 0 ys k/\gl 0 ys k<h.2.1.2.1.length:=fun k hk=>((he3 _).1 (BN (d:=0) hk)).2.1
 have hrl:=v.hi.ro.rl
 have hru:=v.hi.ro.ul
 dsimp only
 refine AIH (d:=0#64) (n:=H.length) (fun k=>gl 0#64 h.2.2.2.2.2.1.2 (gl 0 H k-1).toNat) ?_ ?_
 ·intro k acc hk AWR
  have:=hHr k hk
  simp only[VG] at AWR
  simp only[HX]
  rw[AA (by omega),AA (by omega),AE (e:=gl 0 H k-1) (by omega) (by omega),AA (by omega),AA (by simp only[IC];omega),AE (e:=(k:Int)+1) (by omega) (by omega)]
 intro ws1 hw1 hw2 _
 simp only[VG,KK] at hw1 hw2
 dsimp only
 rw[AD (by omega)]
 refine Y1 ?_
 refine AIH (d:=0#64) (n:=ys.length) (fun k=>gl 0#64 h.2.1.2.1 (gl 0 ys k).toNat) ?_ ?_
 ·intro k acc hk AWR
  have:=hyr k hk
  simp only[HX]
  rw[AA (by omega),AA (by omega),AA (by omega),AA (by simp only[IC];omega),AE (e:=(k:Int)+1) (by omega) (by omega)]
 intro words hw3 hw4 hw5
 dsimp only
 rw[AD (by omega)]
 refine Y1 ?_
 have hwk:∀ k,k<H.length->gl 0#64 words k=gl 0#64 h.2.2.2.2.2.1.2 (gl 0 H k-1).toNat:=fun k hk=>by rw[hw5 k (by omega),hw2 k hk]
 have hwy:∀ k,k<ys.length->gl 0#64 words (H.length+k)=gl 0#64 h.2.1.2.1 (gl 0 ys k).toNat:=fun k hk=>by rw[<-hw1];exact hw4 k hk
 have ABC:∀ y∈ys,Slot h.2.1 h.2.2.1 y/\(fr h.2.1.2.2 (y / sz h.2.1.1)).1∉B3 l:=by
  intro y hy
  obtain⟨⟨f,g,h1,h2,h3⟩,h4,_⟩:=(he3 y).1 hy
  obtain⟨h5,h6⟩:=v.hi.ins f g y h1
  have ff:=HU hv h4.1 h4.2
  exact⟨h5,fun hC=>h3 (aC.2 ⟨by rw[h6];exact ff,by rw[h6];exact hC⟩)⟩
 have grf:Grf R h.2.1 l:=by
  intro i hi la oa pa a x o hRa j ya j1 j2 hya
  exact⟨v.hi.gw KP (v.hi.ref ya ⟨i,KP i hi,la,oa,pa,a,x,j,o,j1,j2,hya⟩),hR.ob i hi la oa pa a x o hRa j ya j1 j2 hya⟩
 have gws:∀ w∈words,Gw h.2.1 l w/\(Wn (B3 l) h.2.1 w->R ((w.toNat:Int)-1)):=by
  intro w hw
  obtain⟨k,hk,rfl⟩:=HD (d:=0#64) hw
  rw[hw3,hw1] at hk
  by_cases hkH:k<H.length
  ·rw[hwk k hkH]
   obtain⟨⟨j,hj,hu,he⟩,_⟩:=(hHm _).1 (BN (d:=0) hkH)
   rw[he,show ((j:Int)+1-1).toNat=j from by omega]
   exact⟨v.hi.gw KP (.inr (v.hi.root j hj hu).2),hR.rt j hj hu⟩
  ·obtain⟨k',rfl⟩:∃ k',k=H.length+k' :=⟨k-H.length,by omega⟩
   rw[hwy k' (by omega)]
   obtain⟨h1,h2⟩:=ABC _ (BN (d:=0) (k:=k') (xs:=ys) (by omega))
   exact⟨v.hi.gw KP (v.hi.ref _ h1),hR.sl _ h1 h2⟩
 obtain⟨res,hr1,uP⟩:=A22 cd hl grf (ws:=words) (by omega) gws
 rw[hr1,AZ]
 rcases uP with uP|⟨t,to,lb,m,mv,out,rfl,ci,hol,him⟩
 ·rw[AA uP];exact⟨_,rfl,.inl ⟨uP,rfl⟩⟩
 rw[AD (show ¬¬((to,mv,out,(0:Int),t.2.1,t.2.2,l).2.2.2.1=0) from H_ rfl)]
 refine ANS (d:=0#64) (n:=H.length) (fun k=>gl 0 H k-1) (fun k=>gl 0#64 out k) (fun k hk=>by have:=hHr k hk;omega) (fun j k hj hk he=>AZN hHp hj hk (by omega)) ?_ ?_
 ·intro k rs hk hrs
  have:=hHr k hk
  simp only[HX]
  rw[AA (by omega),AA (by omega),AA (by omega),AE (e:=gl 0 H k-1) (by omega) (by omega),AA (by omega),AE (e:=(k:Int)+1) (by omega) (by omega)]
 intro rs hrs A7C A50
 dsimp only
 rw[AD (by omega)]
 refine Y1 ?_
 refine ANS (d:=0#64) (n:=ys.length) (fun k=>gl 0 ys k) (fun k=>gl 0#64 out (H.length+k)) (fun k hk=>by have:=hyr k hk;rw[ci.wl];exact this) (fun j k hj hk he=>AZN he2 hj hk he) ?_ ?_
 ·intro k ws hk hws
  have:=hyr k hk
  rw[ci.wl] at hws
  simp only[HX]
  rw[AA (by omega),AA (by omega),AE (e:=(H.length:Int)+k) (by omega) (by omega),AA (by omega),AA (by omega),AE (e:=(k:Int)+1) (by omega) (by omega),show ((H.length:Int)+k).toNat=H.length+k from by omega]
 intro ws hws A7D A7E
 rw[ci.wl] at hws
 dsimp only
 rw[AD (by omega)]
 refine Y1 ?_
 have stp:PQ R h.2.1 h.2.2.1 h.2.2.2.1 h.2.2.2.2.1 h.2.2.2.2.2.1 l CC l0 E_ t to lb m mv ys ws (h.2.2.2.2.2.1.1,rs):=by
  refine⟨v.hi,tg.pfx.pre v.hi.hb KP,tgt,cd,ci,he3,hws,fun y hy=> ?_,fun y y0 hy=> ?_,rfl,hrs,fun i hi hu=> ?_,fun i hi hu=> ?_⟩
  ·obtain⟨k,hk,rfl⟩:=HD (d:=0) hy
   rw[A7D k hk,←hwy k hk]
   exact him _ (by omega)
  ·refine A7E y.toNat fun k hk he=>hy ?_
   rw[show y=gl 0 ys k from by omega]
   exact BN hk
  ·by_cases hw:Wn (B3 l) h.2.1 (gl 0#64 h.2.2.2.2.2.1.2 i)
   ·have hm:((i:Int)+1)∈H:=(hHm _).2 ⟨⟨i,hi,hu,rfl⟩,by rw[show ((i:Int)+1-1).toNat=i from by omega];exact hw⟩
    obtain⟨k,hk,he⟩:=HD (d:=0) hm
    have h1:=A7C k hk
    have h2:=hwk k hk
    rw[he,show ((i:Int)+1-1).toNat=i from by omega] at h1 h2
    simp only
    rw[h1,←h2]
    exact him k (by omega)
   ·refine .inl ⟨hw, ?_⟩
    refine A50 i fun k hk he=>hw ?_
    have h1:=((hHm _).1 (BN (d:=0) hk)).2
    rw[he] at h1
    simpa using h1
  ·refine A50 i fun k hk he=> ?_
   obtain⟨⟨j,hj,hu',zH⟩,_⟩:=(hHm _).1 (BN (d:=0) hk)
   rw[show j=i from by omega,hu] at hu'
   cases hu'
 have hvT:=stp.vsT
 have hz:sz t.1=sz h.2.1.1:=by rw[ci.sh]
 have hml:=ci.AUN cd
 have hS:∀ k,k<mv.length->∃ S:List Int,(CO (t.1,ws,t.2.2) (gl (0,0) mv k).2=some (S,0)/\S.length<=1000000/\∀ y∈S,0<=y/\y<ws.length)∧
   ∀ y,y∈S↔∃ p x j,OB t to lb (E_++m) p (gl (0,0) mv k).2 x/\1<=j/\j<=x.1/\DY (sz h.2.1.1) lb (p+j)=some y:=by
  intro k hk
  obtain⟨i,la,oa,pa,p,cc⟩:=ci.cop k hk
  obtain⟨ow,fw⟩:=stp.obW cc.dst
  have hf:=ow.fields hvT fw
  have hro:=cc.dst.IZ
  have ACZ:∀ j:Nat,j<(gl (0,0) m k).1.toNat->∃ y,DY (sz h.2.1.1) lb (p+(1+(j:Int)))=some y/\(0<=y/\y<ws.length):=by
   intro j hj
   obtain⟨y,hy⟩:=cc.dst.fld ci.cy.vs ci.cy.fit (k:=1+(j:Int)) (by omega) (by omega)
   have hc:=D0 ci.cy.vs ci.cy.fit ci.has (by omega) hy
   rw[hz] at hy
   rw[ci.wl] at hc
   exact⟨y,hy,by rw[hws];exact hc.1⟩
  have XE:∀ y,y∈pC (sz t.1) lb p (gl (0,0) m k).1.toNat↔∃ j:Nat,j<(gl (0,0) m k).1.toNat/\DY (sz h.2.1.1) lb (p+(1+(j:Int)))=some y:=by
   intro y
   rw[hz]
   constructor
   ·intro hy
    obtain⟨j,hj,rfl⟩:=HD (d:=0) hy
    rw[OS] at hj
    obtain⟨y,hy1,_⟩:=ACZ j hj
    refine⟨j,hj, ?_⟩
    rw[u6 hj,hy1];rfl
   ·rintro⟨j,hj,hy⟩
    have:gl 0 (pC (sz h.2.1.1) lb p (gl (0,0) m k).1.toNat) j=y:=by rw[u6 hj,hy];rfl
    rw[<-this]
    exact BN (by rw[OS];exact hj)
  refine⟨_,⟨hf,by rw[OS];omega,fun y hy=> ?_⟩,fun y=> ?_⟩
  ·obtain⟨j,hj,hy⟩:=(XE y).1 hy
   obtain⟨y',hy1,hy2⟩:=ACZ j hj
   rw[hy] at hy1
   rw[XW hy1];exact hy2
  ·rw[XE]
   constructor
   ·rintro⟨j,hj,hy⟩
    exact⟨p,_,1+(j:Int),cc.dst,by omega,by omega,hy⟩
   ·rintro⟨p',x',j,o',j1,j2,hy⟩
    have A7F :=o'.IZ
    have hpp:p=p' :=ci.same cc A7F.2.2.1 (by rw[<-hz];exact o'.J9)
    subst hpp
    have hx:x' =gl (0,0) m k:=by
     rcases ci.TT.apart o'.ta cc.dst.ta with ⟨_,h3⟩|h3|h3
     ·exact h3
     ·omega
     ·omega
    rw[hx] at j2
    exact⟨(j-1).toNat,by omega,by rw[show (1+((j-1).toNat:Int))=j from by omega];exact hy⟩
 have hSc:∃ S:Nat->List Int,∀ k,k<mv.length->(CO (t.1,ws,t.2.2) (gl (0,0) mv k).2=some (S k,0)/\(S k).length<=1000000/\∀ y∈S k,0<=y/\y<ws.length)∧
   ∀ y,y∈S k↔∃ p x j,OB t to lb (E_++m) p (gl (0,0) mv k).2 x/\1<=j/\j<=x.1/\DY (sz h.2.1.1) lb (p+j)=some y:=
  ⟨fun k=>if hk:k<mv.length then Classical.choose (hS k hk) else [],fun k hk=>by simp only[dif_pos hk];exact Classical.choose_spec (hS k hk)⟩
 obtain⟨S,hS'⟩:=hSc
 obtain⟨V9,hn1,hn2,hn3⟩:=AUZ hvT v.hi.rv hl (ys:=ys) (fun y hy=>by simp only;rw[hws];exact ((he3 y).1 hy).2.1) (by omega) (mv:=mv) (by omega) S (fun k hk=>(hS' k hk).1)
 have uK:((h.2.1.1,ws,t.2.2):Sp)=(t.1,ws,t.2.2):=by rw[ci.sh]
 rw[uK,hn1,AZ]
 have hcf:yN (t.1,ws,t.2.2) (B3 l) t.2.2.length=yN h.2.1 (B3 l) h.2.1.2.2.length:=by
  unfold yN
  rw[ci.fl]
  refine rR fun x hx=> ?_
  obtain⟨x0,x1⟩:=NJ.1 hx
  rw[tI]
  exact ci.inC cd x0 x1
 have sin:Sin h.2.1 h.2.2.2.2.1 l E_ t to lb m mv ys ws V9 :=by
  refine⟨hn2,fun f g y=> ?_⟩
  rw[hn3]
  simp only
  rw[hcf]
  have:(∃ k,k<mv.length/\y∈S k)↔∃ k,k<mv.length/\∃ p x j,OB t to lb (E_++m) p (gl (0,0) mv k).2 x/\1<=j/\j<=x.1/\DY (sz h.2.1.1) lb (p+j)=some y:=
   ⟨fun ⟨k,hk,hy⟩=>⟨k,hk,((hS' k hk).2 y).1 hy⟩,fun ⟨k,hk,hy⟩=>⟨k,hk,((hS' k hk).2 y).2 hy⟩⟩
  rw[this]
 dsimp only
 rw[<-ci.sh]
 have hN0:=(F_.1 v.hi.hb.bv.ok).1
 refine AQ9 (s:=(t.1,ws,t.2.2)) (q:=h.2.2.1) hvT hN0 (fun i hi=>⟨KP i hi,(v.hi.hb.fit (KP i hi)).1.1.1⟩) tg.pfx.AXX hl l1 l2 (fun s6=>rfl) ?_
 dsimp only
 have hrl:=rL v.hi.ro
 have tP:(kU h.2.2.1 (B3 l)).flatten.length<=64:=by
  rw[gB];exact kF (mO _ _) l2
 have AL0:=ci.seq
 have yR:=ci.j9
 have hn0:=v.hi.n0
 have hn1:=v.n1
 have fin:∀ {x:Hs×(Int×Int×Int×Int)×Int} {Q:Rows} {n' :Int},Y0 h.2.2.1 l CC to=Q->AA4 h.2.2.2.1 CC to=n' ->x.2.2=0->(∃ st,x.1=(h.1,gvs (t.1,ws,t.2.2) (B3 l),Q,n',V9,(h.2.2.2.2.2.1.1,rs),h.2.2.2.2.2.2.1,st,h.2.2.2.2.2.2.2.2))→
   ((x.2.2≠0/\x.1=hz0)\/(x.2.2=0/\∃ CC u,Tg h l CC/\Dn R h l CC x.1 u)):=by
  rintro x Q n' rfl rfl h1 ⟨st,h2⟩
  exact .inr ⟨h1,CC,_,tg,l0,E_,t,to,lb,m,mv,ys,ws,_,V9,st,stp,sin,h2,rfl⟩
 by_cases c1:CC.2.2.2.2>0
 ·have ht:CC∈h.2.2.1.flatten:=by
   rcases tgt with ht|ht
   ·exact ht
   ·omega
  rw[AA c1,yQ (by rw[OY];omega) (fun x hx=>by have:=pD tP x hx;omega) (hN0.kU _) (OZ.2 ⟨ht,cd.out⟩) AL0.symm yR.symm,AZ,AZ]
  dsimp only
  rw[hrl,AZ]
  exact⟨_,rfl,fin (by unfold Y0;rw[AA c1]) (by unfold AA4;rw[AA c1]) rfl ⟨_,rfl⟩⟩
 ·rw[AD c1]
  have htn:CC.1=h.2.2.2.1/\0<=CC.2.1/\CC.2.1<h.2.2.1.length:=by
   rcases tgt with ht|ht
   ·have:=(v.hi.hb.fit ht).2;omega
   ·exact⟨ht.1,ht.2.2⟩
  by_cases c2:to.2.2.2.2>0
  ·rw[AA c2,AUV (by rw[OY];omega) (fun x hx=>by have:=pD tP x hx;omega) (by omega) (by rw[OY];omega) (fun i hi=>by
    have:=v.hi.seq i (OZ.1 hi).1
    omega),AZ,AZ]
   dsimp only
   rw[hrl,AZ,AE (e:=h.2.2.2.1+1) (by omega) (by omega)]
   exact⟨_,rfl,fin (by unfold Y0;rw[AD c1,AA c2]) (by unfold AA4;rw[AD c1,AA c2]) rfl ⟨_,rfl⟩⟩
  ·rw[AD c2,AZ]
   dsimp only
   rw[hrl,AZ]
   exact⟨_,rfl,fin (by unfold Y0;rw[AD c1,AD c2]) (by unfold AA4;rw[AD c1,AD c2]) rfl ⟨_,rfl⟩⟩
abbrev Cu:Type:=Int×Bool×Int
def AC3 (q:Rows):Int:=if gl [] q (q.length-1)=[] then -1 else (gl ((0,0,0,0,0):AH) (gl [] q (q.length-1)) ((gl [] q (q.length-1)).length-1)).1
def chF (q:Rows) (k:Cu):Cu:=if k.1=(q.length:Int)-1/\k.2.1=false then (k.1,true,AC3 q) else k
def chK (q:Rows):Nat->Cu->Cu
 |0,k=>chF q k
 |n+1,k=>if gl [] q k.1.toNat=[] then chK q n (k.1+1,false,0) else chF q k
def chL (q:Rows) (j:Cu):List AH:=(gl [] q j.1.toNat).filter fun i=>decide (j.1<(q.length:Int)-1\/i.1<=j.2.2)
def chB (z batch:Int):Int->Int->List AH->List AH
 |_,_,[]=>[]
 |f,n,i::r=>if f-cl z i.2.2.2.2<0\/(batch≠0/\n=batch) then [] else i::chB z batch (f-cl z i.2.2.2.2) (n+1) r
def u7 (c:Cf) (s:Sp) (q:Rows) (j:Cu):List AH×Cu×Bool:=
 if chL q j=[] then ([],j,true) else (chB (sz s.1) (ru c j.1).2.2.1 (DX s.2.2).length 0 (chL q j),j,false)
noncomputable def AEO (c:Cf) (s:Sp) (q:Rows) (j:Cu):Option (List AH×Cu×Bool):=
 if 0<=j.1/\j.1<(q.length:Int) then
 AI (σ:=List AH×Int) (β:=List AH×Cu×Bool) (fun s2=>
 if s2.2<((gl ([]:List AH) q j.1.toNat).length:Int) then
 if 0<=s2.2/\s2.2<((gl ([]:List AH) q j.1.toNat).length:Int) then
 if j.1<(AG ((q.length:Int)-1)) then
 if (s2.1.length+([gl ((0,0,0,0,0):AH) (gl ([]:List AH) q j.1.toNat) s2.2.toNat]:List AH).length)*40<=140737488355328 then
 some (Sum.inl ((s2.1++([gl ((0,0,0,0,0):AH) (gl ([]:List AH) q j.1.toNat) s2.2.toNat]:List AH),AG (s2.2+1))))
 else none
 else if (gl ((0,0,0,0,0):AH) (gl ([]:List AH) q j.1.toNat) s2.2.toNat).1<=j.2.2 then
 if (s2.1.length+([gl ((0,0,0,0,0):AH) (gl ([]:List AH) q j.1.toNat) s2.2.toNat]:List AH).length)*40<=140737488355328 then
 some (Sum.inl ((s2.1++([gl ((0,0,0,0,0):AH) (gl ([]:List AH) q j.1.toNat) s2.2.toNat]:List AH),AG (s2.2+1))))
 else none
 else some (Sum.inl ((s2.1,AG (s2.2+1))))
 else none
 else Option.map Sum.inr (if (s2.1.length:Int)=0 then
 some (([],j,true))
 else Option.bind (DS s) (fun r2=>
 if 0<=j.1/\j.1<(c.2.1.length:Int) then
 AI (σ:=List AH×Int×Int) (β:=List AH×Cu×Bool) (fun s3=>
 if s3.2.2<(s2.1.length:Int) then
 if 0<=s3.2.2/\s3.2.2<(s2.1.length:Int) then
 Option.bind (BU s (gl ((0,0,0,0,0):AH) s2.1 s3.2.2.toNat)) (fun r3=>
 if (AG (s3.2.1-r3))<0 then
 some (Sum.inr ((s3.1,j,false)))
 else if ¬(gl ((0,0,0,0):(Nat×Int×Int×Int)) c.2.1 j.1.toNat).2.2.1=0 then
 if (s3.1.length:Int)=(gl ((0,0,0,0):(Nat×Int×Int×Int)) c.2.1 j.1.toNat).2.2.1 then
 some (Sum.inr ((s3.1,j,false)))
 else if (s3.1.length+([gl ((0,0,0,0,0):AH) s2.1 s3.2.2.toNat]:List AH).length)*40<=140737488355328 then
 some (Sum.inl ((s3.1++([gl ((0,0,0,0,0):AH) s2.1 s3.2.2.toNat]:List AH),AG (s3.2.1-r3),AG (s3.2.2+1))))
 else none
 else if (s3.1.length+([gl ((0,0,0,0,0):AH) s2.1 s3.2.2.toNat]:List AH).length)*40<=140737488355328 then
 some (Sum.inl ((s3.1++([gl ((0,0,0,0,0):AH) s2.1 s3.2.2.toNat]:List AH),AG (s3.2.1-r3),AG (s3.2.2+1))))
 else none)
 else none
 else some (Sum.inr ((s3.1,j,false)))) (([],(r2.length:Int),0))
 else none))) (([],0))
 else none
theorem AC4 {c:Cf} {s:Sp} {q:Rows} (hv:VS s) (hx:∀ x∈q,x.length<=1000000) (hq:q.length<=1000000) (hw:∀ i∈q.flatten,0<=i.2.2.2.2/\i.2.2.2.2<=1000000) (hc:q.length<=c.2.1.length) {j:Cu} (j0:0<=j.1) (j1:j.1<q.length):AEO c s q j=some (u7 c s q j):=by
 have hrl:=hx _ (BN (d:=([]:List AH)) (k:=j.1.toNat) (xs:=q) (by omega))
 have hn:=hv.n
 have hwr:∀ i∈gl [] q j.1.toNat,0<=i.2.2.2.2/\i.2.2.2.2<=1000000:=fun i hi=>hw i (mU.2 ⟨_,BN (by omega),hi⟩)
 unfold AEO
 rw[AA (by omega),AE (e:=(q.length:Int)-1) (by omega) (by omega)]
 refine (AO (fun k (st:List AH×Int)=>st=(((gl [] q j.1.toNat).take k).filter (fun i=>decide (j.1<(q.length:Int)-1\/i.1<=j.2.2)),(k:Int))) (fun b=>b=u7 c s q j) (gl [] q j.1.toNat).length ?_ ?_ (s:=([],0)) (by simp)).elim fun b hb=>by rw[hb.1,hb.2]
 ·rintro k st hk rfl
  left
  have tP:=T8 (fun i:AH=>decide (j.1<(q.length:Int)-1\/i.1<=j.2.2)) (gl [] q j.1.toNat) k
  simp only[HX]
  rw[AA (by omega),AA (by omega),f_ (d:=((0,0,0,0,0):AH)) _ _ hk,AE (e:=(k:Int)+1) (by omega) (by omega)]
  by_cases c1:j.1<(q.length:Int)-1
  ·rw[AA c1,AA (by simp only[IC];omega),AA (IV (.inl c1))]
   exact⟨_,rfl,rfl⟩
  ·rw[AD c1]
   by_cases c2:(gl ((0,0,0,0,0):AH) (gl [] q j.1.toNat) k).1<=j.2.2
   ·rw[AA c2,AA (by simp only[IC];omega),AA (IV (.inr c2))]
    exact⟨_,rfl,rfl⟩
   ·rw[AD c2,AD (by simp only[JL];omega),HH]
    exact⟨_,rfl,rfl⟩
 ·rintro st rfl
  simp only
  rw[AD (by omega),SD]
  have e1:(gl [] q j.1.toNat).filter (fun i=>decide (j.1<(q.length:Int)-1\/i.1<=j.2.2))=chL q j:=rfl
  rw[e1]
  refine Y1 ?_
  unfold u7
  have yD:(chL q j).length<=1000000:=kF (mO _ _) hrl
  have hlw:∀ i∈chL q j,0<=i.2.2.2.2/\i.2.2.2.2<=1000000:=fun i hi=>hwr i (bB.1 hi).1
  by_cases h0:chL q j=[]
  ·rw[AA (by rw[h0];rfl),AA h0];exact⟨_,rfl,rfl⟩
  rw[AD (by have:=mQ.2 h0;omega),AD h0,uV hn.2,AZ,AA (by omega)]
  generalize hL:chL q j=L at yD hlw
  have hru:gl (0,0,0,0) c.2.1 j.1.toNat=ru c j.1:=rfl
  simp only[hru]
  generalize (ru c j.1).2.2.1=B
  have tP:(DX s.2.2).length<=s.2.2.length:=VD s.2.2 (-1)
  obtain⟨z1,z2⟩:=LF hv.sh
  have key:=AO (β:=List AH×Cu×Bool) (f:=fun s3:List AH×Int×Int=>
   if s3.2.2<(L.length:Int) then
   if 0<=s3.2.2/\s3.2.2<(L.length:Int) then
   Option.bind (BU s (gl ((0,0,0,0,0):AH) L s3.2.2.toNat)) (fun r3=>
   if (AG (s3.2.1-r3))<0 then
   some (Sum.inr ((s3.1,j,false)))
   else if ¬B=0 then
   if (s3.1.length:Int)=B then
   some (Sum.inr ((s3.1,j,false)))
   else if (s3.1.length+([gl ((0,0,0,0,0):AH) L s3.2.2.toNat]:List AH).length)*40<=140737488355328 then
   some (Sum.inl ((s3.1++([gl ((0,0,0,0,0):AH) L s3.2.2.toNat]:List AH),AG (s3.2.1-r3),AG (s3.2.2+1))))
   else none
   else if (s3.1.length+([gl ((0,0,0,0,0):AH) L s3.2.2.toNat]:List AH).length)*40<=140737488355328 then
   some (Sum.inl ((s3.1++([gl ((0,0,0,0,0):AH) L s3.2.2.toNat]:List AH),AG (s3.2.1-r3),AG (s3.2.2+1))))
   else none)
   else none
   else some (Sum.inr ((s3.1,j,false))))
   (fun k (st:List AH×Int×Int)=>st.2.2=(k:Int)/\st.1.length=k/\(0<=st.2.1/\st.2.1<=64)/\chB (sz s.1) B (DX s.2.2).length 0 L=st.1++chB (sz s.1) B st.2.1 k (L.drop k))
   (fun b=>b=(chB (sz s.1) B (DX s.2.2).length 0 L,j,false)) L.length ?_ ?_ (s:=([],((DX s.2.2).length:Int),0)) ⟨rfl,rfl,by simp only;omega,by simp⟩
  ·obtain⟨b,WU,uJ⟩:=key
   exact⟨b,WU,uJ⟩
  ·rintro k ⟨acc,f,kk⟩ hk ⟨I0,PB,hf,he⟩
   simp only at I0 PB hf he
   subst I0
   have hm:=hlw _ (BN (d:=((0,0,0,0,0):AH)) hk)
   have hcl:=QM z1 hm.1
   have gZ:L.drop k=gl ((0,0,0,0,0):AH) L k::L.drop (k+1):=by
    rw[D8 hk];exact AA6 hk
   rw[gZ,chB] at he
   simp only[HX]
   rw[AA (by omega),AA (by omega),RR hv hm.1 hm.2,AZ,AE (e:=f-cl (sz s.1) (gl ((0,0,0,0,0):AH) L k).2.2.2.2) (by omega) (by omega),AE (e:=(k:Int)+1) (by omega) (by omega)]
   by_cases c1:f-cl (sz s.1) (gl ((0,0,0,0,0):AH) L k).2.2.2.2<0
   ·rw[AA (.inl c1),HH] at he
    rw[AA c1]
    exact .inr ⟨_,rfl,by rw[he]⟩
   rw[AD c1]
   have WY:∀ h:¬(f-cl (sz s.1) (gl ((0,0,0,0,0):AH) L k).2.2.2.2<0\/(B≠0/\(k:Int)=B)),(fun (st:List AH×Int×Int)=>st.2.2=((k+1:Nat):Int)/\st.1.length=k+1/\(0<=st.2.1/\st.2.1<=64)/\chB (sz s.1) B (DX s.2.2).length 0 L=st.1++chB (sz s.1) B st.2.1 (k+1:Nat) (L.drop (k+1))) (acc++ [gl ((0,0,0,0,0):AH) L k],f-cl (sz s.1) (gl ((0,0,0,0,0):AH) L k).2.2.2.2,(k:Int)+1):=by
    intro h
    rw[AD h] at he
    refine⟨rfl,by simp [PB],by simp only;omega, ?_⟩
    simp only
    rw[he,J_];rfl
   by_cases c2:B=0
   ·rw[AD (H_ c2),AA (by simp only[IC];omega)]
    exact .inl ⟨_,rfl,WY (by omega)⟩
   ·rw[AA c2]
    by_cases c3:(acc.length:Int)=B
    ·rw[AA (.inr ⟨c2,by omega⟩),HH] at he
     rw[AA c3]
     exact .inr ⟨_,rfl,by rw[he]⟩
    ·rw[AD c3,AA (by simp only[IC];omega)]
     exact .inl ⟨_,rfl,WY (by omega)⟩
  ·rintro⟨acc,f,kk⟩ ⟨I0,PB,hf,he⟩
   simp only at I0 PB hf he
   subst I0
   rw[List.drop_length,chB,HH] at he
   simp only
   rw[AD (by omega)]
   exact⟨_,rfl,by rw[he]⟩
theorem U7 {q:Rows} (hx:∀ x∈q,x.length<=1000000) {b:Int} (b0:0<=b) (b1:b<q.length):
  BO q b=some (if gl [] q b.toNat=[] then (((0,0,0,0,0):AH),false) else (gl ((0,0,0,0,0):AH) (gl [] q b.toNat) ((gl [] q b.toNat).length-1),true)):=by
 have hl:=hx (gl [] q b.toNat) (BN (by omega))
 unfold BO
 rw[AD (by omega),AD (by omega),AA (by omega)]
 by_cases h:gl [] q b.toNat=[]
 ·rw[AA (by rw[h];rfl),AA h]
 ·have hp:=mQ.2 h
  rw[AD (by omega),AA (by omega),AA (by omega),AE (e:=((gl [] q b.toNat).length:Int)-1) (by omega) (by omega),AA (by omega),AD h,show (((gl [] q b.toNat).length:Int)-1).toNat=(gl [] q b.toNat).length-1 from by omega]
theorem ANT {c:Cf} {s:Sp} {q:Rows} (hx:∀ x∈q,x.length<=1000000) (hq:q.length<=1000000) (hq0:1<=q.length) {k:Cu} {X:Cu->Option (List AH×Cu×Bool)}:
  Option.bind (α:=Cu ⊕ (List AH×Cu×Bool)) (if k.1=(AG ((q.length:Int)-1)) then
   if (!k.2.1)=true then
   Option.bind (BO q (AG ((q.length:Int)-1))) (fun r1=>
   if r1.2=true then
   some (Sum.inl ((k.1,true,r1.1.1)))
   else some (Sum.inl ((k.1,true,(-1)))))
   else some (Sum.inl k)
   else some (Sum.inl k)) (fun q=>match q with
   |Sum.inl j1=>X j1
   |Sum.inr b1=>some b1)=X (chF q k):=by
 unfold chF
 rw[AE (e:=(q.length:Int)-1) (by omega) (by omega)]
 by_cases c1:k.1=(q.length:Int)-1
 ·rw[AA c1]
  cases h2:k.2.1 with
  |true=>rw[AD (by decide),AD (by simp)];rfl
  |false=>
   have e1:k.1=(q.length:Int)-1/\false=false:=⟨c1,rfl⟩
   rw[AA (by decide),U7 hx (by omega) (by omega),AZ,AA e1,show ((q.length:Int)-1).toNat=q.length-1 from by omega]
   unfold AC3
   by_cases h:gl [] q (q.length-1)=[]
   ·rw[AA h,AA h];rfl
   ·rw[AD h,AD h];rfl
 ·rw[AD c1,AD (fun h=>c1 h.1)];rfl
theorem AQA {c:Cf} {s:Sp} {q:Rows} (hv:VS s) (hx:∀ x∈q,x.length<=1000000) (hq:q.length<=1000000) (hw:∀ i∈q.flatten,0<=i.2.2.2.2/\i.2.2.2.2<=1000000) (hc:q.length<=c.2.1.length) {k:Cu} (k0:0<=k.1) (k1:k.1<q.length):
  C2 c s q k=some (u7 c s q (chK q (q.length-1-k.1.toNat) k))/\k.1<=(chK q (q.length-1-k.1.toNat) k).1/\(chK q (q.length-1-k.1.toNat) k).1<q.length:=by
 have hF:∀ k,(chF q k).1=k.1:=fun k=>by unfold chF;split <;> rfl
 suffices hh:∃ b,C2 c s q k=some b/\(b=u7 c s q (chK q (q.length-1-k.1.toNat) k)/\k.1<=(chK q (q.length-1-k.1.toNat) k).1/\(chK q (q.length-1-k.1.toNat) k).1<q.length) by
  obtain⟨b,h1,rfl,h2⟩:=hh
  exact⟨h1,h2⟩
 unfold C2
 refine AO (fun t (st:Cu)=>st.1=k.1+(t:Int)/\chK q (q.length-1-k.1.toNat-t) st=chK q (q.length-1-k.1.toNat) k) _ (q.length-1-k.1.toNat) ?_ ?_ (s:=k) ⟨by simp,by simp⟩
 ·rintro t st ht ⟨h1,h2⟩
  rw[AA (by rw[AE (e:=(q.length:Int)-1) (by omega) (by omega)];omega),AA (by omega)]
  rw[show q.length-1-k.1.toNat-t=(q.length-1-k.1.toNat-(t+1))+1 from by omega,chK] at h2
  by_cases c1:gl [] q st.1.toNat=[]
  ·rw[AA (by rw[c1];rfl),AE (e:=st.1+1) (by omega) (by omega)]
   rw[AA c1] at h2
   exact .inl ⟨_,rfl,by simp only;omega,h2⟩
  ·rw[AD (by have:=mQ.2 c1;omega)]
   rw[AD c1] at h2
   right
   refine Y1 ?_
   rw[<-h2]
   refine⟨_,(ANT (c:=c) (s:=s) hx hq (by omega) (k:=st) (X:=AEO c s q)).trans (AC4 hv hx hq hw hc (by rw[hF];omega) (by rw[hF];omega)),rfl,by rw[hF];omega,by rw[hF];omega⟩
 ·rintro st ⟨h1,h2⟩
  rw[AD (by rw[AE (e:=(q.length:Int)-1) (by omega) (by omega)];omega)]
  rw[mX,chK] at h2
  refine Y1 ?_
  rw[<-h2]
  exact⟨_,(ANT (c:=c) (s:=s) hx hq (by omega) (k:=st) (X:=AEO c s q)).trans (AC4 hv hx hq hw hc (by rw[hF];omega) (by rw[hF];omega)),rfl,by rw[hF];omega,by rw[hF];omega⟩
def cmp (c:Cf):Bool:=decide ((ru c ((c.2.1.length:Int)-1)).1=0)
theorem AII {x:Nat} (h:VV x):DJ x 0=some .eq↔x=0:=by
 have hx:x<9223372036854775808:=by rcases h with h|h <;> omega
 rw[AE7]
 constructor
 ·rintro⟨_,_,h3⟩
  rw[NK hx,NK (by decide)] at h3
  have h4:vv x=vv 0:=by omega
  rcases ALO x with h0|h0
  ·exact h0
  ·have:=fV h0;omega
 ·rintro rfl
  exact⟨by decide,by decide,rfl⟩
theorem u9 {c:Cf} (g:Good c):DA c=some 0:=by
 have hn:=g.n.2
 have hz:=g.nm.2.1
 rw[iB (by omega) (by omega) g.sh,g.UZ]
theorem gD {c:Cf} (g:Good c):CN c=some (cmp c):=by
 have hn:=g.n
 unfold CN
 rw[u9 g,AZ,AA rfl,AE (e:=(c.2.1.length:Int)-1) (by omega) (by omega),AA (by omega)]
 have hr:gl (0,0,0,0) c.2.1 ((c.2.1.length:Int)-1).toNat=ru c ((c.2.1.length:Int)-1):=rfl
 rw[hr]
 unfold cmp
 congr 1
 rw[tI]
 exact AII (g.ru _ (by omega) (by omega)).1
def Y2 (c:Cf) (b n:Int):Int:=if (ru c b).1=0 then 0 else (FR (ru c b).1 n.toNat:Int)
theorem u_ {c:Cf} (g:Good c) {b n:Int} (b0:0<=b) (b1:b<c.2.1.length) (n0:1<=n) (n1:n<=64):0<=Y2 c b n/\Y2 c b n<=64:=by
 unfold Y2
 rcases (g.ru b b0 b1).1 with h|⟨h0,h1⟩
 ·rw[AA h];omega
 ·have:=AZ9 (n:=n.toNat) h1 (by omega)
  rw[AD (by omega)];omega
theorem AEP {c:Cf} (g:Good c) {b n:Int} (b0:0<=b) (b1:b<c.2.1.length) (n0:1<=n) (n1:n<=64):D9 c b n=some (Y2 c b n,0):=by
 have hn:=g.n.2
 have hz:=g.nm.2.1
 have hr:gl (0,0,0,0) c.2.1 b.toNat=ru c b:=rfl
 have hv:=(g.ru b b0 b1).1
 unfold D9 Y2
 rw[u9 g,AZ,AD (by simp),AD (by omega),AD (by omega),AD (by omega),AD (by omega),AA (by omega),hr]
 generalize (ru c b).1=x at hv
 rcases hv with rfl|⟨h0,h1⟩
 ·unfold FK
  rw[iA,RT (by omega)]
  simp only[AZ]
  rw[AD (by decide),AD (by omega),AD (by omega),AA (by decide),AA trivial]
  rfl
 ·rw[yH h0 h1 n0 n1,AD (by omega)]
  rfl
def QN (s:Sp) (i:AH) (n:Int):Int:=cl (sz s.1) (i.2.2.2.2+n)-cl (sz s.1) i.2.2.2.2
def GrF (v:Bool) (F u L k f:Int):Prop:=k=0\/(v=true/\u+k<=F-(u+k))\/(v=false/\L<=F-(u+k)/\f+k<=F-(u+k))
instance (v:Bool) (F u L k f:Int):Decidable (GrF v F u L k f):=by unfold GrF;infer_instance
def pR (v:Bool) (s:Sp) (q:Rows) (i:AH) (n:Int):Prop:=GrF v s.2.2.length (used s) (lrg (sz s.1) q.flatten) (QN s i n) (cl (sz s.1) i.2.2.2.2)
instance (v:Bool) (s:Sp) (q:Rows) (i:AH) (n:Int):Decidable (pR v s q i n):=by unfold pR;infer_instance
structure Qq (s:Sp) (q:Rows):Prop where
 vs:VS s
 len:q.length<=1000
 AY1:∀ x∈q,x.length<=1000
 w:∀ i∈q.flatten,0<=i.2.2.2.2/\i.2.2.2.2<=16384
theorem Qq.lrg {s:Sp} {q:Rows} (h:Qq s q):0<=lrg (sz s.1) q.flatten/\Go.Proofs.YthmiilamegpllaaGreat.lrg (sz s.1) q.flatten<=20000:=by
 refine⟨(A1P _).1,(AU3 _).2 ⟨by omega,fun i hi=> ?_⟩⟩
 obtain⟨w0,w1⟩:=h.w i hi
 obtain⟨z1,z2⟩:=LF h.vs.sh
 have:=QM z1 w0
 omega
theorem Qq.ref {s:Sp} {q:Rows} (h:Qq s q):GI s q=some (Go.Proofs.YthmiilamegpllaaGreat.lrg (sz s.1) q.flatten):=by
 have h1:q.length<=1000000:=by have:=h.len;omega
 have h2:∀ x∈q,x.length<=1000000:=fun x hx=>by have:=h.AY1 x hx;omega
 have h3:∀ i∈q.flatten,0<=i.2.2.2.2/\i.2.2.2.2<=1000000:=fun i hi=>by have:=h.w i hi;omega
 exact AHQ h.vs h1 h2 h3
theorem mI {c:Cf} {v:Bool} (hr:CN c=some v) {s:Sp} {q:Rows} (h:Qq s q) {i:AH} {n:Int} (w0:0<=i.2.2.2.2) (w1:i.2.2.2.2<=16384) (n0:1<=n) (n1:n<=48):
  B6 c s q i n=some (decide (pR v s q i n)):=by
 suffices hh:∃ b,B6 c s q i n=some b/\(b=true↔GrF v s.2.2.length (used s) (lrg (sz s.1) q.flatten) (QN s i n) (cl (sz s.1) i.2.2.2.2)) by
  obtain⟨b,h1,h2⟩:=hh
  rw[h1]
  congr 1
  by_cases hG:pR v s q i n
  ·rw[IV hG];exact h2.2 hG
  ·rw[NZ hG]
   cases b with
   |true=>exact absurd (h2.1 rfl) hG
   |false=>rfl
 have hn:=h.vs.n.2
 obtain⟨z1,z2⟩:=LF h.vs.sh
 have c1:=QM z1 (show 0<=i.2.2.2.2+n by omega)
 have c2:=QM z1 w0
 have c3:=AN9 (z:=sz s.1) (by omega) (show i.2.2.2.2<=i.2.2.2.2+n by omega)
 obtain⟨l0,l1⟩:=h.lrg
 have u0:=AED s
 have tP:(DX s.2.2).length<=s.2.2.length:=VD s.2.2 (-1)
 have hu:(s.2.2.length:Int)-(DX s.2.2).length=used s:=rfl
 unfold B6
 rw[yE h.vs w0 w1 (by omega) (by omega),AZ]
 have hk:cl (sz s.1) (i.2.2.2.2+n)-cl (sz s.1) i.2.2.2.2=QN s i n:=rfl
 rw[hk]
 have hk0:0<=QN s i n:=by omega
 have hk1:QN s i n<=20000:=by omega
 generalize QN s i n=k at hk hk0 hk1 ⊢
 by_cases e:k=0
 ·rw[AA e];exact⟨_,rfl,aL rfl (.inl e)⟩
 rw[AD e,ATI hn,hr,h.ref,RR h.vs w0 (by omega)]
 simp only[AZ]
 rw[hu]
 have hub:used s<=64:=by omega
 generalize used s=u at hu u0 hub ⊢
 generalize Go.Proofs.YthmiilamegpllaaGreat.lrg (sz s.1) q.flatten=L at l0 l1 ⊢
 generalize hF:cl (sz s.1) i.2.2.2.2=f at c2 ⊢
 rw[AE (e:=u+k) (by omega) (by omega),AE (e:=(s.2.2.length:Int)-(u+k)) (by omega) (by omega),AE (e:=2*(u+k)) (by omega) (by omega),AE (e:=f+k) (by omega) (by omega)]
 generalize (s.2.2.length:Int)=F at hu hn ⊢
 unfold GrF
 by_cases g0:u+k>F
 ·rw[AA g0]
  refine⟨_,rfl,aK (by decide) ?_⟩
  rintro (h|⟨_,h⟩|⟨_,h,_⟩) <;> omega
 rw[AD g0]
 cases v with
 |true=>
  rw[AA rfl]
  refine⟨_,rfl, ?_⟩
  rw[NO]
  constructor
  ·intro h;exact .inr (.inl ⟨rfl,by omega⟩)
  ·rintro (h|⟨_,h⟩|⟨h,_⟩)
   ·exact absurd h e
   ·omega
   ·cases h
 |false=>
  rw[AD (show ¬false=true by decide)]
  refine⟨_,rfl, ?_⟩
  rw[NO]
  constructor
  ·intro h;refine .inr (.inr ⟨rfl, ?_, ?_⟩) <;> split at h <;> omega
  ·rintro (h|⟨h,_⟩|⟨_,h1,h2⟩)
   ·exact absurd h e
   ·cases h
   ·split <;> omega
def pS (q:Rows):AH:=gl ((0,0,0,0,0):AH) (gl [] q 0) ((gl [] q 0).length-1)
def opn (c:Cf) (s:Sp) (q:Rows):Prop:=gl [] q 0≠[]/\(Y2 c 0 s.2.2.length=0\/(pS q).2.2.2.2<Y2 c 0 s.2.2.length*sz s.1)
instance (c:Cf) (s:Sp) (q:Rows):Decidable (opn c s q):=by unfold opn;infer_instance
def F3 (c:Cf) (s:Sp) (q:Rows) (n k:Int):Int×AH:=
 if opn c s q then (if pR (cmp c) s q (pS q) k then (1,pS q) else (3,(0,0,0,0,0)))
 else if (ru c 0).2.1≠0/\(ru c 0).2.1<=(gl [] q 0).length then (3,(0,0,0,0,0))
 else if pR (cmp c) s q (n,0, -1, -1,0) k then (2,(n,0, -1, -1,0)) else (3,(0,0,0,0,0))
theorem vA {c:Cf} (g:Good c) {s:Sp} {q:Rows} (h:Qq s q) (hq:1<=q.length) {n k:Int} (k0:1<=k) (k1:k<=48):AY c s q n k=some (F3 c s q n k):=by
 have hn:=h.vs.n
 have hg:=g.n
 have hx:∀ x∈q,x.length<=1000000:=fun x hx=>by have:=h.AY1 x hx;omega
 have hc:=u_ g (b:=0) (n:=s.2.2.length) (by omega) (by omega) (by omega) (by omega)
 unfold AY F3
 rw[AEP g (b:=0) (n:=s.2.2.length) (by omega) (by omega) (by omega) (by omega),AZ,U7 hx (b:=0) (by omega) (by omega),AZ]
 simp only[show (0:Int).toNat=0 from rfl]
 have hr:gl (0,0,0,0) c.2.1 0=ru c 0:=rfl
 rw[hr]
 have DZ:∀ (T:Option (Int×AH)) (X:Int×AH),Option.bind (B6 c s q (n,0, -1, -1,0) k) (fun r5=>if (!r5)=true then some ((3,(0,0,0,0,0)):Int×AH) else some ((2,(n,0, -1, -1,0)):Int×AH))=some (if pR (cmp c) s q (n,0, -1, -1,0) k then (2,(n,0, -1, -1,0)) else (3,(0,0,0,0,0))):=by
  intro T X
  rw[mI (gD g) h (i:=(n,0, -1, -1,0)) (by simp) (by simp) k0 k1,AZ]
  by_cases hG:pR (cmp c) s q (n,0, -1, -1,0) k
  ·rw[IV hG,AA hG];rfl
  ·rw[NZ hG,AD hG];rfl
 have AIJ:(if 0<=(0:Int)/\(0:Int)<(c.2.1.length:Int) then
   if ¬(ru c 0).2.1=0 then
   if 0<=(0:Int)/\(0:Int)<(q.length:Int) then
   if ((gl ([]:List AH) q 0).length:Int)≥(ru c 0).2.1 then
   some ((3,(0,0,0,0,0)):Int×AH)
   else Option.bind (B6 c s q (n,0,(-1),(-1),0) k) (fun r5=>
   if (!r5)=true then
   some ((3,(0,0,0,0,0)):Int×AH)
   else some ((2,(n,0,(-1),(-1),0))))
   else none
   else Option.bind (B6 c s q (n,0,(-1),(-1),0) k) (fun r6=>
   if (!r6)=true then
   some ((3,(0,0,0,0,0)):Int×AH)
   else some ((2,(n,0,(-1),(-1),0))))
   else none)=some (if (ru c 0).2.1≠0/\(ru c 0).2.1<=(gl [] q 0).length then (3,(0,0,0,0,0))
   else if pR (cmp c) s q (n,0, -1, -1,0) k then (2,(n,0, -1, -1,0)) else (3,(0,0,0,0,0))):=by
  rw[AA (by omega),DZ none (0,(0,0,0,0,0))]
  by_cases c1:(ru c 0).2.1=0
  ·have e:¬((ru c 0).2.1≠0/\(ru c 0).2.1<=(gl [] q 0).length):=fun h=>h.1 c1
   rw[AD (H_ c1),AD e]
  ·rw[AA c1,AA (by omega)]
   by_cases c2:((gl ([]:List AH) q 0).length:Int)≥(ru c 0).2.1
   ·rw[AA c2,AA ⟨c1,c2⟩]
   ·have e:¬((ru c 0).2.1≠0/\(ru c 0).2.1<=(gl [] q 0).length):=fun h=>c2 h.2
    rw[AD c2,AD e]
 by_cases h0:gl [] q 0=[]
 ·have EP:¬opn c s q:=fun hh=>hh.1 h0
  have e1:(if gl ([]:List AH) q 0=[] then (((0,0,0,0,0):AH),false) else (gl ((0,0,0,0,0):AH) (gl [] q 0) ((gl [] q 0).length-1),true))=(((0,0,0,0,0):AH),false):=AA h0
  rw[e1,AD (show ¬((((0,0,0,0,0):AH),false):AH×Bool).2=true by decide),AD EP]
  exact AIJ
 ·have e1:(if gl ([]:List AH) q 0=[] then (((0,0,0,0,0):AH),false) else (gl ((0,0,0,0,0):AH) (gl [] q 0) ((gl [] q 0).length-1),true))=(pS q,true):=AD h0
  have hlp:=mQ.2 h0
  have hy:pS q∈q.flatten:=mU.2 ⟨gl [] q 0,BN (by omega),BN (by omega)⟩
  have hyw:=h.w _ hy
  rw[e1,AA rfl,fZ h.vs.sh _ hc.1 (by omega),AZ]
  by_cases c1:Y2 c 0 s.2.2.length=0\/(pS q).2.2.2.2<Y2 c 0 s.2.2.length*sz s.1
  ·have EP:opn c s q:=⟨h0,c1⟩
   rw[IV c1,AA rfl,AA EP,mI (gD g) h (i:=pS q) hyw.1 hyw.2 k0 k1,AZ]
   by_cases hG:pR (cmp c) s q (pS q) k
   ·rw[IV hG,AA hG];rfl
   ·rw[NZ hG,AD hG];rfl
  ·have EP:¬opn c s q:=fun hh=>c1 hh.2
   rw[NZ c1,AD (by decide),AD EP]
   exact AIJ
def tD (c:Cf) (q:Rows):List Int:=(EI q.length).filter fun b=>decide ((ru c b).2.1≠0/\(ru c b).2.1<(gl [] q b.toNat).length)
theorem AY2 {c:Cf} (g:Good c) {q:Rows} (hq:q.length=c.2.1.length) (hx:∀ x∈q,x.length<=1000000):DV c q=some (tD c q):=by
 have hg:=g.n
 unfold DV
 rw[u9 g,AZ,AD (H_ rfl),AD (by omega)]
 refine (AO (fun k (st:List Int×Int)=>st=((EI k).filter (fun b=>decide ((ru c b).2.1≠0/\(ru c b).2.1<(gl [] q b.toNat).length)),(k:Int))) (fun b=>b=tD c q) q.length ?_ ?_ (s:=([],0)) rfl).elim fun b hb=>by rw[hb.1,hb.2]
 ·rintro k st hk rfl
  left
  have yD:((EI k).filter (fun b=>decide ((ru c b).2.1≠0/\(ru c b).2.1<(gl [] q b.toNat).length))).length<=k:=by
   have:=mO (fun b=>decide ((ru c b).2.1≠0/\(ru c b).2.1<(gl [] q b.toNat).length)) (EI k)
   rw[GZ] at this;exact this
  have hr:gl (0,0,0,0) c.2.1 k=ru c (k:Int):=rfl
  simp only[HX]
  rw[AA (by omega),AA (by omega),AA (by omega),hr,AE (e:=(k:Int)+1) (by omega) (by omega),H9,tH]
  by_cases c1:(ru c (k:Int)).2.1=0
  ·rw[AD (H_ c1)]
   refine⟨_,rfl, ?_⟩
   simp [c1]
  ·rw[AA c1]
   by_cases c2:((gl ([]:List AH) q k).length:Int)>(ru c (k:Int)).2.1
   ·rw[AA c2,AA (by simp only[IC];omega)]
    refine⟨_,rfl, ?_⟩
    simp [c1,c2]
   ·rw[AD c2]
    refine⟨_,rfl, ?_⟩
    simp [c1,c2]
 ·rintro st rfl
  simp only
  rw[AD (by omega)]
  exact⟨_,rfl,rfl⟩
inductive Rea (s:Sp) (q:Rows) (r:Ro) (l:List AH):Int->Prop
 |rt (i:Nat) (hi:i<32) (hu:gl false r.1 i=true) (hw:Wn (B3 l) s (gl 0#64 r.2 i)):Rea s q r l (((gl 0#64 r.2 i).toNat:Int)-1)
 |sl (y:Int) (hy:Slot s q y) (hn:(fr s.2.2 (y / sz s.1)).1∉B3 l) (hw:Wn (B3 l) s (gl 0#64 s.2.1 y.toNat)):Rea s q r l (((gl 0#64 s.2.1 y.toNat).toNat:Int)-1)
 |ob (i:AH) (hi:i∈l) (la:List Int) (oa:List (Int×Int)) (pa a:Int) (x:Int×Int) (o:OB s i la oa pa a x) (ha:Rea s q r l a) (j ya:Int) (j1:1<=j) (j2:j<=x.1) (hy:DY (sz s.1) la (pa+j)=some ya) (hw:Wn (B3 l) s (gl 0#64 s.2.1 ya.toNat)):Rea s q r l (((gl 0#64 s.2.1 ya.toNat).toNat:Int)-1)
theorem Rea.rch (s:Sp) (q:Rows) (r:Ro) (l:List AH):Rch (Rea s q r l) s q r l:=
 ⟨fun i hi la oa pa a x o ha j ya j1 j2 hy hw=> .ob i hi la oa pa a x o ha j ya j1 j2 hy hw,fun i hi hu hw=> .rt i hi hu hw,fun y hy hn hw=> .sl y hy hn hw⟩
abbrev A51 (h:Hs) (l:List AH):Int->Prop:=Rea h.2.1 h.2.2.1 h.2.2.2.2.2.1 l
theorem AQB {q:Rows} {j:AH} (hb:j.2.1.toNat<q.length):(addr q j).flatten.Perm (j::q.flatten):=by
 have hg:gl [] (addr q j) j.2.1.toNat=gl [] q j.2.1.toNat++ [j]:=by
  unfold addr;rw[D5 hb,AA rfl]
 have e1:(addr q j).flatten=(q.take j.2.1.toNat).flatten++((gl [] q j.2.1.toNat++ [j])++(q.drop (j.2.1.toNat+1)).flatten):=by
  rw[HF (addr q j) _ (by rw[gC];exact hb),hg]
  unfold addr
  rw[AQW (EY _),AQX (by omega)]
 rw[e1,HF q _ hb,J_,ALI,←J_,←J_]
 exact List.perm_middle
def wt (L:Int) (k:Cu) (i:AH):Nat:=if i.2.1<L-1 then (L-i.2.1).toNat else if (k.2.1=true->i.1<=k.2.2) then 1 else 0
theorem AY3 {L:Int} {k:Cu} {i j:AH} (h1:i.1=j.1) (h2:i.2.1=j.2.1):wt L k i=wt L k j:=by
 unfold wt;rw[h1,h2]
structure KOk (q:Rows) (n:Int) (k:Cu):Prop where
 k0:0<=k.1
 k1:k.1<q.length
 bg:k.2.1=true->k.1=(q.length:Int)-1/\k.2.2<n
theorem AV0 {s:Sp} {q:Rows} (h:HB s q) {i:AH} (hi:i∈q.flatten) (hb:i.2.1=(q.length:Int)-1):i.1<=AC3 q:=by
 have hN:=(F_.1 h.bv.ok).1
 obtain⟨-,hr⟩:=hN.row hi
 rw[hb,show ((q.length:Int)-1).toNat=q.length-1 from by omega] at hr
 obtain⟨j,hj,rfl⟩:=HD (d:=((0,0,0,0,0):AH)) hr
 have hn:=h.bv.n
 unfold AC3
 rw[AD (fun he=>by rw[he] at hj;simp at hj)]
 by_cases tQ:j=(gl [] q (q.length-1)).length-1
 ·subst tQ;exact bC _
 ·have:=AIW.1 (hN.pw (q.length-1) (by omega)) j ((gl [] q (q.length-1)).length-1) hj (by omega) (by omega)
  rw[<-D8 (d:=((0,0,0,0,0):AH)) hj,←D8 (d:=((0,0,0,0,0):AH)) (show (gl [] q (q.length-1)).length-1< _ by omega)] at this;omega
theorem AV1 {s:Sp} {q:Rows} (h:HB s q) {n:Int} (hn:∀ i∈q.flatten,i.1<n) (n0:0<=n):AC3 q<n:=by
 have hl:=h.bv.n
 unfold AC3
 split
 ·omega
 ·rename_i he
  have:=mQ.2 he
  exact hn _ (KJ.2 ⟨q.length-1,by omega,BN (by omega)⟩)
theorem A25 {s:Sp} {q:Rows} (h:HB s q) {n:Int} (hn:∀ i∈q.flatten,i.1<n) (n0:0<=n):∀ (m:Nat) {k:Cu},KOk q n k->m=q.length-1-k.1.toNat→
  KOk q n (chK q m k)/\((chK q m k).1=(q.length:Int)-1->(chK q m k).2.1=true)/\∀ i∈q.flatten,wt q.length (chK q m k) i=wt q.length k i:=by
 have hF:∀ {k:Cu},KOk q n k->KOk q n (chF q k)/\((chF q k).1=(q.length:Int)-1->(chF q k).2.1=true)/\∀ i∈q.flatten,wt q.length (chF q k) i=wt q.length k i:=by
  intro k hk
  unfold chF
  by_cases c1:k.1=(q.length:Int)-1/\k.2.1=false
  ·rw[AA c1]
   refine⟨⟨hk.k0,hk.k1,fun _=>⟨c1.1,AV1 h hn n0⟩⟩,fun _=>rfl,fun i hi=> ?_⟩
   unfold wt
   by_cases c2:i.2.1<(q.length:Int)-1
   ·rw[AA c2,AA c2]
   ·have hN:=(F_.1 h.bv.ok).1
    have:=(hN.row hi).1
    rw[AD c2,AD c2,AA (fun _=>AV0 h hi (by omega)),AA (fun h=>by rw[c1.2] at h;cases h)]
  ·rw[AD c1]
   refine⟨hk,fun h1=> ?_,fun _ _=>rfl⟩
   cases h2:k.2.1 with
   |true=>rfl
   |false=>exact absurd ⟨h1,h2⟩ c1
 intro m
 induction m with
 |zero=>intro k hk _;exact hF hk
 |succ m ih=>
  intro k hk hm
  rw[chK]
  by_cases c1:gl [] q k.1.toNat=[]
  ·rw[AA c1]
   have hk0:=hk.k0
   have hk1:=hk.k1
   have hnb:k.2.1=false:=by
    cases h2:k.2.1 with
    |true=>have:=(hk.bg h2).1;omega
    |false=>rfl
   have NW :KOk q n (k.1+1,false,0):=⟨by simp only;omega,by simp only;omega,fun h=>by cases h⟩
   obtain⟨g1,g2,g3⟩:=ih NW (by simp only;omega)
   refine⟨g1,g2,fun i hi=> ?_⟩
   rw[g3 i hi]
   unfold wt
   rw[hnb]
   have e:∀ p:Prop,(false=true->p):=fun p h=>by cases h
   rw[AA (e (i.1<=(k.1+1,false,0).2.2)),AA (e (i.1<=k.2.2))]
  ·rw[AD c1];exact hF hk
theorem ANU {z B:Int}:∀ {L:List AH} {f n:Int} {i:AH},i∈chB z B f n L->i∈L
 | [],_,_,_,h=>h
 |a::r,f,n,i,h=>by
  rw[chB] at h
  split at h
  ·cases h
  ·rcases GA.1 h with rfl|h
   ·exact vQ
   ·exact UY _ (ANU h)
theorem ANV {z B:Int}:∀ {L:List AH} {f n:Int},(chB z B f n L).length<=L.length
 | [],_,_=>EY _
 |a::r,f,n=>by
  rw[chB]
  split
  ·exact mY _
  ·have:=ANV (z:=z) (B:=B) (L:=r) (f:=f-cl z a.2.2.2.2) (n:=n+1)
   simp only[O0];omega
theorem HV.qq {N:Int} {h:Hs} (v:HV N h):Qq h.2.1 h.2.2.1:=by
 obtain⟨l1,l2,l3⟩:=v.hi.hb.lens
 have pQ:=VS.PO v.vs
 refine⟨v.vs,by omega,fun x hx=>by have:=l3 x hx;omega,fun i hi=> ?_⟩
 have:=(v.hi.hb.fit hi).1.1
 omega
theorem Dn.less {R:Int->Prop} {N:Int} {h:Hs} (v:HV N h) {l:List AH} {CC:AH} {h' :Hs} {u:Int} (tg:Tg h l CC) (d:Dn R h l CC h' u) {k:Cu} (hk:KOk h.2.2.1 h.2.2.2.1 k) (hkl:k.1=(h.2.2.1.length:Int)-1->k.2.1=true)
  (hl:∀ i∈l,i∈chL h.2.2.1 k):ms (wt h.2.2.1.length k) h'.2.2.1.flatten<ms (wt h.2.2.1.length k) h.2.2.1.flatten/\h'.2.2.1.length=h.2.2.1.length/\KOk h'.2.2.1 h'.2.2.2.1 k:=by
 obtain⟨l0,E_,t,to,lb,m,mv,ys,ws,r',V9,st,h1,h2,rfl, -⟩:=d
 have QV:=h1.okN
 have hle:=AEN h.2.2.2.1 CC to
 refine⟨?_,QV.2,⟨hk.k0,by simp only;rw[QV.2];exact hk.k1,fun hb=>⟨by simp only;rw[QV.2];exact (hk.bg hb).1,by have:=(hk.bg hb).2;simp only;omega⟩⟩⟩
 simp only
 have hm:=BN (d:=((0,0,0,0,0):AH)) (mQ.2 tg.ne)
 generalize hI:gl ((0,0,0,0,0):AH) l 0=i0 at hm
 have hi0:=tg.sub _ hm
 have hch:=hl _ hm
 unfold chL at hch
 obtain⟨QQ,A52⟩:=bB.1 hch
 have A52:=MM A52
 have hN:=(F_.1 v.hi.hb.bv.ok).1
 have hk0:=hk.k0
 have hk1:=hk.k1
 have hbe:i0.2.1=k.1:=by
  have:=(hN.e k.1.toNat (by omega) i0 QQ).1
  omega
 have hrm:ms (wt h.2.2.1.length k) (kU h.2.2.1 (B3 l)).flatten+wt h.2.2.1.length k i0<=ms (wt h.2.2.1.length k) h.2.2.1.flatten:=by
  rw[gB]
  exact AC2 _ _ (by simp only[aY,Decidable.not_not];exact LH.2 ⟨i0,hm,rfl⟩) hi0
 have hw0:1<=wt h.2.2.1.length k i0/\(k.1<(h.2.2.1.length:Int)-1->wt h.2.2.1.length k i0=(h.2.2.1.length-k.1).toNat):=by
  unfold wt
  by_cases c1:i0.2.1<(h.2.2.1.length:Int)-1
  ·rw[AA c1];exact⟨by omega,fun _=>by rw[hbe]⟩
  ·rw[AD c1,AA (fun _=>by omega)];exact⟨EY _,fun _=>by omega⟩
 unfold Y0
 by_cases c1:CC.2.2.2.2>0
 ·rw[AA c1,yP]
  have ht:CC∈h.2.2.1.flatten:=by
   rcases h1.tgt with ht|ht
   ·exact ht
   ·omega
  have:ms (wt h.2.2.1.length k) ((kU h.2.2.1 (B3 l)).flatten.map fun i=>if i.1=to.1 then to else i)=ms (wt h.2.2.1.length k) (kU h.2.2.1 (B3 l)).flatten:=by
   unfold ms
   rw[VH]
   congr 1
   refine WB fun i hi=> ?_
   simp only[ALN]
   split
   ·rename_i he
    have:=v.hi.hb.uniq (OZ.1 hi).1 ht (by rw[he,h1.ci.seq])
    exact AY3 he.symm (by rw[h1.ci.j9,this])
   ·rfl
  rw[this];omega
 ·rw[AD c1]
  by_cases c2:to.2.2.2.2>0
  ·have htn:CC.1=h.2.2.2.1/\0<=CC.2.1/\CC.2.1<h.2.2.1.length:=by
    rcases h1.tgt with ht|ht
    ·have:=(v.hi.hb.fit ht).2;omega
    ·exact⟨ht.1,ht.2.2⟩
   have htb:=h1.ci.j9
   rw[AA c2,AY0 (AQB (by rw[OY];omega))]
   have e:ms (wt h.2.2.1.length k) (to::(kU h.2.2.1 (B3 l)).flatten)=wt h.2.2.1.length k to+ms (wt h.2.2.1.length k) (kU h.2.2.1 (B3 l)).flatten:=by unfold ms;simp
   rw[e]
   suffices wt h.2.2.1.length k to<wt h.2.2.1.length k i0 by omega
   have hql:=v.ql
   have htt:=tg.tb
   rw[hI,hbe] at htt
   obtain⟨-, -,hgt⟩:=v.g.ru k.1 hk0 (by omega)
   unfold FY at hgt
   by_cases c3:k.1<(h.2.2.1.length:Int)-1
   ·have h4:k.1<CC.2.1:=by
     refine AC9 fun hn=>hgt (.inr ⟨by omega,.inl (by omega)⟩)
    rw[hw0.2 c3]
    unfold wt
    split
    ·omega
    ·split <;> omega
   ·have h4:CC.2.1=k.1:=by
     refine AC9 fun hn=>hgt (.inl ⟨by omega,fun he=>hn (by omega)⟩)
    have hbg:=hkl (by omega)
    have:=hk.bg hbg
    have h5:wt h.2.2.1.length k to=0:=by
     unfold wt
     rw[AD (by omega),AD (fun hh=>by have:=hh hbg;rw[h1.ci.seq] at this;omega)]
    omega
  ·rw[AD c2];omega
abbrev chC (h:Hs) (k:Cu):Cu:=chK h.2.2.1 (h.2.2.1.length-1-k.1.toNat) k
abbrev A26 (h:Hs):Hs:=(h.1,h.2.1,h.2.2.1,h.2.2.2.1,h.2.2.2.2.1,h.2.2.2.2.2.1,0,(h.2.2.2.2.2.2.2.1.1,h.2.2.2.2.2.2.2.1.2.1,h.2.2.2.2.2.2.2.1.2.2.1,h.2.2.2.2.2.2.2.1.2.2.2.1,AG (h.2.2.2.2.2.2.2.1.2.2.2.2.1+1),h.2.2.2.2.2.2.2.1.2.2.2.2.2),h.2.2.2.2.2.2.2.2)
noncomputable def kV (s1:Hs×Cu):Option ((Hs×Cu) ⊕ (Hs×Bool)):=
 Option.bind (C2 s1.1.1 s1.1.2.1 s1.1.2.2.1 s1.2) (fun r4=>
 if r4.2.2=true then
 some (Sum.inr ((A26 s1.1,true)))
 else if (r4.1.length:Int)=0 then
 some (Sum.inr ((s1.1,false)))
 else Option.bind (CH s1.1 r4.1) (fun r5=>
 bif aO (CQ.rs++CQ.os) r5 then if ¬r5.2.2=0 then
 some (Sum.inr ((s1.1,false)))
 else some (Sum.inl ((r5.1,r4.2.1))) else Option.bind (CH s1.1 r4.1) (fun r6=>
 if ¬r6.2.2=0 then
 Option.map Sum.inr (none)
 else some (Sum.inl ((r6.1,r4.2.1))))))
theorem AV2 (h:Hs) (n:Int):F8 h n=Option.bind (BX h) (fun r1=>AI (σ:=Hs×Cu) (β:=Hs×Bool) (fun s1=>
 if n>0 then
 Option.bind (ES s1.1 n) (fun r2=>
 if (!r2)=true then
 Option.bind (DV s1.1.1 s1.1.2.2.1) (fun r3=>
 if (r3.length:Int)=0 then
 some (Sum.inr ((s1.1,false)))
 else kV s1)
 else kV s1)
 else kV s1) (r1,(0,false,0))):=rfl
def Go1 (h:Hs) (k:Cu) (h1:Hs) (k1:Cu):Prop:=
 ∃ l CC u,u7 h.1 h.2.1 h.2.2.1 (chC h k)=(l,k1,false)/\l≠[]/\Tg h l CC/\Dn (A51 h l) h l CC h1 u
def A27 (h:Hs) (k:Cu) (b:Hs×Bool):Prop:=
 (b=(A26 h,true)/\(u7 h.1 h.2.1 h.2.2.1 (chC h k)).2.2=true)∨
 (b=(h,false)/\(u7 h.1 h.2.1 h.2.2.1 (chC h k)).2.2=false/\((u7 h.1 h.2.1 h.2.2.1 (chC h k)).1=[]\/∃ rep e,CH h (u7 h.1 h.2.1 h.2.2.1 (chC h k)).1=some (hz0,rep,e)/\e≠0))
theorem AV3 (rep:Int×Int×Int×Int) (e:Int):aO (CQ.rs++CQ.os) (hz0,rep,e)=true:=rfl
theorem AY4 {c:Cf} {s:Sp} {q:Rows} {j:Cu} {i:AH} (h:i∈(u7 c s q j).1):i∈chL q j:=by
 unfold u7 at h
 split at h
 ·cases h
 ·exact ANU h
theorem AY5 {c:Cf} {s:Sp} {q:Rows} {j:Cu}:(u7 c s q j).1.length<=(chL q j).length:=by
 unfold u7
 split
 ·exact mY _
 ·exact ANV
theorem A28 (c:Cf) (s:Sp) (q:Rows) (j:Cu):(u7 c s q j).2.1=j:=by
 unfold u7
 split <;> rfl
theorem HV.choose {N:Int} {h:Hs} (v:HV N h) {k:Cu} (hk:KOk h.2.2.1 h.2.2.2.1 k):C2 h.1 h.2.1 h.2.2.1 k=some (u7 h.1 h.2.1 h.2.2.1 (chC h k)):=by
 have hq:=v.qq
 have hql:=v.ql
 obtain⟨l1,l2,l3⟩:=v.hi.hb.lens
 exact (AQA v.vs (fun x hx=>by have:=l3 x hx;omega) (by omega) (fun i hi=>by have:=hq.w i hi;omega) (by omega) hk.k0 hk.k1).1
theorem AQC {α:Type} {x y z:α} (b:Bool) (h1:x=z) (h2:y=z):(bif b then x else y)=z:=by
 cases b
 ·exact h2
 ·exact h1
theorem AV4 {N:Int} {h:Hs} (v:HV N h) (hN:N<=4294967295) {k:Cu} (hk:KOk h.2.2.1 h.2.2.2.1 k):∃ x,kV (h,k)=some x/\((∃ h1 k1,x= .inl (h1,k1)/\Go1 h k h1 k1)\/∃ b,x= .inr b/\A27 h k b):=by
 obtain⟨l1,l2,l3⟩:=v.hi.hb.lens
 unfold kV
 simp only
 rw[v.choose hk,AZ]
 have hgo:∀ h1 k1,Go1 h k h1 k1↔∃ l CC u,u7 h.1 h.2.1 h.2.2.1 (chC h k)=(l,k1,false)/\l≠[]/\Tg h l CC/\Dn (A51 h l) h l CC h1 u:=fun _ _=>m9
 have hre:∀ b,A27 h k b↔(b=(A26 h,true)/\(u7 h.1 h.2.1 h.2.2.1 (chC h k)).2.2=true)∨
  (b=(h,false)/\(u7 h.1 h.2.1 h.2.2.1 (chC h k)).2.2=false/\((u7 h.1 h.2.1 h.2.2.1 (chC h k)).1=[]\/∃ rep e,CH h (u7 h.1 h.2.1 h.2.2.1 (chC h k)).1=some (hz0,rep,e)/\e≠0)):=fun _=>m9
 have hcl:(u7 h.1 h.2.1 h.2.2.1 (chC h k)).1.length<=64:=by
  have h1:=AY5 (c:=h.1) (s:=h.2.1) (q:=h.2.2.1) (j:=chC h k)
  have h2:(chL h.2.2.1 (chC h k)).length<=(gl [] h.2.2.1 (chC h k).1.toNat).length:=mO _ _
  by_cases h3:(chC h k).1.toNat<h.2.2.1.length
  ·have:=l3 _ (BN (d:=([]:List AH)) h3);omega
  ·have h4:gl ([]:List AH) h.2.2.1 (chC h k).1.toNat=[]:=by
    unfold gl;rw[vE,UX (by omega)];rfl
   have h5:(gl ([]:List AH) h.2.2.1 (chC h k).1.toNat).length=0:=by rw[h4];rfl
   omega
 generalize hr:u7 h.1 h.2.1 h.2.2.1 (chC h k)=r at hgo hre hcl
 by_cases c1:r.2.2=true
 ·rw[AA c1]
  exact⟨_,rfl,.inr ⟨_,rfl,(hre _).2 (.inl ⟨rfl,c1⟩)⟩⟩
 have c1' :r.2.2=false:=by simpa using c1
 rw[AD c1]
 by_cases c2:(r.1.length:Int)=0
 ·rw[AA c2]
  exact⟨_,rfl,.inr ⟨_,rfl,(hre _).2 (.inr ⟨rfl,c1',.inl (List.eq_nil_iff_length_eq_zero.2 (by omega))⟩)⟩⟩
 rw[AD c2]
 obtain⟨h1,rep,e,hd1,hd2⟩:=A4Z v hN (l:=r.1) (by omega) (Rea.rch h.2.1 h.2.2.1 h.2.2.2.2.2.1 r.1)
 rw[hd1,AZ]
 rcases hd2 with ⟨he,rfl⟩|⟨rfl,CC,u,tg,dn⟩
 ·rw[AV3]
  simp only[cond_true]
  rw[AA he]
  exact⟨_,rfl,.inr ⟨_,rfl,(hre _).2 (.inr ⟨rfl,c1',.inr ⟨rep,e,hd1,he⟩⟩)⟩⟩
 ·have hx:Go1 h k h1 r.2.1:=(hgo _ _).2 ⟨r.1,CC,u,by rw[<-c1'],fun hn=>by rw[hn] at c2;exact c2 rfl,tg,dn⟩
  refine⟨Sum.inl (h1,r.2.1), ?_,.inl ⟨_,_,rfl,hx⟩⟩
  exact AQC _ rfl rfl
def pH (h:Hs) (k:Cu):Nat:=ms (wt h.2.2.1.length k) h.2.2.1.flatten
theorem Go1.ok {N:Int} {h:Hs} (v:HV N h) {k:Cu} (hk:KOk h.2.2.1 h.2.2.2.1 k) {h1:Hs} {k1:Cu} (g:Go1 h k h1 k1):
  HV (N+1) h1/\KOk h1.2.2.1 h1.2.2.2.1 k1/\pH h1 k1<pH h k/\h1.1=h.1/\h1.2.1.1=h.2.1.1/\h1.2.1.2.2.length=h.2.1.2.2.length/\h1.2.2.2.2.2.2.2.2=h.2.2.2.2.2.2.2.2/\h1.2.2.2.2.2.2.1=h.2.2.2.2.2.2.1:=by
 obtain⟨l,CC,u,hc,hl,tg,dn⟩:=g
 have hs:=A28 h.1 h.2.1 h.2.2.1 (chC h k)
 rw[hc] at hs
 simp only at hs
 obtain⟨g1,g2,g3⟩:=A25 v.hi.hb v.hi.seq v.hi.n0 (h.2.2.1.length-1-k.1.toNat) hk rfl
 have KP:∀ i∈l,i∈chL h.2.2.1 k1:=by
  intro i hi
  have:=AY4 (c:=h.1) (s:=h.2.1) (q:=h.2.2.1) (j:=chC h k) (i:=i) (by rw[hc];exact hi)
  rw[hs];exact this
 have hk1:chK h.2.2.1 (h.2.2.1.length-1-k.1.toNat) k=k1:=hs.symm
 rw[hk1] at g1 g2 g3
 obtain⟨d1,d2,d3⟩:=dn.less v tg g1 g2 KP
 have hm:pH h k1=pH h k:=AUY g3
 have hv1:=dn.hv v
 obtain⟨l0,E_,t,to,lb,m,mv,ys,ws,r',V9,st,h1,h2,rfl, -⟩:=dn
 refine⟨hv1,d3, ?_,rfl, ?_, ?_,rfl,rfl⟩
 ·rw[<-hm]
  unfold pH
  rw[d2];exact d1
 ·exact h1.aft.2.1
 ·exact h1.aft.2.2.2.1
inductive Rn:Nat->Hs->Cu->Hs->Cu->Prop
 |z (h:Hs) (k:Cu):Rn 0 h k h k
 |s {m:Nat} {h:Hs} {k:Cu} {h1:Hs} {k1:Cu} {h2:Hs} {k2:Cu} (a:Rn m h k h1 k1) (b:Go1 h1 k1 h2 k2):Rn (m+1) h k h2 k2
theorem Rn.ok {N:Int} {h:Hs} (v:HV N h) {k:Cu} (hk:KOk h.2.2.1 h.2.2.2.1 k):∀ {m:Nat} {h1:Hs} {k1:Cu},Rn m h k h1 k1→
  HV (N+m) h1/\KOk h1.2.2.1 h1.2.2.2.1 k1/\pH h1 k1+m<=pH h k/\h1.1=h.1/\h1.2.1.1=h.2.1.1/\h1.2.1.2.2.length=h.2.1.2.2.length/\h1.2.2.2.2.2.2.2.2=h.2.2.2.2.2.2.2.2/\h1.2.2.2.2.2.2.1=h.2.2.2.2.2.2.1:=by
 intro m h1 k1 r
 induction r with
 |z=>exact⟨by simpa using v,hk,EY _,rfl,rfl,rfl,rfl,rfl⟩
 |s a b ih=>
  obtain⟨v1,k1,m1,e1,e2,e3,e4,e5⟩:=ih v hk
  obtain⟨v2,k2,m2,f1,f2,f3,f4,f5⟩:=b.ok v1 k1
  exact⟨by have:=v2;rw[AFF];rw[<-Int.add_assoc];exact this,k2,by omega,by rw[f1,e1],by rw[f2,e2],by rw[f3,e3],by rw[f4,e4],by rw[f5,e5]⟩
theorem AY6 {N:Int} {h:Hs} (v:HV N h) (k:Cu):pH h k<=256:=by
 obtain⟨l1,l2,l3⟩:=v.hi.hb.lens
 have hN:=(F_.1 v.hi.hb.bv.ok).1
 have:=AZM (w:=wt h.2.2.1.length k) (b:=4) (l:=h.2.2.1.flatten) fun i hi=>by
  have:=(hN.row hi).1
  unfold wt
  split
  ·omega
  ·split <;> omega
 unfold pH
 omega
theorem AIK {N:Int} {h:Hs} (v:HV N h) {n:Int} (n0:1<=n) (n1:n<=48):ES h n=some (decide ((F3 h.1 h.2.1 h.2.2.1 h.2.2.2.1 n).1=3)):=by
 unfold ES
 rw[vA v.g v.qq v.hi.hb.bv.n.1 n0 n1];rfl
structure RD (n:Int) (h:Hs) (b:Hs×Bool) (m:Nat) (h1:Hs) (k1:Cu):Prop where
 rn:Rn m h (0,false,0) h1 k1
 fin:(b=(h1,false)/\0<n/\(F3 h1.1 h1.2.1 h1.2.2.1 h1.2.2.2.1 n).1≠3/\tD h1.1 h1.2.2.1=[])\/A27 h1 k1 b
theorem KOk.init {N:Int} {h:Hs} (v:HV N h):KOk h.2.2.1 h.2.2.2.1 (0,false,0):=
 ⟨bC _,by have:=v.hi.hb.bv.n;simp only;omega,fun h=>by cases h⟩
theorem AIL {N:Int} {h:Hs} (v:HV N h) (hN:N<=4294967000) {n:Int} (n0:0<=n) (n1:n<=48):∃ b m h1 k1,F8 h n=some b/\RD n h b m h1 k1/\m<=256:=by
 suffices hh:∃ b,F8 h n=some b/\∃ m h1 k1,RD n h b m h1 k1/\m<=256 by
  obtain⟨b,g1,m,h1,k1,g2⟩:=hh
  exact⟨b,m,h1,k1,g1,g2⟩
 rw[AV2,v.copy,AZ]
 have hk:=KOk.init v
 have hml:=AY6 v (0,false,0)
 have step:∀ (m:Nat) (h1:Hs) (k1:Cu),m<=pH h (0,false,0)->Rn m h (0,false,0) h1 k1→
   ((∃ s',kV (h1,k1)=some (.inl s')/\m<pH h (0,false,0)/\Rn (m+1) h (0,false,0) s'.1 s'.2)\/∃ b,kV (h1,k1)=some (.inr b)/\∃ m h1 k1,RD n h b m h1 k1/\m<=256):=by
  intro m h1 k1 hm hr
  obtain⟨v1,kk,m1, -⟩:=hr.ok v hk
  obtain⟨x,hx1,hx2⟩:=AV4 v1 (by omega) kk
  rcases hx2 with ⟨h2,k2,rfl,g⟩|⟨b,rfl,g⟩
  ·have:=(g.ok v1 kk).2.2.1
   exact .inl ⟨_,hx1,by omega,.s hr g⟩
  ·exact .inr ⟨b,hx1,m,h1,k1,⟨hr,.inr g⟩,by omega⟩
 have body:∀ (m:Nat) (st:Hs×Cu),m<=pH h (0,false,0)->Rn m h (0,false,0) st.1 st.2->∀ F,F=(if n>0 then
   Option.bind (ES st.1 n) (fun r2=>
   if (!r2)=true then
   Option.bind (DV st.1.1 st.1.2.2.1) (fun r3=>
   if (r3.length:Int)=0 then
   some (Sum.inr ((st.1,false)))
   else kV st)
   else kV st)
   else kV st)->((∃ s',F=some (.inl s')/\m<pH h (0,false,0)/\Rn (m+1) h (0,false,0) s'.1 s'.2)\/∃ b,F=some (.inr b)/\∃ m h1 k1,RD n h b m h1 k1/\m<=256):=by
  rintro m ⟨h1,k1⟩ hm hr F rfl
  simp only at hr ⊢
  obtain⟨v1,kk,m1, -⟩:=hr.ok v hk
  have hst:=step m h1 k1 hm hr
  by_cases c1:n>0
  ·rw[AA c1,AIK v1 (by omega) n1,AZ]
   by_cases c2:(F3 h1.1 h1.2.1 h1.2.2.1 h1.2.2.2.1 n).1=3
   ·rw[IV c2,AD (by decide)];exact hst
   ·obtain⟨l1,l2,l3⟩:=v1.hi.hb.lens
    rw[NZ c2,AA (by decide),AY2 v1.g v1.ql (fun x hx=>by have:=l3 x hx;omega),AZ]
    by_cases c3:((tD h1.1 h1.2.2.1).length:Int)=0
    ·rw[AA c3]
     exact .inr ⟨_,rfl,m,h1,k1,⟨hr,.inl ⟨rfl,c1,c2,List.eq_nil_iff_length_eq_zero.2 (by omega)⟩⟩,by omega⟩
    ·rw[AD c3];exact hst
  ·rw[AD c1];exact hst
 refine AO (fun m (st:Hs×Cu)=>Rn m h (0,false,0) st.1 st.2) _ (pH h (0,false,0)) ?_ ?_ (s:=(h,(0,false,0))) (.z h _)
 ·intro m st hm hr
  rcases body m st (by omega) hr _ rfl with ⟨s',g1,g2,g3⟩|g
  ·exact .inl ⟨s',g1,g3⟩
  ·exact .inr g
 ·intro st hr
  rcases body _ st (EY _) hr _ rfl with ⟨s',g1,g2,g3⟩|g
  ·omega
  ·exact g
end Go.Proofs.YthmiilamegpllaaGreat
namespace Go.Proofs.YthmiilamegpllaaGreat
open Go Go.V3
structure Al (s:Sp) (q:Rows) (n:Int) (i:AH) (r d:Int) (u:Sp) (j:AH) (a:Int) (l l' :List Int) (os:List (Int×Int)) (q' :Rows) (n' :Int):Prop where
 hb:HB s q
 seq:∀ i∈q.flatten,i.1<n
 n0:0<=n
 rd:(0<=r/\r<=15)/\(0<=d/\d<=32)
 fit:EJ s i
 ad:oX s i r d u j a l l'
 has:Has s i l
 TT:EB (sz s.1) s.2.1 l 0 os i.2.2.2.2
 cs:(i∈q.flatten/\q' =rpl q j/\n' =n)\/(i.1=n/\i.2.2.2.2=0/\(0<=i.2.1/\i.2.1<q.length)/\q' =addr q j/\n' =n+1)
section
variable {s:Sp} {q:Rows} {n:Int} {i:AH} {r d:Int} {u:Sp} {j:AH} {a:Int} {l l' :List Int} {os:List (Int×Int)} {q' :Rows} {n' :Int}
theorem Al.z (h:Al s q n i r d u j a l l' os q' n'):sz u.1=sz s.1:=by rw[h.ad.sh]
theorem Al.jf (h:Al s q n i r d u j a l l' os q' n'):EJ u j:=(oX.self h.hb.bv.vs h.fit h.rd.1.1 h.rd.1.2 h.rd.2.1 h.rd.2.2 h.ad).1
theorem Al.jw (h:Al s q n i r d u j a l l' os q' n'):j.1=i.1/\j.2.1=i.2.1/\j.2.2.2.2=i.2.2.2.2+(1+r+d)/\0<=i.2.2.2.2:=⟨h.ad.grown.seq,h.ad.grown.j9,h.ad.grown.words,h.fit.1.2.2.2.2.1⟩
theorem Al.jh (h:Al s q n i r d u j a l l' os q' n'):Has u j l' := .inr ⟨by have:=h.jw;have:=h.rd;omega,h.ad.grown.path⟩
theorem Al.jt (h:Al s q n i r d u j a l l' os q' n'):EB (sz s.1) u.2.1 l' 0 (os++ [(r,d)]) j.2.2.2.2:=by
 obtain⟨l2,h1,h2⟩:=(oX.self h.hb.bv.vs h.fit h.rd.1.1 h.rd.1.2 h.rd.2.1 h.rd.2.2 h.ad).2 os ⟨l,h.has,h.TT⟩
 rw[T7 h1 h.jh,h.z] at h2
 exact h2
theorem Al.pre (h:Al s q n i r d u j a l l' os q' n'):∃ e,l' =l++e:=⟨_,h.ad.grown.more⟩
theorem Al.uni (h:Al s q n i r d u j a l l' os q' n') {p:AH} (hp:p∈q.flatten) (he:p.1=i.1):p=i/\i∈q.flatten:=by
 rcases h.cs with ⟨hi,_⟩|⟨hi,_⟩
 ·exact⟨h.hb.uniq hp hi he,hi⟩
 ·have:=h.seq p hp;omega
theorem Al.mem (h:Al s q n i r d u j a l l' os q' n') {p:AH}:p∈q'.flatten↔(p∈q.flatten/\p.1≠i.1)\/p=j:=by
 have hj:=h.jw
 rcases h.cs with ⟨hi,rfl,_⟩|⟨hi,hw,hb,rfl,_⟩
 ·rw[ANQ,hj.1]
  constructor
  ·rintro (h1|⟨h1,_⟩)
   ·exact .inl h1
   ·exact .inr h1
  ·rintro (h1|h1)
   ·exact .inl h1
   ·exact .inr ⟨h1,i,hi,rfl⟩
 ·rw[AIB (by omega)]
  constructor
  ·rintro (h1|h1)
   ·exact .inl ⟨h1,fun he=>by have:=h.seq p h1;omega⟩
   ·exact .inr h1
  ·rintro (⟨h1,_⟩|h1)
   ·exact .inl h1
   ·exact .inr h1
theorem Al.wS (h:Al s q n i r d u j a l l' os q' n') {p y:Int} (p0:0<=p) (p1:p<i.2.2.2.2) (hy:DY (sz s.1) l p=some y):gl 0#64 u.2.1 y.toNat=gl 0#64 s.2.1 y.toNat:=by
 have z:=CM s.1
 have hy' :DY (sz s.1) l' p=some y:=by rw[h.ad.grown.more];exact C5 hy
 have hr:=D0 h.hb.bv.vs h.fit h.has p0 hy
 refine h.ad.wr.oth y.toNat fun k k0 k1 he=> ?_
 rw[vJ hr.1.1] at he
 have:=K_ z h.ad.grown.path.nodup (by have:=h.jw;omega) p0 he hy'
 omega
theorem Al.other (h:Al s q n i r d u j a l l' os q' n') {p:AH} (hp:p∈q.flatten) (CU:p.1≠i.1):EJ u p/\(∀ lp,Has s p lp->Has u p lp/\∀ off x,0<=off->DY (sz s.1) lp off=some x->gl 0#64 u.2.1 x.toNat=gl 0#64 s.2.1 x.toNat)/\∀ os,Full s p os->Full u p os:=oX.other h.hb.bv.vs h.fit h.ad (h.hb.fit hp).1 CU
theorem Al.obO (h:Al s q n i r d u j a l l' os q' n') {p:AH} (hp:p∈q.flatten) (CU:p.1≠i.1) {lp:List Int} {op:List (Int×Int)} {pp b:Int} {x:Int×Int} (o:OB s p lp op pp b x):OB u p lp op pp b x:=by
 obtain⟨h1,h2,h3⟩:=h.other hp CU
 obtain⟨h4,h5⟩:=h2 lp o.has
 refine⟨h4, ?_,o.ta,by rw[h.z];exact o.J9⟩
 rw[h.z]
 exact o.TT.CK fun k y k0 k1 hk=>⟨hk,h5 k y k0 hk⟩
theorem Al.A7G (h:Al s q n i r d u j a l l' os q' n') {p:AH} (hp:p∈q.flatten) (CU:p.1≠i.1) {lp:List Int} {op:List (Int×Int)} {pp b:Int} {x:Int×Int} (o:OB u p lp op pp b x):OB s p lp op pp b x:=by
 obtain⟨o1,l1,g1,g2⟩:=h.hb.full p hp
 obtain⟨h1,h2,h3⟩:=h.other hp CU
 obtain⟨h4,h5⟩:=h2 l1 g1
 have ht:EB (sz u.1) u.2.1 l1 0 o1 p.2.2.2.2:=by
  rw[h.z]
  exact g2.CK fun k y k0 k1 hk=>⟨hk,h5 k y k0 hk⟩
 obtain⟨rfl,rfl⟩:=LA h4 ht o
 exact⟨g1,g2,o.ta,by rw[<-h.z];exact o.J9⟩
theorem Al.obS (h:Al s q n i r d u j a l l' os q' n') {p b:Int} {x:Int×Int} (o:OB s i l os p b x):OB u j l' (os++ [(r,d)]) p b x:=by
 obtain⟨e,he⟩:=h.pre
 exact⟨h.jh,by rw[h.z];exact h.jt,TA.app o.ta,by rw[h.z,he];exact C5 o.J9⟩
theorem Al.obN (h:Al s q n i r d u j a l l' os q' n'):OB u j l' (os++ [(r,d)]) i.2.2.2.2 a (r,d):=
 ⟨h.jh,by rw[h.z];exact h.jt,(TA.snoc h.TT).2 (.inr ⟨rfl,rfl⟩),by rw[h.z];exact h.ad.grown.J9⟩
theorem Al.cls (h:Al s q n i r d u j a l l' os q' n') {lc:List Int} {oc:List (Int×Int)} {p b:Int} {x:Int×Int} (o:OB u j lc oc p b x):lc=l' /\oc=os++ [(r,d)]/\(OB s i l os p b x\/(p=i.2.2.2.2/\b=a/\x=(r,d))):=by
 obtain⟨rfl,rfl⟩:=LA h.jh (by rw[h.z];exact h.jt) o
 refine⟨rfl,rfl, ?_⟩
 rcases (TA.snoc h.TT).1 o.ta with h1|⟨rfl,rfl⟩
 ·left
  have hr:=h.TT.ta h1
  obtain⟨y,hy,_⟩:=hr.2.1
  obtain⟨e,he⟩:=h.pre
  have h2:=o.J9
  rw[h.z,he,C5 hy] at h2
  obtain rfl:=XW h2
  exact⟨h.has,h.TT,h1,hy⟩
 ·right
  have h2:=o.J9
  rw[h.z,h.ad.grown.J9] at h2
  exact⟨rfl,(XW h2).symm,rfl⟩
theorem Al.iso (h:Al s q n i r d u j a l l' os q' n') {b:Int} (hb:IsO s q b):IsO u q' b:=by
 obtain⟨p,hp,k,x,lp,op,o⟩:=hb
 by_cases CU:p.1=i.1
 ·obtain⟨rfl,hi⟩:=h.uni hp CU
  obtain⟨rfl,rfl⟩:=LA h.has h.TT o
  exact⟨j,h.mem.2 (.inr rfl),k,x,_,_,h.obS o⟩
 ·exact⟨p,h.mem.2 (.inl ⟨hp,CU⟩),k,x,lp,op,h.obO hp CU o⟩
theorem Al.slot (h:Al s q n i r d u j a l l' os q' n') {y:Int} (hy:Slot s q y):Slot u q' y:=by
 obtain⟨p,hp,lp,op,pp,b,x,k,o,k1,k2,ha⟩:=hy
 by_cases CU:p.1=i.1
 ·obtain⟨rfl,hi⟩:=h.uni hp CU
  obtain⟨rfl,rfl⟩:=LA h.has h.TT o
  obtain⟨e,he⟩:=h.pre
  exact⟨j,h.mem.2 (.inr rfl),_,_,pp,b,x,k,h.obS o,k1,k2,by rw[h.z,he];exact C5 ha⟩
 ·exact⟨p,h.mem.2 (.inl ⟨hp,CU⟩),lp,op,pp,b,x,k,h.obO hp CU o,k1,k2,by rw[h.z];exact ha⟩
theorem Al.AC0 (h:Al s q n i r d u j a l l' os q' n') {y:Int} (hy:Slot u q' y):(Slot s q y/\gl 0#64 u.2.1 y.toNat=gl 0#64 s.2.1 y.toNat)\/gl 0#64 u.2.1 y.toNat=0#64:=by
 obtain⟨p,hp,lp,op,pp,b,x,k,o,k1,k2,ha⟩:=hy
 rw[h.z] at ha
 rcases h.mem.1 hp with ⟨hp,CU⟩|rfl
 ·have o' :=h.A7G hp CU o
  have hr:=o'.IZ
  obtain⟨h1,h2,h3⟩:=h.other hp CU
  exact .inl ⟨⟨p,hp,lp,op,pp,b,x,k,o',k1,k2,ha⟩,(h2 lp o'.has).2 (pp+k) y (by omega) ha⟩
 ·obtain⟨rfl,rfl,h1⟩:=h.cls o
  rcases h1 with o' |⟨rfl,rfl,rfl⟩
  ·have hr:=o'.IZ
   obtain⟨y1,hy1⟩:=AKY h.hb.bv.vs h.fit h.has (p:=pp+k) (by omega) (by omega)
   obtain⟨e,he⟩:=h.pre
   rw[he,C5 hy1] at ha
   obtain rfl:=XW ha
   have hi:i∈q.flatten:=by
    rcases h.cs with ⟨hi,_⟩|⟨_,hw,_⟩
    ·exact hi
    ·omega
   exact .inl ⟨⟨i,hi,l,os,pp,b,x,k,o',k1,k2,hy1⟩,h.wS (by omega) (by omega) hy1⟩
  ·simp only at k2
   exact .inr (h.ad.wr.fld k y k1 (by have:=h.rd;omega) ha)
theorem Al.UA (h:Al s q n i r d u j a l l' os q' n'):HB u q' :=by
 have hj:=h.jw
 have hv:=h.hb.bv.vs
 have hN:=(F_.1 h.hb.bv.ok).1
 have hq:OkN q' /\q'.length=q.length:=by
  rcases h.cs with ⟨hi,rfl,_⟩|⟨hi,hw,hb,rfl,_⟩
  ·exact⟨hN.rpl (fun p hp he=>by rw[(h.uni hp (by omega)).1];exact hj.2.1.symm) (by have:=h.rd;omega),pF _ _⟩
  ·exact⟨hN.addr (by omega) (by omega) (by have:=h.rd;omega) (fun p hp=>by have:=h.seq p hp;omega),gC _ _⟩
 refine⟨⟨h.ad.vs,by rw[hq.2];exact h.hb.bv.n,F_.2 ⟨hq.1,fun p hp=> ?_⟩,fun x x0 x1 hx=> ?_⟩,fun p hp=> ?_⟩
 ·rcases h.mem.1 hp with ⟨hp,CU⟩|rfl
  ·exact (h.other hp CU).1
  ·exact h.jf
 ·have hl:u.2.2.length=s.2.2.length:=h.ad.grown.len
  by_cases he:(fr u.2.2 x).1=i.1
  ·exact DD.2 ⟨j,h.mem.2 (.inr rfl),by rw[he];exact hj.1⟩
  ·have hf:fr u.2.2 x=fr s.2.2 x:=Grown.fr1 hv h.ad.grown h.fit.1.1 x0 (by omega) he
   rw[hf] at hx he ⊢
   obtain⟨p,hp,hpe⟩:=DD.1 (h.hb.bv.cov x x0 (by omega) hx)
   exact DD.2 ⟨p,h.mem.2 (.inl ⟨hp,by rw[hpe];exact he⟩),hpe⟩
 ·rcases h.mem.1 hp with ⟨hp,CU⟩|rfl
  ·obtain⟨o1,g⟩:=h.hb.full p hp
   exact⟨o1,(h.other hp CU).2.2 o1 g⟩
  ·exact⟨_,l',h.jh,by rw[h.z];exact h.jt⟩
theorem Al.frm (h:Al s q n i r d u j a l l' os q' n') {p:AH} (hp:p∈q.flatten) {lp:List Int} (hlp:Has s p lp) {pp y:Int} (p0:0<=pp) (hy:DY (sz s.1) lp pp=some y):(fr u.2.2 (y / sz s.1)).1=(fr s.2.2 (y / sz s.1)).1/\(fr u.2.2 (y / sz s.1)).2.1=(fr s.2.2 (y / sz s.1)).2.1:=by
 have hr:=D0 h.hb.bv.vs (h.hb.fit hp).1 hlp p0 hy
 have hj:=h.jw
 by_cases CU:p.1=i.1
 ·obtain⟨rfl,hi⟩:=h.uni hp CU
  obtain rfl:=T7 hlp h.has
  obtain⟨e,he⟩:=h.pre
  have g_ :=D0 h.ad.vs h.jf h.jh p0 (y:=y) (by rw[h.z,he];exact C5 hy)
  rw[h.z] at g_
  rw[g_.2.2.2.1,g_.2.2.2.2,hr.2.2.2.1,hr.2.2.2.2,hj.1,hj.2.1]
  exact⟨rfl,rfl⟩
 ·obtain⟨h1,h2,h3⟩:=h.other hp CU
  have g_ :=D0 h.ad.vs h1 (h2 lp hlp).1 p0 (y:=y) (by rw[h.z];exact hy)
  rw[h.z] at g_
  rw[g_.2.2.2.1,g_.2.2.2.2,hr.2.2.2.1,hr.2.2.2.2]
  exact⟨rfl,rfl⟩
theorem Al.done (h:Al s q n i r d u j a l l' os q' n') {ss:Ss} {ro:Ro} (hi:HI s q n ss ro):HI u q' n' ss ro/\IsO u q' a/\n' <=n+1/\q'.length=q.length:=by
 have hj:=h.jw
 have hn:n<=n' /\n' <=n+1/\j.1<n' /\q'.length=q.length:=by
  rcases h.cs with ⟨h1,rfl,h2⟩|⟨h1,_,_,rfl,h2⟩
  ·have:=h.seq i h1
   exact⟨by omega,by omega,by omega,pF _ _⟩
  ·exact⟨by omega,by omega,by omega,gC _ _⟩
 refine⟨{ hb:=h.UA,seq:=fun p hp=> ?_,n0:=by have:=h.n0;omega,ref:=fun y hy=> ?_,ro:=hi.ro,root:=fun k hk hu=>⟨(hi.root k hk hu).1,h.iso (hi.root k hk hu).2⟩,rv:=hi.rv,ins:=fun f g y OU=> ?_,rem:=fun y hy f g hp=> ?_ },⟨j,h.mem.2 (.inr rfl),_,_,_,_,h.obN⟩,hn.2.1,hn.2.2.2⟩
 ·rcases h.mem.1 hp with ⟨hp,_⟩|rfl
  ·have:=h.seq p hp;omega
  ·exact hn.2.2.1
 ·rcases h.AC0 hy with ⟨h1,h2⟩|h1
  ·rw[h2]
   rcases hi.ref y h1 with h3|h3
   ·exact .inl h3
   ·exact .inr (h.iso h3)
  ·exact .inl h1
 ·obtain⟨h1,h2⟩:=hi.ins f g y OU
  exact⟨h.slot h1,by rw[h.z];exact h2⟩
 ·rcases h.AC0 hy with ⟨h1,h2⟩|h1
  rotate_left
  ·exact absurd h1 hp.1
  obtain⟨a1,a2,a3,a4,a5,a6,a7⟩:=hp
  rw[h2] at a1 a2 a4
  rw[h.z] at a3 a4
  rw[h.ad.wr.len] at a2
  obtain⟨p,hp,lp,op,pp,b,x,k,o,k1,k2,ha⟩:=id h1
  have hr:=o.IZ
  obtain⟨f1,f2⟩:=h.frm hp o.has (pp:=pp+k) (by omega) ha
  rcases hi.ref y h1 with h3|⟨p',hp',pp',x',lp',op',o'⟩
  ·exact absurd h3 a1
  have g_ :=o'.IZ
  obtain⟨g1,g2⟩:=h.frm hp' o'.has (pp:=pp') (by omega) o'.J9
  rw[<-a3] at f1 f2
  rw[<-a4] at g1 g2
  exact hi.rem y h1 f g ⟨a1,a2,a3,a4,by rw[<-f1];exact a5,by rw[<-g1];exact a6,by rw[<-f2,←g2];exact a7⟩
end
end Go.Proofs.YthmiilamegpllaaGreat
namespace Go.Proofs.YthmiilamegpllaaGreat
open Go Go.V3
abbrev kW (h:Hs):Hs:=(h.1,h.2.1,h.2.2.1,h.2.2.2.1,h.2.2.2.2.1,h.2.2.2.2.2.1,h.2.2.2.2.2.2.1,h.2.2.2.2.2.2.2.1,true)
abbrev AQD (h:Hs):Hs:=(h.1,h.2.1,h.2.2.1,h.2.2.2.1,h.2.2.2.2.1,h.2.2.2.2.2.1,if cmp h.1=true then AG (h.2.2.2.2.2.2.1+1) else h.2.2.2.2.2.2.1,(h.2.2.2.2.2.2.2.1.1,h.2.2.2.2.2.2.2.1.2.1,AG (h.2.2.2.2.2.2.2.1.2.2.1+1),h.2.2.2.2.2.2.2.1.2.2.2),h.2.2.2.2.2.2.2.2)
abbrev E5 (h:Hs) (n:Int):Int×AH:=F3 h.1 h.2.1 h.2.2.1 h.2.2.2.1 n
def AL3 (h:Hs) (n:Int):Int:=if cmp h.1=true/\h.2.2.2.2.2.2.1≥h.1.2.2 then 0 else n
noncomputable def AEQ (a1 a2:Int) (j2:Hs):Option ((Int×Hs×AH) ⊕ (Hs×Int×Int)):=
 Option.bind (CN j2.1) (fun r5=>
 if r5=true then
 if j2.2.2.2.2.2.2.1≥j2.1.2.2 then
 Option.bind (GW j2) (fun r6=>
 Option.bind (AY r6.1.1 r6.1.2.1 r6.1.2.2.1 r6.1.2.2.2.1 (AG ((AG ((1:Int)+a1))+a2))) (fun r7=>
 if r7.1=3 then
 some (Sum.inr ((kW r6.1,0,18)))
 else some (Sum.inl ((r7.1,r6.1,r7.2)))))
 else Option.bind (EV j2 (AG ((AG ((1:Int)+a1))+a2))) (fun r8=>
 Option.bind (AY r8.1.1 r8.1.2.1 r8.1.2.2.1 r8.1.2.2.2.1 (AG ((AG ((1:Int)+a1))+a2))) (fun r9=>
 if r9.1=3 then
 some (Sum.inr ((kW r8.1,0,18)))
 else some (Sum.inl ((r9.1,r8.1,r9.2)))))
 else Option.bind (EV j2 (AG ((AG ((1:Int)+a1))+a2))) (fun JJ=>
 Option.bind (AY JJ.1.1 JJ.1.2.1 JJ.1.2.2.1 JJ.1.2.2.2.1 (AG ((AG ((1:Int)+a1))+a2))) (fun QR=>
 if QR.1=3 then
 some (Sum.inr ((kW JJ.1,0,18)))
 else some (Sum.inl ((QR.1,JJ.1,QR.2))))))
noncomputable def AC5 (a1 a2:Int) (j1:Int×Hs×AH):Option (Hs×Int×Int):=
 Option.bind (CR j1.2.1.2.1 j1.2.2 (AG ((AG ((1:Int)+a1))+a2))) (fun OF=>
 if ¬OF.2.2.1=0 then
 some (((j1.2.1.1,(j1.2.1.2.1.1,OF.2.2.2),j1.2.1.2.2.1,j1.2.1.2.2.2.1,j1.2.1.2.2.2.2.1,j1.2.1.2.2.2.2.2.1,j1.2.1.2.2.2.2.2.2.1,j1.2.1.2.2.2.2.2.2.2.1,true),0,18))
 else Option.bind (GR (j1.2.1.2.1.1,OF.2.2.2) OF.2.1 a1 a2) (fun Q6=>
 if j1.1=2 then
 Option.bind (FU j1.2.1.2.2.1 OF.1) (fun mN=>
 some (((j1.2.1.1,(j1.2.1.2.1.1,Q6.2),mN.1,AG (j1.2.1.2.2.2.1+1),j1.2.1.2.2.2.2.1,j1.2.1.2.2.2.2.2.1,j1.2.1.2.2.2.2.2.2.1,(AG (j1.2.1.2.2.2.2.2.2.2.1.1+(AG ((AG ((1:Int)+a1))+a2))),AG (j1.2.1.2.2.2.2.2.2.2.1.2.1+1),j1.2.1.2.2.2.2.2.2.2.1.2.2),j1.2.1.2.2.2.2.2.2.2.2),OF.2.1,0)))
 else Option.bind (C9 j1.2.1.2.2.1 OF.1) (fun l4=>
 some (((j1.2.1.1,(j1.2.1.2.1.1,Q6.2),l4.1,j1.2.1.2.2.2.1,j1.2.1.2.2.2.2.1,j1.2.1.2.2.2.2.2.1,j1.2.1.2.2.2.2.2.2.1,(AG (j1.2.1.2.2.2.2.2.2.2.1.1+(AG ((AG ((1:Int)+a1))+a2))),AG (j1.2.1.2.2.2.2.2.2.2.1.2.1+1),j1.2.1.2.2.2.2.2.2.2.1.2.2),j1.2.1.2.2.2.2.2.2.2.2),OF.2.1,0)))))
theorem AV5 (h:Hs) (a1 a2:Int):J1 h a1 a2=(
 if h.2.2.2.2.2.2.2.2=true then
 some (((hz0,0,19):Hs×Int×Int))
 else Option.bind (DT a1 a2) (fun r1=>
 if ¬r1.2=0 then
 some ((hz0,0,r1.2))
 else Option.bind (BX h) (fun r2=>
 Option.bind (AY r2.1 r2.2.1 r2.2.2.1 r2.2.2.2.1 (AG ((AG ((1:Int)+a1))+a2))) (fun r3=>
 Option.bind (α:=(Int×Hs×AH) ⊕ (Hs×Int×Int)) (if r3.1=3 then
 Option.bind (α:=Hs ⊕ ((Int×Hs×AH) ⊕ (Hs×Int×Int))) (Option.bind (CN r2.1) (fun r4=>
 if r4=true then
 some (Sum.inl ((r2.1,r2.2.1,r2.2.2.1,r2.2.2.2.1,r2.2.2.2.2.1,r2.2.2.2.2.2.1,AG (r2.2.2.2.2.2.2.1+1),(r2.2.2.2.2.2.2.2.1.1,r2.2.2.2.2.2.2.2.1.2.1,AG (r2.2.2.2.2.2.2.2.1.2.2.1+1),r2.2.2.2.2.2.2.2.1.2.2.2),r2.2.2.2.2.2.2.2.2)))
 else some (Sum.inl ((r2.1,r2.2.1,r2.2.2.1,r2.2.2.2.1,r2.2.2.2.2.1,r2.2.2.2.2.2.1,r2.2.2.2.2.2.2.1,(r2.2.2.2.2.2.2.2.1.1,r2.2.2.2.2.2.2.2.1.2.1,AG (r2.2.2.2.2.2.2.2.1.2.2.1+1),r2.2.2.2.2.2.2.2.1.2.2.2),r2.2.2.2.2.2.2.2.2))))) (fun q=>match q with
 |Sum.inl j2=>AEQ a1 a2 j2
 |Sum.inr b1=>some b1)
 else some (Sum.inl ((r3.1,r2,r3.2)))) (fun q=>match q with
 |Sum.inl j1=>AC5 a1 a2 j1
 |Sum.inr b2=>some b2))))):=rfl
def Gcd (h:Hs) (n:Int) (h1:Hs):Prop:=((E5 h n).1≠3/\h1=h)\/((E5 h n).1=3/\∃ b m hx kx,RD (AL3 (AQD h) n) (AQD h) b m hx kx/\m<=256/\h1=b.1)
theorem HV.mono {N M:Int} {h:Hs} (v:HV N h) (hM:N<=M):HV M h:=⟨v.g,v.hi,v.ql,by have:=v.n1;omega⟩
theorem HV.col {N:Int} {h:Hs} (v:HV N h):HV N (AQD h):=⟨v.g,v.hi,v.ql,v.n1⟩
theorem RD.ok {N:Int} {h:Hs} (v:HV N h) {n:Int} {b:Hs×Bool} {m:Nat} {h1:Hs} {k1:Cu} (r:RD n h b m h1 k1):HV (N+m) b.1/\b.1.1=h.1/\b.1.2.1.1=h.2.1.1/\b.1.2.1.2.2.length=h.2.1.2.2.length/\b.1.2.2.2.2.2.2.2.2=h.2.2.2.2.2.2.2.2:=by
 obtain⟨g1,g2,g3,g4,g5,g6,g7,g8⟩:=r.rn.ok v (KOk.init v)
 rcases r.fin with ⟨rfl,_⟩|⟨rfl,_⟩|⟨rfl,_⟩
 ·exact⟨g1,g4,g5,g6,g7⟩
 ·exact⟨⟨g1.g,g1.hi,g1.ql,g1.n1⟩,g4,g5,g6,g7⟩
 ·exact⟨g1,g4,g5,g6,g7⟩
theorem Gcd.ok {N:Int} {h:Hs} (v:HV N h) {n:Int} {h1:Hs} (g:Gcd h n h1):HV (N+256) h1/\h1.1=h.1/\h1.2.1.1=h.2.1.1/\h1.2.1.2.2.length=h.2.1.2.2.length/\h1.2.2.2.2.2.2.2.2=h.2.2.2.2.2.2.2.2:=by
 rcases g with ⟨_,rfl⟩|⟨_,b,m,hx,kx,r,hm,rfl⟩
 ·exact⟨v.mono (by omega),rfl,rfl,rfl,rfl⟩
 ·obtain⟨g1,g2⟩:=r.ok v.col
  exact⟨g1.mono (by omega),g2⟩
theorem AV6 (r d:Int):∃ w e,DT r d=some (w,e)/\((e=0/\(0<=r/\r<=15)/\(0<=d/\d<=32))\/e=13):=by
 by_cases h:(0<=r/\r<=15)/\(0<=d/\d<=32)
 ·exact⟨_,_,uW h.1.1 h.1.2 h.2.1 h.2.2,.inl ⟨rfl,h⟩⟩
 ·unfold DT
  refine⟨0#64,13, ?_,.inr rfl⟩
  by_cases h1:r<0
  ·rw[AA h1]
  by_cases h2:r>15
  ·rw[AD h1,AA h2]
  by_cases h3:d<0
  ·rw[AD h1,AD h2,AA h3]
  rw[AD h1,AD h2,AD h3,AA (by omega)]
theorem ANW {N:Int} {h:Hs} (v:HV N h) (hN:N<=4294967000):∃ b m h1 k1,GW h=some b/\RD 0 h b m h1 k1/\m<=256:=by
 obtain⟨b,m,h1,k1,g1,g2⟩:=AIL v hN (n:=0) (bC _) (by omega)
 unfold GW
 rw[g1]
 exact⟨b,m,h1,k1,rfl,g2⟩
theorem A29 {N:Int} {h:Hs} (v:HV N h) (hN:N<=4294967000) {n:Int} (n0:1<=n) (n1:n<=48):∃ b c m h1 k1,EV h n=some (b.1,c)/\RD n h b m h1 k1/\m<=256:=by
 obtain⟨b,m,h1,k1,g1,g2,g3⟩:=AIL v hN (n:=n) (by omega) (by omega)
 unfold EV
 rw[g1,AZ,AIK (g2.ok v).1 n0 n1]
 exact⟨b,_,m,h1,k1,rfl,g2,g3⟩
theorem AQE {N:Int} {h:Hs} (v:HV N h) (hN:N<=4294967000) {a1 a2:Int} (r0:0<=a1) (r1:a1<=15) (d0:0<=a2) (d1:a2<=32):
  ∃ b m hx kx,RD (AL3 h (1+a1+a2)) h b m hx kx/\m<=256/\AEQ a1 a2 h=some (if (E5 b.1 (1+a1+a2)).1=3 then .inr (kW b.1,0,18) else .inl ((E5 b.1 (1+a1+a2)).1,b.1,(E5 b.1 (1+a1+a2)).2)):=by
 have hw:AG ((AG ((1:Int)+a1))+a2)=1+a1+a2:=by rw[AE (e:=1+a1) (by omega) (by omega),AE (by omega) (by omega)]
 have A53:∀ {M:Int} {h1:Hs},HV M h1->AY h1.1 h1.2.1 h1.2.2.1 h1.2.2.2.1 (1+a1+a2)=some (E5 h1 (1+a1+a2)):=fun v1=>vA v1.g v1.qq v1.hi.hb.bv.n.1 (by omega) (by omega)
 have fin:∀ (h1:Hs),(if (E5 h1 (1+a1+a2)).1=3 then (some (Sum.inr ((kW h1,(0:Int),(18:Int)))):Option ((Int×Hs×AH) ⊕ (Hs×Int×Int))) else some (Sum.inl (((E5 h1 (1+a1+a2)).1,h1,(E5 h1 (1+a1+a2)).2))))=some (if (E5 h1 (1+a1+a2)).1=3 then .inr (kW h1,0,18) else .inl ((E5 h1 (1+a1+a2)).1,h1,(E5 h1 (1+a1+a2)).2)):=by
  intro h1
  split <;> rfl
 unfold AEQ
 rw[gD v.g,AZ,hw]
 have A54:∀ (hr:AL3 h (1+a1+a2)=1+a1+a2),∃ b m hx kx,RD (AL3 h (1+a1+a2)) h b m hx kx/\m<=256/\Option.bind (EV h (1+a1+a2)) (fun JJ=>
   Option.bind (AY JJ.1.1 JJ.1.2.1 JJ.1.2.2.1 JJ.1.2.2.2.1 (1+a1+a2)) (fun QR=>
   if QR.1=3 then
   some (Sum.inr ((kW JJ.1,(0:Int),(18:Int))))
   else some (Sum.inl ((QR.1,JJ.1,QR.2)))))=some (if (E5 b.1 (1+a1+a2)).1=3 then .inr (kW b.1,0,18) else .inl ((E5 b.1 (1+a1+a2)).1,b.1,(E5 b.1 (1+a1+a2)).2)):=by
  intro hr
  obtain⟨b,c,m,hx,kx,g1,g2,g3⟩:=A29 v hN (n:=1+a1+a2) (by omega) (by omega)
  refine⟨b,m,hx,kx,by rw[hr];exact g2,g3, ?_⟩
  rw[g1,AZ]
  simp only
  rw[A53 (g2.ok v).1,AZ]
  exact fin b.1
 by_cases c1:cmp h.1=true
 ·rw[AA c1]
  by_cases c2:h.2.2.2.2.2.2.1≥h.1.2.2
  ·rw[AA c2]
   obtain⟨b,m,hx,kx,g1,g2,g3⟩:=ANW v hN
   refine⟨b,m,hx,kx,by unfold AL3;rw[AA ⟨c1,c2⟩];exact g2,g3, ?_⟩
   rw[g1,AZ,A53 (g2.ok v).1,AZ]
   exact fin b.1
  ·rw[AD c2]
   exact A54 (by unfold AL3;rw[AD (fun hh=>c2 hh.2)])
 ·rw[AD c1]
  exact A54 (by unfold AL3;rw[AD (fun hh=>c1 hh.1)])
theorem AIM {N:Int} {h:Hs} (v:HV N h) (hN:N<=4294967295) {n:Int} (hp:(E5 h n).1≠3):
  EJ h.2.1 (E5 h n).2/\((E5 h n).2.2.2.2.2=0->owned h.2.1.2.2 (E5 h n).2.1=[])∧
  ((E5 h n).1=1/\(E5 h n).2∈h.2.2.1.flatten\/(E5 h n).1=2/\(E5 h n).2=(h.2.2.2.1,0, -1, -1,0)):=by
 have hn0:=v.hi.n0
 have hn1:=v.n1
 unfold E5 F3 at*
 by_cases c1:opn h.1 h.2.1 h.2.2.1
 ·rw[AA c1] at hp ⊢
  by_cases c2:pR (cmp h.1) h.2.1 h.2.2.1 (pS h.2.2.1) n
  ·rw[AA c2]
   have hl:=mQ.2 c1.1
   have hb:=v.hi.hb.bv.n
   have hy:pS h.2.2.1∈h.2.2.1.flatten:=KJ.2 ⟨0,by omega,BN (by omega)⟩
   have hf:=v.hi.hb.fit hy
   exact⟨hf.1,fun hw=>by simp only at hw;omega,.inl ⟨rfl,hy⟩⟩
  ·rw[AD c2] at hp;exact absurd rfl hp
 ·rw[AD c1] at hp ⊢
  by_cases c2:(ru h.1 0).2.1≠0/\(ru h.1 0).2.1<=(gl [] h.2.2.1 0).length
  ·rw[AA c2] at hp;exact absurd rfl hp
  rw[AD c2] at hp ⊢
  by_cases c3:pR (cmp h.1) h.2.1 h.2.2.1 (h.2.2.2.1,0, -1, -1,0) n
  ·rw[AA c3]
   refine⟨A4Y _ hn0 (by omega) (by omega) (by omega),fun _=> ?_,.inr ⟨rfl,rfl⟩⟩
   refine AQL.2 fun x hx=> ?_
   obtain⟨⟨x0,x1⟩,hxo⟩:=CB.1 hx
   simp only at hxo
   have:=v.hi.hb.bv.cov x x0 x1 (by rw[hxo];omega)
   obtain⟨i,hi,he⟩:=DD.1 this
   have:=v.hi.seq i hi
   omega
  ·rw[AD c3] at hp;exact absurd rfl hp
def Ald (h:Hs) (i:AH) (r d:Int) (h' :Hs) (a:Int):Prop:=
 ∃ u j l l' os q' n',Al h.2.1 h.2.2.1 h.2.2.2.1 i r d u j a l l' os q' n' /\h' =(h.1,u,q',n',h.2.2.2.2.1,h.2.2.2.2.2.1,h.2.2.2.2.2.2.1,(AG (h.2.2.2.2.2.2.2.1.1+(1+r+d)),AG (h.2.2.2.2.2.2.2.1.2.1+1),h.2.2.2.2.2.2.2.1.2.2),h.2.2.2.2.2.2.2.2)
theorem AV7 {N:Int} {h:Hs} (v:HV N h) (hN:N<=4294967290) {a1 a2:Int} (r0:0<=a1) (r1:a1<=15) (d0:0<=a2) (d1:a2<=32) (hp:(E5 h (1+a1+a2)).1≠3):
  (((DX h.2.1.2.2).length:Int)<QN h.2.1 (E5 h (1+a1+a2)).2 (1+a1+a2)/\AC5 a1 a2 ((E5 h (1+a1+a2)).1,h,(E5 h (1+a1+a2)).2)=some (kW h,0,18))∨
  ∃ h' a,AC5 a1 a2 ((E5 h (1+a1+a2)).1,h,(E5 h (1+a1+a2)).2)=some (h',a,0)/\Ald h (E5 h (1+a1+a2)).2 a1 a2 h' a:=by
 have hw:AG ((AG ((1:Int)+a1))+a2)=1+a1+a2:=by rw[AE (e:=1+a1) (by omega) (by omega),AE (by omega) (by omega)]
 obtain⟨hf,C1,hk⟩:=AIM v (by omega) hp
 generalize hI:(E5 h (1+a1+a2)).2=i at*
 generalize hK:(E5 h (1+a1+a2)).1=kd at*
 obtain⟨l1,l2,l3⟩:=v.hi.hb.lens
 have hn0:=v.hi.n0
 have hn1:=v.n1
 have hqn:=v.hi.hb.bv.n
 unfold AC5
 simp only[hw]
 rcases AE2 v.vs hf C1 (n:=1+a1+a2) (by omega) (by omega) with ⟨g1,g2⟩|⟨g1,t,j,a,l,l',g2,g3⟩
 ·left
  rw[g2,AZ]
  exact⟨g1,rfl⟩
 ·right
  rw[g2,AZ]
  simp only
  rw[AD (H_ trivial)]
  obtain⟨u,m1,m2,m3⟩:=AX8 v.vs r0 r1 d0 d1 hf g3
  have e1:((h.2.1.1,t.2.1,t.2.2):Sp)=t:=by rw[<-g3.sh]
  rw[e1,m1,AZ]
  have e2:((h.2.1.1,u.2.1,u.2.2):Sp)=u:=by rw[<-m3.sh]
  simp only
  rw[e2]
  have A55:∃ os,EB (sz h.2.1.1) h.2.1.2.1 l 0 os i.2.2.2.2:=by
   rcases hk with ⟨_,hm⟩|⟨_,rfl⟩
   ·obtain⟨os,l2,f1,f2⟩:=v.hi.hb.full i hm
    rw[T7 f1 g3.has] at f2
    exact⟨os,f2⟩
   ·exact⟨[],rfl⟩
  obtain⟨os,AEK⟩:=A55
  have AL0:=g3.seq
  have yR:=g3.j9
  rcases hk with ⟨rfl,hm⟩|⟨rfl,hi⟩
  ·rw[AD (by decide),yQ (by omega) (fun x hx=>by have:=l3 x hx;omega) (F_.1 v.hi.hb.bv.ok).1 hm AL0.symm yR.symm,AZ]
   exact⟨_,_,rfl,u,j,l,l',os,_,_,⟨v.hi.hb,v.hi.seq,v.hi.n0,⟨⟨r0,r1⟩,d0,d1⟩,hf,m3,g3.has,AEK,.inl ⟨hm,rfl,rfl⟩⟩,rfl⟩
  ·have hi1:i.1=h.2.2.2.1:=by rw[hi]
   have hi2:i.2.1=0:=by rw[hi]
   have hi3:i.2.2.2.2=0:=by rw[hi]
   rw[AA rfl,AUV (by omega) (fun x hx=>by have:=l3 x hx;omega) (by omega) (by omega) (fun p hp=>by have:=v.hi.seq p hp;omega),AZ,AE (e:=h.2.2.2.1+1) (by omega) (by omega)]
   exact⟨_,_,rfl,u,j,l,l',os,_,_,⟨v.hi.hb,v.hi.seq,v.hi.n0,⟨⟨r0,r1⟩,d0,d1⟩,hf,m3,g3.has,AEK,.inr ⟨hi1,hi3,by omega,rfl,rfl⟩⟩,rfl⟩
theorem Ald.ok {N:Int} {h:Hs} (v:HV N h) {i:AH} {r d:Int} {h' :Hs} {a:Int} (al:Ald h i r d h' a):HV (N+1) h' /\IsO h'.2.1 h'.2.2.1 a/\h'.1=h.1/\h'.2.2.2.2.2.2.2.2=h.2.2.2.2.2.2.2.2/\h'.2.1.1=h.2.1.1/\h'.2.1.2.2.length=h.2.1.2.2.length/\h'.2.2.2.2.2.1=h.2.2.2.2.2.1:=by
 obtain⟨u,j,l,l',os,q',n',h1,rfl⟩:=al
 obtain⟨g1,g2,g3,g4⟩:=h1.done v.hi
 have:=v.n1
 exact⟨⟨v.g,g1,by simp only;rw[g4];exact v.ql,by simp only;omega⟩,g2,rfl,rfl,h1.ad.sh,h1.ad.grown.len,rfl⟩
def AlR (h:Hs) (r d:Int) (h' :Hs) (a e:Int):Prop:=
 ∃ h1,Gcd h (1+r+d) h1/\((e=18/\h' =kW h1/\a=0/\((E5 h1 (1+r+d)).1=3\/((DX h1.2.1.2.2).length:Int)<QN h1.2.1 (E5 h1 (1+r+d)).2 (1+r+d)))\/(e=0/\(E5 h1 (1+r+d)).1≠3/\Ald h1 (E5 h1 (1+r+d)).2 r d h' a))
theorem AQF {N:Int} {h:Hs} (v:HV N h) (hN:N<=4294966000) (hd:h.2.2.2.2.2.2.2.2=false) {r d:Int} (r0:0<=r) (r1:r<=15) (d0:0<=d) (d1:d<=32):∃ h' a e,J1 h r d=some (h',a,e)/\AlR h r d h' a e:=by
 have hw:AG ((AG ((1:Int)+r))+d)=1+r+d:=by rw[AE (e:=1+r) (by omega) (by omega),AE (by omega) (by omega)]
 have tail:∀ {h1:Hs},Gcd h (1+r+d) h1->(E5 h1 (1+r+d)).1≠3->∃ h' a e,AC5 r d ((E5 h1 (1+r+d)).1,h1,(E5 h1 (1+r+d)).2)=some (h',a,e)/\AlR h r d h' a e:=by
  intro h1 g hp
  rcases AV7 (g.ok v).1 (by omega) r0 r1 d0 d1 hp with ⟨g1,g2⟩|⟨h',a,g1,g2⟩
  ·exact⟨_,_,_,g2,h1,g,.inl ⟨rfl,rfl,rfl,.inr g1⟩⟩
  ·exact⟨_,_,_,g1,h1,g,.inr ⟨rfl,hp,g2⟩⟩
 rw[AV5,hd,AD (by decide),uW r0 r1 d0 d1,AZ,AD (H_ rfl),v.copy,AZ,hw,vA v.g v.qq v.hi.hb.bv.n.1 (n:=h.2.2.2.1) (k:=1+r+d) (by omega) (by omega),AZ]
 by_cases c1:(F3 h.1 h.2.1 h.2.2.1 h.2.2.2.1 (1+r+d)).1=3
 ·rw[AA c1,gD v.g,AZ]
  have key:∀ X:Option ((Int×Hs×AH) ⊕ (Hs×Int×Int)),X=AEQ r d (AQD h)->∃ h' a e,(Option.bind X fun q=>match q with
    |Sum.inl j1=>AC5 r d j1
    |Sum.inr b2=>some b2)=some (h',a,e)/\AlR h r d h' a e:=by
   rintro X rfl
   obtain⟨b,m,hx,kx,g1,g2,g3⟩:=AQE v.col (by omega) r0 r1 d0 d1
   have hg:Gcd h (1+r+d) b.1:= .inr ⟨c1,b,m,hx,kx,g1,g2,rfl⟩
   rw[g3,AZ]
   by_cases c2:(E5 b.1 (1+r+d)).1=3
   ·rw[AA c2]
    exact⟨_,_,_,rfl,b.1,hg,.inl ⟨rfl,rfl,rfl,.inl c2⟩⟩
   ·rw[AD c2]
    exact tail hg c2
  refine key _ ?_
  unfold AQD
  by_cases c3:cmp h.1=true
  ·rw[AA c3,AA c3];rfl
  ·rw[AD c3,AD c3];rfl
 ·rw[AD c1,AZ]
  exact tail (.inl ⟨c1,rfl⟩) c1
end Go.Proofs.YthmiilamegpllaaGreat
namespace Go.Proofs.YthmiilamegpllaaGreat
open Go Go.V3
theorem HI.take {s:Sp} {q:Rows} {n:Int} {ss:Ss} {r:Ro} (h:HI s q n ss r) {i:Nat} (hi:i<32) {w:BitVec 64} (hw:w≠0#64) (ho:IsO s q ((w.toNat:Int)-1)):HI s q n ss (r.1.set i true,r.2.set i w):=by
 have h1:=h.ro.ul
 have h2:=h.ro.rl
 refine { h with ro:=h.ro.set i w,root:=fun k hk hu=> ?_ }
 simp only at hu ⊢
 rw[D5 (by omega)] at hu ⊢
 split
 ·exact⟨hw,ho⟩
 ·rename_i hn
  rw[AD hn] at hu
  exact h.root k hk hu
theorem HI.drop {s:Sp} {q:Rows} {n:Int} {ss:Ss} {r:Ro} (h:HI s q n ss r) {i:Nat} (hi:i<32):HI s q n ss (r.1.set i false,r.2.set i 0#64):=by
 have h1:=h.ro.ul
 have h2:=h.ro.rl
 refine { h with ro:=h.ro.clear hi,root:=fun k hk hu=> ?_ }
 simp only at hu ⊢
 rw[D5 (by omega)] at hu ⊢
 split at hu
 ·cases hu
 ·rename_i hn
  rw[AD hn]
  exact h.root k hk hu
structure Fd (s:Sp) (q:Rows) (i:AH) (l:List Int) (os:List (Int×Int)) (p a:Int) (x:Int×Int) (k y:Int):Prop where
 hb:HB s q
 hi:i∈q.flatten
 o:OB s i l os p a x
 k0:1<=k
 k1:k<=x.1+x.2
 hy:DY (sz s.1) l (p+k)=some y
abbrev aD (s:Sp) (y:Int) (v:BitVec 64):Sp:=(s.1,s.2.1.set y.toNat v,s.2.2)
section
variable {s:Sp} {q:Rows} {i:AH} {l:List Int} {os:List (Int×Int)} {p a:Int} {x:Int×Int} {k y:Int}
theorem Fd.J9 (h:Fd s q i l os p a x k y):(0<=y/\y<s.2.1.length)/\(fr s.2.2 (y / sz s.1)).1=i.1:=by
 have hr:=D0 h.hb.bv.vs (h.hb.fit h.hi).1 h.o.has (by have:=h.o.IZ;have:=h.k0;omega) h.hy
 exact⟨hr.1,hr.2.2.2.1⟩
theorem Fd.head (h:Fd s q i l os p a x k y) {i' :AH} (LQ :i' ∈q.flatten) {l' :List Int} {tB :List (Int×Int)} {p' b:Int} {x' :Int×Int} (o' :OB s i' l' tB p' b x'):b≠y:=by
 rintro rfl
 have r1:=h.o.IZ
 have r2:=o'.IZ
 have k0:=h.k0
 have k1:=h.k1
 have c1:=h.J9.2
 have c2:=D0 h.hb.bv.vs (h.hb.fit LQ).1 o'.has r2.2.2.1 o'.J9
 obtain rfl:=h.hb.uniq LQ h.hi (by rw[<-c2.2.2.2.1,←c1])
 obtain⟨rfl,rfl⟩:=LA o'.has o'.TT h.o
 have:=K_ (CM s.1) (gA o'.has) r2.2.2.1 (by omega) o'.J9 h.hy
 rcases o'.TT.apart o'.ta h.o.ta with ⟨h3,_⟩|h3|h3 <;> omega
theorem Fd.one (h:Fd s q i l os p a x k y) {i' :AH} (LQ :i' ∈q.flatten) {l' :List Int} {tB :List (Int×Int)} {p' b:Int} {x' :Int×Int} (o' :OB s i' l' tB p' b x') {j:Int} (j0:0<=j) (j1:j<=x'.1+x'.2) (hj:DY (sz s.1) l' (p' +j)=some y):i' =i/\b=a/\x' =x/\j=k/\p' =p:=by
 have r1:=h.o.IZ
 have r2:=o'.IZ
 have k0:=h.k0
 have k1:=h.k1
 have c1:=h.J9.2
 have c2:=D0 h.hb.bv.vs (h.hb.fit LQ).1 o'.has (by omega) hj
 obtain rfl:=h.hb.uniq LQ h.hi (by rw[<-c2.2.2.2.1,←c1])
 obtain⟨rfl,rfl⟩:=LA o'.has o'.TT h.o
 have:=K_ (CM s.1) (gA o'.has) (by omega) (by omega) hj h.hy
 rcases o'.TT.apart o'.ta h.o.ta with ⟨rfl,rfl⟩|h3|h3
 ·have e:=o'.J9
  rw[h.o.J9] at e
  exact⟨rfl,(XW e).symm,rfl,by omega,rfl⟩
 ·omega
 ·omega
theorem Fd.vs (h:Fd s q i l os p a x k y) (v:BitVec 64):VS (aD s y v):=
 h.hb.bv.vs.word h.J9.1.1 (by rw[h.J9.2];have:=(h.hb.fit h.hi).1.1;omega) v
theorem Fd.wd (h:Fd s q i l os p a x k y) (v:BitVec 64) {z:Int} (z0:0<=z):gl 0#64 (aD s y v).2.1 z.toNat=if z=y then v else gl 0#64 s.2.1 z.toNat:=by
 have hr:=h.J9.1
 unfold aD
 simp only
 rw[D5 (by omega)]
 by_cases hz:z=y
 ·rw[AA hz,AA (by rw[hz])]
 ·rw[AD hz,AD (by omega)]
theorem Fd.ob (h:Fd s q i l os p a x k y) (v:BitVec 64) {i' :AH} (LQ :i' ∈q.flatten) {l' :List Int} {tB :List (Int×Int)} {p' b:Int} {x' :Int×Int}:OB (aD s y v) i' l' tB p' b x' ↔OB s i' l' tB p' b x' :=by
 obtain⟨o1,l1,g1,g2⟩:=h.hb.full i' LQ
 have hv:=h.hb.bv.vs
 have hf:=(h.hb.fit LQ).1
 have ht:EB (sz s.1) (aD s y v).2.1 l1 0 o1 i'.2.2.2.2:=g2.ABZ fun p' x' b hp hb=>⟨hb,by
  have o' :OB s i' l1 o1 p' b x' :=⟨g1,g2,hp,hb⟩
  have hr:=D0 hv hf g1 o'.IZ.2.2.1 hb
  rw[h.wd v hr.1.1,AD (h.head LQ o')]⟩
 constructor
 ·intro o'
  obtain⟨rfl,rfl⟩:=LA (s:=aD s y v) g1 ht o'
  exact⟨g1,g2,o'.ta,o'.J9⟩
 ·intro o'
  obtain⟨rfl,rfl⟩:=LA g1 g2 o'
  exact⟨g1,ht,o'.ta,o'.J9⟩
theorem Fd.UA (h:Fd s q i l os p a x k y) (v:BitVec 64):HB (aD s y v) q:=by
 have QV:=F_.1 h.hb.bv.ok
 refine⟨⟨h.vs v,h.hb.bv.n,F_.2 ⟨QV.1,fun p hp=>EJ.words (by simp) (QV.2 p hp)⟩,h.hb.bv.cov⟩,fun i' LQ => ?_⟩
 obtain⟨o1,l1,g1,g2⟩:=h.hb.full i' LQ
 refine⟨o1,l1,g1,g2.ABZ fun p' x' b hp hb=>⟨hb, ?_⟩⟩
 have o' :OB s i' l1 o1 p' b x' :=⟨g1,g2,hp,hb⟩
 have hr:=D0 h.hb.bv.vs (h.hb.fit LQ).1 g1 o'.IZ.2.2.1 hb
 rw[h.wd v hr.1.1,AD (h.head LQ o')]
theorem Fd.slot (h:Fd s q i l os p a x k y) (v:BitVec 64) {z:Int}:Slot (aD s y v) q z↔Slot s q z:=by
 constructor
 ·rintro⟨i',LQ,l',tB,p',b,x',j,o',j1,j2,ha⟩
  exact⟨i',LQ,l',tB,p',b,x',j,(h.ob v LQ).1 o',j1,j2,ha⟩
 ·rintro⟨i',LQ,l',tB,p',b,x',j,o',j1,j2,ha⟩
  exact⟨i',LQ,l',tB,p',b,x',j,(h.ob v LQ).2 o',j1,j2,ha⟩
theorem Fd.iso (h:Fd s q i l os p a x k y) (v:BitVec 64) {b:Int}:IsO (aD s y v) q b↔IsO s q b:=by
 constructor
 ·rintro⟨i',LQ,p',x',l',tB,o'⟩
  exact⟨i',LQ,p',x',l',tB,(h.ob v LQ).1 o'⟩
 ·rintro⟨i',LQ,p',x',l',tB,o'⟩
  exact⟨i',LQ,p',x',l',tB,(h.ob v LQ).2 o'⟩
theorem Fd.pr (h:Fd s q i l os p a x k y) (v:BitVec 64) {z:Int} {w:BitVec 64} {f g:Int}:Pr (aD s y v) z w f g↔Pr s z w f g:=by
 unfold Pr aD
 simp only[EW]
theorem Fd.data (h:Fd s q i l os p a x k y) (v:BitVec 64) (hk:x.1<k) {n:Int} {ss:Ss} {r:Ro} (hi:HI s q n ss r):HI (aD s y v) q n ss r:=by
 have CU:∀ z,Slot s q z->z≠y:=by
  rintro z ⟨i',LQ,l',tB,p',b,x',j,o',j1,j2,ha⟩ rfl
  obtain⟨_,_,rfl,rfl,_⟩:=h.one LQ o' (by omega) (by have:=o'.IZ;omega) ha
  omega
 have hw:∀ z,Slot s q z->gl 0#64 (aD s y v).2.1 z.toNat=gl 0#64 s.2.1 z.toNat:=by
  intro z hz
  have h1:=CU z hz
  obtain⟨i',LQ,l',tB,p',b,x',j,o',j1,j2,ha⟩:=hz
  have hr:=D0 hi.hb.bv.vs (hi.hb.fit LQ).1 o'.has (by have:=o'.IZ;omega) ha
  rw[h.wd v hr.1.1,AD h1]
 refine { hb:=h.UA v,seq:=hi.seq,n0:=hi.n0,ref:=fun z hz=> ?_,ro:=hi.ro,root:=fun k hk hu=>⟨(hi.root k hk hu).1,(h.iso v).2 (hi.root k hk hu).2⟩,rv:=hi.rv,ins:=fun f g z hz=>⟨(h.slot v).2 (hi.ins f g z hz).1,(hi.ins f g z hz).2⟩,rem:=fun z hz f g hp=> ?_ }
 ·have hz' :=(h.slot v).1 hz
  rw[hw z hz']
  rcases hi.ref z hz' with h1|h1
  ·exact .inl h1
  ·exact .inr ((h.iso v).2 h1)
 ·have hz' :=(h.slot v).1 hz
  rw[hw z hz'] at hp
  exact hi.rem z hz' f g ((h.pr v).1 hp)
theorem Fd.ref (h:Fd s q i l os p a x k y) {v:BitVec 64} (hk:k<=x.1) (hv:Rf s q v) {n:Int} {ss:Ss} {r:Ro} (hi:HI s q n ss r) {V9 :Ss} (hr:RV V9) (hs:∀ f g y',In V9 f g y' ↔In ss f g y' \/(y' =y/\Pr (aD s y v) y v f g)):HI (aD s y v) q n V9 r:=by
 have QO:Slot s q y:=⟨i,h.hi,l,os,p,a,x,k,h.o,h.k0,hk,h.hy⟩
 have hrf:∀ w,Rf s q w->Rf (aD s y v) q w:=by
  rintro w (h1|h1)
  ·exact .inl h1
  ·exact .inr ((h.iso v).2 h1)
 have hw:∀ z,Slot s q z->gl 0#64 (aD s y v).2.1 z.toNat=if z=y then v else gl 0#64 s.2.1 z.toNat:=by
  intro z hz
  obtain⟨i',LQ,l',tB,p',b,x',j,o',j1,j2,ha⟩:=hz
  have hr:=D0 hi.hb.bv.vs (hi.hb.fit LQ).1 o'.has (by have:=o'.IZ;omega) ha
  exact h.wd v hr.1.1
 refine { hb:=h.UA v,seq:=hi.seq,n0:=hi.n0,ref:=fun z hz=> ?_,ro:=hi.ro,root:=fun k hk hu=>⟨(hi.root k hk hu).1,(h.iso v).2 (hi.root k hk hu).2⟩,rv:=hr,ins:=fun f g z hz=> ?_,rem:=fun z hz f g hp=> ?_ }
 ·have hz' :=(h.slot v).1 hz
  rw[hw z hz']
  split
  ·exact hrf v hv
  ·exact hrf _ (hi.ref z hz')
 ·rcases (hs f g z).1 hz with h1|⟨rfl,h1⟩
  ·exact⟨(h.slot v).2 (hi.ins f g z h1).1,(hi.ins f g z h1).2⟩
  ·exact⟨(h.slot v).2 QO,h1.2.2.1⟩
 ·have hz' :=(h.slot v).1 hz
  rw[hw z hz'] at hp
  by_cases he:z=y
  ·subst he
   rw[AA rfl] at hp
   exact (hs f g z).2 (.inr ⟨rfl,hp⟩)
  ·rw[AD he] at hp
   exact (hs f g z).2 (.inl (hi.rem z hz' f g ((h.pr v).1 hp)))
end
end Go.Proofs.YthmiilamegpllaaGreat
namespace Go.Proofs.YthmiilamegpllaaGreat
open Go Go.V3
abbrev Op:Type:=Int×Int×Int×Int
abbrev An:Type:=Int×BitVec 64
def PL (u:List Bool) (x:Int) (need:Bool):Int:=if x=0 then (if need=true then 16 else 0) else if x<0\/32<x\/gl false u (x-1).toNat=false then 14 else 0
def wrd (r:Ro) (x:Int):BitVec 64:=if x=0 then 0#64 else gl 0#64 r.2 (x-1).toNat
theorem iD {h:Hs} (hr:aA h.2.2.2.2.2.1) (x:Int) (need:Bool):C3 h x need=some (PL h.2.2.2.2.2.1.1 x need):=by
 have h1:=hr.ul
 unfold C3 PL
 by_cases c0:x=0
 ·simp only[AA c0]
  cases need <;> rfl
 simp only[AD c0]
 by_cases c1:x<0
 ·rw[AA c1,AA (.inl c1)]
 by_cases c2:x>32
 ·rw[AD c1,AA c2,AA (.inr (.inl c2))]
 rw[AD c1,AD c2,AE (e:=x-1) (by omega) (by omega),AA (by omega)]
 cases hu:gl false h.2.2.2.2.2.1.1 (x-1).toNat with
 |true=>rw[AD (by decide),AD (fun hh=>by rcases hh with hh|hh|hh;omega;omega;cases hh)]
 |false=>rw[AA (by decide),AA (.inr (.inr rfl))]
theorem gE {u:List Bool} {x:Int} (h:PL u x true=0):1<=x/\x<=32/\gl false u (x-1).toNat=true:=by
 unfold PL at h
 by_cases c0:x=0
 ·rw[AA c0,AA rfl] at h;omega
 rw[AD c0] at h
 by_cases c1:x<0\/32<x\/gl false u (x-1).toNat=false
 ·rw[AA c1] at h;omega
 refine⟨by omega,by omega, ?_⟩
 cases hu:gl false u (x-1).toNat with
 |true=>rfl
 |false=>exact absurd (.inr (.inr hu)) c1
theorem ANX {u:List Bool} {x:Int} (h:PL u x false=0):x=0\/(1<=x/\x<=32/\gl false u (x-1).toNat=true):=by
 by_cases c0:x=0
 ·exact .inl c0
 ·refine .inr (gE ?_)
  unfold PL at h ⊢
  rw[AD c0] at h ⊢
  exact h
theorem aE {h:Hs} (hr:aA h.2.2.2.2.2.1) {x:Int} (x0:0<=x) (x1:x<=32):BM h x=some (wrd h.2.2.2.2.2.1 x):=by
 have h1:=hr.rl
 unfold BM wrd
 by_cases c0:x=0
 ·rw[AA c0,AA c0]
 ·rw[AD c0,AD c0,AE (e:=x-1) (by omega) (by omega),AA (by omega)]
theorem AIN {r:Ro} (h:aA r) (w:BitVec 64):
  (∃ i:Nat,i<32/\gl false r.1 i=false/\(∀ j:Nat,j<i->gl false r.1 j=true)/\DW r w=some ((r.1.set i true,r.2.set i w),(i:Int)+1,0))\/((∀ i:Nat,i<32->gl false r.1 i=true)/\DW r w=some (([],[]),0,15)):=by
 have h1:=h.ul
 have h2:=h.rl
 unfold DW
 rw[h.valid,AZ,AD (by simp),h.copy]
 refine (AO (fun k (st:Int)=>st=(k:Int)/\∀ j:Nat,j<k->gl false r.1 j=true) (fun b=>(∃ i:Nat,i<32/\gl false r.1 i=false/\(∀ j:Nat,j<i->gl false r.1 j=true)/\b=((r.1.set i true,r.2.set i w),(i:Int)+1,(0:Int)))\/((∀ i:Nat,i<32->gl false r.1 i=true)/\b=(([],[]),(0:Int),(15:Int)))) r.1.length ?_ ?_ (s:=0) ⟨rfl,fun j hj=>by omega⟩).elim fun b hb=>by
  rcases hb.2 with ⟨i,a1,a2,a3,a4⟩|⟨a1,a2⟩
  ·exact .inl ⟨i,a1,a2,a3,by rw[hb.1,a4]⟩
  ·exact .inr ⟨a1,by rw[hb.1,a2]⟩
 ·rintro k st hk ⟨rfl,hj⟩
  rw[AA (by omega),AA (by omega)]
  simp only[HX]
  cases hu:gl false r.1 k with
  |true=>
   rw[AD (by simp),AE (by omega) (by omega)]
   refine .inl ⟨_,rfl,rfl,fun j bH => ?_⟩
   by_cases kL:j=k
   ·rw[kL];exact hu
   ·exact hj j (by omega)
  |false=>
   rw[AA (by simp),AZ,AA (by omega),AA (by omega),AE (by omega) (by omega)]
   exact .inr ⟨_,rfl,.inl ⟨k,by omega,hu,hj,rfl⟩⟩
 ·rintro st ⟨rfl,hj⟩
  rw[AD (by omega)]
  exact⟨_,rfl,.inr ⟨fun i hi=>hj i (by omega),rfl⟩⟩
def UW (u:List Bool):Prop:=∀ i:Nat,i<32->gl false u i=true
instance (u:List Bool):Decidable (UW u):=by unfold UW;infer_instance
theorem AIO (u:List Bool):∀ k:Nat,(liv u k).length=k↔∀ i:Nat,i<k->gl false u i=true
 |0=>⟨fun _ i hi=>by omega,fun _=>rfl⟩
 |k+1=>by
  have hl:=pB u k
  have ih:=AIO u k
  rw[liv,JK]
  by_cases hu:gl false u k=true
  ·rw[AA hu,IC]
   constructor
   ·intro h i hi
    by_cases gS:i=k
    ·rw[gS];exact hu
    ·exact ih.1 (by omega) i (by omega)
   ·intro h
    rw[ih.2 fun i hi=>h i (by omega)]
  ·rw[AD hu,VG]
   constructor
   ·intro h;omega
   ·intro h;exact absurd (h k (by omega)) hu
theorem AC6 {h:Hs} (hr:aA h.2.2.2.2.2.1):FE h=some (decide (UW h.2.2.2.2.2.1.1)):=by
 unfold FE
 rw[rL hr,AZ]
 have:=AIO h.2.2.2.2.2.1.1 32
 by_cases hf:UW h.2.2.2.2.2.1.1
 ·rw[IV hf,IV (show ((liv h.2.2.2.2.2.1.1 32).length:Int)=32 by have:=this.2 hf;omega)]
 ·rw[NZ hf,NZ (show ¬((liv h.2.2.2.2.2.1.1 32).length:Int)=32 from fun hh=>hf (this.1 (by omega)))]
abbrev AZO (h:Hs) (r:Ro):Hs:=(h.1,h.2.1,h.2.2.1,h.2.2.2.1,h.2.2.2.2.1,r,h.2.2.2.2.2.2)
def AV8 (h:Hs) (w:BitVec 64) (h' :Hs) (v:BitVec 64):Prop:=
 ∃ i:Nat,i<32/\gl false h.2.2.2.2.2.1.1 i=false/\(∀ j:Nat,j<i->gl false h.2.2.2.2.2.1.1 j=true)/\h' =AZO h (h.2.2.2.2.2.1.1.set i true,h.2.2.2.2.2.1.2.set i w)/\v=BitVec.ofInt 64 ((i:Int)+1)
theorem AV8.hv {N:Int} {h:Hs} (v:HV N h) {w:BitVec 64} {h' :Hs} {x:BitVec 64} (t:AV8 h w h' x) (hw:w≠0#64) (ho:IsO h.2.1 h.2.2.1 ((w.toNat:Int)-1)):HV N h' :=by
 obtain⟨i,h1,h2,_,rfl,_⟩:=t
 exact⟨v.g,v.hi.take h1 hw ho,v.ql,v.n1⟩
theorem ANY {h:Hs} (hr:aA h.2.2.2.2.2.1) (hf:¬UW h.2.2.2.2.2.1.1) (w:BitVec 64):∃ h' v,Option.bind (DW h.2.2.2.2.2.1 w) (fun r7=>
  Option.bind (BH (h.1,h.2.1,h.2.2.1,h.2.2.2.1,h.2.2.2.2.1,r7.1,h.2.2.2.2.2.2) (BitVec.ofInt 64 r7.2.1)) (fun r8=>
  some ((r8.1,r8.2))))=some (h',(0,v))/\AV8 h w h' v:=by
 rcases AIN hr w with ⟨i,h1,h2,h3,h4⟩|⟨h1,_⟩
 ·rw[h4]
  exact⟨_,_,rfl,i,h1,h2,h3,rfl,rfl⟩
 ·exact absurd h1 hf
theorem OB.A2A {s:Sp} (hv:VS s) {i:AH} (hf:EJ s i) {l:List Int} {os:List (Int×Int)} {p a:Int} {x:Int×Int} (h:OB s i l os p a x) (k:Int) (b:Bool):
  (¬(0<=k/\k<(if b=true then x.1 else x.2))/\CL s a k b=some (0,17))\/((0<=k/\k<(if b=true then x.1 else x.2))/\∃ y,DY (sz s.1) l (p+(if b=true then 1+k else 1+x.1+k))=some y/\CL s a k b=some (y,0)):=by
 obtain⟨⟨⟨r0,r1⟩,d0,d1⟩,h2,h3,h4⟩:=h.IZ
 unfold CL
 rw[h.look hv hf,AZ,AD (show ¬¬(((x.1,x.2,(0:Int)):Int×Int×Int).2.2=0) from H_ rfl)]
 cases b with
 |true=>
  simp only[HJ]
  by_cases k0:k<0
  ·rw[AA k0];exact .inl ⟨by omega,rfl⟩
  rw[AD k0]
  by_cases k1:k≥x.1
  ·rw[AA k1];exact .inl ⟨by omega,rfl⟩
  rw[AD k1,AE (by omega) (by omega)]
  obtain⟨y,hy⟩:=h.fld hv hf (k:=1+k) (by omega) (by omega)
  rw[h.go hv hf (by omega) (by omega),hy]
  exact .inr ⟨by omega,y,rfl,rfl⟩
 |false=>
  simp only[VF,KA]
  by_cases k0:k<0
  ·rw[AA k0];exact .inl ⟨by omega,rfl⟩
  rw[AD k0]
  by_cases k1:k≥x.2
  ·rw[AA k1];exact .inl ⟨by omega,rfl⟩
  rw[AD k1,AE (e:=1+x.1) (by omega) (by omega),AE (e:=1+x.1+k) (by omega) (by omega)]
  obtain⟨y,hy⟩:=h.fld hv hf (k:=1+x.1+k) (by omega) (by omega)
  rw[h.go hv hf (by omega) (by omega),hy]
  exact .inr ⟨by omega,y,rfl,rfl⟩
theorem HV.root {N:Int} {h:Hs} (v:HV N h) {x:Int} (hx:PL h.2.2.2.2.2.1.1 x true=0):∃ i∈h.2.2.1.flatten,∃ l os p a y,OB h.2.1 i l os p a y/\(wrd h.2.2.2.2.2.1 x).toNat=a+1/\AG (AG ((wrd h.2.2.2.2.2.1 x).toNat:Int)-1)=a/\0<=a:=by
 obtain⟨x0,x1,hu⟩:=gE hx
 obtain⟨h1,i,hi,p,y,l,os,o⟩:=v.hi.root (x-1).toNat (by omega) hu
 have hw:wrd h.2.2.2.2.2.1 x=gl 0#64 h.2.2.2.2.2.1.2 (x-1).toNat:=by unfold wrd;rw[AD (by omega)]
 rw[<-hw] at h1 o
 have hr:=D0 v.vs (v.hi.hb.fit hi).1 o.has o.IZ.2.2.1 o.J9
 have pQ:=VS.PO v.vs
 have h2:=(NL h1).2
 refine⟨i,hi,l,os,p,_,y,o,by omega, ?_,by omega⟩
 rw[AE (e:=((wrd h.2.2.2.2.2.1 x).toNat:Int)) (by omega) (by omega),AE (by omega) (by omega)]
theorem AER {N:Int} {h:Hs} (v:HV N h) {x:Int} (hx:PL h.2.2.2.2.2.1.1 x false=0):Rf h.2.1 h.2.2.1 (wrd h.2.2.2.2.2.1 x)/\0<=x/\x<=32:=by
 rcases ANX hx with rfl|⟨x0,x1,hu⟩
 ·exact⟨.inl rfl,by omega,by omega⟩
 ·have hw:wrd h.2.2.2.2.2.1 x=gl 0#64 h.2.2.2.2.2.1.2 (x-1).toNat:=by unfold wrd;rw[AD (by omega)]
  rw[hw]
  exact⟨.inr (v.hi.root (x-1).toNat (by omega) hu).2,by omega,by omega⟩
noncomputable def AZP (h:Hs) (o:Op) (uT:Int×Int):Option (Hs×An):=
 if ¬uT.2=0 then
 Option.bind (BG h uT.2) (fun r22=>
 some ((r22.1,r22.2)))
 else if 0<=uT.1/\uT.1<(h.2.1.2.1.length:Int) then
 if o.1=4 then
 Option.bind (BH h (gl (0#64:(BitVec 64)) h.2.1.2.1 uT.1.toNat)) (fun ZY=>
 some ((ZY.1,ZY.2)))
 else if o.1=2 then
 if (gl (0#64:(BitVec 64)) h.2.1.2.1 uT.1.toNat)=(0#64) then
 Option.bind (BH h (0#64)) (fun r24=>
 some ((r24.1,r24.2)))
 else Option.bind (FE h) (fun r25=>
 if r25=true then
 Option.bind (BG h 15) (fun zW=>
 some ((zW.1,zW.2)))
 else Option.bind (BX h) (fun uU=>
 Option.bind (DW uU.2.2.2.2.2.1 (gl (0#64:(BitVec 64)) h.2.1.2.1 uT.1.toNat)) (fun r28=>
 Option.bind (BH (uU.1,uU.2.1,uU.2.2.1,uU.2.2.2.1,uU.2.2.2.2.1,r28.1,uU.2.2.2.2.2.2) (BitVec.ofInt 64 r28.2.1)) (fun y_=>
 some ((y_.1,y_.2))))))
 else if o.1=3 then
 Option.bind (C3 h o.2.2.2 false) (fun r30=>
 if ¬r30=0 then
 Option.bind (BG h r30) (fun x6=>
 some ((x6.1,x6.2)))
 else Option.bind (BM h o.2.1) (fun r32=>
 Option.bind (BM h o.2.2.2) (fun r33=>
 Option.bind (EO h (AG ((AG ((r32.toNat:Int)))-1)) o.2.2.1 r33) (fun r34=>
 Option.bind (BH r34.1 (0#64)) (fun r35=>
 some ((r35.1,r35.2)))))))
 else Option.bind (BM h o.2.1) (fun r36=>
 Option.bind (EA h (AG ((AG ((r36.toNat:Int)))-1)) o.2.2.1 (BitVec.ofInt 64 o.2.2.2)) (fun r37=>
 Option.bind (BH r37.1 (0#64)) (fun r38=>
 some ((r38.1,r38.2)))))
 else none
theorem AV9 (h:Hs) (o:Op):F9 h o=Option.bind (BM h o.2.1) (fun r1=>
  Option.bind (CL h.2.1 (AG ((AG ((r1.toNat:Int)))-1)) o.2.2.1 (decide (o.1=2\/o.1=3))) (AZP h o)):=by
 unfold F9
 by_cases c:o.1=2
 ·rw[AA c,IV (show o.1=2\/o.1=3 from .inl c)];rfl
 ·rw[AD c]
  have:(decide (o.1=2\/o.1=3))=decide (o.1=3):=by rw[tI];omega
  rw[this];rfl
abbrev AY7 (h:Hs) (y:Int) (w:BitVec 64) (V9 :Ss):Hs:=(h.1,aD h.2.1 y w,h.2.2.1,h.2.2.2.1,V9,h.2.2.2.2.2)
inductive FdR (h:Hs) (o:Op) (i:AH) (l:List Int) (os:List (Int×Int)) (p a:Int) (x:Int×Int):Hs->An->Prop
 |bad (hk:¬(0<=o.2.2.1/\o.2.2.1<(if o.1=2\/o.1=3 then x.1 else x.2))):FdR h o i l os p a x h (17,0#64)
 |rd (c:o.1=4) (k0:0<=o.2.2.1) (k1:o.2.2.1<x.2) (y:Int) (hy:DY (sz h.2.1.1) l (p+(1+x.1+o.2.2.1))=some y):FdR h o i l os p a x h (0,gl 0#64 h.2.1.2.1 y.toNat)
 |rr0 (c:o.1=2) (k0:0<=o.2.2.1) (k1:o.2.2.1<x.1) (y:Int) (hy:DY (sz h.2.1.1) l (p+(1+o.2.2.1))=some y) (hw:gl 0#64 h.2.1.2.1 y.toNat=0#64):FdR h o i l os p a x h (0,0#64)
 |rrf (c:o.1=2) (k0:0<=o.2.2.1) (k1:o.2.2.1<x.1) (y:Int) (hy:DY (sz h.2.1.1) l (p+(1+o.2.2.1))=some y) (hw:gl 0#64 h.2.1.2.1 y.toNat≠0#64) (hf:UW h.2.2.2.2.2.1.1):FdR h o i l os p a x h (15,0#64)
 |rr (c:o.1=2) (k0:0<=o.2.2.1) (k1:o.2.2.1<x.1) (y:Int) (hy:DY (sz h.2.1.1) l (p+(1+o.2.2.1))=some y) (hw:gl 0#64 h.2.1.2.1 y.toNat≠0#64) (hf:¬UW h.2.2.2.2.2.1.1) (h' :Hs) (v:BitVec 64) (t:AV8 h (gl 0#64 h.2.1.2.1 y.toNat) h' v):FdR h o i l os p a x h' (0,v)
 |wrh (c:o.1=3) (k0:0<=o.2.2.1) (k1:o.2.2.1<x.1) (hh:PL h.2.2.2.2.2.1.1 o.2.2.2 false≠0):FdR h o i l os p a x h (PL h.2.2.2.2.2.1.1 o.2.2.2 false,0#64)
 |wr (c:o.1=3) (k0:0<=o.2.2.1) (k1:o.2.2.1<x.1) (y:Int) (hy:DY (sz h.2.1.1) l (p+(1+o.2.2.1))=some y) (hh:PL h.2.2.2.2.2.1.1 o.2.2.2 false=0) (V9 :Ss) (hr:RV V9) (hs:∀ f g y',In V9 f g y' ↔In h.2.2.2.2.1 f g y' \/(y' =y/\Pr (aD h.2.1 y (wrd h.2.2.2.2.2.1 o.2.2.2)) y (wrd h.2.2.2.2.2.1 o.2.2.2) f g)):FdR h o i l os p a x (AY7 h y (wrd h.2.2.2.2.2.1 o.2.2.2) V9) (0,0#64)
 |wd (c:o.1=5) (k0:0<=o.2.2.1) (k1:o.2.2.1<x.2) (y:Int) (hy:DY (sz h.2.1.1) l (p+(1+x.1+o.2.2.1))=some y):FdR h o i l os p a x (AY7 h y (BitVec.ofInt 64 o.2.2.2) h.2.2.2.2.1) (0,0#64)
theorem AVA {N:Int} {h:Hs} (v:HV N h) (hd:h.2.2.2.2.2.2.2.2=false) {o:Op} (hc:2<=o.1/\o.1<=5) (hx:PL h.2.2.2.2.2.1.1 o.2.1 true=0):
  ∃ i∈h.2.2.1.flatten,∃ l os p a x h' an,OB h.2.1 i l os p a x/\(wrd h.2.2.2.2.2.1 o.2.1).toNat=a+1/\F9 h o=some (h',an)/\FdR h o i l os p a x h' an:=by
 obtain⟨i,hi,l,os,p,a,x,ob,hw1,hw2,a0⟩:=v.root hx
 obtain⟨x0,x1,hu⟩:=gE hx
 have hf:=(v.hi.hb.fit hi).1
 refine⟨i,hi,l,os,p,a,x, ?_⟩
 suffices hh:∃ h' an,F9 h o=some (h',an)/\FdR h o i l os p a x h' an by
  obtain⟨h',an,g1,g2⟩:=hh
  exact⟨h',an,ob,hw1,g1,g2⟩
 rw[AV9,aE v.hi.ro (by omega) x1,AZ,hw2]
 have hcd:(decide (o.1=2\/o.1=3)=true)↔(o.1=2\/o.1=3):=NO
 have hro:=ob.IZ
 have hIs:GX h a=some true:=AZI v.hi.hb ⟨i,hi,p,x,l,os,ob⟩
 rcases ob.A2A v.vs hf o.2.2.1 (decide (o.1=2\/o.1=3)) with ⟨g1,g2⟩|⟨g1,y,g2,g3⟩
 ·rw[g2,AZ]
  simp only[hcd] at g1
  exact⟨_,_,rfl,.bad g1⟩
 ·simp only[hcd] at g1 g2
  have hyr:=D0 v.vs hf ob.has (by split at g2 <;> omega) g2
  have hfd:∀ k,p+k=p+(if o.1=2\/o.1=3 then 1+o.2.2.1 else 1+x.1+o.2.2.1)->Fd h.2.1 h.2.2.1 i l os p a x k y:=by
   intro k hk
   refine⟨v.hi.hb,hi,ob, ?_, ?_,by rw[hk];exact g2⟩
   ·split at hk <;> split at g1 <;> omega
   ·split at hk <;> split at g1 <;> omega
  have g3' :=g3
  rw[g3,AZ]
  unfold AZP
  simp only
  rw[AD (H_ trivial),AA hyr.1]
  by_cases c4:o.1=4
  ·rw[AA c4]
   rw[AD (by omega)] at g1 g2
   exact⟨_,_,rfl,.rd c4 g1.1 g1.2 y g2⟩
  rw[AD c4]
  by_cases c2:o.1=2
  ·rw[AA c2]
   rw[AA (.inl c2)] at g1 g2
   by_cases c5:gl 0#64 h.2.1.2.1 y.toNat=0#64
   ·rw[AA c5]
    exact⟨_,_,rfl,.rr0 c2 g1.1 g1.2 y g2 c5⟩
   rw[AD c5,AC6 v.hi.ro,AZ]
   by_cases c6:UW h.2.2.2.2.2.1.1
   ·rw[IV c6,AA rfl]
    exact⟨_,_,rfl,.rrf c2 g1.1 g1.2 y g2 c5 c6⟩
   ·rw[NZ c6,AD (by decide),v.copy,AZ]
    obtain⟨h',w,t1,t2⟩:=ANY v.hi.ro c6 (gl 0#64 h.2.1.2.1 y.toNat)
    exact⟨_,_,t1,.rr c2 g1.1 g1.2 y g2 c5 c6 h' w t2⟩
  rw[AD c2]
  by_cases c3:o.1=3
  ·rw[AA c3]
   have A7H :=hfd (1+o.2.2.1) (by rw[AA (.inr c3)])
   rw[IV (show o.1=2\/o.1=3 from .inr c3)] at g3'
   rw[AA (.inr c3)] at g1 g2
   rw[iD v.hi.ro,AZ]
   by_cases c7:PL h.2.2.2.2.2.1.1 o.2.2.2 false=0
   rotate_left
   ·rw[AA c7]
    exact⟨_,_,rfl,.wrh c3 g1.1 g1.2 c7⟩
   obtain⟨hrf,y0,y1⟩:=AER v c7
   rw[AD (H_ c7),aE v.hi.ro (by omega) x1,AZ,aE v.hi.ro y0 y1,AZ,hw2]
   generalize hW:wrd h.2.2.2.2.2.1 o.2.2.2=w at hrf
   have pQ:w≠0#64->¬(w.toNat>(BitVec.ofInt 64 ((h.2.1.2.1.length:Nat):Int)).toNat)/\GX h (AG (((w-(1#64)).toNat:Int)))=some true:=by
    intro hw
    rcases hrf with h0|h0
    ·exact absurd h0 hw
    obtain⟨i2,hi2,p2,x2,o2⟩:=id h0
    have uP:=o2.J9 v.vs (v.hi.hb.fit hi2).1
    have pQ:=VS.PO v.vs
    have e3:(BitVec.ofInt 64 ((h.2.1.2.1.length:Nat):Int)).toNat=h.2.1.2.1.length:=by
     rw[vK];omega
    obtain⟨e1,e2⟩:=NL hw
    refine⟨by rw[e3];omega, ?_⟩
    rw[e1,show ((w.toNat-1:Nat):Int)=(w.toNat:Int)-1 by omega,AE (by omega) (by omega)]
    exact AZI v.hi.hb h0
   have hvs:=A7H.vs w
   obtain⟨V9,n1,n2,n3⟩:=ANO hvs v.hi.rv (y:=y) hyr.1.1 (by simp only[EW];exact hyr.1.2) w
   have hWR:EO h a o.2.2.1 w=some (AY7 h y w V9,0):=by
    unfold EO HR
    rw[hd,AD (by decide),hIs,AZ,AD (by decide),g3',AZ,AZ]
    simp only
    rw[AD (by decide)]
    by_cases c8:w=0#64
    ·rw[AD (H_ c8),AD (H_ trivial),v.copy,AZ,AA hyr.1,n1,AZ]
    ·obtain⟨q1,q2⟩:=pQ c8
     rw[AA c8,AD q1,q2,AZ,AD (by decide),AD (H_ trivial),v.copy,AZ,AA hyr.1,n1,AZ]
   rw[hWR]
   subst hW
   exact⟨_,_,rfl,.wr c3 g1.1 g1.2 y g2 c7 V9 n2 n3⟩
  ·rw[AD c3]
   have A56 :=g3'
   rw[NZ (show ¬(o.1=2\/o.1=3) by omega)] at A56
   rw[AD (by omega)] at g1 g2
   rw[aE v.hi.ro (by omega) x1,AZ,hw2]
   have hWD:EA h a o.2.2.1 (BitVec.ofInt 64 o.2.2.2)=some (AY7 h y (BitVec.ofInt 64 o.2.2.2) h.2.2.2.2.1,0):=by
    unfold EA HR
    rw[hd,AD (by decide),hIs,AZ,AD (by decide),A56,AZ,AZ]
    simp only
    rw[AD (H_ trivial),v.copy,AZ,AA hyr.1]
   rw[hWD]
   exact⟨_,_,rfl,.wd (by omega) g1.1 g1.2 y g2⟩
theorem AC7 {z:Int} (hz:0<z):∀ {xs:List AH},(∀ i∈xs,0<=i.2.2.2.2)->YX xs<=WL z xs*z
 | [],_=>by unfold YX WL;simp
 |a::r,h=>by
  have h1:=h a (by simp)
  have h2:=AC7 hz (xs:=r) fun i hi=>h i (UY _ hi)
  have h3:=OX (n:=a.2.2.2.2) hz
  rw[rE,rF,v_]
  omega
theorem HB.YX {s:Sp} {q:Rows} (h:HB s q):0<=YX q.flatten/\Go.Proofs.YthmiilamegpllaaGreat.YX q.flatten<=s.2.1.length:=by
 have hw:∀ i∈q.flatten,0<=i.2.2.2.2:=fun i hi=>by have:=(h.fit hi).2;omega
 have hv:=h.bv.vs
 have z:=CM s.1
 have h1:=AC7 z hw
 have h2:=(ANI h.bv.ok).1
 have h3:used s<=s.2.2.length:=by unfold used;omega
 have h4:WL (sz s.1) q.flatten*sz s.1<=s.2.2.length*sz s.1:=AEV (by omega) (by omega)
 have h5:=hv.w
 exact⟨fW hw,by omega⟩
abbrev AVB (h:Hs):Hs:=(h.1,h.2.1,h.2.2.1,h.2.2.2.1,h.2.2.2.2.1,h.2.2.2.2.2.1,h.2.2.2.2.2.2.1,(h.2.2.2.2.2.2.2.1.1,h.2.2.2.2.2.2.2.1.2.1,AG (h.2.2.2.2.2.2.2.1.2.2.1+1),h.2.2.2.2.2.2.2.1.2.2.2),h.2.2.2.2.2.2.2.2)
def AA5 (r d:Int):Prop:=(0<=r/\r<=15)/\(0<=d/\d<=32)
instance (r d:Int):Decidable (AA5 r d):=by unfold AA5;infer_instance
inductive DoR (h:Hs) (o:Op):Hs->An->Prop
 |bad (c:¬(1<=o.1/\o.1<=10)):DoR h o h (20,0#64)
 |size (c:o.1=1) (hs:¬AA5 o.2.1 o.2.2.1):DoR h o h (13,0#64)
 |AVC (c:o.1=1) (hs:AA5 o.2.1 o.2.2.1) (hf:UW h.2.2.2.2.2.1.1):DoR h o h (15,0#64)
 |nom (c:o.1=1) (hs:AA5 o.2.1 o.2.2.1) (hf:¬UW h.2.2.2.2.2.1.1) (h' :Hs) (a:Int) (g:AlR h o.2.1 o.2.2.1 h' a 18):DoR h o h' (18,0#64)
 |all (c:o.1=1) (hs:AA5 o.2.1 o.2.2.1) (hf:¬UW h.2.2.2.2.2.1.1) (h1 h' :Hs) (a:Int) (v:BitVec 64) (g:AlR h o.2.1 o.2.2.1 h1 a 0) (t:AV8 h1 (BitVec.ofInt 64 (a+1)) h' v):DoR h o h' (0,v)
 |col (c:o.1=8) (b:Hs×Bool) (m:Nat) (hx:Hs) (kx:Cu) (r:RD 0 (AVB h) b m hx kx) (hm:m<=256):DoR h o b.1 (0,0#64)
 |sta (c:o.1=10):DoR h o h (0,BitVec.ofInt 64 (YX h.2.2.1.flatten))
 |eqa (c:o.1=6) (e:PL h.2.2.2.2.2.1.1 o.2.1 false≠0):DoR h o h (PL h.2.2.2.2.2.1.1 o.2.1 false,0#64)
 |eqb (c:o.1=6) (e:PL h.2.2.2.2.2.1.1 o.2.1 false=0) (f:PL h.2.2.2.2.2.1.1 o.2.2.1 false≠0):DoR h o h (PL h.2.2.2.2.2.1.1 o.2.2.1 false,0#64)
 |equ (c:o.1=6) (e:PL h.2.2.2.2.2.1.1 o.2.1 false=0) (f:PL h.2.2.2.2.2.1.1 o.2.2.1 false=0):DoR h o h (0,if wrd h.2.2.2.2.2.1 o.2.1=wrd h.2.2.2.2.2.1 o.2.2.1 then 1#64 else 0#64)
 |rJ (c:(2<=o.1/\o.1<=5)\/o.1=7\/o.1=9) (e:PL h.2.2.2.2.2.1.1 o.2.1 true≠0):DoR h o h (PL h.2.2.2.2.2.1.1 o.2.1 true,0#64)
 |drp (c:o.1=7) (e:PL h.2.2.2.2.2.1.1 o.2.1 true=0):DoR h o (AZO h (h.2.2.2.2.2.1.1.set (o.2.1-1).toNat false,h.2.2.2.2.2.1.2.set (o.2.1-1).toNat 0#64)) (0,0#64)
 |shp (c:o.1=9) (e:PL h.2.2.2.2.2.1.1 o.2.1 true=0) (i:AH) (hi:i∈h.2.2.1.flatten) (l:List Int) (os:List (Int×Int)) (p a:Int) (x:Int×Int) (ob:OB h.2.1 i l os p a x) (hw:(wrd h.2.2.2.2.2.1 o.2.1).toNat=a+1):DoR h o h (0,BitVec.ofInt 64 (256*x.1+x.2))
 |fld (c:2<=o.1/\o.1<=5) (e:PL h.2.2.2.2.2.1.1 o.2.1 true=0) (i:AH) (hi:i∈h.2.2.1.flatten) (l:List Int) (os:List (Int×Int)) (p a:Int) (x:Int×Int) (ob:OB h.2.1 i l os p a x) (hw:(wrd h.2.2.2.2.2.1 o.2.1).toNat=a+1) (h' :Hs) (an:An) (f:FdR h o i l os p a x h' an):DoR h o h' an
theorem AlR.hv {N:Int} {h:Hs} (v:HV N h) {r d:Int} {h' :Hs} {a:Int} (g:AlR h r d h' a 0):HV (N+257) h' /\IsO h'.2.1 h'.2.2.1 a/\(0<=a/\a<16384)/\h'.1=h.1/\h'.2.2.2.2.2.2.2.2=h.2.2.2.2.2.2.2.2:=by
 obtain⟨h1,g1,⟨g2,_⟩|⟨_,g2,g3⟩⟩:=g
 ·omega
 ·obtain⟨v1,c1,_,_,d1⟩:=g1.ok v
  obtain⟨v2,i2,c2,d2,_⟩:=g3.ok v1
  obtain⟨i,hi,p,x,o⟩:=id i2
  have hr:=o.J9 v2.vs (v2.hi.hb.fit hi).1
  have:=VS.PO v2.vs
  exact⟨v2.mono (by omega),i2,by omega,by rw[c2,c1],by rw[d2,d1]⟩
theorem AlR.A7I {N:Int} {h:Hs} (v:HV N h) {r d:Int} {h' :Hs} {a:Int} (g:AlR h r d h' a 18):HV (N+256) h' :=by
 obtain⟨h1,g1,⟨_,rfl,_⟩|⟨g2,_⟩⟩:=g
 ·have v1:=(g1.ok v).1
  exact⟨v1.g,v1.hi,v1.ql,v1.n1⟩
 ·omega
theorem Rn.used {h:Hs} {k:Cu}:∀ {m:Nat} {h1:Hs} {k1:Cu},Rn m h k h1 k1->h1.2.2.2.2.2.1.1=h.2.2.2.2.2.1.1:=by
 intro m h1 k1 r
 induction r with
 |z=>rfl
 |s a b ih=>
  obtain⟨l,CC,u,_,_,_,dn⟩:=b
  obtain⟨l0,E_,t,to,lb,m,mv,ys,ws,r',V9,st,g1,_,rfl,_⟩:=dn
  exact g1.ru.trans ih
theorem RD.used {N:Int} {h:Hs} (v:HV N h) {n:Int} {b:Hs×Bool} {m:Nat} {h1:Hs} {k1:Cu} (r:RD n h b m h1 k1):b.1.2.2.2.2.2.1.1=h.2.2.2.2.2.1.1:=by
 have h2:=r.rn.used
 rcases r.fin with ⟨rfl,_⟩|⟨rfl,_⟩|⟨rfl,_⟩ <;> exact h2
theorem Gcd.used {N:Int} {h:Hs} (v:HV N h) {n:Int} {h1:Hs} (g:Gcd h n h1):h1.2.2.2.2.2.1.1=h.2.2.2.2.2.1.1:=by
 rcases g with ⟨_,rfl⟩|⟨_,b,m,hx,kx,r,hm,rfl⟩
 ·rfl
 ·exact RD.used (N:=N) (h:=AQD h) v.col r
theorem AlR.used {N:Int} {h:Hs} (v:HV N h) {r d:Int} {h' :Hs} {a:Int} (g:AlR h r d h' a 0):h'.2.2.2.2.2.1.1=h.2.2.2.2.2.1.1:=by
 obtain⟨h1,g1,⟨g2,_⟩|⟨_,g2,g3⟩⟩:=g
 ·omega
 ·rw[<-g1.used v]
  obtain⟨u,j,l,l',os,q',n',h1,rfl⟩:=g3
  rfl
theorem A57 {N:Int} {h:Hs} (v:HV N h) (hN:N<=4294966000) (hd:h.2.2.2.2.2.2.2.2=false) (o:Op):∃ h' an,NR h o=some (h',an)/\DoR h o h' an:=by
 have hro:=v.hi.ro
 unfold NR
 by_cases c1:o.1<1
 ·rw[AA c1,hd,AD (by decide)]
  exact⟨_,_,rfl,.bad (by omega)⟩
 rw[AD c1]
 by_cases c2:o.1>10
 ·rw[AA c2,hd,AD (by decide)]
  exact⟨_,_,rfl,.bad (by omega)⟩
 rw[AD c2,AD (by rw[hd];decide)]
 by_cases c3:o.1=1
 ·rw[AA c3]
  unfold N9
  obtain⟨w,e,he,hs⟩:=AV6 o.2.1 o.2.2.1
  rw[he,AZ]
  rcases hs with ⟨rfl,hs⟩|rfl
  rotate_left
  ·rw[AA (by simp)]
   refine⟨_,_,rfl,.size c3 fun hh=> ?_⟩
   have:=uW hh.1.1 hh.1.2 hh.2.1 hh.2.2
   rw[he] at this
   exact absurd (PR Prod.snd (XW this)) (by simp)
  rw[AD (show ¬¬((w,(0:Int)).2=0) from H_ rfl),AC6 hro,AZ]
  by_cases c4:UW h.2.2.2.2.2.1.1
  ·rw[IV c4,AA rfl]
   exact⟨_,_,rfl,.AVC c3 hs c4⟩
  rw[NZ c4,AD (by decide)]
  obtain⟨h1,a,e,ha,g⟩:=AQF v hN hd hs.1.1 hs.1.2 hs.2.1 hs.2.2
  rw[ha,AZ]
  by_cases c5:e=0
  ·subst c5
   rw[AD (show ¬¬((h1,a,(0:Int)).2.2=0) from H_ rfl)]
   obtain⟨v1,i1,ar,_,_⟩:=g.hv v
   have hu:=g.used v
   obtain⟨h',w,t1,t2⟩:=ANY (h:=h1) v1.hi.ro (by rw[hu];exact c4) (BitVec.ofInt 64 (a+1))
   simp only
   rw[AE (e:=a+1) (by omega) (by omega),t1,AZ]
   exact⟨_,_,rfl,.all c3 hs c4 h1 _ a w g t2⟩
  ·have he:e=18:=by
    obtain⟨_,_,⟨h3,_⟩|⟨h3,_⟩⟩:=g
    ·exact h3
    ·exact absurd h3 c5
   subst he
   rw[AA (by simp)]
   exact⟨_,_,rfl,.nom c3 hs c4 h1 a g⟩
 rw[AD c3]
 by_cases c4:o.1=8
 ·rw[AA c4]
  unfold LZ
  rw[hd,AD (by decide)]
  have vc:HV N (AVB h):=⟨v.g,v.hi,v.ql,v.n1⟩
  obtain⟨b,m,hx,kx,g1,g2,g3⟩:=ANW vc (by omega)
  have e1:(h.1,h.2.1,h.2.2.1,h.2.2.2.1,h.2.2.2.2.1,h.2.2.2.2.2.1,h.2.2.2.2.2.2.1,(h.2.2.2.2.2.2.2.1.1,h.2.2.2.2.2.2.2.1.2.1,AG (h.2.2.2.2.2.2.2.1.2.2.1+1),h.2.2.2.2.2.2.2.1.2.2.2),false)=AVB h:=by unfold AVB;rw[hd]
  rw[e1,g1]
  exact⟨_,_,rfl,.col c4 b m hx kx g2 g3⟩
 rw[AD c4]
 by_cases c5:o.1=10
 ·rw[AA c5]
  unfold K2
  obtain⟨l1,l2,l3⟩:=v.hi.hb.lens
  have hw:=v.hi.hb.YX
  have:=VS.PO v.vs
  rw[APV (by omega) (fun x hx=>by have:=l3 x hx;omega) (fun i hi=>by have:=(v.hi.hb.fit hi).2;omega) (by omega)]
  exact⟨_,_,rfl,.sta c5⟩
 rw[AD c5]
 by_cases c6:o.1=6
 ·rw[AA c6,iD hro,AZ]
  by_cases c7:PL h.2.2.2.2.2.1.1 o.2.1 false=0
  rotate_left
  ·rw[AA c7];exact⟨_,_,rfl,.eqa c6 c7⟩
  rw[AD (H_ c7),iD hro,AZ]
  by_cases c8:PL h.2.2.2.2.2.1.1 o.2.2.1 false=0
  rotate_left
  ·rw[AA c8];exact⟨_,_,rfl,.eqb c6 c7 c8⟩
  obtain⟨_,x0,x1⟩:=AER v c7
  obtain⟨_,y0,y1⟩:=AER v c8
  rw[AD (H_ c8),aE hro x0 x1,AZ,aE hro y0 y1,AZ]
  unfold OA
  have:=DoR.equ c6 c7 c8
  refine⟨_,_, ?_,this⟩
  by_cases c9:wrd h.2.2.2.2.2.1 o.2.1=wrd h.2.2.2.2.2.1 o.2.2.1
  ·rw[IV c9,AA rfl,AA c9];rfl
  ·rw[NZ c9,AD (by decide),AD c9];rfl
 rw[AD c6,iD hro,AZ]
 by_cases c7:PL h.2.2.2.2.2.1.1 o.2.1 true=0
 rotate_left
 ·rw[AA c7];exact⟨_,_,rfl,.rJ (by omega) c7⟩
 obtain⟨x0,x1,hu⟩:=gE c7
 rw[AD (H_ c7)]
 by_cases c8:o.1=7
 ·rw[AA c8,v.copy,AZ,AUE hro x0 x1 hu]
  exact⟨_,_,rfl,.drp c8 c7⟩
 rw[AD c8]
 by_cases c9:o.1=9
 ·rw[AA c9,aE hro (by omega) x1,AZ]
  obtain⟨i,hi,l,os,p,a,x,ob,hw1,hw2,a0⟩:=v.root c7
  have hr:=ob.IZ
  rw[hw2,ob.look v.vs (v.hi.hb.fit hi).1,AZ]
  simp only
  rw[AE (e:=256*x.1) (by omega) (by omega),AE (e:=256*x.1+x.2) (by omega) (by omega)]
  exact⟨_,_,rfl,.shp c9 c7 i hi l os p a x ob hw1⟩
 rw[AD c9]
 obtain⟨i,hi,l,os,p,a,x,h',an,ob,hw,g1,g2⟩:=AVA v hd (o:=o) (by omega) c7
 rw[g1]
 exact⟨_,_,rfl,.fld (by omega) c7 i hi l os p a x ob hw h' an g2⟩
theorem AQG {a:Int} (a0:0<=a) (a1:a<16384):(BitVec.ofInt 64 (a+1)).toNat=a.toNat+1:=by
 rw[vK];omega
theorem FdR.hv {N:Int} {h:Hs} (v:HV N h) {o:Op} {i:AH} (hi:i∈h.2.2.1.flatten) {l:List Int} {os:List (Int×Int)} {p a:Int} {x:Int×Int} (ob:OB h.2.1 i l os p a x) {h' :Hs} {an:An} (f:FdR h o i l os p a x h' an):
  HV N h' /\an.1≠18/\h'.1=h.1/\h'.2.2.2.2.2.2.2.2=h.2.2.2.2.2.2.2.2/\h'.2.1.1=h.2.1.1/\h'.2.1.2.2.length=h.2.1.2.2.length:=by
 have hro:=ob.IZ
 cases f with
 |bad hk=>exact⟨v,by simp,rfl,rfl,rfl,rfl⟩
 |rd c k0 k1 y hy=>exact⟨v,by simp,rfl,rfl,rfl,rfl⟩
 |rr0 c k0 k1 y hy hw=>exact⟨v,by simp,rfl,rfl,rfl,rfl⟩
 |rrf c k0 k1 y hy hw hf=>exact⟨v,by simp,rfl,rfl,rfl,rfl⟩
 |rr c k0 k1 y hy hw hf h2 v' t=>
  have QO:Slot h.2.1 h.2.2.1 y:=⟨i,hi,l,os,p,a,x,1+o.2.2.1,ob,by omega,by omega,hy⟩
  have ho:=(v.hi.ref y QO).resolve_left hw
  have hv' :=t.hv v hw ho
  obtain⟨i',_,_,_,rfl,_⟩:=t
  exact⟨hv',by simp,rfl,rfl,rfl,rfl⟩
 |wrh c k0 k1 hh=>
  refine⟨v, ?_,rfl,rfl,rfl,rfl⟩
  simp only
  unfold PL
  split
  ·split <;> omega
  ·split <;> omega
 |wr c k0 k1 y hy hh V9 hr hs=>
  have fd:Fd h.2.1 h.2.2.1 i l os p a x (1+o.2.2.1) y:=⟨v.hi.hb,hi,ob,by omega,by omega,hy⟩
  exact⟨⟨v.g,fd.ref (by omega) (AER v hh).1 v.hi hr hs,v.ql,v.n1⟩,by simp,rfl,rfl,rfl,rfl⟩
 |wd c k0 k1 y hy=>
  have fd:Fd h.2.1 h.2.2.1 i l os p a x (1+x.1+o.2.2.1) y:=⟨v.hi.hb,hi,ob,by omega,by omega,hy⟩
  exact⟨⟨v.g,fd.data _ (by omega) v.hi,v.ql,v.n1⟩,by simp,rfl,rfl,rfl,rfl⟩
theorem DoR.hv {N:Int} {h:Hs} (v:HV N h) {o:Op} {h' :Hs} {an:An} (g:DoR h o h' an):HV (N+257) h' /\(an.1≠18->h'.2.2.2.2.2.2.2.2=h.2.2.2.2.2.2.2.2)/\h'.1=h.1/\h'.2.1.1=h.2.1.1/\h'.2.1.2.2.length=h.2.1.2.2.length:=by
 have vs:HV (N+257) h:=v.mono (by omega)
 cases g with
 |bad c=>exact⟨vs,fun _=>rfl,rfl,rfl,rfl⟩
 |size c hs=>exact⟨vs,fun _=>rfl,rfl,rfl,rfl⟩
 |AVC c hs hf=>exact⟨vs,fun _=>rfl,rfl,rfl,rfl⟩
 |nom c hs hf h2 a g=>
  refine⟨(g.A7I v).mono (by omega),fun hh=>absurd rfl hh, ?_⟩
  obtain⟨h1,g1,⟨_,rfl,_⟩|⟨g2,_⟩⟩:=g
  ·obtain⟨_,c1,c2,c3,_⟩:=g1.ok v
   exact⟨c1,c2,c3⟩
  ·omega
 |all c hs hf h1 h2 a v' g t=>
  obtain⟨v1,i1,ar,c1,d1⟩:=g.hv v
  have e:=AQG ar.1 ar.2
  have hv' :=t.hv v1 (fun h0=>by rw[h0] at e;have:(0#64).toNat=0:=rfl;omega) (by rw[e];rw[show ((a.toNat+1:Nat):Int)-1=a by omega];exact i1)
  obtain⟨i',_,_,_,rfl,_⟩:=t
  refine⟨hv',fun _=>d1,c1, ?_⟩
  obtain⟨h2,g1,⟨g2,_⟩|⟨_,g2,g3⟩⟩:=g
  ·omega
  ·obtain⟨v2,_,c2,c3,_⟩:=g1.ok v
   obtain⟨_,_,_,_,c4,c5,_⟩:=g3.ok v2
   exact⟨by simp only;rw[c4,c2],by simp only;rw[c5,c3]⟩
 |col c b m hx kx r hm=>
  obtain⟨g1,g2,g3,g4,g5⟩:=r.ok (N:=N) (h:=AVB h) ⟨v.g,v.hi,v.ql,v.n1⟩
  exact⟨g1.mono (by omega),fun _=>g5,g2,g3,g4⟩
 |sta c=>exact⟨vs,fun _=>rfl,rfl,rfl,rfl⟩
 |eqa c e=>exact⟨vs,fun _=>rfl,rfl,rfl,rfl⟩
 |eqb c e f=>exact⟨vs,fun _=>rfl,rfl,rfl,rfl⟩
 |equ c e f=>exact⟨vs,fun _=>rfl,rfl,rfl,rfl⟩
 |rJ c e=>exact⟨vs,fun _=>rfl,rfl,rfl,rfl⟩
 |drp c e=>
  obtain⟨x0,x1,hu⟩:=gE e
  exact⟨⟨v.g,v.hi.drop (i:=(o.2.1-1).toNat) (by omega),v.ql,by have:=v.n1;simp only;omega⟩,fun _=>rfl,rfl,rfl,rfl⟩
 |shp c e i hi l os p a x ob hw=>exact⟨vs,fun _=>rfl,rfl,rfl,rfl⟩
 |fld c e i hi l os p a x ob hw h2 an2 f=>
  obtain⟨g1,g2,g3,g4,g5⟩:=f.hv v hi ob
  exact⟨g1.mono (by omega),fun _=>g4,g3,g5⟩
abbrev Nd:Type:=List Int×List (BitVec 64)
abbrev Gh:Type:=List Nd×List Bool×List Int
def nd (g:Gh) (k:Int):Nd:=gl (([],[]):Nd) g.1 k.toNat
structure GV (M:Nat) (g:Gh):Prop where
 ul:g.2.1.length=32
 rl:g.2.2.length=32
 nn:g.1.length<=M
 nd:∀ k:Int,0<=k->k<g.1.length->(nd g k).1.length<=15/\(Go.Proofs.YthmiilamegpllaaGreat.nd g k).2.length<=32/\∀ j:Nat,j<(Go.Proofs.YthmiilamegpllaaGreat.nd g k).1.length→-1<=gl 0 (Go.Proofs.YthmiilamegpllaaGreat.nd g k).1 j/\gl 0 (Go.Proofs.YthmiilamegpllaaGreat.nd g k).1 j<g.1.length
 rt:∀ i:Nat,i<32->gl false g.2.1 i=true->0<=gl 0 g.2.2 i/\gl 0 g.2.2 i<g.1.length
 un:∀ i:Nat,i<32->gl false g.2.1 i=false->gl 0 g.2.2 i= -1
inductive GRe (g:Gh):Int->Prop
 |rt (i:Nat) (hi:i<32) (hu:gl false g.2.1 i=true):GRe g (gl 0 g.2.2 i)
 |rf (x:Int) (hx:GRe g x) (j:Nat) (hj:j<(nd g x).1.length) (h0:0<=gl 0 (nd g x).1 j):GRe g (gl 0 (nd g x).1 j)
theorem GRe.IZ {M:Nat} {g:Gh} (v:GV M g) {x:Int} (h:GRe g x):0<=x/\x<g.1.length:=by
 induction h with
 |rt i hi hu=>exact v.rt i hi hu
 |rf x hx j hj h0 ih=>exact⟨h0,((v.nd x ih.1 ih.2).2.2 j hj).2⟩
def uB:List Bool->Nat
 | []=>0
 |b::r=>(if b=true then 1 else 0)+uB r
theorem ANZ:∀ l:List Bool,uB l<=l.length
 | []=>EY _
 |b::r=>by
  have:=ANZ r
  simp only[uB,O0]
  split <;> omega
theorem AIP:∀ {l:List Bool} {k:Nat},k<l.length->gl false l k=false->uB (l.set k true)=uB l+1
 |b::r,0,_,h=>by
  have hb:b=false:=h
  rw[AR2,hb];simp [uB];omega
 |b::r,k+1,hk,h=>by
  have ih:=AIP (l:=r) (k:=k) (by simpa using hk) h
  rw[List.set_cons_succ];simp only[uB];rw[ih];omega
structure Sn (g:Gh) (s:List Bool):Prop where
 len:s.length=g.1.length
 rt:∀ i:Nat,i<32->gl false g.2.1 i=true->gl false s (gl 0 g.2.2 i).toNat=true
 sub:∀ k:Nat,k<g.1.length->gl false s k=true->GRe g (k:Int)
def Clo (g:Gh) (s:List Bool) (n:Nat):Prop:=∀ k:Nat,k<n->gl false s k=true->∀ j:Nat,j<(nd g k).1.length->0<=gl 0 (nd g k).1 j->gl false s (gl 0 (nd g k).1 j).toNat=true
theorem Sn.all {M:Nat} {g:Gh} (v:GV M g) {s:List Bool} (h:Sn g s) (hc:Clo g s g.1.length) {x:Int} (hx:GRe g x):gl false s x.toNat=true:=by
 induction hx with
 |rt i hi hu=>exact h.rt i hi hu
 |rf x hx j hj h0 ih=>
  have hr:=hx.IZ v
  have:=hc x.toNat (by omega) ih j (by rw[show ((x.toNat:Nat):Int)=x by omega];exact hj)
  rw[show ((x.toNat:Nat):Int)=x by omega] at this
  exact this h0
structure Ps (g:Gh) (s0:List Bool) (b:Bool) (s:List Bool):Prop where
 sn:Sn g s
 up:∀ k:Nat,gl false s0 k=true->gl false s k=true
 gr:b=true->uB s0<uB s
 no:b=false->s=s0
 le:uB s0<=uB s
theorem Ps.put {M:Nat} {g:Gh} (v:GV M g) {s0:List Bool} {b:Bool} {s:List Bool} (h:Ps g s0 b s) {k:Nat} (hk:k<g.1.length) (hs:gl false s k=true) {j:Nat} (hj:j<(nd g k).1.length) (h0:0<=gl 0 (nd g k).1 j) (hn:gl false s (gl 0 (nd g k).1 j).toNat=false):
  Ps g s0 true (s.set (gl 0 (nd g k).1 j).toNat true):=by
 have hl:=h.sn.len
 have hr:=(v.nd k (by omega) (by omega)).2.2 j hj
 have DO:(gl 0 (nd g k).1 j).toNat<s.length:=by omega
 have hc:=AIP DO hn
 have hg:∀ i:Nat,gl false s i=true->gl false (s.set (gl 0 (nd g k).1 j).toNat true) i=true:=by
  intro i hi
  rw[D5 DO];split
  ·rfl
  ·exact hi
 refine⟨⟨by rw[EW];exact hl,fun i hi hu=>hg _ (h.sn.rt i hi hu),fun i hi hu=> ?_⟩,fun i hi=>hg i (h.up i hi),fun _=>(by have:=h.le;omega),fun h=>(by cases h),by have:=h.le;omega⟩
 rw[D5 DO] at hu
 split at hu
 ·rename_i he
  rw[he,vJ h0]
  exact .rf k (h.sn.sub k hk hs) j hj h0
 ·exact h.sn.sub i hi hu
theorem AY8 {M:Nat} {g:Gh} (v:GV M g) (hM:M<=1000) {s0:List Bool} (hs0:Sn g s0):∃ y:Bool×List Bool,AI (σ:=(Bool×Int×(List Bool))) (β:=((Bool×(List Bool)) ⊕ (List Int))) (fun s3=>
  if s3.2.1<(g.1.length:Int) then
  if 0<=s3.2.1/\s3.2.1<(g.1.length:Int) then
  AI (σ:=(Bool×Int×(List Bool))) (β:=((Bool×Int×(List Bool)) ⊕ ((Bool×(List Bool)) ⊕ (List Int)))) (fun s4=>
  if s4.2.1<(((gl (([],[]):((List Int)×(List (BitVec 64)))) g.1 s3.2.1.toNat).1).length:Int) then
  if 0<=s4.2.1/\s4.2.1<(((gl (([],[]):((List Int)×(List (BitVec 64)))) g.1 s3.2.1.toNat).1).length:Int) then
  if 0<=s3.2.1/\s3.2.1<(s4.2.2.length:Int) then
  if (gl (false:Bool) s4.2.2 s3.2.1.toNat)=true then
  if (gl (0:Int) ((gl (([],[]):((List Int)×(List (BitVec 64)))) g.1 s3.2.1.toNat).1) s4.2.1.toNat)≥0 then
  if 0<=(gl (0:Int) ((gl (([],[]):((List Int)×(List (BitVec 64)))) g.1 s3.2.1.toNat).1) s4.2.1.toNat)/\(gl (0:Int) ((gl (([],[]):((List Int)×(List (BitVec 64)))) g.1 s3.2.1.toNat).1) s4.2.1.toNat)<(s4.2.2.length:Int) then
  if (!(gl (false:Bool) s4.2.2 ((gl (0:Int) ((gl (([],[]):((List Int)×(List (BitVec 64)))) g.1 s3.2.1.toNat).1) s4.2.1.toNat).toNat)))=true then
  if 0<=(gl (0:Int) ((gl (([],[]):((List Int)×(List (BitVec 64)))) g.1 s3.2.1.toNat).1) s4.2.1.toNat)/\(gl (0:Int) ((gl (([],[]):((List Int)×(List (BitVec 64)))) g.1 s3.2.1.toNat).1) s4.2.1.toNat)<(s4.2.2.length:Int) then
  some (Sum.inl ((true,AG (s4.2.1+1),s4.2.2.set ((gl (0:Int) ((gl (([],[]):((List Int)×(List (BitVec 64)))) g.1 s3.2.1.toNat).1) s4.2.1.toNat).toNat) true)))
  else none
  else some (Sum.inl ((s4.1,AG (s4.2.1+1),s4.2.2)))
  else none
  else some (Sum.inl ((s4.1,AG (s4.2.1+1),s4.2.2)))
  else some (Sum.inl ((s4.1,AG (s4.2.1+1),s4.2.2)))
  else none
  else none
  else some (Sum.inr (Sum.inl ((s4.1,AG (s3.2.1+1),s4.2.2))))) ((s3.1,0,s3.2.2))
  else none
  else some (Sum.inr (Sum.inl ((s3.1,s3.2.2))))) ((false,0,s0))=some (Sum.inl y)/\Ps g s0 y.1 y.2/\(y.1=false->Clo g s0 g.1.length):=by
 have hnn:=v.nn
 have key:=AO (β:=((Bool×(List Bool)) ⊕ (List Int))) (f:=fun s3:Bool×Int×List Bool=>
  if s3.2.1<(g.1.length:Int) then
  if 0<=s3.2.1/\s3.2.1<(g.1.length:Int) then
  AI (σ:=(Bool×Int×(List Bool))) (β:=((Bool×Int×(List Bool)) ⊕ ((Bool×(List Bool)) ⊕ (List Int)))) (fun s4=>
  if s4.2.1<(((gl (([],[]):((List Int)×(List (BitVec 64)))) g.1 s3.2.1.toNat).1).length:Int) then
  if 0<=s4.2.1/\s4.2.1<(((gl (([],[]):((List Int)×(List (BitVec 64)))) g.1 s3.2.1.toNat).1).length:Int) then
  if 0<=s3.2.1/\s3.2.1<(s4.2.2.length:Int) then
  if (gl (false:Bool) s4.2.2 s3.2.1.toNat)=true then
  if (gl (0:Int) ((gl (([],[]):((List Int)×(List (BitVec 64)))) g.1 s3.2.1.toNat).1) s4.2.1.toNat)≥0 then
  if 0<=(gl (0:Int) ((gl (([],[]):((List Int)×(List (BitVec 64)))) g.1 s3.2.1.toNat).1) s4.2.1.toNat)/\(gl (0:Int) ((gl (([],[]):((List Int)×(List (BitVec 64)))) g.1 s3.2.1.toNat).1) s4.2.1.toNat)<(s4.2.2.length:Int) then
  if (!(gl (false:Bool) s4.2.2 ((gl (0:Int) ((gl (([],[]):((List Int)×(List (BitVec 64)))) g.1 s3.2.1.toNat).1) s4.2.1.toNat).toNat)))=true then
  if 0<=(gl (0:Int) ((gl (([],[]):((List Int)×(List (BitVec 64)))) g.1 s3.2.1.toNat).1) s4.2.1.toNat)/\(gl (0:Int) ((gl (([],[]):((List Int)×(List (BitVec 64)))) g.1 s3.2.1.toNat).1) s4.2.1.toNat)<(s4.2.2.length:Int) then
  some (Sum.inl ((true,AG (s4.2.1+1),s4.2.2.set ((gl (0:Int) ((gl (([],[]):((List Int)×(List (BitVec 64)))) g.1 s3.2.1.toNat).1) s4.2.1.toNat).toNat) true)))
  else none
  else some (Sum.inl ((s4.1,AG (s4.2.1+1),s4.2.2)))
  else none
  else some (Sum.inl ((s4.1,AG (s4.2.1+1),s4.2.2)))
  else some (Sum.inl ((s4.1,AG (s4.2.1+1),s4.2.2)))
  else none
  else none
  else some (Sum.inr (Sum.inl ((s4.1,AG (s3.2.1+1),s4.2.2))))) ((s3.1,0,s3.2.2))
  else none
  else some (Sum.inr (Sum.inl ((s3.1,s3.2.2)))))
  (fun k (st:Bool×Int×List Bool)=>st.2.1=(k:Int)/\Ps g s0 st.1 st.2.2/\(st.1=false->Clo g s0 k))
  (fun x=>∃ y:Bool×List Bool,x=Sum.inl y/\Ps g s0 y.1 y.2/\(y.1=false->Clo g s0 g.1.length)) g.1.length ?_ ?_ (s:=(false,0,s0))
  ⟨rfl,⟨hs0,fun _ h=>h,fun h=>(by cases h),fun _=>rfl,EY _⟩,fun _ k hk=>by omega⟩
 ·obtain⟨x,hx,y,rfl,h1⟩:=key
  exact⟨y,hx,h1⟩
 ·rintro k ⟨b,kk,s⟩ hk ⟨I0,hp,hc⟩
  simp only at I0 hp hc
  subst I0
  left
  simp only[HX]
  rw[AA (by omega),AA (by omega)]
  have JE:gl (([],[]):((List Int)×(List (BitVec 64)))) g.1 k=nd g (k:Int):=rfl
  have hvn:=v.nd k (by omega) (by omega)
  rw[JE]
  have inner:=AO (β:=((Bool×Int×(List Bool)) ⊕ ((Bool×(List Bool)) ⊕ (List Int)))) (f:=fun s4:Bool×Int×List Bool=>
   if s4.2.1<((nd g (k:Int)).1.length:Int) then
   if 0<=s4.2.1/\s4.2.1<((nd g (k:Int)).1.length:Int) then
   if 0<=(k:Int)/\(k:Int)<(s4.2.2.length:Int) then
   if (gl (false:Bool) s4.2.2 k)=true then
   if (gl (0:Int) (nd g (k:Int)).1 s4.2.1.toNat)≥0 then
   if 0<=(gl (0:Int) (nd g (k:Int)).1 s4.2.1.toNat)/\(gl (0:Int) (nd g (k:Int)).1 s4.2.1.toNat)<(s4.2.2.length:Int) then
   if (!(gl (false:Bool) s4.2.2 ((gl (0:Int) (nd g (k:Int)).1 s4.2.1.toNat).toNat)))=true then
   if 0<=(gl (0:Int) (nd g (k:Int)).1 s4.2.1.toNat)/\(gl (0:Int) (nd g (k:Int)).1 s4.2.1.toNat)<(s4.2.2.length:Int) then
   some (Sum.inl ((true,AG (s4.2.1+1),s4.2.2.set ((gl (0:Int) (nd g (k:Int)).1 s4.2.1.toNat).toNat) true)))
   else none
   else some (Sum.inl ((s4.1,AG (s4.2.1+1),s4.2.2)))
   else none
   else some (Sum.inl ((s4.1,AG (s4.2.1+1),s4.2.2)))
   else some (Sum.inl ((s4.1,AG (s4.2.1+1),s4.2.2)))
   else none
   else none
   else some (Sum.inr (Sum.inl ((s4.1,AG ((k:Int)+1),s4.2.2)))))
   (fun j (st:Bool×Int×List Bool)=>st.2.1=(j:Int)/\Ps g s0 st.1 st.2.2/\(st.1=false->Clo g s0 k/\(gl false s0 k=true->∀ j' :Nat,j' <j->0<=gl 0 (nd g (k:Int)).1 j' ->gl false s0 (gl 0 (nd g (k:Int)).1 j').toNat=true)))
   (fun x=>∃ y:Bool×Int×List Bool,x=Sum.inl y/\y.2.1=((k+1:Nat):Int)/\Ps g s0 y.1 y.2.2/\(y.1=false->Clo g s0 (k+1))) (nd g (k:Int)).1.length ?_ ?_ (s:=(b,0,s))
   ⟨rfl,hp,fun hb=>⟨hc hb,fun _ j' bH =>by omega⟩⟩
  ·obtain⟨x,hx,y,rfl,h1⟩:=inner
   exact⟨y,hx,h1⟩
  ·rintro j ⟨b4,jj,s4⟩ hj ⟨hjj,hp4,hc4⟩
   simp only at hjj hp4 hc4
   subst hjj
   left
   have hl4:=hp4.sn.len
   simp only[HX]
   have hr:=hvn.2.2 j hj
   rw[AA (by omega),AA (by omega),AA (by omega),AE (e:=(j:Int)+1) (by omega) (by omega)]
   have nxt:(gl false s4 k=true->0<=gl 0 (nd g (k:Int)).1 j->gl false s4 (gl 0 (nd g (k:Int)).1 j).toNat=true)->((j:Int)+1=((j+1:Nat):Int)/\Ps g s0 b4 s4/\(b4=false->Clo g s0 k/\(gl false s0 k=true->∀ j' :Nat,j' <j+1->0<=gl 0 (nd g (k:Int)).1 j' ->gl false s0 (gl 0 (nd g (k:Int)).1 j').toNat=true))):=by
    intro hn
    refine⟨rfl,hp4,fun hb=>⟨(hc4 hb).1,fun h0 j' bH g_ => ?_⟩⟩
    by_cases he:j' =j
    ·subst he
     have:=hp4.no hb
     subst this
     exact hn h0 g_
    ·exact (hc4 hb).2 h0 j' (by omega) g_
   by_cases c1:gl false s4 k=true
   rotate_left
   ·rw[AD c1]
    exact⟨_,rfl,nxt fun h=>absurd h c1⟩
   rw[AA c1]
   by_cases c2:gl 0 (nd g (k:Int)).1 j≥0
   rotate_left
   ·rw[AD c2]
    exact⟨_,rfl,nxt fun _ h=>absurd h c2⟩
   rw[AA c2,AA (by omega)]
   cases c3:gl false s4 (gl 0 (nd g (k:Int)).1 j).toNat with
   |true=>
    rw[AD (by decide)]
    exact⟨_,rfl,nxt fun _ _=>c3⟩
   |false=>
    rw[AA (by decide),AA (by omega)]
    exact⟨_,rfl,rfl,hp4.put v hk c1 hj c2 c3,fun h=>by cases h⟩
  ·rintro⟨b4,jj,s4⟩ ⟨hjj,hp4,hc4⟩
   simp only at hjj hp4 hc4
   subst hjj
   simp only
   rw[AD (by omega),AE (e:=(k:Int)+1) (by omega) (by omega)]
   refine⟨_,rfl,_,rfl,rfl,hp4,fun hb=> ?_⟩
   obtain⟨h1,h2⟩:=hc4 hb
   intro k' NW hu j hj h0
   by_cases he:k' =k
   ·subst he;exact h2 hu j hj h0
   ·exact h1 k' (by omega) hu j hj h0
 ·rintro⟨b,kk,s⟩ ⟨I0,hp,hc⟩
  simp only at I0 hp hc
  subst I0
  simp only
  rw[AD (by omega)]
  exact⟨_,rfl,_,rfl,hp,hc⟩
theorem AVD {M:Nat} {g:Gh} (v:GV M g) (hM:M<=1000):∃ l,J3 g=some l/\l.Pairwise (·< ·)/\∀ x,x∈l↔GRe g x:=by
 have hul:=v.ul
 have hrl:=v.rl
 have hnn:=v.nn
 unfold J3
 rw[AA (by omega)]
 refine AO (fun k (st:Int×List Bool)=>st.1=(k:Int)/\st.2.length=g.1.length/\(∀ i:Nat,i<k->gl false g.2.1 i=true->gl false st.2 (gl 0 g.2.2 i).toNat=true)/\∀ i:Nat,i<g.1.length->gl false st.2 i=true->GRe g (i:Int)) _ 32 ?_ ?_ ⟨rfl,by simp,fun i hi=>by omega,fun i hi hu=> ?_⟩
 ·rintro k ⟨kk,s⟩ hk ⟨I0,hl,h1,h2⟩
  simp only at I0 hl h1 h2
  subst I0
  left
  simp only[HX]
  rw[AA (by omega),AA (by omega),AE (e:=(k:Int)+1) (by omega) (by omega)]
  cases hu:gl false g.2.1 k with
  |false=>
   rw[AD (by decide)]
   refine⟨_,rfl,rfl,hl,fun i hi hui=> ?_,h2⟩
   by_cases gS:i=k
   ·subst gS;rw[hu] at hui;cases hui
   ·exact h1 i (by omega) hui
  |true=>
   have hr:=v.rt k hk hu
   have DO:(gl 0 g.2.2 k).toNat<s.length:=by omega
   rw[AA rfl,AA (by omega),AA (by omega)]
   refine⟨_,rfl,rfl,by simp only[EW];exact hl,fun i hi hui=> ?_,fun i hi hui=> ?_⟩
   ·simp only
    rw[D5 DO]
    split
    ·rfl
    ·rename_i CU
     by_cases gS:i=k
     ·subst gS;exact absurd rfl CU
     ·exact h1 i (by omega) hui
   ·simp only at hui
    rw[D5 DO] at hui
    split at hui
    ·rename_i he
     rw[he,vJ hr.1]
     exact .rt k hk hu
    ·exact h2 i hi hui
 ·rintro⟨kk,s⟩ ⟨I0,hl,h1,h2⟩
  simp only at I0 hl h1 h2
  subst I0
  simp only
  rw[AD (by omega)]
  refine Y1 ?_
  have fin:∀ (s1:List Bool),Sn g s1->Clo g s1 g.1.length->∃ b,Option.map (Sum.inr (α:=Bool×List Bool)) (AI (σ:=((List Int)×Int)) (β:=(List Int)) (fun s5=>
    if s5.2<(s1.length:Int) then
    if 0<=s5.2/\s5.2<(s1.length:Int) then
    if (gl (false:Bool) s1 s5.2.toNat)=true then
    if (s5.1.length+([s5.2]:List Int).length)*8<=140737488355328 then
    some (Sum.inl ((s5.1++([s5.2]:List Int),AG (s5.2+1))))
    else none
    else some (Sum.inl ((s5.1,AG (s5.2+1))))
    else none
    else some (Sum.inr (s5.1))) (([],0)))=some (Sum.inr b)/\(b.Pairwise (·< ·)/\∀ x,x∈b↔GRe g x):=by
   intro s1 sn hc
   refine Y1 ?_
   have hl1:=sn.len
   refine AO (fun k (st:List Int×Int)=>st=((EI k).filter (fun x=>gl false s1 x.toNat),(k:Int))) _ s1.length ?_ ?_ (s:=([],0)) rfl
   ·rintro k st hk rfl
    left
    have tP:=mO (fun x:Int=>gl false s1 x.toNat) (EI k)
    rw[GZ] at tP
    simp only[HX]
    rw[AA (by omega),AA (by omega),AE (e:=(k:Int)+1) (by omega) (by omega),H9,tH]
    cases hu:gl false s1 k with
    |true=>
     rw[AA rfl,AA (by simp only[IC];omega)]
     refine⟨_,rfl, ?_⟩
     simp [hu]
    |false=>
     rw[AD (by decide)]
     refine⟨_,rfl, ?_⟩
     simp [hu]
   ·rintro st rfl
    simp only
    rw[AD (by omega)]
    refine⟨_,rfl,(rB _).filter _,fun x=> ?_⟩
    rw[bB,NJ]
    constructor
    ·rintro⟨⟨x0,x1⟩,hu⟩
     have:=sn.sub x.toNat (by omega) hu
     rw[vJ x0] at this
     exact this
    ·intro hx
     have:=hx.IZ v
     exact⟨by omega,sn.all v hc hx⟩
  refine AO (fun m (st:Bool×List Bool)=>Sn g st.2/\(st.1=true->m<=uB st.2)/\(st.1=false->Clo g st.2 g.1.length)) _ (g.1.length+1) ?_ ?_ (s:=(true,s)) ⟨⟨hl,h1,h2⟩,fun _=>mY _,fun h=>by cases h⟩
  ·rintro m ⟨b,s1⟩ hm ⟨sn,c1,c2⟩
   simp only at sn c1 c2
   cases b with
   |false=>
    right
    rw[AD (show ¬false=true by decide)]
    exact fin s1 sn (c2 rfl)
   |true=>
    rw[AA rfl]
    obtain⟨y,g1,g2,g3⟩:=AY8 v hM sn
    refine .inl ⟨y,g1,g2.sn,fun hb=> ?_,fun hb=> ?_⟩
    ·have:=g2.gr hb
     have:=c1 rfl
     omega
    ·have:=g2.no hb
     rw[this]
     exact g3 hb
  ·rintro⟨b,s1⟩ ⟨sn,c1,c2⟩
   simp only at sn c1 c2
   cases b with
   |false=>
    rw[AD (show ¬false=true by decide)]
    exact fin s1 sn (c2 rfl)
   |true=>
    have h1:=c1 rfl
    have h2:=ANZ s1
    have h3:=sn.len
    omega
 ·simp only at hu
  rw[show (g.1.length:Int).toNat=g.1.length from rfl,O4 hi] at hu
  cases hu
def AIQ (g:Gh) (l:List Int):Int:=l.foldl (fun n x=>n+(1+((nd g x).1.length:Int)+((nd g x).2.length:Int))) 0
theorem AQH {g:Gh} (l:List Int) {k:Nat} (hk:k<l.length):AIQ g (l.take (k+1))=AIQ g (l.take k)+(1+((nd g (gl 0 l k)).1.length:Int)+((nd g (gl 0 l k)).2.length:Int)):=by
 unfold AIQ
 rw[FZ (d:=0) l k hk,AAE];rfl
theorem AVE {M:Nat} {g:Gh} (v:GV M g) (hM:M<=1000):∃ l,K5 g=some (AIQ g l)/\l.Pairwise (·< ·)/\∀ x,x∈l↔GRe g x:=by
 obtain⟨l,h1,h2,h3⟩:=AVD v hM
 refine⟨l, ?_,h2,h3⟩
 have yD:l.length<=1000:=rK h2 fun x hx=>by have:=((h3 x).1 hx).IZ v;have:=v.nn;omega
 unfold K5
 rw[h1,AZ]
 refine (AO (fun k (st:Int×Int)=>st=(AIQ g (l.take k),(k:Int))/\0<=st.1/\st.1<=100*k) (fun b=>b=AIQ g l) l.length ?_ ?_ (s:=(0,0)) ⟨rfl,by simp,by simp⟩).elim fun b hb=>by rw[hb.1,hb.2]
 ·rintro k st hk ⟨rfl,hs0,hs1⟩
  left
  have hr:=((h3 _).1 (BN (d:=0) hk)).IZ v
  have hn:=v.nd _ hr.1 hr.2
  simp only at hs0 hs1
  simp only[HX]
  have e1:gl (([],[]):((List Int)×(List (BitVec 64)))) g.1 (gl 0 l k).toNat=nd g (gl 0 l k):=rfl
  rw[AA (by omega),AA (by omega),AA (by omega),AA (by omega),e1,AE (e:=(1:Int)+((nd g (gl 0 l k)).1.length:Int)) (by omega) (by omega),AE (e:=(1:Int)+((nd g (gl 0 l k)).1.length:Int)+((nd g (gl 0 l k)).2.length:Int)) (by omega) (by omega),AE (e:=AIQ g (l.take k)+_) (by omega) (by omega),AE (e:=(k:Int)+1) (by omega) (by omega)]
  exact⟨_,rfl,by rw[AQH l hk];rfl,by simp only;omega,by simp only;omega⟩
 ·rintro st ⟨rfl,_,_⟩
  simp only
  rw[AD (by omega),SD]
  exact⟨_,rfl,rfl⟩
end Go.Proofs.YthmiilamegpllaaGreat
