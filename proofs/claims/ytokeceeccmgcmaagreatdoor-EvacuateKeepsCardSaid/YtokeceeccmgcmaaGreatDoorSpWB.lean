/- A law of the statements is proved here, without any condition. -/
import Derived.Test.YtokeceeccmgcmaaGreatDoorProg
import Derived.Test.YtokeceeccmgcmaaGreatDoorChecked
import Derived.KernelRfl
import Derived.Test.YtokeceeccmgcmaaGreatDoorHeaZ
import Derived.Test.YtokeceeccmgcmaaGreatDoorRows
import Derived.Test.YtokeceeccmgcmaaGreatDoorTie
import Derived.Test.YtokeceeccmgcmaaGreatDoorCards
import Derived.SevenTiedAt
set_option linter.unusedVariables false
set_option linter.unusedSimpArgs false
set_option maxRecDepth 100000
namespace Go.Proofs.YtokeceeccmgcmaaGreatDoor
open Go Go.V3
noncomputable section
end
end Go.Proofs.YtokeceeccmgcmaaGreatDoor
set_option maxRecDepth 100000
namespace Go.Proofs.YtokeceeccmgcmaaGreatDoor
open Go Go.V3
noncomputable section
end
noncomputable section
def zbi (r3:bT) (s1:(Int×(List Bool))):=(gl ((0,0):(Int×Int)) r3.2.2.1 s1.1.toNat).1
def zbj (r3:bT) (s3:Int):=gl (0#64:(BitVec 64)) r3.1.2.1 s3.toNat
def zbh (s3:Int) (s1:(Int×(List Bool))) (r3:bT):Option (Int⊕Bool):=if 0<=s3/\s3<(s1.2.length:Int) then
if (gl (false:Bool) s1.2 s3.toNat)=true then
if 0<=s3/\s3<(r3.1.2.1.length:Int) then
if ¬(2#64)=0#64 then
if ¬((zbj r3 s3)%(2#64))=(1#64) then
some (Sum.inr (false))
else some (Sum.inl (AG (s3+1)))
else none
else none
else some (Sum.inl (AG (s3+1)))
else none
def H_ (a0:(List Int)):Option Bool:=
(IJ a0).bind (fun r1=>
(D7 r1).bind (fun r2=>
(D3 r2.1.2.1 r2.2.1 r2.2.2.1 r2.2.2.2.1).bind (fun r3=>
if ¬r3.2.2.2.2=0 then
if r3.2.2.2.2=4 then
(CU).bind (fun r4=>
some (r4))
else some (false)
else if ¬(r3.1.2.1.length:Int)=(r2.1.2.1.2.1.length:Int) then
some (false)
else if ¬(r3.1.2.2.length:Int)=(r2.1.2.1.2.2.length:Int) then
some (false)
else if ¬r3.2.1.1=r2.2.2.1.1 then
some (false)
else if 0<=(r3.1.2.1.length:Int)/\(r3.1.2.1.length:Int)<=(r3.1.2.1.length:Int)/\(r3.1.2.1.length:Int)*((1:Nat):Int)<=140737488355328 then
AH (σ:=(Int×(List Bool))) (β:=Bool) (fun s1=>
if s1.1<(r3.2.2.1.length:Int) then
if 0<=s1.1/\s1.1<(r3.2.2.1.length:Int) then
if (zbi r3 s1)<0 then
some (Sum.inr (false))
else if (zbi r3 s1)≥(s1.2.length:Int) then
some (Sum.inr (false))
else if 0<=(zbi r3 s1)/\(zbi r3 s1)<(s1.2.length:Int) then
some (Sum.inl ((AG (s1.1+1),s1.2.set ((zbi r3 s1).toNat) true)))
else none
else none
else Option.map Sum.inr (if 0<=(r3.1.2.1.length:Int)/\(r3.1.2.1.length:Int)<=(r3.1.2.1.length:Int)/\(r3.1.2.1.length:Int)*((1:Nat):Int)<=140737488355328 then
AH (σ:=(Int×(List Bool))) (β:=Bool) (fun s2=>
if s2.1<r2.2.2.1.2.2.2.2 then
if True then
(AX r2.1.2.1 (AG (r2.2.2.1.2.2.1*2 ^ min (BitVec.ofInt 64 r3.1.1).toNat 64)) s2.1).bind (fun r5=>
if 0<=r5.1/\r5.1<(s2.2.length:Int) then
some (Sum.inl ((AG (s2.1+1),s2.2.set r5.1.toNat true)))
else none)
else none
else Option.map Sum.inr (AH (σ:=Int) (β:=Bool) (fun s3=>
if s3<(r2.1.2.1.2.1.length:Int) then
if 0<=s3/\s3<(r2.1.2.1.2.1.length:Int) then
if True then
if 0<=(s3 / 2 ^ min (BitVec.ofInt 64 r3.1.1).toNat 64)/\(s3 / 2 ^ min (BitVec.ofInt 64 r3.1.1).toNat 64)<(r3.1.2.2.length:Int) then
if ((gl ((0,0,0):AZ) r3.1.2.2 ((s3 / 2 ^ min (BitVec.ofInt 64 r3.1.1).toNat 64).toNat)).1)=r2.2.2.1.1 then
if 0<=s3/\s3<(s2.2.length:Int) then
if 0<=s3/\s3<(r3.1.2.1.length:Int) then
if ¬(zbj r3 s3)=(gl (0#64:(BitVec 64)) r2.1.2.1.2.1 s3.toNat) then
if 0<=s3/\s3<(s1.2.length:Int) then
if (!(gl (false:Bool) s1.2 s3.toNat))=true then
if (!(!(gl (false:Bool) s2.2 s3.toNat)))=true then
some (Sum.inr (false))
else zbh s3 s1 r3
else zbh s3 s1 r3
else none
else zbh s3 s1 r3
else none
else none
else if 0<=s3/\s3<(r3.1.2.1.length:Int) then
if ¬(zbj r3 s3)=(gl (0#64:(BitVec 64)) r2.1.2.1.2.1 s3.toNat) then
if 0<=s3/\s3<(s1.2.length:Int) then
if (!(gl (false:Bool) s1.2 s3.toNat))=true then
some (Sum.inr (false))
else zbh s3 s1 r3
else none
else zbh s3 s1 r3
else none
else none
else none
else none
else Option.map Sum.inr ((CU).bind (fun r6=>
some (r6)))) (0))) ((0,List.replicate (r3.1.2.1.length:Int).toNat (false:Bool)))
else none)) ((0,List.replicate (r3.1.2.1.length:Int).toNat (false:Bool)))
else none)))
@[reducible] def LQ:FnI:=BP [SZ] [HK] fun x=>H_ x
def UL:Cx:=BE [(3,(13,1)),(5,(14,1)),(7,(19,1)),(8,(20,1)),(14,(22,1)),(24,(1,2)),(25,(3,10)),(36,(15,4)),(77,(21,1)),(102,(23,1))] [77,102] [(7,JF),(8,JG),(9,MG),(11,LM),(19,DV)] [(0,B8 [(80,AO)] [] [(21,.bool)] (E6 [(2,1),(14,1),(81,18)]) [] 22),(2,B8 [(16,AO)] [] [(23,.bool)] (E6 [(17,2),(103,22)]) [] 24),(4,B8 [(129,AO)] [] [] (E6 [(2,1),(19,3),(130,56)]) [] 24)] []
theorem T_:CV 5 LQ:=okW UL [.tmp 2] 187 23 (BC (.cons L9 (.cons MA (.cons PD (.cons N2 (.cons D0 AL.nil))))) BA.nil) Tryz.func5
end
variable {to:AI}
theorem AA2 {N:Int} {h:Hs} (v:HV N h) (hN:N<=4294967295) {cut:Nat} (ht:to∈h.2.2.1.flatten.drop cut\/∃ b:Int,(0<=b/\b<4)/\to=(h.2.2.2.1,b, -1, -1,0)):
  ∃ l0 DL,Cd h.2.1 h.2.2.1 (h.2.2.1.flatten.take cut) to l0 DL:=by
 have HN:=v.hi.hb.bv.ok.nodup
 have GR:∀ i∈h.2.2.1.flatten.take cut,i∈h.2.2.1.flatten:=fun i hi=>AA7 hi
 rcases ht with ht|⟨b,hb,rfl⟩
 ·have hm:=tJ ht
  obtain⟨DL,l0,h1,h2⟩:=v.hi.hb.full to hm
  have hf:=v.hi.hb.fit hm
  refine⟨l0,DL,v.hi.hb,GR,hf.1,fun hC=> ?_,fun hw=>by omega,h1,h2⟩
  obtain⟨i,hi,he⟩:=FC.1 hC
  rw[<-AFT cut h.2.2.1.flatten,YC,PB] at HN
  exact HN.2.2 _ (DH.2 ⟨i,hi,rfl⟩) _ (DH.2 ⟨to,ht,rfl⟩) he
 ·have hn0:=v.hi.n0
  have hn1:=v.n1
  refine⟨[],[],v.hi.hb,GR,AY6 _ hn0 (by omega) hb.1 hb.2,fun hC=> ?_,fun _=> ?_,.inl ⟨rfl,rfl⟩,rfl⟩
  ·obtain⟨i,hi,he⟩:=FC.1 hC
   have:=v.hi.seq i (GR i hi)
   simp only at he;omega
  ·refine AJA.2 fun x hx=> ?_
   obtain⟨⟨x0,x1⟩,hxo⟩:=B6.1 hx
   simp only at hxo
   have:=v.hi.hb.bv.cov x x0 x1 (by rw[hxo];omega)
   obtain⟨i,hi,he⟩:=DH.1 this
   have:=v.hi.seq i hi
   omega
theorem VS.A05 {s:Sp} (h:VS s) {a:Int} (a0:0<=a) (a1:a<s.2.1.length) (hf:(Go.V3.fr s.2.2 (a / sz s.1)).1= -1):gl 0#64 s.2.1 a.toNat=0#64:=by
 obtain⟨f0,f1⟩:=EP h a0 a1
 have z:=BU s.1
 rcases h.fr _ f0 f1 with ⟨_,h2⟩|h1
 ·have m0:=oA a (show sz s.1≠0 by omega)
  have m1:=u4 a z
  have e1:sz s.1*(a / sz s.1)+a%sz s.1=a:=AB9 a (sz s.1)
  have e2:a / sz s.1*sz s.1=sz s.1*(a / sz s.1):=tO _ _
  exact h2 a.toNat (by omega) (by rw[dS];omega)
 ·have:=h1.1.1
  omega
variable {DL:List (Int×Int)} {l0:List Int} {l:List AI} {R:Int->Prop}
theorem ALI {s0:Sp} {q:Rows} {CB:AI} (h:Cd s0 q l CB l0 DL) {t:Sp} {lb:List Int} {m mv:List (Int×Int)} {d e:Nat} (c:CI R s0 q l CB l0 DL t to lb m mv d e)
  {a:Int} (a0:0<=a) (a1:a<s0.2.1.length) (hh:a∉mv.map (·.1)) (ht:(fr t.2.2 (a / sz s0.1)).1=CB.1->∃ p,0<=p/\p<CB.2.2.2.2/\CM (sz s0.1) l0 p=some a):gl 0#64 t.2.1 a.toNat=gl 0#64 s0.2.1 a.toNat:=by
 have hv:=h.hb.bv.vs
 obtain⟨f0,f1⟩:=EP hv a0 a1
 by_cases c1:(fr t.2.2 (a / sz s0.1)).1=CB.1
 ·obtain⟨p,p0,p1,p2⟩:=ht c1
  exact c.wd3 p a p0 p1 p2
 ·have MO:=c.fr1 _ f0 f1 c1
  by_cases c2:(fr s0.2.2 (a / sz s0.1)).1= -1
  ·rw[VS.A05 hv a0 a1 c2]
   refine VS.A05 c.cy.vs a0 (by rw[c.wl];exact a1) ?_
   rw[c.sh,MO];exact c2
  ·exact c.wd1 a a0 a1 c2 (by rw[<-MO];exact c1) hh
theorem tG {N:Int} {h:Hs} (v:HV N h) {cut:Nat} (cd:Cd h.2.1 h.2.2.1 (h.2.2.1.flatten.take cut) to l0 DL) {ws:List (BitVec 64)} (hQ:ws.length<=1000000) (hw:∀ w∈ws,Rf h.2.1 h.2.2.1 w)
  (hR:∀ a,Rwd h.2.1 (h.2.2.1.flatten.take cut) ws a->R a) (hR' :∀ a,R a->Rwd h.2.1 (h.2.2.1.flatten.take cut) ws a):
  ∃ res:RunT,BQ h.2.1 (h.2.2.1.flatten.take cut) to ws=some res/\(res.2.2.2.1=4\/∃ t I2 lb m mv out,res=(I2,mv,out,0,t.2.1,t.2.2)/\CI R h.2.1 h.2.2.1 (h.2.2.1.flatten.take cut) to l0 DL t I2 lb m mv mv.length 0/\out.length=ws.length/\∀ k,k<ws.length->Im h.2.1 (AV (h.2.2.1.flatten.take cut)) mv (gl 0#64 ws k) (gl 0#64 out k)):=by
 obtain⟨l1,l2,l3⟩:=v.hi.hb.lens
 have GR:∀ i∈h.2.2.1.flatten.take cut,i∈h.2.2.1.flatten:=fun i hi=>AA7 hi
 refine ALC cd (by rw[jM];omega) ?_ hQ fun w hm=>⟨v.hi.gw GR (hw w hm),fun hn=>hR _ (.start hm hn)⟩
 intro i hi la oa pa a x o hRa j ya j1 j2 nZ
 exact⟨v.hi.gw GR (v.hi.ref ya ⟨i,GR i hi,la,oa,pa,a,x,j,o,j1,j2,nZ⟩),fun hn=>hR _ (.next hi o (hR' _ hRa) j1 j2 nZ hn)⟩
theorem tH {s:Sp} {q:Rows} (h:Cd s q l to l0 DL) (HN:(AV l).Nodup):Chk s l to:=by
 refine⟨h.hb.bv.vs,fun i hi=> ?_,HN,h.fit,h.out,h.own⟩
 have hf:=h.hb.fit (h.sub i hi)
 obtain⟨os,l,h1,h2⟩:=h.hb.full i (h.sub i hi)
 have:=qI h1 (by omega) ⟨l,h1,h2⟩
 exact⟨⟨hf.1,l,_,h1,this.2⟩,by omega⟩
theorem AFN {d:List Int×Int} (hd:OR d):∃ h cut to ws d' l0 DL v,D7 d=some (h,h.2.2.1.flatten.take cut,to,ws,d')/\HV 20000 h/\Cd h.2.1 h.2.2.1 (h.2.2.1.flatten.take cut) to l0 DL/\ws.length<=1000000/\(∀ w∈ws,Rf h.2.1 h.2.2.1 w)/\D3 h.2.1 (h.2.2.1.flatten.take cut) to ws=some v∧
  ((v.2.2.2.2=4)\/∃ t I2 lb m mv out,v=(t,I2,mv,out,0)/\CI (Rwd h.2.1 (h.2.2.1.flatten.take cut) ws) h.2.1 h.2.2.1 (h.2.2.1.flatten.take cut) to l0 DL t I2 lb m mv mv.length 0/\out.length=ws.length/\∀ k,k<ws.length->Im h.2.1 (AV (h.2.2.1.flatten.take cut)) mv (gl 0#64 ws k) (gl 0#64 out k)):=by
 obtain⟨h,cut,to,ws,d',e,v,ht,hQ,hrf⟩:=AFL hd
 obtain⟨l1,l2,l3⟩:=v.hi.hb.lens
 obtain⟨l0,DL,cd⟩:=AA2 v (by omega) ht
 obtain⟨res,r1,r2⟩:=tG (R:=Rwd h.2.1 (h.2.2.1.flatten.take cut) ws) v cd hQ hrf (fun a h=>h) (fun a h=>h)
 obtain⟨x,x1,_,_,x3⟩:=copy_eq (s:=h.2.1) v.vs.stI (l:=h.2.2.1.flatten.take cut) (by rw[jM];omega) to hQ
 have HN:=v.hi.hb.bv.ok.nodup
 have hck:Chk h.2.1 (h.2.2.1.flatten.take cut) to:=tH cd (((List.take_sublist cut h.2.2.1.flatten).map _).nodup HN)
 refine⟨h,cut,to,ws,d',l0,DL,x,e,v,cd,hQ,hrf,x1, ?_⟩
 rcases x3 with ⟨x3,_⟩|⟨_,A81,x3,x4⟩
 ·exact absurd hck x3
 rw[r1] at x3
 obtain rfl:=HO x3
 rcases r2 with r2|⟨t,I2,lb,m,mv,out,rfl,c,c2,c3⟩
 ·rcases x4 with ⟨_,rfl⟩|⟨x4,_⟩
  ·exact .inl r2
  ·omega
 ·rcases x4 with ⟨x4,_⟩|⟨_,rfl⟩
  ·exact absurd rfl x4
  ·exact .inr ⟨t,I2,lb,m,mv,out,by rw[<-c.sh],c,c2,c3⟩
theorem CI.mvr {s0:Sp} {q:Rows} {CB:AI} (h:Cd s0 q l CB l0 DL) {t:Sp} {lb:List Int} {m mv:List (Int×Int)} {d e:Nat} (c:CI R s0 q l CB l0 DL t to lb m mv d e) {k:Nat} (hk:k<mv.length):
  (0<=(gl (0,0) mv k).1/\(gl (0,0) mv k).1<s0.2.1.length)/\(fr s0.2.2 ((gl (0,0) mv k).1 / sz s0.1)).1∈AV l/\(0<=(gl (0,0) mv k).2/\(gl (0,0) mv k).2<t.2.1.length):=by
 obtain⟨i,la,oa,pa,p,cc⟩:=c.uT k hk
 have hv:=h.hb.bv.vs
 have hf:=(h.hb.fit (h.sub i cc.inl)).1
 have p0:=(cc.src.Q2.ta cc.src.ta).2.2.1
 have p1:=(cc.dst.Q2.ta cc.dst.ta).2.2.1
 obtain⟨g1,_,_,g2,_⟩:=CH hv hf cc.src.has p0 cc.src.FZ
 obtain⟨g3,_⟩:=CH c.cy.vs c.cy.fit cc.dst.has p1 cc.dst.FZ
 exact⟨g1,by rw[g2];exact FC.2 ⟨i,cc.inl,rfl⟩,g3⟩
theorem AYU {b:Int} (h0:0<=b) (h1:b<=16383):fwd b%2#64=1#64:=by
 have:=wH h0 h1
 rw[<-ABE,ABB,this,show (2#64).toNat=2 from rfl,show (1#64).toNat=1 from rfl]
 omega
theorem AVU {s:Sp} (hv:VS s) {i:AI} (hf:DB s i) {l:List Int} (hl:Has s i l) {k:Int} (k0:0<=k) (k1:k<i.2.2.2.2):
  ∃ y,CM (sz s.1) l k=some y/\(0<=y/\y<s.2.1.length)/\AX s (AG (i.2.2.1*sz s.1)) k=some (y,0):=by
 have z:=BU s.1
 have W7:=VS.IK hv
 have hw:=hf.1
 obtain⟨y,hy⟩:=tD hv hf hl k0 k1
 have hr:=CH hv hf hl k0 hy
 refine⟨y,hy,hr.1, ?_⟩
 obtain⟨y0,hy0⟩:=tD hv hf hl (p:=0) (by omega) (by omega)
 have vG:=CH hv hf hl (by omega) hy0
 rcases hl with ⟨h1,_⟩|⟨_,hp⟩
 ·omega
 cases l with
 |nil=>cases hy0
 |cons f r=>
  have hff:f=i.2.2.1:=hp.1.symm
  have AJ8 :=hy0
  rw[CM,AA z] at AJ8
  have e0:=HO AJ8
  have ef:y0=i.2.2.1*sz s.1:=by rw[<-hff];omega
  have hd:(i.2.2.1*sz s.1) / sz s.1=i.2.2.1:=Int.mul_ediv_cancel _ (by omega)
  have hm:(i.2.2.1*sz s.1)%sz s.1=0:=Int.mul_emod_left _ _
  rw[ah,bW hv (by omega) (by omega) (by rw[<-ef,vG.2.2.2.1];omega) k0 (by omega) (l:=f::r) (by rw[hd];exact hp),hm,xD,hy]
  rfl
theorem q_ (y0:List Int) (w0:Wf AHO y0):H_ y0=some true:=by
 unfold H_ zbh zbj zbi
 obtain⟨d,e1,hd⟩:=AEW y0 w0.1
 obtain⟨h,cut,to,ws,d',l0,DL,v,e2,hv,cd,hQ,hrf,e3,e4⟩:=AFN hd
 rw[e1,AW,e2,AW]
 simp only
 rw[e3,AW]
 rcases e4 with e4|⟨t,I2,lb,m,mv,out,rfl,c,hol,him⟩
 ·rw[ab,AA e4,T6];rfl
 simp only
 have vs:=hv.vs
 have W7:=VS.IK vs
 have hml:=c.W3 cd
 have z:=BU h.2.1.1
 have cwl:=c.wl
 have cfl:=c.fl
 have lG:=cd.fit.1
 rw[AE (DQ trivial),af,af,AE (by rw[c.seq];exact DQ rfl),ab,c.sh,JK vs.sh]
 refine ANZ (AK (fun k (st:Int×List Bool)=>st.1=(k:Int)/\st.2.length=h.2.1.2.1.length/\∀ a:Nat,a<h.2.1.2.1.length->(gl false st.2 a=true↔∃ j,j<k/\(gl (0,0) mv j).1=(a:Int))) (fun b=>b=true) mv.length ?_ ?_ ⟨rfl,by rw[V5];omega,fun a ha=> ?_⟩)
 rotate_left 2
 ·rw[NB (by omega)]
  exact⟨fun h=>(by cases h),fun ⟨j,hj,_⟩=>(by omega)⟩
 ·rintro k ⟨kk,bs⟩ hk ⟨h1,h2,h3⟩
  simp only at h1 h2 h3
  subst h1
  obtain⟨⟨g1,g2⟩,_⟩:=c.mvr cd hk
  left
  simp only[HM]
  rw[ab,ab,af,af,ab,ah (e:=(k:Int)+1)]
  refine⟨_,rfl,rfl,by simp only[EG];exact h2,fun a ha=> ?_⟩
  simp only
  rw[DS (by omega)]
  by_cases he:a=(gl ((0,0):Int×Int) mv k).1.toNat
  ·rw[AA he]
   exact⟨fun _=>⟨k,by omega,by omega⟩,fun _=>rfl⟩
  ·rw[AE he,h3 a ha]
   constructor
   ·rintro⟨j,hj,iU⟩;exact⟨j,by omega,iU⟩
   ·rintro⟨j,hj,iU⟩
    by_cases WC:j=k
    ·subst WC;omega
    ·exact⟨j,by omega,iU⟩
 rintro⟨kk,bs⟩ ⟨h1,h2,h3⟩
 simp only at h1 h2 h3
 subst h1
 rw[af,ab]
 refine map_inr ?_
 refine AK (fun k (st:Int×List Bool)=>st.1=(k:Int)/\st.2.length=h.2.1.2.1.length/\∀ a:Nat,a<h.2.1.2.1.length->(gl false st.2 a=true↔∃ j:Nat,j<k/\CM (sz h.2.1.1) l0 j=some (a:Int))) (fun b=>b=true) to.2.2.2.2.toNat ?_ ?_ ⟨rfl,by rw[V5];omega,fun a ha=> ?_⟩
 rotate_left 2
 ·rw[NB (by omega)]
  exact⟨fun h=>(by cases h),fun ⟨j,hj,_⟩=>(by omega)⟩
 ·rintro k ⟨kk,bs2⟩ hk ⟨k1,k2,k3⟩
  simp only at k1 k2 k3
  subst k1
  obtain⟨y,g1,g2,g3⟩:=AVU vs cd.fit cd.has (k:=(k:Int)) (by omega) (by omega)
  left
  simp only
  rw[ab,AA trivial,g3,AW]
  simp only
  rw[ab,ah (e:=(k:Int)+1)]
  refine⟨_,rfl,rfl,by simp only[EG];exact k2,fun a ha=> ?_⟩
  simp only
  rw[DS (by omega)]
  by_cases he:a=y.toNat
  ·rw[AA he]
   exact⟨fun _=>⟨k,by omega,by rw[g1];congr 1;omega⟩,fun _=>rfl⟩
  ·rw[AE he,k3 a ha]
   constructor
   ·rintro⟨j,hj,iU⟩;exact⟨j,by omega,iU⟩
   ·rintro⟨j,hj,iU⟩
    by_cases WC:j=k
    ·subst WC
     rw[g1] at iU
     have:=HO iU
     omega
    ·exact⟨j,by omega,iU⟩
 rintro⟨kk,bs2⟩ ⟨k1,k2,k3⟩
 simp only at k1 k2 k3
 subst k1
 rw[af]
 refine map_inr ?_
 refine AK (fun k (st:Int)=>st=(k:Int)) (fun b=>b=true) h.2.1.2.1.length ?_ ?_ rfl
 ·rintro k st hk rfl
  left
  simp only[HM]
  have F1:gl false bs k=true->¬(2#64=0#64)/\gl 0#64 t.2.1 k%2#64=1#64:=by
   intro hb
   obtain⟨j,hj,iU⟩:=(h3 k hk).1 hb
   obtain⟨_,_,q1,q2⟩:=c.mvr cd hj
   have:=c.wd2 _ (B3 (d:=((0,0):Int×Int)) hj)
   rw[iU,HM] at this
   exact⟨by decide,by rw[this];exact AYU q1 (by omega)⟩
  have FK:gl false bs k≠true->((fr t.2.2 ((k:Int) / sz h.2.1.1)).1=to.1->gl false bs2 k=true)->gl 0#64 t.2.1 k=gl 0#64 h.2.1.2.1 k:=by
   intro hb hw
   have:=ALI cd c (a:=(k:Int)) (by omega) (by omega) (fun hm=>hb ?_) (fun hq=> ?_)
   ·exact this
   ·obtain⟨x,hx,hx2⟩:=DH.1 hm
    obtain⟨j,hj,rfl⟩:=EF (d:=((0,0):Int×Int)) hx
    exact (h3 k hk).2 ⟨j,hj,hx2⟩
   ·obtain⟨j,hj,iU⟩:=(k3 k hk).1 (hw hq)
    exact⟨j,by omega,by omega,iU⟩
  obtain⟨f0,f1⟩:=EP vs (a:=(k:Int)) (by omega) (by omega)
  have hb3:(0<=(k:Int)/\(k:Int)<(bs.length:Int)):=by omega
  have hb4:(0<=(k:Int)/\(k:Int)<(bs2.length:Int)):=by omega
  have hb5:(0<=(k:Int)/\(k:Int)<(t.2.1.length:Int)):=by omega
  rw[ab,ab,AA trivial,ab,ah (e:=(k:Int)+1)]
  have MO:gl (0,0,0) t.2.2 ((k:Int) / sz h.2.1.1).toNat=fr t.2.2 ((k:Int) / sz h.2.1.1):=rfl
  rw[MO]
  have tail:∀ {β:Type} (X Y:β),(if 0<=(k:Int)/\(k:Int)<(bs.length:Int) then if gl false bs k=true then if 0<=(k:Int)/\(k:Int)<(t.2.1.length:Int) then if ¬(2#64)=0#64 then if ¬(gl (0#64) t.2.1 k%(2#64))=(1#64) then some X else some Y else none else none else some Y else none)=some Y:=by
   intro β X Y
   rw[AA hb3]
   by_cases hb:gl false bs k=true
   ·obtain⟨q1,q2⟩:=F1 hb
    rw[AA hb,AA hb5,AA q1,AE (DQ q2)]
   ·rw[AE hb]
  simp only[tail]
  by_cases c1:(fr t.2.2 ((k:Int) / sz h.2.1.1)).1=to.1
  ·rw[AA c1,AA hb4,AA hb5]
   by_cases c2:gl 0#64 t.2.1 k=gl 0#64 h.2.1.2.1 k
   ·rw[AE (DQ c2)];exact⟨_,rfl,rfl⟩
   rw[AA c2,AA hb3]
   by_cases c3:gl false bs k=true
   ·rw[AE (by simp [c3])];exact⟨_,rfl,rfl⟩
   rw[AA (by simpa using c3)]
   by_cases c4:gl false bs2 k=true
   ·exact absurd (FK c3 fun _=>c4) c2
   ·rw[AE (by simpa using c4)];exact⟨_,rfl,rfl⟩
  ·rw[AE c1,AA hb5]
   by_cases c2:gl 0#64 t.2.1 k=gl 0#64 h.2.1.2.1 k
   ·rw[AE (DQ c2)];exact⟨_,rfl,rfl⟩
   rw[AA c2,AA hb3]
   by_cases c3:gl false bs k=true
   ·rw[AE (by simp [c3])];exact⟨_,rfl,rfl⟩
   ·exact absurd (FK c3 fun hq=>absurd hq c1) c2
 ·rintro st rfl
  rw[af,T6]
  exact⟨_,rfl,rfl⟩
namespace evacuateKeeps
open Go.ChangeShapes Go.WideShapes Go.ChangeAt Go.RowKit Go.V3
theorem own:ownKnob Tryz.prog.godebug=none:=by kernel_rfl
theorem laidOut:laidOutB Tryz.prog=true:=by kernel_rfl
theorem door_met (os : Os) (args : Array Value) : laidMetH Tryz.prog [("math/bits.deBruijn64tab", Rows.laid_math_bits_deBruijn64tab)] ((World.doorLaid Tryz.prog 4000 os).forCall (fun _ _ => 0) ⟨#[], args, []⟩).memory :=
 laidMetH_of_parts3 (fuel:=8) (laidMet_of_run' 8 (by kernel_rfl) (by kernel_rfl)) (by kernel_rfl) (by kernel_rfl)
set_option maxRecDepth 100000 in
theorem lifted (os:Os) (started:os.Started) (H:Type) (enc:TypeId×Value->H):
  ReturnsInHanded {} Tryz.checked os 5 .any (fun w args => (Rows.evacuateKeepsSpec.pre enc Tryz.prog Tryz.f5 [] false w args ∧ laidMetH Tryz.prog [("math/bits.deBruijn64tab", Rows.laid_math_bits_deBruijn64tab)] w) ∧ sizedMet enc Tryz.prog Tryz.f5 (OpenSpec.ofChange Rows.evacuateKeepsSpec) false w args) (Rows.evacuateKeepsSpec.post enc Tryz.prog Tryz.f5 false true false false) := by
 refine returnsInHanded_of_change_and (C := Tryz.checked) (X := fun w _ => laidMetH Tryz.prog [("math/bits.deBruijn64tab", Rows.laid_math_bits_deBruijn64tab)] w) (fun _ _ _ hh h => h.of_heap hh) own started (by kernel_rfl) Tryz.func5
  (ChangeSpec.witness_shaped (enc := enc) (C := Tryz.checked) (os := os) (X := fun w _ => laidMetH Tryz.prog [("math/bits.deBruijn64tab", Rows.laid_math_bits_deBruijn64tab)] w) false (World.doorLaid Tryz.prog 4000 os) #[.slice none 0 0] 8 rfl (World.shaped_of_RefB (by kernel_rfl) (by kernel_rfl)) (by kernel_rfl) (by kernel_rfl) (by kernel_rfl) (door_met os _)) ?_
 intro W base args ds gs before AJ9 hW _ _ hL _
 have hT:AX9 vI W:=by
  intro q hq
  simp only[vI,GH,wU,tS] at hq
  subst hq
  exact eT (t:=159) hL (by kernel_rfl) (e:=5) (k:= .u8) (len:=64) (by kernel_rfl) (by kernel_rfl) (by kernel_rfl) (by kernel_rfl) (by kernel_rfl) (by kernel_rfl) [0,1,56,2,57,49,28,3,61,58,42,50,38,29,17,4,62,47,59,36,45,43,51,22,53,39,33,30,24,18,12,5,63,55,48,27,60,41,37,16,46,35,44,21,52,32,23,11,54,26,40,15,34,20,31,10,25,14,19,9,13,8,7,6] rfl
 have N7:∀ (j:Nat) t v,Tryz.f5.params[j]? =some t->args[j]? =some v->Value.okWide Tryz.prog W .any base t v:=AJ9
 have hW' :=hW
 obtain⟨p,q,hA0,hV,rfl,hfz,HN⟩:=hW
 have hA:DataW.TrodAll enc Tryz.prog W 0 (fun _=>true) true Tryz.f5.params.toList args.toList ds p:=hA0
 rw[Tryz.params5] at hA N7
 obtain⟨v0,vs0,d0,ds0,p0,q0,M8,rfl,rfl,h0,r0⟩:=trodAll_cons hA
 obtain⟨rfl,rfl,rfl⟩:=trodAll_nil r0
 obtain rfl:args= #[v0]:=by cases args;simp_all
 obtain⟨rfl,rfl⟩:=trodVars_none hV
 have k0:=h0
 have lt0:∀ x∈p0,x.block<W.heap.size:=by obtain⟨m,hm⟩:=k0;exact DataW.trod_lt m _ _ _ hm
 obtain⟨y0,R0,w0⟩:=handed 40 AHO (by kernel_rfl) (N7 0 29 v0 rfl rfl) k0
 have A1:=AE6.nil W
 obtain⟨m0,A0⟩:=A1.cons (t:=AHO) (.inr ⟨rfl,PV (t:=29) rfl (N7 0 29 v0 rfl rfl)⟩) y0 R0
 refine (yV (fi:=LQ) T_ hT (r:=(true:Bool)) (vals:= #[v0]) (w:=W) A0 (q_ y0 w0) (fun _=>rfl)).mono fun e W' ⟨he,bel⟩=> ?_
 subst he
 simp only[FP] at hW'
 exact⟨_,rfl,_,_,_,[],_,[],hW',trodAll_mk1 (shut_bool Tryz.underlying4 _),(trodAll_cons_mk (Below.trod laidOut (by kernel_rfl) (SJ (by kernel_rfl)) k0 bel lt0) trodAll_mk0),rfl,bel.frame _,fun h=>by cases h⟩
theorem proved:Rows.EvacuateKeepsSaid:=
 OpenClaim.holds_of_wide 5 Tryz.f5 rfl rfl rfl rfl rfl rfl rfl ⟨rfl,rfl,rfl,rfl,rfl⟩ rfl rfl rfl rfl rfl (by kernel_rfl) Tryz.func5 (by kernel_rfl)
  (SJ (by kernel_rfl)) (by unfold Func.isWrapper;first|(rw[AA (by decide+kernel)];kernel_rfl)|(rw[AE (by decide+kernel)];exact⟨rfl,rfl⟩))
  (fun os started H enc _=>lifted os started H enc)
theorem card:Rows.EvacuateKeepsCardSaid:=
 Claim7.holds_tied_plain_at .later [] [.data] true (true, "ecda925fbeafc6d8cc564c794288da2c955dde13545da6f8441126fa7e0268e8") false proved (fun _ h => by cases h) (by kernel_rfl) (fun _ h => by cases h) evacuateKeeps_row_tie rfl ⟨rfl, rfl⟩ (by kernel_rfl) rfl
  (fun f fn hf hfn=>by
   obtain rfl : f = 5 := Option.some.inj ((show Tryz.prog.funcNamed "beltway/beltwaylaw23.EvacuateKeeps" = some 5 by kernel_rfl).symm.trans hf) |>.symm
   obtain rfl:fn=Tryz.f5:=(HO (Tryz.func5.symm.trans hfn)).symm
   exact⟨by kernel_rfl,fun j t ht=>by
    rw[Tryz.params5] at ht
    have hm:t∈[29]:=by simpa using ARC ht
    have QF:([29].all fun u=> !Tryz.prog.wantsStandIn u)=true:=by kernel_rfl
    exact (show Tryz.prog.wantsStandIn t=false by simpa using KI.1 QF t hm)⟩)
  (by kernel_rfl)
end evacuateKeeps
end Go.Proofs.YtokeceeccmgcmaaGreatDoor
