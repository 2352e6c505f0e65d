/- A law of the statements is proved here, without any condition. -/
import Derived.Test.YtokeceeccmgcmaaGreatDoorProg
import Derived.Test.YtokeceeccmgcmaaGreatDoorChecked
import Derived.KernelRfl
import Derived.Test.YtokeceeccmgcmaaGreatDoorHeaZ
import Derived.Test.YtokeceeccmgcmaaGreatDoorRows
import Derived.Test.YtokeceeccmgcmaaGreatDoorTie
import Derived.Test.YtokeceeccmgcmaaGreatDoorCards
import Derived.SevenTiedAt
set_option linter.unusedVariables false
set_option linter.unusedSimpArgs false
set_option maxRecDepth 100000
namespace Go.Proofs.YtokeceeccmgcmaaGreatDoor
open Go Go.V3
noncomputable section
end
end Go.Proofs.YtokeceeccmgcmaaGreatDoor
set_option maxRecDepth 100000
namespace Go.Proofs.YtokeceeccmgcmaaGreatDoor
open Go Go.V3
noncomputable section
end
noncomputable section
def DM (a0:(BitVec 64)) (a1:(B7×AP×B0×Int×(List AS)×CC×Int×CR×Bool)) (a2:(List AD)) (a3:(List Int)) (a4:(List Int)):Option ((BitVec 64)×(B7×AP×B0×Int×(List AS)×CC×Int×CR×Bool)×(List AD)×(List Int)×(List Int)):=
(CY a1.2.1 a2 a0).bind (fun r1=>
if r1=true then
if (a3.length+([AG (((a0-(1#64)).toNat:Int))]:List Int).length)*8<=140737488355328 then
if 0<=((a0-(1#64)).toNat:Int)/\((a0-(1#64)).toNat:Int)<(a4.length:Int) then
some ((BitVec.ofInt 64 (gl (0:Int) a4 (((a0-(1#64)).toNat:Int).toNat)),a1,a2,a3++([AG (((a0-(1#64)).toNat:Int))]:List Int),a4))
else none
else none
else some ((a0,a1,a2,a3,a4)))
@[reducible] def JI:FnI:={ ps:=[VK,⟨ANB,true,false,true⟩,⟨ACL,false,false,true⟩,ACP,ANG],rs:=[bU],os:=[⟨ANB,true,false,true⟩,⟨ACL,false,false,true⟩,ACP,ANG],bk:=[0,8,10,12],F:=fun x=>DM x.1 x.2.1 x.2.2.1 x.2.2.2.1 x.2.2.2.2 }
def Q4:Cx:=BE [(16,(14,1)),(17,(15,1))] [17] [(16,E8)] [] []
theorem P7:CV 17 JI:=okW Q4 [.tmp 6] 25 2 (BC (.cons F6 AL.nil) BA.nil) Tryz.func17
def zbl (r3:bT) (s1:(Int×(List Int))):=(gl ((0,0):(Int×Int)) r3.2.2.1 s1.1.toNat).1
def zbk (s3:(Int×Int×Int×(B7×AP×B0×Int×(List AS)×CC×Int×CR×Bool)×(List AD)×(List Int)×(List Int)×(List Bool))):=gl (0:Int) s3.2.2.2.2.2.2.1 s3.2.2.1.toNat
def zbm (r3:bT) (ID:(Int×Int)):=gl (0#64:(BitVec 64)) r3.1.2.1 ID.1.toNat
def HD (a0:(List Int)):Option Bool:=
(IJ a0).bind (fun r1=>
(D7 r1).bind (fun r2=>
(D3 r2.1.2.1 r2.2.1 r2.2.2.1 r2.2.2.2.1).bind (fun r3=>
if ¬r3.2.2.2.2=0 then
if r3.2.2.2.2=4 then
(CU).bind (fun r4=>
some (r4))
else some (false)
else if ¬(r3.2.2.2.1.length:Int)=(r2.2.2.2.1.length:Int) then
some (false)
else if 0<=(r2.1.2.1.2.1.length:Int)/\(r2.1.2.1.2.1.length:Int)<=(r2.1.2.1.2.1.length:Int)/\(r2.1.2.1.2.1.length:Int)*((8:Nat):Int)<=140737488355328 then
AH (σ:=(Int×(List Int))) (β:=Bool) (fun s1=>
if s1.1<(r3.2.2.1.length:Int) then
if 0<=s1.1/\s1.1<(r3.2.2.1.length:Int) then
if (zbl r3 s1)<0 then
some (Sum.inr (false))
else if (zbl r3 s1)≥(s1.2.length:Int) then
some (Sum.inr (false))
else if 0<=(zbl r3 s1)/\(zbl r3 s1)<(s1.2.length:Int) then
if ¬(gl (0:Int) s1.2 ((zbl r3 s1).toNat))=0 then
some (Sum.inr (false))
else (CY r2.1.2.1 r2.2.1 (BitVec.ofInt 64 (AG ((zbl r3 s1)+1)))).bind (fun r5=>
if (!r5)=true then
some (Sum.inr (false))
else if 0<=(zbl r3 s1)/\(zbl r3 s1)<(s1.2.length:Int) then
some (Sum.inl ((AG (s1.1+1),s1.2.set ((zbl r3 s1).toNat) (AG (((gl ((0,0):(Int×Int)) r3.2.2.1 s1.1.toNat).2)+1)))))
else none)
else none
else none
else Option.map Sum.inr (AH (σ:=(Int×(B7×AP×B0×Int×(List AS)×CC×Int×CR×Bool)×(List AD)×(List Int)×(List Int))) (β:=Bool) (fun s2=>
if s2.1<(r2.2.2.2.1.length:Int) then
if 0<=s2.1/\s2.1<(r2.2.2.2.1.length:Int) then
if 0<=s2.1/\s2.1<(r3.2.2.2.1.length:Int) then
(DM (gl (0#64:(BitVec 64)) r2.2.2.2.1 s2.1.toNat) s2.2.1 s2.2.2.1 s2.2.2.2.2 s2.2.2.2.1).bind (fun r6=>
if ¬(gl (0#64:(BitVec 64)) r3.2.2.2.1 s2.1.toNat)=r6.1 then
some (Sum.inr (false))
else if ¬(gl (0#64:(BitVec 64)) r2.2.2.2.1 s2.1.toNat)=(0#64) then
if 0<=s2.1/\s2.1<(r3.2.2.2.1.length:Int) then
if (gl (0#64:(BitVec 64)) r3.2.2.2.1 s2.1.toNat)=(0#64) then
some (Sum.inr (false))
else some (Sum.inl ((AG (s2.1+1),r6.2.1,r6.2.2.1,r6.2.2.2.2,r6.2.2.2.1)))
else none
else some (Sum.inl ((AG (s2.1+1),r6.2.1,r6.2.2.1,r6.2.2.2.2,r6.2.2.2.1))))
else none
else none
else Option.map Sum.inr (if 0<=(s2.2.2.2.1.length:Int)/\(s2.2.2.2.1.length:Int)<=(s2.2.2.2.1.length:Int)/\(s2.2.2.2.1.length:Int)*((1:Nat):Int)<=140737488355328 then
AH (σ:=(Int×Int×Int×(B7×AP×B0×Int×(List AS)×CC×Int×CR×Bool)×(List AD)×(List Int)×(List Int)×(List Bool))) (β:=Bool) (fun s3=>
if s3.2.2.1<(s3.2.2.2.2.2.2.1.length:Int) then
if 0<=s3.2.2.1/\s3.2.2.1<(s3.2.2.2.2.2.2.1.length:Int) then
if 0<=(zbk s3)/\(zbk s3)<(s3.2.2.2.2.2.2.2.length:Int) then
if (gl (false:Bool) s3.2.2.2.2.2.2.2 ((zbk s3).toNat))=true then
some (Sum.inl ((s3.1,s3.2.1,AG (s3.2.2.1+1),s3.2.2.2.1,s3.2.2.2.2.1,s3.2.2.2.2.2.1,s3.2.2.2.2.2.2.1,s3.2.2.2.2.2.2.2)))
else if 0<=(zbk s3)/\(zbk s3)<(s3.2.2.2.2.2.2.2.length:Int) then
if 0<=(zbk s3)/\(zbk s3)<(s3.2.2.2.2.2.1.length:Int) then
if (gl (0:Int) s3.2.2.2.2.2.1 ((zbk s3).toNat))=0 then
some (Sum.inr (false))
else (BD s3.2.2.2.1.2.1 (zbk s3)).bind (fun r7=>
if 0<=(zbk s3)/\(zbk s3)<(s3.2.2.2.2.2.1.length:Int) then
(BD r3.1 (AG ((gl (0:Int) s3.2.2.2.2.2.1 ((zbk s3).toNat))-1))).bind (fun r8=>
if ¬r8.2.2=0 then
some (Sum.inr (false))
else if ¬r8.1=r7.1 then
some (Sum.inr (false))
else if ¬r8.2.1=r7.2.1 then
some (Sum.inr (false))
else AH (σ:=(Int×(B7×AP×B0×Int×(List AS)×CC×Int×CR×Bool)×(List AD)×(List Int)×(List Int))) (β:=((Int×Int×Int×(B7×AP×B0×Int×(List AS)×CC×Int×CR×Bool)×(List AD)×(List Int)×(List Int)×(List Bool)) ⊕ Bool)) (fun s4=>
if s4.1<=(AG (r7.1+r7.2.1)) then
(AX s4.2.1.2.1 (zbk s3) s4.1).bind (fun r9=>
if 0<=(zbk s3)/\(zbk s3)<(s4.2.2.2.1.length:Int) then
(AX r3.1 (AG ((gl (0:Int) s4.2.2.2.1 ((zbk s3).toNat))-1)) s4.1).bind (fun ID=>
if s4.1<=r7.1 then
if 0<=ID.1/\ID.1<(r3.1.2.1.length:Int) then
if 0<=r9.1/\r9.1<(s4.2.1.2.1.2.1.length:Int) then
(DM (gl (0#64:(BitVec 64)) s4.2.1.2.1.2.1 r9.1.toNat) s4.2.1 s4.2.2.1 s4.2.2.2.2 s4.2.2.2.1).bind (fun OC=>
if ¬(zbm r3 ID)=OC.1 then
some (Sum.inr (Sum.inr (false)))
else if s4.1>r7.1 then
if 0<=ID.1/\ID.1<(r3.1.2.1.length:Int) then
if 0<=r9.1/\r9.1<(OC.2.1.2.1.2.1.length:Int) then
if ¬(zbm r3 ID)=(gl (0#64:(BitVec 64)) OC.2.1.2.1.2.1 r9.1.toNat) then
some (Sum.inr (Sum.inr (false)))
else some (Sum.inl ((AG (s4.1+1),OC.2.1,OC.2.2.1,OC.2.2.2.2,OC.2.2.2.1)))
else none
else none
else some (Sum.inl ((AG (s4.1+1),OC.2.1,OC.2.2.1,OC.2.2.2.2,OC.2.2.2.1))))
else none
else none
else if s4.1>r7.1 then
if 0<=ID.1/\ID.1<(r3.1.2.1.length:Int) then
if 0<=r9.1/\r9.1<(s4.2.1.2.1.2.1.length:Int) then
if ¬(zbm r3 ID)=(gl (0#64:(BitVec 64)) s4.2.1.2.1.2.1 r9.1.toNat) then
some (Sum.inr (Sum.inr (false)))
else some (Sum.inl ((AG (s4.1+1),s4.2.1,s4.2.2.1,s4.2.2.2.1,s4.2.2.2.2)))
else none
else none
else some (Sum.inl ((AG (s4.1+1),s4.2.1,s4.2.2.1,s4.2.2.2.1,s4.2.2.2.2))))
else none)
else some (Sum.inr (Sum.inl ((AG (s3.1+(AG ((AG ((1:Int)+r7.1))+r7.2.1))),AG (s3.2.1+1),AG (s3.2.2.1+1),s4.2.1,s4.2.2.1,s4.2.2.2.1,s4.2.2.2.2,s3.2.2.2.2.2.2.2.set ((zbk s3).toNat) true))))) ((1,s3.2.2.2.1,s3.2.2.2.2.1,s3.2.2.2.2.2.1,s3.2.2.2.2.2.2.1)))
else none)
else none
else none
else none
else none
else Option.map Sum.inr (if s3.2.1=(r3.2.2.1.length:Int) then
if r3.2.1.2.2.2.2=(AG (r2.2.2.1.2.2.2.2+s3.1)) then
(CU).bind (fun O8=>
some (O8))
else some (false)
else some (false))) ((0,0,0,s2.2.1,s2.2.2.1,s2.2.2.2.1,s2.2.2.2.2,List.replicate (s2.2.2.2.1.length:Int).toNat (false:Bool)))
else none)) ((0,r2.1,r2.2.1,s1.2,[])))) ((0,List.replicate (r2.1.2.1.2.1.length:Int).toNat (0:Int)))
else none)))
@[reducible] def KH:FnI:=BP [SZ] [HK] fun x=>HD x
def SD:Cx:=BE [(3,(13,1)),(4,(14,1)),(5,(15,1)),(7,(20,1)),(8,(21,1)),(12,(23,1)),(13,(24,1)),(16,(25,1)),(37,(1,2)),(38,(3,10)),(49,(16,4)),(71,(22,1)),(129,(26,10)),(145,(70,1)),(249,(71,10))] [71,145] [(7,JF),(8,JG),(9,MG),(11,LM),(16,E8),(17,JI),(18,E3),(19,DV)] [(0,B8 [(74,AO)] [] [(22,(.int .i64))] (E6 [(2,1),(16,1),(75,40)]) [] 25),(2,B8 [(118,AO)] [(13,G8),(14,RA),(23,SZ),(24,IC)] [] (E6 [(2,1),(18,2),(119,24)]) [22] 60),(4,B8 [(14,AO),(21,AO),(22,AO)] [(13,G8),(14,RA),(23,SZ),(24,IC)] [(70,.bool)] (E6 [(2,1),(23,12),(146,125)]) [69] 139),(6,B8 [(30,AO)] [(13,G8),(14,RA),(23,SZ),(24,IC)] [] (E6 [(2,1),(31,4),(207,64)]) [69,148] 105)] []
theorem Q6:CV 4 KH:=okW SD [.tmp 2] 287 148 (BC (.cons L9 (.cons MA (.cons PD (.cons N2 (.cons F6 (.cons P7 (.cons FT (.cons D0 AL.nil)))))))) BA.nil) Tryz.func4
end
variable {to:AI}
theorem AA2 {N:Int} {h:Hs} (v:HV N h) (hN:N<=4294967295) {cut:Nat} (ht:to∈h.2.2.1.flatten.drop cut\/∃ b:Int,(0<=b/\b<4)/\to=(h.2.2.2.1,b, -1, -1,0)):
  ∃ l0 DL,Cd h.2.1 h.2.2.1 (h.2.2.1.flatten.take cut) to l0 DL:=by
 have HN:=v.hi.hb.bv.ok.nodup
 have GR:∀ i∈h.2.2.1.flatten.take cut,i∈h.2.2.1.flatten:=fun i hi=>AA7 hi
 rcases ht with ht|⟨b,hb,rfl⟩
 ·have hm:=tJ ht
  obtain⟨DL,l0,h1,h2⟩:=v.hi.hb.full to hm
  have hf:=v.hi.hb.fit hm
  refine⟨l0,DL,v.hi.hb,GR,hf.1,fun hC=> ?_,fun hw=>by omega,h1,h2⟩
  obtain⟨i,hi,he⟩:=FC.1 hC
  rw[<-AFT cut h.2.2.1.flatten,YC,PB] at HN
  exact HN.2.2 _ (DH.2 ⟨i,hi,rfl⟩) _ (DH.2 ⟨to,ht,rfl⟩) he
 ·have hn0:=v.hi.n0
  have hn1:=v.n1
  refine⟨[],[],v.hi.hb,GR,AY6 _ hn0 (by omega) hb.1 hb.2,fun hC=> ?_,fun _=> ?_,.inl ⟨rfl,rfl⟩,rfl⟩
  ·obtain⟨i,hi,he⟩:=FC.1 hC
   have:=v.hi.seq i (GR i hi)
   simp only at he;omega
  ·refine AJA.2 fun x hx=> ?_
   obtain⟨⟨x0,x1⟩,hxo⟩:=B6.1 hx
   simp only at hxo
   have:=v.hi.hb.bv.cov x x0 x1 (by rw[hxo];omega)
   obtain⟨i,hi,he⟩:=DH.1 this
   have:=v.hi.seq i hi
   omega
theorem AVV (a b:List (Int×Int)):dI (a++b)=dI a+dI b:=by
 unfold dI;rw[YC,List.sum_append]
variable {DL:List (Int×Int)} {l0:List Int}
theorem tG {R:Int->Prop} {N:Int} {h:Hs} (v:HV N h) {cut:Nat} (cd:Cd h.2.1 h.2.2.1 (h.2.2.1.flatten.take cut) to l0 DL) {ws:List (BitVec 64)} (hQ:ws.length<=1000000) (hw:∀ w∈ws,Rf h.2.1 h.2.2.1 w)
  (hR:∀ a,Rwd h.2.1 (h.2.2.1.flatten.take cut) ws a->R a) (hR' :∀ a,R a->Rwd h.2.1 (h.2.2.1.flatten.take cut) ws a):
  ∃ res:RunT,BQ h.2.1 (h.2.2.1.flatten.take cut) to ws=some res/\(res.2.2.2.1=4\/∃ t I2 lb m mv out,res=(I2,mv,out,0,t.2.1,t.2.2)/\CI R h.2.1 h.2.2.1 (h.2.2.1.flatten.take cut) to l0 DL t I2 lb m mv mv.length 0/\out.length=ws.length/\∀ k,k<ws.length->Im h.2.1 (AV (h.2.2.1.flatten.take cut)) mv (gl 0#64 ws k) (gl 0#64 out k)):=by
 obtain⟨l1,l2,l3⟩:=v.hi.hb.lens
 have GR:∀ i∈h.2.2.1.flatten.take cut,i∈h.2.2.1.flatten:=fun i hi=>AA7 hi
 refine ALC cd (by rw[jM];omega) ?_ hQ fun w hm=>⟨v.hi.gw GR (hw w hm),fun hn=>hR _ (.start hm hn)⟩
 intro i hi la oa pa a x o hRa j ya j1 j2 nZ
 exact⟨v.hi.gw GR (v.hi.ref ya ⟨i,GR i hi,la,oa,pa,a,x,j,o,j1,j2,nZ⟩),fun hn=>hR _ (.next hi o (hR' _ hRa) j1 j2 nZ hn)⟩
variable {l:List AI} {s:Sp}
theorem tH {q:Rows} (h:Cd s q l to l0 DL) (HN:(AV l).Nodup):Chk s l to:=by
 refine⟨h.hb.bv.vs,fun i hi=> ?_,HN,h.fit,h.out,h.own⟩
 have hf:=h.hb.fit (h.sub i hi)
 obtain⟨os,l,h1,h2⟩:=h.hb.full i (h.sub i hi)
 have:=qI h1 (by omega) ⟨l,h1,h2⟩
 exact⟨⟨hf.1,l,_,h1,this.2⟩,by omega⟩
theorem AFN {d:List Int×Int} (hd:OR d):∃ h cut to ws d' l0 DL v,D7 d=some (h,h.2.2.1.flatten.take cut,to,ws,d')/\HV 20000 h/\Cd h.2.1 h.2.2.1 (h.2.2.1.flatten.take cut) to l0 DL/\ws.length<=1000000/\(∀ w∈ws,Rf h.2.1 h.2.2.1 w)/\D3 h.2.1 (h.2.2.1.flatten.take cut) to ws=some v∧
  ((v.2.2.2.2=4)\/∃ t I2 lb m mv out,v=(t,I2,mv,out,0)/\CI (Rwd h.2.1 (h.2.2.1.flatten.take cut) ws) h.2.1 h.2.2.1 (h.2.2.1.flatten.take cut) to l0 DL t I2 lb m mv mv.length 0/\out.length=ws.length/\∀ k,k<ws.length->Im h.2.1 (AV (h.2.2.1.flatten.take cut)) mv (gl 0#64 ws k) (gl 0#64 out k)):=by
 obtain⟨h,cut,to,ws,d',e,v,ht,hQ,hrf⟩:=AFL hd
 obtain⟨l1,l2,l3⟩:=v.hi.hb.lens
 obtain⟨l0,DL,cd⟩:=AA2 v (by omega) ht
 obtain⟨res,r1,r2⟩:=tG (R:=Rwd h.2.1 (h.2.2.1.flatten.take cut) ws) v cd hQ hrf (fun a h=>h) (fun a h=>h)
 obtain⟨x,x1,_,_,x3⟩:=copy_eq (s:=h.2.1) v.vs.stI (l:=h.2.2.1.flatten.take cut) (by rw[jM];omega) to hQ
 have HN:=v.hi.hb.bv.ok.nodup
 have hck:Chk h.2.1 (h.2.2.1.flatten.take cut) to:=tH cd (((List.take_sublist cut h.2.2.1.flatten).map _).nodup HN)
 refine⟨h,cut,to,ws,d',l0,DL,x,e,v,cd,hQ,hrf,x1, ?_⟩
 rcases x3 with ⟨x3,_⟩|⟨_,A81,x3,x4⟩
 ·exact absurd hck x3
 rw[r1] at x3
 obtain rfl:=HO x3
 rcases r2 with r2|⟨t,I2,lb,m,mv,out,rfl,c,c2,c3⟩
 ·rcases x4 with ⟨_,rfl⟩|⟨x4,_⟩
  ·exact .inl r2
  ·omega
 ·rcases x4 with ⟨x4,_⟩|⟨_,rfl⟩
  ·exact absurd rfl x4
  ·exact .inr ⟨t,I2,lb,m,mv,out,by rw[<-c.sh],c,c2,c3⟩
variable {mv:List (Int×Int)}
theorem CI.mvr {R:Int->Prop} {s0:Sp} {q:Rows} {CB:AI} (h:Cd s0 q l CB l0 DL) {t:Sp} {lb:List Int} {m:List (Int×Int)} {d e:Nat} (c:CI R s0 q l CB l0 DL t to lb m mv d e) {k:Nat} (hk:k<mv.length):
  (0<=(gl (0,0) mv k).1/\(gl (0,0) mv k).1<s0.2.1.length)/\(fr s0.2.2 ((gl (0,0) mv k).1 / sz s0.1)).1∈AV l/\(0<=(gl (0,0) mv k).2/\(gl (0,0) mv k).2<t.2.1.length):=by
 obtain⟨i,la,oa,pa,p,cc⟩:=c.uT k hk
 have hv:=h.hb.bv.vs
 have hf:=(h.hb.fit (h.sub i cc.inl)).1
 have p0:=(cc.src.Q2.ta cc.src.ta).2.2.1
 have p1:=(cc.dst.Q2.ta cc.dst.ta).2.2.1
 obtain⟨g1,_,_,g2,_⟩:=CH hv hf cc.src.has p0 cc.src.FZ
 obtain⟨g3,_⟩:=CH c.cy.vs c.cy.fit cc.dst.has p1 cc.dst.FZ
 exact⟨g1,by rw[g2];exact FC.2 ⟨i,cc.inl,rfl⟩,g3⟩
theorem AA3 (b:Int):BitVec.ofInt 64 (b+1)=BitVec.ofInt 64 b+1#64:=by
 rw[BitVec.ofInt_add];rfl
variable {w:BitVec 64}
theorem AOJ {C:List Int} :(qT s C w).length<=1:=by
 unfold qT;split <;> simp
theorem AFO {C:List Int} {a:Int}:a∈qT s C w↔Wn C s w/\a=(w.toNat:Int)-1:=by
 unfold qT
 split
 ·rename_i h;simp [h]
 ·rename_i h;simp [h]
theorem AVW {N:Int} {h:Hs} (hv:HV N h) (lE:l.length<=1000000) {nm todo:List Int} (hn:Nm h.2.1 mv nm) {v:BitVec 64} (him:Im h.2.1 (AV l) mv w v) (htl:todo.length<=2000000):
  DM w h l todo nm=some (v,h,l,todo++qT h.2.1 (AV l) w,nm):=by
 have W7:=VS.IK hv.vs
 unfold DM
 rw[W1 hv.vs lE,AW]
 rcases him with ⟨h1,rfl⟩|⟨h1,b,h2,rfl⟩
 ·rw[AE (by simpa using h1)]
  unfold qT
  rw[AE h1,FP]
 ·obtain⟨k,hk,MZ⟩:=EF (d:=((0,0):Int×Int)) h2
  have N7:=hn.val k hk
  rw[MZ] at N7
  simp only at N7
  obtain⟨s1,s2⟩:=JH h1.1
  have hle:=h1.2.1
  have hln:=hn.len
  rw[AA (by simpa using h1),AA (by simp only[Q5];omega),ab]
  unfold qT
  rw[AA h1,ah (e:=((w-1#64).toNat:Int)),show ((w-1#64).toNat:Int)=(w.toNat:Int)-1 by omega,N7,AA3]
theorem RI.A82 {ws:List (BitVec 64)} {idx:Nat} {todo:List Int} {done:List Bool} {D:List Nat} (r:RI s l mv ws idx todo done D):D.length<=mv.length:=by
 have:=r.nd.length_le_of_subset (l₂:=List.range mv.length) fun k hk=>dQ.2 (r.lt k hk)
 rw[AG2] at this
 exact this
theorem A5Q {σ β:Type} {x:Option (σ ⊕ β)} {N:Nat} {I:Nat->σ->Prop} (h:∃ b,x=some b/\∃ s m,b=Sum.inl s/\m<N/\I m s):∃ m s',m<N/\x=some (.inl s')/\I m s' :=by
 obtain⟨b,h1,s,m,rfl,h2,h3⟩:=h
 exact⟨m,s,h2,h1,h3⟩
theorem lN (y0:List Int) (w0:Wf AHO y0):HD y0=some true:=by
 unfold HD zbm zbk zbl
 obtain⟨d,e1,hd⟩:=AEW y0 w0.1
 obtain⟨h,cut,to,ws,d',l0,DL,v,e2,hv,cd,hQ,hrf,e3,e4⟩:=AFN hd
 rw[e1,AW,e2,AW]
 simp only
 rw[e3,AW]
 rcases e4 with e4|⟨t,I2,lb,m,mv,out,rfl,c,hol,him⟩
 ·rw[ab,AA e4,T6];rfl
 simp only
 have vs:=hv.vs
 have W7:=VS.IK vs
 have hml:=c.W3 cd
 have cml:=c.ml
 have z:=BU h.2.1.1
 have cwl:=c.wl
 have hlc:=(hv.hi.hb.lens).1
 have lE:(h.2.2.1.flatten.take cut).length<=1000000:=by have:=hv.hi.hb.lens;rw[jM];omega
 generalize h.2.2.1.flatten.take cut=l at*
 rw[AE (DQ trivial),af,ab]
 refine ANZ (AK (fun k (st:Int×List Int)=>st.1=(k:Int)/\st.2.length=h.2.1.2.1.length/\(∀ a:Nat,a<h.2.1.2.1.length->(∀ j,j<k->(gl (0,0) mv j).1≠(a:Int))->gl 0 st.2 a=0)/\∀ j,j<k->gl 0 st.2 (gl (0,0) mv j).1.toNat=(gl (0,0) mv j).2+1) (fun b=>b=true) mv.length ?_ ?_ ⟨rfl,by rw[V5];omega,fun a ha _=>NB (by omega),fun j hj=>by omega⟩)
 ·rintro k ⟨kk,nm⟩ hk ⟨h1,h2,h3,h4⟩
  simp only at h1 h2 h3 h4
  subst h1
  obtain⟨⟨g1,g2⟩,g3,g4,g5⟩:=c.mvr cd hk
  have A5R:∀ j,j<mv.length->(gl (0,0) mv j).1=(gl (0,0) mv k).1->j=k:=fun j hj he=>qR (d:=((0,0):Int×Int)) (f:=fun x:Int×Int=>x.1) c.mvn hj hk he
  have hz:gl 0 nm (gl ((0,0):Int×Int) mv k).1.toNat=0:=h3 _ (by omega) fun j hj he=>by
   have:=A5R j (by omega) (by omega)
   omega
  have hwn:Wn (AV l) h.2.1 (BitVec.ofInt 64 ((gl ((0,0):Int×Int) mv k).1+1)):=by
   have hnt:=tE g1 (by omega:(gl ((0,0):Int×Int) mv k).1<16384)
   refine⟨fun he=> ?_,by omega, ?_⟩
   ·rw[he] at hnt
    have:(0#64).toNat=0:=rfl
    omega
   ·rw[show ((BitVec.ofInt 64 ((gl ((0,0):Int×Int) mv k).1+1)).toNat:Int)-1=(gl ((0,0):Int×Int) mv k).1 by omega]
    exact g3
  left
  simp only[HM]
  rw[ab,ab,af,af,ab,AE (DQ hz),ah (e:=(gl ((0,0):Int×Int) mv k).1+1),W1 vs lE,AW,AE (by simpa using hwn),ab,ah (e:=(k:Int)+1),ah (e:=(gl ((0,0):Int×Int) mv k).2+1)]
  refine⟨_,rfl,rfl,by simp only[EG];exact h2,fun a ha hj=> ?_,fun j hj=> ?_⟩
  ·simp only
   rw[DS (by omega),AE (fun he=>hj k (by omega) (by omega))]
   exact h3 a ha fun j bQ =>hj j (by omega)
  ·simp only
   rw[DS (by omega)]
   by_cases WC:j=k
   ·subst WC;rw[AA rfl]
   ·have hjr:=(c.mvr cd (k:=j) (by omega)).1
    rw[AE (fun he=>WC (A5R j (by omega) (by omega)))]
    exact h4 j (by omega)
 rintro⟨kk,nm⟩ ⟨h1,h2,h3,h4⟩
 simp only at h1 h2 h3 h4
 subst h1
 have hn:Nm h.2.1 mv nm:=⟨h2,h4⟩
 rw[af]
 refine map_inr ?_
 have A06:∀ {w v:BitVec 64},Im h.2.1 (AV l) mv w v->∀ a∈qT h.2.1 (AV l) w,∃ k,k<mv.length/\(gl (0,0) mv k).1=a:=by
  intro w v hi a ha
  obtain⟨q1,rfl⟩:=AFO.1 ha
  rcases hi with ⟨q2,_⟩|⟨_,b,q2,_⟩
  ·exact absurd q1 q2
  ·obtain⟨k,hk,MZ⟩:=EF (d:=((0,0):Int×Int)) q2
   exact⟨k,hk,by rw[MZ]⟩
 refine AK (fun k (st:Int×Hs×List AI×List Int×List Int)=>∃ todo,st=((k:Int),h,l,nm,todo)/\todo.length<=k/\(∀ a∈todo,∃ k,k<mv.length/\(gl (0,0) mv k).1=a)/\∀ j,j<k->Wn (AV l) h.2.1 (gl 0#64 ws j)->((gl 0#64 ws j).toNat:Int)-1∈todo) (fun b=>b=true) ws.length ?_ ?_ ⟨[],rfl,by simp,by simp,fun j hj=>by omega⟩
 ·rintro k st hk ⟨todo,rfl,q1,q2,q3⟩
  left
  simp only[HM]
  have hi:=him k hk
  rw[ab,ab,ab,AVW hv lE hn hi (by omega),AW,AE (DQ rfl),ah (e:=(k:Int)+1)]
  have A07:∃ AOK,(((k:Int)+1,h,l,nm,todo++qT h.2.1 (AV l) (gl 0#64 ws k)):Int×Hs×List AI×List Int×List Int)=(((k+1:Nat):Int),h,l,nm,AOK)/\AOK.length<=k+1/\(∀ a∈AOK,∃ k,k<mv.length/\(gl (0,0) mv k).1=a)/\∀ j,j<k+1->Wn (AV l) h.2.1 (gl 0#64 ws j)->((gl 0#64 ws j).toNat:Int)-1∈AOK :=by
   refine⟨_,rfl, ?_,fun a ha=> ?_,fun j hj hw=> ?_⟩
   ·have:=AOJ (s:=h.2.1) (C:=AV l) (w:=gl 0#64 ws k)
    rw[PQ];omega
   ·rcases FG.1 ha with ha|ha
    ·exact q2 a ha
    ·exact A06 hi a ha
   ·by_cases WC:j=k
    ·subst WC;exact ARB _ (AFO.2 ⟨hw,rfl⟩)
    ·exact AA8 _ (q3 j (by omega) hw)
  by_cases hw0:gl 0#64 ws k=0#64
  ·rw[AE (DQ hw0)]
   exact⟨_,rfl,A07⟩
  ·have CW:gl 0#64 out k≠0#64:=by
    rcases hi with ⟨_,hi⟩|⟨_,b,hb,hi⟩
    ·rw[hi];exact hw0
    ·obtain⟨j,hj,iU⟩:=EF (d:=((0,0):Int×Int)) hb
     obtain⟨_,_,b0,b1⟩:=c.mvr cd hj
     rw[iU] at b0 b1
     simp only at b0 b1
     rw[hi,←AA3]
     intro he
     have hnt:=tE b0 (by omega:b<16384)
     rw[he] at hnt
     have:(0#64).toNat=0:=rfl
     omega
   rw[AA hw0,ab,AE CW]
   exact⟨_,rfl,A07⟩
 rintro st ⟨todo,rfl,q1,q2,q3⟩
 simp only
 rw[af]
 refine map_inr ?_
 rw[ab]
 refine PW (fun n (st:Int×Int×Int×Hs×List AI×List Int×List Int×List Bool)=>∃ (idx:Nat) (todo:List Int) (done:List Bool) (D:List Nat),st=(tF m D,(D.length:Int),(idx:Int),h,l,nm,todo,done)/\RI h.2.1 l mv ws idx todo done D/\idx<=todo.length/\n=16*(mv.length-D.length)+(todo.length-idx)) (fun b=>b=true) ?_ (16*mv.length+todo.length) _ ⟨0,todo,_,[],rfl,⟨by rw[V5];omega,dP,fun k hk=>(by cases hk),fun a ha=> ?_,by simp only[SK];omega,q2,fun w hw hn' => ?_,fun k hk=>(by cases hk),fun j hj=>by omega⟩,by omega,by simp⟩
 rotate_left
 ·rw[NB (by omega)]
  exact⟨fun h=>(by cases h),fun ⟨k,hk,_⟩=>(by cases hk)⟩
 ·obtain⟨j,hj,rfl⟩:=EF (d:=0#64) hw
  exact q3 j hj hn'
 clear q1 q2 q3
 rintro n st ⟨idx,todo,done,D,rfl,r,A80,rfl⟩
 simp only[HM]
 have N3:=r.A82
 have htl:=r.len
 have hdn:=r.dn
 have hds:0<=tF m D/\tF m D<=48*D.length:=by
  have:∀ E:List Nat,(∀ k∈E,k<mv.length)->0<=tF m E/\tF m E<=48*E.length:=by
   intro E
   induction E with
   |nil=>intro _;exact⟨YT _,YT _⟩
   |cons k E ih=>
    intro hE
    have h1:=ih fun k' KA =>hE k' (YB _ KA)
    obtain⟨i,la,oa,pa,p,cc⟩:=c.uT k (hE k oC)
    have h2:=cc.src.IA.1
    unfold tF dI at h1 ⊢
    simp only[JS,bK,NU] at h1 ⊢
    omega
  exact this D r.lt
 by_cases DY:idx<todo.length
 rotate_left
 ·left
  have hie:idx=todo.length:=by omega
  subst hie
  obtain⟨a1,a2⟩:=r.all hv cd c
  have t1:=cd.Q2.dI
  have t2:=c.Q2.dI
  rw[AVV] at t2
  rw[af]
  refine⟨true, ?_,rfl⟩
  have lG:=cd.fit.1
  have htw:=c.cy.fit.1
  rw[ab,ah (e:=to.2.2.2.2+tF m D),ab,T6]
  rfl
 right
 obtain⟨k,hk,hka⟩:=r.td _ (B3 (d:=(0:Int)) DY)
 obtain⟨⟨g1,g2⟩,g3,g4,g5⟩:=c.mvr cd hk
 have hln:=hn.len
 rw[ab,ab,ab]
 by_cases AOL:gl false done (gl 0 todo idx).toNat=true
 ·rw[AA AOL,ah (e:=(idx:Int)+1)]
  obtain⟨k',KA,MZ⟩:=(r.dd _ (by omega)).1 AOL
  exact⟨_,_,by omega,rfl,idx+1,todo,done,D,rfl,r.skip ⟨k',KA,by omega⟩,by omega,rfl⟩
 have hkD:k∉D:=fun hkD=>AOL ((r.dd _ (by omega)).2 ⟨k,hkD,by omega⟩)
 have hDl:D.length<mv.length:=by
  have h1:(k::D).Nodup:=VE.2 ⟨hkD,r.nd⟩
  have h2:=h1.length_le_of_subset (l₂:=List.range mv.length) fun k' KA =>dQ.2 (by
   rcases GH.1 KA with rfl|KA
   ·exact hk
   ·exact r.lt k' KA)
  rw[AG2,NU] at h2
  exact h2
 have N7:=hn.val k hk
 obtain⟨i,la,oa,pa,p,cc⟩:=c.uT k hk
 have hfi:=(cd.hb.fit (cd.sub i cc.inl)).1
 have lk1:=cc.src.look vs hfi
 have lk2:=cc.dst.look c.cy.vs c.cy.fit
 have AF0:=cc.src.IA
 rw[AE AOL,ab,ab]
 rw[<-hka,N7,af,lk1,AW,ab,ah (e:=(gl ((0,0):Int×Int) mv k).2+1-1),show (gl ((0,0):Int×Int) mv k).2+1-1=(gl ((0,0):Int×Int) mv k).2 by omega,lk2,AW]
 simp only
 rw[AE (DQ trivial),AE (DQ trivial),AE (DQ trivial)]
 obtain⟨⟨⟨r0,r1⟩,d0,d1⟩,hw1,pa0,pa1⟩:=AF0
 obtain⟨_,_,pp0,pp1⟩:=cc.dst.IA
 have A83:=cc.wds
 have A2X:=cc.src
 have AUQ:=cc.dst
 generalize hX:gl ((0,0):Int×Int) m k=X at*
 rw[ah (e:=X.1+X.2),ah (e:=(1:Int)+X.1),ah (e:=1+X.1+X.2),ah (e:=tF m D+(1+X.1+X.2)),ah (e:=(D.length:Int)+1),ah (e:=(idx:Int)+1)]
 refine A5Q (AK (fun j (st:Int×Hs×List AI×List Int×List Int)=>∃ rr,st=(1+(j:Int),h,l,nm,todo++rr)/\((rr.length:Int)<=j/\(rr.length:Int)<=X.1)/\(∀ a∈rr,∃ k,k<mv.length/\(gl (0,0) mv k).1=a)/\∀ j' ya,1<=j' ->j' <=(j:Int)->j' <=X.1->CM (sz h.2.1.1) la (pa+j')=some ya->Wn (AV l) h.2.1 (gl 0#64 h.2.1.2.1 ya.toNat)->((gl 0#64 h.2.1.2.1 ya.toNat).toNat:Int)-1∈todo++rr) _ (X.1+X.2).toNat ?_ ?_ ⟨[],by simp,⟨by simp,by simp;exact r0⟩,by simp,fun j' ya h1 h2=>by omega⟩)
 ·rintro j st hj ⟨rr,rfl,⟨q1,q1'⟩,q2,q3⟩
  left
  obtain⟨ya,nZ⟩:=A2X.vN vs hfi (k:=1+(j:Int)) (by omega) (by omega)
  obtain⟨yb,hyb⟩:=AUQ.vN c.cy.vs c.cy.fit (k:=1+(j:Int)) (by omega) (by omega)
  have hga:=A2X.go vs hfi (k:=1+(j:Int)) (by omega) (by omega)
  have hgb:=AUQ.go c.cy.vs c.cy.fit (k:=1+(j:Int)) (by omega) (by omega)
  have hra:=(CH vs hfi A2X.has (by omega) nZ).1
  have hrb:=(CH c.cy.vs c.cy.fit AUQ.has (by omega) hyb).1
  rw[nZ,show VR (some ya)=(ya,0) from rfl] at hga
  rw[hyb,show VR (some yb)=(yb,0) from rfl] at hgb
  have hw2:=A83 (1+(j:Int)) (by omega) (by omega) ya yb nZ (by rw[<-c.sh];exact hyb)
  simp only
  rw[ab,hga,AW,ab,N7,ah (e:=(gl ((0,0):Int×Int) mv k).2+1-1),show (gl ((0,0):Int×Int) mv k).2+1-1=(gl ((0,0):Int×Int) mv k).2 by omega,hgb,AW]
  simp only
  by_cases hjr:1+(j:Int)<=X.1
  ·have hi:=hw2.1 ⟨hjr,.inl hk⟩
   rw[AA hjr,AA hrb,AA hra]
   rw[AVW hv lE hn hi (by rw[PQ];omega),AW]
   simp only
   rw[AE (fun hh=>hh trivial),af,ah (e:=1+(j:Int)+1),I0]
   have AUP:=AOJ (s:=h.2.1) (C:=AV l) (w:=gl 0#64 h.2.1.2.1 ya.toNat)
   refine⟨_,rfl,rr++qT h.2.1 (AV l) (gl 0#64 h.2.1.2.1 ya.toNat),by rw[show (1:Int)+((j+1:Nat):Int)=1+(j:Int)+1 by omega],⟨by rw[PQ];omega,by rw[PQ];omega⟩,fun a ha=> ?_,fun j' ya' h1 h2 h3 h4 h5=> ?_⟩
   ·rcases FG.1 ha with ha|ha
    ·exact q2 a ha
    ·exact A06 hi a ha
   ·rw[<-I0]
    by_cases vO:j' =1+(j:Int)
    ·subst vO
     rw[nZ] at h4
     obtain rfl:=HO h4
     exact ARB _ (AFO.2 ⟨h5,rfl⟩)
    ·exact AA8 _ (q3 j' ya' h1 (by omega) h3 h4 h5)
  ·have hi:=hw2.2 fun hh=>hjr hh.1
   rw[AE hjr,ab,AA hrb,AA hra]
   rw[AE (DQ hi),ah (e:=1+(j:Int)+1)]
   exact⟨_,rfl,rr,by rw[show (1:Int)+((j+1:Nat):Int)=1+(j:Int)+1 by omega],⟨by omega,q1'⟩,q2,fun j' ya' h1 h2 h3 h4 h5=>q3 j' ya' h1 (by omega) h3 h4 h5⟩
 ·rintro st ⟨rr,rfl,⟨q1,q1'⟩,q2,q3⟩
  simp only
  rw[af]
  have M_:=r.step hk hkD hka.symm DY ⟨g1,g2⟩ (rr:=rr) (by omega) q2 (fun i' la' oa' pa' x' KM o' j' ya' h1 h2 h3 h4=>by
   obtain⟨rfl,rfl,rfl,rfl⟩:=cc.src.uniq cd.hb (cd.sub i cc.inl) (cd.sub i' KM) o'
   exact q3 j' ya' h1 (by omega) h2 h3 h4)
  refine⟨_,rfl,_,_,rfl, ?_,idx+1,todo++rr,_,k::D, ?_,M_,by rw[PQ];omega,rfl⟩
  ·rw[PQ,NU];omega
  ·rw[show tF m (k::D)=tF m D+(1+X.1+X.2) by unfold tF dI;rw[JS,JS,bK,hX];omega]
   rfl
namespace evacuateReaches
open Go.ChangeShapes Go.WideShapes Go.ChangeAt Go.RowKit Go.V3
theorem own:ownKnob Tryz.prog.godebug=none:=by kernel_rfl
theorem laidOut:laidOutB Tryz.prog=true:=by kernel_rfl
theorem door_met (os : Os) (args : Array Value) : laidMetH Tryz.prog [("math/bits.deBruijn64tab", Rows.laid_math_bits_deBruijn64tab)] ((World.doorLaid Tryz.prog 4000 os).forCall (fun _ _ => 0) ⟨#[], args, []⟩).memory :=
 laidMetH_of_parts3 (fuel:=8) (laidMet_of_run' 8 (by kernel_rfl) (by kernel_rfl)) (by kernel_rfl) (by kernel_rfl)
set_option maxRecDepth 100000 in
theorem lifted (os:Os) (started:os.Started) (H:Type) (enc:TypeId×Value->H):
  ReturnsInHanded {} Tryz.checked os 4 .any (fun w args => (Rows.evacuateReachesSpec.pre enc Tryz.prog Tryz.f4 [] false w args ∧ laidMetH Tryz.prog [("math/bits.deBruijn64tab", Rows.laid_math_bits_deBruijn64tab)] w) ∧ sizedMet enc Tryz.prog Tryz.f4 (OpenSpec.ofChange Rows.evacuateReachesSpec) false w args) (Rows.evacuateReachesSpec.post enc Tryz.prog Tryz.f4 false true false false) := by
 refine returnsInHanded_of_change_and (C := Tryz.checked) (X := fun w _ => laidMetH Tryz.prog [("math/bits.deBruijn64tab", Rows.laid_math_bits_deBruijn64tab)] w) (fun _ _ _ hh h => h.of_heap hh) own started (by kernel_rfl) Tryz.func4
  (ChangeSpec.witness_shaped (enc := enc) (C := Tryz.checked) (os := os) (X := fun w _ => laidMetH Tryz.prog [("math/bits.deBruijn64tab", Rows.laid_math_bits_deBruijn64tab)] w) false (World.doorLaid Tryz.prog 4000 os) #[.slice none 0 0] 8 rfl (World.shaped_of_RefB (by kernel_rfl) (by kernel_rfl)) (by kernel_rfl) (by kernel_rfl) (by kernel_rfl) (door_met os _)) ?_
 intro W base args ds gs before AJ9 hW _ _ hL _
 have hT:AX9 vI W:=by
  intro q hq
  simp only[vI,GH,wU,tS] at hq
  subst hq
  exact eT (t:=159) hL (by kernel_rfl) (e:=5) (k:= .u8) (len:=64) (by kernel_rfl) (by kernel_rfl) (by kernel_rfl) (by kernel_rfl) (by kernel_rfl) (by kernel_rfl) [0,1,56,2,57,49,28,3,61,58,42,50,38,29,17,4,62,47,59,36,45,43,51,22,53,39,33,30,24,18,12,5,63,55,48,27,60,41,37,16,46,35,44,21,52,32,23,11,54,26,40,15,34,20,31,10,25,14,19,9,13,8,7,6] rfl
 have N7:∀ (j:Nat) t v,Tryz.f4.params[j]? =some t->args[j]? =some v->Value.okWide Tryz.prog W .any base t v:=AJ9
 have hW' :=hW
 obtain⟨p,q,hA0,hV,rfl,hfz,HN⟩:=hW
 have hA:DataW.TrodAll enc Tryz.prog W 0 (fun _=>true) true Tryz.f4.params.toList args.toList ds p:=hA0
 rw[Tryz.params4] at hA N7
 obtain⟨v0,vs0,d0,ds0,p0,q0,M8,rfl,rfl,h0,r0⟩:=trodAll_cons hA
 obtain⟨rfl,rfl,rfl⟩:=trodAll_nil r0
 obtain rfl:args= #[v0]:=by cases args;simp_all
 obtain⟨rfl,rfl⟩:=trodVars_none hV
 have k0:=h0
 have lt0:∀ x∈p0,x.block<W.heap.size:=by obtain⟨m,hm⟩:=k0;exact DataW.trod_lt m _ _ _ hm
 obtain⟨y0,R0,w0⟩:=handed 40 AHO (by kernel_rfl) (N7 0 29 v0 rfl rfl) k0
 have A1:=AE6.nil W
 obtain⟨m0,A0⟩:=A1.cons (t:=AHO) (.inr ⟨rfl,PV (t:=29) rfl (N7 0 29 v0 rfl rfl)⟩) y0 R0
 refine (yV (fi:=KH) Q6 hT (r:=(true:Bool)) (vals:= #[v0]) (w:=W) A0 (lN y0 w0) (fun _=>rfl)).mono fun e W' ⟨he,bel⟩=> ?_
 subst he
 simp only[FP] at hW'
 exact⟨_,rfl,_,_,_,[],_,[],hW',trodAll_mk1 (shut_bool Tryz.underlying4 _),(trodAll_cons_mk (Below.trod laidOut (by kernel_rfl) (SJ (by kernel_rfl)) k0 bel lt0) trodAll_mk0),rfl,bel.frame _,fun h=>by cases h⟩
theorem proved:Rows.EvacuateReachesSaid:=
 OpenClaim.holds_of_wide 4 Tryz.f4 rfl rfl rfl rfl rfl rfl rfl ⟨rfl,rfl,rfl,rfl,rfl⟩ rfl rfl rfl rfl rfl (by kernel_rfl) Tryz.func4 (by kernel_rfl)
  (SJ (by kernel_rfl)) (by unfold Func.isWrapper;first|(rw[AA (by decide+kernel)];kernel_rfl)|(rw[AE (by decide+kernel)];exact⟨rfl,rfl⟩))
  (fun os started H enc _=>lifted os started H enc)
theorem card:Rows.EvacuateReachesCardSaid:=
 Claim7.holds_tied_plain_at .later [] [.data] true (true, "ecda925fbeafc6d8cc564c794288da2c955dde13545da6f8441126fa7e0268e8") false proved (fun _ h => by cases h) (by kernel_rfl) (fun _ h => by cases h) evacuateReaches_row_tie rfl ⟨rfl, rfl⟩ (by kernel_rfl) rfl
  (fun f fn hf hfn=>by
   obtain rfl : f = 4 := Option.some.inj ((show Tryz.prog.funcNamed "beltway/beltwaylaw23.EvacuateReaches" = some 4 by kernel_rfl).symm.trans hf) |>.symm
   obtain rfl:fn=Tryz.f4:=(HO (Tryz.func4.symm.trans hfn)).symm
   exact⟨by kernel_rfl,fun j t ht=>by
    rw[Tryz.params4] at ht
    have hm:t∈[29]:=by simpa using ARC ht
    have QF:([29].all fun u=> !Tryz.prog.wantsStandIn u)=true:=by kernel_rfl
    exact (show Tryz.prog.wantsStandIn t=false by simpa using KI.1 QF t hm)⟩)
  (by kernel_rfl)
end evacuateReaches
end Go.Proofs.YtokeceeccmgcmaaGreatDoor
