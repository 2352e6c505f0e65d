/- A law of the statements is proved here, without any condition. -/
import Derived.Test.YthmiilamegpllaaGreatHeaZ
import Derived.Test.YthmiilamegpllaaGreatRows
set_option linter.unusedVariables false
set_option linter.unusedSimpArgs false
set_option maxRecDepth 100000
namespace Go.Proofs.YthmiilamegpllaaGreat
open Go Go.V3
noncomputable section
def DB (a0:DL):Option Bool:=
AI (σ:=(Int×Int)) (β:=Bool) (fun s1=>
if s1.2<(a0.length:Int) then
if 0<=s1.2/\s1.2<(a0.length:Int) then
some (Sum.inl ((AG (s1.1+((gl ([]:(List AB)) a0 s1.2.toNat).length:Int)),AG (s1.2+1))))
else none
else Option.map Sum.inr (if (a0.length:Int)<=8 then
some (decide (s1.1<=40))
else some (false))) ((0,0))
@[reducible] def G9:FnI:=BK [I2] [FN] fun x=>DB x
def NM:Cx:=BE [(11,(1,1))] [] [] [(0,B8 [(3,AP),(8,AP)] [] [] (FI [(5,1),(9,8)]) [] 1)] []
theorem L4:CV 8 G9:=okW NM [.tmp 2] 24 1 (BD AM.nil A_.nil) Tryz.func8
def AU :Option Bool:=
Option.bind (DI (⟨#[102,105,120,101,100]⟩:ByteArray) 25) (fun r1=>
Option.bind (FT r1.1 3 16) (fun r2=>
Option.bind (C0 r1.1 r2.1.2.1 r2.1.2.2.1 0 5) (fun r3=>
if r3.2.2=0 then
if r3.1=2 then
some (decide (r3.2.1.2.2.1=(-1)))
else some (false)
else some (false))))
@[reducible] def DN:FnI:=BK [] [FN] fun x=>AU 
def G_:Cx:=BE [(1,(1,1)),(3,(9,1)),(6,(10,1)),(9,(0,1)),(14,(2,7))] [] [(15,GY),(26,IN),(27,IL)] [] []
theorem GK:CV 9 DN:=okW G_ [.tmp 0] 38 11 (BD (.cons HC (.cons J4 (.cons JV AM.nil))) A_.nil) Tryz.func9
@[reducible] def TV:FnI:=BK [D3,I2] [FN] fun x=>J7 x.1 x.2
def gG:Cx:=BE [(2,(3,1)),(10,(7,1)),(15,(10,1)),(30,(5,1)),(82,(8,1)),(83,(9,1))] [83] [(46,C8),(84,N1)] [(0,B8 [(5,AP),(6,I3),(26,AP)] [] [] (FI [(4,1),(7,4),(12,1),(27,64)]) [] 4),(2,B8 [(5,AP),(6,I3),(33,AP)] [] [] (FI [(4,1),(9,2),(12,1),(34,56)]) [4] 6),(4,B8 [(70,AP)] [] [] (FI [(4,1),(12,1),(71,8)]) [] 8),(6,B8 [(13,AP),(94,AP)] [] [] (FI [(15,1),(95,9)]) [] 10)] []
theorem cL:CV 80 TV:=okW gG [.tmp 4] 107 8 (BD (.cons DQ (.cons SY AM.nil)) A_.nil) Tryz.func80
@[reducible] def TW:FnI:=BK [D3,I2] [FN] fun x=>J8 x.1 x.2
def gH:Cx:=BE [(2,(3,1))] [] [(79,M1),(80,TV)] [] []
theorem cM:CV 39 TW:=okW gH [.tmp 4] 12 1 (BD (.cons QZ (.cons cL AM.nil)) A_.nil) Tryz.func39
def FM (a0:D7) (a1:B7) (a2:DL) (a3:Int) (a4:Int):Option SQ:=
Option.bind (DA a0) (fun r1=>
if ¬r1=0 then
AI (σ:=(Bool×Int)) (β:=SQ) (fun s1=>
if s1.2<(a2.length:Int) then
if 0<=s1.2/\s1.2<(a2.length:Int) then
AI (σ:=(Bool×Int)) (β:=((Bool×Int) ⊕ SQ)) (fun s2=>
if s2.2<((gl ([]:(List AB)) a2 s1.2.toNat).length:Int) then
if 0<=s2.2/\s2.2<((gl ([]:(List AB)) a2 s1.2.toNat).length:Int) then
if s2.1=true then
some (Sum.inl ((true,AG (s2.2+1))))
else some (Sum.inl ((decide (((gl ((0,0,0,0,0):AB) (gl ([]:(List AB)) a2 s1.2.toNat) s2.2.toNat).1)≥a3),AG (s2.2+1))))
else none
else some (Sum.inr (Sum.inl ((s2.1,AG (s1.2+1)))))) ((s1.1,0))
else none
else Option.map Sum.inr (if s1.1=true then
some ((0,(0,0,0,0,0),1))
else Option.bind (AY a0 a1 a2 a3 a4) (fun r2=>
some ((r2.1,r2.2,0))))) ((true,0))
else Option.bind (J8 a1 a2) (fun r3=>
if (!r3)=true then
AI (σ:=(Bool×Int)) (β:=SQ) (fun s3=>
if s3.2<(a2.length:Int) then
if 0<=s3.2/\s3.2<(a2.length:Int) then
AI (σ:=(Bool×Int)) (β:=((Bool×Int) ⊕ SQ)) (fun s4=>
if s4.2<((gl ([]:(List AB)) a2 s3.2.toNat).length:Int) then
if 0<=s4.2/\s4.2<((gl ([]:(List AB)) a2 s3.2.toNat).length:Int) then
if s4.1=true then
some (Sum.inl ((true,AG (s4.2+1))))
else some (Sum.inl ((decide (((gl ((0,0,0,0,0):AB) (gl ([]:(List AB)) a2 s3.2.toNat) s4.2.toNat).1)≥a3),AG (s4.2+1))))
else none
else some (Sum.inr (Sum.inl ((s4.1,AG (s3.2+1)))))) ((s3.1,0))
else none
else Option.map Sum.inr (if s3.1=true then
some ((0,(0,0,0,0,0),1))
else Option.bind (AY a0 a1 a2 a3 a4) (fun r4=>
some ((r4.1,r4.2,0))))) ((true,0))
else if ¬(a2.length:Int)=(a0.2.1.length:Int) then
AI (σ:=(Bool×Int)) (β:=SQ) (fun s5=>
if s5.2<(a2.length:Int) then
if 0<=s5.2/\s5.2<(a2.length:Int) then
AI (σ:=(Bool×Int)) (β:=((Bool×Int) ⊕ SQ)) (fun s6=>
if s6.2<((gl ([]:(List AB)) a2 s5.2.toNat).length:Int) then
if 0<=s6.2/\s6.2<((gl ([]:(List AB)) a2 s5.2.toNat).length:Int) then
if s6.1=true then
some (Sum.inl ((true,AG (s6.2+1))))
else some (Sum.inl ((decide (((gl ((0,0,0,0,0):AB) (gl ([]:(List AB)) a2 s5.2.toNat) s6.2.toNat).1)≥a3),AG (s6.2+1))))
else none
else some (Sum.inr (Sum.inl ((s6.1,AG (s5.2+1)))))) ((s5.1,0))
else none
else Option.map Sum.inr (if s5.1=true then
some ((0,(0,0,0,0,0),1))
else Option.bind (AY a0 a1 a2 a3 a4) (fun r5=>
some ((r5.1,r5.2,0))))) ((true,0))
else if a3<0 then
AI (σ:=(Bool×Int)) (β:=SQ) (fun s7=>
if s7.2<(a2.length:Int) then
if 0<=s7.2/\s7.2<(a2.length:Int) then
AI (σ:=(Bool×Int)) (β:=((Bool×Int) ⊕ SQ)) (fun s8=>
if s8.2<((gl ([]:(List AB)) a2 s7.2.toNat).length:Int) then
if 0<=s8.2/\s8.2<((gl ([]:(List AB)) a2 s7.2.toNat).length:Int) then
if s8.1=true then
some (Sum.inl ((true,AG (s8.2+1))))
else some (Sum.inl ((decide (((gl ((0,0,0,0,0):AB) (gl ([]:(List AB)) a2 s7.2.toNat) s8.2.toNat).1)≥a3),AG (s8.2+1))))
else none
else some (Sum.inr (Sum.inl ((s8.1,AG (s7.2+1)))))) ((s7.1,0))
else none
else Option.map Sum.inr (if s7.1=true then
some ((0,(0,0,0,0,0),1))
else Option.bind (AY a0 a1 a2 a3 a4) (fun r6=>
some ((r6.1,r6.2,0))))) ((true,0))
else if a3>4294967295 then
AI (σ:=(Bool×Int)) (β:=SQ) (fun s9=>
if s9.2<(a2.length:Int) then
if 0<=s9.2/\s9.2<(a2.length:Int) then
AI (σ:=(Bool×Int)) (β:=((Bool×Int) ⊕ SQ)) (fun s10=>
if s10.2<((gl ([]:(List AB)) a2 s9.2.toNat).length:Int) then
if 0<=s10.2/\s10.2<((gl ([]:(List AB)) a2 s9.2.toNat).length:Int) then
if s10.1=true then
some (Sum.inl ((true,AG (s10.2+1))))
else some (Sum.inl ((decide (((gl ((0,0,0,0,0):AB) (gl ([]:(List AB)) a2 s9.2.toNat) s10.2.toNat).1)≥a3),AG (s10.2+1))))
else none
else some (Sum.inr (Sum.inl ((s10.1,AG (s9.2+1)))))) ((s9.1,0))
else none
else Option.map Sum.inr (if s9.1=true then
some ((0,(0,0,0,0,0),1))
else Option.bind (AY a0 a1 a2 a3 a4) (fun r7=>
some ((r7.1,r7.2,0))))) ((true,0))
else if a4<1 then
AI (σ:=(Bool×Int)) (β:=SQ) (fun s11=>
if s11.2<(a2.length:Int) then
if 0<=s11.2/\s11.2<(a2.length:Int) then
AI (σ:=(Bool×Int)) (β:=((Bool×Int) ⊕ SQ)) (fun s12=>
if s12.2<((gl ([]:(List AB)) a2 s11.2.toNat).length:Int) then
if 0<=s12.2/\s12.2<((gl ([]:(List AB)) a2 s11.2.toNat).length:Int) then
if s12.1=true then
some (Sum.inl ((true,AG (s12.2+1))))
else some (Sum.inl ((decide (((gl ((0,0,0,0,0):AB) (gl ([]:(List AB)) a2 s11.2.toNat) s12.2.toNat).1)≥a3),AG (s12.2+1))))
else none
else some (Sum.inr (Sum.inl ((s12.1,AG (s11.2+1)))))) ((s11.1,0))
else none
else Option.map Sum.inr (if s11.1=true then
some ((0,(0,0,0,0,0),1))
else Option.bind (AY a0 a1 a2 a3 a4) (fun r8=>
some ((r8.1,r8.2,0))))) ((true,0))
else AI (σ:=(Bool×Int)) (β:=SQ) (fun s13=>
if s13.2<(a2.length:Int) then
if 0<=s13.2/\s13.2<(a2.length:Int) then
AI (σ:=(Bool×Int)) (β:=((Bool×Int) ⊕ SQ)) (fun s14=>
if s14.2<((gl ([]:(List AB)) a2 s13.2.toNat).length:Int) then
if 0<=s14.2/\s14.2<((gl ([]:(List AB)) a2 s13.2.toNat).length:Int) then
if s14.1=true then
some (Sum.inl ((true,AG (s14.2+1))))
else some (Sum.inl ((decide (((gl ((0,0,0,0,0):AB) (gl ([]:(List AB)) a2 s13.2.toNat) s14.2.toNat).1)≥a3),AG (s14.2+1))))
else none
else some (Sum.inr (Sum.inl ((s14.1,AG (s13.2+1)))))) ((s13.1,0))
else none
else Option.map Sum.inr (if s13.1=true then
some ((0,(0,0,0,0,0),1))
else Option.bind (AY a0 a1 a2 a3 a4) (fun r9=>
some ((r9.1,r9.2,0))))) ((decide (a4>48),0))))
@[reducible] def RE:FnI:=BK [PD,D3,I2,AP,AP] [CY,kO,CY] fun x=>FM x.1 x.2.1 x.2.2.1 x.2.2.2.1 x.2.2.2.2
def cN:Cx:=BE [(5,(4,1)),(6,(5,1)),(11,(6,1)),(17,(8,1)),(19,(9,1)),(58,(7,1))] [] [(38,FJ),(39,TW),(40,J0)] [(0,B8 [(13,lP),(55,AP)] [] [] (FI [(15,1),(17,1),(56,18)]) [] 7),(2,B8 [(13,lP),(61,AP)] [] [] (FI [(17,1),(62,11)]) [] 8)] []
theorem aI:CV 16 RE:=okW cN [.tmp 10,.cell 11 57,.tmp 12] 87 6 (BD (.cons GH (.cons cM (.cons M_ AM.nil))) A_.nil) Tryz.func16
def HG (a0:D7) (a1:B7) (a2:DL) (a3:(List Int)) (a4:Int) (a5:Int) (a6:Int) (a7:Int) (a8:Int):Option Bool:=
Option.bind (KU a1) (fun r1=>
if (!r1)=true then
Option.bind (AU) (fun r2=>
some (r2))
else Option.bind (DB a2) (fun r3=>
if (!r3)=true then
Option.bind (AU) (fun r4=>
some (r4))
else if (a0.2.1.length:Int)>20 then
Option.bind (AU) (fun r5=>
some (r5))
else if (a0.1.size:Int)>300 then
Option.bind (AU) (fun r6=>
some (r6))
else Option.bind (GQ a3) (fun r7=>
Option.bind (FV r7) (fun r8=>
AI (σ:=Int) (β:=Bool) (fun s1=>
if s1<(([r8.1.1,a0]:List D7).length:Int) then
if 0<=s1/\s1<(([r8.1.1,a0]:List D7).length:Int) then
Option.bind (HM r8.1.2.1 a6 a7 a8) (fun r9=>
AI (σ:=Int) (β:=(Int ⊕ Bool)) (fun s2=>
if s2<(([r8.1.2.1,a1,r9]:List B7).length:Int) then
if 0<=s2/\s2<(([r8.1.2.1,a1,r9]:List B7).length:Int) then
Option.bind (DU r8.1.2.2.1) (fun JJ=>
if (JJ.length+([[]]:List (List AB)).length)*24<=140737488355328 then
AI (σ:=Int) (β:=(Int ⊕ (Int ⊕ Bool))) (fun s3=>
if s3<(([r8.1.2.2.1,a2,JJ++([[]]:List (List AB))]:List DL).length:Int) then
if 0<=s3/\s3<(([r8.1.2.2.1,a2,JJ++([[]]:List (List AB))]:List DL).length:Int) then
Option.bind (B4 a5 48) (fun QR=>
Option.bind (B4 a4 3) (fun OF=>
Option.bind (B4 a5 51) (fun Q6=>
AI (σ:=Int) (β:=(Int ⊕ (Int ⊕ (Int ⊕ Bool)))) (fun s4=>
if s4<(([([a4,a5]:List Int),([r8.1.2.2.2.1,AG ((1:Int)+QR)]:List Int),([AG (r8.1.2.2.2.1-OF),AG (Q6-1)]:List Int)]:List (List Int)).length:Int) then
if 0<=s4/\s4<(([([a4,a5]:List Int),([r8.1.2.2.2.1,AG ((1:Int)+QR)]:List Int),([AG (r8.1.2.2.2.1-OF),AG (Q6-1)]:List Int)]:List (List Int)).length:Int) then
if 0<=(0:Int)/\(0:Int)<((gl ([]:(List Int)) ([([a4,a5]:List Int),([r8.1.2.2.2.1,AG ((1:Int)+QR)]:List Int),([AG (r8.1.2.2.2.1-OF),AG (Q6-1)]:List Int)]:List (List Int)) s4.toNat).length:Int) then
if 0<=(1:Int)/\(1:Int)<((gl ([]:(List Int)) ([([a4,a5]:List Int),([r8.1.2.2.2.1,AG ((1:Int)+QR)]:List Int),([AG (r8.1.2.2.2.1-OF),AG (Q6-1)]:List Int)]:List (List Int)) s4.toNat).length:Int) then
Option.bind (C0 ((gl ((⟨#[]⟩,[],0):D7) ([r8.1.1,a0]:List D7) s1.toNat).1,((gl ((⟨#[]⟩,[],0):D7) ([r8.1.1,a0]:List D7) s1.toNat).2)) ((gl ((0,[],[]):B7) ([r8.1.2.1,a1,r9]:List B7) s2.toNat).1,((gl ((0,[],[]):B7) ([r8.1.2.1,a1,r9]:List B7) s2.toNat).2)) (gl ([]:DL) ([r8.1.2.2.1,a2,JJ++([[]]:List (List AB))]:List DL) s3.toNat) (gl (0:Int) (gl ([]:(List Int)) ([([a4,a5]:List Int),([r8.1.2.2.2.1,AG ((1:Int)+QR)]:List Int),([AG (r8.1.2.2.2.1-OF),AG (Q6-1)]:List Int)]:List (List Int)) s4.toNat) ((0:Int).toNat)) (gl (0:Int) (gl ([]:(List Int)) ([([a4,a5]:List Int),([r8.1.2.2.2.1,AG ((1:Int)+QR)]:List Int),([AG (r8.1.2.2.2.1-OF),AG (Q6-1)]:List Int)]:List (List Int)) s4.toNat) ((1:Int).toNat))) (fun mN=>
if 0<=(0:Int)/\(0:Int)<((gl ([]:(List Int)) ([([a4,a5]:List Int),([r8.1.2.2.2.1,AG ((1:Int)+QR)]:List Int),([AG (r8.1.2.2.2.1-OF),AG (Q6-1)]:List Int)]:List (List Int)) s4.toNat).length:Int) then
if 0<=(1:Int)/\(1:Int)<((gl ([]:(List Int)) ([([a4,a5]:List Int),([r8.1.2.2.2.1,AG ((1:Int)+QR)]:List Int),([AG (r8.1.2.2.2.1-OF),AG (Q6-1)]:List Int)]:List (List Int)) s4.toNat).length:Int) then
Option.bind (FM ((gl ((⟨#[]⟩,[],0):D7) ([r8.1.1,a0]:List D7) s1.toNat).1,((gl ((⟨#[]⟩,[],0):D7) ([r8.1.1,a0]:List D7) s1.toNat).2)) ((gl ((0,[],[]):B7) ([r8.1.2.1,a1,r9]:List B7) s2.toNat).1,((gl ((0,[],[]):B7) ([r8.1.2.1,a1,r9]:List B7) s2.toNat).2)) (gl ([]:DL) ([r8.1.2.2.1,a2,JJ++([[]]:List (List AB))]:List DL) s3.toNat) (gl (0:Int) (gl ([]:(List Int)) ([([a4,a5]:List Int),([r8.1.2.2.2.1,AG ((1:Int)+QR)]:List Int),([AG (r8.1.2.2.2.1-OF),AG (Q6-1)]:List Int)]:List (List Int)) s4.toNat) ((0:Int).toNat)) (gl (0:Int) (gl ([]:(List Int)) ([([a4,a5]:List Int),([r8.1.2.2.2.1,AG ((1:Int)+QR)]:List Int),([AG (r8.1.2.2.2.1-OF),AG (Q6-1)]:List Int)]:List (List Int)) s4.toNat) ((1:Int).toNat))) (fun l4=>
if ¬mN.1=l4.1 then
some (Sum.inr (Sum.inr (Sum.inr (Sum.inr (false)))))
else if (!(Y5 [decide (mN.2.1.1=l4.2.1.1),decide (mN.2.1.2.1=l4.2.1.2.1),decide (mN.2.1.2.2.1=l4.2.1.2.2.1),decide (mN.2.1.2.2.2.1=l4.2.1.2.2.2.1),decide (mN.2.1.2.2.2.2=l4.2.1.2.2.2.2)]))=true then
some (Sum.inr (Sum.inr (Sum.inr (Sum.inr (false)))))
else if ¬mN.2.2=l4.2.2 then
some (Sum.inr (Sum.inr (Sum.inr (Sum.inr (false)))))
else some (Sum.inl (AG (s4+1))))
else none
else none)
else none
else none
else none
else some (Sum.inr (Sum.inl (AG (s3+1))))) (0))))
else none
else some (Sum.inr (Sum.inl (AG (s2+1))))) (0)
else none)
else none
else some (Sum.inr (Sum.inl (AG (s1+1))))) (0))
else none
else Option.map Sum.inr (Option.bind (AU) (fun uS=>
some (uS)))) (0)))))
@[reducible] def KN:FnI:=BK [PD,D3,I2,SR,AP,AP,AP,AP,AP] [FN] fun x=>HG x.1 x.2.1 x.2.2.1 x.2.2.2.1 x.2.2.2.2.1 x.2.2.2.2.2.1 x.2.2.2.2.2.2.1 x.2.2.2.2.2.2.2.1 x.2.2.2.2.2.2.2.2
def TX:Cx:=BE [(9,(5,1)),(10,(6,1)),(19,(20,1)),(20,(21,1)),(22,(24,1)),(24,(30,1)),(30,(41,1)),(33,(42,1)),(58,(7,2)),(59,(9,11)),(65,(22,1)),(70,(23,1)),(79,(25,2)),(80,(27,1)),(85,(28,2)),(91,(31,1)),(92,(32,1)),(93,(33,1)),(94,(34,1)),(99,(35,1)),(102,(36,1)),(108,(37,1)),(117,(38,1)),(118,(39,1)),(123,(40,1))] [92] [(7,UG),(8,G9),(9,DN),(10,IP),(11,I5),(12,S2),(13,F7),(14,FQ),(15,GY),(16,RE)] [(0,B8 [(67,AP)] [] [] (FI [(18,1),(22,1),(24,1),(26,1),(28,7),(68,101)]) [] 23),(2,B8 [(82,AP)] [] [] (FI [(18,1),(24,1),(26,1),(28,7),(83,85)]) [] 28),(4,B8 [(96,AP)] [] [] (FI [(18,1),(26,1),(28,7),(97,70)]) [] 35),(6,B8 [(120,AP)] [] [] (FI [(18,1),(28,7),(121,45)]) [] 40)] []
theorem RX:CV 3 KN:=okW TX [.tmp 18] 170 38 (BD (.cons eB (.cons L4 (.cons GK (.cons J6 (.cons KS (.cons bO (.cons G7 (.cons GP (.cons HC (.cons aI AM.nil)))))))))) A_.nil) Tryz.func3
end
theorem A2G {α γ β:Type} {q:List (List γ)} {d:γ} {F:α->γ->α} {a0:α} {r:β} {out:α×Int->Option ((α×Int) ⊕ β)} {cO:Nat->α×Int->Option ((α×Int) ⊕ ((α×Int) ⊕ β))}
  (h1:∀ k a,k<q.length->out (a,(k:Int))=AI (cO k) (a,0))
  (h2:∀ (k j:Nat) a,k<q.length->j<(gl [] q k).length->cO k (a,(j:Int))=some (.inl (F a (gl d (gl [] q k) j),(j:Int)+1)))
  (h3:∀ (k:Nat) a,k<q.length->cO k (a,((gl [] q k).length:Int))=some (.inr (.inl (a,(k:Int)+1))))
  (h4:out (q.flatten.foldl F a0,(q.length:Int))=some (.inr r)):AI out (a0,0)=some r:=by
 refine (AO (fun k (st:α×Int)=>k<=q.length/\st=((q.take k).flatten.foldl F a0,(k:Int))) (fun b=>b=r) q.length ?_ ?_ (s:=(a0,0)) ⟨by omega,by simp⟩).elim fun b hb=>by rw[hb.1,hb.2]
 ·rintro k st hk ⟨_,rfl⟩
  left
  refine⟨_, ?_,by omega,rfl⟩
  rw[h1 k _ hk]
  refine (AO (fun j (st:α×Int)=>j<=(gl [] q k).length/\st=(((q.take k).flatten++(gl [] q k).take j).foldl F a0,(j:Int))) (fun b=>b=Sum.inl ((q.take (k+1)).flatten.foldl F a0,((k+1:Nat):Int))) (gl [] q k).length ?_ ?_ (s:=((q.take k).flatten.foldl F a0,0)) ⟨by omega,by simp⟩).elim fun b hb=>by rw[hb.1,hb.2]
  ·rintro j st hj ⟨_,rfl⟩
   left
   refine⟨_,h2 k j _ hk hj,by omega, ?_⟩
   rw[FZ (d:=d) _ j hj,←J_,AAE (l' :=[_])]
   rfl
  ·rintro st ⟨_,rfl⟩
   refine⟨_,h3 k _ hk, ?_⟩
   rw[SD,FZ (d:=[]) q k hk]
   simp
 ·rintro st ⟨_,rfl⟩
  refine⟨r, ?_,rfl⟩
  rw[SD];exact h4
theorem yY {c:Cf} {s:Sp} {q:Rows} (hq:q.length<=1000000) (hx:∀ x∈q,x.length<=9223372036854775807) (n k:Int) (b0:Bool) {r:Int×AH×Int}
  (he:(if q.flatten.foldl (fun b i=>if b=true then true else decide (i.1≥n)) b0=true then some ((0,(0,0,0,0,0),1):Int×AH×Int) else Option.bind (AY c s q n k) (fun r2=>some (r2.1,r2.2,0)))=some r):
  AI (σ:=(Bool×Int)) (β:=SQ) (fun s1=>
  if s1.2<(q.length:Int) then
  if 0<=s1.2/\s1.2<(q.length:Int) then
  AI (σ:=(Bool×Int)) (β:=((Bool×Int) ⊕ SQ)) (fun s2=>
  if s2.2<((gl ([]:(List AB)) q s1.2.toNat).length:Int) then
  if 0<=s2.2/\s2.2<((gl ([]:(List AB)) q s1.2.toNat).length:Int) then
  if s2.1=true then
  some (Sum.inl ((true,AG (s2.2+1))))
  else some (Sum.inl ((decide (((gl ((0,0,0,0,0):AB) (gl ([]:(List AB)) q s1.2.toNat) s2.2.toNat).1)≥n),AG (s2.2+1))))
  else none
  else some (Sum.inr (Sum.inl ((s2.1,AG (s1.2+1)))))) ((s1.1,0))
  else none
  else Option.map Sum.inr (if s1.1=true then
  some ((0,(0,0,0,0,0),1))
  else Option.bind (AY c s q n k) (fun r2=>
  some ((r2.1,r2.2,0))))) ((b0,0))=some r:=by
 refine A2G (q:=q) (d:=((0,0,0,0,0):AH)) (F:=fun b i=>if b=true then true else decide (i.1≥n)) (a0:=b0) (cO:=fun k=>fun s2:Bool×Int=>
  if s2.2<((gl ([]:(List AB)) q (k:Int).toNat).length:Int) then
  if 0<=s2.2/\s2.2<((gl ([]:(List AB)) q (k:Int).toNat).length:Int) then
  if s2.1=true then
  some (Sum.inl ((true,AG (s2.2+1))))
  else some (Sum.inl ((decide (((gl ((0,0,0,0,0):AB) (gl ([]:(List AB)) q (k:Int).toNat) s2.2.toNat).1)≥n),AG (s2.2+1))))
  else none
  else some (Sum.inr (Sum.inl ((s2.1,AG ((k:Int)+1)))))) ?_ ?_ ?_ ?_
 ·intro k a hk
  simp only
  rw[AA (by omega),AA (by omega)]
 ·intro k j a hk hj
  have hl:=hx _ (BN (d:=([]:List AH)) hk)
  simp only[HX]
  rw[AA (by omega),AA (by omega),AE (e:=(j:Int)+1) (by omega) (by omega)]
  by_cases ha:a=true
  ·rw[AA ha,AA ha]
  ·rw[AD ha,AD ha]
 ·intro k a hk
  simp only[HX]
  rw[AD (by omega),AE (by omega) (by omega)]
 ·simp only
  rw[AD (by omega),he];rfl
theorem vD {n:Int}:∀ (l:List AH) (b0:Bool),l.foldl (fun b i=>if b=true then true else decide (i.1≥n)) b0=true↔b0=true\/∃ i∈l,i.1≥n
 | [],b0=>by simp
 |a::r,b0=>by
  rw[kE,vD r]
  cases b0 with
  |true=>simp
  |false=>
   simp only[VF,KA,JL,false_or,GA]
   constructor
   ·rintro (h|⟨i,h1,h2⟩)
    ·exact⟨a,.inl rfl,h⟩
    ·exact⟨i,.inr h1,h2⟩
   ·rintro⟨i,rfl|h1,h2⟩
    ·exact .inl h2
    ·exact .inr ⟨i,h1,h2⟩
theorem AL6 {c:Cf} (ca:Ca c) {s:Sp} {q:Rows} (hq:q.length<=1000000) (QQ:∀ x∈q,x.length<=9223372036854775807) (n k:Int):
  (yV c s q n k/\FM c s q n k=some ((F3 c s q n k).1,(F3 c s q n k).2,0))\/(¬yV c s q n k/\FM c s q n k=some (0,(0,0,0,0,0),1)):=by
 have bad:=yY (c:=c) (s:=s) hq QQ n k true (r:=((0,(0,0,0,0,0),1):Int×AH×Int)) (by rw[AA ((vD _ _).2 (.inl rfl))])
 unfold FM
 rw[iB ca.n ca.sz ca.sh,AZ]
 by_cases c1:UZ c=0
 rotate_left
 ·rw[AA c1];exact .inr ⟨fun h=>c1 h.1.UZ,bad⟩
 have g:=AO4 c1
 rw[AD (H_ c1)]
 obtain⟨b,WU,uJ⟩:=AQ2 (s:=s) (q:=q) QQ
 rw[WU,AZ]
 by_cases c2:BV s q
 rotate_left
 ·have:b=false:=by
   cases b with
   |true=>exact absurd (uJ.1 rfl) c2
   |false=>rfl
  rw[AA (by rw[this];decide)];exact .inr ⟨fun h=>c2 h.2.1,bad⟩
 have hbt:=uJ.2 c2
 have hx:q.flatten.length<=1000000:=by
  have:=count_le c2.vs c2.ok.fit c2.ok.nodup
  omega
 rw[AD (by rw[hbt];decide)]
 by_cases c3:(q.length:Int)=(c.2.1.length:Int)
 rotate_left
 ·rw[AA c3];exact .inr ⟨fun h=>c3 (by have:=h.2.2.1;omega),bad⟩
 rw[AD (H_ c3)]
 by_cases c4:n<0
 ·rw[AA c4];exact .inr ⟨fun h=>by have:=h.2.2.2.1;omega,bad⟩
 rw[AD c4]
 by_cases c5:n>4294967295
 ·rw[AA c5];exact .inr ⟨fun h=>by have:=h.2.2.2.1;omega,bad⟩
 rw[AD c5]
 by_cases c6:k<1
 ·rw[AA c6];exact .inr ⟨fun h=>by have:=h.2.2.2.2.1;omega,bad⟩
 rw[AD c6]
 by_cases c7:k>48\/∃ i∈q.flatten,i.1≥n
 ·refine .inr ⟨fun h=> ?_,yY hq QQ n k (decide (k>48)) (by rw[AA ((vD _ _).2 (by rcases c7 with h|h;exact .inl (IV h);exact .inr h))])⟩
  rcases c7 with h1|⟨i,h1,h2⟩
  ·have:=h.2.2.2.2.1;omega
  ·have:=h.2.2.2.2.2 i h1;omega
 ·refine .inl ⟨⟨g,c2,by omega,by omega,⟨by omega,AC9 fun h=>c7 (.inl (by omega))⟩,fun i hi=>AC9 fun h=>c7 (.inr ⟨i,hi,by omega⟩)⟩,yY hq QQ n k (decide (k>48)) (by rw[AD (fun hh=>c7 (by rcases (vD _ _).1 hh with h|h;exact .inl (MM h);exact .inr h)),vA g c2.qq c2.n.1 (by omega) (AC9 fun h=>c7 (.inl (by omega))),AZ])⟩
theorem rP {q:Rows} (hq:q.length<=9223372036854775807):∃ b,DB q=some b/\(b=true->q.length<=8):=by
 unfold DB
 refine AO (fun k (st:Int×Int)=>k<=q.length/\st.2=(k:Int)) (fun b=>b=true->q.length<=8) q.length ?_ ?_ (s:=(0,0)) ⟨by omega,rfl⟩
 ·rintro k ⟨a,st⟩ hk ⟨_,h⟩
  simp only at h ⊢
  subst h
  rw[AA (by omega),AA (by omega),AE (e:=(k:Int)+1) (by omega) (by omega)]
  exact .inl ⟨_,rfl,by omega,rfl⟩
 ·rintro⟨a,st⟩ ⟨_,h⟩
  simp only at h ⊢
  subst h
  rw[AD (by omega)]
  by_cases h8:(q.length:Int)<=8
  ·rw[AA h8];exact⟨_,rfl,fun _=>by omega⟩
  ·rw[AD h8];exact⟨_,rfl,fun h=>by cases h⟩
theorem RY {α β:Type} {d:α} {xs:List α} {f:Int->Option (Int ⊕ β)} {r:β} (hs:∀ (k:Nat) x,k<xs.length->x∈xs->gl d xs k=x->f (k:Int)=some (.inl ((k:Int)+1))) (he:f (xs.length:Int)=some (.inr r)):AI f 0=some r:=
 hO xs.length (fun k hk=>hs k _ hk (BN hk) rfl) he
abbrev cfT:Ty:= .pair .str A40
theorem AL7 {c:Cf} (w:Wf cfT c) (h1:c.2.1.length<=20) (h2:c.1.size<=300):Ca c:=by
 refine⟨by omega,by omega,fun b b0 b1=> ?_⟩
 exact (w.2.1.2 _ (BN (d:=((0,0,0,0):Ru)) (xs:=c.2.1) (k:=b.toNat) (by omega))).1
theorem JD:AU=some true:=by
 unfold AU
 obtain⟨c,hc,g⟩:=AEC (j:=2) (by decide) (p:=25) (by omega) (by omega)
 have e:DI (⟨#[102,105,120,101,100]⟩:ByteArray) 25=some (c,0):=hc
 have v:=pJ g (s:=3) (n:=16) (by omega) (by omega)
 rw[e,AZ,pK g (by omega) (by omega),AZ]
 have hd:=rO v (by omega) g (by simp) (k:=5) (by omega) (by omega)
 have hp:F3 c (WM c 3 16).2.1 (WM c 3 16).2.2.1 (WM c 3 16).2.2.2.1 5=(2,(0,0, -1, -1,0)):=by
  have hg:=g.n
  have h0:gl ([]:List AH) (List.replicate c.2.1.length []) 0=[]:=O4 (by omega)
  have hl:=(g.ru 0 (by omega) (by omega)).2.1
  unfold FX at hl
  unfold F3
  rw[AD (fun hh=>hh.1 h0),AD (fun hh=>by
   have h1:=hh.2
   have:((gl ([]:List AH) (WM c 3 16).2.2.1 0).length:Int)=0:=by rw[show gl ([]:List AH) (WM c 3 16).2.2.1 0=[] from h0];rfl
   have h2:=hh.1
   omega),AA]
  have tP:(List.replicate c.2.1.length ([]:List AH)).flatten=[]:=by simp
  unfold pR GrF QN
  simp only[tP]
  have hus:used (WM c 3 16).2.1=0:=by
   show used ((3,List.replicate ((16:Int)*sz 3).toNat 0#64,List.replicate (16:Int).toNat (-1, -1, -1)):Sp)=0
   decide+kernel
  rw[hus]
  have h1:cl (sz 3) (0+5)-cl (sz 3) 0=1:=by decide
  have h2:cl (sz 3) 0=0:=by decide
  have h3:lrg (sz 3) []=0:=rfl
  simp only[h2,h3,XV]
  have h1' :cl (sz 3) (0+5)-0=1:=by decide
  cases cmp c with
  |true=>exact .inr (.inl ⟨rfl,by decide⟩)
  |false=>exact .inr (.inr ⟨rfl,by decide,by decide⟩)
 rw[hp] at hd
 rw[hd]
 rfl
theorem mJ (y0:Cf) (w0:Wf cfT y0) (y1:Sp) (w1:Wf spT y1) (y2:Rows) (w2:Wf ASZ y2) (y3:List Int) (w3:Wf AH4 y3) (y4:Int) (w4:I64 y4) (y5:Int) (w5:I64 y5) (y6:Int) (w6:I64 y6) (y7:Int) (w7:I64 y7) (y8:Int) (w8:I64 y8):
  HG y0 y1 y2 y3 y4 y5 y6 y7 y8=some true:=by
 unfold HG
 rw[ATF,AZ]
 by_cases hsm:y1.2.1.length<=3000/\y1.2.2.length<=80
 rotate_left
 ·rw[AA (by simp [hsm]),JD];rfl
 rw[AD (by simp [hsm])]
 obtain⟨b,e0,hb⟩:=rP (q:=y2) w2.1
 rw[e0,AZ]
 by_cases WU:b=true
 rotate_left
 ·rw[AA (by simpa using WU),JD];rfl
 rw[AD (by simp [WU])]
 have hr8:=hb WU
 by_cases c1:(y0.2.1.length:Int)>20
 ·rw[AA c1,JD];rfl
 rw[AD c1]
 by_cases c2:(y0.1.size:Int)>300
 ·rw[AA c2,JD];rfl
 rw[AD c2]
 obtain⟨d,e1,hd⟩:=uX y3 w3.1
 obtain⟨c,h,g,d',e2,hp,_⟩:=vB hd
 obtain⟨v,_,hc,_,_,hfn⟩:=hp.ok
 rw[e1,AZ,e2,AZ]
 simp only
 have gc:Good h.1:=v.g
 have hg:=gc.n
 obtain⟨l1,l2,l3⟩:=v.hi.hb.lens
 have hn0:=v.hi.n0
 have hn1:=v.n1
 have hx6:∀ x∈h.2.2.1,x.length<=1000000:=fun x hx=>by have:=l3 x hx;omega
 have hca:∀ x∈[h.1,y0],Ca x:=by
  intro x hx
  simp only[GA,pU,cT] at hx
  rcases hx with rfl|rfl
  ·exact gc.ca
  ·exact AL7 w0 (by omega) (by omega)
 have lB:([h.1,y0]:List Cf).length=2:=rfl
 generalize ([h.1,y0]:List Cf)=XS at hca lB ⊢
 refine RY (xs:=XS) (d:=((⟨#[]⟩,[],0):Cf)) (fun k x hk hx hgx=> ?_) (by rw[AD (by omega),JD];rfl)
 simp only[HX]
 obtain⟨u,e4,hu,_⟩:=VS.spoilt v.vs y6 y7 y8
 rw[AA (by omega),AA (by omega),hgx,show (x.1,x.2)=x from rfl,e4,AZ]
 have hsp:∀ z∈([h.2.1,y1,u]:List Sp),StI z:=by
  intro z hz
  simp only[GA,pU,cT] at hz
  rcases hz with rfl|rfl|rfl
  ·exact v.vs.stI
  ·exact AX9 w1
  ·exact hu.stI (by omega)
 have hs3:([h.2.1,y1,u]:List Sp).length=3:=rfl
 generalize ([h.2.1,y1,u]:List Sp)=SS at hsp hs3 ⊢
 refine RY (xs:=SS) (d:=((0,[],[]):Sp)) (fun i s hi hs hgs=> ?_) (by rw[AD (by omega),AE (by omega) (by omega)])
 simp only[HX]
 rw[AA (by omega),AA (by omega),hgs,show (s.1,s.2)=s from rfl,YY (by omega) hx6,AZ,AA (by simp only[IC];omega)]
 have hys:∀ y∈([h.2.2.1,y2,h.2.2.1++ [[]]]:List Rows),y.length<=1000000/\∀ x∈y,x.length<=9223372036854775807:=by
  intro y hy
  simp only[GA,pU,cT] at hy
  rcases hy with rfl|rfl|rfl
  ·exact⟨by omega,fun x hx=>by have:=l3 x hx;omega⟩
  ·exact⟨by omega,fun x hx=>(w2.2 x hx).1⟩
  ·refine⟨by simp only[JK,IC];omega,fun x hx=> ?_⟩
   rcases FG.1 hx with hx|hx
   ·have:=l3 x hx;omega
   ·rw[HA.1 hx];simp
 have hy3:([h.2.2.1,y2,h.2.2.1++ [[]]]:List Rows).length=3:=rfl
 generalize ([h.2.2.1,y2,h.2.2.1++ [[]]]:List Rows)=QS at hys hy3 ⊢
 refine RY (xs:=QS) (d:=([]:Rows)) (fun j q hj hq hgq=> ?_) (by rw[AD (by omega),AE (by omega) (by omega)])
 simp only[HX]
 obtain⟨r1,f1,_⟩:=O9 y5 (m:=48) (by omega) (by omega)
 obtain⟨r2,f2,_⟩:=O9 y4 (m:=3) (by omega) (by omega)
 obtain⟨r3,f3,_⟩:=O9 y5 (m:=51) (by omega) (by omega)
 rw[AA (by omega),AA (by omega),hgq,f1,AZ,f2,AZ,f3,AZ]
 have hpl:∀ p∈([[y4,y5],[h.2.2.2.1,AG (1+r1)],[AG (h.2.2.2.1-r2),AG (r3-1)]]:List (List Int)),p.length=2:=by
  intro p hp
  simp only[GA,pU,cT] at hp
  rcases hp with rfl|rfl|rfl <;> rfl
 have hp3:([[y4,y5],[h.2.2.2.1,AG (1+r1)],[AG (h.2.2.2.1-r2),AG (r3-1)]]:List (List Int)).length=3:=rfl
 generalize ([[y4,y5],[h.2.2.2.1,AG (1+r1)],[AG (h.2.2.2.1-r2),AG (r3-1)]]:List (List Int))=PS at hpl hp3 ⊢
 refine RY (xs:=PS) (d:=([]:List Int)) (fun t p ht hp hgp=> ?_) (by rw[AD (by omega),AE (by omega) (by omega)])
 have hp2:=hpl p hp
 simp only[HX]
 have A7L:∃ v,C0 x s q (gl 0 p (0:Int).toNat) (gl 0 p (1:Int).toNat)=some v/\FM x s q (gl 0 p (0:Int).toNat) (gl 0 p (1:Int).toNat)=some v:=by
  obtain⟨q1,q2⟩:=hys q hq
  rcases yW (hca x hx) (hsp s hs) q1 q2 (gl 0 p (0:Int).toNat) (gl 0 p (1:Int).toNat) with ⟨d1,d2⟩|⟨d1,d2⟩ <;>
  rcases AL6 (hca x hx) (s:=s) q1 q2 (gl 0 p (0:Int).toNat) (gl 0 p (1:Int).toNat) with ⟨d3,d4⟩|⟨d3,d4⟩
  ·exact⟨_,d2,d4⟩
  ·exact absurd d1 d3
  ·exact absurd d3 d1
  ·exact⟨_,d2,d4⟩
 obtain⟨w,v1,v2⟩:=A7L
 rw[AA (by omega),AA (by omega),hgp,hp2,AA (by decide),AA (by decide),v1,AZ,AA (by decide),AA (by decide),v2,AZ,AD (H_ rfl),AD (by simp [Y5]),AD (H_ rfl),AE (e:=(t:Int)+1) (by omega) (by omega)]
namespace triggerDecides
open Go.ChangeShapes Go.WideShapes Go.ChangeAt Go.RowKit Go.V3
theorem own:ownKnob Tryz.prog.godebug=none:=by kernel_rfl
theorem laidOut:laidOutB Tryz.prog=true:=by kernel_rfl
set_option maxRecDepth 100000 in
theorem lifted (os:Os) (started:os.Started) (H:Type) (enc:TypeId×Value->H):
  ReturnsInHanded {} Tryz.checked os 3 .any (Rows.triggerDecidesSpec.pre6 enc Tryz.prog Tryz.f3 Rows.triggerDecidesRow.domain false) (Rows.triggerDecidesSpec.post enc Tryz.prog Tryz.f3 false true false false):=by
 refine returnsInHanded_of_change (C:=Tryz.checked) own started (by kernel_rfl) Tryz.func3
  (ChangeSpec.witness6 (enc:=enc) (C:=Tryz.checked) false ⟨#[], #[.agg #[.string ⟨#[]⟩,.slice none 0 0,.int .i64 0],.agg #[.int .i64 0,.slice none 0 0,.slice none 0 0],.slice none 0 0,.slice none 0 0,.int .i64 0,.int .i64 0,.int .i64 0,.int .i64 0,.int .i64 0],[]⟩ 8 (by kernel_rfl) (by kernel_rfl) (by kernel_rfl) (by kernel_rfl)) ?_
 intro W base args ds gs before yX hW A2F _
 have hT:xS nX W:=xS.nil W
 have I1:∀ (j:Nat) t v,Tryz.f3.params[j]? =some t->args[j]? =some v->Value.okWide Tryz.prog W .any base t v:=yX
 have hW' :=hW
 obtain⟨p,q,hA0,hV,rfl,hfz,JE⟩:=hW
 have hA:DataW.TrodAll enc Tryz.prog W 0 (fun _=>true) true Tryz.f3.params.toList args.toList ds p:=hA0
 rw[Tryz.params3] at hA I1
 obtain⟨v0,vs0,d0,ds0,p0,q0,MA,rfl,rfl,h0,r0⟩:=trodAll_cons hA
 obtain⟨v1,vs1,d1,ds1,p1,q1,rfl,rfl,rfl,h1,r1⟩:=trodAll_cons r0
 obtain⟨v2,vs2,d2,ds2,p2,q2,rfl,rfl,rfl,h2,r2⟩:=trodAll_cons r1
 obtain⟨v3,vs3,d3,ds3,p3,q3,rfl,rfl,rfl,h3,r3⟩:=trodAll_cons r2
 obtain⟨v4,vs4,d4,ds4,p4,q4,rfl,rfl,rfl,h4,r4⟩:=trodAll_cons r3
 obtain⟨v5,vs5,d5,ds5,p5,q5,rfl,rfl,rfl,h5,r5⟩:=trodAll_cons r4
 obtain⟨v6,vs6,d6,ds6,p6,q6,rfl,rfl,rfl,h6,r6⟩:=trodAll_cons r5
 obtain⟨v7,vs7,d7,ds7,p7,q7,rfl,rfl,rfl,h7,r7⟩:=trodAll_cons r6
 obtain⟨v8,vs8,d8,ds8,p8,q8,rfl,rfl,rfl,h8,r8⟩:=trodAll_cons r7
 obtain⟨rfl,rfl,rfl⟩:=trodAll_nil r8
 obtain rfl:args= #[v0,v1,v2,v3,v4,v5,v6,v7,v8]:=by cases args;simp_all
 obtain⟨rfl,rfl⟩:=trodVars_none hV
 have k0:=h0
 have lt0:∀ x∈p0,x.block<W.heap.size:=by obtain⟨m,hm⟩:=k0;exact DataW.trod_lt m _ _ _ hm
 obtain⟨y0,R0,w0⟩:=LR 40 AT0 (by kernel_rfl) (I1 0 24 v0 rfl rfl) k0
 have k1:=h1
 have lt1:∀ x∈p1,x.block<W.heap.size:=by obtain⟨m,hm⟩:=k1;exact DataW.trod_lt m _ _ _ hm
 obtain⟨y1,R1,w1⟩:=LR 40 AH5 (by kernel_rfl) (I1 1 28 v1 rfl rfl) k1
 have k2:=h2
 have lt2:∀ x∈p2,x.block<W.heap.size:=by obtain⟨m,hm⟩:=k2;exact DataW.trod_lt m _ _ _ hm
 obtain⟨y2,R2,w2⟩:=LR 40 ASZ (by kernel_rfl) (I1 2 29 v2 rfl rfl) k2
 have k3:=h3
 have lt3:∀ x∈p3,x.block<W.heap.size:=by obtain⟨m,hm⟩:=k3;exact DataW.trod_lt m _ _ _ hm
 obtain⟨y3,R3,w3⟩:=LR 40 AH4 (by kernel_rfl) (I1 3 30 v3 rfl rfl) k3
 have k4:=h4
 have lt4:∀ x∈p4,x.block<W.heap.size:=by obtain⟨m,hm⟩:=k4;exact DataW.trod_lt m _ _ _ hm
 obtain⟨y4,R4,w4⟩:=LR 40 (.int .i64) (by kernel_rfl) (I1 4 3 v4 rfl rfl) k4
 have k5:=h5
 have lt5:∀ x∈p5,x.block<W.heap.size:=by obtain⟨m,hm⟩:=k5;exact DataW.trod_lt m _ _ _ hm
 obtain⟨y5,R5,w5⟩:=LR 40 (.int .i64) (by kernel_rfl) (I1 5 3 v5 rfl rfl) k5
 have k6:=h6
 have lt6:∀ x∈p6,x.block<W.heap.size:=by obtain⟨m,hm⟩:=k6;exact DataW.trod_lt m _ _ _ hm
 obtain⟨y6,R6,w6⟩:=LR 40 (.int .i64) (by kernel_rfl) (I1 6 3 v6 rfl rfl) k6
 have k7:=h7
 have lt7:∀ x∈p7,x.block<W.heap.size:=by obtain⟨m,hm⟩:=k7;exact DataW.trod_lt m _ _ _ hm
 obtain⟨y7,R7,w7⟩:=LR 40 (.int .i64) (by kernel_rfl) (I1 7 3 v7 rfl rfl) k7
 have k8:=h8
 have lt8:∀ x∈p8,x.block<W.heap.size:=by obtain⟨m,hm⟩:=k8;exact DataW.trod_lt m _ _ _ hm
 obtain⟨y8,R8,w8⟩:=LR 40 (.int .i64) (by kernel_rfl) (I1 8 3 v8 rfl rfl) k8
 have A9:=zP.nil W
 obtain⟨m8,A8⟩:=A9.cons (t:=(.int .i64)) (.inr ⟨rfl,GO (t:=3) rfl (I1 8 3 v8 rfl rfl)⟩) y8 R8
 obtain⟨m7,A7⟩:=A8.cons (t:=(.int .i64)) (.inr ⟨rfl,GO (t:=3) rfl (I1 7 3 v7 rfl rfl)⟩) y7 R7
 obtain⟨m6,A6⟩:=A7.cons (t:=(.int .i64)) (.inr ⟨rfl,GO (t:=3) rfl (I1 6 3 v6 rfl rfl)⟩) y6 R6
 obtain⟨m5,A5⟩:=A6.cons (t:=(.int .i64)) (.inr ⟨rfl,GO (t:=3) rfl (I1 5 3 v5 rfl rfl)⟩) y5 R5
 obtain⟨m4,A4⟩:=A5.cons (t:=(.int .i64)) (.inr ⟨rfl,GO (t:=3) rfl (I1 4 3 v4 rfl rfl)⟩) y4 R4
 obtain⟨m3,A3⟩:=A4.cons (t:=AH4) (.inr ⟨rfl,GO (t:=30) rfl (I1 3 30 v3 rfl rfl)⟩) y3 R3
 obtain⟨m2,A2⟩:=A3.cons (t:=ASZ) (.inr ⟨rfl,GO (t:=29) rfl (I1 2 29 v2 rfl rfl)⟩) y2 R2
 obtain⟨m1,A1⟩:=A2.cons (t:=AH5) (.inl ⟨rfl,ADD (t:=28) rfl (I1 1 28 v1 rfl rfl)⟩) y1 R1
 obtain⟨m0,A0⟩:=A1.cons (t:=AT0) (.inl ⟨rfl,ADD (t:=24) rfl (I1 0 24 v0 rfl rfl)⟩) y0 R0
 refine (nW (fi:=KN) RX hT (r:=(true:Bool)) (vals:= #[v0,v1,v2,v3,v4,v5,v6,v7,v8]) (w:=W) A0 (mJ y0 w0 y1 w1 y2 w2 y3 w3 y4 (LM w4) y5 (LM w5) y6 (LM w6) y7 (LM w7) y8 (LM w8)) (fun _=>rfl)).mono fun e W' ⟨he,uC⟩=> ?_
 subst he
 simp only[HH] at hW'
 exact⟨_,rfl,_,_,_,[],_,[],hW',trodAll_mk1 (shut_bool Tryz.underlying4 _),(trodAll_cons_mk (Below.trod laidOut (by kernel_rfl) (MM (by kernel_rfl)) k0 uC lt0) (trodAll_cons_mk (Below.trod laidOut (by kernel_rfl) (MM (by kernel_rfl)) k1 uC lt1) (trodAll_cons_mk (Below.trod laidOut (by kernel_rfl) (MM (by kernel_rfl)) k2 uC lt2) (trodAll_cons_mk (Below.trod laidOut (by kernel_rfl) (MM (by kernel_rfl)) k3 uC lt3) (trodAll_cons_mk (Below.trod laidOut (by kernel_rfl) (MM (by kernel_rfl)) k4 uC lt4) (trodAll_cons_mk (Below.trod laidOut (by kernel_rfl) (MM (by kernel_rfl)) k5 uC lt5) (trodAll_cons_mk (Below.trod laidOut (by kernel_rfl) (MM (by kernel_rfl)) k6 uC lt6) (trodAll_cons_mk (Below.trod laidOut (by kernel_rfl) (MM (by kernel_rfl)) k7 uC lt7) (trodAll_cons_mk (Below.trod laidOut (by kernel_rfl) (MM (by kernel_rfl)) k8 uC lt8) trodAll_mk0))))))))),rfl,uC.frame _,fun h=>by cases h⟩
theorem proved:Rows.TriggerDecidesSaid:=
 OpenClaim.holds_of_wide 3 Tryz.f3 rfl rfl rfl rfl rfl rfl rfl ⟨rfl,rfl,rfl,rfl,rfl⟩ rfl rfl rfl rfl rfl (by kernel_rfl) Tryz.func3 (by kernel_rfl)
  (MM (by kernel_rfl)) (by unfold Func.isWrapper;first|(rw[AA (by decide+kernel)];kernel_rfl)|(rw[AD (by decide+kernel)];exact⟨rfl,rfl⟩))
  (fun os started H enc _=>lifted os started H enc)
end triggerDecides
end Go.Proofs.YthmiilamegpllaaGreat
