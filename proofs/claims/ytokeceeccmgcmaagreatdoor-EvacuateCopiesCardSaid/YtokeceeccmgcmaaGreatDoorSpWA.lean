/- A law of the statements is proved here, without any condition. -/
import Derived.Test.YtokeceeccmgcmaaGreatDoorProg
import Derived.Test.YtokeceeccmgcmaaGreatDoorChecked
import Derived.KernelRfl
import Derived.Test.YtokeceeccmgcmaaGreatDoorHeaZ
import Derived.Test.YtokeceeccmgcmaaGreatDoorRows
import Derived.Test.YtokeceeccmgcmaaGreatDoorTie
import Derived.Test.YtokeceeccmgcmaaGreatDoorCards
import Derived.SevenTiedAt
set_option linter.unusedVariables false
set_option linter.unusedSimpArgs false
set_option maxRecDepth 100000
namespace Go.Proofs.YtokeceeccmgcmaaGreatDoor
open Go Go.V3
noncomputable section
def LB (a0:AP):Option Bool:=
if (a0.2.1.length:Int)<=3000 then
some (decide ((a0.2.2.length:Int)<=80))
else some (false)
@[reducible] def VA:FnI:=BP [DF] [HK] fun x=>LB x
def lJ:Cx:=BE [(1,(2,1))] [] [] [] []
theorem iB:CV 6 VA:=okW lJ [.tmp 2] 13 1 (BC AL.nil BA.nil) Tryz.func6
def zbf (r1:AP) (r2:Int):=gl ((0,0,0):AZ) r1.2.2 r2.toNat
def H4 (a0:AP) (a1:Int) (a2:Int) (a3:Int):Option AP:=
(BG a0).bind (fun r1=>
(DT a2 (r1.2.2.length:Int)).bind (fun r2=>
(DT a1 8).bind (fun r3=>
if r3=0 then
(DT a3 6).bind (fun r4=>
if 0<=r2/\r2<(r1.2.2.length:Int) then
some ((r1.1,r1.2.1,r1.2.2.set r2.toNat (AG (r4-2),((zbf r1 r2).2))))
else none)
else if r3=1 then
if 0<=r2/\r2<(r1.2.2.length:Int) then
(DT a3 4).bind (fun r5=>
if 0<=r5/\r5<(([1,(-1),4294967296,17179869184]:List Int).length:Int) then
if 0<=r2/\r2<(r1.2.2.length:Int) then
some ((r1.1,r1.2.1,r1.2.2.set r2.toNat ((zbf r1 r2).1,AG ((((zbf r1 r2).2).1)+(gl (0:Int) ([1,(-1),4294967296,17179869184]:List Int) r5.toNat)),((zbf r1 r2).2).2)))
else none
else none)
else none
else if r3=2 then
(DT a3 (AG ((r1.2.2.length:Int)+2))).bind (fun r6=>
if 0<=r2/\r2<(r1.2.2.length:Int) then
some ((r1.1,r1.2.1,r1.2.2.set r2.toNat ((zbf r1 r2).1,((zbf r1 r2).2).1,AG (r6-1))))
else none)
else if r3=3 then
(DT a2 (r1.2.1.length:Int)).bind (fun r7=>
if 0<=r7/\r7<(r1.2.1.length:Int) then
some ((r1.1,r1.2.1.set r7.toNat (BitVec.ofInt 64 a3),r1.2.2))
else none)
else if r3=4 then
if (r1.2.1.length+([0#64]:List (BitVec 64)).length)*8<=140737488355328 then
some ((r1.1,r1.2.1++([0#64]:List (BitVec 64)),r1.2.2))
else none
else if r3=5 then
(DT a3 3).bind (fun r8=>
some ((AG (r1.1+(AG (r8-1))),r1.2)))
else if r3=6 then
if 0<=r2/\r2<(r1.2.2.length:Int) then
some ((r1.1,r1.2.1,r1.2.2.set r2.toNat ((-1),(-1),(-1))))
else none
else some (r1))))
@[reducible] def T7:FnI:=BP [DF,AO,AO,AO] [PX] fun x=>H4 x.1 x.2.1 x.2.2.1 x.2.2.2
def iC:Cx:=BE [(4,(2,1)),(8,(3,1)),(9,(6,1)),(12,(4,2)),(38,(7,1)),(76,(8,1)),(77,(9,1))] [77] [(25,EZ),(26,QL)] [] []
theorem dK:CV 10 T7:=okW iC [.cell 8 25] 96 8 (BC (.cons FQ (.cons WG AL.nil)) BA.nil) Tryz.func10
end
variable {s:Sp}
theorem VS.stB (h:VS s):StB s 17179869184:=by
 intro i h0 h1
 rcases h.fr i h0 h1 with ⟨hf,_⟩|hu
 ·rw[show fr s.2.2 i=_ from hf];decide
 ·obtain⟨_,_,b,_,_,hb⟩:=hu.1;have:=hu.1.1;have:=hu.1.2.1;omega
theorem AR0 {b:Int} (hb0:0<=b) (hb:b<=1152921504606846976) (h:StB s b) (n0:1<=s.2.2.length) (n1:s.2.2.length<=1000) (w0:1<=s.2.1.length) (w1:s.2.1.length<=100000) (XU: -1000<=s.1/\s.1<=1000) (AVS at' by' :Int):
  ∃ u,H4 s AVS at' by' =some u/\StB u (b+17179869184)/\u.2.2.length=s.2.2.length/\s.2.1.length<=u.2.1.length/\u.2.1.length<=s.2.1.length+1/\(s.1-1<=u.1/\u.1<=s.1+1):=by
 unfold H4 zbf
 rw[ANK (by omega) (by omega)]
 simp only[AW]
 obtain⟨f,e1,f0,f1,_⟩:=gU at' (m:=s.2.2.length) (by omega) (by omega)
 rw[e1]
 simp only[AW]
 obtain⟨c,e2,c0,c1,_⟩:=gU AVS (m:=8) (by omega) (by omega)
 rw[e2]
 simp only[AW]
 have MO:gl ((0,0,0):Int×Int×Int) s.2.2 f.toNat=fr s.2.2 f:=rfl
 have hf:=h f f0 f1
 have same:StB s (b+17179869184):=fun i i0 i1=>by have:=h i i0 i1;omega
 by_cases h0:c=0
 ·rw[AA h0]
  obtain⟨x,e3,x0,x1,_⟩:=gU by' (m:=6) (by omega) (by omega)
  rw[e3]
  simp only[AW]
  rw[AA ⟨f0,f1⟩,MO]
  exact⟨_,rfl,h.set f0 f1 (by omega) (by simp only;omega),by simp,by simp,by simp,by simp only;omega⟩
 rw[AE h0]
 by_cases h1:c=1
 ·rw[AA h1,AA ⟨f0,f1⟩]
  obtain⟨x,e3,x0,x1,_⟩:=gU by' (m:=4) (by omega) (by omega)
  rw[e3]
  simp only[AW]
  rw[AA ⟨x0,by simpa using x1⟩,AA ⟨f0,f1⟩,MO]
  have hx: -1<=gl (0:Int) [1,(-1),4294967296,17179869184] x.toNat/\gl (0:Int) [1,(-1),4294967296,17179869184] x.toNat<=17179869184:=by
   have:x=0\/x=1\/x=2\/x=3:=by omega
   rcases this with rfl|rfl|rfl|rfl <;> simp [gl]
  rw[ah]
  exact⟨_,rfl,h.set f0 f1 (by omega) (by simp only;omega),by simp,by simp,by simp,by simp only;omega⟩
 rw[AE h1]
 by_cases h2:c=2
 ·rw[AA h2,ah (e:=(s.2.2.length:Int)+2)]
  obtain⟨x,e3,x0,x1,_⟩:=gU by' (m:=(s.2.2.length:Int)+2) (by omega) (by omega)
  rw[e3]
  simp only[AW]
  rw[AA ⟨f0,f1⟩,MO]
  exact⟨_,rfl,h.set f0 f1 (by omega) (by simp only;omega),by simp,by simp,by simp,by simp only;omega⟩
 rw[AE h2]
 by_cases h3:c=3
 ·rw[AA h3]
  obtain⟨x,e3,x0,x1,_⟩:=gU at' (m:=s.2.1.length) (by omega) (by omega)
  rw[e3]
  simp only[AW]
  rw[AA ⟨x0,x1⟩]
  exact⟨_,rfl,same,by simp,by simp,by simp,by simp only;omega⟩
 rw[AE h3]
 by_cases h4:c=4
 ·rw[AA h4,AA (by simp;omega)]
  exact⟨_,rfl,same,by simp,by simp,by simp,by simp only;omega⟩
 rw[AE h4]
 by_cases h5:c=5
 ·rw[AA h5]
  obtain⟨x,e3,x0,x1,_⟩:=gU by' (m:=3) (by omega) (by omega)
  rw[e3]
  simp only[AW]
  rw[ah (e:=x-1),ah]
  exact⟨_,rfl,same,by simp,by simp,by simp,by simp only;omega⟩
 rw[AE h5]
 by_cases h6:c=6
 ·rw[AA h6,AA ⟨f0,f1⟩]
  exact⟨_,rfl,h.set f0 f1 (by omega) (by simp only;omega),by simp,by simp,by simp,by simp only;omega⟩
 rw[AE h6]
 exact⟨_,rfl,same,rfl,by simp,by simp,by omega⟩
theorem VS.spoilt (h:VS s) (AVS at' by' :Int):∃ u,H4 s AVS at' by' =some u/\StB u 34359738368/\u.2.2.length=s.2.2.length/\s.2.1.length<=u.2.1.length/\u.2.1.length<=16385/\(2<=u.1/\u.1<=9):=by
 have hn:=h.n
 have hw:=h.w
 have W7:=VS.IK h
 have z:=MF h.sh
 have hm:(s.2.2.length:Int)*8<=s.2.2.length*sz s.1:=AOM (by omega) (by omega)
 have XU:=h.sh
 obtain⟨u,h1,h2,h3,h4,h5,h6⟩:=AR0 (by omega) (by omega) (VS.stB h) (by omega) (by omega) (by omega) (by omega) ⟨by omega,by omega⟩ AVS at' by'
 exact⟨u,h1,h2,h3,h4,by omega,by omega⟩
theorem AVT (s:Sp):LB s=some (decide (s.2.1.length<=3000/\s.2.2.length<=80)):=by
 unfold LB
 by_cases h:(s.2.1.length:Int)<=3000
 ·rw[AA h];congr 1;rw[jN,P5,P5];omega
 ·rw[AE h];congr 1;rw[jN,P5];simp;omega
abbrev spT:Ty:= .pair (.int .i64) (.pair ATC (.slice frT))
theorem A2W {x:Int} (h:Wf (.int .i64) x):I64 x:=iX h
theorem AYT (h:Wf spT s):StI s:=by
 intro i h0 h1
 have:=h.2.2.2 (fr s.2.2 i) (by unfold fr;exact B3 (by omega))
 exact (A2W this.2.1).2
end Go.Proofs.YtokeceeccmgcmaaGreatDoor
set_option maxRecDepth 100000
namespace Go.Proofs.YtokeceeccmgcmaaGreatDoor
open Go Go.V3
noncomputable section
end
noncomputable section
@[reducible] def VB:FnI:=BP [DF,RA,LJ,lY] [PX,eW,ANC,QK,CS] fun x=>G5 x.1 x.2.1 x.2.2.1 x.2.2.2
def lK:Cx:=BE [(4,(4,1)),(6,(5,1)),(8,(6,1)),(9,(7,1)),(15,(8,1)),(19,(10,1)),(20,(14,1)),(21,(17,1)),(80,(11,1)),(87,(9,1)),(106,(12,2)),(112,(15,2))] [] [(24,K3),(25,EZ),(35,G9),(36,N9),(37,N_),(38,PF)] [(0,B8 [(13,nA),(14,AO)] [] [] (E6 [(15,3),(19,1),(45,57)]) [] 8),(2,B8 [(13,nA),(89,AO)] [] [] (E6 [(19,1),(90,12)]) [] 10)] []
theorem iD:CV 12 VB:=okW lK [.cell 8 25,.cell 9 28,.tmp 10,.tmp 11,.tmp 12] 126 14 (BC (.cons OP (.cons FQ (.cons IU (.cons S3 (.cons S5 (.cons UQ AL.nil)))))) BA.nil) Tryz.func12
@[reducible] def OT:FnI:=BP [lY,lY] [HK] fun x=>IQ x.1 x.2
def lL:Cx:=BE [] [] [] [(0,B8 [(13,AO)] [] [] (E6 [(4,2),(14,12)]) [] 2)] []
theorem T8:CV 15 OT:=okW lL [.tmp 4] 26 0 (BC AL.nil BA.nil) Tryz.func15
@[reducible] def VC:FnI:=BP [DF,DF] [HK] fun x=>K9 x.1 x.2
def lM:Cx:=BE [(2,(4,1)),(3,(5,1))] [] [(15,OT)] [(0,B8 [(31,AO)] [] [] (E6 [(4,2),(32,14)]) [] 6)] []
theorem iE:CV 13 VC:=okW lM [.tmp 4] 46 2 (BC (.cons T8 AL.nil) BA.nil) Tryz.func13
def zbg (a0:AAO) (s1:Int):=gl ((0,0):(Int×Int)) a0 s1.toNat
def HF (a0:AAO) (a1:AAO):Option Bool:=
if ¬(a0.length:Int)=(a1.length:Int) then
some (false)
else AH (σ:=Int) (β:=Bool) (fun s1=>
if s1<(a0.length:Int) then
if 0<=s1/\s1<(a0.length:Int) then
if 0<=s1/\s1<(a1.length:Int) then
if (!(Z2 [decide (((zbg a0 s1).1)=((zbg a1 s1).1)),decide (((zbg a0 s1).2)=((zbg a1 s1).2))]))=true then
some (Sum.inr (false))
else some (Sum.inl (AG (s1+1)))
else none
else none
else some (Sum.inr (true))) (0)
@[reducible] def O5:FnI:=BP [ATI,ATI] [HK] fun x=>HF x.1 x.2
def YR:Cx:=BE [] [] [] [(0,B8 [(13,AO)] [] [] (E6 [(4,2),(14,12)]) [] 2)] []
theorem XL:CV 14 O5:=okW YR [.tmp 4] 26 0 (BC AL.nil BA.nil) Tryz.func14
def zbe (r6:((B7×AP×B0×Int×(List AS)×CC×Int×CR×Bool)×(List AD)×AD×FJ×EY)) (a2:AD) (s3:Int):=gl ((0,0,0,0,0):AD) ([r6.2.2.1,a2]:List AD) s3.toNat
def HL (a0:AP) (a1:(List AD)) (a2:AD) (a3:(List Int)) (a4:FJ) (a5:Int) (a6:Int) (a7:Int):Option Bool:=
(LB a0).bind (fun r1=>
if (!r1)=true then
(CU).bind (fun r2=>
some (r2))
else if (a1.length:Int)>12 then
(CU).bind (fun r3=>
some (r3))
else if (a4.length:Int)>60 then
(CU).bind (fun r4=>
some (r4))
else (IJ a3).bind (fun r5=>
(D7 r5).bind (fun r6=>
(H4 r6.1.2.1 a5 a6 a7).bind (fun r7=>
AH (σ:=Int) (β:=Bool) (fun s1=>
if s1<(([r6.1.2.1,a0,r7]:List AP).length:Int) then
if 0<=s1/\s1<(([r6.1.2.1,a0,r7]:List AP).length:Int) then
AH (σ:=Int) (β:=(Int ⊕ Bool)) (fun s2=>
if s2<(([r6.2.1,a1]:List (List AD)).length:Int) then
if 0<=s2/\s2<(([r6.2.1,a1]:List (List AD)).length:Int) then
AH (σ:=Int) (β:=(Int ⊕ (Int ⊕ Bool))) (fun s3=>
if s3<(([r6.2.2.1,a2]:List AD).length:Int) then
if 0<=s3/\s3<(([r6.2.2.1,a2]:List AD).length:Int) then
AH (σ:=Int) (β:=(Int ⊕ (Int ⊕ (Int ⊕ Bool)))) (fun s4=>
if s4<(([r6.2.2.2.1,a4]:List FJ).length:Int) then
if 0<=s4/\s4<(([r6.2.2.2.1,a4]:List FJ).length:Int) then
(D3 ((gl ((0,[],[]):AP) ([r6.1.2.1,a0,r7]:List AP) s1.toNat).1,((gl ((0,[],[]):AP) ([r6.1.2.1,a0,r7]:List AP) s1.toNat).2)) (gl ([]:(List AD)) ([r6.2.1,a1]:List (List AD)) s2.toNat) ((zbe r6 a2 s3).1,((zbe r6 a2 s3).2).1,(((zbe r6 a2 s3).2).2).1,((((zbe r6 a2 s3).2).2).2)) (gl ([]:FJ) ([r6.2.2.2.1,a4]:List FJ) s4.toNat)).bind (fun r8=>
(G5 ((gl ((0,[],[]):AP) ([r6.1.2.1,a0,r7]:List AP) s1.toNat).1,((gl ((0,[],[]):AP) ([r6.1.2.1,a0,r7]:List AP) s1.toNat).2)) (gl ([]:(List AD)) ([r6.2.1,a1]:List (List AD)) s2.toNat) ((zbe r6 a2 s3).1,((zbe r6 a2 s3).2).1,(((zbe r6 a2 s3).2).2).1,((((zbe r6 a2 s3).2).2).2)) (gl ([]:FJ) ([r6.2.2.2.1,a4]:List FJ) s4.toNat)).bind (fun r9=>
if ¬r8.2.2.2.2=r9.2.2.2.2 then
some (Sum.inr (Sum.inr (Sum.inr (Sum.inr (false)))))
else if (!(Z2 [decide (r8.2.1.1=r9.2.1.1),decide (r8.2.1.2.1=r9.2.1.2.1),decide (r8.2.1.2.2.1=r9.2.1.2.2.1),decide (r8.2.1.2.2.2.1=r9.2.1.2.2.2.1),decide (r8.2.1.2.2.2.2=r9.2.1.2.2.2.2)]))=true then
some (Sum.inr (Sum.inr (Sum.inr (Sum.inr (false)))))
else (K9 r8.1 r9.1).bind (fun ID=>
if (!ID)=true then
some (Sum.inr (Sum.inr (Sum.inr (Sum.inr (false)))))
else (HF r8.2.2.1 r9.2.2.1).bind (fun OC=>
if (!OC)=true then
some (Sum.inr (Sum.inr (Sum.inr (Sum.inr (false)))))
else (IQ r8.2.2.2.1 r9.2.2.2.1).bind (fun O8=>
if (!O8)=true then
some (Sum.inr (Sum.inr (Sum.inr (Sum.inr (false)))))
else some (Sum.inl (AG (s4+1))))))))
else none
else some (Sum.inr (Sum.inl (AG (s3+1))))) (0)
else none
else some (Sum.inr (Sum.inl (AG (s2+1))))) (0)
else none
else some (Sum.inr (Sum.inl (AG (s1+1))))) (0)
else none
else Option.map Sum.inr ((CU).bind (fun UZ=>
some (UZ)))) (0)))))
@[reducible] def KQ:FnI:=BP [DF,RA,LJ,SZ,lY,AO,AO,AO] [HK] fun x=>HL x.1 x.2.1 x.2.2.1 x.2.2.2.1 x.2.2.2.2.1 x.2.2.2.2.2.1 x.2.2.2.2.2.2.1 x.2.2.2.2.2.2.2
def T9:Cx:=BE [(8,(5,1)),(10,(6,1)),(17,(19,1)),(19,(20,1)),(22,(26,1)),(26,(30,1)),(29,(37,1)),(30,(38,1)),(34,(43,1)),(35,(44,1)),(55,(7,2)),(56,(9,10)),(69,(21,2)),(70,(23,1)),(75,(24,2)),(78,(27,1)),(83,(28,1)),(86,(29,1)),(94,(31,1)),(99,(32,1)),(105,(33,4)),(116,(39,4))] [] [(6,VA),(7,JF),(8,JG),(9,MG),(10,T7),(11,LM),(12,VB),(13,VC),(14,O5),(15,OT)] [(0,B8 [(72,AO)] [] [] (E6 [(16,1),(22,1),(24,1),(26,1),(28,11),(73,79)]) [] 24),(2,B8 [(80,AO)] [] [] (E6 [(16,1),(24,1),(26,1),(28,11),(81,70)]) [] 28),(4,B8 [(88,AO)] [] [] (E6 [(16,1),(26,1),(28,11),(89,61)]) [] 30),(6,B8 [(96,AO)] [] [] (E6 [(16,1),(28,11),(97,52)]) [] 32)] []
theorem SB:CV 3 KQ:=okW T9 [.tmp 16] 153 40 (BC (.cons iB (.cons L9 (.cons MA (.cons PD (.cons dK (.cons N2 (.cons iD (.cons iE (.cons XL (.cons T8 AL.nil)))))))))) BA.nil) Tryz.func3
end
theorem jJ {α β:Type} {d:α} {xs:List α} {f:Int->Option (Int ⊕ β)} {r:β} (hs:∀ (k:Nat) x,k<xs.length->x∈xs->gl d xs k=x->f (k:Int)=some (.inl ((k:Int)+1))) (he:f (xs.length:Int)=some (.inr r)):AH f 0=some r:=
 ZV xs.length (fun k hk=>hs k _ hk (B3 hk) rfl) he
theorem AA1 (a:List (Int×Int)) (ha:a.length<=1000000):HF a a=some true:=by
 unfold HF zbg
 rw[AE (by simp)]
 refine ZV a.length (fun k hk=> ?_) (by rw[af])
 rw[ab,ab,ab,AE (by simp [Z2]),ah]
theorem n5 (y0:Sp) (w0:Wf spT y0) (y1:List AI) (w1:Wf ACL y1) (y2:AI) (w2:Wf bS y2) (y3:List Int) (w3:Wf AHO y3) (y4:List (BitVec 64)) (w4:Wf ATC y4) (y5:Int) (w5:I64 y5) (y6:Int) (w6:I64 y6) (y7:Int) (w7:I64 y7):
  HL y0 y1 y2 y3 y4 y5 y6 y7=some true:=by
 unfold HL zbe
 rw[AVT,AW]
 by_cases hsm:y0.2.1.length<=3000/\y0.2.2.length<=80
 rotate_left
 ·rw[AA (by simp [hsm]),T6];rfl
 rw[AE (by simp [hsm])]
 by_cases c1:(y1.length:Int)>12
 ·rw[AA c1,T6];rfl
 rw[AE c1]
 by_cases c2:(y4.length:Int)>60
 ·rw[AA c2,T6];rfl
 rw[AE c2]
 obtain⟨d,e1,hd⟩:=AEW y3 w3.1
 obtain⟨h,cut,to,ws,d',e2,v,_,hQ,_⟩:=AFL hd
 rw[e1,AW,e2,AW]
 simp only
 obtain⟨l1,l2,l3⟩:=v.hi.hb.lens
 obtain⟨u,e4,hu,_⟩:=VS.spoilt v.vs y5 y6 y7
 rw[e4,AW]
 have hsp:∀ z∈([h.2.1,y0,u]:List Sp),StI z:=by
  intro z hz
  simp only[GH,wU,tS] at hz
  rcases hz with rfl|rfl|rfl
  ·exact v.vs.stI
  ·exact AYT w0
  ·exact hu.stI (by omega)
 have hs3:([h.2.1,y0,u]:List Sp).length=3:=rfl
 generalize ([h.2.1,y0,u]:List Sp)=SS at hsp hs3 ⊢
 refine jJ (xs:=SS) (d:=((0,[],[]):Sp)) (fun i s hi hs hgs=> ?_) (by rw[af,T6];rfl)
 simp only[HM]
 rw[ab,ab,hgs,show (s.1,s.2)=s from rfl]
 have hys:∀ y∈([h.2.2.1.flatten.take cut,y1]:List (List AI)),y.length<=1000000:=by
  intro y hy
  simp only[GH,wU,tS] at hy
  rcases hy with rfl|rfl
  ·rw[jM];omega
  ·omega
 have hy2:([h.2.2.1.flatten.take cut,y1]:List (List AI)).length=2:=rfl
 generalize ([h.2.2.1.flatten.take cut,y1]:List (List AI))=LS at hys hy2 ⊢
 refine jJ (xs:=LS) (d:=([]:List AI)) (fun j l hj hl hgl=> ?_) (by rw[af,ah])
 simp only[HM]
 rw[ab,ab,hgl]
 have ht2:([to,y2]:List AI).length=2:=rfl
 generalize ([to,y2]:List AI)=TS at ht2 ⊢
 refine jJ (xs:=TS) (d:=((0,0,0,0,0):AI)) (fun t x ht hx hgx=> ?_) (by rw[af,ah])
 simp only[HM]
 rw[ab,ab,hgx,show (x.1,x.2.1,x.2.2.1,x.2.2.2)=x from rfl]
 have hww:∀ y∈([ws,y4]:List FJ),y.length<=1000000:=by
  intro y hy
  simp only[GH,wU,tS] at hy
  rcases hy with rfl|rfl
  ·exact hQ
  ·omega
 have hw2:([ws,y4]:List FJ).length=2:=rfl
 generalize ([ws,y4]:List FJ)=WS at hww hw2 ⊢
 refine jJ (xs:=WS) (d:=([]:List (BitVec 64))) (fun k w hk hw hgw=> ?_) (by rw[af,ah])
 simp only[HM]
 have hw6:=hww w hw
 obtain⟨r,r1,r2,⟨b1,b2,b3,b4⟩,_⟩:=copy_eq (hsp s hs) (hys l hl) x hw6
 rw[ab,ab,hgw,r1,AW,r2,AW,AE (DQ rfl),AE (by simp [Z2]),APY _ (by omega) (by omega),AW,AE (by decide),AA1 _ (by omega),AW,AE (by decide),zJ _ (by omega),AW,AE (by decide),ah (e:=(k:Int)+1)]
namespace evacuateCopies
open Go.ChangeShapes Go.WideShapes Go.ChangeAt Go.RowKit Go.V3
theorem own:ownKnob Tryz.prog.godebug=none:=by kernel_rfl
theorem laidOut:laidOutB Tryz.prog=true:=by kernel_rfl
theorem door_met (os : Os) (args : Array Value) : laidMetH Tryz.prog [("math/bits.deBruijn64tab", Rows.laid_math_bits_deBruijn64tab)] ((World.doorLaid Tryz.prog 4000 os).forCall (fun _ _ => 0) ⟨#[], args, []⟩).memory :=
 laidMetH_of_parts3 (fuel:=8) (laidMet_of_run' 8 (by kernel_rfl) (by kernel_rfl)) (by kernel_rfl) (by kernel_rfl)
set_option maxRecDepth 100000 in
theorem lifted (os:Os) (started:os.Started) (H:Type) (enc:TypeId×Value->H):
  ReturnsInHanded {} Tryz.checked os 3 .any (fun w args => (Rows.evacuateCopiesSpec.pre enc Tryz.prog Tryz.f3 [] false w args ∧ laidMetH Tryz.prog [("math/bits.deBruijn64tab", Rows.laid_math_bits_deBruijn64tab)] w) ∧ sizedMet enc Tryz.prog Tryz.f3 (OpenSpec.ofChange Rows.evacuateCopiesSpec) false w args) (Rows.evacuateCopiesSpec.post enc Tryz.prog Tryz.f3 false true false false) := by
 refine returnsInHanded_of_change_and (C := Tryz.checked) (X := fun w _ => laidMetH Tryz.prog [("math/bits.deBruijn64tab", Rows.laid_math_bits_deBruijn64tab)] w) (fun _ _ _ hh h => h.of_heap hh) own started (by kernel_rfl) Tryz.func3
  (ChangeSpec.witness_shaped (enc := enc) (C := Tryz.checked) (os := os) (X := fun w _ => laidMetH Tryz.prog [("math/bits.deBruijn64tab", Rows.laid_math_bits_deBruijn64tab)] w) false (World.doorLaid Tryz.prog 4000 os) #[.agg #[.int .i64 0, .slice none 0 0, .slice none 0 0], .slice none 0 0, .agg #[.int .i64 0, .int .i64 0, .int .i64 0, .int .i64 0, .int .i64 0], .slice none 0 0, .slice none 0 0, .int .i64 0, .int .i64 0, .int .i64 0] 8 rfl (World.shaped_of_RefB (by kernel_rfl) (by kernel_rfl)) (by kernel_rfl) (by kernel_rfl) (by kernel_rfl) (door_met os _)) ?_
 intro W base args ds gs before AJ9 hW _ _ hL _
 have hT:AX9 vI W:=by
  intro q hq
  simp only[vI,GH,wU,tS] at hq
  subst hq
  exact eT (t:=159) hL (by kernel_rfl) (e:=5) (k:= .u8) (len:=64) (by kernel_rfl) (by kernel_rfl) (by kernel_rfl) (by kernel_rfl) (by kernel_rfl) (by kernel_rfl) [0,1,56,2,57,49,28,3,61,58,42,50,38,29,17,4,62,47,59,36,45,43,51,22,53,39,33,30,24,18,12,5,63,55,48,27,60,41,37,16,46,35,44,21,52,32,23,11,54,26,40,15,34,20,31,10,25,14,19,9,13,8,7,6] rfl
 have N7:∀ (j:Nat) t v,Tryz.f3.params[j]? =some t->args[j]? =some v->Value.okWide Tryz.prog W .any base t v:=AJ9
 have hW' :=hW
 obtain⟨p,q,hA0,hV,rfl,hfz,HN⟩:=hW
 have hA:DataW.TrodAll enc Tryz.prog W 0 (fun _=>true) true Tryz.f3.params.toList args.toList ds p:=hA0
 rw[Tryz.params3] at hA N7
 obtain⟨v0,vs0,d0,ds0,p0,q0,M8,rfl,rfl,h0,r0⟩:=trodAll_cons hA
 obtain⟨v1,vs1,d1,ds1,p1,q1,rfl,rfl,rfl,h1,r1⟩:=trodAll_cons r0
 obtain⟨v2,vs2,d2,ds2,p2,q2,rfl,rfl,rfl,h2,r2⟩:=trodAll_cons r1
 obtain⟨v3,vs3,d3,ds3,p3,q3,rfl,rfl,rfl,h3,r3⟩:=trodAll_cons r2
 obtain⟨v4,vs4,d4,ds4,p4,q4,rfl,rfl,rfl,h4,r4⟩:=trodAll_cons r3
 obtain⟨v5,vs5,d5,ds5,p5,q5,rfl,rfl,rfl,h5,r5⟩:=trodAll_cons r4
 obtain⟨v6,vs6,d6,ds6,p6,q6,rfl,rfl,rfl,h6,r6⟩:=trodAll_cons r5
 obtain⟨v7,vs7,d7,ds7,p7,q7,rfl,rfl,rfl,h7,r7⟩:=trodAll_cons r6
 obtain⟨rfl,rfl,rfl⟩:=trodAll_nil r7
 obtain rfl:args= #[v0,v1,v2,v3,v4,v5,v6,v7]:=by cases args;simp_all
 obtain⟨rfl,rfl⟩:=trodVars_none hV
 have k0:=h0
 have lt0:∀ x∈p0,x.block<W.heap.size:=by obtain⟨m,hm⟩:=k0;exact DataW.trod_lt m _ _ _ hm
 obtain⟨y0,R0,w0⟩:=handed 40 yW (by kernel_rfl) (N7 0 25 v0 rfl rfl) k0
 have k1:=h1
 have lt1:∀ x∈p1,x.block<W.heap.size:=by obtain⟨m,hm⟩:=k1;exact DataW.trod_lt m _ _ _ hm
 obtain⟨y1,R1,w1⟩:=handed 40 ACL (by kernel_rfl) (N7 1 26 v1 rfl rfl) k1
 have k2:=h2
 have lt2:∀ x∈p2,x.block<W.heap.size:=by obtain⟨m,hm⟩:=k2;exact DataW.trod_lt m _ _ _ hm
 obtain⟨y2,R2,w2⟩:=handed 40 bS (by kernel_rfl) (N7 2 28 v2 rfl rfl) k2
 have k3:=h3
 have lt3:∀ x∈p3,x.block<W.heap.size:=by obtain⟨m,hm⟩:=k3;exact DataW.trod_lt m _ _ _ hm
 obtain⟨y3,R3,w3⟩:=handed 40 AHO (by kernel_rfl) (N7 3 29 v3 rfl rfl) k3
 have k4:=h4
 have lt4:∀ x∈p4,x.block<W.heap.size:=by obtain⟨m,hm⟩:=k4;exact DataW.trod_lt m _ _ _ hm
 obtain⟨y4,R4,w4⟩:=handed 40 ATC (by kernel_rfl) (N7 4 22 v4 rfl rfl) k4
 have k5:=h5
 have lt5:∀ x∈p5,x.block<W.heap.size:=by obtain⟨m,hm⟩:=k5;exact DataW.trod_lt m _ _ _ hm
 obtain⟨y5,R5,w5⟩:=handed 40 (.int .i64) (by kernel_rfl) (N7 5 3 v5 rfl rfl) k5
 have k6:=h6
 have lt6:∀ x∈p6,x.block<W.heap.size:=by obtain⟨m,hm⟩:=k6;exact DataW.trod_lt m _ _ _ hm
 obtain⟨y6,R6,w6⟩:=handed 40 (.int .i64) (by kernel_rfl) (N7 6 3 v6 rfl rfl) k6
 have k7:=h7
 have lt7:∀ x∈p7,x.block<W.heap.size:=by obtain⟨m,hm⟩:=k7;exact DataW.trod_lt m _ _ _ hm
 obtain⟨y7,R7,w7⟩:=handed 40 (.int .i64) (by kernel_rfl) (N7 7 3 v7 rfl rfl) k7
 have A8:=AE6.nil W
 obtain⟨m7,A7⟩:=A8.cons (t:=(.int .i64)) (.inr ⟨rfl,PV (t:=3) rfl (N7 7 3 v7 rfl rfl)⟩) y7 R7
 obtain⟨m6,A6⟩:=A7.cons (t:=(.int .i64)) (.inr ⟨rfl,PV (t:=3) rfl (N7 6 3 v6 rfl rfl)⟩) y6 R6
 obtain⟨m5,A5⟩:=A6.cons (t:=(.int .i64)) (.inr ⟨rfl,PV (t:=3) rfl (N7 5 3 v5 rfl rfl)⟩) y5 R5
 obtain⟨m4,A4⟩:=A5.cons (t:=ATC) (.inr ⟨rfl,PV (t:=22) rfl (N7 4 22 v4 rfl rfl)⟩) y4 R4
 obtain⟨m3,A3⟩:=A4.cons (t:=AHO) (.inr ⟨rfl,PV (t:=29) rfl (N7 3 29 v3 rfl rfl)⟩) y3 R3
 obtain⟨m2,A2⟩:=A3.cons (t:=bS) (.inl ⟨rfl,AN9 (t:=28) rfl (N7 2 28 v2 rfl rfl)⟩) y2 R2
 obtain⟨m1,A1⟩:=A2.cons (t:=ACL) (.inr ⟨rfl,PV (t:=26) rfl (N7 1 26 v1 rfl rfl)⟩) y1 R1
 obtain⟨m0,A0⟩:=A1.cons (t:=yW) (.inl ⟨rfl,AN9 (t:=25) rfl (N7 0 25 v0 rfl rfl)⟩) y0 R0
 refine (yV (fi:=KQ) SB hT (r:=(true:Bool)) (vals:= #[v0,v1,v2,v3,v4,v5,v6,v7]) (w:=W) A0 (n5 y0 w0 y1 w1 y2 w2 y3 w3 y4 w4 y5 (iX w5) y6 (iX w6) y7 (iX w7)) (fun _=>rfl)).mono fun e W' ⟨he,bel⟩=> ?_
 subst he
 simp only[FP] at hW'
 exact⟨_,rfl,_,_,_,[],_,[],hW',trodAll_mk1 (shut_bool Tryz.underlying4 _),(trodAll_cons_mk (Below.trod laidOut (by kernel_rfl) (SJ (by kernel_rfl)) k0 bel lt0) (trodAll_cons_mk (Below.trod laidOut (by kernel_rfl) (SJ (by kernel_rfl)) k1 bel lt1) (trodAll_cons_mk (Below.trod laidOut (by kernel_rfl) (SJ (by kernel_rfl)) k2 bel lt2) (trodAll_cons_mk (Below.trod laidOut (by kernel_rfl) (SJ (by kernel_rfl)) k3 bel lt3) (trodAll_cons_mk (Below.trod laidOut (by kernel_rfl) (SJ (by kernel_rfl)) k4 bel lt4) (trodAll_cons_mk (Below.trod laidOut (by kernel_rfl) (SJ (by kernel_rfl)) k5 bel lt5) (trodAll_cons_mk (Below.trod laidOut (by kernel_rfl) (SJ (by kernel_rfl)) k6 bel lt6) (trodAll_cons_mk (Below.trod laidOut (by kernel_rfl) (SJ (by kernel_rfl)) k7 bel lt7) trodAll_mk0)))))))),rfl,bel.frame _,fun h=>by cases h⟩
theorem proved:Rows.EvacuateCopiesSaid:=
 OpenClaim.holds_of_wide 3 Tryz.f3 rfl rfl rfl rfl rfl rfl rfl ⟨rfl,rfl,rfl,rfl,rfl⟩ rfl rfl rfl rfl rfl (by kernel_rfl) Tryz.func3 (by kernel_rfl)
  (SJ (by kernel_rfl)) (by unfold Func.isWrapper;first|(rw[AA (by decide+kernel)];kernel_rfl)|(rw[AE (by decide+kernel)];exact⟨rfl,rfl⟩))
  (fun os started H enc _=>lifted os started H enc)
theorem card:Rows.EvacuateCopiesCardSaid:=
 Claim7.holds_tied_plain_at .later [] [.data] true (true, "ecda925fbeafc6d8cc564c794288da2c955dde13545da6f8441126fa7e0268e8") false proved (fun _ h => by cases h) (by kernel_rfl) (fun _ h => by cases h) evacuateCopies_row_tie rfl ⟨rfl, rfl⟩ (by kernel_rfl) rfl
  (fun f fn hf hfn=>by
   obtain rfl : f = 3 := Option.some.inj ((show Tryz.prog.funcNamed "beltway/beltwaylaw23.EvacuateCopies" = some 3 by kernel_rfl).symm.trans hf) |>.symm
   obtain rfl:fn=Tryz.f3:=(HO (Tryz.func3.symm.trans hfn)).symm
   exact⟨by kernel_rfl,fun j t ht=>by
    rw[Tryz.params3] at ht
    have hm:t∈[25,26,28,29,22,3,3,3]:=by simpa using ARC ht
    have QF:([25,26,28,29,22,3,3,3].all fun u=> !Tryz.prog.wantsStandIn u)=true:=by kernel_rfl
    exact (show Tryz.prog.wantsStandIn t=false by simpa using KI.1 QF t hm)⟩)
  (by kernel_rfl)
end evacuateCopies
end Go.Proofs.YtokeceeccmgcmaaGreatDoor
