import Derived.Test.YthmiilamegpllaaGreatV3P
set_option linter.unusedVariables false
set_option linter.unusedSimpArgs false
set_option maxRecDepth 100000
namespace Go.Proofs.YthmiilamegpllaaGreat
open Go Go.V3
noncomputable section
def LO (s:ByteArray):Option Bool:=
if (s.size:Int)<1 then
some (false)
else if (s.size:Int)>16 then
some (false)
else if 0<=(0:Int)/\(0:Int)<(s.size:Int) then
if (LB s ((0:Int).toNat))<97 then
some (false)
else if 0<=(0:Int)/\(0:Int)<(s.size:Int) then
if (LB s ((0:Int).toNat))>122 then
some (false)
else AI (σ:=Nat) (β:=Bool) (fun p=>
cond (decide (p<s.size)) (if ((Utf8.decode s p).1:Int)<97 then
if ((Utf8.decode s p).1:Int)<48 then
if ¬((Utf8.decode s p).1:Int)=45 then
some (Sum.inr (false))
else some (Sum.inl (p+(Utf8.decode s p).2))
else if ((Utf8.decode s p).1:Int)>57 then
if ¬((Utf8.decode s p).1:Int)=45 then
some (Sum.inr (false))
else some (Sum.inl (p+(Utf8.decode s p).2))
else some (Sum.inl (p+(Utf8.decode s p).2))
else if ((Utf8.decode s p).1:Int)>122 then
if ((Utf8.decode s p).1:Int)<48 then
if ¬((Utf8.decode s p).1:Int)=45 then
some (Sum.inr (false))
else some (Sum.inl (p+(Utf8.decode s p).2))
else if ((Utf8.decode s p).1:Int)>57 then
if ¬((Utf8.decode s p).1:Int)=45 then
some (Sum.inr (false))
else some (Sum.inl (p+(Utf8.decode s p).2))
else some (Sum.inl (p+(Utf8.decode s p).2))
else some (Sum.inl (p+(Utf8.decode s p).2)))
(some (Sum.inr (true)))) 0
else none
else none
@[reducible] def eG:FnI:=BK [A14] [lP] fun x=>LO x
def P7:Cx:=BE [] [] [] [] []
theorem x5:(fun s=>LO s)=fun s=>rk Tryz.prog P7 (sq1 (Tryz.f64.body.getD .skip)) Bool 1000000 (fun e fr L=>match e with
 | .normal=>rk Tryz.prog P7 (sq1 (sQ (Tryz.f64.body.getD .skip))) Bool 1000000 (fun e fr _=>match e with
  | .normal=>AMU Tryz.prog P7 (sQ (lpC (AWX (sQ (sq1 (sQ (sQ (Tryz.f64.body.getD .skip)))))))) (sQ (sQ (sQ (Tryz.f64.body.getD .skip)))) [2,4,24,25,26,27,28,29,30,31,32,33,34,35,36,37,38,39,40,41,42,43,44,45] 0 (fr.set 23 (.str s)) s
  | .ret=>AH1 fr
  |_=>none) fr L
 |_=>none) (.str s::List.replicate (46-1) AW) []:=by kernel_rfl
theorem tW:CallsV Tryz.prog nX 64 eG:=
 AKC (cx:=P7) (BD AM.nil A_.nil) (fn:=Tryz.f64) (r0:=(sq1 (Tryz.f64.body.getD .skip))) (pre:=(sq1 (sQ (Tryz.f64.body.getD .skip)))) (rest:=(sQ (lpC (AWX (sQ (sq1 (sQ (sQ (Tryz.f64.body.getD .skip))))))))) (tail:=(sQ (sQ (sQ (Tryz.f64.body.getD .skip))))) (i3:=3) (i4:=4) (MC:=0) (n:=46) (o1:=AWY (sq1 (sq1 (sQ (sQ (Tryz.f64.body.getD .skip))))) 0) (o2:=AWY (sq1 (sq1 (sQ (sQ (Tryz.f64.body.getD .skip))))) 1) (o3:=AWY (sq1 (lpC (AWX (sQ (sq1 (sQ (sQ (Tryz.f64.body.getD .skip)))))))) 0) (o4:=AWY (sq1 (lpC (AWX (sQ (sq1 (sQ (sQ (Tryz.f64.body.getD .skip)))))))) 1) (t:=9) (W:=[2,4,24,25,26,27,28,29,30,31,32,33,34,35,36,37,38,39,40,41,42,43,44,45]) (F:=LO)
  Tryz.func64 (by kernel_rfl) (by kernel_rfl) rfl (by decide) (by kernel_rfl) ⟨by kernel_rfl,by kernel_rfl,by kernel_rfl⟩ ⟨by kernel_rfl,by kernel_rfl,by kernel_rfl⟩ (by kernel_rfl) ⟨by kernel_rfl,by kernel_rfl,by kernel_rfl⟩ ⟨by kernel_rfl,by kernel_rfl,by kernel_rfl⟩ (by kernel_rfl) (by kernel_rfl) (fun s=>congrFun x5 s)
def H2 (a0:(BitVec 64)):Option Int:=
if True then
qF ((a0 >>> (1#64).toNat) &&& (6148914691236517205#64)) (fun (v1:BitVec 64)=>
qF (a0 &&& (6148914691236517205#64)) (fun (v2:BitVec 64)=>
if True then
qF (((v1+v2) >>> (2#64).toNat) &&& (3689348814741910323#64)) (fun (v3:BitVec 64)=>
qF ((v1+v2) &&& (3689348814741910323#64)) (fun (v4:BitVec 64)=>
if True then
qF (((v3+v4) >>> (4#64).toNat)+(v3+v4)) (fun (v5:BitVec 64)=>
qF (v5 &&& (1085102592571150095#64)) (fun (v6:BitVec 64)=>
if True then
if True then
qF ((v6+(v6 >>> (8#64).toNat)) >>> (16#64).toNat) (fun (v7:BitVec 64)=>
qF ((v6+(v6 >>> (8#64).toNat))+v7) (fun (v8:BitVec 64)=>
if True then
qF (AG (((v8+(v8 >>> (32#64).toNat)).toNat:Int))) (fun (v9:Int)=>
some (AAL .and v9 127))
else none))
else none
else none))
else none))
else none))
else none
@[reducible] def PE:FnI:=BK [aU] [CY] fun x=>H2 x
def YH:Cx:={ nm:=[],CK:=[],fns:=ADC [],loops:=[],aQ:=[],tb:=nX,exts:=[],lets:=[5,7,11,13,18,19,26,27,33] }
theorem XK:CV 115 PE:=okW YH [.tmp 2] 35 0 (BD AM.nil A_.nil) Tryz.func115
def JT (a0:ByteArray):Option Bool:=
AI (σ:=Int) (β:=Bool) (fun s1=>
if s1<(a0.size:Int) then
if 0<=s1/\s1<(a0.size:Int) then
if (LB a0 s1.toNat)≥97 then
if ¬((LB a0 s1.toNat)<=122) then
if s1=0 then
some (Sum.inr (false))
else if ¬(LB a0 s1.toNat)=45 then
if (LB a0 s1.toNat)<48 then
some (Sum.inr (false))
else if (LB a0 s1.toNat)>57 then
some (Sum.inr (false))
else some (Sum.inl (AG (s1+1)))
else some (Sum.inl (AG (s1+1)))
else some (Sum.inl (AG (s1+1)))
else if s1=0 then
some (Sum.inr (false))
else if ¬(LB a0 s1.toNat)=45 then
if (LB a0 s1.toNat)<48 then
some (Sum.inr (false))
else if (LB a0 s1.toNat)>57 then
some (Sum.inr (false))
else some (Sum.inl (AG (s1+1)))
else some (Sum.inl (AG (s1+1)))
else none
else Option.map Sum.inr (if (a0.size:Int)≥1 then
some (decide ((a0.size:Int)<=16))
else some (false))) (0)
@[reducible] def S3:FnI:=BK [A14] [FN] fun x=>JT x
def eH:Cx:=BE [] [] [] [(0,B8 [(3,AP)] [] [] (FI [(2,1),(4,35)]) [] 0)] []
theorem bP:CV 77 S3:=okW eH [.tmp 2] 47 0 (BD AM.nil A_.nil) Tryz.func77
def JU (a0:Nat):Option Bool:=
if a0<18446744073709551616 then
if (BitVec.ofNat 64 a0)=(0#64) then
some (true)
else if DJ a0 0=some .gt then
some (decide (DJ a0 4607182418800017408=some .lt\/DJ a0 4607182418800017408=some .eq))
else some (false)
else none
@[reducible] def M6:FnI:=BK [zR] [FN] fun x=>JU x
def eI:Cx:={ nm:=[],CK:=[],fns:=ADC [],loops:=[],aQ:=[],tb:=nX,exts:=[(81,.U3)],lets:=[] }
theorem AT5:A_ Tryz.prog 81 .U3:=⟨Tryz.f81,Tryz.func81,by kernel_rfl,by kernel_rfl,by kernel_rfl,by kernel_rfl⟩
theorem Q0:CV 78 M6:=okW eI [.tmp 2] 14 0 (BD AM.nil (.cons AT5 A_.nil)) Tryz.func78
def DA (a0:D7):Option Int:=
Option.bind (JT a0.1) (fun r1=>
if (!r1)=true then
some (7)
else if (a0.2.1.length:Int)<1 then
some (8)
else if (a0.2.1.length:Int)>4 then
some (8)
else if (List.replicate 4 (false:Bool)).length=4 then
AI (σ:=(Int×(List Bool))) (β:=Int) (fun s1=>
if s1.1<(a0.2.1.length:Int) then
if 0<=s1.1/\s1.1<(a0.2.1.length:Int) then
Option.bind (JU ((gl ((0,0,0,0):AJ) a0.2.1 s1.1.toNat).1)) (fun r2=>
if (!r2)=true then
some (Sum.inr (6))
else if (((gl ((0,0,0,0):AJ) a0.2.1 s1.1.toNat).2).1)<0 then
some (Sum.inr (9))
else if (((gl ((0,0,0,0):AJ) a0.2.1 s1.1.toNat).2).1)>64 then
some (Sum.inr (9))
else if ((((gl ((0,0,0,0):AJ) a0.2.1 s1.1.toNat).2).2).1)<0 then
some (Sum.inr (9))
else if ((((gl ((0,0,0,0):AJ) a0.2.1 s1.1.toNat).2).2).1)>64 then
some (Sum.inr (9))
else if s1.1=(AG ((a0.2.1.length:Int)-1)) then
if ¬(((gl ((0,0,0,0):AJ) a0.2.1 s1.1.toNat).2).1)=0 then
some (Sum.inr (9))
else if s1.1=(AG ((a0.2.1.length:Int)-1)) then
if ¬((((gl ((0,0,0,0):AJ) a0.2.1 s1.1.toNat).2).2).2)=s1.1 then
some (Sum.inr (10))
else if ¬(s1.1=(AG ((a0.2.1.length:Int)-1))) then
if ((((gl ((0,0,0,0):AJ) a0.2.1 s1.1.toNat).2).2).2)<=s1.1 then
some (Sum.inr (10))
else if ((((gl ((0,0,0,0):AJ) a0.2.1 s1.1.toNat).2).2).2)≥(a0.2.1.length:Int) then
some (Sum.inr (10))
else if ¬(s1.1=(AG ((a0.2.1.length:Int)-1))) then
if (0<=((((gl ((0,0,0,0):AJ) a0.2.1 s1.1.toNat).2).2).2)/\((((gl ((0,0,0,0):AJ) a0.2.1 s1.1.toNat).2).2).2)<((4:Nat):Int))/\((((gl ((0,0,0,0):AJ) a0.2.1 s1.1.toNat).2).2).2)<(s1.2.length:Int) then
some (Sum.inl ((AG (s1.1+1),s1.2.set (((((gl ((0,0,0,0):AJ) a0.2.1 s1.1.toNat).2).2).2).toNat) true)))
else none
else some (Sum.inl ((AG (s1.1+1),s1.2)))
else if ¬(s1.1=(AG ((a0.2.1.length:Int)-1))) then
if (0<=((((gl ((0,0,0,0):AJ) a0.2.1 s1.1.toNat).2).2).2)/\((((gl ((0,0,0,0):AJ) a0.2.1 s1.1.toNat).2).2).2)<((4:Nat):Int))/\((((gl ((0,0,0,0):AJ) a0.2.1 s1.1.toNat).2).2).2)<(s1.2.length:Int) then
some (Sum.inl ((AG (s1.1+1),s1.2.set (((((gl ((0,0,0,0):AJ) a0.2.1 s1.1.toNat).2).2).2).toNat) true)))
else none
else some (Sum.inl ((AG (s1.1+1),s1.2)))
else if ¬(s1.1=(AG ((a0.2.1.length:Int)-1))) then
if ((((gl ((0,0,0,0):AJ) a0.2.1 s1.1.toNat).2).2).2)<=s1.1 then
some (Sum.inr (10))
else if ((((gl ((0,0,0,0):AJ) a0.2.1 s1.1.toNat).2).2).2)≥(a0.2.1.length:Int) then
some (Sum.inr (10))
else if ¬(s1.1=(AG ((a0.2.1.length:Int)-1))) then
if (0<=((((gl ((0,0,0,0):AJ) a0.2.1 s1.1.toNat).2).2).2)/\((((gl ((0,0,0,0):AJ) a0.2.1 s1.1.toNat).2).2).2)<((4:Nat):Int))/\((((gl ((0,0,0,0):AJ) a0.2.1 s1.1.toNat).2).2).2)<(s1.2.length:Int) then
some (Sum.inl ((AG (s1.1+1),s1.2.set (((((gl ((0,0,0,0):AJ) a0.2.1 s1.1.toNat).2).2).2).toNat) true)))
else none
else some (Sum.inl ((AG (s1.1+1),s1.2)))
else if ¬(s1.1=(AG ((a0.2.1.length:Int)-1))) then
if (0<=((((gl ((0,0,0,0):AJ) a0.2.1 s1.1.toNat).2).2).2)/\((((gl ((0,0,0,0):AJ) a0.2.1 s1.1.toNat).2).2).2)<((4:Nat):Int))/\((((gl ((0,0,0,0):AJ) a0.2.1 s1.1.toNat).2).2).2)<(s1.2.length:Int) then
some (Sum.inl ((AG (s1.1+1),s1.2.set (((((gl ((0,0,0,0):AJ) a0.2.1 s1.1.toNat).2).2).2).toNat) true)))
else none
else some (Sum.inl ((AG (s1.1+1),s1.2)))
else if s1.1=(AG ((a0.2.1.length:Int)-1)) then
if ¬((((gl ((0,0,0,0):AJ) a0.2.1 s1.1.toNat).2).2).2)=s1.1 then
some (Sum.inr (10))
else if ¬(s1.1=(AG ((a0.2.1.length:Int)-1))) then
if ((((gl ((0,0,0,0):AJ) a0.2.1 s1.1.toNat).2).2).2)<=s1.1 then
some (Sum.inr (10))
else if ((((gl ((0,0,0,0):AJ) a0.2.1 s1.1.toNat).2).2).2)≥(a0.2.1.length:Int) then
some (Sum.inr (10))
else if ¬(s1.1=(AG ((a0.2.1.length:Int)-1))) then
if (0<=((((gl ((0,0,0,0):AJ) a0.2.1 s1.1.toNat).2).2).2)/\((((gl ((0,0,0,0):AJ) a0.2.1 s1.1.toNat).2).2).2)<((4:Nat):Int))/\((((gl ((0,0,0,0):AJ) a0.2.1 s1.1.toNat).2).2).2)<(s1.2.length:Int) then
some (Sum.inl ((AG (s1.1+1),s1.2.set (((((gl ((0,0,0,0):AJ) a0.2.1 s1.1.toNat).2).2).2).toNat) true)))
else none
else some (Sum.inl ((AG (s1.1+1),s1.2)))
else if ¬(s1.1=(AG ((a0.2.1.length:Int)-1))) then
if (0<=((((gl ((0,0,0,0):AJ) a0.2.1 s1.1.toNat).2).2).2)/\((((gl ((0,0,0,0):AJ) a0.2.1 s1.1.toNat).2).2).2)<((4:Nat):Int))/\((((gl ((0,0,0,0):AJ) a0.2.1 s1.1.toNat).2).2).2)<(s1.2.length:Int) then
some (Sum.inl ((AG (s1.1+1),s1.2.set (((((gl ((0,0,0,0):AJ) a0.2.1 s1.1.toNat).2).2).2).toNat) true)))
else none
else some (Sum.inl ((AG (s1.1+1),s1.2)))
else if ¬(s1.1=(AG ((a0.2.1.length:Int)-1))) then
if ((((gl ((0,0,0,0):AJ) a0.2.1 s1.1.toNat).2).2).2)<=s1.1 then
some (Sum.inr (10))
else if ((((gl ((0,0,0,0):AJ) a0.2.1 s1.1.toNat).2).2).2)≥(a0.2.1.length:Int) then
some (Sum.inr (10))
else if ¬(s1.1=(AG ((a0.2.1.length:Int)-1))) then
if (0<=((((gl ((0,0,0,0):AJ) a0.2.1 s1.1.toNat).2).2).2)/\((((gl ((0,0,0,0):AJ) a0.2.1 s1.1.toNat).2).2).2)<((4:Nat):Int))/\((((gl ((0,0,0,0):AJ) a0.2.1 s1.1.toNat).2).2).2)<(s1.2.length:Int) then
some (Sum.inl ((AG (s1.1+1),s1.2.set (((((gl ((0,0,0,0):AJ) a0.2.1 s1.1.toNat).2).2).2).toNat) true)))
else none
else some (Sum.inl ((AG (s1.1+1),s1.2)))
else if ¬(s1.1=(AG ((a0.2.1.length:Int)-1))) then
if (0<=((((gl ((0,0,0,0):AJ) a0.2.1 s1.1.toNat).2).2).2)/\((((gl ((0,0,0,0):AJ) a0.2.1 s1.1.toNat).2).2).2)<((4:Nat):Int))/\((((gl ((0,0,0,0):AJ) a0.2.1 s1.1.toNat).2).2).2)<(s1.2.length:Int) then
some (Sum.inl ((AG (s1.1+1),s1.2.set (((((gl ((0,0,0,0):AJ) a0.2.1 s1.1.toNat).2).2).2).toNat) true)))
else none
else some (Sum.inl ((AG (s1.1+1),s1.2))))
else none
else Option.map Sum.inr (AI (σ:=Int) (β:=Int) (fun s2=>
if s2<(a0.2.1.length:Int) then
if (0<=s2/\s2<((4:Nat):Int))/\s2<(s1.2.length:Int) then
if (!(gl (false:Bool) s1.2 s2.toNat))=true then
some (Sum.inr (10))
else some (Sum.inl (AG (s2+1)))
else none
else Option.map Sum.inr (if 0<=(AG ((a0.2.1.length:Int)-1))/\(AG ((a0.2.1.length:Int)-1))<(a0.2.1.length:Int) then
if DJ ((gl ((0,0,0,0):AJ) a0.2.1 ((AG ((a0.2.1.length:Int)-1)).toNat)).1) 0=some .eq then
if a0.2.2<1 then
some (9)
else if a0.2.2>64 then
some (9)
else if ¬(DJ ((gl ((0,0,0,0):AJ) a0.2.1 ((AG ((a0.2.1.length:Int)-1)).toNat)).1) 0=some .eq) then
if ¬a0.2.2=0 then
some (9)
else some (0)
else some (0)
else if ¬(DJ ((gl ((0,0,0,0):AJ) a0.2.1 ((AG ((a0.2.1.length:Int)-1)).toNat)).1) 0=some .eq) then
if ¬a0.2.2=0 then
some (9)
else some (0)
else some (0)
else none)) (0))) ((0,([true,false,false,false]:List Bool)))
else none)
@[reducible] def FJ:FnI:=BK [PD] [CY] fun x=>DA x
def eJ:Cx:=BE [(1,(1,1)),(4,(2,1)),(6,(3,1))] [4] [(77,S3),(78,M6)] [(0,B8 [(27,AP)] [] [(2,.bool)] (FI [(2,1),(5,3),(28,70)]) [] 3),(3,B8 [(8,AP)] [] [] (FI [(2,1),(98,9)]) [] 4)] []
theorem GH:CV 38 FJ:=okW eJ [.tmp 2] 135 3 (BD (.cons bP (.cons Q0 AM.nil)) A_.nil) Tryz.func38
def P8 :Option YD:=
if 0<=(32:Int)/\(32:Int)<=(32:Int)/\(32:Int)*((1:Nat):Int)<=140737488355328 then
if 0<=(32:Int)/\(32:Int)<=(32:Int)/\(32:Int)*((8:Nat):Int)<=140737488355328 then
some ((List.replicate (32:Int).toNat (false:Bool),List.replicate (32:Int).toNat (0#64:(BitVec 64))))
else none
else none
@[reducible] def VQ:FnI:=BK [] [AN0] fun x=>P8 
def lR:Cx:=BE [(0,(0,1)),(1,(1,1)),(2,(2,1))] [1,2] [] [] []
theorem iT:CV 53 VQ:=okW lR [.cell 0 37] 4 3 (BD AM.nil A_.nil) Tryz.func53
def FT (a0:D7) (a1:Int) (a2:Int):Option (C6×Int):=
Option.bind (DA a0) (fun r1=>
if ¬r1=0 then
some (((((⟨#[]⟩:ByteArray),[],0),(0,[],[]),[],0,[],([],[]),0,(0,0,0,0,0,0,0,0,0),false),r1))
else Option.bind (MD a1 a2) (fun r2=>
if ¬r2.2=0 then
some (((((⟨#[]⟩:ByteArray),[],0),(0,[],[]),[],0,[],([],[]),0,(0,0,0,0,0,0,0,0,0),false),r2.2))
else if (([]:List AJ).length+a0.2.1.length)*32<=140737488355328 then
if 0<=((([]:List AJ)++a0.2.1).length:Int)/\((([]:List AJ)++a0.2.1).length:Int)<=((([]:List AJ)++a0.2.1).length:Int)/\((([]:List AJ)++a0.2.1).length:Int)*((24:Nat):Int)<=140737488355328 then
Option.bind (P8) (fun r3=>
some ((((a0.1,([]:List AJ)++a0.2.1,a0.2.2),r2.1,List.replicate ((([]:List AJ)++a0.2.1).length:Int).toNat ([]:(List AB)),0,[],r3,0,(0,0,0,0,0,0,0,0,0),false),0)))
else none
else none))
@[reducible] def IL:FnI:=BK [PD,AP,AP] [W2,CY] fun x=>FT x.1 x.2.1 x.2.2
def lS:Cx:=BE [(3,(1,1)),(6,(2,1)),(9,(5,1)),(20,(3,2)),(29,(6,1)),(36,(7,1)),(37,(8,2))] [29,36] [(38,FJ),(52,VO),(53,VQ)] [] []
theorem JV:CV 27 IL:=okW lS [.cell 6 41,.tmp 7] 39 9 (BD (.cons GH (.cons iI (.cons iT AM.nil))) A_.nil) Tryz.func27
def DM (a0:B7) (a1:(List AB)) (a2:(BitVec 64)):Option Bool:=
if a2=(0#64) then
some (false)
else if a2.toNat>(BitVec.ofInt 64 (a0.2.1.length:Int)).toNat then
some (false)
else if True then
if 0<=((AG (((a2-(1#64)).toNat:Int))) / 2 ^ min (BitVec.ofInt 64 a0.1).toNat 64)/\((AG (((a2-(1#64)).toNat:Int))) / 2 ^ min (BitVec.ofInt 64 a0.1).toNat 64)<(a0.2.2.length:Int) then
AI (σ:=Int) (β:=Bool) (fun s1=>
if s1<(a1.length:Int) then
if 0<=s1/\s1<(a1.length:Int) then
if ((gl ((0,0,0):BB) a0.2.2 (((AG (((a2-(1#64)).toNat:Int))) / 2 ^ min (BitVec.ofInt 64 a0.1).toNat 64).toNat)).1)=((gl ((0,0,0,0,0):AB) a1 s1.toNat).1) then
some (Sum.inr (true))
else some (Sum.inl (AG (s1+1)))
else none
else some (Sum.inr (false))) (0)
else none
else none
@[reducible] def IS:FnI:=BK [D3,ABM,aU] [FN] fun x=>DM x.1 x.2.1 x.2.2
def bQ:Cx:=BE [(3,(3,1)),(7,(4,1)),(9,(5,1))] [] [] [(0,B8 [(33,AP)] [] [] (FI [(6,1),(9,1),(34,9)]) [] 5)] []
theorem KV:CV 169 IS:=okW bQ [.tmp 6] 43 3 (BD AM.nil A_.nil) Tryz.func169
def ED (a0:(BitVec 64)):Option (Int×Int×Int×Bool×Int):=
if ¬(2#64)=0#64 then
if (a0%(2#64))=(1#64) then
if ¬(2#64)=0#64 then
if (a0 / (2#64)).toNat≥(16384#64).toNat then
some ((0,0,0,false,12))
else if ¬(2#64)=0#64 then
some ((0,0,AG (((a0 / (2#64)).toNat:Int)),true,0))
else none
else none
else if ¬(256#64)=0#64 then
if ¬(2#64)=0#64 then
if ¬(256#64)=0#64 then
if (a0 / (256#64)).toNat>(48#64).toNat then
some ((0,0,0,false,12))
else if (AG ((((a0%(256#64)) / (2#64)).toNat:Int)))>15 then
some ((0,0,0,false,12))
else if (AG (((a0 / (256#64)).toNat:Int)))<(AG ((1:Int)+(AG ((((a0%(256#64)) / (2#64)).toNat:Int))))) then
some ((0,0,0,false,12))
else if (AG ((AG ((AG (((a0 / (256#64)).toNat:Int)))-1))-(AG ((((a0%(256#64)) / (2#64)).toNat:Int)))))>32 then
some ((0,0,0,false,12))
else some ((AG ((((a0%(256#64)) / (2#64)).toNat:Int)),AG ((AG ((AG (((a0 / (256#64)).toNat:Int)))-1))-(AG ((((a0%(256#64)) / (2#64)).toNat:Int)))),0,false,0))
else none
else none
else none
else none
@[reducible] def LV:FnI:=BK [aU] [CY,CY,CY,FN,CY] fun x=>ED x
def bR:Cx:=BE [] [] [] [] []
theorem P9:CV 128 LV:=okW bR [.tmp 2,.tmp 3,.tmp 4,.tmp 5,.tmp 6] 51 0 (BD AM.nil A_.nil) Tryz.func128
def BW (a0:B7) (a1:Int):Option BB:=
Option.bind (BF a0 a1 0) (fun r1=>
if ¬r1.2=0 then
some ((0,0,r1.2))
else if 0<=a1/\a1<(a0.2.1.length:Int) then
Option.bind (ED (gl (0#64:(BitVec 64)) a0.2.1 a1.toNat)) (fun r2=>
if ¬r2.2.2.2.2=0 then
some ((0,0,12))
else if r2.2.2.2.1=true then
some ((0,0,12))
else Option.bind (BF a0 a1 (AG (r2.1+r2.2.1))) (fun r3=>
if ¬r3.2=0 then
some ((0,0,2))
else some ((r2.1,r2.2.1,0))))
else none)
@[reducible] def F6:FnI:=BK [D3,AP] [CY,CY,CY] fun x=>BW x.1 x.2
def iU:Cx:=BE [(2,(2,1))] [] [(86,EU),(128,LV)] [] []
theorem G5:CV 98 F6:=okW iU [.tmp 4,.tmp 5,.tmp 6] 55 1 (BD (.cons FB (.cons P9 AM.nil)) A_.nil) Tryz.func98
def EX (a0:Int):Option ((BitVec 64)×Int):=
if a0<0 then
some ((0#64,2))
else if a0≥16384 then
some ((0#64,2))
else some ((BitVec.ofInt 64 (AG ((AG ((2:Int)*a0))+1)),0))
@[reducible] def P_:FnI:=BK [AP] [ABJ,CY] fun x=>EX x
def ZM:Cx:=BE [] [] [] [] []
theorem YI:CV 177 P_:=okW ZM [.tmp 2,.tmp 3] 14 0 (BD AM.nil A_.nil) Tryz.func177
def CG (a0:sS) (a1:(BitVec 64)):Option ((BitVec 64)×sS):=
if ¬a0.2.2.2.2=0 then
some ((a1,a0))
else Option.bind (DM a0.1 a0.2.1 a1) (fun r1=>
if (!r1)=true then
some ((a1,a0))
else if 0<=(AG (((a1-(1#64)).toNat:Int)))/\(AG (((a1-(1#64)).toNat:Int)))<(a0.1.2.1.length:Int) then
Option.bind (ED (gl (0#64:(BitVec 64)) a0.1.2.1 ((AG (((a1-(1#64)).toNat:Int))).toNat))) (fun r2=>
if r2.2.2.2.2=0 then
if r2.2.2.2.1=true then
some ((BitVec.ofInt 64 (AG (r2.2.2.1+1)),a0))
else Option.bind (BW a0.1 (AG (((a1-(1#64)).toNat:Int)))) (fun r3=>
if ¬r3.2.2=0 then
some ((a1,(a0.1,a0.2.1,a0.2.2.1,a0.2.2.2.1,12)))
else Option.bind (CR a0.1 a0.2.2.1 (AG ((AG ((1:Int)+r3.1))+r3.2.1))) (fun r4=>
if ¬r4.2.2.1=0 then
some ((a1,((a0.1.1,r4.2.2.2),a0.2.1,a0.2.2.1,a0.2.2.2.1,r4.2.2.1)))
else AI (σ:=(Int×OL)) (β:=((BitVec 64)×sS)) (fun s1=>
if s1.1<=(AG (r3.1+r3.2.1)) then
Option.bind (BF (a0.1.1,s1.2,r4.2.2.2.2) (AG (((a1-(1#64)).toNat:Int))) s1.1) (fun r5=>
Option.bind (BF (a0.1.1,s1.2,r4.2.2.2.2) r4.2.1 s1.1) (fun r6=>
if 0<=r5.1/\r5.1<(s1.2.length:Int) then
if 0<=r6.1/\r6.1<(s1.2.length:Int) then
some (Sum.inl ((AG (s1.1+1),s1.2.set r6.1.toNat (gl (0#64:(BitVec 64)) s1.2 r5.1.toNat))))
else none
else none))
else Option.map Sum.inr (Option.bind (EX r4.2.1) (fun r7=>
if 0<=(AG (((a1-(1#64)).toNat:Int)))/\(AG (((a1-(1#64)).toNat:Int)))<(s1.2.length:Int) then
if (a0.2.2.2.1.length+([(AG (((a1-(1#64)).toNat:Int)),r4.2.1)]:List (Int×Int)).length)*16<=140737488355328 then
some ((BitVec.ofInt 64 (AG (r4.2.1+1)),((a0.1.1,s1.2.set ((AG (((a1-(1#64)).toNat:Int))).toNat) r7.1,r4.2.2.2.2),a0.2.1,r4.1,a0.2.2.2.1++([(AG (((a1-(1#64)).toNat:Int)),r4.2.1)]:List (Int×Int)),a0.2.2.2.2)))
else none
else none))) ((0,r4.2.2.2.1))))
else Option.bind (BW a0.1 (AG (((a1-(1#64)).toNat:Int)))) (fun r8=>
if ¬r8.2.2=0 then
some ((a1,(a0.1,a0.2.1,a0.2.2.1,a0.2.2.2.1,12)))
else Option.bind (CR a0.1 a0.2.2.1 (AG ((AG ((1:Int)+r8.1))+r8.2.1))) (fun r9=>
if ¬r9.2.2.1=0 then
some ((a1,((a0.1.1,r9.2.2.2),a0.2.1,a0.2.2.1,a0.2.2.2.1,r9.2.2.1)))
else AI (σ:=(Int×OL)) (β:=((BitVec 64)×sS)) (fun s2=>
if s2.1<=(AG (r8.1+r8.2.1)) then
Option.bind (BF (a0.1.1,s2.2,r9.2.2.2.2) (AG (((a1-(1#64)).toNat:Int))) s2.1) (fun JJ=>
Option.bind (BF (a0.1.1,s2.2,r9.2.2.2.2) r9.2.1 s2.1) (fun QR=>
if 0<=JJ.1/\JJ.1<(s2.2.length:Int) then
if 0<=QR.1/\QR.1<(s2.2.length:Int) then
some (Sum.inl ((AG (s2.1+1),s2.2.set QR.1.toNat (gl (0#64:(BitVec 64)) s2.2 JJ.1.toNat))))
else none
else none))
else Option.map Sum.inr (Option.bind (EX r9.2.1) (fun OF=>
if 0<=(AG (((a1-(1#64)).toNat:Int)))/\(AG (((a1-(1#64)).toNat:Int)))<(s2.2.length:Int) then
if (a0.2.2.2.1.length+([(AG (((a1-(1#64)).toNat:Int)),r9.2.1)]:List (Int×Int)).length)*16<=140737488355328 then
some ((BitVec.ofInt 64 (AG (r9.2.1+1)),((a0.1.1,s2.2.set ((AG (((a1-(1#64)).toNat:Int))).toNat) OF.1,r9.2.2.2.2),a0.2.1,r9.1,a0.2.2.2.1++([(AG (((a1-(1#64)).toNat:Int)),r9.2.1)]:List (Int×Int)),a0.2.2.2.2)))
else none
else none))) ((0,r9.2.2.2.1)))))
else none)
@[reducible] def OM:FnI:={ ps:=[A4D,aU],rs:=[ABJ],os:=[A4D],bk:=[0],pin:=[(1,0,1,0),(2,1,2,0),(3,2,3,0)],F:=fun x=>CG x.1 x.2 }
def XL:Cx:=BE [(14,(5,1)),(172,(6,1)),(173,(7,1))] [173] [(49,JR),(86,EU),(98,F6),(128,LV),(169,IS),(177,P_)] [(0,B8 [(16,AP)] [] [(1,.u64)] (FI [(17,4),(110,42)]) [] 6)] []
theorem WJ:CV 172 OM:=okW XL [.tmp 4] 179 3 (BD (.cons M4 (.cons FB (.cons G5 (.cons P9 (.cons KV (.cons YI AM.nil)))))) A_.nil) Tryz.func172
def CO (a0:B7) (a1:Int):Option GB:=
Option.bind (BW a0 a1) (fun r1=>
if ¬r1.2.2=0 then
some (([],r1.2.2))
else AI (σ:=GB) (β:=GB) (fun s1=>
if s1.2<r1.1 then
Option.bind (BF a0 a1 (AG ((1:Int)+s1.2))) (fun r2=>
if (s1.1.length+([r2.1]:List Int).length)*8<=140737488355328 then
some (Sum.inl ((s1.1++([r2.1]:List Int),AG (s1.2+1))))
else none)
else some (Sum.inr ((s1.1,0)))) (([],0)))
@[reducible] def LW:FnI:=BK [D3,AP] [I3,CY] fun x=>CO x.1 x.2
def bS:Cx:=BE [(2,(2,1)),(38,(4,1)),(39,(5,1))] [39] [(86,EU),(98,F6)] [(0,B8 [(9,I3),(10,AP)] [] [] (FI [(11,2),(23,17)]) [] 3)] []
theorem QA:CV 173 LW:=okW bS [.tmp 4,.tmp 5] 41 4 (BD (.cons FB (.cons G5 AM.nil)) A_.nil) Tryz.func173
def ME (a0:B7) (a1:(List AB)) (a2:AB) (a3:OL):Option AMY:=
AI (σ:=(OL×Int×sS)) (β:=AMY) (fun s1=>
if s1.2.1<(a3.length:Int) then
if 0<=s1.2.1/\s1.2.1<(a3.length:Int) then
Option.bind (CG s1.2.2 (gl (0#64:(BitVec 64)) a3 s1.2.1.toNat)) (fun r1=>
if (s1.1.length+([r1.1]:List (BitVec 64)).length)*8<=140737488355328 then
some (Sum.inl ((s1.1++([r1.1]:List (BitVec 64)),AG (s1.2.1+1),r1.2)))
else none)
else none
else Option.map Sum.inr (AI (σ:=(Int×sS)) (β:=AMY) (fun s2=>
if s2.1<(s2.2.2.2.2.1.length:Int) then
if s2.2.2.2.2.2=0 then
if 0<=s2.1/\s2.1<(s2.2.2.2.2.1.length:Int) then
Option.bind (CO (a0.1,s2.2.1.2) ((gl ((0,0):(Int×Int)) s2.2.2.2.2.1 s2.1.toNat).2)) (fun r2=>
AI (σ:=(Int×sS)) (β:=((Int×sS) ⊕ AMY)) (fun s3=>
if s3.1<(r2.1.length:Int) then
if 0<=s3.1/\s3.1<(r2.1.length:Int) then
if 0<=(gl (0:Int) r2.1 s3.1.toNat)/\(gl (0:Int) r2.1 s3.1.toNat)<(s3.2.1.2.1.length:Int) then
Option.bind (CG s3.2 (gl (0#64:(BitVec 64)) s3.2.1.2.1 ((gl (0:Int) r2.1 s3.1.toNat).toNat))) (fun r3=>
if 0<=(gl (0:Int) r2.1 s3.1.toNat)/\(gl (0:Int) r2.1 s3.1.toNat)<(r3.2.1.2.1.length:Int) then
some (Sum.inl ((AG (s3.1+1),((r3.2.1.1,r3.2.1.2.1.set ((gl (0:Int) r2.1 s3.1.toNat).toNat) r3.1,r3.2.1.2.2),r3.2.2))))
else none)
else none
else none
else some (Sum.inr (Sum.inl ((AG (s2.1+1),s3.2))))) ((0,s2.2)))
else none
else some (Sum.inr ((s2.2.2.2.1,s2.2.2.2.2.1,s1.1,s2.2.2.2.2.2,s2.2.1.2.1,s2.2.1.2.2,s2.2.2.1)))
else some (Sum.inr ((s2.2.2.2.1,s2.2.2.2.2.1,s1.1,s2.2.2.2.2.2,s2.2.1.2.1,s2.2.1.2.2,s2.2.2.1)))) ((0,s1.2.2)))) (([],0,(a0,a1,a2,[],0)))
@[reducible] def VR:FnI:={ ps:=[dQ,kP,P3,AT1],rs:=[kO,⟨(.slice AMW),false,true,false⟩,aV,CY],os:=[aV,xY,kP],bk:=[0,1,2],F:=fun x=>ME x.1 x.2.1 x.2.2.1 x.2.2.2 }
def lT:Cx:=BE [(4,(4,1)),(6,(5,1)),(8,(6,1)),(25,(7,1)),(35,(9,4)),(36,(13,1)),(37,(14,1)),(65,(20,1)),(83,(21,4))] [37] [(172,OM),(173,LW)] [(0,{ live:=[(13,aV),(28,AP)],boxes:=[(7,A13)],rows:=[],dead:=FI [(15,1),(29,10)],lost:=[0,1,2],base:=15,pins:=[(16,0,7),(17,1,7),(18,2,7)] }),(2,{ live:=[(16,AP)],boxes:=[(7,A13)],rows:=[],dead:=FI [(17,2),(20,1),(39,47)],lost:=[0,1,2,19],base:=29,pins:=[(29,0,7),(30,1,7),(31,2,7)] }),(4,{ live:=[(70,AP)],boxes:=[(7,A13)],rows:=[],dead:=FI [(20,1),(71,15)],lost:=[0,1,2,19,32],base:=25,pins:=[(25,0,7),(26,1,7),(27,2,7)] })] []
theorem iV:CV 162 VR:=okW lT [.cell 8 57,.tmp 9,.tmp 10,.tmp 11] 99 29 (BD (.cons WJ (.cons QA AM.nil)) A_.nil) Tryz.func162
def FC (a0:DL) (a1:Int):Option (AB×Bool):=
AI (σ:=Int) (β:=(AB×Bool)) (fun s1=>
if s1<(a0.length:Int) then
if 0<=s1/\s1<(a0.length:Int) then
AI (σ:=Int) (β:=(Int ⊕ (AB×Bool))) (fun s2=>
if s2<((gl ([]:(List AB)) a0 s1.toNat).length:Int) then
if 0<=s2/\s2<((gl ([]:(List AB)) a0 s1.toNat).length:Int) then
if ((gl ((0,0,0,0,0):AB) (gl ([]:(List AB)) a0 s1.toNat) s2.toNat).1)=a1 then
some (Sum.inr (Sum.inr ((((gl ((0,0,0,0,0):AB) (gl ([]:(List AB)) a0 s1.toNat) s2.toNat).1,((gl ((0,0,0,0,0):AB) (gl ([]:(List AB)) a0 s1.toNat) s2.toNat).2).1,(((gl ((0,0,0,0,0):AB) (gl ([]:(List AB)) a0 s1.toNat) s2.toNat).2).2).1,((((gl ((0,0,0,0,0):AB) (gl ([]:(List AB)) a0 s1.toNat) s2.toNat).2).2).2)),true))))
else some (Sum.inl (AG (s2+1)))
else none
else some (Sum.inr (Sum.inl (AG (s1+1))))) (0)
else none
else some (Sum.inr (((0,0,0,0,0),false)))) (0)
@[reducible] def N2:FnI:=BK [I2,AP] [kO,FN] fun x=>FC x.1 x.2
def iW:Cx:=BE [(4,(1,1)),(9,(3,1)),(15,(2,1))] [] [] [(0,B8 [(12,AP)] [] [] (FI [(5,1),(7,1),(9,1),(13,16)]) [] 2),(2,B8 [(18,AP)] [] [] (FI [(5,1),(9,1),(19,9)]) [] 3)] []
theorem S4:CV 154 N2:=okW iW [.cell 4 57,.tmp 5] 30 3 (BD AM.nil A_.nil) Tryz.func154
def MF (a0:DL):Option (List AB):=
AI (σ:=((List AB)×Int)) (β:=(List AB)) (fun s1=>
if s1.2<(a0.length:Int) then
if 0<=s1.2/\s1.2<(a0.length:Int) then
if (s1.1.length+(gl ([]:(List AB)) a0 s1.2.toNat).length)*40<=140737488355328 then
some (Sum.inl ((s1.1++(gl ([]:(List AB)) a0 s1.2.toNat),AG (s1.2+1))))
else none
else none
else some (Sum.inr (s1.1))) (([],0))
@[reducible] def VT:FnI:=BK [I2] [kP] fun x=>MF x
def lU:Cx:=BE [(11,(2,1)),(14,(3,1))] [14] [] [(0,B8 [(3,kP),(8,AP)] [] [] (FI [(5,1),(9,7)]) [] 1)] []
theorem iX:CV 175 VT:=okW lU [.tmp 2] 17 3 (BD AM.nil A_.nil) Tryz.func175
def I_ (a0:DL) (a1:(List Int)):Option Bool:=
Option.bind (MF a0) (fun r1=>
if (a1.length:Int)>(r1.length:Int) then
some (false)
else AI (σ:=Int) (β:=Bool) (fun s1=>
if s1<(a1.length:Int) then
if 0<=s1/\s1<(a1.length:Int) then
AI (σ:=Int) (β:=(Int ⊕ Bool)) (fun s2=>
if s2<s1 then
if 0<=s2/\s2<(a1.length:Int) then
if (gl (0:Int) a1 s2.toNat)=(gl (0:Int) a1 s1.toNat) then
some (Sum.inr (Sum.inr (false)))
else some (Sum.inl (AG (s2+1)))
else none
else Option.map Sum.inr (if Bd none (some (a1.length:Int)) ((a1.length:Int).toNat) r1.length then
AI (σ:=(Bool×Int)) (β:=(Int ⊕ Bool)) (fun s3=>
if s3.2<((((a1.length:Int).toNat)-0:Nat):Int) then
if 0<=s3.2/\s3.2<((((a1.length:Int).toNat)-0:Nat):Int) then
if s3.1=true then
some (Sum.inl ((true,AG (s3.2+1))))
else some (Sum.inl ((decide (((gl ((0,0,0,0,0):AB) r1 (0+s3.2.toNat)).1)=(gl (0:Int) a1 s1.toNat)),AG (s3.2+1))))
else none
else Option.map Sum.inr (if (!s3.1)=true then
some (Sum.inr (false))
else some (Sum.inl (AG (s1+1))))) ((false,0))
else none)) (0)
else none
else Option.map Sum.inr (if Bd none (some (a1.length:Int)) ((a1.length:Int).toNat) r1.length then
AI (σ:=Int) (β:=Bool) (fun s4=>
if s4<((((a1.length:Int).toNat)-0:Nat):Int) then
if 0<=s4/\s4<((((a1.length:Int).toNat)-0:Nat):Int) then
AI (σ:=(Bool×Int)) (β:=(Int ⊕ Bool)) (fun s5=>
if s5.2<(a1.length:Int) then
if 0<=s5.2/\s5.2<(a1.length:Int) then
if s5.1=true then
some (Sum.inl ((true,AG (s5.2+1))))
else some (Sum.inl ((decide (((gl ((0,0,0,0,0):AB) r1 (0+s4.toNat)).1)=(gl (0:Int) a1 s5.2.toNat)),AG (s5.2+1))))
else none
else Option.map Sum.inr (if (!s5.1)=true then
some (Sum.inr (false))
else some (Sum.inl (AG (s4+1))))) ((false,0))
else none
else some (Sum.inr (true))) (0)
else none)) (0))
@[reducible] def Q1:FnI:=BK [I2,SR] [FN] fun x=>I_ x.1 x.2
def bT:Cx:=BE [(11,(3,1)),(13,(4,1)),(18,(2,1))] [] [(175,VT)] [(0,B8 [(26,AP)] [] [] (FI [(4,1),(6,4),(11,1),(27,35)]) [] 3),(2,B8 [(8,AP)] [] [] (FI [(4,1),(31,11)]) [] 3),(4,B8 [(9,lP),(47,AP)] [] [] (FI [(11,1),(48,11)]) [] 3),(6,B8 [(67,AP)] [] [] (FI [(4,1),(13,2),(16,1),(68,20)]) [] 4),(8,B8 [(14,lP),(73,AP)] [] [] (FI [(16,1),(74,11)]) [] 5)] []
theorem ZN:CV 168 Q1:=okW bT [.tmp 4] 88 3 (BD (.cons iX AM.nil) A_.nil) Tryz.func168
def FK (a0:Nat) (a1:Int):Option (Int×Int):=
Option.bind (JU a0) (fun r1=>
if (!r1)=true then
some ((0,6))
else if a1<1 then
some ((0,1))
else if a1>64 then
some ((0,1))
else if DJ a0 0=some .eq then
some ((0,0))
else if a0<18446744073709551616 then
if True then
if (AG (((((BitVec.ofNat 64 a0) >>> (52#64).toNat) &&& (2047#64)).toNat:Int)))>0 then
if (AG ((1075:Int)-(AG (((((BitVec.ofNat 64 a0) >>> (52#64).toNat) &&& (2047#64)).toNat:Int)))))<64 then
if True then
some ((if (AG (((((((BitVec.ofNat 64 a0) &&& (4503599627370495#64))|||(4503599627370496#64))*(BitVec.ofInt 64 a1)) >>> (BitVec.ofInt 64 (AG ((1075:Int)-(AG (((((BitVec.ofNat 64 a0) >>> (52#64).toNat) &&& (2047#64)).toNat:Int)))))).toNat).toNat:Int)))>1 then AG (((((((BitVec.ofNat 64 a0) &&& (4503599627370495#64))|||(4503599627370496#64))*(BitVec.ofInt 64 a1)) >>> (BitVec.ofInt 64 (AG ((1075:Int)-(AG (((((BitVec.ofNat 64 a0) >>> (52#64).toNat) &&& (2047#64)).toNat:Int)))))).toNat).toNat:Int)) else 1,0))
else none
else some ((if (AG (((0#64).toNat:Int)))>1 then AG (((0#64).toNat:Int)) else 1,0))
else if (1074:Int)<64 then
if True then
some ((if (AG ((((((BitVec.ofNat 64 a0) &&& (4503599627370495#64))*(BitVec.ofInt 64 a1)) >>> (BitVec.ofInt 64 1074).toNat).toNat:Int)))>1 then AG ((((((BitVec.ofNat 64 a0) &&& (4503599627370495#64))*(BitVec.ofInt 64 a1)) >>> (BitVec.ofInt 64 1074).toNat).toNat:Int)) else 1,0))
else none
else some ((if (AG (((0#64).toNat:Int)))>1 then AG (((0#64).toNat:Int)) else 1,0))
else none
else none)
@[reducible] def Q2:FnI:=BK [zR,AP] [CY,CY] fun x=>FK x.1 x.2
def bU:Cx:={ nm:=[],CK:=[],fns:=ADC [(78,M6)],loops:=[],aQ:=[],tb:=nX,exts:=[(81,.U3)],lets:=[] }
theorem ZO:CV 41 Q2:=okW bU [.tmp 4,.tmp 5] 48 0 (BD (.cons Q0 AM.nil) (.cons AT5 A_.nil)) Tryz.func41
def D9 (a0:D7) (a1:Int) (a2:Int):Option (Int×Int):=
Option.bind (DA a0) (fun r1=>
if ¬r1=0 then
some ((0,1))
else if a1<0 then
some ((0,1))
else if a1≥(a0.2.1.length:Int) then
some ((0,1))
else if a2<1 then
some ((0,1))
else if a2>64 then
some ((0,1))
else if 0<=a1/\a1<(a0.2.1.length:Int) then
Option.bind (FK ((gl ((0,0,0,0):AJ) a0.2.1 a1.toNat).1) a2) (fun r2=>
some ((r2.1,r2.2)))
else none)
@[reducible] def IM:FnI:=BK [PD,AP,AP] [CY,CY] fun x=>D9 x.1 x.2.1 x.2.2
def lV:Cx:=BE [(3,(1,1))] [] [(38,FJ),(41,Q2)] [] []
theorem JW:CV 18 IM:=okW lV [.tmp 6,.tmp 7] 40 1 (BD (.cons GH (.cons ZO AM.nil)) A_.nil) Tryz.func18
def BO (a0:DL) (a1:Int):Option (AB×Bool):=
if a1<0 then
some (((0,0,0,0,0),false))
else if a1≥(a0.length:Int) then
some (((0,0,0,0,0),false))
else if 0<=a1/\a1<(a0.length:Int) then
if ((gl ([]:(List AB)) a0 a1.toNat).length:Int)=0 then
some (((0,0,0,0,0),false))
else if 0<=a1/\a1<(a0.length:Int) then
if 0<=a1/\a1<(a0.length:Int) then
if 0<=(AG (((gl ([]:(List AB)) a0 a1.toNat).length:Int)-1))/\(AG (((gl ([]:(List AB)) a0 a1.toNat).length:Int)-1))<((gl ([]:(List AB)) a0 a1.toNat).length:Int) then
some ((((gl ((0,0,0,0,0):AB) (gl ([]:(List AB)) a0 a1.toNat) ((AG (((gl ([]:(List AB)) a0 a1.toNat).length:Int)-1)).toNat)).1,((gl ((0,0,0,0,0):AB) (gl ([]:(List AB)) a0 a1.toNat) ((AG (((gl ([]:(List AB)) a0 a1.toNat).length:Int)-1)).toNat)).2).1,(((gl ((0,0,0,0,0):AB) (gl ([]:(List AB)) a0 a1.toNat) ((AG (((gl ([]:(List AB)) a0 a1.toNat).length:Int)-1)).toNat)).2).2).1,((((gl ((0,0,0,0,0):AB) (gl ([]:(List AB)) a0 a1.toNat) ((AG (((gl ([]:(List AB)) a0 a1.toNat).length:Int)-1)).toNat)).2).2).2)),true))
else none
else none
else none
else none
@[reducible] def DF:FnI:=BK [I2,AP] [kO,FN] fun x=>BO x.1 x.2
def YJ:Cx:=BE [(4,(1,1)),(18,(2,1)),(26,(3,1)),(30,(4,1))] [] [] [] []
theorem D2:CV 17 DF:=okW YJ [.cell 4 57,.tmp 5] 35 4 (BD AM.nil A_.nil) Tryz.func17
def KW (a0:B7):Option Int:=
Option.bind (F4 a0.1) (fun r1=>
if (!r1)=true then
some (0)
else if True then
some (AG ((1:Int)*2 ^ min (BitVec.ofInt 64 a0.1).toNat 64))
else none)
@[reducible] def UH:FnI:=BK [D3] [CY] fun x=>KW x
def iY:Cx:=BE [(1,(2,1))] [] [(82,I6)] [] []
theorem eK:CV 42 UH:=okW iY [.tmp 2] 11 1 (BD (.cons LS AM.nil) A_.nil) Tryz.func42
def FD (a0:B7) (a1:AB) (a2:Int):Option Bool:=
if a2=0 then
some (true)
else Option.bind (KW a0) (fun r1=>
some (decide (a1.2.2.2.2<(AG (a2*r1)))))
@[reducible] def HN:FnI:=BK [D3,P3,AP] [FN] fun x=>FD x.1 x.2.1 x.2.2
def iZ:Cx:=BE [(3,(2,1)),(4,(3,1))] [] [(42,UH)] [] []
theorem JA:CV 19 HN:=okW iZ [.tmp 6] 18 2 (BD (.cons eK AM.nil) A_.nil) Tryz.func19
def G6 (a0:C6) (a1:(List AB)):Option (AB×Int):=
AI (σ:=GB) (β:=(AB×Int)) (fun s1=>
if s1.2<(a1.length:Int) then
if 0<=s1.2/\s1.2<(a1.length:Int) then
Option.bind (FC a0.2.2.1 ((gl ((0,0,0,0,0):AB) a1 s1.2.toNat).1)) (fun r1=>
if (!r1.2)=true then
some (Sum.inr (((0,0,0,0,0),1)))
else if (!(Y5 [decide (r1.1.1=((gl ((0,0,0,0,0):AB) a1 s1.2.toNat).1)),decide (r1.1.2.1=(((gl ((0,0,0,0,0):AB) a1 s1.2.toNat).2).1)),decide (r1.1.2.2.1=((((gl ((0,0,0,0,0):AB) a1 s1.2.toNat).2).2).1)),decide (r1.1.2.2.2.1=(((((gl ((0,0,0,0,0):AB) a1 s1.2.toNat).2).2).2).1)),decide (r1.1.2.2.2.2=(((((gl ((0,0,0,0,0):AB) a1 s1.2.toNat).2).2).2).2))]))=true then
some (Sum.inr (((0,0,0,0,0),1)))
else if 0<=(0:Int)/\(0:Int)<(a1.length:Int) then
if ¬(((gl ((0,0,0,0,0):AB) a1 s1.2.toNat).2).1)=(((gl ((0,0,0,0,0):AB) a1 ((0:Int).toNat)).2).1) then
some (Sum.inr (((0,0,0,0,0),1)))
else if (s1.1.length+([(gl ((0,0,0,0,0):AB) a1 s1.2.toNat).1]:List Int).length)*8<=140737488355328 then
some (Sum.inl ((s1.1++([(gl ((0,0,0,0,0):AB) a1 s1.2.toNat).1]:List Int),AG (s1.2+1))))
else none
else none)
else none
else Option.map Sum.inr (if (a1.length:Int)=0 then
some (((0,0,0,0,0),1))
else Option.bind (I_ a0.2.2.1 s1.1) (fun r2=>
if (!r2)=true then
some (((0,0,0,0,0),1))
else if 0<=(0:Int)/\(0:Int)<(a1.length:Int) then
if 0<=(((gl ((0,0,0,0,0):AB) a1 ((0:Int).toNat)).2).1)/\(((gl ((0,0,0,0,0):AB) a1 ((0:Int).toNat)).2).1)<(a0.1.2.1.length:Int) then
Option.bind (D9 a0.1 ((((gl ((0,0,0,0):AJ) a0.1.2.1 ((((gl ((0,0,0,0,0):AB) a1 ((0:Int).toNat)).2).1).toNat)).2).2).2) (a0.2.1.2.2.length:Int)) (fun r3=>
Option.bind (BO a0.2.2.1 ((((gl ((0,0,0,0):AJ) a0.1.2.1 ((((gl ((0,0,0,0,0):AB) a1 ((0:Int).toNat)).2).1).toNat)).2).2).2)) (fun r4=>
AI (σ:=(Bool×Int)) (β:=(AB×Int)) (fun s2=>
if s2.2<(a1.length:Int) then
if 0<=s2.2/\s2.2<(a1.length:Int) then
if s2.1=true then
some (Sum.inl ((decide (¬((gl ((0,0,0,0,0):AB) a1 s2.2.toNat).1)=r4.1.1),AG (s2.2+1))))
else some (Sum.inl ((false,AG (s2.2+1))))
else none
else Option.map Sum.inr (if s2.1=true then
Option.bind (FD a0.2.1 r4.1 r3.1) (fun r5=>
if r5=true then
some ((r4.1,0))
else some (((a0.2.2.2.1,(((gl ((0,0,0,0):AJ) a0.1.2.1 ((((gl ((0,0,0,0,0):AB) a1 ((0:Int).toNat)).2).1).toNat)).2).2).2,(-1),(-1),0),0)))
else some (((a0.2.2.2.1,(((gl ((0,0,0,0):AJ) a0.1.2.1 ((((gl ((0,0,0,0,0):AB) a1 ((0:Int).toNat)).2).1).toNat)).2).2).2,(-1),(-1),0),0)))) ((r4.2,0))))
else none
else none))) (([],0))
@[reducible] def Q3:FnI:=BK [IH,ABM] [kO,CY] fun x=>G6 x.1 x.2
def bV:Cx:=BE [(2,(8,1)),(4,(9,1)),(8,(11,1)),(9,(12,1)),(14,(15,1)),(17,(16,1)),(52,(13,1)),(53,(14,1))] [53] [(17,DF),(18,IM),(19,HN),(154,N2),(168,Q1)] [(0,B8 [(6,I3),(20,AP)] [] [] (FI [(5,1),(8,3),(21,34)]) [] 10),(2,B8 [(15,lP),(96,AP)] [] [] (FI [(17,1),(97,12)]) [] 16)] []
theorem ZP:CV 159 Q3:=okW bV [.cell 4 57,.tmp 5] 122 9 (BD (.cons D2 (.cons JW (.cons JA (.cons S4 (.cons ZN AM.nil))))) A_.nil) Tryz.func159
def DU (a0:DL):Option DL:=
AI (σ:=(DL×Int)) (β:=DL) (fun s1=>
if s1.2<(a0.length:Int) then
if 0<=s1.2/\s1.2<(a0.length:Int) then
if (([]:List AB).length+(gl ([]:(List AB)) a0 s1.2.toNat).length)*40<=140737488355328 then
if (s1.1.length+([([]:List AB)++(gl ([]:(List AB)) a0 s1.2.toNat)]:List (List AB)).length)*24<=140737488355328 then
some (Sum.inl ((s1.1++([([]:List AB)++(gl ([]:(List AB)) a0 s1.2.toNat)]:List (List AB)),AG (s1.2+1))))
else none
else none
else none
else some (Sum.inr (s1.1))) (([],0))
@[reducible] def F7:FnI:=BK [I2] [AH6] fun x=>DU x
def i_:Cx:=BE [(11,(2,1)),(14,(3,1)),(15,(4,1)),(16,(5,1))] [14,15,16] [] [(0,B8 [(3,AH6),(8,AP)] [] [] (FI [(5,1),(9,9)]) [] 1)] []
theorem G7:CV 13 F7:=okW i_ [.tmp 2] 19 5 (BD AM.nil A_.nil) Tryz.func13
def EE (a0:(List B5)):Option (List B5):=
AI (σ:=((List B5)×Int)) (β:=(List B5)) (fun s1=>
if s1.2<(a0.length:Int) then
if 0<=s1.2/\s1.2<(a0.length:Int) then
if (([]:List Int).length+(((gl ((0,0,[]):B5) a0 s1.2.toNat).2).2).length)*8<=140737488355328 then
if (s1.1.length+([((gl ((0,0,[]):B5) a0 s1.2.toNat).1,((gl ((0,0,[]):B5) a0 s1.2.toNat).2).1,([]:List Int)++(((gl ((0,0,[]):B5) a0 s1.2.toNat).2).2))]:List B5).length)*40<=140737488355328 then
some (Sum.inl ((s1.1++([((gl ((0,0,[]):B5) a0 s1.2.toNat).1,((gl ((0,0,[]):B5) a0 s1.2.toNat).2).1,([]:List Int)++(((gl ((0,0,[]):B5) a0 s1.2.toNat).2).2))]:List B5),AG (s1.2+1))))
else none
else none
else none
else some (Sum.inr (s1.1))) (([],0))
@[reducible] def JX:FnI:=BK [ABK] [dP] fun x=>EE x
def jA:Cx:=BE [(5,(3,1)),(11,(2,1)),(19,(4,1)),(21,(5,1)),(22,(6,1))] [22] [] [(0,B8 [(3,dP),(8,AP)] [] [] (FI [(5,1),(9,15)]) [] 1)] []
theorem M7:CV 125 JX:=okW jA [.tmp 2] 25 6 (BD AM.nil A_.nil) Tryz.func125
def GS (a0:YD):Option YD:=
if (([]:List Bool).length+a0.1.length)*1<=140737488355328 then
if (([]:List (BitVec 64)).length+a0.2.length)*8<=140737488355328 then
some ((([]:List Bool)++a0.1,([]:List (BitVec 64))++a0.2))
else none
else none
@[reducible] def JY:FnI:=BK [xZ] [AN0] fun x=>GS x
def jB:Cx:=BE [(1,(2,1)),(2,(3,1)),(5,(4,1)),(8,(5,1))] [5,8] [] [] []
theorem M8:CV 126 JY:=okW jB [.cell 2 37] 10 4 (BD AM.nil A_.nil) Tryz.func126
def BX (a0:C6):Option C6:=
if (([]:List AJ).length+a0.1.2.1.length)*32<=140737488355328 then
Option.bind (DR a0.2.1) (fun r1=>
Option.bind (DU a0.2.2.1) (fun r2=>
Option.bind (EE a0.2.2.2.2.1) (fun r3=>
Option.bind (GS a0.2.2.2.2.2.1) (fun r4=>
some (((a0.1.1,([]:List AJ)++a0.1.2.1,a0.1.2.2),r1,r2,a0.2.2.2.1,r3,r4,a0.2.2.2.2.2.2))))))
else none
@[reducible] def D4:FnI:=BK [IH] [W2] fun x=>BX x
def jC:Cx:=BE [(1,(7,1)),(2,(8,1)),(3,(9,1)),(8,(10,1)),(13,(11,2)),(17,(13,1)),(21,(14,1)),(25,(15,2))] [8] [(13,F7),(30,JQ),(125,JX),(126,JY)] [] []
theorem EF:CV 96 D4:=okW jC [.cell 2 41] 28 10 (BD (.cons G7 (.cons M3 (.cons M7 (.cons M8 AM.nil)))) A_.nil) Tryz.func96
def GU (a0:YD):Option (List Int):=
AI (σ:=GB) (β:=(List Int)) (fun s1=>
if s1.2<(a0.1.length:Int) then
if 0<=s1.2/\s1.2<(a0.1.length:Int) then
if (gl (false:Bool) a0.1 s1.2.toNat)=true then
if (s1.1.length+([AG (s1.2+1)]:List Int).length)*8<=140737488355328 then
some (Sum.inl ((s1.1++([AG (s1.2+1)]:List Int),AG (s1.2+1))))
else none
else some (Sum.inl ((s1.1,AG (s1.2+1))))
else none
else some (Sum.inr (s1.1))) (([],0))
@[reducible] def JZ:FnI:=BK [xZ] [I3] fun x=>GU x
def jD:Cx:=BE [(1,(2,1)),(18,(4,1)),(19,(5,1))] [19] [] [(0,B8 [(3,I3),(9,AP)] [] [] (FI [(4,2),(10,11)]) [] 3)] []
theorem M9:CV 137 JZ:=okW jD [.tmp 2] 22 4 (BD AM.nil A_.nil) Tryz.func137
def IT (a0:B7) (a1:YD) (a2:(List AB)):Option (List Int):=
Option.bind (GU a1) (fun r1=>
AI (σ:=GB) (β:=(List Int)) (fun s1=>
if s1.2<(r1.length:Int) then
if 0<=s1.2/\s1.2<(r1.length:Int) then
if 0<=(AG ((gl (0:Int) r1 s1.2.toNat)-1))/\(AG ((gl (0:Int) r1 s1.2.toNat)-1))<(a1.2.length:Int) then
Option.bind (DM a0 a2 (gl (0#64:(BitVec 64)) a1.2 ((AG ((gl (0:Int) r1 s1.2.toNat)-1)).toNat))) (fun r2=>
if r2=true then
if (s1.1.length+([gl (0:Int) r1 s1.2.toNat]:List Int).length)*8<=140737488355328 then
some (Sum.inl ((s1.1++([gl (0:Int) r1 s1.2.toNat]:List Int),AG (s1.2+1))))
else none
else some (Sum.inl ((s1.1,AG (s1.2+1)))))
else none
else none
else some (Sum.inr (s1.1))) (([],0)))
@[reducible] def QB:FnI:=BK [D3,xZ,ABM] [I3] fun x=>IT x.1 x.2.1 x.2.2
def ZQ:Cx:=BE [(3,(5,1)),(4,(6,1)),(11,(7,1)),(28,(9,1)),(29,(10,1))] [29] [(137,JZ),(169,IS)] [(0,B8 [(7,I3),(13,AP)] [] [] (FI [(9,1),(14,17)]) [] 8)] []
theorem YK:CV 160 QB:=okW ZQ [.tmp 6] 32 6 (BD (.cons M9 (.cons KV AM.nil)) A_.nil) Tryz.func160
def G8 (a0:B7) (a1:(List AB)):Option (List Int):=
AI (σ:=GB) (β:=(List Int)) (fun s1=>
if s1.2<(a0.2.2.length:Int) then
if 0<=s1.2/\s1.2<(a0.2.2.length:Int) then
AI (σ:=GB) (β:=(GB ⊕ (List Int))) (fun s2=>
if s2.2<(a1.length:Int) then
if 0<=s2.2/\s2.2<(a1.length:Int) then
if ((gl ((0,0,0):BB) a0.2.2 s1.2.toNat).1)=((gl ((0,0,0,0,0):AB) a1 s2.2.toNat).1) then
if (s2.1.length+([s1.2]:List Int).length)*8<=140737488355328 then
some (Sum.inr (Sum.inl ((s2.1++([s1.2]:List Int),AG (s1.2+1)))))
else none
else some (Sum.inl ((s2.1,AG (s2.2+1))))
else none
else some (Sum.inr (Sum.inl ((s2.1,AG (s1.2+1)))))) ((s1.1,0))
else none
else some (Sum.inr (s1.1))) (([],0))
@[reducible] def LX:FnI:=BK [D3,ABM] [I3] fun x=>G8 x.1 x.2
def bW:Cx:=BE [(2,(3,1)),(7,(5,1)),(9,(7,1)),(31,(8,1)),(32,(9,1))] [32] [] [(0,B8 [(5,I3),(13,AP)] [] [] (FI [(6,2),(9,1),(14,21)]) [] 4),(2,B8 [(5,I3),(20,AP)] [] [] (FI [(9,1),(21,13)]) [4] 6)] []
theorem QC:CV 171 LX:=okW bW [.tmp 4] 36 7 (BD AM.nil A_.nil) Tryz.func171
def EN (a0:(List Int)) (a1:Int):Option Bool:=
AI (σ:=Int) (β:=Bool) (fun s1=>
if s1<(a0.length:Int) then
if 0<=s1/\s1<(a0.length:Int) then
if (gl (0:Int) a0 s1.toNat)=a1 then
some (Sum.inr (true))
else some (Sum.inl (AG (s1+1)))
else none
else some (Sum.inr (false))) (0)
@[reducible] def QD:FnI:=BK [SR,AP] [FN] fun x=>EN x.1 x.2
def n9:Cx:=BE [] [] [] [(0,B8 [(9,AP)] [] [] [4,6,10,11,12,13,14,15,16] [] 1)] []
theorem VU:CV 176 QD:=okW n9 [.tmp 4] 17 0 (BD AM.nil A_.nil) Tryz.func176
def EG (a0:(List Int)) (a1:Int):Option (List Int):=
AI (σ:=Int) (β:=(List Int)) (fun s1=>
if s1<(a0.length:Int) then
if 0<=s1/\s1<(a0.length:Int) then
if (gl (0:Int) a0 s1.toNat)<a1 then
some (Sum.inl (AG (s1+1)))
else Option.map Sum.inr (if s1<(a0.length:Int) then
if 0<=s1/\s1<(a0.length:Int) then
if (gl (0:Int) a0 s1.toNat)=a1 then
some (a0)
else if Bd none (some s1) s1.toNat a0.length then
if (([]:List Int).length+(B9 a0 0 (s1.toNat-0)).length)*8<=140737488355328 then
if ((([]:List Int)++(B9 a0 0 (s1.toNat-0))).length+([a1]:List Int).length)*8<=140737488355328 then
if Bd (some s1) none a0.length a0.length then
if (((([]:List Int)++(B9 a0 0 (s1.toNat-0)))++([a1]:List Int)).length+(B9 a0 s1.toNat (a0.length-s1.toNat)).length)*8<=140737488355328 then
some (((([]:List Int)++(B9 a0 0 (s1.toNat-0)))++([a1]:List Int))++(B9 a0 s1.toNat (a0.length-s1.toNat)))
else none
else none
else none
else none
else none
else none
else if Bd none (some s1) s1.toNat a0.length then
if (([]:List Int).length+(B9 a0 0 (s1.toNat-0)).length)*8<=140737488355328 then
if ((([]:List Int)++(B9 a0 0 (s1.toNat-0))).length+([a1]:List Int).length)*8<=140737488355328 then
if Bd (some s1) none a0.length a0.length then
if (((([]:List Int)++(B9 a0 0 (s1.toNat-0)))++([a1]:List Int)).length+(B9 a0 s1.toNat (a0.length-s1.toNat)).length)*8<=140737488355328 then
some (((([]:List Int)++(B9 a0 0 (s1.toNat-0)))++([a1]:List Int))++(B9 a0 s1.toNat (a0.length-s1.toNat)))
else none
else none
else none
else none
else none)
else none
else Option.map Sum.inr (if s1<(a0.length:Int) then
if 0<=s1/\s1<(a0.length:Int) then
if (gl (0:Int) a0 s1.toNat)=a1 then
some (a0)
else if Bd none (some s1) s1.toNat a0.length then
if (([]:List Int).length+(B9 a0 0 (s1.toNat-0)).length)*8<=140737488355328 then
if ((([]:List Int)++(B9 a0 0 (s1.toNat-0))).length+([a1]:List Int).length)*8<=140737488355328 then
if Bd (some s1) none a0.length a0.length then
if (((([]:List Int)++(B9 a0 0 (s1.toNat-0)))++([a1]:List Int)).length+(B9 a0 s1.toNat (a0.length-s1.toNat)).length)*8<=140737488355328 then
some (((([]:List Int)++(B9 a0 0 (s1.toNat-0)))++([a1]:List Int))++(B9 a0 s1.toNat (a0.length-s1.toNat)))
else none
else none
else none
else none
else none
else none
else if Bd none (some s1) s1.toNat a0.length then
if (([]:List Int).length+(B9 a0 0 (s1.toNat-0)).length)*8<=140737488355328 then
if ((([]:List Int)++(B9 a0 0 (s1.toNat-0))).length+([a1]:List Int).length)*8<=140737488355328 then
if Bd (some s1) none a0.length a0.length then
if (((([]:List Int)++(B9 a0 0 (s1.toNat-0)))++([a1]:List Int)).length+(B9 a0 s1.toNat (a0.length-s1.toNat)).length)*8<=140737488355328 then
some (((([]:List Int)++(B9 a0 0 (s1.toNat-0)))++([a1]:List Int))++(B9 a0 s1.toNat (a0.length-s1.toNat)))
else none
else none
else none
else none
else none)) (0)
@[reducible] def N3:FnI:=BK [SR,AP] [SR] fun x=>EG x.1 x.2
def jE:Cx:=BE [(36,(1,1)),(37,(2,1)),(40,(3,1)),(41,(4,1)),(44,(5,1)),(45,(6,1))] [37,41] [] [(0,B8 [(5,AP)] [] [] (FI [(7,14)]) [] 1)] []
theorem S5:CV 167 N3:=okW jE [.tmp 4] 46 6 (BD AM.nil A_.nil) Tryz.func167
def KX (a0:(List B5)) (a1:(List Int)):Option GB:=
AI (σ:=((List Int)×Int×Int)) (β:=GB) (fun s1=>
if s1.2.2<(a0.length:Int) then
if 0<=s1.2.2/\s1.2.2<(a0.length:Int) then
Option.bind (EN a1 (((gl ((0,0,[]):B5) a0 s1.2.2.toNat).2).1)) (fun r1=>
if r1=true then
Option.bind (EN a1 ((gl ((0,0,[]):B5) a0 s1.2.2.toNat).1)) (fun r2=>
if (!r2)=true then
AI (σ:=GB) (β:=(((List Int)×Int×Int) ⊕ GB)) (fun s2=>
if s2.2<((((gl ((0,0,[]):B5) a0 s1.2.2.toNat).2).2).length:Int) then
if 0<=s2.2/\s2.2<((((gl ((0,0,[]):B5) a0 s1.2.2.toNat).2).2).length:Int) then
Option.bind (EG s2.1 (gl (0:Int) (((gl ((0,0,[]):B5) a0 s1.2.2.toNat).2).2) s2.2.toNat)) (fun r3=>
some (Sum.inl ((r3,AG (s2.2+1)))))
else none
else some (Sum.inr (Sum.inl ((s2.1,AG (s1.2.1+((((gl ((0,0,[]):B5) a0 s1.2.2.toNat).2).2).length:Int)),AG (s1.2.2+1)))))) ((s1.1,0))
else some (Sum.inl ((s1.1,s1.2.1,AG (s1.2.2+1)))))
else some (Sum.inl ((s1.1,s1.2.1,AG (s1.2.2+1)))))
else none
else some (Sum.inr ((s1.1,s1.2.1)))) (([],0,0))
@[reducible] def UI:FnI:=BK [ABK,SR] [SR,AP] fun x=>KX x.1 x.2
def jF:Cx:=BE [(9,(4,1)),(17,(3,1)),(43,(6,1))] [] [(167,N3),(176,QD)] [(0,B8 [(6,SR),(7,AP),(14,AP)] [] [] (FI [(9,1),(11,1),(15,31)]) [] 2),(2,B8 [(6,SR),(37,AP)] [] [] (FI [(11,1),(38,7)]) [] 5)] []
theorem eL:CV 170 UI:=okW jF [.tmp 4,.tmp 5] 48 5 (BD (.cons S5 (.cons VU AM.nil)) A_.nil) Tryz.func170
def IU (a0:B7) (a1:(List B5)) (a2:(List AB)):Option GB:=
Option.bind (G8 a0 a2) (fun r1=>
Option.bind (KX a1 r1) (fun r2=>
AI (σ:=GB) (β:=GB) (fun s1=>
if s1.2<(r2.1.length:Int) then
if 0<=s1.2/\s1.2<(r2.1.length:Int) then
if (gl (0:Int) r2.1 s1.2.toNat)<(a0.2.1.length:Int) then
if 0<=(gl (0:Int) r2.1 s1.2.toNat)/\(gl (0:Int) r2.1 s1.2.toNat)<(a0.2.1.length:Int) then
Option.bind (DM a0 a2 (gl (0#64:(BitVec 64)) a0.2.1 ((gl (0:Int) r2.1 s1.2.toNat).toNat))) (fun r3=>
if r3=true then
if (s1.1.length+([gl (0:Int) r2.1 s1.2.toNat]:List Int).length)*8<=140737488355328 then
some (Sum.inl ((s1.1++([gl (0:Int) r2.1 s1.2.toNat]:List Int),AG (s1.2+1))))
else none
else some (Sum.inl ((s1.1,AG (s1.2+1)))))
else none
else some (Sum.inl ((s1.1,AG (s1.2+1))))
else none
else some (Sum.inr ((s1.1,r2.2)))) (([],0))))
@[reducible] def QE:FnI:=BK [D3,ABK,ABM] [I3,CY] fun x=>IU x.1 x.2.1 x.2.2
def ZR:Cx:=BE [(3,(4,1)),(17,(5,1)),(18,(6,1)),(44,(8,1)),(45,(9,1))] [45] [(169,IS),(170,UI),(171,LX)] [(0,B8 [(10,I3),(23,AP)] [] [] (FI [(12,1),(24,23)]) [] 7)] []
theorem YL:CV 161 QE:=okW ZR [.tmp 6,.tmp 7] 49 6 (BD (.cons KV (.cons eL (.cons QC AM.nil))) A_.nil) Tryz.func161
def KY (a0:(List B5)) (a1:(List Int)):Option (List B5):=
Option.bind (EE a0) (fun r1=>
AI (σ:=((List B5)×Int)) (β:=(List B5)) (fun s1=>
if s1.2<(r1.length:Int) then
if 0<=s1.2/\s1.2<(r1.length:Int) then
Option.bind (EN a1 ((gl ((0,0,[]):B5) r1 s1.2.toNat).1)) (fun r2=>
if (!r2)=true then
Option.bind (EN a1 (((gl ((0,0,[]):B5) r1 s1.2.toNat).2).1)) (fun r3=>
if (!r3)=true then
if (s1.1.length+([((gl ((0,0,[]):B5) r1 s1.2.toNat).1,((gl ((0,0,[]):B5) r1 s1.2.toNat).2))]:List B5).length)*40<=140737488355328 then
some (Sum.inl ((s1.1++([((gl ((0,0,[]):B5) r1 s1.2.toNat).1,((gl ((0,0,[]):B5) r1 s1.2.toNat).2))]:List B5),AG (s1.2+1))))
else none
else some (Sum.inl ((s1.1,AG (s1.2+1)))))
else some (Sum.inl ((s1.1,AG (s1.2+1)))))
else none
else some (Sum.inr (s1.1))) (([],0)))
@[reducible] def UJ:FnI:=BK [ABK,SR] [dP] fun x=>KY x.1 x.2
def jG:Cx:=BE [(7,(5,1)),(9,(2,1)),(14,(4,1)),(29,(6,1)),(30,(7,1))] [30] [(125,JX),(176,QD)] [(0,B8 [(5,dP),(11,AP)] [] [] (FI [(7,1),(12,20)]) [] 3)] []
theorem eM:CV 174 UJ:=okW jG [.tmp 4] 33 6 (BD (.cons M7 (.cons VU AM.nil)) A_.nil) Tryz.func174
def KZ (a0:B7) (a1:Int) (a2:(BitVec 64)):Option (Int×Int×Bool):=
if a2=(0#64) then
some ((0,0,false))
else if a2.toNat>(BitVec.ofInt 64 (a0.2.1.length:Int)).toNat then
some ((0,0,false))
else if a1<0 then
some ((0,0,false))
else if a1≥(a0.2.1.length:Int) then
some ((0,0,false))
else if True then
if True then
if 0<=(a1 / 2 ^ min (BitVec.ofInt 64 a0.1).toNat 64)/\(a1 / 2 ^ min (BitVec.ofInt 64 a0.1).toNat 64)<(a0.2.2.length:Int) then
if 0<=((AG (((a2-(1#64)).toNat:Int))) / 2 ^ min (BitVec.ofInt 64 a0.1).toNat 64)/\((AG (((a2-(1#64)).toNat:Int))) / 2 ^ min (BitVec.ofInt 64 a0.1).toNat 64)<(a0.2.2.length:Int) then
if ¬((gl ((0,0,0):BB) a0.2.2 ((a1 / 2 ^ min (BitVec.ofInt 64 a0.1).toNat 64).toNat)).1)=(-1) then
if ¬((gl ((0,0,0):BB) a0.2.2 (((AG (((a2-(1#64)).toNat:Int))) / 2 ^ min (BitVec.ofInt 64 a0.1).toNat 64).toNat)).1)=(-1) then
some ((a1 / 2 ^ min (BitVec.ofInt 64 a0.1).toNat 64,(AG (((a2-(1#64)).toNat:Int))) / 2 ^ min (BitVec.ofInt 64 a0.1).toNat 64,decide ((((gl ((0,0,0):BB) a0.2.2 ((a1 / 2 ^ min (BitVec.ofInt 64 a0.1).toNat 64).toNat)).2).1)>(((gl ((0,0,0):BB) a0.2.2 (((AG (((a2-(1#64)).toNat:Int))) / 2 ^ min (BitVec.ofInt 64 a0.1).toNat 64).toNat)).2).1))))
else some ((a1 / 2 ^ min (BitVec.ofInt 64 a0.1).toNat 64,(AG (((a2-(1#64)).toNat:Int))) / 2 ^ min (BitVec.ofInt 64 a0.1).toNat 64,false))
else some ((a1 / 2 ^ min (BitVec.ofInt 64 a0.1).toNat 64,(AG (((a2-(1#64)).toNat:Int))) / 2 ^ min (BitVec.ofInt 64 a0.1).toNat 64,false))
else none
else none
else none
else none
@[reducible] def UK:FnI:=BK [D3,AP,aU] [CY,CY,FN] fun x=>KZ x.1 x.2.1 x.2.2
def jH:Cx:=BE [(3,(2,1)),(11,(3,1)),(12,(4,1))] [] [] [] []
theorem eN:CV 156 UK:=okW jH [.tmp 6,.tmp 7,.tmp 8] 73 3 (BD AM.nil A_.nil) Tryz.func156
def FL (a0:B5) (a1:B5):Option Bool:=
if a0.1<a1.1 then
some (true)
else if a0.1=a1.1 then
some (decide (a0.2.1<a1.2.1))
else some (false)
@[reducible] def Q4:FnI:=BK [⟨ASX,true,false,false⟩,⟨ASX,true,false,false⟩] [FN] fun x=>FL x.1 x.2
def bX:Cx:=BE [(2,(2,1)),(3,(3,1))] [] [] [] []
theorem ZS:CV 166 Q4:=okW bX [.tmp 4] 24 2 (BD AM.nil A_.nil) Tryz.func166
def JB (a0:(List B5)) (a1:Int) (a2:Int) (a3:Int):Option (List B5):=
AI (σ:=Int) (β:=(List B5)) (fun s1=>
if s1<(a0.length:Int) then
if 0<=s1/\s1<(a0.length:Int) then
Option.bind (FL ((gl ((0,0,[]):B5) a0 s1.toNat).1,((gl ((0,0,[]):B5) a0 s1.toNat).2)) (a1,a2,[])) (fun r1=>
if r1=true then
some (Sum.inl (AG (s1+1)))
else Option.map Sum.inr (Option.bind (EE a0) (fun r2=>
if s1<(a0.length:Int) then
if 0<=s1/\s1<(a0.length:Int) then
Option.bind (FL (a1,a2,[]) ((gl ((0,0,[]):B5) a0 s1.toNat).1,((gl ((0,0,[]):B5) a0 s1.toNat).2))) (fun r3=>
if (!r3)=true then
if 0<=s1/\s1<(a0.length:Int) then
Option.bind (EG (((gl ((0,0,[]):B5) a0 s1.toNat).2).2) a3) (fun r4=>
if 0<=s1/\s1<(r2.length:Int) then
some (r2.set s1.toNat ((gl ((0,0,[]):B5) r2 s1.toNat).1,((gl ((0,0,[]):B5) r2 s1.toNat).2).1,r4))
else none)
else none
else if Bd (some s1) none r2.length r2.length then
if (([]:List B5).length+(B9 r2 s1.toNat (r2.length-s1.toNat)).length)*40<=140737488355328 then
if Bd none (some s1) s1.toNat r2.length then
if ((B9 r2 0 (s1.toNat-0)).length+([(a1,a2,([a3]:List Int))]:List B5).length)*40<=140737488355328 then
if (((B9 r2 0 (s1.toNat-0))++([(a1,a2,([a3]:List Int))]:List B5)).length+(([]:List B5)++(B9 r2 s1.toNat (r2.length-s1.toNat))).length)*40<=140737488355328 then
some (((B9 r2 0 (s1.toNat-0))++([(a1,a2,([a3]:List Int))]:List B5))++(([]:List B5)++(B9 r2 s1.toNat (r2.length-s1.toNat))))
else none
else none
else none
else none
else none)
else none
else if Bd (some s1) none r2.length r2.length then
if (([]:List B5).length+(B9 r2 s1.toNat (r2.length-s1.toNat)).length)*40<=140737488355328 then
if Bd none (some s1) s1.toNat r2.length then
if ((B9 r2 0 (s1.toNat-0)).length+([(a1,a2,([a3]:List Int))]:List B5).length)*40<=140737488355328 then
if (((B9 r2 0 (s1.toNat-0))++([(a1,a2,([a3]:List Int))]:List B5)).length+(([]:List B5)++(B9 r2 s1.toNat (r2.length-s1.toNat))).length)*40<=140737488355328 then
some (((B9 r2 0 (s1.toNat-0))++([(a1,a2,([a3]:List Int))]:List B5))++(([]:List B5)++(B9 r2 s1.toNat (r2.length-s1.toNat))))
else none
else none
else none
else none
else none)))
else none
else Option.map Sum.inr (Option.bind (EE a0) (fun r5=>
if s1<(a0.length:Int) then
if 0<=s1/\s1<(a0.length:Int) then
Option.bind (FL (a1,a2,[]) ((gl ((0,0,[]):B5) a0 s1.toNat).1,((gl ((0,0,[]):B5) a0 s1.toNat).2))) (fun r6=>
if (!r6)=true then
if 0<=s1/\s1<(a0.length:Int) then
Option.bind (EG (((gl ((0,0,[]):B5) a0 s1.toNat).2).2) a3) (fun r7=>
if 0<=s1/\s1<(r5.length:Int) then
some (r5.set s1.toNat ((gl ((0,0,[]):B5) r5 s1.toNat).1,((gl ((0,0,[]):B5) r5 s1.toNat).2).1,r7))
else none)
else none
else if Bd (some s1) none r5.length r5.length then
if (([]:List B5).length+(B9 r5 s1.toNat (r5.length-s1.toNat)).length)*40<=140737488355328 then
if Bd none (some s1) s1.toNat r5.length then
if ((B9 r5 0 (s1.toNat-0)).length+([(a1,a2,([a3]:List Int))]:List B5).length)*40<=140737488355328 then
if (((B9 r5 0 (s1.toNat-0))++([(a1,a2,([a3]:List Int))]:List B5)).length+(([]:List B5)++(B9 r5 s1.toNat (r5.length-s1.toNat))).length)*40<=140737488355328 then
some (((B9 r5 0 (s1.toNat-0))++([(a1,a2,([a3]:List Int))]:List B5))++(([]:List B5)++(B9 r5 s1.toNat (r5.length-s1.toNat))))
else none
else none
else none
else none
else none)
else none
else if Bd (some s1) none r5.length r5.length then
if (([]:List B5).length+(B9 r5 s1.toNat (r5.length-s1.toNat)).length)*40<=140737488355328 then
if Bd none (some s1) s1.toNat r5.length then
if ((B9 r5 0 (s1.toNat-0)).length+([(a1,a2,([a3]:List Int))]:List B5).length)*40<=140737488355328 then
if (((B9 r5 0 (s1.toNat-0))++([(a1,a2,([a3]:List Int))]:List B5)).length+(([]:List B5)++(B9 r5 s1.toNat (r5.length-s1.toNat))).length)*40<=140737488355328 then
some (((B9 r5 0 (s1.toNat-0))++([(a1,a2,([a3]:List Int))]:List B5))++(([]:List B5)++(B9 r5 s1.toNat (r5.length-s1.toNat))))
else none
else none
else none
else none
else none))) (0)
@[reducible] def VX:FnI:=BK [ABK,AP,AP,AP] [dP] fun x=>JB x.1 x.2.1 x.2.2.1 x.2.2.2
def lW:Cx:=BE [(9,(1,1)),(24,(2,1)),(31,(3,1)),(41,(4,1)),(51,(5,1)),(53,(6,1)),(58,(7,1)),(63,(8,1)),(68,(9,1)),(69,(10,1)),(71,(11,1))] [69,71] [(125,JX),(166,Q4),(167,N3)] [(0,B8 [(10,AP)] [] [] (FI [(16,14)]) [] 2)] []
theorem jI:CV 157 VX:=okW lW [.tmp 8] 72 11 (BD (.cons M7 (.cons ZS (.cons S5 AM.nil))) A_.nil) Tryz.func157
def CS (a0:B7) (a1:(List B5)) (a2:Int) (a3:(BitVec 64)):Option ((List B5)×OL×(List BB)):=
Option.bind (KZ a0 a2 a3) (fun r1=>
if (!r1.2.2)=true then
some ((a1,a0.2.1,a0.2.2))
else Option.bind (JB a1 r1.1 r1.2.1 a2) (fun r2=>
some ((r2,a0.2.1,a0.2.2))))
@[reducible] def N4:FnI:={ ps:=[dQ,dP,AP,aU],rs:=[dP],os:=[aV,xY],bk:=[0,1],F:=fun x=>CS x.1 x.2.1 x.2.2.1 x.2.2.2 }
def jJ:Cx:=BE [(4,(3,1)),(27,(4,1))] [] [(156,UK),(157,VX)] [] []
theorem S6:CV 146 N4:=okW jJ [.tmp 8] 28 2 (BD (.cons eN (.cons jI AM.nil)) A_.nil) Tryz.func146
def HO (a0:B7) (a1:(List B5)) (a2:(List AB)) (a3:(List Int)) (a4:(List (Int×Int))):Option ((List B5)×OL×(List BB)):=
Option.bind (G8 a0 a2) (fun r1=>
Option.bind (KY a1 r1) (fun r2=>
AI (σ:=((List B5)×Int×OL×(List BB))) (β:=((List B5)×OL×(List BB))) (fun s1=>
if s1.2.1<(a3.length:Int) then
if 0<=s1.2.1/\s1.2.1<(a3.length:Int) then
if 0<=(gl (0:Int) a3 s1.2.1.toNat)/\(gl (0:Int) a3 s1.2.1.toNat)<(s1.2.2.1.length:Int) then
Option.bind (CS (a0.1,s1.2.2) s1.1 (gl (0:Int) a3 s1.2.1.toNat) (gl (0#64:(BitVec 64)) s1.2.2.1 ((gl (0:Int) a3 s1.2.1.toNat).toNat))) (fun r3=>
some (Sum.inl ((r3.1,AG (s1.2.1+1),r3.2.1,r3.2.2))))
else none
else none
else Option.map Sum.inr (AI (σ:=((List B5)×Int×OL×(List BB))) (β:=((List B5)×OL×(List BB))) (fun s2=>
if s2.2.1<(a4.length:Int) then
if 0<=s2.2.1/\s2.2.1<(a4.length:Int) then
Option.bind (CO (a0.1,s2.2.2) ((gl ((0,0):(Int×Int)) a4 s2.2.1.toNat).2)) (fun r4=>
AI (σ:=((List B5)×Int×OL×(List BB))) (β:=(((List B5)×Int×OL×(List BB)) ⊕ ((List B5)×OL×(List BB)))) (fun s3=>
if s3.2.1<(r4.1.length:Int) then
if 0<=s3.2.1/\s3.2.1<(r4.1.length:Int) then
if 0<=(gl (0:Int) r4.1 s3.2.1.toNat)/\(gl (0:Int) r4.1 s3.2.1.toNat)<(s3.2.2.1.length:Int) then
Option.bind (CS (a0.1,s3.2.2) s3.1 (gl (0:Int) r4.1 s3.2.1.toNat) (gl (0#64:(BitVec 64)) s3.2.2.1 ((gl (0:Int) r4.1 s3.2.1.toNat).toNat))) (fun r5=>
some (Sum.inl ((r5.1,AG (s3.2.1+1),r5.2.1,r5.2.2))))
else none
else none
else some (Sum.inr (Sum.inl ((s3.1,AG (s2.2.1+1),s3.2.2.1,s3.2.2.2))))) ((s2.1,0,s2.2.2.1,s2.2.2.2)))
else none
else some (Sum.inr ((s2.1,s2.2.2.1,s2.2.2.2)))) ((s1.1,0,s1.2.2.1,s1.2.2.2)))) ((r2,0,a0.2.1,a0.2.2))))
@[reducible] def S7:FnI:={ ps:=[dQ,ABK,ABM,SR,⟨(.slice AMW),false,false,false⟩],rs:=[dP],os:=[aV,xY],bk:=[0,1],F:=fun x=>HO x.1 x.2.1 x.2.2.1 x.2.2.2.1 x.2.2.2.2 }
def eO:Cx:=BE [(5,(6,1)),(15,(12,1)),(23,(7,1)),(24,(8,1)),(39,(10,1)),(51,(13,1)),(68,(15,1))] [] [(146,N4),(171,LX),(173,LW),(174,UJ)] [(0,B8 [(11,dP),(27,AP)] [] [(0,.u64),(1,kN)] (FI [(13,1),(28,13)]) [8] 9),(2,B8 [(11,dP),(43,AP)] [] [(0,.u64),(1,kN)] (FI [(15,3),(19,1),(44,27)]) [9] 11),(4,B8 [(11,dP),(56,AP)] [] [(0,.u64),(1,kN)] (FI [(19,1),(57,13)]) [11] 14)] []
theorem bY:CV 163 S7:=okW eO [.tmp 10] 72 10 (BD (.cons S6 (.cons QC (.cons QA (.cons eM AM.nil)))) A_.nil) Tryz.func163
def EH (a0:DL) (a1:Int):Option (DL×Int):=
Option.bind (DU a0) (fun r1=>
AI (σ:=(Int×DL)) (β:=(DL×Int)) (fun s1=>
if s1.1<(r1.length:Int) then
if 0<=s1.1/\s1.1<(s1.2.length:Int) then
AI (σ:=Int) (β:=((Int×DL) ⊕ (DL×Int))) (fun s2=>
if s2<((s1.2.getD s1.1.toNat []).length:Int) then
if 0<=s2/\s2<((s1.2.getD s1.1.toNat []).length:Int) then
if ((gl ((0,0,0,0,0):AB) (s1.2.getD s1.1.toNat []) s2.toNat).1)=a1 then
if Bd none (some s2) s2.toNat ((s1.2.getD s1.1.toNat []).length) then
if Bd (some (AG (s2+1))) none ((s1.2.getD s1.1.toNat []).length) ((s1.2.getD s1.1.toNat []).length) then
if ((B9 (s1.2.getD s1.1.toNat []) 0 (s2.toNat-0)).length+(B9 (s1.2.getD s1.1.toNat []) ((AG (s2+1)).toNat) (((s1.2.getD s1.1.toNat []).length)-((AG (s2+1)).toNat))).length)*40<=140737488355328 then
if 0<=s1.1/\s1.1<(s1.2.length:Int) then
if s1.1.toNat=s1.1.toNat then
some (Sum.inr (Sum.inr ((s1.2.set s1.1.toNat ((B9 (s1.2.getD s1.1.toNat []) 0 (s2.toNat-0))++(B9 (s1.2.getD s1.1.toNat []) ((AG (s2+1)).toNat) (((s1.2.getD s1.1.toNat []).length)-((AG (s2+1)).toNat)))),0))))
else none
else none
else none
else none
else none
else some (Sum.inl (AG (s2+1)))
else none
else some (Sum.inr (Sum.inl ((AG (s1.1+1),s1.2.set s1.1.toNat (s1.2.getD s1.1.toNat [])))))) (0)
else none
else some (Sum.inr (([],5)))) ((0,r1)))
@[reducible] def Q5:FnI:=BK [I2,AP] [AH6,CY] fun x=>EH x.1 x.2
def bZ:Cx:=BE [(10,(3,1)),(12,(1,1)),(19,(2,1)),(40,(4,1))] [40] [(13,F7)] [(0,B8 [(15,AP)] [] [(1,ABI)] (FI [(4,2),(7,4),(16,29)]) [] 2),(2,B8 [(22,AP)] [] [] (FI [(4,2),(9,2),(23,21)]) [] 3)] []
theorem ZT:CV 164 Q5:=okW bZ [.tmp 4,.tmp 5] 45 4 (BD (.cons G7 AM.nil) A_.nil) Tryz.func164
def HP (a0:B7) (a1:Int):Option B7:=
AI (σ:=(Int×Int×OL×(List BB))) (β:=B7) (fun s1=>
if s1.2.1<(a0.2.2.length:Int) then
if 0<=s1.2.1/\s1.2.1<(s1.2.2.2.length:Int) then
if ¬((gl ((0,0,0):BB) s1.2.2.2 s1.2.1.toNat).1)=a1 then
some (Sum.inl ((s1.1,AG (s1.2.1+1),s1.2.2.1,s1.2.2.2)))
else if 0<=s1.2.1/\s1.2.1<(s1.2.2.2.length:Int) then
if True then
AI (σ:=(Int×OL)) (β:=((Int×Int×OL×(List BB)) ⊕ B7)) (fun s2=>
if True then
if s2.1<(AG ((AG (s1.2.1+1))*2 ^ min (BitVec.ofInt 64 a0.1).toNat 64)) then
if 0<=s2.1/\s2.1<(s2.2.length:Int) then
some (Sum.inl ((AG (s2.1+1),s2.2.set s2.1.toNat (0#64))))
else none
else some (Sum.inr (Sum.inl ((AG (s1.1+1),AG (s1.2.1+1),s2.2,s1.2.2.2.set s1.2.1.toNat ((-1),(-1),(-1))))))
else none) ((AG (s1.2.1*2 ^ min (BitVec.ofInt 64 a0.1).toNat 64),s1.2.2.1))
else none
else none
else none
else some (Sum.inr ((s1.1,s1.2.2.1,s1.2.2.2)))) ((0,0,a0.2.1,a0.2.2))
@[reducible] def S8:FnI:={ ps:=[dQ,AP],rs:=[CY],os:=[aV,xY],bk:=[0,1],F:=fun x=>HP x.1 x.2 }
def eP:Cx:=BE [(2,(2,1)),(7,(3,1))] [] [] [(0,B8 [(5,AP),(12,AP)] [] [(0,.u64),(1,kN)] (FI [(6,3),(13,35)]) [] 3),(2,B8 [(8,AP)] [] [(0,.u64)] (FI [(33,14)]) [] 4)] []
theorem b6:CV 165 S8:=okW eP [.tmp 4] 49 2 (BD AM.nil A_.nil) Tryz.func165
def C9 (a0:DL) (a1:AB):Option (DL×Int):=
if a1.2.1<0 then
some (([],1))
else if a1.2.1≥(a0.length:Int) then
some (([],1))
else Option.bind (DU a0) (fun r1=>
if 0<=a1.2.1/\a1.2.1<(r1.length:Int) then
AI (σ:=Int) (β:=(DL×Int)) (fun s1=>
if s1<((r1.getD a1.2.1.toNat []).length:Int) then
if 0<=s1/\s1<((r1.getD a1.2.1.toNat []).length:Int) then
if ((gl ((0,0,0,0,0):AB) (r1.getD a1.2.1.toNat []) s1.toNat).1)=a1.1 then
if 0<=a1.2.1/\a1.2.1<(r1.length:Int) then
if a1.2.1.toNat=a1.2.1.toNat then
if 0<=s1/\s1<((r1.getD a1.2.1.toNat []).length:Int) then
some (Sum.inr ((r1.set a1.2.1.toNat ((r1.getD a1.2.1.toNat []).set s1.toNat a1),0)))
else none
else none
else none
else some (Sum.inl (AG (s1+1)))
else none
else some (Sum.inr (([],5)))) (0)
else none)
@[reducible] def K0:FnI:={ ps:=[I2,P3],rs:=[AH6,CY],os:=[],bk:=[],cl:=[(2,ABH)],F:=fun x=>C9 x.1 x.2 }
def ZU:Cx:=BE [(3,(1,1)),(8,(4,1)),(20,(2,1)),(25,(3,1))] [] [(13,F7)] [(0,B8 [(27,AP)] [] [] (FI [(4,2),(7,2),(28,19)]) [] 4)] []
theorem PF:CV 141 K0:=okW ZU [.tmp 4,.tmp 5] 47 4 (BD (.cons G7 AM.nil) A_.nil) Tryz.func141
def FU (a0:DL) (a1:AB):Option (DL×Int):=
if a1.2.1<0 then
some (([],1))
else if a1.2.1≥(a0.length:Int) then
some (([],1))
else Option.bind (BO a0 a1.2.1) (fun r1=>
if r1.2=true then
if r1.1.1≥a1.1 then
some (([],5))
else Option.bind (DU a0) (fun r2=>
if 0<=a1.2.1/\a1.2.1<(r2.length:Int) then
if ((r2.getD a1.2.1.toNat []).length+([a1]:List AB).length)*40<=140737488355328 then
if 0<=a1.2.1/\a1.2.1<(r2.length:Int) then
if a1.2.1.toNat=a1.2.1.toNat then
some ((r2.set a1.2.1.toNat ((r2.getD a1.2.1.toNat [])++([a1]:List AB)),0))
else none
else none
else none
else none)
else Option.bind (DU a0) (fun r3=>
if 0<=a1.2.1/\a1.2.1<(r3.length:Int) then
if ((r3.getD a1.2.1.toNat []).length+([a1]:List AB).length)*40<=140737488355328 then
if 0<=a1.2.1/\a1.2.1<(r3.length:Int) then
if a1.2.1.toNat=a1.2.1.toNat then
some ((r3.set a1.2.1.toNat ((r3.getD a1.2.1.toNat [])++([a1]:List AB)),0))
else none
else none
else none
else none))
@[reducible] def O5:FnI:=BK [I2,P3] [AH6,CY] fun x=>FU x.1 x.2
def lX:Cx:=BE [(3,(1,1)),(6,(2,1)),(35,(3,1)),(43,(4,1)),(45,(5,1)),(46,(6,1))] [46] [(13,F7),(17,DF)] [] []
theorem UL:CV 140 O5:=okW lX [.tmp 4,.tmp 5] 49 6 (BD (.cons G7 (.cons D2 AM.nil)) A_.nil) Tryz.func140
def CH (a0:C6) (a1:(List AB)):Option (C6×QY×Int):=
Option.bind (G6 a0 a1) (fun r1=>
if ¬r1.2=0 then
some (((((⟨#[]⟩:ByteArray),[],0),(0,[],[]),[],0,[],([],[]),0,(0,0,0,0,0,0,0,0,0),false),(0,0,0,0),r1.2))
else AI (σ:=(Int×Int×QY)) (β:=(C6×QY×Int)) (fun s1=>
if s1.2.1<(a1.length:Int) then
if 0<=s1.2.1/\s1.2.1<(a1.length:Int) then
Option.bind (BU a0.2.1 ((gl ((0,0,0,0,0):AB) a1 s1.2.1.toNat).1,((gl ((0,0,0,0,0):AB) a1 s1.2.1.toNat).2).1,(((gl ((0,0,0,0,0):AB) a1 s1.2.1.toNat).2).2).1,((((gl ((0,0,0,0,0):AB) a1 s1.2.1.toNat).2).2).2))) (fun r2=>
some (Sum.inl ((AG (s1.1+r2),AG (s1.2.1+1),(AG (s1.2.2.1+(((((gl ((0,0,0,0,0):AB) a1 s1.2.1.toNat).2).2).2).2)),s1.2.2.2)))))
else none
else Option.map Sum.inr (Option.bind (DS a0.2.1) (fun r3=>
if s1.1>(r3.length:Int) then
some (((((⟨#[]⟩:ByteArray),[],0),(0,[],[]),[],0,[],([],[]),0,(0,0,0,0,0,0,0,0,0),false),(0,0,0,0),4))
else Option.bind (BX a0) (fun r4=>
Option.bind (IT a0.2.1 a0.2.2.2.2.2.1 a1) (fun r5=>
Option.bind (IU a0.2.1 a0.2.2.2.2.1 a1) (fun r6=>
AI (σ:=(OL×Int)) (β:=(C6×QY×Int)) (fun s2=>
if s2.2<(r5.length:Int) then
if 0<=s2.2/\s2.2<(r5.length:Int) then
if 0<=(AG ((gl (0:Int) r5 s2.2.toNat)-1))/\(AG ((gl (0:Int) r5 s2.2.toNat)-1))<(a0.2.2.2.2.2.1.2.length:Int) then
if (s2.1.length+([gl (0#64:(BitVec 64)) a0.2.2.2.2.2.1.2 ((AG ((gl (0:Int) r5 s2.2.toNat)-1)).toNat)]:List (BitVec 64)).length)*8<=140737488355328 then
some (Sum.inl ((s2.1++([gl (0#64:(BitVec 64)) a0.2.2.2.2.2.1.2 ((AG ((gl (0:Int) r5 s2.2.toNat)-1)).toNat)]:List (BitVec 64)),AG (s2.2+1))))
else none
else none
else none
else Option.map Sum.inr (AI (σ:=(OL×Int)) (β:=(C6×QY×Int)) (fun s3=>
if s3.2<(r6.1.length:Int) then
if 0<=s3.2/\s3.2<(r6.1.length:Int) then
if 0<=(gl (0:Int) r6.1 s3.2.toNat)/\(gl (0:Int) r6.1 s3.2.toNat)<(a0.2.1.2.1.length:Int) then
if (s3.1.length+([gl (0#64:(BitVec 64)) a0.2.1.2.1 ((gl (0:Int) r6.1 s3.2.toNat).toNat)]:List (BitVec 64)).length)*8<=140737488355328 then
some (Sum.inl ((s3.1++([gl (0#64:(BitVec 64)) a0.2.1.2.1 ((gl (0:Int) r6.1 s3.2.toNat).toNat)]:List (BitVec 64)),AG (s3.2+1))))
else none
else none
else none
else Option.map Sum.inr (Option.bind (ME r4.2.1 a1 r1.1 s3.1) (fun r7=>
if ¬r7.2.2.2.1=0 then
some (((((⟨#[]⟩:ByteArray),[],0),(0,[],[]),[],0,[],([],[]),0,(0,0,0,0,0,0,0,0,0),false),(0,0,0,0),r7.2.2.2.1))
else AI (σ:=(Int×OL)) (β:=(C6×QY×Int)) (fun s4=>
if s4.1<(r5.length:Int) then
if 0<=s4.1/\s4.1<(r5.length:Int) then
if 0<=s4.1/\s4.1<(r7.2.2.1.length:Int) then
if 0<=(AG ((gl (0:Int) r5 s4.1.toNat)-1))/\(AG ((gl (0:Int) r5 s4.1.toNat)-1))<(s4.2.length:Int) then
some (Sum.inl ((AG (s4.1+1),s4.2.set ((AG ((gl (0:Int) r5 s4.1.toNat)-1)).toNat) (gl (0#64:(BitVec 64)) r7.2.2.1 s4.1.toNat))))
else none
else none
else none
else Option.map Sum.inr (AI (σ:=(Int×OL)) (β:=(C6×QY×Int)) (fun s5=>
if s5.1<(r6.1.length:Int) then
if 0<=s5.1/\s5.1<(r6.1.length:Int) then
if 0<=(AG ((r5.length:Int)+s5.1))/\(AG ((r5.length:Int)+s5.1))<(r7.2.2.1.length:Int) then
if 0<=(gl (0:Int) r6.1 s5.1.toNat)/\(gl (0:Int) r6.1 s5.1.toNat)<(s5.2.length:Int) then
some (Sum.inl ((AG (s5.1+1),s5.2.set ((gl (0:Int) r6.1 s5.1.toNat).toNat) (gl (0#64:(BitVec 64)) r7.2.2.1 ((AG ((r5.length:Int)+s5.1)).toNat)))))
else none
else none
else none
else Option.map Sum.inr (Option.bind (HO (r4.2.1.1,s5.2,r7.2.2.2.2.2.1) r4.2.2.2.2.1 r7.2.2.2.2.2.2 r6.1 r7.2.1) (fun r8=>
AI (σ:=(Int×C6)) (β:=(C6×QY×Int)) (fun s6=>
if s6.1<(r7.2.2.2.2.2.2.length:Int) then
if 0<=s6.1/\s6.1<(r7.2.2.2.2.2.2.length:Int) then
Option.bind (EH s6.2.2.2.1 ((gl ((0,0,0,0,0):AB) r7.2.2.2.2.2.2 s6.1.toNat).1)) (fun r9=>
Option.bind (HP s6.2.2.1 ((gl ((0,0,0,0,0):AB) r7.2.2.2.2.2.2 s6.1.toNat).1)) (fun JJ=>
some (Sum.inl ((AG (s6.1+1),(s6.2.1,(s6.2.2.1.1,JJ.2),r9.1,s6.2.2.2.2))))))
else none
else Option.map Sum.inr (Option.bind (α:=C6 ⊕ (C6×QY×Int)) (if r1.1.2.2.2.2>0 then
Option.bind (C9 s6.2.2.2.1 r7.1) (fun QR=>
some (Sum.inl ((s6.2.1,s6.2.2.1,QR.1,s6.2.2.2.2))))
else if r7.1.2.2.2.2>0 then
Option.bind (FU s6.2.2.2.1 r7.1) (fun OF=>
some (Sum.inl ((s6.2.1,s6.2.2.1,OF.1,AG (s6.2.2.2.2.1+1),s6.2.2.2.2.2))))
else some (Sum.inl (s6.2))) (fun q=>match q with
|Sum.inl j1=>(Option.bind (GU a0.2.2.2.2.2.1) (fun Q6=>
some (((j1.1,j1.2.1,j1.2.2.1,j1.2.2.2.1,j1.2.2.2.2.1,j1.2.2.2.2.2.1,j1.2.2.2.2.2.2.1,(j1.2.2.2.2.2.2.2.1.1,j1.2.2.2.2.2.2.2.1.2.1,j1.2.2.2.2.2.2.2.1.2.2.1,AG (j1.2.2.2.2.2.2.2.1.2.2.2.1+1),j1.2.2.2.2.2.2.2.1.2.2.2.2.1,AG (j1.2.2.2.2.2.2.2.1.2.2.2.2.2.1+s1.2.2.1),AG (j1.2.2.2.2.2.2.2.1.2.2.2.2.2.2.1+(AG (r7.1.2.2.2.2-r1.1.2.2.2.2))),AG (j1.2.2.2.2.2.2.2.1.2.2.2.2.2.2.2.1+r6.2),AG (j1.2.2.2.2.2.2.2.1.2.2.2.2.2.2.2.2+(AG ((AG ((Q6.length:Int)+r6.2))+(AG ((2:Int)*(AG (r7.1.2.2.2.2-r1.1.2.2.2.2)))))))),j1.2.2.2.2.2.2.2.2),(s1.2.2.1,AG (r7.1.2.2.2.2-r1.1.2.2.2.2),r6.2,AG ((AG ((Q6.length:Int)+r6.2))+(AG ((2:Int)*(AG (r7.1.2.2.2.2-r1.1.2.2.2.2)))))),0))))
|Sum.inr b1=>some b1))) ((0,(r4.1,(r4.2.1.1,r8.2),r4.2.2.1,r4.2.2.2.1,r8.1,(r4.2.2.2.2.2.1.1,s4.2),r4.2.2.2.2.2.2)))))) ((0,r7.2.2.2.2.1)))) ((0,r4.2.2.2.2.2.1.2))))) ((s2.1,0)))) (([],0)))))))) ((0,0,(0,0,0,0))))
@[reducible] def CQ:FnI:=BK [IH,kP] [W2,⟨AMX,true,true,false⟩,CY] fun x=>CH x.1 x.2
def n_:Cx:=BE [(2,(8,1)),(4,(9,1)),(5,(10,1)),(7,(11,1)),(10,(12,1)),(12,(13,1)),(13,(22,1)),(22,(33,1)),(29,(35,1)),(63,(14,1)),(69,(15,7)),(75,(23,1)),(82,(24,1)),(99,(26,1)),(100,(27,1)),(115,(29,1)),(116,(30,1)),(124,(31,2)),(179,(34,1)),(192,(36,1)),(209,(44,1)),(220,(45,1)),(238,(53,1))] [100,116] [(46,C8),(83,HL),(96,D4),(137,JZ),(140,O5),(141,K0),(159,Q3),(160,QB),(161,QE),(162,VR),(163,S7),(164,Q5),(165,S8)] [(0,B8 [(9,AP),(43,AP)] [(12,ABL)] [] (FI [(12,1),(44,16)]) [] 13),(2,B8 [(17,aV),(87,AP)] [] [] (FI [(19,1),(88,14)]) [] 25),(4,B8 [(17,aV),(104,AP)] [] [] (FI [(21,1),(105,13)]) [25] 28),(6,B8 [(136,AP)] [] [(21,.u64)] (FI [(24,2),(137,15)]) [] 34),(8,B8 [(154,AP)] [] [(16,.u64)] (FI [(26,2),(155,17)]) [] 34),(10,{ live:=[(183,AP)],boxes:=[(22,W2)],rows:=[],dead:=FI [(29,1),(184,18)],lost:=[15,16,17,18,34,20,21],base:=37,pins:=[(37,15,22),(38,16,22),(39,17,22),(41,34,22),(42,20,22),(43,21,22)] })] [(53,{ live:=[],boxes:=[(22,W2)],rows:=[],dead:=FI [(202,26)],lost:=[40,15,16,17,34,20,21],base:=46,pins:=[(46,15,22),(47,16,22),(48,17,22),(50,34,22),(51,20,22),(52,21,22)] })]
theorem lY:CV 153 CQ:=okW n_ [.cell 4 41,.cell 5 209,.tmp 6] 287 46 (BD (.cons DQ (.cons I8 (.cons EF (.cons M9 (.cons UL (.cons PF (.cons ZP (.cons YK (.cons YL (.cons iV (.cons bY (.cons ZT (.cons b6 AM.nil))))))))))))) A_.nil) Tryz.func153
def K1 (a0:B7):Option Int:=
Option.bind (DS a0) (fun r1=>
some (AG ((a0.2.2.length:Int)-(r1.length:Int))))
@[reducible] def UM:FnI:=BK [D3] [CY] fun x=>K1 x
def jK:Cx:=BE [(1,(2,1)),(7,(3,1))] [] [(83,HL)] [] []
theorem eQ:CV 43 UM:=okW jK [.tmp 2] 10 2 (BD (.cons I8 AM.nil) A_.nil) Tryz.func43
def CN (a0:D7):Option Bool:=
Option.bind (DA a0) (fun r1=>
if r1=0 then
if 0<=(AG ((a0.2.1.length:Int)-1))/\(AG ((a0.2.1.length:Int)-1))<(a0.2.1.length:Int) then
some (decide (DJ ((gl ((0,0,0,0):AJ) a0.2.1 ((AG ((a0.2.1.length:Int)-1)).toNat)).1) 0=some .eq))
else none
else some (false))
@[reducible] def KH:FnI:=BK [PD] [FN] fun x=>CN x
def YM:Cx:=BE [(1,(1,1))] [] [(38,FJ)] [] []
theorem ON:CV 44 KH:=okW YM [.tmp 2] 18 1 (BD (.cons GH AM.nil) A_.nil) Tryz.func44
def GI (a0:B7) (a1:DL):Option Int:=
AI (σ:=(Int×Int)) (β:=Int) (fun s1=>
if s1.2<(a1.length:Int) then
if 0<=s1.2/\s1.2<(a1.length:Int) then
AI (σ:=(Int×Int)) (β:=((Int×Int) ⊕ Int)) (fun s2=>
if s2.2<((gl ([]:(List AB)) a1 s1.2.toNat).length:Int) then
if 0<=s2.2/\s2.2<((gl ([]:(List AB)) a1 s1.2.toNat).length:Int) then
Option.bind (BU a0 ((gl ((0,0,0,0,0):AB) (gl ([]:(List AB)) a1 s1.2.toNat) s2.2.toNat).1,((gl ((0,0,0,0,0):AB) (gl ([]:(List AB)) a1 s1.2.toNat) s2.2.toNat).2).1,(((gl ((0,0,0,0,0):AB) (gl ([]:(List AB)) a1 s1.2.toNat) s2.2.toNat).2).2).1,((((gl ((0,0,0,0,0):AB) (gl ([]:(List AB)) a1 s1.2.toNat) s2.2.toNat).2).2).2))) (fun r1=>
some (Sum.inl ((if r1>s2.1 then r1 else s2.1,AG (s2.2+1)))))
else none
else some (Sum.inr (Sum.inl ((s2.1,AG (s1.2+1)))))) ((s1.1,0))
else none
else some (Sum.inr (s1.1))) ((0,0))
@[reducible] def QF:FnI:=BK [D3,I2] [CY] fun x=>GI x.1 x.2
def ZV:Cx:=BE [(2,(3,1)),(9,(5,1)),(15,(4,1))] [] [(46,C8)] [(0,B8 [(5,AP),(12,AP)] [] [] (FI [(7,1),(9,1),(13,16)]) [] 4),(2,B8 [(5,AP),(18,AP)] [] [] (FI [(9,1),(19,9)]) [] 5)] []
theorem YN:CV 45 QF:=okW ZV [.tmp 4] 30 3 (BD (.cons DQ AM.nil) A_.nil) Tryz.func45
def B6 (a0:D7) (a1:B7) (a2:DL) (a3:AB) (a4:Int):Option Bool:=
Option.bind (ER a1 a3 a4) (fun r1=>
if r1=0 then
some (true)
else Option.bind (K1 a1) (fun r2=>
if (AG (r2+r1))>(a1.2.2.length:Int) then
some (false)
else Option.bind (CN a0) (fun r3=>
if r3=true then
some (decide ((AG ((2:Int)*(AG (r2+r1))))<=(a1.2.2.length:Int)))
else Option.bind (GI a1 a2) (fun r4=>
Option.bind (BU a1 a3) (fun r5=>
some (decide ((AG ((a1.2.2.length:Int)-(AG (r2+r1))))≥(if (AG (r5+r1))>r4 then AG (r5+r1) else r4))))))))
@[reducible] def LY:FnI:=BK [PD,D3,I2,P3,AP] [FN] fun x=>B6 x.1 x.2.1 x.2.2.1 x.2.2.2.1 x.2.2.2.2
def b7:Cx:=BE [(5,(4,1)),(6,(5,1)),(8,(6,1))] [] [(22,I7),(43,UM),(44,KH),(45,QF),(46,C8)] [] []
theorem QG:CV 20 LY:=okW b7 [.tmp 10] 49 3 (BD (.cons LU (.cons eQ (.cons ON (.cons YN (.cons DQ AM.nil))))) A_.nil) Tryz.func20
def AY (a0:D7) (a1:B7) (a2:DL) (a3:Int) (a4:Int):Option (Int×AB):=
Option.bind (D9 a0 0 (a1.2.2.length:Int)) (fun r1=>
Option.bind (BO a2 0) (fun r2=>
if r2.2=true then
Option.bind (FD a1 r2.1 r1.1) (fun r3=>
if r3=true then
Option.bind (B6 a0 a1 a2 r2.1 a4) (fun r4=>
if (!r4)=true then
some ((3,(0,0,0,0,0)))
else some ((1,r2.1)))
else if 0<=(0:Int)/\(0:Int)<(a0.2.1.length:Int) then
if ¬(((gl ((0,0,0,0):AJ) a0.2.1 ((0:Int).toNat)).2).1)=0 then
if 0<=(0:Int)/\(0:Int)<(a2.length:Int) then
if ((gl ([]:(List AB)) a2 ((0:Int).toNat)).length:Int)≥(((gl ((0,0,0,0):AJ) a0.2.1 ((0:Int).toNat)).2).1) then
some ((3,(0,0,0,0,0)))
else Option.bind (B6 a0 a1 a2 (a3,0,(-1),(-1),0) a4) (fun r5=>
if (!r5)=true then
some ((3,(0,0,0,0,0)))
else some ((2,(a3,0,(-1),(-1),0))))
else none
else Option.bind (B6 a0 a1 a2 (a3,0,(-1),(-1),0) a4) (fun r6=>
if (!r6)=true then
some ((3,(0,0,0,0,0)))
else some ((2,(a3,0,(-1),(-1),0))))
else none)
else if 0<=(0:Int)/\(0:Int)<(a0.2.1.length:Int) then
if ¬(((gl ((0,0,0,0):AJ) a0.2.1 ((0:Int).toNat)).2).1)=0 then
if 0<=(0:Int)/\(0:Int)<(a2.length:Int) then
if ((gl ([]:(List AB)) a2 ((0:Int).toNat)).length:Int)≥(((gl ((0,0,0,0):AJ) a0.2.1 ((0:Int).toNat)).2).1) then
some ((3,(0,0,0,0,0)))
else Option.bind (B6 a0 a1 a2 (a3,0,(-1),(-1),0) a4) (fun r7=>
if (!r7)=true then
some ((3,(0,0,0,0,0)))
else some ((2,(a3,0,(-1),(-1),0))))
else none
else Option.bind (B6 a0 a1 a2 (a3,0,(-1),(-1),0) a4) (fun r8=>
if (!r8)=true then
some ((3,(0,0,0,0,0)))
else some ((2,(a3,0,(-1),(-1),0))))
else none))
@[reducible] def J0:FnI:=BK [PD,D3,I2,AP,AP] [CY,kO] fun x=>AY x.1 x.2.1 x.2.2.1 x.2.2.2.1 x.2.2.2.2
def jL:Cx:=BE [(5,(4,1)),(6,(5,1)),(11,(6,1)),(15,(7,1)),(16,(8,1)),(52,(9,1))] [] [(17,DF),(18,IM),(19,HN),(20,LY)] [] []
theorem M_:CV 40 J0:=okW jL [.tmp 10,.cell 11 57] 68 6 (BD (.cons D2 (.cons JW (.cons JA (.cons QG AM.nil)))) A_.nil) Tryz.func40
def ES (a0:C6) (a1:Int):Option Bool:=
Option.bind (AY a0.1 a0.2.1 a0.2.2.1 a0.2.2.2.1 a1) (fun r1=>
some (decide (r1.1=3)))
@[reducible] def NA:FnI:=BK [IH,AP] [FN] fun x=>ES x.1 x.2
def eR:Cx:=BE [(2,(7,1)),(6,(8,1))] [] [(40,J0)] [] []
theorem Q7:CV 151 NA:=okW eR [.tmp 4] 22 2 (BD (.cons M_ AM.nil) A_.nil) Tryz.func151
def DV (a0:D7) (a1:DL):Option (List Int):=
Option.bind (DA a0) (fun r1=>
if ¬r1=0 then
some ([])
else if ¬(a1.length:Int)=(a0.2.1.length:Int) then
some ([])
else AI (σ:=GB) (β:=(List Int)) (fun s1=>
if s1.2<(a1.length:Int) then
if 0<=s1.2/\s1.2<(a1.length:Int) then
if 0<=s1.2/\s1.2<(a0.2.1.length:Int) then
if ¬(((gl ((0,0,0,0):AJ) a0.2.1 s1.2.toNat).2).1)=0 then
if ((gl ([]:(List AB)) a1 s1.2.toNat).length:Int)>(((gl ((0,0,0,0):AJ) a0.2.1 s1.2.toNat).2).1) then
if (s1.1.length+([s1.2]:List Int).length)*8<=140737488355328 then
some (Sum.inl ((s1.1++([s1.2]:List Int),AG (s1.2+1))))
else none
else some (Sum.inl ((s1.1,AG (s1.2+1))))
else some (Sum.inl ((s1.1,AG (s1.2+1))))
else none
else none
else some (Sum.inr (s1.1))) (([],0)))
@[reducible] def N5:FnI:=BK [PD,I2] [I3] fun x=>DV x.1 x.2
def jM:Cx:=BE [(2,(2,1)),(26,(4,1)),(43,(5,1)),(44,(6,1))] [44] [(38,FJ)] [(0,B8 [(5,I3),(22,AP)] [] [] (FI [(6,3),(23,23)]) [] 3)] []
theorem S9:CV 25 N5:=okW jM [.tmp 4] 47 5 (BD (.cons GH AM.nil) A_.nil) Tryz.func25
def C2 (a0:D7) (a1:B7) (a2:DL) (a3:APH):Option sR:=
AI (σ:=APH) (β:=sR) (fun s1=>
if s1.1<(AG ((a2.length:Int)-1)) then
if 0<=s1.1/\s1.1<(a2.length:Int) then
if ((gl ([]:(List AB)) a2 s1.1.toNat).length:Int)=0 then
some (Sum.inl ((AG (s1.1+1),false,0)))
else Option.map Sum.inr (Option.bind (α:=APH ⊕ sR) (if s1.1=(AG ((a2.length:Int)-1)) then
if (!s1.2.1)=true then
Option.bind (BO a2 (AG ((a2.length:Int)-1))) (fun r1=>
if r1.2=true then
some (Sum.inl ((s1.1,true,r1.1.1)))
else some (Sum.inl ((s1.1,true,(-1)))))
else some (Sum.inl (s1))
else some (Sum.inl (s1))) (fun q=>match q with
|Sum.inl j1=>(if 0<=j1.1/\j1.1<(a2.length:Int) then
AI (σ:=((List AB)×Int)) (β:=sR) (fun s2=>
if s2.2<((gl ([]:(List AB)) a2 j1.1.toNat).length:Int) then
if 0<=s2.2/\s2.2<((gl ([]:(List AB)) a2 j1.1.toNat).length:Int) then
if j1.1<(AG ((a2.length:Int)-1)) then
if (s2.1.length+([((gl ((0,0,0,0,0):AB) (gl ([]:(List AB)) a2 j1.1.toNat) s2.2.toNat).1,((gl ((0,0,0,0,0):AB) (gl ([]:(List AB)) a2 j1.1.toNat) s2.2.toNat).2).1,(((gl ((0,0,0,0,0):AB) (gl ([]:(List AB)) a2 j1.1.toNat) s2.2.toNat).2).2).1,((((gl ((0,0,0,0,0):AB) (gl ([]:(List AB)) a2 j1.1.toNat) s2.2.toNat).2).2).2))]:List AB).length)*40<=140737488355328 then
some (Sum.inl ((s2.1++([((gl ((0,0,0,0,0):AB) (gl ([]:(List AB)) a2 j1.1.toNat) s2.2.toNat).1,((gl ((0,0,0,0,0):AB) (gl ([]:(List AB)) a2 j1.1.toNat) s2.2.toNat).2).1,(((gl ((0,0,0,0,0):AB) (gl ([]:(List AB)) a2 j1.1.toNat) s2.2.toNat).2).2).1,((((gl ((0,0,0,0,0):AB) (gl ([]:(List AB)) a2 j1.1.toNat) s2.2.toNat).2).2).2))]:List AB),AG (s2.2+1))))
else none
else if ((gl ((0,0,0,0,0):AB) (gl ([]:(List AB)) a2 j1.1.toNat) s2.2.toNat).1)<=j1.2.2 then
if (s2.1.length+([((gl ((0,0,0,0,0):AB) (gl ([]:(List AB)) a2 j1.1.toNat) s2.2.toNat).1,((gl ((0,0,0,0,0):AB) (gl ([]:(List AB)) a2 j1.1.toNat) s2.2.toNat).2).1,(((gl ((0,0,0,0,0):AB) (gl ([]:(List AB)) a2 j1.1.toNat) s2.2.toNat).2).2).1,((((gl ((0,0,0,0,0):AB) (gl ([]:(List AB)) a2 j1.1.toNat) s2.2.toNat).2).2).2))]:List AB).length)*40<=140737488355328 then
some (Sum.inl ((s2.1++([((gl ((0,0,0,0,0):AB) (gl ([]:(List AB)) a2 j1.1.toNat) s2.2.toNat).1,((gl ((0,0,0,0,0):AB) (gl ([]:(List AB)) a2 j1.1.toNat) s2.2.toNat).2).1,(((gl ((0,0,0,0,0):AB) (gl ([]:(List AB)) a2 j1.1.toNat) s2.2.toNat).2).2).1,((((gl ((0,0,0,0,0):AB) (gl ([]:(List AB)) a2 j1.1.toNat) s2.2.toNat).2).2).2))]:List AB),AG (s2.2+1))))
else none
else some (Sum.inl ((s2.1,AG (s2.2+1))))
else none
else Option.map Sum.inr (if (s2.1.length:Int)=0 then
some (([],j1,true))
else Option.bind (DS a1) (fun r2=>
if 0<=j1.1/\j1.1<(a0.2.1.length:Int) then
AI (σ:=((List AB)×Int×Int)) (β:=sR) (fun s3=>
if s3.2.2<(s2.1.length:Int) then
if 0<=s3.2.2/\s3.2.2<(s2.1.length:Int) then
Option.bind (BU a1 ((gl ((0,0,0,0,0):AB) s2.1 s3.2.2.toNat).1,((gl ((0,0,0,0,0):AB) s2.1 s3.2.2.toNat).2).1,(((gl ((0,0,0,0,0):AB) s2.1 s3.2.2.toNat).2).2).1,((((gl ((0,0,0,0,0):AB) s2.1 s3.2.2.toNat).2).2).2))) (fun r3=>
if (AG (s3.2.1-r3))<0 then
some (Sum.inr ((s3.1,j1,false)))
else if ¬((((gl ((0,0,0,0):AJ) a0.2.1 j1.1.toNat).2).2).1)=0 then
if (s3.1.length:Int)=((((gl ((0,0,0,0):AJ) a0.2.1 j1.1.toNat).2).2).1) then
some (Sum.inr ((s3.1,j1,false)))
else if (s3.1.length+([((gl ((0,0,0,0,0):AB) s2.1 s3.2.2.toNat).1,((gl ((0,0,0,0,0):AB) s2.1 s3.2.2.toNat).2).1,(((gl ((0,0,0,0,0):AB) s2.1 s3.2.2.toNat).2).2).1,((((gl ((0,0,0,0,0):AB) s2.1 s3.2.2.toNat).2).2).2))]:List AB).length)*40<=140737488355328 then
some (Sum.inl ((s3.1++([((gl ((0,0,0,0,0):AB) s2.1 s3.2.2.toNat).1,((gl ((0,0,0,0,0):AB) s2.1 s3.2.2.toNat).2).1,(((gl ((0,0,0,0,0):AB) s2.1 s3.2.2.toNat).2).2).1,((((gl ((0,0,0,0,0):AB) s2.1 s3.2.2.toNat).2).2).2))]:List AB),AG (s3.2.1-r3),AG (s3.2.2+1))))
else none
else if (s3.1.length+([((gl ((0,0,0,0,0):AB) s2.1 s3.2.2.toNat).1,((gl ((0,0,0,0,0):AB) s2.1 s3.2.2.toNat).2).1,(((gl ((0,0,0,0,0):AB) s2.1 s3.2.2.toNat).2).2).1,((((gl ((0,0,0,0,0):AB) s2.1 s3.2.2.toNat).2).2).2))]:List AB).length)*40<=140737488355328 then
some (Sum.inl ((s3.1++([((gl ((0,0,0,0,0):AB) s2.1 s3.2.2.toNat).1,((gl ((0,0,0,0,0):AB) s2.1 s3.2.2.toNat).2).1,(((gl ((0,0,0,0,0):AB) s2.1 s3.2.2.toNat).2).2).1,((((gl ((0,0,0,0,0):AB) s2.1 s3.2.2.toNat).2).2).2))]:List AB),AG (s3.2.1-r3),AG (s3.2.2+1))))
else none)
else none
else some (Sum.inr ((s3.1,j1,false)))) (([],(r2.length:Int),0))
else none))) (([],0))
else none)
|Sum.inr b1=>some b1))
else none
else Option.map Sum.inr (Option.bind (α:=APH ⊕ sR) (if s1.1=(AG ((a2.length:Int)-1)) then
if (!s1.2.1)=true then
Option.bind (BO a2 (AG ((a2.length:Int)-1))) (fun r4=>
if r4.2=true then
some (Sum.inl ((s1.1,true,r4.1.1)))
else some (Sum.inl ((s1.1,true,(-1)))))
else some (Sum.inl (s1))
else some (Sum.inl (s1))) (fun q=>match q with
|Sum.inl j2=>(if 0<=j2.1/\j2.1<(a2.length:Int) then
AI (σ:=((List AB)×Int)) (β:=sR) (fun s4=>
if s4.2<((gl ([]:(List AB)) a2 j2.1.toNat).length:Int) then
if 0<=s4.2/\s4.2<((gl ([]:(List AB)) a2 j2.1.toNat).length:Int) then
if j2.1<(AG ((a2.length:Int)-1)) then
if (s4.1.length+([((gl ((0,0,0,0,0):AB) (gl ([]:(List AB)) a2 j2.1.toNat) s4.2.toNat).1,((gl ((0,0,0,0,0):AB) (gl ([]:(List AB)) a2 j2.1.toNat) s4.2.toNat).2).1,(((gl ((0,0,0,0,0):AB) (gl ([]:(List AB)) a2 j2.1.toNat) s4.2.toNat).2).2).1,((((gl ((0,0,0,0,0):AB) (gl ([]:(List AB)) a2 j2.1.toNat) s4.2.toNat).2).2).2))]:List AB).length)*40<=140737488355328 then
some (Sum.inl ((s4.1++([((gl ((0,0,0,0,0):AB) (gl ([]:(List AB)) a2 j2.1.toNat) s4.2.toNat).1,((gl ((0,0,0,0,0):AB) (gl ([]:(List AB)) a2 j2.1.toNat) s4.2.toNat).2).1,(((gl ((0,0,0,0,0):AB) (gl ([]:(List AB)) a2 j2.1.toNat) s4.2.toNat).2).2).1,((((gl ((0,0,0,0,0):AB) (gl ([]:(List AB)) a2 j2.1.toNat) s4.2.toNat).2).2).2))]:List AB),AG (s4.2+1))))
else none
else if ((gl ((0,0,0,0,0):AB) (gl ([]:(List AB)) a2 j2.1.toNat) s4.2.toNat).1)<=j2.2.2 then
if (s4.1.length+([((gl ((0,0,0,0,0):AB) (gl ([]:(List AB)) a2 j2.1.toNat) s4.2.toNat).1,((gl ((0,0,0,0,0):AB) (gl ([]:(List AB)) a2 j2.1.toNat) s4.2.toNat).2).1,(((gl ((0,0,0,0,0):AB) (gl ([]:(List AB)) a2 j2.1.toNat) s4.2.toNat).2).2).1,((((gl ((0,0,0,0,0):AB) (gl ([]:(List AB)) a2 j2.1.toNat) s4.2.toNat).2).2).2))]:List AB).length)*40<=140737488355328 then
some (Sum.inl ((s4.1++([((gl ((0,0,0,0,0):AB) (gl ([]:(List AB)) a2 j2.1.toNat) s4.2.toNat).1,((gl ((0,0,0,0,0):AB) (gl ([]:(List AB)) a2 j2.1.toNat) s4.2.toNat).2).1,(((gl ((0,0,0,0,0):AB) (gl ([]:(List AB)) a2 j2.1.toNat) s4.2.toNat).2).2).1,((((gl ((0,0,0,0,0):AB) (gl ([]:(List AB)) a2 j2.1.toNat) s4.2.toNat).2).2).2))]:List AB),AG (s4.2+1))))
else none
else some (Sum.inl ((s4.1,AG (s4.2+1))))
else none
else Option.map Sum.inr (if (s4.1.length:Int)=0 then
some (([],j2,true))
else Option.bind (DS a1) (fun r5=>
if 0<=j2.1/\j2.1<(a0.2.1.length:Int) then
AI (σ:=((List AB)×Int×Int)) (β:=sR) (fun s5=>
if s5.2.2<(s4.1.length:Int) then
if 0<=s5.2.2/\s5.2.2<(s4.1.length:Int) then
Option.bind (BU a1 ((gl ((0,0,0,0,0):AB) s4.1 s5.2.2.toNat).1,((gl ((0,0,0,0,0):AB) s4.1 s5.2.2.toNat).2).1,(((gl ((0,0,0,0,0):AB) s4.1 s5.2.2.toNat).2).2).1,((((gl ((0,0,0,0,0):AB) s4.1 s5.2.2.toNat).2).2).2))) (fun r6=>
if (AG (s5.2.1-r6))<0 then
some (Sum.inr ((s5.1,j2,false)))
else if ¬((((gl ((0,0,0,0):AJ) a0.2.1 j2.1.toNat).2).2).1)=0 then
if (s5.1.length:Int)=((((gl ((0,0,0,0):AJ) a0.2.1 j2.1.toNat).2).2).1) then
some (Sum.inr ((s5.1,j2,false)))
else if (s5.1.length+([((gl ((0,0,0,0,0):AB) s4.1 s5.2.2.toNat).1,((gl ((0,0,0,0,0):AB) s4.1 s5.2.2.toNat).2).1,(((gl ((0,0,0,0,0):AB) s4.1 s5.2.2.toNat).2).2).1,((((gl ((0,0,0,0,0):AB) s4.1 s5.2.2.toNat).2).2).2))]:List AB).length)*40<=140737488355328 then
some (Sum.inl ((s5.1++([((gl ((0,0,0,0,0):AB) s4.1 s5.2.2.toNat).1,((gl ((0,0,0,0,0):AB) s4.1 s5.2.2.toNat).2).1,(((gl ((0,0,0,0,0):AB) s4.1 s5.2.2.toNat).2).2).1,((((gl ((0,0,0,0,0):AB) s4.1 s5.2.2.toNat).2).2).2))]:List AB),AG (s5.2.1-r6),AG (s5.2.2+1))))
else none
else if (s5.1.length+([((gl ((0,0,0,0,0):AB) s4.1 s5.2.2.toNat).1,((gl ((0,0,0,0,0):AB) s4.1 s5.2.2.toNat).2).1,(((gl ((0,0,0,0,0):AB) s4.1 s5.2.2.toNat).2).2).1,((((gl ((0,0,0,0,0):AB) s4.1 s5.2.2.toNat).2).2).2))]:List AB).length)*40<=140737488355328 then
some (Sum.inl ((s5.1++([((gl ((0,0,0,0,0):AB) s4.1 s5.2.2.toNat).1,((gl ((0,0,0,0,0):AB) s4.1 s5.2.2.toNat).2).1,(((gl ((0,0,0,0,0):AB) s4.1 s5.2.2.toNat).2).2).1,((((gl ((0,0,0,0,0):AB) s4.1 s5.2.2.toNat).2).2).2))]:List AB),AG (s5.2.1-r6),AG (s5.2.2+1))))
else none)
else none
else some (Sum.inr ((s5.1,j2,false)))) (([],(r5.length:Int),0))
else none))) (([],0))
else none)
|Sum.inr b2=>some b2))) (a3)
@[reducible] def Q8:FnI:=BK [PD,D3,I2,AN2] [kP,⟨AZ5,true,true,false⟩,FN] fun x=>C2 x.1 x.2.1 x.2.2.1 x.2.2.2
def b8:Cx:=BE [(4,(4,1)),(5,(5,1)),(7,(6,1)),(9,(7,1)),(12,(9,1)),(16,(12,1)),(21,(17,1)),(34,(8,1)),(67,(10,1)),(86,(13,1)),(87,(14,1)),(94,(15,1)),(128,(18,1)),(129,(19,1))] [87,129] [(17,DF),(46,C8),(83,HL)] [(0,B8 [] [(6,AN2)] [] (FI [(25,17)]) [] 8),(2,B8 [(14,kP),(69,AP)] [] [] (FI [(16,1),(70,19)]) [] 11),(4,B8 [(17,kP),(18,AP),(105,AP)] [] [] (FI [(21,1),(106,25)]) [] 16)] [(9,B8 [] [(6,AN2)] [] (FI [(12,2),(42,21)]) [] 10)]
theorem ZW:CV 152 Q8:=okW b8 [.tmp 8,.cell 9 205,.tmp 10] 133 16 (BD (.cons D2 (.cons DQ (.cons I8 AM.nil))) A_.nil) Tryz.func152
def F8 (a0:C6) (a1:Int):Option (C6×Bool):=
Option.bind (BX a0) (fun r1=>
AI (σ:=(C6×APH)) (β:=(C6×Bool)) (fun s1=>
if a1>0 then
Option.bind (ES s1.1 a1) (fun r2=>
if (!r2)=true then
Option.bind (DV s1.1.1 s1.1.2.2.1) (fun r3=>
if (r3.length:Int)=0 then
some (Sum.inr ((s1.1,false)))
else Option.bind (C2 s1.1.1 s1.1.2.1 s1.1.2.2.1 s1.2) (fun r4=>
if r4.2.2=true then
some (Sum.inr (((s1.1.1,s1.1.2.1,s1.1.2.2.1,s1.1.2.2.2.1,s1.1.2.2.2.2.1,s1.1.2.2.2.2.2.1,0,(s1.1.2.2.2.2.2.2.2.1.1,s1.1.2.2.2.2.2.2.2.1.2.1,s1.1.2.2.2.2.2.2.2.1.2.2.1,s1.1.2.2.2.2.2.2.2.1.2.2.2.1,AG (s1.1.2.2.2.2.2.2.2.1.2.2.2.2.1+1),s1.1.2.2.2.2.2.2.2.1.2.2.2.2.2),s1.1.2.2.2.2.2.2.2.2),true)))
else if (r4.1.length:Int)=0 then
some (Sum.inr ((s1.1,false)))
else Option.bind (CH s1.1 r4.1) (fun r5=>
bif aO (CQ.rs++CQ.os) r5 then if ¬r5.2.2=0 then
some (Sum.inr ((s1.1,false)))
else some (Sum.inl ((r5.1,r4.2.1))) else Option.bind (CH s1.1 r4.1) (fun r6=>
if ¬r6.2.2=0 then
Option.map Sum.inr (none)
else some (Sum.inl ((r6.1,r4.2.1)))))))
else Option.bind (C2 s1.1.1 s1.1.2.1 s1.1.2.2.1 s1.2) (fun r7=>
if r7.2.2=true then
some (Sum.inr (((s1.1.1,s1.1.2.1,s1.1.2.2.1,s1.1.2.2.2.1,s1.1.2.2.2.2.1,s1.1.2.2.2.2.2.1,0,(s1.1.2.2.2.2.2.2.2.1.1,s1.1.2.2.2.2.2.2.2.1.2.1,s1.1.2.2.2.2.2.2.2.1.2.2.1,s1.1.2.2.2.2.2.2.2.1.2.2.2.1,AG (s1.1.2.2.2.2.2.2.2.1.2.2.2.2.1+1),s1.1.2.2.2.2.2.2.2.1.2.2.2.2.2),s1.1.2.2.2.2.2.2.2.2),true)))
else if (r7.1.length:Int)=0 then
some (Sum.inr ((s1.1,false)))
else Option.bind (CH s1.1 r7.1) (fun r8=>
bif aO (CQ.rs++CQ.os) r8 then if ¬r8.2.2=0 then
some (Sum.inr ((s1.1,false)))
else some (Sum.inl ((r8.1,r7.2.1))) else Option.bind (CH s1.1 r7.1) (fun r9=>
if ¬r9.2.2=0 then
Option.map Sum.inr (none)
else some (Sum.inl ((r9.1,r7.2.1)))))))
else Option.bind (C2 s1.1.1 s1.1.2.1 s1.1.2.2.1 s1.2) (fun JJ=>
if JJ.2.2=true then
some (Sum.inr (((s1.1.1,s1.1.2.1,s1.1.2.2.1,s1.1.2.2.2.1,s1.1.2.2.2.2.1,s1.1.2.2.2.2.2.1,0,(s1.1.2.2.2.2.2.2.2.1.1,s1.1.2.2.2.2.2.2.2.1.2.1,s1.1.2.2.2.2.2.2.2.1.2.2.1,s1.1.2.2.2.2.2.2.2.1.2.2.2.1,AG (s1.1.2.2.2.2.2.2.2.1.2.2.2.2.1+1),s1.1.2.2.2.2.2.2.2.1.2.2.2.2.2),s1.1.2.2.2.2.2.2.2.2),true)))
else if (JJ.1.length:Int)=0 then
some (Sum.inr ((s1.1,false)))
else Option.bind (CH s1.1 JJ.1) (fun QR=>
bif aO (CQ.rs++CQ.os) QR then if ¬QR.2.2=0 then
some (Sum.inr ((s1.1,false)))
else some (Sum.inl ((QR.1,JJ.2.1))) else Option.bind (CH s1.1 JJ.1) (fun OF=>
if ¬OF.2.2=0 then
Option.map Sum.inr (none)
else some (Sum.inl ((OF.1,JJ.2.1))))))) ((r1,(0,false,0))))
@[reducible] def NB:FnI:=BK [IH,AP] [W2,FN] fun x=>F8 x.1 x.2
def eS:Cx:={ nm:=[(2,(7,1)),(4,(8,1)),(6,(16,1)),(8,(19,1)),(10,(27,1)),(11,(28,1)),(14,(9,7)),(28,(17,1)),(41,(18,1)),(62,(20,7))],CK:=[],fns:=ADC [(25,N5),(96,D4),(151,NA),(152,Q8),(153,CQ)],loops:=[(0,B8 [] [(7,W2),(16,AN2)] [] (FI [(5,1),(7,6),(15,55)]) [9,10,11,12,13,14,15] 29)],aQ:=[],tb:=nX,exts:=[],lets:=[],A09:=[62] }
theorem Q9:CV 143 NB:=okW eS [.cell 4 41,.tmp 5] 70 29 (BD (.cons S9 (.cons EF (.cons Q7 (.cons ZW (.cons lY AM.nil))))) A_.nil) Tryz.func143
def GW (a0:C6):Option (C6×Bool):=
Option.bind (F8 a0 0) (fun r1=>
some ((r1.1,r1.2)))
@[reducible] def N6:FnI:=BK [IH] [W2,FN] fun x=>GW x
def jN:Cx:=BE [(1,(7,1)),(2,(8,1)),(5,(9,7))] [] [(143,NB)] [] []
theorem S_:CV 123 N6:=okW jN [.cell 2 41,.tmp 3] 8 9 (BD (.cons Q9 AM.nil) A_.nil) Tryz.func123
def EV (a0:C6) (a1:Int):Option (C6×Bool):=
Option.bind (F8 a0 a1) (fun r1=>
Option.bind (ES r1.1 a1) (fun r2=>
some ((r1.1, !r2))))
@[reducible] def VY:FnI:=BK [IH,AP] [W2,FN] fun x=>EV x.1 x.2
def lZ:Cx:=BE [(2,(7,1)),(4,(8,1)),(6,(16,1)),(11,(9,7))] [] [(143,NB),(151,NA)] [] []
theorem jO:CV 138 VY:=okW lZ [.cell 4 41,.tmp 5] 19 10 (BD (.cons Q9 (.cons Q7 AM.nil)) A_.nil) Tryz.func138
def BG (a0:C6) (a1:Int):Option (C6×(Int×(BitVec 64))):=
some ((a0,(a1,0#64)))
@[reducible] def MG:FnI:=BK [IH,AP] [IH,AKD] fun x=>BG x.1 x.2
def oA:Cx:=BE [(2,(7,1)),(4,(8,1)),(5,(9,1))] [] [] [] []
theorem O6:CV 88 MG:=okW oA [.cell 4 41,.cell 5 118] 9 3 (BD AM.nil A_.nil) Tryz.func88
def FE (a0:C6):Option Bool:=
Option.bind (GU a0.2.2.2.2.2.1) (fun r1=>
some (decide ((r1.length:Int)=32)))
@[reducible] def N7:FnI:=BK [IH] [FN] fun x=>FE x
def jP:Cx:=BE [(1,(7,1)),(5,(8,1))] [] [(137,JZ)] [] []
theorem TC:CV 120 N7:=okW jP [.tmp 2] 8 2 (BD (.cons M9 AM.nil) A_.nil) Tryz.func120
def J1 (a0:C6) (a1:Int) (a2:Int):Option (C6×Int×Int):=
if a0.2.2.2.2.2.2.2.2=true then
some (((((⟨#[]⟩:ByteArray),[],0),(0,[],[]),[],0,[],([],[]),0,(0,0,0,0,0,0,0,0,0),false),0,19))
else Option.bind (DT a1 a2) (fun r1=>
if ¬r1.2=0 then
some (((((⟨#[]⟩:ByteArray),[],0),(0,[],[]),[],0,[],([],[]),0,(0,0,0,0,0,0,0,0,0),false),0,r1.2))
else Option.bind (BX a0) (fun r2=>
Option.bind (AY r2.1 r2.2.1 r2.2.2.1 r2.2.2.2.1 (AG ((AG ((1:Int)+a1))+a2))) (fun r3=>
Option.bind (α:=(Int×C6×AB) ⊕ (C6×Int×Int)) (if r3.1=3 then
Option.bind (α:=C6 ⊕ ((Int×C6×AB) ⊕ (C6×Int×Int))) (Option.bind (CN r2.1) (fun r4=>
if r4=true then
some (Sum.inl ((r2.1,r2.2.1,r2.2.2.1,r2.2.2.2.1,r2.2.2.2.2.1,r2.2.2.2.2.2.1,AG (r2.2.2.2.2.2.2.1+1),(r2.2.2.2.2.2.2.2.1.1,r2.2.2.2.2.2.2.2.1.2.1,AG (r2.2.2.2.2.2.2.2.1.2.2.1+1),r2.2.2.2.2.2.2.2.1.2.2.2),r2.2.2.2.2.2.2.2.2)))
else some (Sum.inl ((r2.1,r2.2.1,r2.2.2.1,r2.2.2.2.1,r2.2.2.2.2.1,r2.2.2.2.2.2.1,r2.2.2.2.2.2.2.1,(r2.2.2.2.2.2.2.2.1.1,r2.2.2.2.2.2.2.2.1.2.1,AG (r2.2.2.2.2.2.2.2.1.2.2.1+1),r2.2.2.2.2.2.2.2.1.2.2.2),r2.2.2.2.2.2.2.2.2))))) (fun q=>match q with
|Sum.inl j2=>(Option.bind (CN j2.1) (fun r5=>
if r5=true then
if j2.2.2.2.2.2.2.1≥j2.1.2.2 then
Option.bind (GW j2) (fun r6=>
Option.bind (AY r6.1.1 r6.1.2.1 r6.1.2.2.1 r6.1.2.2.2.1 (AG ((AG ((1:Int)+a1))+a2))) (fun r7=>
if r7.1=3 then
some (Sum.inr (((r6.1.1,r6.1.2.1,r6.1.2.2.1,r6.1.2.2.2.1,r6.1.2.2.2.2.1,r6.1.2.2.2.2.2.1,r6.1.2.2.2.2.2.2.1,r6.1.2.2.2.2.2.2.2.1,true),0,18)))
else some (Sum.inl ((r7.1,r6.1,r7.2)))))
else Option.bind (EV j2 (AG ((AG ((1:Int)+a1))+a2))) (fun r8=>
Option.bind (AY r8.1.1 r8.1.2.1 r8.1.2.2.1 r8.1.2.2.2.1 (AG ((AG ((1:Int)+a1))+a2))) (fun r9=>
if r9.1=3 then
some (Sum.inr (((r8.1.1,r8.1.2.1,r8.1.2.2.1,r8.1.2.2.2.1,r8.1.2.2.2.2.1,r8.1.2.2.2.2.2.1,r8.1.2.2.2.2.2.2.1,r8.1.2.2.2.2.2.2.2.1,true),0,18)))
else some (Sum.inl ((r9.1,r8.1,r9.2)))))
else Option.bind (EV j2 (AG ((AG ((1:Int)+a1))+a2))) (fun JJ=>
Option.bind (AY JJ.1.1 JJ.1.2.1 JJ.1.2.2.1 JJ.1.2.2.2.1 (AG ((AG ((1:Int)+a1))+a2))) (fun QR=>
if QR.1=3 then
some (Sum.inr (((JJ.1.1,JJ.1.2.1,JJ.1.2.2.1,JJ.1.2.2.2.1,JJ.1.2.2.2.2.1,JJ.1.2.2.2.2.2.1,JJ.1.2.2.2.2.2.2.1,JJ.1.2.2.2.2.2.2.2.1,true),0,18)))
else some (Sum.inl ((QR.1,JJ.1,QR.2)))))))
|Sum.inr b1=>some b1)
else some (Sum.inl ((r3.1,r2,r3.2)))) (fun q=>match q with
|Sum.inl j1=>(Option.bind (CR j1.2.1.2.1 j1.2.2 (AG ((AG ((1:Int)+a1))+a2))) (fun OF=>
if ¬OF.2.2.1=0 then
some (((j1.2.1.1,(j1.2.1.2.1.1,OF.2.2.2),j1.2.1.2.2.1,j1.2.1.2.2.2.1,j1.2.1.2.2.2.2.1,j1.2.1.2.2.2.2.2.1,j1.2.1.2.2.2.2.2.2.1,j1.2.1.2.2.2.2.2.2.2.1,true),0,18))
else Option.bind (GR (j1.2.1.2.1.1,OF.2.2.2) OF.2.1 a1 a2) (fun Q6=>
if j1.1=2 then
Option.bind (FU j1.2.1.2.2.1 OF.1) (fun mN=>
some (((j1.2.1.1,(j1.2.1.2.1.1,Q6.2),mN.1,AG (j1.2.1.2.2.2.1+1),j1.2.1.2.2.2.2.1,j1.2.1.2.2.2.2.2.1,j1.2.1.2.2.2.2.2.2.1,(AG (j1.2.1.2.2.2.2.2.2.2.1.1+(AG ((AG ((1:Int)+a1))+a2))),AG (j1.2.1.2.2.2.2.2.2.2.1.2.1+1),j1.2.1.2.2.2.2.2.2.2.1.2.2),j1.2.1.2.2.2.2.2.2.2.2),OF.2.1,0)))
else Option.bind (C9 j1.2.1.2.2.1 OF.1) (fun l4=>
some (((j1.2.1.1,(j1.2.1.2.1.1,Q6.2),l4.1,j1.2.1.2.2.2.1,j1.2.1.2.2.2.2.1,j1.2.1.2.2.2.2.2.1,j1.2.1.2.2.2.2.2.2.1,(AG (j1.2.1.2.2.2.2.2.2.2.1.1+(AG ((AG ((1:Int)+a1))+a2))),AG (j1.2.1.2.2.2.2.2.2.2.1.2.1+1),j1.2.1.2.2.2.2.2.2.2.1.2.2),j1.2.1.2.2.2.2.2.2.2.2),OF.2.1,0))))))
|Sum.inr b2=>some b2))))
@[reducible] def TD:FnI:=BK [IH,AP,AP] [W2,CY,CY] fun x=>J1 x.1 x.2.1 x.2.2
def eT:Cx:=BE [(3,(7,1)),(6,(8,1)),(12,(16,1)),(14,(17,1)),(15,(46,1)),(36,(9,7)),(78,(25,7)),(84,(32,7)),(129,(47,1)),(141,(48,1))] [] [(40,J0),(44,KH),(49,JR),(96,D4),(119,JS),(123,N6),(138,VY),(139,UF),(140,O5),(141,K0)] [] [(13,B8 [] [(16,IH)] [] (FI [(58,7)]) [9,10,11,12,13,14,15] 18),(20,B8 [(13,AP)] [(16,W2),(17,P3)] [] (FI [(7,2),(50,54)]) [9,10,11,12,13,14,15] 39)]
theorem b9:CV 121 TD:=okW eT [.cell 6 41,.tmp 7,.tmp 8] 160 42 (BD (.cons M_ (.cons ON (.cons M4 (.cons EF (.cons M5 (.cons S_ (.cons jO (.cons eA (.cons UL (.cons PF AM.nil)))))))))) A_.nil) Tryz.func121
def HQ (a0:YD):Option Bool:=
if ¬(a0.1.length:Int)=32 then
some (false)
else if ¬(a0.2.length:Int)=32 then
some (false)
else AI (σ:=Int) (β:=Bool) (fun s1=>
if s1<(a0.1.length:Int) then
if 0<=s1/\s1<(a0.1.length:Int) then
if (!(gl (false:Bool) a0.1 s1.toNat))=true then
if 0<=s1/\s1<(a0.2.length:Int) then
if ¬(gl (0#64:(BitVec 64)) a0.2 s1.toNat)=(0#64) then
some (Sum.inr (false))
else some (Sum.inl (AG (s1+1)))
else none
else some (Sum.inl (AG (s1+1)))
else none
else some (Sum.inr (true))) (0)
@[reducible] def NC:FnI:=BK [xZ] [FN] fun x=>HQ x
def eU:Cx:=BE [(1,(2,1))] [] [] [(0,B8 [(18,AP)] [] [] (FI [(2,3),(19,15)]) [] 3)] []
theorem Q_:CV 142 NC:=okW eU [.tmp 2] 34 1 (BD AM.nil A_.nil) Tryz.func142
def DW (a0:YD) (a1:(BitVec 64)):Option (YD×Int×Int):=
Option.bind (HQ a0) (fun r1=>
if (!r1)=true then
some ((([],[]),0,1))
else AI (σ:=Int) (β:=(YD×Int×Int)) (fun s1=>
if s1<(a0.1.length:Int) then
if 0<=s1/\s1<(a0.1.length:Int) then
if (!(gl (false:Bool) a0.1 s1.toNat))=true then
Option.bind (GS a0) (fun r2=>
if 0<=s1/\s1<(r2.1.length:Int) then
if 0<=s1/\s1<(r2.2.length:Int) then
some (Sum.inr (((r2.1.set s1.toNat true,r2.2.set s1.toNat a1),AG (s1+1),0)))
else none
else none)
else some (Sum.inl (AG (s1+1)))
else none
else some (Sum.inr ((([],[]),0,15)))) (0))
@[reducible] def N8:FnI:=BK [xZ,aU] [AN0,CY,CY] fun x=>DW x.1 x.2
def jQ:Cx:=BE [(2,(2,1)),(4,(3,1)),(9,(6,1)),(25,(4,2))] [] [(126,JY),(142,NC)] [(0,B8 [(17,AP)] [] [] (FI [(5,5),(18,21)]) [] 4)] []
theorem TE:CV 122 N8:=okW jQ [.cell 4 37,.tmp 5,.tmp 6] 40 5 (BD (.cons M8 (.cons Q_ AM.nil)) A_.nil) Tryz.func122
def BH (a0:C6) (a1:(BitVec 64)):Option (C6×(Int×(BitVec 64))):=
some ((a0,(0,a1)))
@[reducible] def MH:FnI:=BK [IH,aU] [IH,AKD] fun x=>BH x.1 x.2
def oB:Cx:=BE [(2,(7,1)),(4,(8,1)),(5,(9,1))] [] [] [] []
theorem O7:CV 91 MH:=okW oB [.cell 4 41,.cell 5 118] 9 3 (BD AM.nil A_.nil) Tryz.func91
def N9 (a0:C6) (a1:QY):Option (C6×(Int×(BitVec 64))):=
Option.bind (DT a1.2.1 a1.2.2.1) (fun r1=>
if ¬r1.2=0 then
Option.bind (BG a0 r1.2) (fun r2=>
some ((r2.1,r2.2)))
else Option.bind (FE a0) (fun r3=>
if r3=true then
Option.bind (BG a0 15) (fun r4=>
some ((r4.1,r4.2)))
else Option.bind (J1 a0 a1.2.1 a1.2.2.1) (fun r5=>
if ¬r5.2.2=0 then
Option.bind (BG r5.1 r5.2.2) (fun r6=>
some ((r6.1,r6.2)))
else Option.bind (DW r5.1.2.2.2.2.2.1 (BitVec.ofInt 64 (AG (r5.2.1+1)))) (fun r7=>
Option.bind (BH (r5.1.1,r5.1.2.1,r5.1.2.2.1,r5.1.2.2.2.1,r5.1.2.2.2.2.1,r7.1,r5.1.2.2.2.2.2.2) (BitVec.ofInt 64 r7.2.1)) (fun r8=>
some ((r8.1,r8.2)))))))
@[reducible] def TF:FnI:=BK [IH,ABL] [IH,AKD] fun x=>N9 x.1 x.2
def eV:Cx:=BE [(2,(7,1)),(3,(8,1)),(4,(9,1)),(5,(10,1)),(8,(32,1)),(24,(11,7)),(30,(18,7)),(39,(25,7)),(47,(33,7)),(56,(40,2)),(64,(42,7))] [] [(88,MG),(91,MH),(119,JS),(120,N7),(121,TD),(122,N8)] [] []
theorem b_:CV 89 TF:=okW eV [.cell 4 41,.cell 5 118] 67 42 (BD (.cons O6 (.cons O7 (.cons M5 (.cons TC (.cons b9 (.cons TE AM.nil)))))) A_.nil) Tryz.func89
def LZ (a0:C6):Option (C6×Bool×Int):=
if a0.2.2.2.2.2.2.2.2=true then
some (((((⟨#[]⟩:ByteArray),[],0),(0,[],[]),[],0,[],([],[]),0,(0,0,0,0,0,0,0,0,0),false),false,19))
else Option.bind (GW (a0.1,a0.2.1,a0.2.2.1,a0.2.2.2.1,a0.2.2.2.2.1,a0.2.2.2.2.2.1,a0.2.2.2.2.2.2.1,(a0.2.2.2.2.2.2.2.1.1,a0.2.2.2.2.2.2.2.1.2.1,AG (a0.2.2.2.2.2.2.2.1.2.2.1+1),a0.2.2.2.2.2.2.2.1.2.2.2),a0.2.2.2.2.2.2.2.2)) (fun r1=>
some ((r1.1,r1.2,0)))
@[reducible] def QH:FnI:=BK [IH] [W2,FN,CY] fun x=>LZ x
def ZX:Cx:=BE [(1,(7,1)),(2,(8,1)),(5,(16,1)),(18,(9,7))] [] [(123,N6)] [] []
theorem YO:CV 90 QH:=okW ZX [.cell 2 41,.tmp 3,.tmp 4] 23 10 (BD (.cons S_ AM.nil) A_.nil) Tryz.func90
def J2 (a0:DL):Option Int:=
AI (σ:=(Int×Int)) (β:=Int) (fun s1=>
if s1.2<(a0.length:Int) then
if 0<=s1.2/\s1.2<(a0.length:Int) then
AI (σ:=(Int×Int)) (β:=((Int×Int) ⊕ Int)) (fun s2=>
if s2.2<((gl ([]:(List AB)) a0 s1.2.toNat).length:Int) then
if 0<=s2.2/\s2.2<((gl ([]:(List AB)) a0 s1.2.toNat).length:Int) then
some (Sum.inl ((AG (s2.1+(((((gl ((0,0,0,0,0):AB) (gl ([]:(List AB)) a0 s1.2.toNat) s2.2.toNat).2).2).2).2)),AG (s2.2+1))))
else none
else some (Sum.inr (Sum.inl ((s2.1,AG (s1.2+1)))))) ((s1.1,0))
else none
else some (Sum.inr (s1.1))) ((0,0))
@[reducible] def TG:FnI:=BK [I2] [CY] fun x=>J2 x
def eW:Cx:=BE [(7,(2,1)),(13,(1,1))] [] [] [(0,B8 [(3,AP),(10,AP)] [] [] (FI [(5,1),(7,1),(11,15)]) [] 1),(2,B8 [(3,AP),(16,AP)] [] [] (FI [(7,1),(17,8)]) [] 2)] []
theorem cA:CV 124 TG:=okW eW [.tmp 2] 27 2 (BD AM.nil A_.nil) Tryz.func124
def K2 (a0:C6):Option Int:=
Option.bind (J2 a0.2.2.1) (fun r1=>
some (r1))
@[reducible] def PG:FnI:=BK [IH] [CY] fun x=>K2 x
def YP:Cx:=BE [(1,(7,1))] [] [(124,TG)] [] []
theorem XM:CV 92 PG:=okW YP [.tmp 2] 6 1 (BD (.cons cA AM.nil) A_.nil) Tryz.func92
def C3 (a0:C6) (a1:Int) (a2:Bool):Option Int:=
if a1=0 then
if a2=true then
some (16)
else if a1=0 then
some (0)
else if a1<0 then
some (14)
else if a1>32 then
some (14)
else if 0<=(AG (a1-1))/\(AG (a1-1))<(a0.2.2.2.2.2.1.1.length:Int) then
if (!(gl (false:Bool) a0.2.2.2.2.2.1.1 ((AG (a1-1)).toNat)))=true then
some (14)
else some (0)
else none
else if a1=0 then
some (0)
else if a1<0 then
some (14)
else if a1>32 then
some (14)
else if 0<=(AG (a1-1))/\(AG (a1-1))<(a0.2.2.2.2.2.1.1.length:Int) then
if (!(gl (false:Bool) a0.2.2.2.2.2.1.1 ((AG (a1-1)).toNat)))=true then
some (14)
else some (0)
else none
@[reducible] def L3:FnI:=BK [IH,AP,lP] [CY] fun x=>C3 x.1 x.2.1 x.2.2
def cB:Cx:=BE [(3,(7,1))] [] [] [] []
theorem QI:CV 93 L3:=okW cB [.tmp 6] 33 1 (BD AM.nil A_.nil) Tryz.func93
def BM (a0:C6) (a1:Int):Option (BitVec 64):=
if a1=0 then
some (0#64)
else if 0<=(AG (a1-1))/\(AG (a1-1))<(a0.2.2.2.2.2.1.2.length:Int) then
some (gl (0#64:(BitVec 64)) a0.2.2.2.2.2.1.2 ((AG (a1-1)).toNat))
else none
@[reducible] def N_:FnI:=BK [IH,AP] [ABJ] fun x=>BM x.1 x.2
def jR:Cx:=BE [(2,(7,1))] [] [] [] []
theorem TH:CV 95 N_:=okW jR [.tmp 4] 14 1 (BD AM.nil A_.nil) Tryz.func95
def OA (a0:Bool):Option (BitVec 64):=
if a0=true then
some (1#64)
else some (0#64)
@[reducible] def TI:FnI:=BK [lP] [ABJ] fun x=>OA x
def eX:Cx:=BE [] [] [] [] []
theorem cC:CV 94 TI:=okW eX [.tmp 2] 4 0 (BD AM.nil A_.nil) Tryz.func94
def OC (a0:YD) (a1:Int):Option Int:=
Option.bind (HQ a0) (fun r1=>
if (!r1)=true then
some (1)
else if a1<1 then
some (14)
else if a1>32 then
some (14)
else if 0<=(AG (a1-1))/\(AG (a1-1))<(a0.1.length:Int) then
if (!(gl (false:Bool) a0.1 ((AG (a1-1)).toNat)))=true then
some (14)
else some (0)
else none)
@[reducible] def TJ:FnI:=BK [xZ,AP] [CY] fun x=>OC x.1 x.2
def eY:Cx:=BE [(2,(2,1))] [] [(142,NC)] [] []
theorem cD:CV 127 TJ:=okW eY [.tmp 4] 23 1 (BD (.cons Q_ AM.nil) A_.nil) Tryz.func127
def K3 (a0:YD) (a1:Int):Option (YD×Int):=
Option.bind (OC a0 a1) (fun r1=>
if ¬r1=0 then
some ((([],[]),r1))
else Option.bind (GS a0) (fun r2=>
if 0<=(AG (a1-1))/\(AG (a1-1))<(r2.1.length:Int) then
if 0<=(AG (a1-1))/\(AG (a1-1))<(r2.2.length:Int) then
some (((r2.1.set ((AG (a1-1)).toNat) false,r2.2.set ((AG (a1-1)).toNat) (0#64)),0))
else none
else none))
@[reducible] def UN:FnI:=BK [xZ,AP] [AN0,CY] fun x=>K3 x.1 x.2
def jS:Cx:=BE [(2,(2,1)),(4,(3,1)),(7,(6,1)),(16,(4,2))] [] [(126,JY),(127,TJ)] [] []
theorem eZ:CV 97 UN:=okW jS [.cell 4 37,.tmp 5] 28 5 (BD (.cons M8 (.cons cD AM.nil)) A_.nil) Tryz.func97
def CL (a0:B7) (a1:Int) (a2:Int) (a3:Bool):Option (Int×Int):=
Option.bind (BW a0 a1) (fun r1=>
if ¬r1.2.2=0 then
some ((0,r1.2.2))
else if a3=true then
if a2<0 then
some ((0,17))
else if a2≥r1.1 then
some ((0,17))
else Option.bind (BF a0 a1 (AG ((1:Int)+a2))) (fun r2=>
some ((r2.1,r2.2)))
else if a2<0 then
some ((0,17))
else if a2≥r1.2.1 then
some ((0,17))
else Option.bind (BF a0 a1 (AG ((AG ((1:Int)+r1.1))+a2))) (fun r3=>
some ((r3.1,r3.2))))
@[reducible] def ND:FnI:=BK [D3,AP,AP,lP] [CY,CY] fun x=>CL x.1 x.2.1 x.2.2.1 x.2.2.2
def e_:Cx:=BE [(4,(2,1))] [] [(86,EU),(98,F6)] [] []
theorem RA:CV 129 ND:=okW e_ [.tmp 8,.tmp 9] 45 1 (BD (.cons FB (.cons G5 AM.nil)) A_.nil) Tryz.func129
def JC (a0:B7) (a1:AB):Option GB:=
AI (σ:=GB) (β:=GB) (fun s1=>
if s1.2<a1.2.2.2.2 then
if True then
Option.bind (BF a0 (AG (a1.2.2.1*2 ^ min (BitVec.ofInt 64 a0.1).toNat 64)) s1.2) (fun r1=>
Option.bind (BW a0 r1.1) (fun r2=>
if ¬r2.2.2=0 then
some (Sum.inr (([],12)))
else if (AG ((AG ((AG (s1.2+1))+r2.1))+r2.2.1))>a1.2.2.2.2 then
some (Sum.inr (([],12)))
else if (s1.1.length+([r1.1]:List Int).length)*8<=140737488355328 then
some (Sum.inl ((s1.1++([r1.1]:List Int),AG (s1.2+(AG ((AG ((1:Int)+r2.1))+r2.2.1))))))
else none))
else none
else some (Sum.inr ((s1.1,0)))) (([],0))
@[reducible] def VZ:FnI:=BK [D3,P3] [I3,CY] fun x=>JC x.1 x.2
def l5:Cx:=BE [(2,(2,1)),(3,(3,1)),(51,(5,1)),(52,(6,1))] [52] [(86,EU),(98,F6)] [(0,B8 [(6,I3),(7,AP)] [] [] (FI [(4,2),(8,51)]) [] 4)] []
theorem jT:CV 155 VZ:=okW l5 [.tmp 4,.tmp 5] 60 5 (BD (.cons FB (.cons G5 AM.nil)) A_.nil) Tryz.func155
def GX (a0:C6) (a1:Int):Option Bool:=
if a1<0 then
some (false)
else if a1≥(a0.2.1.2.1.length:Int) then
some (false)
else if True then
if 0<=(a1 / 2 ^ min (BitVec.ofInt 64 a0.2.1.1).toNat 64)/\(a1 / 2 ^ min (BitVec.ofInt 64 a0.2.1.1).toNat 64)<(a0.2.1.2.2.length:Int) then
Option.bind (FC a0.2.2.1 ((gl ((0,0,0):BB) a0.2.1.2.2 ((a1 / 2 ^ min (BitVec.ofInt 64 a0.2.1.1).toNat 64).toNat)).1)) (fun r1=>
if (!r1.2)=true then
some (false)
else Option.bind (JC a0.2.1 r1.1) (fun r2=>
AI (σ:=Int) (β:=Bool) (fun s1=>
if s1<(r2.1.length:Int) then
if 0<=s1/\s1<(r2.1.length:Int) then
if (gl (0:Int) r2.1 s1.toNat)=a1 then
some (Sum.inr (true))
else some (Sum.inl (AG (s1+1)))
else none
else some (Sum.inr (false))) (0)))
else none
else none
@[reducible] def QJ:FnI:=BK [IH,AP] [FN] fun x=>GX x.1 x.2
def oC:Cx:=BE [(2,(7,1)),(5,(8,1)),(45,(9,1))] [] [(154,N2),(155,VZ)] [(0,B8 [(50,AP)] [] [] [4,10,51,52,53,54,55,56,57] [] 10)] []
theorem V0:CV 145 QJ:=okW oC [.tmp 4] 58 3 (BD (.cons S4 (.cons jT AM.nil)) A_.nil) Tryz.func145
def HR (a0:C6) (a1:Int) (a2:Int) (a3:Bool):Option (Int×Int):=
if a0.2.2.2.2.2.2.2.2=true then
some ((0,19))
else Option.bind (GX a0 a1) (fun r1=>
if (!r1)=true then
some ((0,1))
else Option.bind (CL a0.2.1 a1 a2 a3) (fun r2=>
some ((r2.1,r2.2))))
@[reducible] def NF:FnI:=BK [IH,AP,AP,lP] [CY,CY] fun x=>HR x.1 x.2.1 x.2.2.1 x.2.2.2
def fA:Cx:=BE [(4,(7,1))] [] [(129,ND),(145,QJ)] [] []
theorem RB:CV 144 NF:=okW fA [.tmp 8,.tmp 9] 24 1 (BD (.cons RA (.cons V0 AM.nil)) A_.nil) Tryz.func144
def EO (a0:C6) (a1:Int) (a2:Int) (a3:(BitVec 64)):Option (C6×Int):=
Option.bind (HR a0 a1 a2 true) (fun r1=>
if r1.2=19 then
some (((((⟨#[]⟩:ByteArray),[],0),(0,[],[]),[],0,[],([],[]),0,(0,0,0,0,0,0,0,0,0),false),r1.2))
else if ¬a3=(0#64) then
if a3.toNat>(BitVec.ofInt 64 (a0.2.1.2.1.length:Int)).toNat then
if ¬(1:Int)=0 then
some (((((⟨#[]⟩:ByteArray),[],0),(0,[],[]),[],0,[],([],[]),0,(0,0,0,0,0,0,0,0,0),false),1))
else Option.bind (BX a0) (fun r2=>
if 0<=r1.1/\r1.1<(r2.2.1.2.1.length:Int) then
Option.bind (CS (r2.2.1.1,r2.2.1.2.1.set r1.1.toNat a3,r2.2.1.2.2) r2.2.2.2.2.1 r1.1 a3) (fun r3=>
some (((r2.1,(r2.2.1.1,r3.2),r2.2.2.1,r2.2.2.2.1,r3.1,r2.2.2.2.2.2),0)))
else none)
else Option.bind (GX a0 (AG (((a3-(1#64)).toNat:Int)))) (fun r4=>
if (!r4)=true then
if ¬(1:Int)=0 then
some (((((⟨#[]⟩:ByteArray),[],0),(0,[],[]),[],0,[],([],[]),0,(0,0,0,0,0,0,0,0,0),false),1))
else Option.bind (BX a0) (fun r5=>
if 0<=r1.1/\r1.1<(r5.2.1.2.1.length:Int) then
Option.bind (CS (r5.2.1.1,r5.2.1.2.1.set r1.1.toNat a3,r5.2.1.2.2) r5.2.2.2.2.1 r1.1 a3) (fun r6=>
some (((r5.1,(r5.2.1.1,r6.2),r5.2.2.1,r5.2.2.2.1,r6.1,r5.2.2.2.2.2),0)))
else none)
else if ¬r1.2=0 then
some (((((⟨#[]⟩:ByteArray),[],0),(0,[],[]),[],0,[],([],[]),0,(0,0,0,0,0,0,0,0,0),false),r1.2))
else Option.bind (BX a0) (fun r7=>
if 0<=r1.1/\r1.1<(r7.2.1.2.1.length:Int) then
Option.bind (CS (r7.2.1.1,r7.2.1.2.1.set r1.1.toNat a3,r7.2.1.2.2) r7.2.2.2.2.1 r1.1 a3) (fun r8=>
some (((r7.1,(r7.2.1.1,r8.2),r7.2.2.1,r7.2.2.2.1,r8.1,r7.2.2.2.2.2),0)))
else none))
else if ¬r1.2=0 then
some (((((⟨#[]⟩:ByteArray),[],0),(0,[],[]),[],0,[],([],[]),0,(0,0,0,0,0,0,0,0,0),false),r1.2))
else Option.bind (BX a0) (fun r9=>
if 0<=r1.1/\r1.1<(r9.2.1.2.1.length:Int) then
Option.bind (CS (r9.2.1.1,r9.2.1.2.1.set r1.1.toNat a3,r9.2.1.2.2) r9.2.2.2.2.1 r1.1 a3) (fun JJ=>
some (((r9.1,(r9.2.1.1,JJ.2),r9.2.2.1,r9.2.2.2.1,JJ.1,r9.2.2.2.2.2),0)))
else none))
@[reducible] def PH:FnI:=BK [IH,AP,AP,aU] [W2,CY] fun x=>EO x.1 x.2.1 x.2.2.1 x.2.2.2
def YQ:Cx:=BE [(4,(7,1)),(8,(8,1)),(12,(16,1)),(48,(9,7)),(61,(17,1))] [] [(96,D4),(144,NF),(145,QJ),(146,N4)] [] []
theorem XN:CV 130 PH:=okW YQ [.cell 8 41,.tmp 9] 64 11 (BD (.cons EF (.cons RB (.cons V0 (.cons S6 AM.nil)))) A_.nil) Tryz.func130
def EA (a0:C6) (a1:Int) (a2:Int) (a3:(BitVec 64)):Option (C6×Int):=
Option.bind (HR a0 a1 a2 false) (fun r1=>
if ¬r1.2=0 then
some (((((⟨#[]⟩:ByteArray),[],0),(0,[],[]),[],0,[],([],[]),0,(0,0,0,0,0,0,0,0,0),false),r1.2))
else Option.bind (BX a0) (fun r2=>
if 0<=r1.1/\r1.1<(r2.2.1.2.1.length:Int) then
some (((r2.1,(r2.2.1.1,r2.2.1.2.1.set r1.1.toNat a3,r2.2.1.2.2),r2.2.2),0))
else none))
@[reducible] def OO:FnI:=BK [IH,AP,AP,aU] [W2,CY] fun x=>EA x.1 x.2.1 x.2.2.1 x.2.2.2
def XO:Cx:=BE [(4,(7,1)),(8,(8,1)),(12,(16,1)),(25,(9,7))] [] [(96,D4),(144,NF)] [] []
theorem WK:CV 131 OO:=okW XO [.cell 8 41,.tmp 9] 33 10 (BD (.cons EF (.cons RB AM.nil)) A_.nil) Tryz.func131
def F9 (a0:C6) (a1:QY):Option (C6×(Int×(BitVec 64))):=
if a1.1=2 then
Option.bind (BM a0 a1.2.1) (fun r1=>
Option.bind (CL a0.2.1 (AG ((AG ((r1.toNat:Int)))-1)) a1.2.2.1 true) (fun r2=>
if ¬r2.2=0 then
Option.bind (BG a0 r2.2) (fun r3=>
some ((r3.1,r3.2)))
else if 0<=r2.1/\r2.1<(a0.2.1.2.1.length:Int) then
if a1.1=4 then
Option.bind (BH a0 (gl (0#64:(BitVec 64)) a0.2.1.2.1 r2.1.toNat)) (fun r4=>
some ((r4.1,r4.2)))
else if a1.1=2 then
if (gl (0#64:(BitVec 64)) a0.2.1.2.1 r2.1.toNat)=(0#64) then
Option.bind (BH a0 (0#64)) (fun r5=>
some ((r5.1,r5.2)))
else Option.bind (FE a0) (fun r6=>
if r6=true then
Option.bind (BG a0 15) (fun r7=>
some ((r7.1,r7.2)))
else Option.bind (BX a0) (fun r8=>
Option.bind (DW r8.2.2.2.2.2.1 (gl (0#64:(BitVec 64)) a0.2.1.2.1 r2.1.toNat)) (fun r9=>
Option.bind (BH (r8.1,r8.2.1,r8.2.2.1,r8.2.2.2.1,r8.2.2.2.2.1,r9.1,r8.2.2.2.2.2.2) (BitVec.ofInt 64 r9.2.1)) (fun JJ=>
some ((JJ.1,JJ.2))))))
else if a1.1=3 then
Option.bind (C3 a0 a1.2.2.2 false) (fun QR=>
if ¬QR=0 then
Option.bind (BG a0 QR) (fun OF=>
some ((OF.1,OF.2)))
else Option.bind (BM a0 a1.2.1) (fun Q6=>
Option.bind (BM a0 a1.2.2.2) (fun mN=>
Option.bind (EO a0 (AG ((AG ((Q6.toNat:Int)))-1)) a1.2.2.1 mN) (fun l4=>
Option.bind (BH l4.1 (0#64)) (fun uS=>
some ((uS.1,uS.2)))))))
else Option.bind (BM a0 a1.2.1) (fun r17=>
Option.bind (EA a0 (AG ((AG ((r17.toNat:Int)))-1)) a1.2.2.1 (BitVec.ofInt 64 a1.2.2.2)) (fun r18=>
Option.bind (BH r18.1 (0#64)) (fun r19=>
some ((r19.1,r19.2)))))
else none))
else Option.bind (BM a0 a1.2.1) (fun r20=>
Option.bind (CL a0.2.1 (AG ((AG ((r20.toNat:Int)))-1)) a1.2.2.1 (decide (a1.1=3))) (fun uT=>
if ¬uT.2=0 then
Option.bind (BG a0 uT.2) (fun r22=>
some ((r22.1,r22.2)))
else if 0<=uT.1/\uT.1<(a0.2.1.2.1.length:Int) then
if a1.1=4 then
Option.bind (BH a0 (gl (0#64:(BitVec 64)) a0.2.1.2.1 uT.1.toNat)) (fun ZY=>
some ((ZY.1,ZY.2)))
else if a1.1=2 then
if (gl (0#64:(BitVec 64)) a0.2.1.2.1 uT.1.toNat)=(0#64) then
Option.bind (BH a0 (0#64)) (fun r24=>
some ((r24.1,r24.2)))
else Option.bind (FE a0) (fun r25=>
if r25=true then
Option.bind (BG a0 15) (fun zW=>
some ((zW.1,zW.2)))
else Option.bind (BX a0) (fun uU=>
Option.bind (DW uU.2.2.2.2.2.1 (gl (0#64:(BitVec 64)) a0.2.1.2.1 uT.1.toNat)) (fun r28=>
Option.bind (BH (uU.1,uU.2.1,uU.2.2.1,uU.2.2.2.1,uU.2.2.2.2.1,r28.1,uU.2.2.2.2.2.2) (BitVec.ofInt 64 r28.2.1)) (fun y_=>
some ((y_.1,y_.2))))))
else if a1.1=3 then
Option.bind (C3 a0 a1.2.2.2 false) (fun r30=>
if ¬r30=0 then
Option.bind (BG a0 r30) (fun x6=>
some ((x6.1,x6.2)))
else Option.bind (BM a0 a1.2.1) (fun r32=>
Option.bind (BM a0 a1.2.2.2) (fun r33=>
Option.bind (EO a0 (AG ((AG ((r32.toNat:Int)))-1)) a1.2.2.1 r33) (fun r34=>
Option.bind (BH r34.1 (0#64)) (fun r35=>
some ((r35.1,r35.2)))))))
else Option.bind (BM a0 a1.2.1) (fun r36=>
Option.bind (EA a0 (AG ((AG ((r36.toNat:Int)))-1)) a1.2.2.1 (BitVec.ofInt 64 a1.2.2.2)) (fun r37=>
Option.bind (BH r37.1 (0#64)) (fun r38=>
some ((r38.1,r38.2)))))
else none))
@[reducible] def TK:FnI:=BK [IH,ABL] [IH,AKD] fun x=>F9 x.1 x.2
def fB:Cx:=BE [(2,(7,1)),(3,(8,1)),(4,(9,1)),(5,(10,1)),(10,(46,1)),(13,(70,1)),(15,(85,1)),(44,(11,7)),(59,(18,7)),(67,(25,7)),(73,(32,7)),(77,(39,7)),(82,(47,2)),(90,(49,7)),(103,(56,7)),(120,(63,7)),(124,(71,7)),(140,(78,7)),(144,(86,7))] [] [(88,MG),(91,MH),(93,L3),(95,N_),(96,D4),(120,N7),(122,N8),(129,ND),(130,PH),(131,OO)] [] []
theorem cE:CV 99 TK:=okW fB [.cell 4 41,.cell 5 118] 147 86 (BD (.cons O6 (.cons O7 (.cons QI (.cons TH (.cons EF (.cons TC (.cons TE (.cons RA (.cons XN (.cons WK AM.nil)))))))))) A_.nil) Tryz.func99
def NR (a0:C6) (a1:QY):Option (C6×(Int×(BitVec 64))):=
if a1.1<1 then
if a0.2.2.2.2.2.2.2.2=true then
if ¬a1.1=0 then
Option.bind (BG a0 19) (fun r1=>
some ((r1.1,r1.2)))
else Option.bind (BG a0 20) (fun r2=>
some ((r2.1,r2.2)))
else Option.bind (BG a0 20) (fun r3=>
some ((r3.1,r3.2)))
else if a1.1>10 then
if a0.2.2.2.2.2.2.2.2=true then
if ¬a1.1=0 then
Option.bind (BG a0 19) (fun r4=>
some ((r4.1,r4.2)))
else Option.bind (BG a0 20) (fun r5=>
some ((r5.1,r5.2)))
else Option.bind (BG a0 20) (fun r6=>
some ((r6.1,r6.2)))
else if a0.2.2.2.2.2.2.2.2=true then
Option.bind (BG a0 19) (fun r7=>
some ((r7.1,r7.2)))
else if a1.1=1 then
Option.bind (N9 a0 a1) (fun r8=>
some ((r8.1,r8.2)))
else if a1.1=8 then
Option.bind (LZ a0) (fun r9=>
Option.bind (BH r9.1 (0#64)) (fun JJ=>
some ((JJ.1,JJ.2))))
else if a1.1=10 then
Option.bind (K2 a0) (fun QR=>
Option.bind (BH a0 (BitVec.ofInt 64 QR)) (fun OF=>
some ((OF.1,OF.2))))
else if a1.1=6 then
Option.bind (C3 a0 a1.2.1 false) (fun Q6=>
if ¬Q6=0 then
Option.bind (BG a0 Q6) (fun mN=>
some ((mN.1,mN.2)))
else Option.bind (C3 a0 a1.2.2.1 false) (fun l4=>
if ¬l4=0 then
Option.bind (BG a0 l4) (fun uS=>
some ((uS.1,uS.2)))
else Option.bind (BM a0 a1.2.1) (fun r17=>
Option.bind (BM a0 a1.2.2.1) (fun r18=>
Option.bind (OA (decide (r17=r18))) (fun r19=>
Option.bind (BH a0 r19) (fun r20=>
some ((r20.1,r20.2))))))))
else Option.bind (C3 a0 a1.2.1 true) (fun uT=>
if ¬uT=0 then
Option.bind (BG a0 uT) (fun r22=>
some ((r22.1,r22.2)))
else if a1.1=7 then
Option.bind (BX a0) (fun ZY=>
Option.bind (K3 ZY.2.2.2.2.2.1 a1.2.1) (fun r24=>
Option.bind (BH (ZY.1,ZY.2.1,ZY.2.2.1,ZY.2.2.2.1,ZY.2.2.2.2.1,r24.1,ZY.2.2.2.2.2.2) (0#64)) (fun r25=>
some ((r25.1,r25.2)))))
else if a1.1=9 then
Option.bind (BM a0 a1.2.1) (fun zW=>
Option.bind (BW a0.2.1 (AG ((AG ((zW.toNat:Int)))-1))) (fun uU=>
Option.bind (BH a0 (BitVec.ofInt 64 (AG ((AG ((256:Int)*uU.1))+uU.2.1)))) (fun r28=>
some ((r28.1,r28.2)))))
else Option.bind (F9 a0 a1) (fun y_=>
some ((y_.1,y_.2))))
@[reducible] def W5:FnI:=BK [IH,ABL] [IH,AKD] fun x=>NR x.1 x.2
def oD:Cx:=BE [(2,(7,1)),(3,(8,1)),(4,(9,1)),(5,(10,1)),(6,(46,1)),(12,(96,1)),(32,(11,7)),(36,(18,7)),(42,(25,7)),(51,(32,7)),(58,(39,7)),(63,(47,7)),(72,(54,7)),(85,(61,7)),(96,(68,7)),(110,(75,7)),(121,(82,7)),(129,(89,7)),(135,(97,2)),(140,(99,7)),(164,(106,7)),(169,(113,7))] [] [(88,MG),(89,TF),(90,QH),(91,MH),(92,PG),(93,L3),(94,TI),(95,N_),(96,D4),(97,UN),(98,F6),(99,TK)] [] []
theorem l6:CV 59 W5:=okW oD [.cell 4 41,.cell 5 118] 172 113 (BD (.cons O6 (.cons b_ (.cons YO (.cons O7 (.cons XM (.cons QI (.cons cC (.cons TH (.cons EF (.cons eZ (.cons G5 (.cons cE AM.nil)))))))))))) A_.nil) Tryz.func59
def K4 (a0:M0):Option M0:=
if (([]:List Bool).length+a0.2.1.length)*1<=140737488355328 then
if (([]:List Int).length+a0.2.2.length)*8<=140737488355328 then
AI (σ:=(Int×M0)) (β:=M0) (fun s1=>
if s1.1<(a0.1.length:Int) then
if 0<=s1.1/\s1.1<(a0.1.length:Int) then
if (([]:List Int).length+((gl (([],[]):KL) a0.1 s1.1.toNat).1).length)*8<=140737488355328 then
if (([]:List (BitVec 64)).length+((gl (([],[]):KL) a0.1 s1.1.toNat).2).length)*8<=140737488355328 then
if (s1.2.1.length+([(([]:List Int)++((gl (([],[]):KL) a0.1 s1.1.toNat).1),([]:List (BitVec 64))++((gl (([],[]):KL) a0.1 s1.1.toNat).2))]:List KL).length)*48<=140737488355328 then
some (Sum.inl ((AG (s1.1+1),(s1.2.1++([(([]:List Int)++((gl (([],[]):KL) a0.1 s1.1.toNat).1),([]:List (BitVec 64))++((gl (([],[]):KL) a0.1 s1.1.toNat).2))]:List KL),s1.2.2))))
else none
else none
else none
else none
else some (Sum.inr (s1.2))) ((0,([],([]:List Bool)++a0.2.1,([]:List Int)++a0.2.2)))
else none
else none
@[reducible] def UO:FnI:=BK [W1] [AT2] fun x=>K4 x
def jU:Cx:=BE [(1,(3,1)),(2,(4,1)),(3,(7,1)),(5,(10,1)),(8,(5,1)),(11,(6,1)),(19,(8,2)),(24,(11,1)),(27,(12,1)),(29,(13,1)),(30,(14,1))] [8,11,24,27,29,30] [] [(0,{ live:=[(16,AP)],boxes:=[(7,AT2)],rows:=[],dead:=FI [(5,1),(17,16)],lost:=[5,6],base:=15,pins:=[(16,5,7),(17,6,7)] })] []
theorem fC:CV 100 UO:=okW jU [.cell 2 44] 34 15 (BD AM.nil A_.nil) Tryz.func100
def AV (a0:M0) (a1:Int):Option (M0×(Int×(BitVec 64))):=
some ((a0,(a1,0#64)))
@[reducible] def UP:FnI:=BK [W1,AP] [W1,AKD] fun x=>AV x.1 x.2
def jV:Cx:=BE [(2,(3,1)),(4,(4,1)),(5,(5,1))] [] [] [] []
theorem fD:CV 101 UP:=okW jV [.cell 4 44,.cell 5 118] 9 3 (BD AM.nil A_.nil) Tryz.func101
def FF (a0:M0):Option Int:=
AI (σ:=Int) (β:=Int) (fun s1=>
if s1<(a0.2.1.length:Int) then
if 0<=s1/\s1<(a0.2.1.length:Int) then
if (!(gl (false:Bool) a0.2.1 s1.toNat))=true then
some (Sum.inr (AG (s1+1)))
else some (Sum.inl (AG (s1+1)))
else none
else some (Sum.inr (0))) (0)
@[reducible] def UQ:FnI:=BK [W1] [CY] fun x=>FF x
def jW:Cx:=BE [(1,(3,1))] [] [] [(0,B8 [(8,AP)] [] [] (FI [(2,3),(9,9)]) [] 4)] []
theorem fE:CV 102 UQ:=okW jW [.tmp 2] 18 1 (BD AM.nil A_.nil) Tryz.func102
def J3 (a0:M0):Option (List Int):=
if 0<=(a0.1.length:Int)/\(a0.1.length:Int)<=(a0.1.length:Int)/\(a0.1.length:Int)*((1:Nat):Int)<=140737488355328 then
AI (σ:=(Int×(List Bool))) (β:=(List Int)) (fun s1=>
if s1.1<(a0.2.1.length:Int) then
if 0<=s1.1/\s1.1<(a0.2.1.length:Int) then
if (gl (false:Bool) a0.2.1 s1.1.toNat)=true then
if 0<=s1.1/\s1.1<(a0.2.2.length:Int) then
if 0<=(gl (0:Int) a0.2.2 s1.1.toNat)/\(gl (0:Int) a0.2.2 s1.1.toNat)<(s1.2.length:Int) then
some (Sum.inl ((AG (s1.1+1),s1.2.set ((gl (0:Int) a0.2.2 s1.1.toNat).toNat) true)))
else none
else none
else some (Sum.inl ((AG (s1.1+1),s1.2)))
else none
else Option.map Sum.inr (AI (σ:=(Bool×(List Bool))) (β:=(List Int)) (fun s2=>
if s2.1=true then
AI (σ:=(Bool×Int×(List Bool))) (β:=((Bool×(List Bool)) ⊕ (List Int))) (fun s3=>
if s3.2.1<(a0.1.length:Int) then
if 0<=s3.2.1/\s3.2.1<(a0.1.length:Int) then
AI (σ:=(Bool×Int×(List Bool))) (β:=((Bool×Int×(List Bool)) ⊕ ((Bool×(List Bool)) ⊕ (List Int)))) (fun s4=>
if s4.2.1<(((gl (([],[]):KL) a0.1 s3.2.1.toNat).1).length:Int) then
if 0<=s4.2.1/\s4.2.1<(((gl (([],[]):KL) a0.1 s3.2.1.toNat).1).length:Int) then
if 0<=s3.2.1/\s3.2.1<(s4.2.2.length:Int) then
if (gl (false:Bool) s4.2.2 s3.2.1.toNat)=true then
if (gl (0:Int) ((gl (([],[]):KL) a0.1 s3.2.1.toNat).1) s4.2.1.toNat)≥0 then
if 0<=(gl (0:Int) ((gl (([],[]):KL) a0.1 s3.2.1.toNat).1) s4.2.1.toNat)/\(gl (0:Int) ((gl (([],[]):KL) a0.1 s3.2.1.toNat).1) s4.2.1.toNat)<(s4.2.2.length:Int) then
if (!(gl (false:Bool) s4.2.2 ((gl (0:Int) ((gl (([],[]):KL) a0.1 s3.2.1.toNat).1) s4.2.1.toNat).toNat)))=true then
if 0<=(gl (0:Int) ((gl (([],[]):KL) a0.1 s3.2.1.toNat).1) s4.2.1.toNat)/\(gl (0:Int) ((gl (([],[]):KL) a0.1 s3.2.1.toNat).1) s4.2.1.toNat)<(s4.2.2.length:Int) then
some (Sum.inl ((true,AG (s4.2.1+1),s4.2.2.set ((gl (0:Int) ((gl (([],[]):KL) a0.1 s3.2.1.toNat).1) s4.2.1.toNat).toNat) true)))
else none
else some (Sum.inl ((s4.1,AG (s4.2.1+1),s4.2.2)))
else none
else some (Sum.inl ((s4.1,AG (s4.2.1+1),s4.2.2)))
else some (Sum.inl ((s4.1,AG (s4.2.1+1),s4.2.2)))
else none
else none
else some (Sum.inr (Sum.inl ((s4.1,AG (s3.2.1+1),s4.2.2))))) ((s3.1,0,s3.2.2))
else none
else some (Sum.inr (Sum.inl ((s3.1,s3.2.2))))) ((false,0,s2.2))
else Option.map Sum.inr (AI (σ:=GB) (β:=(List Int)) (fun s5=>
if s5.2<(s2.2.length:Int) then
if 0<=s5.2/\s5.2<(s2.2.length:Int) then
if (gl (false:Bool) s2.2 s5.2.toNat)=true then
if (s5.1.length+([s5.2]:List Int).length)*8<=140737488355328 then
some (Sum.inl ((s5.1++([s5.2]:List Int),AG (s5.2+1))))
else none
else some (Sum.inl ((s5.1,AG (s5.2+1))))
else none
else some (Sum.inr (s5.1))) (([],0)))) ((true,s1.2)))) ((0,List.replicate (a0.1.length:Int).toNat (false:Bool)))
else none
@[reducible] def TL:FnI:=BK [W1] [I3] fun x=>J3 x
def fF:Cx:=BE [(1,(3,1)),(8,(7,1)),(17,(4,1)),(43,(5,2)),(81,(9,1)),(82,(10,1))] [17,82] [] [(0,B8 [(21,AP)] [] [(4,.bool)] (FI [(4,2),(22,13)]) [] 5),(2,B8 [(6,lP)] [] [(4,.bool)] (FI [(7,2),(10,1),(35,36)]) [] 5),(4,B8 [(6,lP),(39,AP)] [] [(4,.bool)] (FI [(7,2),(10,1),(40,31)]) [] 5),(6,B8 [(6,lP),(47,AP)] [] [(4,.bool)] (FI [(10,1),(48,22)]) [] 8),(8,B8 [(11,I3),(73,AP)] [] [] (FI [(12,2),(74,10)]) [] 8)] []
theorem cF:CV 132 TL:=okW fF [.tmp 2] 85 8 (BD AM.nil A_.nil) Tryz.func132
def K5 (a0:M0):Option Int:=
Option.bind (J3 a0) (fun r1=>
AI (σ:=(Int×Int)) (β:=Int) (fun s1=>
if s1.2<(r1.length:Int) then
if 0<=s1.2/\s1.2<(r1.length:Int) then
if 0<=(gl (0:Int) r1 s1.2.toNat)/\(gl (0:Int) r1 s1.2.toNat)<(a0.1.length:Int) then
if 0<=(gl (0:Int) r1 s1.2.toNat)/\(gl (0:Int) r1 s1.2.toNat)<(a0.1.length:Int) then
some (Sum.inl ((AG (s1.1+(AG ((AG ((1:Int)+(((gl (([],[]):KL) a0.1 ((gl (0:Int) r1 s1.2.toNat).toNat)).1).length:Int)))+(((gl (([],[]):KL) a0.1 ((gl (0:Int) r1 s1.2.toNat).toNat)).2).length:Int)))),AG (s1.2+1))))
else none
else none
else none
else some (Sum.inr (s1.1))) ((0,0)))
@[reducible] def UR:FnI:=BK [W1] [CY] fun x=>K5 x
def jX:Cx:=BE [(1,(3,1)),(7,(4,1)),(19,(5,2)),(27,(7,2))] [] [(132,TL)] [(0,B8 [(3,AP),(9,AP)] [] [] (FI [(5,1),(10,22)]) [] 5)] []
theorem fG:CV 103 UR:=okW jX [.tmp 2] 33 6 (BD (.cons cF AM.nil) A_.nil) Tryz.func103
def C4 (a0:M0) (a1:Int) (a2:Bool):Option Int:=
if a1=0 then
if a2=true then
some (16)
else if a1=0 then
some (0)
else if a1<0 then
some (14)
else if a1>32 then
some (14)
else if 0<=(AG (a1-1))/\(AG (a1-1))<(a0.2.1.length:Int) then
if (!(gl (false:Bool) a0.2.1 ((AG (a1-1)).toNat)))=true then
some (14)
else some (0)
else none
else if a1=0 then
some (0)
else if a1<0 then
some (14)
else if a1>32 then
some (14)
else if 0<=(AG (a1-1))/\(AG (a1-1))<(a0.2.1.length:Int) then
if (!(gl (false:Bool) a0.2.1 ((AG (a1-1)).toNat)))=true then
some (14)
else some (0)
else none
@[reducible] def RC:FnI:=BK [W1,AP,lP] [CY] fun x=>C4 x.1 x.2.1 x.2.2
def cG:Cx:=BE [(3,(3,1))] [] [] [] []
theorem ZZ:CV 104 RC:=okW cG [.tmp 6] 32 1 (BD AM.nil A_.nil) Tryz.func104
def CA (a0:M0) (a1:Int):Option Int:=
if a1=0 then
some ((-1))
else if 0<=(AG (a1-1))/\(AG (a1-1))<(a0.2.2.length:Int) then
some (gl (0:Int) a0.2.2 ((AG (a1-1)).toNat))
else none
@[reducible] def US:FnI:=BK [W1,AP] [CY] fun x=>CA x.1 x.2
def jY:Cx:=BE [(2,(3,1))] [] [] [] []
theorem fH:CV 105 US:=okW jY [.tmp 4] 13 1 (BD AM.nil A_.nil) Tryz.func105
def NS (a0:M0) (a1:QY):Option (M0×(Int×(BitVec 64))):=
Option.bind (K4 a0) (fun r1=>
Option.bind (α:=Unit ⊕ (M0×(Int×(BitVec 64)))) (if a1.1=1 then
if a1.2.1<0 then
Option.bind (AV a0 13) (fun r2=>
some (Sum.inr ((r2.1,r2.2))))
else if a1.2.1>15 then
Option.bind (AV a0 13) (fun r3=>
some (Sum.inr ((r3.1,r3.2))))
else if a1.2.2.1<0 then
Option.bind (AV a0 13) (fun r4=>
some (Sum.inr ((r4.1,r4.2))))
else if a1.2.2.1>32 then
Option.bind (AV a0 13) (fun r5=>
some (Sum.inr ((r5.1,r5.2))))
else Option.bind (FF a0) (fun r6=>
if r6=0 then
Option.bind (AV a0 15) (fun r7=>
some (Sum.inr ((r7.1,r7.2))))
else if 0<=a1.2.2.1/\a1.2.2.1<=a1.2.2.1/\a1.2.2.1*((8:Nat):Int)<=140737488355328 then
AI (σ:=(Int×KL)) (β:=(Unit ⊕ (M0×(Int×(BitVec 64))))) (fun s1=>
if s1.1<a1.2.1 then
if (s1.2.1.length+([(-1)]:List Int).length)*8<=140737488355328 then
some (Sum.inl ((AG (s1.1+1),(s1.2.1++([(-1)]:List Int),s1.2.2))))
else none
else Option.map Sum.inr (if (r1.1.length+([(s1.2.1,s1.2.2)]:List KL).length)*48<=140737488355328 then
if 0<=(AG (r6-1))/\(AG (r6-1))<(r1.2.1.length:Int) then
if 0<=(AG (r6-1))/\(AG (r6-1))<(r1.2.2.length:Int) then
some (Sum.inr (((r1.1++([(s1.2.1,s1.2.2)]:List KL),r1.2.1.set ((AG (r6-1)).toNat) true,r1.2.2.set ((AG (r6-1)).toNat) (AG (((r1.1++([(s1.2.1,s1.2.2)]:List KL)).length:Int)-1))),(0,BitVec.ofInt 64 r6))))
else none
else none
else none)) ((0,([],List.replicate a1.2.2.1.toNat (0#64:(BitVec 64)))))
else none)
else if a1.1=8 then
some (Sum.inr ((r1,(0,0#64))))
else if a1.1=10 then
Option.bind (K5 a0) (fun r8=>
some (Sum.inr ((r1,(0,BitVec.ofInt 64 r8)))))
else if a1.1=6 then
Option.bind (C4 a0 a1.2.1 false) (fun r9=>
if ¬r9=0 then
Option.bind (AV a0 r9) (fun JJ=>
some (Sum.inr ((JJ.1,JJ.2))))
else Option.bind (C4 a0 a1.2.2.1 false) (fun QR=>
if ¬QR=0 then
Option.bind (AV a0 QR) (fun OF=>
some (Sum.inr ((OF.1,OF.2))))
else Option.bind (CA a0 a1.2.1) (fun Q6=>
Option.bind (CA a0 a1.2.2.1) (fun mN=>
if Q6=mN then
some (Sum.inr ((r1,(0,1#64))))
else some (Sum.inr ((r1,(0,0#64))))))))
else if a1.1=7 then
if a1.1=7 then
some (Sum.inl (()))
else Option.bind (AV a0 20) (fun l4=>
some (Sum.inr ((l4.1,l4.2))))
else if a1.1=9 then
if a1.1=9 then
some (Sum.inl (()))
else Option.bind (AV a0 20) (fun uS=>
some (Sum.inr ((uS.1,uS.2))))
else if a1.1=2 then
if a1.1=2 then
some (Sum.inl (()))
else Option.bind (AV a0 20) (fun r17=>
some (Sum.inr ((r17.1,r17.2))))
else if a1.1=3 then
if a1.1=3 then
some (Sum.inl (()))
else Option.bind (AV a0 20) (fun r18=>
some (Sum.inr ((r18.1,r18.2))))
else if a1.1=4 then
if a1.1=4 then
some (Sum.inl (()))
else Option.bind (AV a0 20) (fun r19=>
some (Sum.inr ((r19.1,r19.2))))
else if a1.1=5 then
some (Sum.inl (()))
else Option.bind (AV a0 20) (fun r20=>
some (Sum.inr ((r20.1,r20.2))))) (fun q=>match q with
|Sum.inl j1=>(Option.bind (C4 a0 a1.2.1 true) (fun uT=>
if ¬uT=0 then
Option.bind (AV a0 uT) (fun r22=>
some ((r22.1,r22.2)))
else Option.bind (CA a0 a1.2.1) (fun ZY=>
if 0<=ZY/\ZY<(a0.1.length:Int) then
if a1.1=7 then
if 0<=(AG (a1.2.1-1))/\(AG (a1.2.1-1))<(r1.2.1.length:Int) then
if 0<=(AG (a1.2.1-1))/\(AG (a1.2.1-1))<(r1.2.2.length:Int) then
some (((r1.1,r1.2.1.set ((AG (a1.2.1-1)).toNat) false,r1.2.2.set ((AG (a1.2.1-1)).toNat) (-1)),(0,0#64)))
else none
else none
else if a1.1=9 then
some ((r1,(0,BitVec.ofInt 64 (AG ((AG ((256:Int)*(((gl (([],[]):KL) a0.1 ZY.toNat).1).length:Int)))+(((gl (([],[]):KL) a0.1 ZY.toNat).2).length:Int))))))
else Option.bind (α:=Int ⊕ (M0×(Int×(BitVec 64)))) (if a1.1=2 then
some (Sum.inl ((((gl (([],[]):KL) a0.1 ZY.toNat).1).length:Int)))
else if a1.1=3 then
some (Sum.inl ((((gl (([],[]):KL) a0.1 ZY.toNat).1).length:Int)))
else some (Sum.inl ((((gl (([],[]):KL) a0.1 ZY.toNat).2).length:Int)))) (fun q=>match q with
|Sum.inl j2=>(if a1.2.2.1<0 then
Option.bind (AV a0 17) (fun r24=>
some ((r24.1,r24.2)))
else if a1.2.2.1≥j2 then
Option.bind (AV a0 17) (fun r25=>
some ((r25.1,r25.2)))
else if a1.1=4 then
if 0<=a1.2.2.1/\a1.2.2.1<(((gl (([],[]):KL) a0.1 ZY.toNat).2).length:Int) then
some ((r1,(0,gl (0#64:(BitVec 64)) ((gl (([],[]):KL) a0.1 ZY.toNat).2) a1.2.2.1.toNat)))
else none
else if a1.1=5 then
Option.bind (CA a0 a1.2.1) (fun zW=>
if 0<=zW/\zW<(r1.1.length:Int) then
if 0<=a1.2.2.1/\a1.2.2.1<(((gl (([],[]):KL) r1.1 zW.toNat).2).length:Int) then
some (((r1.1.set zW.toNat ((gl (([],[]):KL) r1.1 zW.toNat).1,(gl (([],[]):KL) r1.1 zW.toNat).2.set a1.2.2.1.toNat (BitVec.ofInt 64 a1.2.2.2)),r1.2),(0,0#64)))
else none
else none)
else if a1.1=3 then
Option.bind (C4 a0 a1.2.2.2 false) (fun uU=>
if ¬uU=0 then
Option.bind (AV a0 uU) (fun r28=>
some ((r28.1,r28.2)))
else Option.bind (CA a0 a1.2.1) (fun y_=>
if 0<=y_/\y_<(r1.1.length:Int) then
Option.bind (CA a0 a1.2.2.2) (fun r30=>
if 0<=a1.2.2.1/\a1.2.2.1<(((gl (([],[]):KL) r1.1 y_.toNat).1).length:Int) then
some (((r1.1.set y_.toNat ((gl (([],[]):KL) r1.1 y_.toNat).1.set a1.2.2.1.toNat r30,(gl (([],[]):KL) r1.1 y_.toNat).2),r1.2),(0,0#64)))
else none)
else none))
else if 0<=a1.2.2.1/\a1.2.2.1<(((gl (([],[]):KL) a0.1 ZY.toNat).1).length:Int) then
if (gl (0:Int) ((gl (([],[]):KL) a0.1 ZY.toNat).1) a1.2.2.1.toNat)=(-1) then
some ((r1,(0,0#64)))
else Option.bind (FF a0) (fun x6=>
if x6=0 then
Option.bind (AV a0 15) (fun r32=>
some ((r32.1,r32.2)))
else if 0<=(AG (x6-1))/\(AG (x6-1))<(r1.2.1.length:Int) then
if 0<=(AG (x6-1))/\(AG (x6-1))<(r1.2.2.length:Int) then
some (((r1.1,r1.2.1.set ((AG (x6-1)).toNat) true,r1.2.2.set ((AG (x6-1)).toNat) (gl (0:Int) ((gl (([],[]):KL) a0.1 ZY.toNat).1) a1.2.2.1.toNat)),(0,BitVec.ofInt 64 x6)))
else none
else none)
else none)
|Sum.inr b1=>some b1)
else none)))
|Sum.inr b2=>some b2))
@[reducible] def W6:FnI:=BK [W1,ABL] [W1,AKD] fun x=>NS x.1 x.2
def oE:Cx:=BE [(2,(3,1)),(3,(4,1)),(4,(5,1)),(5,(6,1)),(6,(10,1)),(8,(18,1)),(13,(39,1)),(19,(7,3)),(23,(31,3)),(47,(11,3)),(55,(14,3)),(60,(17,1)),(70,(19,1)),(71,(20,1)),(76,(23,1)),(77,(24,1)),(118,(25,3)),(129,(28,3)),(160,(34,3)),(170,(37,2)),(226,(40,3)),(270,(43,3)),(306,(46,3))] [60,71,76,77] [(100,UO),(101,UP),(102,UQ),(103,UR),(104,RC),(105,US)] [(1,{ live:=[(9,AP)],boxes:=[(18,⟨A3V,true,true,false⟩)],rows:=[],dead:=FI [(62,11)],lost:=[17],base:=21,pins:=[(22,17,18)] })] [(38,B8 [] [] [] (FI [(7,5),(20,132)]) [] 34),(51,B8 [(14,AP)] [] [] (FI [(205,11)]) [] 40)]
theorem l7:CV 60 W6:=okW oE [.cell 4 44,.cell 5 118] 324 46 (BD (.cons fC (.cons fD (.cons fE (.cons fG (.cons ZZ (.cons fH AM.nil)))))) A_.nil) Tryz.func60
def BP (a0:(List Int)) (a1:GB):Option (Int×(List Int)×GB):=
if (a0.length:Int)=0 then
Option.bind (AF a1 35) (fun r1=>
some ((r1.1,a0,r1.2)))
else Option.bind (AF a1 12) (fun r2=>
if r2.1=0 then
Option.bind (AF r2.2 35) (fun r3=>
some ((r3.1,a0,r3.2)))
else Option.bind (AF r2.2 (a0.length:Int)) (fun r4=>
if 0<=r4.1/\r4.1<(a0.length:Int) then
some ((gl (0:Int) a0 r4.1.toNat,a0,r4.2))
else none))
@[reducible] def V1:FnI:={ ps:=[⟨AH4,false,false,true⟩,P2],rs:=[CY],os:=[⟨AH4,false,false,true⟩,P2],bk:=[0,2],sh:=[.one,.pp 4],qD:=[(4,2)],F:=fun x=>BP x.1 x.2 }
def l8:Cx:=BE [(8,(6,1)),(12,(5,1)),(17,(7,1))] [] [(56,DE)] [] []
theorem jZ:CV 87 V1:=okW l8 [.tmp 2] 20 4 (BD (.cons D1 AM.nil) A_.nil) Tryz.func87
def LG (a0:GB) (a1:M0):Option (QY×GB):=
AI (σ:=(Int×(List Int))) (β:=(QY×GB)) (fun s1=>
if s1.1<(a1.2.1.length:Int) then
if 0<=s1.1/\s1.1<(a1.2.1.length:Int) then
if (gl (false:Bool) a1.2.1 s1.1.toNat)=true then
if (s1.2.length+([AG (s1.1+1)]:List Int).length)*8<=140737488355328 then
some (Sum.inl ((AG (s1.1+1),s1.2++([AG (s1.1+1)]:List Int))))
else none
else some (Sum.inl ((AG (s1.1+1),s1.2)))
else none
else Option.map Sum.inr (Option.bind (AF a0 20) (fun r1=>
if 0<=r1.1/\r1.1<(([1,1,1,1,2,2,3,3,3,3,4,5,6,7,7,7,8,9,10,0]:List Int).length:Int) then
Option.bind (α:=QY ⊕ (QY×GB)) (if (s1.2.length:Int)>20 then
if (gl (0:Int) ([1,1,1,1,2,2,3,3,3,3,4,5,6,7,7,7,8,9,10,0]:List Int) r1.1.toNat)=1 then
some (Sum.inl ((7,0,0,0)))
else some (Sum.inl ((gl (0:Int) ([1,1,1,1,2,2,3,3,3,3,4,5,6,7,7,7,8,9,10,0]:List Int) r1.1.toNat,0,0,0)))
else some (Sum.inl ((gl (0:Int) ([1,1,1,1,2,2,3,3,3,3,4,5,6,7,7,7,8,9,10,0]:List Int) r1.1.toNat,0,0,0)))) (fun q=>match q with
|Sum.inl j1=>(if j1.1=1 then
Option.bind (AF r1.2 4) (fun r2=>
Option.bind (AF r2.2 4) (fun r3=>
if 0<=r3.1/\r3.1<(([3,3,8,17]:List Int).length:Int) then
Option.bind (AF r3.2 (gl (0:Int) ([3,3,8,17]:List Int) r3.1.toNat)) (fun r4=>
some (((j1.1,r2.1,r4.1,j1.2.2.2),r4.2)))
else none))
else Option.bind (α:=Bool ⊕ (QY×GB)) (if j1.1=2 then
some (Sum.inl (decide (j1.1=2)))
else some (Sum.inl (decide (j1.1=4)))) (fun q=>match q with
|Sum.inl j2=>(if j2=true then
Option.bind (BP s1.2 r1.2) (fun r5=>
Option.bind (AF r5.2.2 3) (fun r6=>
some (((j1.1,r5.1,r6.1,j1.2.2.2),r6.2))))
else if j1.1=3 then
Option.bind (BP s1.2 r1.2) (fun r7=>
Option.bind (AF r7.2.2 3) (fun r8=>
Option.bind (BP r7.2.1 r8.2) (fun r9=>
some (((j1.1,r7.1,r8.1,r9.1),r9.2.2)))))
else if j1.1=5 then
Option.bind (BP s1.2 r1.2) (fun JJ=>
Option.bind (AF JJ.2.2 3) (fun QR=>
Option.bind (AF QR.2 256) (fun OF=>
some (((j1.1,JJ.1,QR.1,OF.1),OF.2)))))
else if j1.1=6 then
Option.bind (BP s1.2 r1.2) (fun Q6=>
Option.bind (BP Q6.2.1 Q6.2.2) (fun mN=>
some (((j1.1,Q6.1,mN.1,j1.2.2.2),mN.2.2))))
else if j1.1=7 then
if j1.1=7 then
Option.bind (BP s1.2 r1.2) (fun l4=>
some (((j1.1,l4.1,j1.2.2),l4.2.2)))
else some ((j1,r1.2))
else if j1.1=9 then
Option.bind (BP s1.2 r1.2) (fun uS=>
some (((j1.1,uS.1,j1.2.2),uS.2.2)))
else some ((j1,r1.2)))
|Sum.inr b1=>some b1))
|Sum.inr b2=>some b2)
else none))) ((0,[]))
@[reducible] def YR:FnI:={ ps:=[P2,W1],rs:=[⟨AMX,true,true,false⟩],os:=[P2],bk:=[0],F:=fun x=>LG x.1 x.2 }
def qV:Cx:=BE [(2,(5,1)),(3,(6,1)),(4,(7,1)),(5,(8,1)),(9,(14,1)),(22,(9,1)),(23,(10,1)),(26,(12,1)),(28,(13,1)),(46,(15,1)),(48,(16,1)),(50,(17,1)),(53,(18,1)),(60,(19,2)),(62,(21,1)),(68,(22,2)),(70,(24,1)),(72,(25,2)),(79,(27,2)),(81,(29,1)),(83,(30,1)),(90,(31,2)),(92,(33,2)),(99,(35,2))] [23] [(56,DE),(87,V1)] [(0,B8 [(13,AP)] [(8,I3)] [] (FI [(6,2),(14,11)]) [] 11)] [(12,B8 [] [(14,ABL)] [] (FI [(32,9)]) [] 15),(17,B8 [(56,lP)] [] [] [57,58] [] 19)]
theorem oF:CV 58 YR:=okW qV [.cell 4 115] 102 32 (BD (.cons D1 (.cons jZ AM.nil)) A_.nil) Tryz.func58
def OD :Option (List ByteArray):=
some (([(⟨#[115,101,109,105,115,112,97,99,101]⟩:ByteArray),(⟨#[97,112,112,101,108]⟩:ByteArray),(⟨#[102,105,120,101,100]⟩:ByteArray),(⟨#[111,108,100,101,114,45,102,105,114,115,116]⟩:ByteArray),(⟨#[120,120]⟩:ByteArray),(⟨#[120,120,49,48,48]⟩:ByteArray)]:List ByteArray))
@[reducible] def TM:FnI:=BK [] [⟨(.slice .str),false,true,false⟩] fun x=>OD 
def fI:Cx:=BE [(1,(0,1))] [1] [] [] []
theorem cH:CV 61 TM:=okW fI [.tmp 0] 2 1 (BD AM.nil A_.nil) Tryz.func61
def GJ (a0:Int):Option (Nat×Int):=
if a0<0 then
some ((0,1))
else if a0>100 then
some ((0,1))
else if (GL .quo (cV a0) 4636737291354636288).isSome=true then
some (((GL .quo (cV a0) 4636737291354636288).getD 0,0))
else none
@[reducible] def K6:FnI:=BK [AP] [API,CY] fun x=>GJ x
def Z0:Cx:=BE [] [] [] [] []
theorem PI:CV 51 K6:=okW Z0 [.tmp 2,.tmp 3] 13 0 (BD AM.nil A_.nil) Tryz.func51
def DI (a0:ByteArray) (a1:Int):Option (D7×Int):=
Option.bind (GJ a1) (fun r1=>
if ¬r1.2=0 then
if a0=(⟨#[115,101,109,105,115,112,97,99,101]⟩:ByteArray) then
some ((((⟨#[]⟩:ByteArray),[],0),6))
else if a0=(⟨#[97,112,112,101,108]⟩:ByteArray) then
some ((((⟨#[]⟩:ByteArray),[],0),6))
else if a0=(⟨#[102,105,120,101,100]⟩:ByteArray) then
some ((((⟨#[]⟩:ByteArray),[],0),6))
else if a0=(⟨#[111,108,100,101,114,45,102,105,114,115,116]⟩:ByteArray) then
some ((((⟨#[]⟩:ByteArray),[],0),6))
else if a0=(⟨#[120,120]⟩:ByteArray) then
some ((((⟨#[]⟩:ByteArray),[],0),6))
else if a0=(⟨#[120,120,49,48,48]⟩:ByteArray) then
some ((((⟨#[]⟩:ByteArray),[],0),6))
else some ((((⟨#[]⟩:ByteArray),[],0),7))
else if a0=(⟨#[115,101,109,105,115,112,97,99,101]⟩:ByteArray) then
if a1<1 then
some ((((⟨#[]⟩:ByteArray),[],0),6))
else some (((a0,([(0,0,0,0)]:List AJ),1),0))
else if a0=(⟨#[97,112,112,101,108]⟩:ByteArray) then
if a1<1 then
some ((((⟨#[]⟩:ByteArray),[],0),6))
else some (((a0,([(0,0,0,1),(0,0,0,1)]:List AJ),8),0))
else if a0=(⟨#[102,105,120,101,100]⟩:ByteArray) then
if a1<1 then
some ((((⟨#[]⟩:ByteArray),[],0),6))
else some (((a0,([(r1.1,1,0,1),(0,0,0,1)]:List AJ),8),0))
else if a0=(⟨#[111,108,100,101,114,45,102,105,114,115,116]⟩:ByteArray) then
if a1<1 then
some ((((⟨#[]⟩:ByteArray),[],0),6))
else some (((a0,([(r1.1,0,1,0)]:List AJ),0),0))
else if a0=(⟨#[120,120]⟩:ByteArray) then
if a1<1 then
some ((((⟨#[]⟩:ByteArray),[],0),6))
else some (((a0,([(r1.1,0,1,1),(r1.1,0,1,1)]:List AJ),0),0))
else if a0=(⟨#[120,120,49,48,48]⟩:ByteArray) then
if a1<1 then
some ((((⟨#[]⟩:ByteArray),[],0),6))
else some (((a0,([(r1.1,0,1,1),(r1.1,0,1,2),(0,0,0,2)]:List AJ),8),0))
else some ((((⟨#[]⟩:ByteArray),[],0),7)))
@[reducible] def IN:FnI:=BK [A14,AP] [AN1,CY] fun x=>DI x.1 x.2
def l9:Cx:=BE [(4,(0,1)),(9,(1,1)),(28,(2,1)),(35,(3,1)),(42,(4,1)),(48,(5,1)),(57,(6,1)),(67,(7,1))] [28,35,42,48,57,67] [(51,K6)] [] []
theorem J4:CV 26 IN:=okW l9 [.cell 4 24,.tmp 5] 72 8 (BD (.cons PI AM.nil) A_.nil) Tryz.func26
def K7 (a0:GB):Option (Nat×GB):=
Option.bind (AF a0 4) (fun r1=>
if r1.1=0 then
Option.bind (AF r1.2 5) (fun r2=>
if 0<=r2.1/\r2.1<(([4602678819172646912,4593671619917905920,4607182418800017408,4599676419421066581,4562254508917369340]:List Nat).length:Int) then
some ((gl (0:Nat) ([4602678819172646912,4593671619917905920,4607182418800017408,4599676419421066581,4562254508917369340]:List Nat) r2.1.toNat,r2.2))
else none)
else Option.bind (AF r1.2 100) (fun r3=>
Option.bind (GJ (AG ((1:Int)+r3.1))) (fun r4=>
some ((r4.1,r3.2)))))
@[reducible] def UT:FnI:={ ps:=[P2],rs:=[API],os:=[P2],bk:=[0],F:=fun x=>K7 x }
def j6:Cx:=BE [(6,(2,1)),(8,(3,1)),(10,(4,1)),(15,(5,1))] [] [(51,K6),(56,DE)] [] []
theorem fJ:CV 62 UT:=okW j6 [.tmp 2] 21 4 (BD (.cons PI (.cons D1 AM.nil)) A_.nil) Tryz.func62
def J5 (a0:GB):Option (D7×GB):=
Option.bind (AF a0 3) (fun r1=>
if r1.1>0 then
Option.bind (OD) (fun r2=>
Option.bind (AF r1.2 6) (fun r3=>
if 0<=r3.1/\r3.1<(r2.length:Int) then
Option.bind (AF r3.2 100) (fun r4=>
Option.bind (AF r4.2 6) (fun r5=>
if 0<=r5.1/\r5.1<(([10,15,25,30,50,AG ((1:Int)+r4.1)]:List Int).length:Int) then
Option.bind (DI (gl (⟨#[]⟩:ByteArray) r2 r3.1.toNat) (gl (0:Int) ([10,15,25,30,50,AG ((1:Int)+r4.1)]:List Int) r5.1.toNat)) (fun r6=>
Option.bind (α:=(GB×D7) ⊕ (D7×GB)) (if r6.1.2.2>0 then
Option.bind (AF r5.2 5) (fun r7=>
some (Sum.inl ((r7.2,(r6.1.1,r6.1.2.1,AG ((1:Int)+r7.1))))))
else some (Sum.inl ((r5.2,r6.1)))) (fun q=>match q with
|Sum.inl j1=>(some ((j1.2,j1.1)))
|Sum.inr b1=>some b1))
else none))
else none))
else Option.bind (AF r1.2 4) (fun r8=>
AI (σ:=(Int×GB×D7)) (β:=(D7×GB)) (fun s1=>
if s1.1<(AG ((1:Int)+r8.1)) then
Option.bind (AF s1.2.1 3) (fun r9=>
Option.bind (α:=(GB×AJ) ⊕ ((Int×GB×D7) ⊕ (D7×GB))) (Option.bind (AF r9.2 3) (fun JJ=>
if JJ.1>0 then
Option.bind (K7 JJ.2) (fun QR=>
some (Sum.inl ((QR.2,(QR.1,0,r9.1,AG (s1.1+1))))))
else some (Sum.inl ((JJ.2,(0,0,r9.1,AG (s1.1+1))))))) (fun q=>match q with
|Sum.inl j2=>(if s1.1<(AG ((AG ((1:Int)+r8.1))-1)) then
Option.bind (AF j2.1 3) (fun OF=>
if OF.1=0 then
Option.bind (AF OF.2 2) (fun Q6=>
if s1.1=(AG ((AG ((1:Int)+r8.1))-1)) then
if DJ j2.2.1 0=some .eq then
Option.bind (AF Q6.2 6) (fun mN=>
if (s1.2.2.2.1.length+([(j2.2.1,AG ((1:Int)+Q6.1),j2.2.2.2.1,s1.1)]:List AJ).length)*32<=140737488355328 then
some (Sum.inl ((AG (s1.1+1),mN.2,(s1.2.2.1,s1.2.2.2.1++([(j2.2.1,AG ((1:Int)+Q6.1),j2.2.2.2.1,s1.1)]:List AJ),AG ((1:Int)+mN.1)))))
else none)
else if (s1.2.2.2.1.length+([(j2.2.1,AG ((1:Int)+Q6.1),j2.2.2.2.1,s1.1)]:List AJ).length)*32<=140737488355328 then
some (Sum.inl ((AG (s1.1+1),Q6.2,(s1.2.2.1,s1.2.2.2.1++([(j2.2.1,AG ((1:Int)+Q6.1),j2.2.2.2.1,s1.1)]:List AJ),s1.2.2.2.2))))
else none
else if (s1.2.2.2.1.length+([(j2.2.1,AG ((1:Int)+Q6.1),j2.2.2.2)]:List AJ).length)*32<=140737488355328 then
some (Sum.inl ((AG (s1.1+1),Q6.2,(s1.2.2.1,s1.2.2.2.1++([(j2.2.1,AG ((1:Int)+Q6.1),j2.2.2.2)]:List AJ),s1.2.2.2.2))))
else none)
else if s1.1=(AG ((AG ((1:Int)+r8.1))-1)) then
if DJ j2.2.1 0=some .eq then
Option.bind (AF OF.2 6) (fun l4=>
if (s1.2.2.2.1.length+([(j2.2.1,j2.2.2.1,j2.2.2.2.1,s1.1)]:List AJ).length)*32<=140737488355328 then
some (Sum.inl ((AG (s1.1+1),l4.2,(s1.2.2.1,s1.2.2.2.1++([(j2.2.1,j2.2.2.1,j2.2.2.2.1,s1.1)]:List AJ),AG ((1:Int)+l4.1)))))
else none)
else if (s1.2.2.2.1.length+([(j2.2.1,j2.2.2.1,j2.2.2.2.1,s1.1)]:List AJ).length)*32<=140737488355328 then
some (Sum.inl ((AG (s1.1+1),OF.2,(s1.2.2.1,s1.2.2.2.1++([(j2.2.1,j2.2.2.1,j2.2.2.2.1,s1.1)]:List AJ),s1.2.2.2.2))))
else none
else if (s1.2.2.2.1.length+([j2.2]:List AJ).length)*32<=140737488355328 then
some (Sum.inl ((AG (s1.1+1),OF.2,(s1.2.2.1,s1.2.2.2.1++([j2.2]:List AJ),s1.2.2.2.2))))
else none)
else if s1.1=(AG ((AG ((1:Int)+r8.1))-1)) then
if DJ j2.2.1 0=some .eq then
Option.bind (AF j2.1 6) (fun uS=>
if (s1.2.2.2.1.length+([(j2.2.1,j2.2.2.1,j2.2.2.2.1,s1.1)]:List AJ).length)*32<=140737488355328 then
some (Sum.inl ((AG (s1.1+1),uS.2,(s1.2.2.1,s1.2.2.2.1++([(j2.2.1,j2.2.2.1,j2.2.2.2.1,s1.1)]:List AJ),AG ((1:Int)+uS.1)))))
else none)
else if (s1.2.2.2.1.length+([(j2.2.1,j2.2.2.1,j2.2.2.2.1,s1.1)]:List AJ).length)*32<=140737488355328 then
some (Sum.inl ((AG (s1.1+1),j2.1,(s1.2.2.1,s1.2.2.2.1++([(j2.2.1,j2.2.2.1,j2.2.2.2.1,s1.1)]:List AJ),s1.2.2.2.2))))
else none
else if (s1.2.2.2.1.length+([j2.2]:List AJ).length)*32<=140737488355328 then
some (Sum.inl ((AG (s1.1+1),j2.1,(s1.2.2.1,s1.2.2.2.1++([j2.2]:List AJ),s1.2.2.2.2))))
else none)
|Sum.inr b2=>some b2))
else some (Sum.inr ((s1.2.2,s1.2.1)))) ((0,r8.2,((⟨#[111,119,110]⟩:ByteArray),[],0)))))
@[reducible] def TN:FnI:={ ps:=[P2],rs:=[AN1],os:=[P2],bk:=[0],F:=fun x=>J5 x }
def fK:Cx:=BE [(2,(2,1)),(3,(10,1)),(6,(15,1)),(8,(17,1)),(10,(3,1)),(13,(4,1)),(15,(5,1)),(19,(6,1)),(21,(7,1)),(23,(8,1)),(26,(9,1)),(33,(11,1)),(38,(14,1)),(47,(16,1)),(52,(18,1)),(55,(19,1)),(63,(21,1)),(67,(22,1)),(80,(23,1)),(86,(24,1)),(87,(25,1))] [87] [(26,IN),(56,DE),(61,TM),(62,UT)] [(0,B8 [(7,AP)] [(0,AMZ),(15,AN1)] [] (FI [(8,1),(41,48)]) [] 27)] [(5,{ live:=[],boxes:=[(0,AMZ),(10,AN1)],rows:=[],dead:=FI [(29,7)],lost:=[9],base:=12,pins:=[(13,9,10)] }),(14,B8 [] [(0,AMZ),(17,⟨AZ3,true,false,false⟩)] [] (FI [(51,6)]) [] 20)]
theorem cI:CV 29 TN:=okW fK [.cell 2 24] 90 27 (BD (.cons J4 (.cons D1 (.cons cH (.cons fJ AM.nil)))) A_.nil) Tryz.func29
def O8 (a0:GB):Option (Int×Int×GB):=
Option.bind (AF a0 2) (fun r1=>
Option.bind (AF r1.2 15) (fun r2=>
some ((AG ((3:Int)+r1.1),AG ((6:Int)+r2.1),r2.2))))
@[reducible] def UU:FnI:={ ps:=[P2],rs:=[CY,CY],os:=[P2],bk:=[0],F:=fun x=>O8 x }
def j7:Cx:=BE [(5,(2,1)),(8,(3,1))] [] [(56,DE)] [] []
theorem fL:CV 54 UU:=okW j7 [.tmp 2,.tmp 3] 10 2 (BD (.cons D1 AM.nil) A_.nil) Tryz.func54
def MI :Option M0:=
if 0<=(32:Int)/\(32:Int)<=(32:Int)/\(32:Int)*((1:Nat):Int)<=140737488355328 then
if 0<=(32:Int)/\(32:Int)<=(32:Int)/\(32:Int)*((8:Nat):Int)<=140737488355328 then
AI (σ:=(Int×(List Int))) (β:=M0) (fun s1=>
if s1.1<((List.replicate (32:Int).toNat (0:Int)).length:Int) then
if 0<=s1.1/\s1.1<(s1.2.length:Int) then
some (Sum.inl ((AG (s1.1+1),s1.2.set s1.1.toNat (-1))))
else none
else some (Sum.inr (([],List.replicate (32:Int).toNat (false:Bool),s1.2)))) ((0,List.replicate (32:Int).toNat (0:Int)))
else none
else none
@[reducible] def V2:FnI:=BK [] [AT2] fun x=>MI 
def l_:Cx:=BE [(0,(0,1)),(1,(3,1)),(3,(1,1)),(4,(2,1))] [3,4] [] [(0,B8 [(9,AP)] [] [(2,(.int .i64))] (FI [(2,1),(10,7)]) [] 4)] []
theorem j8:CV 55 V2:=okW l_ [.cell 0 44] 18 4 (BD AM.nil A_.nil) Tryz.func55
def K8 (a0:GB):Option (Bool×GB):=
some ((decide (a0.2<(a0.1.length:Int)),a0))
@[reducible] def PJ:FnI:={ ps:=[P2],rs:=[FN],os:=[P2],bk:=[0],F:=fun x=>K8 x }
def YS:Cx:=BE [] [] [] [] []
theorem XP:CV 57 PJ:=okW YS [.tmp 2] 13 0 (BD AM.nil A_.nil) Tryz.func57
def HS (a0:GB) (a1:D7):Option (C6×M0×GB):=
Option.bind (O8 a0) (fun r1=>
Option.bind (FT a1 r1.1 r1.2.1) (fun r2=>
Option.bind (MI) (fun r3=>
Option.bind (AF r1.2.2 50) (fun r4=>
AI (σ:=(Int×GB×C6×M0)) (β:=(C6×M0×GB)) (fun s1=>
if s1.1>0 then
Option.bind (K8 s1.2.1) (fun r5=>
if r5.1=true then
Option.bind (LG r5.2 s1.2.2.2) (fun r6=>
Option.bind (NR s1.2.2.1 r6.1) (fun r7=>
if r7.2.1=18 then
some (Sum.inl ((AG (s1.1-1),r6.2,s1.2.2.1,s1.2.2.2)))
else Option.bind (NS s1.2.2.2 r6.1) (fun r8=>
some (Sum.inl ((AG (s1.1-1),r6.2,r7.1,r8.1))))))
else some (Sum.inr ((s1.2.2.1,s1.2.2.2,r5.2))))
else some (Sum.inr ((s1.2.2.1,s1.2.2.2,s1.2.1)))) ((AG ((6:Int)+r4.1),r4.2,r2.1,r3))))))
@[reducible] def TO:FnI:={ ps:=[P2,PD],rs:=[IH,W1],os:=[P2],bk:=[0],F:=fun x=>HS x.1 x.2 }
def fM:Cx:=BE [(3,(3,1)),(4,(4,1)),(5,(5,1)),(8,(14,1)),(10,(18,1)),(12,(22,1)),(13,(30,1)),(14,(31,1)),(17,(6,1)),(24,(7,7)),(27,(15,3)),(29,(19,1)),(35,(20,1)),(41,(21,1)),(45,(23,7)),(55,(52,3))] [] [(27,IL),(54,UU),(55,V2),(56,DE),(57,PJ),(58,YR),(59,W5),(60,W6)] [(0,B8 [(11,AP)] [(0,AMZ),(14,IH),(18,W1)] [] (FI [(12,3),(31,27)]) [7,8,9,10,11,12,13,15,16,17] 41)] []
theorem cJ:CV 28 TO:=okW fM [.cell 4 41,.cell 5 44] 60 52 (BD (.cons JV (.cons fL (.cons j8 (.cons D1 (.cons XP (.cons oF (.cons l6 (.cons l7 AM.nil)))))))) A_.nil) Tryz.func28
def FV (a0:GB):Option (C6×M0×GB):=
Option.bind (J5 a0) (fun r1=>
Option.bind (HS r1.2 r1.1) (fun r2=>
some ((r2.1,r2.2.1,r2.2.2))))
@[reducible] def IP:FnI:={ ps:=[P2],rs:=[IH,W1],os:=[P2],bk:=[0],F:=fun x=>FV x }
def mA:Cx:=BE [(2,(2,1)),(3,(3,1)),(6,(4,2)),(7,(6,11))] [] [(28,TO),(29,TN)] [] []
theorem J6:CV 10 IP:=okW mA [.cell 2 41,.cell 3 44] 10 15 (BD (.cons cJ (.cons cI AM.nil)) A_.nil) Tryz.func10
end
noncomputable section
def NT (a0:Nat):Option Bool:=
if a0<18446744073709551616 then
if (BitVec.ofNat 64 a0)=(0#64) then
some (true)
else if DJ a0 0=some .gt then
some (decide (DJ a0 4607182418800017408=some .lt\/DJ a0 4607182418800017408=some .eq))
else some (false)
else none
@[reducible] def XQ:FnI:=BK [zR] [FN] fun x=>NT x
def zX:Cx:={ nm:=[],CK:=[],fns:=ADC [],loops:=[],aQ:=[],tb:=nX,exts:=[(81,.U3)],lets:=[] }
theorem fN:CV 106 XQ:=okW zX [.tmp 2] 14 0 (BD AM.nil (.cons AT5 A_.nil)) Tryz.func106
def OP (a0:Int):Option Bool:=
if a0≥0 then
some (decide (a0<=64))
else some (false)
@[reducible] def fO:FnI:=BK [AP] [FN] fun x=>OP x
def x7:Cx:=BE [] [] [] [] []
theorem tX:CV 107 fO:=okW x7 [.tmp 2] 9 0 (BD AM.nil A_.nil) Tryz.func107
def U6 (a0:D7) (a1:Int):Option Int:=
if 0<=a1/\a1<(a0.2.1.length:Int) then
Option.bind (NT ((gl ((0,0,0,0):AJ) a0.2.1 a1.toNat).1)) (fun r1=>
if (!r1)=true then
some (6)
else Option.bind (OP (((gl ((0,0,0,0):AJ) a0.2.1 a1.toNat).2).1)) (fun r2=>
if (!r2)=true then
some (9)
else Option.bind (OP ((((gl ((0,0,0,0):AJ) a0.2.1 a1.toNat).2).2).1)) (fun r3=>
if (!r3)=true then
some (9)
else if a1=(AG ((a0.2.1.length:Int)-1)) then
if ¬(((gl ((0,0,0,0):AJ) a0.2.1 a1.toNat).2).1)=0 then
some (9)
else if a1=(AG ((a0.2.1.length:Int)-1)) then
if ¬((((gl ((0,0,0,0):AJ) a0.2.1 a1.toNat).2).2).2)=a1 then
some (10)
else if a1<(AG ((a0.2.1.length:Int)-1)) then
if ((((gl ((0,0,0,0):AJ) a0.2.1 a1.toNat).2).2).2)<=a1 then
some (10)
else if ((((gl ((0,0,0,0):AJ) a0.2.1 a1.toNat).2).2).2)>(AG ((a0.2.1.length:Int)-1)) then
some (10)
else some (0)
else some (0)
else if a1<(AG ((a0.2.1.length:Int)-1)) then
if ((((gl ((0,0,0,0):AJ) a0.2.1 a1.toNat).2).2).2)<=a1 then
some (10)
else if ((((gl ((0,0,0,0):AJ) a0.2.1 a1.toNat).2).2).2)>(AG ((a0.2.1.length:Int)-1)) then
some (10)
else some (0)
else some (0)
else if a1=(AG ((a0.2.1.length:Int)-1)) then
if ¬((((gl ((0,0,0,0):AJ) a0.2.1 a1.toNat).2).2).2)=a1 then
some (10)
else if a1<(AG ((a0.2.1.length:Int)-1)) then
if ((((gl ((0,0,0,0):AJ) a0.2.1 a1.toNat).2).2).2)<=a1 then
some (10)
else if ((((gl ((0,0,0,0):AJ) a0.2.1 a1.toNat).2).2).2)>(AG ((a0.2.1.length:Int)-1)) then
some (10)
else some (0)
else some (0)
else if a1<(AG ((a0.2.1.length:Int)-1)) then
if ((((gl ((0,0,0,0):AJ) a0.2.1 a1.toNat).2).2).2)<=a1 then
some (10)
else if ((((gl ((0,0,0,0):AJ) a0.2.1 a1.toNat).2).2).2)>(AG ((a0.2.1.length:Int)-1)) then
some (10)
else some (0)
else some (0))))
else none
@[reducible] def kQ:FnI:=BK [PD,AP] [CY] fun x=>U6 x.1 x.2
def zY:Cx:=BE [(2,(1,1)),(5,(2,1))] [] [(106,XQ),(107,fO)] [] []
theorem x8:CV 65 kQ:=okW zY [.tmp 4] 69 2 (BD (.cons fN (.cons tX AM.nil)) A_.nil) Tryz.func65
def NU (a0:D7) (a1:Int):Option Bool:=
AI (σ:=Int) (β:=Bool) (fun s1=>
if s1<(a0.2.1.length:Int) then
if 0<=s1/\s1<(a0.2.1.length:Int) then
if ¬s1=a1 then
if ((((gl ((0,0,0,0):AJ) a0.2.1 s1.toNat).2).2).2)=a1 then
some (Sum.inr (true))
else some (Sum.inl (AG (s1+1)))
else some (Sum.inl (AG (s1+1)))
else none
else some (Sum.inr (false))) (0)
@[reducible] def W7:FnI:=BK [PD,AP] [FN] fun x=>NU x.1 x.2
def oG:Cx:=BE [(2,(1,1)),(6,(2,1))] [] [] [(0,B8 [(10,AP)] [] [] (FI [(4,3),(11,14)]) [] 2)] []
theorem mB:CV 66 W7:=okW oG [.tmp 4] 25 2 (BD AM.nil A_.nil) Tryz.func66
def H8 (a0:D7):Option Int:=
Option.bind (LO a0.1) (fun r1=>
if (!r1)=true then
some (7)
else if (a0.2.1.length:Int)<1 then
some (8)
else if (a0.2.1.length:Int)>4 then
some (8)
else AI (σ:=Int) (β:=Int) (fun s1=>
if s1<(a0.2.1.length:Int) then
Option.bind (U6 a0 s1) (fun r2=>
if ¬r2=0 then
some (Sum.inr (r2))
else some (Sum.inl (AG (s1+1))))
else Option.map Sum.inr (AI (σ:=Int) (β:=Int) (fun s2=>
if s2<(a0.2.1.length:Int) then
Option.bind (NU a0 s2) (fun r3=>
if (!r3)=true then
some (Sum.inr (10))
else some (Sum.inl (AG (s2+1))))
else Option.map Sum.inr (if 0<=(AG ((a0.2.1.length:Int)-1))/\(AG ((a0.2.1.length:Int)-1))<(a0.2.1.length:Int) then
if DJ ((gl ((0,0,0,0):AJ) a0.2.1 ((AG ((a0.2.1.length:Int)-1)).toNat)).1) 0=some .eq then
if a0.2.2<1 then
some (9)
else if a0.2.2>64 then
if a0.2.2>64 then
some (9)
else some (0)
else if ¬(DJ ((gl ((0,0,0,0):AJ) a0.2.1 ((AG ((a0.2.1.length:Int)-1)).toNat)).1) 0=some .eq) then
if ¬a0.2.2=0 then
some (9)
else some (0)
else some (0)
else if ¬(DJ ((gl ((0,0,0,0):AJ) a0.2.1 ((AG ((a0.2.1.length:Int)-1)).toNat)).1) 0=some .eq) then
if ¬a0.2.2=0 then
some (9)
else some (0)
else some (0)
else none)) (1))) (0))
@[reducible] def NG:FnI:=BK [PD] [CY] fun x=>H8 x
def x9:Cx:=BE [(1,(1,1))] [] [(64,eG),(65,kQ),(66,W7)] [(1,B8 [(26,AP)] [] [] (FI [(2,3),(27,9)]) [] 2),(3,B8 [(5,AP)] [] [] (FI [(2,1),(36,11)]) [] 2)] []
theorem OW:CV 31 NG:=okW x9 [.tmp 2] 76 1 (BD (.cons tW (.cons x8 (.cons mB AM.nil))) A_.nil) Tryz.func31
def hD (a0:B7) (a1:Int):Option Bool:=
if a1≥0 then
some (decide (a1<(a0.2.2.length:Int)))
else some (false)
@[reducible] def x_:FnI:=BK [D3,AP] [FN] fun x=>hD x.1 x.2
def AKE:Cx:=BE [(2,(2,1))] [] [] [] []
theorem AHA:CV 133 x_:=okW AKE [.tmp 4] 14 1 (BD AM.nil A_.nil) Tryz.func133
def W8 (a0:B7) (a1:Int):Option Bool:=
if 0<=a1/\a1<(a0.2.2.length:Int) then
some (decide (((gl ((0,0,0):BB) a0.2.2 a1.toNat).1)=(-1)))
else none
@[reducible] def oH:FnI:=BK [D3,AP] [FN] fun x=>W8 x.1 x.2
def ADI:Cx:=BE [(2,(2,1))] [] [] [] []
theorem zZ:CV 134 oH:=okW ADI [.tmp 4] 12 1 (BD AM.nil A_.nil) Tryz.func134
def PK (a0:B7) (a1:Int):Option GB:=
Option.bind (I9 a0) (fun r1=>
if (!r1)=true then
some (([],1))
else Option.bind (hD a0 a1) (fun r2=>
if (!r2)=true then
some (([],2))
else Option.bind (W8 a0 a1) (fun r3=>
if r3=true then
some (([],5))
else AI (σ:=GB) (β:=GB) (fun s1=>
if s1.2≥0 then
if (s1.1.length+([s1.2]:List Int).length)*8<=140737488355328 then
if 0<=s1.2/\s1.2<(a0.2.2.length:Int) then
some (Sum.inl ((s1.1++([s1.2]:List Int),((gl ((0,0,0):BB) a0.2.2 s1.2.toNat).2).2)))
else none
else none
else some (Sum.inr ((s1.1,0)))) (([],a1)))))
@[reducible] def oI:FnI:=BK [D3,AP] [I3,CY] fun x=>PK x.1 x.2
def ADJ:Cx:=BE [(2,(2,1)),(29,(4,1)),(30,(5,1))] [30] [(67,R_),(133,x_),(134,oH)] [(0,B8 [(6,I3),(7,AP)] [] [] (FI [(19,12)]) [] 3)] []
theorem z5:CV 111 oI:=okW ADJ [.tmp 4,.tmp 5] 32 4 (BD (.cons VP (.cons AHA (.cons zZ AM.nil))) A_.nil) Tryz.func111
def V4 (a0:Int) (a1:Int):Option Int:=
if a0<0 then
some (0)
else if a0>1099511627776 then
some (0)
else if a1<0 then
some (0)
else if a1>20 then
some (0)
else if True then
if True then
some ((AG ((AG (a0+(AG ((1:Int)*2 ^ min (BitVec.ofInt 64 a1).toNat 64))))-1)) / 2 ^ min (BitVec.ofInt 64 a1).toNat 64)
else none
else none
@[reducible] def fP:FnI:=BK [AP,AP] [CY] fun x=>V4 x.1 x.2
def AHB:Cx:=BE [] [] [] [] []
theorem oJ:CV 114 fP:=okW AHB [.tmp 4] 28 0 (BD AM.nil A_.nil) Tryz.func114
def K9 (a0:B7) (a1:AB):Option Int:=
Option.bind (V4 a1.2.2.2.2 a0.1) (fun r1=>
some (r1))
@[reducible] def OQ:FnI:=BK [D3,P3] [CY] fun x=>K9 x.1 x.2
def z6:Cx:=BE [(2,(2,1)),(3,(3,1))] [] [(114,fP)] [] []
theorem QK:CV 76 OQ:=okW z6 [.tmp 4] 10 2 (BD (.cons oJ AM.nil) A_.nil) Tryz.func76
def Z1 (a0:B7) (a1:Int):Option Int:=
AI (σ:=(Int×Int)) (β:=Int) (fun s1=>
if s1.2<(a0.2.2.length:Int) then
if 0<=s1.2/\s1.2<(a0.2.2.length:Int) then
if ((gl ((0,0,0):BB) a0.2.2 s1.2.toNat).1)=a1 then
some (Sum.inl ((AG (s1.1+1),AG (s1.2+1))))
else some (Sum.inl ((s1.1,AG (s1.2+1))))
else none
else some (Sum.inr (s1.1))) ((0,0))
@[reducible] def sT:FnI:=BK [D3,AP] [CY] fun x=>Z1 x.1 x.2
def AHC:Cx:=BE [(2,(2,1)),(7,(3,1))] [] [] [(0,B8 [(5,AP),(11,AP)] [] [] (FI [(7,1),(12,10)]) [] 3)] []
theorem ADK:CV 112 sT:=okW AHC [.tmp 4] 23 2 (BD AM.nil A_.nil) Tryz.func112
def KM (a0:B7) (a1:AB):Option Bool:=
Option.bind (I9 a0) (fun r1=>
if (!r1)=true then
some (false)
else if a1.1<0 then
some (false)
else if a1.1>4294967295 then
some (false)
else if a1.2.1<0 then
some (false)
else if a1.2.1≥4 then
some (false)
else if a1.2.2.2.2<0 then
some (false)
else if a1.2.2.2.2=0 then
if a1.2.2.1=(-1) then
some (decide (a1.2.2.2.1=(-1)))
else some (false)
else Option.bind (PK a0 a1.2.2.1) (fun r2=>
if ¬r2.2=0 then
some (false)
else if a1.2.2.2.2>(a0.2.1.length:Int) then
some (false)
else if 0<=(AG ((r2.1.length:Int)-1))/\(AG ((r2.1.length:Int)-1))<(r2.1.length:Int) then
if ¬(gl (0:Int) r2.1 ((AG ((r2.1.length:Int)-1)).toNat))=a1.2.2.2.1 then
some (false)
else Option.bind (K9 a0 a1) (fun r3=>
if ¬(r2.1.length:Int)=r3 then
some (false)
else Option.bind (Z1 a0 a1.1) (fun r4=>
if ¬(r2.1.length:Int)=r4 then
some (false)
else if 0<=a1.2.2.1/\a1.2.2.1<(a0.2.2.length:Int) then
if ((gl ((0,0,0):BB) a0.2.2 a1.2.2.1.toNat).1)=a1.1 then
some (decide ((((gl ((0,0,0):BB) a0.2.2 a1.2.2.1.toNat).2).1)=(AG ((AG (a1.2.1*4294967296))+a1.1))))
else some (false)
else none))
else none))
@[reducible] def oK:FnI:=BK [D3,P3] [FN] fun x=>KM x.1 x.2
def ADL:Cx:=BE [(2,(2,1)),(3,(3,1)),(7,(5,1)),(51,(4,1))] [] [(67,R_),(76,OQ),(111,oI),(112,sT)] [] []
theorem z7:CV 68 oK:=okW ADL [.tmp 4] 114 4 (BD (.cons VP (.cons QK (.cons z5 (.cons ADK AM.nil)))) A_.nil) Tryz.func68
def W9 (a0:B7) (a1:DL):Option Bool:=
Option.bind (I9 a0) (fun r1=>
if (!r1)=true then
some (false)
else if (a1.length:Int)<1 then
some (false)
else if (a1.length:Int)>4 then
some (false)
else AI (σ:=(Int×(List (Int×Bool)))) (β:=Bool) (fun s1=>
if s1.1<(a1.length:Int) then
if 0<=s1.1/\s1.1<(a1.length:Int) then
AI (σ:=(Int×(List (Int×Bool)))) (β:=((Int×(List (Int×Bool))) ⊕ Bool)) (fun s2=>
if s2.1<((gl ([]:(List AB)) a1 s1.1.toNat).length:Int) then
if 0<=s2.1/\s2.1<((gl ([]:(List AB)) a1 s1.1.toNat).length:Int) then
if ¬(((gl ((0,0,0,0,0):AB) (gl ([]:(List AB)) a1 s1.1.toNat) s2.1.toNat).2).1)=s1.1 then
some (Sum.inr (Sum.inr (false)))
else if (((((gl ((0,0,0,0,0):AB) (gl ([]:(List AB)) a1 s1.1.toNat) s2.1.toNat).2).2).2).2)<1 then
some (Sum.inr (Sum.inr (false)))
else if s2.1>0 then
if 0<=(AG (s2.1-1))/\(AG (s2.1-1))<((gl ([]:(List AB)) a1 s1.1.toNat).length:Int) then
if ((gl ((0,0,0,0,0):AB) (gl ([]:(List AB)) a1 s1.1.toNat) ((AG (s2.1-1)).toNat)).1)≥((gl ((0,0,0,0,0):AB) (gl ([]:(List AB)) a1 s1.1.toNat) s2.1.toNat).1) then
some (Sum.inr (Sum.inr (false)))
else if ((MS s2.2 ((gl ((0,0,0,0,0):AB) (gl ([]:(List AB)) a1 s1.1.toNat) s2.1.toNat).1)).getD false)=true then
some (Sum.inr (Sum.inr (false)))
else Option.bind (KM a0 ((gl ((0,0,0,0,0):AB) (gl ([]:(List AB)) a1 s1.1.toNat) s2.1.toNat).1,((gl ((0,0,0,0,0):AB) (gl ([]:(List AB)) a1 s1.1.toNat) s2.1.toNat).2).1,(((gl ((0,0,0,0,0):AB) (gl ([]:(List AB)) a1 s1.1.toNat) s2.1.toNat).2).2).1,((((gl ((0,0,0,0,0):AB) (gl ([]:(List AB)) a1 s1.1.toNat) s2.1.toNat).2).2).2))) (fun r2=>
if (!r2)=true then
some (Sum.inr (Sum.inr (false)))
else some (Sum.inl ((AG (s2.1+1),X6 s2.2 ((gl ((0,0,0,0,0):AB) (gl ([]:(List AB)) a1 s1.1.toNat) s2.1.toNat).1) true))))
else none
else if ((MS s2.2 ((gl ((0,0,0,0,0):AB) (gl ([]:(List AB)) a1 s1.1.toNat) s2.1.toNat).1)).getD false)=true then
some (Sum.inr (Sum.inr (false)))
else Option.bind (KM a0 ((gl ((0,0,0,0,0):AB) (gl ([]:(List AB)) a1 s1.1.toNat) s2.1.toNat).1,((gl ((0,0,0,0,0):AB) (gl ([]:(List AB)) a1 s1.1.toNat) s2.1.toNat).2).1,(((gl ((0,0,0,0,0):AB) (gl ([]:(List AB)) a1 s1.1.toNat) s2.1.toNat).2).2).1,((((gl ((0,0,0,0,0):AB) (gl ([]:(List AB)) a1 s1.1.toNat) s2.1.toNat).2).2).2))) (fun r3=>
if (!r3)=true then
some (Sum.inr (Sum.inr (false)))
else some (Sum.inl ((AG (s2.1+1),X6 s2.2 ((gl ((0,0,0,0,0):AB) (gl ([]:(List AB)) a1 s1.1.toNat) s2.1.toNat).1) true))))
else none
else some (Sum.inr (Sum.inl ((AG (s1.1+1),s2.2))))) ((0,s1.2))
else none
else Option.map Sum.inr (AI (σ:=Int) (β:=Bool) (fun s3=>
if s3<(a0.2.2.length:Int) then
if 0<=s3/\s3<(a0.2.2.length:Int) then
if ¬((gl ((0,0,0):BB) a0.2.2 s3.toNat).1)=(-1) then
if (!((MS s1.2 ((gl ((0,0,0):BB) a0.2.2 s3.toNat).1)).getD false))=true then
some (Sum.inr (false))
else some (Sum.inl (AG (s3+1)))
else some (Sum.inl (AG (s3+1)))
else none
else some (Sum.inr (true))) (0))) ((0,([]:List (Int×Bool)))))
@[reducible] def oL:FnI:=BK [D3,I2] [FN] fun x=>W9 x.1 x.2
def ADM:Cx:=BE [(2,(3,1)),(9,(6,1)),(11,(7,1)),(25,(4,1)),(32,(5,1))] [] [(67,R_),(68,oK)] [(0,B8 [(28,AP)] [] [(4,.kv)] (FI [(4,1),(6,4),(29,52)]) [] 5),(2,B8 [(35,AP)] [] [(4,.kv)] (FI [(4,1),(8,2),(36,44)]) [] 6),(4,B8 [(84,AP)] [] [] (FI [(4,1),(11,1),(85,14)]) [] 7)] []
theorem z8:CV 32 oL:=okW ADM [.tmp 4] 99 5 (BD (.cons VP (.cons z7 AM.nil)) A_.nil) Tryz.func32
def Z2 (a0:DL):Option (List AB):=
AI (σ:=((List AB)×Int)) (β:=(List AB)) (fun s1=>
if s1.2<(a0.length:Int) then
if 0<=s1.2/\s1.2<(a0.length:Int) then
if (s1.1.length+(gl ([]:(List AB)) a0 s1.2.toNat).length)*40<=140737488355328 then
some (Sum.inl ((s1.1++(gl ([]:(List AB)) a0 s1.2.toNat),AG (s1.2+1))))
else none
else none
else some (Sum.inr (s1.1))) (([],0))
@[reducible] def sU:FnI:=BK [I2] [kP] fun x=>Z2 x
def AHD:Cx:=BE [(11,(2,1)),(14,(3,1))] [14] [] [(0,B8 [(3,kP),(8,AP)] [] [] (FI [(5,1),(9,7)]) [] 1)] []
theorem ADN:CV 33 sU:=okW AHD [.tmp 2] 17 3 (BD AM.nil A_.nil) Tryz.func33
def YT (a0:Nat):Option Nat:=
if a0<18446744073709551616 then
some (((BitVec.ofNat 64 a0) &&& ~~~(9223372036854775808#64)).toNat)
else none
@[reducible] def mC:FnI:=BK [zR] [API] fun x=>YT x
def AKF:Cx:={ nm:=[],CK:=[],fns:=ADC [],loops:=[],aQ:=[],tb:=nX,exts:=[(81,.U3),(150,.nJ)],lets:=[] }
theorem AZ7:A_ Tryz.prog 150 .nJ:=⟨Tryz.f150,Tryz.func150,by kernel_rfl,by kernel_rfl,by kernel_rfl,by kernel_rfl⟩
theorem sV:CV 158 mC:=okW AKF [.tmp 2] 7 0 (BD AM.nil (.cons AT5 (.cons AZ7 A_.nil))) Tryz.func158
def fQ (a0:Nat) (a1:Int):Option Bool:=
if a1=0 then
Option.bind (YT a0) (fun r1=>
some (decide (DJ r1 9218868437227405311=some .gt)))
else if a1<0 then
some (decide (DJ (A2H a0) 9218868437227405311=some .gt))
else some (decide (DJ a0 9218868437227405311=some .gt))
@[reducible] def oM:FnI:=BK [zR,AP] [FN] fun x=>fQ x.1 x.2
def ADO:Cx:=BE [] [] [(158,mC)] [] []
theorem z9:CV 147 oM:=okW ADO [.tmp 4] 15 0 (BD (.cons sV AM.nil) A_.nil) Tryz.func147
def fR (a0:Nat):Option Bool:=
some (decide (¬DJ a0 a0=some .eq))
@[reducible] def oN:FnI:=BK [zR] [FN] fun x=>fR x
def ADP:Cx:=BE [] [] [] [] []
theorem z_:CV 148 oN:=okW ADP [.tmp 2] 6 0 (BD AM.nil A_.nil) Tryz.func148
def T6 (a0:Nat):Option (Nat×Int):=
Option.bind (YT a0) (fun r1=>
if DJ r1 4503599627370496=some .lt then
if (GL .mul a0 4841369599423283200).isSome=true then
some (((GL .mul a0 4841369599423283200).getD 0,(-52)))
else none
else some ((a0,0)))
@[reducible] def YU:FnI:=BK [zR] [API,CY] fun x=>T6 x
def qW:Cx:=BE [] [] [(158,mC)] [] []
theorem oO:CV 149 YU:=okW qW [.tmp 2,.tmp 3] 10 0 (BD (.cons sV AM.nil) A_.nil) Tryz.func149
def fS (a0:Nat):Option (Nat×Int):=
if DJ a0 0=some .eq then
some ((a0,0))
else Option.bind (fQ a0 0) (fun r1=>
if r1=true then
some ((a0,0))
else Option.bind (fR a0) (fun r2=>
if r2=true then
some ((a0,0))
else Option.bind (T6 a0) (fun r3=>
if r3.1<18446744073709551616 then
if True then
some (((((BitVec.ofNat 64 r3.1) &&& ~~~(9218868437227405312#64))|||(4602678819172646912#64)).toNat,AG (r3.2+(AG ((AG ((AG (((((BitVec.ofNat 64 r3.1) >>> (52#64).toNat) &&& (2047#64)).toNat:Int)))-1023))+1)))))
else none
else none)))
@[reducible] def oP:FnI:=BK [zR] [API,CY] fun x=>fS x
def ADQ:Cx:={ nm:=[],CK:=[],fns:=ADC [(147,oM),(148,oN),(149,YU)],loops:=[],aQ:=[],tb:=nX,exts:=[(81,.U3),(150,.nJ)],lets:=[] }
theorem AA0:CV 136 oP:=okW ADQ [.tmp 2,.tmp 3] 38 0 (BD (.cons z9 (.cons z_ (.cons oO AM.nil))) (.cons AT5 (.cons AZ7 A_.nil))) Tryz.func136
def W_ (a0:Nat):Option (Nat×Int):=
Option.bind (fS a0) (fun r1=>
some ((r1.1,r1.2)))
@[reducible] def oQ:FnI:=BK [zR] [API,CY] fun x=>W_ x
def ADR:Cx:=BE [] [] [(136,oP)] [] []
theorem AA1:CV 113 oQ:=okW ADR [.tmp 2,.tmp 3] 12 0 (BD (.cons AA0 AM.nil) A_.nil) Tryz.func113
def OR (a0:Nat) (a1:Int):Option (Int×Int):=
Option.bind (NT a0) (fun r1=>
if (!r1)=true then
some ((0,6))
else if a1<1 then
some ((0,1))
else if a1>64 then
some ((0,1))
else if DJ a0 0=some .eq then
some ((0,0))
else Option.bind (W_ a0) (fun r2=>
if (GL .mul r2.1 4845873199050653696).isSome=true then
if fIn .u64 ((GL .mul r2.1 4845873199050653696).getD 0)=true then
if True then
some ((if (AG (((((BitVec.ofInt 64 ((Y4 ((GL .mul r2.1 4845873199050653696).getD 0)).getD 0))*(BitVec.ofInt 64 a1)) >>> (BitVec.ofInt 64 (AG ((53:Int)-r2.2))).toNat).toNat:Int)))>1 then AG (((((BitVec.ofInt 64 ((Y4 ((GL .mul r2.1 4845873199050653696).getD 0)).getD 0))*(BitVec.ofInt 64 a1)) >>> (BitVec.ofInt 64 (AG ((53:Int)-r2.2))).toNat).toNat:Int)) else 1,0))
else none
else none
else none))
@[reducible] def fT:FnI:=BK [zR,AP] [CY,CY] fun x=>OR x.1 x.2
def yA:Cx:=BE [] [] [(106,XQ),(113,oQ)] [] []
theorem tY:CV 69 fT:=okW yA [.tmp 4,.tmp 5] 38 0 (BD (.cons fN (.cons AA1 AM.nil)) A_.nil) Tryz.func69
def XA (a0:D7) (a1:Int) (a2:Int):Option (Int×Int):=
Option.bind (H8 a0) (fun r1=>
if ¬r1=0 then
some ((0,1))
else if a1<0 then
some ((0,1))
else if a1≥(a0.2.1.length:Int) then
some ((0,1))
else if a2<1 then
some ((0,1))
else if a2>64 then
some ((0,1))
else if 0<=a1/\a1<(a0.2.1.length:Int) then
Option.bind (OR ((gl ((0,0,0,0):AJ) a0.2.1 a1.toNat).1) a2) (fun r2=>
some ((r2.1,r2.2)))
else none)
@[reducible] def oR:FnI:=BK [PD,AP,AP] [CY,CY] fun x=>XA x.1 x.2.1 x.2.2
def ADS:Cx:=BE [(3,(1,1))] [] [(31,NG),(69,fT)] [] []
theorem AA2:CV 34 oR:=okW ADS [.tmp 6,.tmp 7] 40 1 (BD (.cons OW (.cons tY AM.nil)) A_.nil) Tryz.func34
def oS (a0:DL) (a1:Int):Option Bool:=
if a1≥0 then
some (decide (a1<(a0.length:Int)))
else some (false)
@[reducible] def ABP:FnI:=BK [I2,AP] [FN] fun x=>oS x.1 x.2
def APK:Cx:=BE [] [] [] [] []
theorem AKG:CV 70 ABP:=okW APK [.tmp 4] 13 0 (BD AM.nil A_.nil) Tryz.func70
def NH (a0:DL) (a1:Int):Option (AB×Bool):=
Option.bind (oS a0 a1) (fun r1=>
if (!r1)=true then
some (((0,0,0,0,0),false))
else if 0<=a1/\a1<(a0.length:Int) then
if ((gl ([]:(List AB)) a0 a1.toNat).length:Int)=0 then
some (((0,0,0,0,0),false))
else if 0<=a1/\a1<(a0.length:Int) then
if 0<=a1/\a1<(a0.length:Int) then
if 0<=(AG (((gl ([]:(List AB)) a0 a1.toNat).length:Int)-1))/\(AG (((gl ([]:(List AB)) a0 a1.toNat).length:Int)-1))<((gl ([]:(List AB)) a0 a1.toNat).length:Int) then
some ((((gl ((0,0,0,0,0):AB) (gl ([]:(List AB)) a0 a1.toNat) ((AG (((gl ([]:(List AB)) a0 a1.toNat).length:Int)-1)).toNat)).1,((gl ((0,0,0,0,0):AB) (gl ([]:(List AB)) a0 a1.toNat) ((AG (((gl ([]:(List AB)) a0 a1.toNat).length:Int)-1)).toNat)).2).1,(((gl ((0,0,0,0,0):AB) (gl ([]:(List AB)) a0 a1.toNat) ((AG (((gl ([]:(List AB)) a0 a1.toNat).length:Int)-1)).toNat)).2).2).1,((((gl ((0,0,0,0,0):AB) (gl ([]:(List AB)) a0 a1.toNat) ((AG (((gl ([]:(List AB)) a0 a1.toNat).length:Int)-1)).toNat)).2).2).2)),true))
else none
else none
else none
else none)
@[reducible] def aW:FnI:=BK [I2,AP] [kO,FN] fun x=>NH x.1 x.2
def tZ:Cx:=BE [(4,(1,1)),(14,(2,1)),(22,(3,1)),(26,(4,1))] [] [(70,ABP)] [] []
theorem qX:CV 35 aW:=okW tZ [.cell 4 57,.tmp 5] 31 4 (BD (.cons AKG AM.nil) A_.nil) Tryz.func35
def Z3 (a0:B7) (a1:AB) (a2:Int):Option Bool:=
if a2=0 then
some (true)
else Option.bind (W4 a0) (fun r1=>
some (decide (a1.2.2.2.2<(AG (a2*r1)))))
@[reducible] def sW:FnI:=BK [D3,P3,AP] [FN] fun x=>Z3 x.1 x.2.1 x.2.2
def AHE:Cx:=BE [(3,(2,1)),(4,(3,1))] [] [(71,n8)] [] []
theorem ADT:CV 36 sW:=okW AHE [.tmp 6] 18 2 (BD (.cons zV AM.nil) A_.nil) Tryz.func36
def XB (a0:B7) (a1:AB) (a2:Int):Option Int:=
Option.bind (V4 (AG (a1.2.2.2.2+a2)) a0.1) (fun r1=>
Option.bind (K9 a0 a1) (fun r2=>
some (AG (r1-r2))))
@[reducible] def oT:FnI:=BK [D3,P3,AP] [CY] fun x=>XB x.1 x.2.1 x.2.2
def ADU:Cx:=BE [(3,(2,1)),(4,(3,1))] [] [(76,OQ),(114,fP)] [] []
theorem AA3:CV 72 oT:=okW ADU [.tmp 6] 18 2 (BD (.cons QK (.cons oJ AM.nil)) A_.nil) Tryz.func72
def Z4 (a0:B7):Option (BitVec 64):=
AI (σ:=((BitVec 64)×Int)) (β:=(BitVec 64)) (fun s1=>
if s1.2<(a0.2.2.length:Int) then
if 0<=s1.2/\s1.2<(a0.2.2.length:Int) then
if ((gl ((0,0,0):BB) a0.2.2 s1.2.toNat).1)=(-1) then
if s1.2<64 then
if True then
some (Sum.inl ((s1.1|||((1#64) <<< (BitVec.ofInt 64 s1.2).toNat),AG (s1.2+1))))
else none
else some (Sum.inl ((s1.1,AG (s1.2+1))))
else some (Sum.inl ((s1.1,AG (s1.2+1))))
else none
else some (Sum.inr (s1.1))) ((0#64,0))
@[reducible] def sX:FnI:=BK [D3] [ABJ] fun x=>Z4 x
def AHF:Cx:=BE [(1,(2,1)),(5,(3,1))] [] [] [(0,B8 [(3,aU),(9,AP)] [] [] (FI [(4,2),(10,17)]) [] 3)] []
theorem ADV:CV 116 sX:=okW AHF [.tmp 2] 28 2 (BD AM.nil A_.nil) Tryz.func116
def Z5 (a0:B7):Option Int:=
Option.bind (Z4 a0) (fun r1=>
Option.bind (H2 r1) (fun r2=>
some (AG ((a0.2.2.length:Int)-r2))))
@[reducible] def sY:FnI:=BK [D3] [CY] fun x=>Z5 x
def AHG:Cx:=BE [(1,(2,1))] [] [(115,PE),(116,sX)] [] []
theorem ADW:CV 73 sY:=okW AHG [.tmp 2] 10 1 (BD (.cons XK (.cons ADV AM.nil)) A_.nil) Tryz.func73
def KI (a0:D7):Option Bool:=
Option.bind (H8 a0) (fun r1=>
if r1=0 then
if 0<=(AG ((a0.2.1.length:Int)-1))/\(AG ((a0.2.1.length:Int)-1))<(a0.2.1.length:Int) then
some (decide (DJ ((gl ((0,0,0,0):AJ) a0.2.1 ((AG ((a0.2.1.length:Int)-1)).toNat)).1) 0=some .eq))
else none
else some (false))
@[reducible] def XC:FnI:=BK [PD] [FN] fun x=>KI x
def oU:Cx:=BE [(1,(1,1))] [] [(31,NG)] [] []
theorem mD:CV 74 XC:=okW oU [.tmp 2] 18 1 (BD (.cons OW AM.nil) A_.nil) Tryz.func74
def SA (a0:B7) (a1:DL):Option Int:=
AI (σ:=(Int×Int)) (β:=Int) (fun s1=>
if s1.2<(a1.length:Int) then
if 0<=s1.2/\s1.2<(a1.length:Int) then
AI (σ:=(Int×Int)) (β:=((Int×Int) ⊕ Int)) (fun s2=>
if s2.2<((gl ([]:(List AB)) a1 s1.2.toNat).length:Int) then
if 0<=s2.2/\s2.2<((gl ([]:(List AB)) a1 s1.2.toNat).length:Int) then
Option.bind (K9 a0 ((gl ((0,0,0,0,0):AB) (gl ([]:(List AB)) a1 s1.2.toNat) s2.2.toNat).1,((gl ((0,0,0,0,0):AB) (gl ([]:(List AB)) a1 s1.2.toNat) s2.2.toNat).2).1,(((gl ((0,0,0,0,0):AB) (gl ([]:(List AB)) a1 s1.2.toNat) s2.2.toNat).2).2).1,((((gl ((0,0,0,0,0):AB) (gl ([]:(List AB)) a1 s1.2.toNat) s2.2.toNat).2).2).2))) (fun r1=>
some (Sum.inl ((if r1>s2.1 then r1 else s2.1,AG (s2.2+1)))))
else none
else some (Sum.inr (Sum.inl ((s2.1,AG (s1.2+1)))))) ((s1.1,0))
else none
else some (Sum.inr (s1.1))) ((0,0))
@[reducible] def fU:FnI:=BK [D3,I2] [CY] fun x=>SA x.1 x.2
def yB:Cx:=BE [(2,(3,1)),(9,(5,1)),(15,(4,1))] [] [(76,OQ)] [(0,B8 [(5,AP),(12,AP)] [] [] (FI [(7,1),(9,1),(13,16)]) [] 4),(2,B8 [(5,AP),(18,AP)] [] [] (FI [(9,1),(19,9)]) [] 5)] []
theorem t_:CV 75 fU:=okW yB [.tmp 4] 30 3 (BD (.cons QK AM.nil) A_.nil) Tryz.func75
def DC (a0:D7) (a1:B7) (a2:DL) (a3:AB) (a4:Int):Option Bool:=
Option.bind (XB a1 a3 a4) (fun r1=>
if r1=0 then
some (true)
else Option.bind (Z5 a1) (fun r2=>
Option.bind (KI a0) (fun r3=>
if r3=true then
some (decide ((AG ((a1.2.2.length:Int)-(AG (r2+r1))))≥(AG (r2+r1))))
else if (AG ((a1.2.2.length:Int)-(AG (r2+r1))))≥0 then
Option.bind (SA a1 a2) (fun r4=>
Option.bind (K9 a1 a3) (fun r5=>
some (decide ((AG ((a1.2.2.length:Int)-(AG (r2+r1))))≥(if (AG (r5+r1))>r4 then AG (r5+r1) else r4)))))
else some (false))))
@[reducible] def YV:FnI:=BK [PD,D3,I2,P3,AP] [FN] fun x=>DC x.1 x.2.1 x.2.2.1 x.2.2.2.1 x.2.2.2.2
def qY:Cx:=BE [(5,(4,1)),(6,(5,1)),(8,(6,1))] [] [(72,oT),(73,sY),(74,XC),(75,fU),(76,OQ)] [] []
theorem oV:CV 37 YV:=okW qY [.tmp 10] 49 3 (BD (.cons AA3 (.cons ADW (.cons mD (.cons t_ (.cons QK AM.nil))))) A_.nil) Tryz.func37
def C0 (a0:D7) (a1:B7) (a2:DL) (a3:Int) (a4:Int):Option SQ:=
Option.bind (H8 a0) (fun r1=>
if ¬r1=0 then
some ((0,(0,0,0,0,0),1))
else Option.bind (W9 a1 a2) (fun r2=>
if (!r2)=true then
some ((0,(0,0,0,0,0),1))
else if ¬(a2.length:Int)=(a0.2.1.length:Int) then
some ((0,(0,0,0,0,0),1))
else if a3<0 then
some ((0,(0,0,0,0,0),1))
else if a3>4294967295 then
some ((0,(0,0,0,0,0),1))
else if a4<1 then
some ((0,(0,0,0,0,0),1))
else if a4>48 then
some ((0,(0,0,0,0,0),1))
else Option.bind (Z2 a2) (fun r3=>
AI (σ:=Int) (β:=SQ) (fun s1=>
if s1<(r3.length:Int) then
if 0<=s1/\s1<(r3.length:Int) then
if ((gl ((0,0,0,0,0):AB) r3 s1.toNat).1)≥a3 then
some (Sum.inr ((0,(0,0,0,0,0),1)))
else some (Sum.inl (AG (s1+1)))
else none
else Option.map Sum.inr (Option.bind (XA a0 0 (a1.2.2.length:Int)) (fun r4=>
if ¬r4.2=0 then
some ((0,(0,0,0,0,0),r4.2))
else Option.bind (NH a2 0) (fun r5=>
if r5.2=true then
Option.bind (Z3 a1 r5.1 r4.1) (fun r6=>
if r6=true then
Option.bind (DC a0 a1 a2 r5.1 a4) (fun r7=>
if r7=true then
some ((1,r5.1,0))
else some ((3,(0,0,0,0,0),0)))
else if 0<=(0:Int)/\(0:Int)<(a0.2.1.length:Int) then
if ¬(((gl ((0,0,0,0):AJ) a0.2.1 ((0:Int).toNat)).2).1)=0 then
if 0<=(0:Int)/\(0:Int)<(a2.length:Int) then
if 0<=(0:Int)/\(0:Int)<(a0.2.1.length:Int) then
if ((gl ([]:(List AB)) a2 ((0:Int).toNat)).length:Int)≥(((gl ((0,0,0,0):AJ) a0.2.1 ((0:Int).toNat)).2).1) then
some ((3,(0,0,0,0,0),0))
else Option.bind (DC a0 a1 a2 (a3,0,(-1),(-1),0) a4) (fun r8=>
if r8=true then
some ((2,(a3,0,(-1),(-1),0),0))
else some ((3,(0,0,0,0,0),0)))
else none
else none
else Option.bind (DC a0 a1 a2 (a3,0,(-1),(-1),0) a4) (fun r9=>
if r9=true then
some ((2,(a3,0,(-1),(-1),0),0))
else some ((3,(0,0,0,0,0),0)))
else none)
else if 0<=(0:Int)/\(0:Int)<(a0.2.1.length:Int) then
if ¬(((gl ((0,0,0,0):AJ) a0.2.1 ((0:Int).toNat)).2).1)=0 then
if 0<=(0:Int)/\(0:Int)<(a2.length:Int) then
if 0<=(0:Int)/\(0:Int)<(a0.2.1.length:Int) then
if ((gl ([]:(List AB)) a2 ((0:Int).toNat)).length:Int)≥(((gl ((0,0,0,0):AJ) a0.2.1 ((0:Int).toNat)).2).1) then
some ((3,(0,0,0,0,0),0))
else Option.bind (DC a0 a1 a2 (a3,0,(-1),(-1),0) a4) (fun JJ=>
if JJ=true then
some ((2,(a3,0,(-1),(-1),0),0))
else some ((3,(0,0,0,0,0),0)))
else none
else none
else Option.bind (DC a0 a1 a2 (a3,0,(-1),(-1),0) a4) (fun QR=>
if QR=true then
some ((2,(a3,0,(-1),(-1),0),0))
else some ((3,(0,0,0,0,0),0)))
else none)))) (0))))
@[reducible] def GY:FnI:=BK [PD,D3,I2,AP,AP] [CY,kO,CY] fun x=>C0 x.1 x.2.1 x.2.2.1 x.2.2.2.1 x.2.2.2.2
def qZ:Cx:=BE [(5,(4,1)),(6,(5,1)),(11,(6,1)),(14,(8,1)),(17,(9,1)),(19,(11,1)),(55,(7,1)),(108,(10,1))] [] [(31,NG),(32,oL),(33,sU),(34,oR),(35,aW),(36,sW),(37,YV)] [(0,B8 [(57,AP)] [] [] [10,12,14,58,59,60,61,62,63,64,65,66] [] 8)] []
theorem HC:CV 15 GY:=okW qZ [.tmp 10,.cell 11 57,.tmp 12] 128 8 (BD (.cons OW (.cons z8 (.cons ADN (.cons AA2 (.cons qX (.cons ADT (.cons oV AM.nil))))))) A_.nil) Tryz.func15
def J7 (a0:B7) (a1:DL):Option Bool:=
if (a1.length:Int)<1 then
some (false)
else if (a1.length:Int)>4 then
some (false)
else AI (σ:=(Int×(List Int)×Int)) (β:=Bool) (fun s1=>
if s1.2.2<(a1.length:Int) then
if 0<=s1.2.2/\s1.2.2<(a1.length:Int) then
AI (σ:=(Int×(List Int)×Int)) (β:=((Int×(List Int)×Int) ⊕ Bool)) (fun s2=>
if s2.2.2<((gl ([]:(List AB)) a1 s1.2.2.toNat).length:Int) then
if 0<=s2.2.2/\s2.2.2<((gl ([]:(List AB)) a1 s1.2.2.toNat).length:Int) then
if ¬(((gl ((0,0,0,0,0):AB) (gl ([]:(List AB)) a1 s1.2.2.toNat) s2.2.2.toNat).2).1)=s1.2.2 then
some (Sum.inr (Sum.inr (false)))
else if (((((gl ((0,0,0,0,0):AB) (gl ([]:(List AB)) a1 s1.2.2.toNat) s2.2.2.toNat).2).2).2).2)<1 then
some (Sum.inr (Sum.inr (false)))
else Option.bind (IJ a0 ((gl ((0,0,0,0,0):AB) (gl ([]:(List AB)) a1 s1.2.2.toNat) s2.2.2.toNat).1,((gl ((0,0,0,0,0):AB) (gl ([]:(List AB)) a1 s1.2.2.toNat) s2.2.2.toNat).2).1,(((gl ((0,0,0,0,0):AB) (gl ([]:(List AB)) a1 s1.2.2.toNat) s2.2.2.toNat).2).2).1,((((gl ((0,0,0,0,0):AB) (gl ([]:(List AB)) a1 s1.2.2.toNat) s2.2.2.toNat).2).2).2))) (fun r1=>
if (!r1)=true then
some (Sum.inr (Sum.inr (false)))
else if s2.2.2>0 then
if 0<=(AG (s2.2.2-1))/\(AG (s2.2.2-1))<((gl ([]:(List AB)) a1 s1.2.2.toNat).length:Int) then
if ((gl ((0,0,0,0,0):AB) (gl ([]:(List AB)) a1 s1.2.2.toNat) ((AG (s2.2.2-1)).toNat)).1)≥((gl ((0,0,0,0,0):AB) (gl ([]:(List AB)) a1 s1.2.2.toNat) s2.2.2.toNat).1) then
some (Sum.inr (Sum.inr (false)))
else AI (σ:=Int) (β:=((Int×(List Int)×Int) ⊕ ((Int×(List Int)×Int) ⊕ Bool))) (fun s3=>
if s3<(s2.2.1.length:Int) then
if 0<=s3/\s3<(s2.2.1.length:Int) then
if (gl (0:Int) s2.2.1 s3.toNat)=((gl ((0,0,0,0,0):AB) (gl ([]:(List AB)) a1 s1.2.2.toNat) s2.2.2.toNat).1) then
some (Sum.inr (Sum.inr (Sum.inr (false))))
else some (Sum.inl (AG (s3+1)))
else none
else Option.map Sum.inr (if (s2.2.1.length+([(gl ((0,0,0,0,0):AB) (gl ([]:(List AB)) a1 s1.2.2.toNat) s2.2.2.toNat).1]:List Int).length)*8<=140737488355328 then
Option.bind (BU a0 ((gl ((0,0,0,0,0):AB) (gl ([]:(List AB)) a1 s1.2.2.toNat) s2.2.2.toNat).1,((gl ((0,0,0,0,0):AB) (gl ([]:(List AB)) a1 s1.2.2.toNat) s2.2.2.toNat).2).1,(((gl ((0,0,0,0,0):AB) (gl ([]:(List AB)) a1 s1.2.2.toNat) s2.2.2.toNat).2).2).1,((((gl ((0,0,0,0,0):AB) (gl ([]:(List AB)) a1 s1.2.2.toNat) s2.2.2.toNat).2).2).2))) (fun r2=>
some (Sum.inl ((AG (s2.1+r2),s2.2.1++([(gl ((0,0,0,0,0):AB) (gl ([]:(List AB)) a1 s1.2.2.toNat) s2.2.2.toNat).1]:List Int),AG (s2.2.2+1)))))
else none)) (0)
else none
else AI (σ:=Int) (β:=((Int×(List Int)×Int) ⊕ ((Int×(List Int)×Int) ⊕ Bool))) (fun s4=>
if s4<(s2.2.1.length:Int) then
if 0<=s4/\s4<(s2.2.1.length:Int) then
if (gl (0:Int) s2.2.1 s4.toNat)=((gl ((0,0,0,0,0):AB) (gl ([]:(List AB)) a1 s1.2.2.toNat) s2.2.2.toNat).1) then
some (Sum.inr (Sum.inr (Sum.inr (false))))
else some (Sum.inl (AG (s4+1)))
else none
else Option.map Sum.inr (if (s2.2.1.length+([(gl ((0,0,0,0,0):AB) (gl ([]:(List AB)) a1 s1.2.2.toNat) s2.2.2.toNat).1]:List Int).length)*8<=140737488355328 then
Option.bind (BU a0 ((gl ((0,0,0,0,0):AB) (gl ([]:(List AB)) a1 s1.2.2.toNat) s2.2.2.toNat).1,((gl ((0,0,0,0,0):AB) (gl ([]:(List AB)) a1 s1.2.2.toNat) s2.2.2.toNat).2).1,(((gl ((0,0,0,0,0):AB) (gl ([]:(List AB)) a1 s1.2.2.toNat) s2.2.2.toNat).2).2).1,((((gl ((0,0,0,0,0):AB) (gl ([]:(List AB)) a1 s1.2.2.toNat) s2.2.2.toNat).2).2).2))) (fun r3=>
some (Sum.inl ((AG (s2.1+r3),s2.2.1++([(gl ((0,0,0,0,0):AB) (gl ([]:(List AB)) a1 s1.2.2.toNat) s2.2.2.toNat).1]:List Int),AG (s2.2.2+1)))))
else none)) (0))
else none
else some (Sum.inr (Sum.inl ((s2.1,s2.2.1,AG (s1.2.2+1)))))) ((s1.1,s1.2.1,0))
else none
else Option.map Sum.inr (AI (σ:=(Int×Int)) (β:=Bool) (fun s5=>
if s5.2<(a0.2.2.length:Int) then
if 0<=s5.2/\s5.2<(a0.2.2.length:Int) then
if ¬((gl ((0,0,0):BB) a0.2.2 s5.2.toNat).1)=(-1) then
some (Sum.inl ((AG (s5.1+1),AG (s5.2+1))))
else some (Sum.inl ((s5.1,AG (s5.2+1))))
else none
else some (Sum.inr (decide (s5.1=s1.1)))) ((0,0)))) ((0,[],0))
def J8 (a0:B7) (a1:DL):Option Bool:=
Option.bind (F5 a0) (fun r1=>
if r1=true then
Option.bind (J7 a0 a1) (fun r2=>
some (r2))
else some (false))
end
end Go.Proofs.YthmiilamegpllaaGreat
namespace Go.Proofs.YthmiilamegpllaaGreat
open Go Go.V3
theorem BY {P:Prop} (h:¬P):(false=true↔P):=⟨fun e=>absurd e (by decide),fun p=>absurd p h⟩
theorem map_inr {α β:Type} {x:Option β} {Q:β->Prop} (h:∃ b,x=some b/\Q b):∃ b,Option.map (Sum.inr (α:=α)) x=some (Sum.inr b)/\Q b:=by
 obtain⟨b,rfl,h⟩:=h;exact⟨b,rfl,h⟩
theorem if3 {α:Type} {a b c:Prop} [Decidable a] [Decidable b] [Decidable c] {x y:α}:(if a then (if b then (if c then x else y) else y) else y)=if a/\b/\c then x else y:=by
 by_cases ha:a <;> by_cases hb:b <;> by_cases hc:c <;> simp [ha,hb,hc]
theorem q_ (s:Int):F4 s=some (decide (3<=s/\s<=8)):=by
 unfold F4
 by_cases h:s≥3
 ·rw[AA h];congr 1;rw[a_,NO,NO];omega
 ·rw[AD h];congr 1;rw[a_,NO];simp;omega
theorem ABQ (s:Int):P6 s=some (decide (3<=s/\s<=8)):=by
 unfold P6
 by_cases h:s≥3
 ·rw[AA h];congr 1;rw[a_,NO,NO];omega
 ·rw[AD h];congr 1;rw[a_,NO];simp;omega
theorem AKH (f:Fr):∃ b,D6 f=some b/\(b=true↔Stamped f):=by
 unfold D6
 by_cases h0:f.1<0
 ·rw[AA h0];exact⟨_,rfl,BY fun h=>by have:=h.1;omega⟩
 rw[AD h0]
 by_cases h1:f.1>4294967295
 ·rw[AA h1];exact⟨_,rfl,BY fun h=>by have:=h.2.1;omega⟩
 rw[AD h1]
 refine AO (fun k s=>s=(k:Int)/\k<=4/\∀ b:Int,0<=b->b<k->f.2.1≠f.1+b*4294967296) _ 4 ?_ ?_ ⟨rfl,by omega,fun b h1 h2=>by omega⟩
 ·rintro k s hk ⟨rfl,_,hb⟩
  rw[AA (by omega),AE (e:=(k:Int)*4294967296) (by omega) (by omega),AE (e:=f.1+_) (by omega) (by omega)]
  by_cases he:f.2.1=f.1+k*4294967296
  ·rw[AA he]
   exact .inr ⟨_,rfl,aL rfl ⟨by omega,by omega,k,by omega,by omega,he⟩⟩
  ·rw[AD he,AE (by omega) (by omega)]
   refine .inl ⟨_,rfl,by omega,by omega,fun b h2 h3=> ?_⟩
   by_cases hbk:b=k
   ·subst hbk;exact he
   ·exact hb b h2 (by omega)
 ·rintro s ⟨rfl,_,hb⟩
  rw[AD (by omega)]
  refine⟨_,rfl,BY ?_⟩
  rintro⟨_,_,b,h2,h3,h4⟩
  exact hb b h2 h3 h4
theorem APL {s:Sp} (hs:3<=s.1/\s.1<=8) (hn:s.2.2.length<=64) (hw:(s.2.1.length:Int)=s.2.2.length*sz s.1) {i:Int} (h0:0<=i) (h1:i<s.2.2.length) {a b:Int} (ha:a=i*sz s.1) (hb:b=i*sz s.1+sz s.1)
  {β:Type} {x y:β} {f:Int->Option (Int ⊕ β)} (hf:∀ p:Int,a<=p->p<s.2.1.length->f p=if p<b then (if ¬gl 0#64 s.2.1 p.toNat=0#64 then some (.inr x) else some (.inl (p+1))) else some (.inr y)) (tM:f b=some (.inr y)):
  ∃ r,AI f a=some r/\((r=x/\¬Zero s i)\/(r=y/\Zero s i)):=by
 have hz:=LF hs
 have m3:=(dR hs (show 0<=i+1 by omega) (show i+1<=s.2.2.length by omega)).2
 rw[JG] at m3
 have m0:=(dR hs h0 (bC i)).1
 refine AO (fun k p=>p=a+k/\∀ j:Nat,a<=j->(j:Int)<p->gl 0#64 s.2.1 j=0#64) _ (sz s.1).toNat ?_ ?_ ⟨by omega,fun j h2 h3=>by omega⟩
 ·rintro k p hk ⟨rfl,hj⟩
  rw[hf _ (by omega) (by omega),AA (by omega)]
  by_cases hg:gl 0#64 s.2.1 (a+k).toNat=0#64
  ·rw[AD (by simp [hg])]
   refine .inl ⟨_,rfl,by omega,fun j h2 h3=> ?_⟩
   by_cases kL:(j:Int)=a+k
   ·rw[<-hg];congr 1;omega
   ·exact hj j h2 (by omega)
  ·rw[AA hg]
   refine .inr ⟨_,rfl,.inl ⟨rfl,fun hz=>hg ?_⟩⟩
   exact hz (a+k).toNat (by omega) (by rw[JG];omega)
 ·rintro p ⟨rfl,hj⟩
  have e:a+((sz s.1).toNat:Int)=b:=by omega
  rw[e] at hj ⊢
  rw[tM]
  refine⟨_,rfl,.inr ⟨rfl,fun j h2 h3=>hj j (by omega) ?_⟩⟩
  rw[JG] at h3;omega
theorem AN5 {xs:List Int} {j:Nat} {v:Int} (hj:j<xs.length) (k:Nat):gl 0 (xs.set j v) k=if k=j then v else gl 0 xs k:=D5 hj
structure kR (s:Sp) (k:Nat):Prop where
 fr:∀ i:Int,0<=i->i<k->AX2 s i
 inj:∀ i j:Int,0<=i->i<k->0<=j->j<k->nx s.2.2 i=nx s.2.2 j->nx s.2.2 i≠-1->i=j
theorem kR.free {s:Sp} {k:Nat} (h:kR s k) (hk:k<s.2.2.length) (hf:AX2 s k) (hn:nx s.2.2 k= -1):kR s (k+1):=by
 refine⟨fun i h0 h1=> ?_,fun i j h0 h1 h2 h3 he CU=> ?_⟩
 ·by_cases hi:i=k
  ·subst hi;exact hf
  ·exact h.fr i h0 (by omega)
 ·by_cases hi:i=k
  ·subst hi;exact absurd hn CU
  ·by_cases hj:j=k
   ·subst hj;rw[he] at CU;exact absurd hn CU
   ·exact h.inj i j h0 (by omega) h2 (by omega) he CU
theorem kR.used {s:Sp} {k:Nat} (h:kR s k) (hk:k<s.2.2.length) (hf:AX2 s k) (hn:∀ i:Int,0<=i->i<k->nx s.2.2 i≠nx s.2.2 k):kR s (k+1):=by
 refine⟨fun i h0 h1=> ?_,fun i j h0 h1 h2 h3 he CU=> ?_⟩
 ·by_cases hi:i=k
  ·subst hi;exact hf
  ·exact h.fr i h0 (by omega)
 ·by_cases hi:i=k
  ·subst hi
   by_cases hj:j=k
   ·omega
   ·exact absurd he.symm (hn j h2 (by omega))
  ·by_cases hj:j=k
   ·subst hj;exact absurd he (hn i h0 (by omega))
   ·exact h.inj i j h0 (by omega) h2 (by omega) he CU
theorem kR.IZ {s:Sp} (h:kR s s.2.2.length):Rng s.2.2:=by
 intro i h0 h1
 rw[I4 h0 h1]
 rcases h.fr i h0 h1 with ⟨hf,_⟩|hu
 ·rw[show (Go.V3.fr s.2.2 i).2.2= -1 from by rw[hf]];omega
 ·exact⟨hu.2.1,hu.2.2.1⟩
theorem rA (s:Sp):∃ b,F5 s=some b/\(b=true↔VS s):=by
 unfold F5
 rw[q_]
 simp only[AZ]
 by_cases hs:3<=s.1/\s.1<=8
 rotate_left
 ·rw[AA (by simp [hs])];exact⟨_,rfl,BY fun h=>hs h.sh⟩
 rw[AD (by simp [hs])]
 by_cases hn:(s.2.2.length:Int)<2
 ·rw[AA hn];exact⟨_,rfl,BY fun h=>by have:=h.n.1;omega⟩
 rw[AD hn]
 by_cases hn2:(s.2.2.length:Int)>64
 ·rw[AA hn2];exact⟨_,rfl,BY fun h=>by have:=h.n.2;omega⟩
 have z:=LF hs
 obtain⟨q1,q2⟩:=LN hs (by omega:0<=(s.2.2.length:Int)) (show (s.2.2.length:Int)<=64 by omega)
 rw[AD hn2,AA trivial,P4 hs,AE (by omega) (by omega)]
 by_cases hw:(s.2.1.length:Int)=s.2.2.length*sz s.1
 rotate_left
 ·rw[AA hw];exact⟨_,rfl,BY fun h=>hw h.w⟩
 rw[AD (by simp [hw])]
 refine AO (fun k st=>st.1=(k:Int)/\k<=s.2.2.length/\st.2.length=64/\kR s k/\∀ j:Int,0<=j->j<64->(gl 0 st.2 j.toNat=0/\∀ i:Int,0<=i->i<k->nx s.2.2 i≠j)\/(gl 0 st.2 j.toNat=1/\∃ i:Int,0<=i/\i<k/\nx s.2.2 i=j)) _ s.2.2.length ?_ ?_
  ⟨rfl,by omega,by simp,⟨fun i h0 h1=>by omega,fun i j h0 h1=>by omega⟩,fun j h0 h1=> .inl ⟨O4 (by omega),fun i h2 h3=>by omega⟩⟩
 ·rintro k ⟨i,cs⟩ hk ⟨h1,h2,h3,h4,h5⟩
  simp only at h1 h2 h3 h4 h5 ⊢
  subst h1
  have ki:0<=(k:Int)/\(k:Int)<s.2.2.length:=⟨by omega,by omega⟩
  have i1:=(dR hs ki.1 (show (k:Int)<=s.2.2.length by omega)).1
  have i2:=(dR hs (show 0<=(k:Int)+1 by omega) (show (k:Int)+1<=s.2.2.length by omega)).2
  rw[JG] at i2
  rw[AA ki.2,AA ki,if3,AE (e:=(k:Int)+1) (by omega) (by omega),JG,AE (e:=(k:Int)*sz s.1) (by omega) (by omega),AE (e:=(k:Int)*sz s.1+sz s.1) (by omega) (by omega)]
  have MY:gl (0,0,0) s.2.2 (k:Int).toNat=fr s.2.2 k:=rfl
  simp only[MY]
  have WY:=I4 ki.1 ki.2
  by_cases hf:(fr s.2.2 k).1= -1/\(fr s.2.2 k).2.1= -1/\(fr s.2.2 k).2.2= -1
  ·rw[AA hf,AA trivial]
   have yC:APJ (fr s.2.2 k):=by
    obtain⟨a,b,c⟩:=hf
    unfold APJ
    rw[<-Prod.eta (fr s.2.2 k),←Prod.eta (fr s.2.2 k).2,a,b,c]
   obtain⟨r,hr,hc⟩:=APL hs (by omega) hw ki.1 ki.2 rfl rfl (x:=Sum.inr false) (y:=Sum.inl ((k:Int)+1,cs)) (f:=fun s2=>if True then
     if s2<(k:Int)*sz s.1+sz s.1 then
     if 0<=s2/\s2<(s.2.1.length:Int) then
     if ¬(gl 0#64 s.2.1 s2.toNat)=(0#64) then
     some (Sum.inr (Sum.inr (false)))
     else some (Sum.inl (AG (s2+1)))
     else none
     else some (Sum.inr (Sum.inl (((k:Int)+1,cs))))
     else none) (fun p p0 p1=>by
      simp only[HJ]
      by_cases hp:p<(k:Int)*sz s.1+sz s.1
      ·rw[AA hp,AA ⟨by omega,p1⟩,AA hp,AE (by omega) (by omega)]
      ·rw[AD hp,AD hp]) (by simp only[HJ];rw[AD (by omega)])
   rw[hr]
   rcases hc with ⟨rfl,hc⟩|⟨rfl,hc⟩
   ·refine .inr ⟨_,rfl,BY fun h=> ?_⟩
    rcases h.fr k ki.1 ki.2 with h6|h6
    ·exact hc h6.2
    ·have:=h6.1.1;omega
   ·refine .inl ⟨_,rfl,rfl,by omega,h3,h4.free hk (.inl ⟨yC,hc⟩) (by rw[WY,hf.2.2]),fun j j0 j1=> ?_⟩
    rcases h5 j j0 j1 with ⟨h6,h7⟩|⟨h6,i,h7,h8,h9⟩
    ·refine .inl ⟨h6,fun i h8 h9=> ?_⟩
     by_cases gS:i=k
     ·rw[gS,WY,hf.2.2];omega
     ·exact h7 i h8 (by omega)
    ·exact .inr ⟨h6,i,h7,by omega,h9⟩
  ·rw[AD hf]
   obtain⟨b,hb,ML⟩:=AKH (fr s.2.2 k)
   have NI:∀ h:VS s,ZK s.2.2 k:=fun h=>by
    rcases h.fr k ki.1 ki.2 with h6|h6
    ·exfalso;apply hf;rw[h6.1];decide
    ·exact h6
   have he:D6 ((fr s.2.2 k).1,(fr s.2.2 k).2)=some b:=hb
   rw[he]
   simp only[AZ]
   by_cases UA :b=true
   rotate_left
   ·rw[AA (by simpa using UA)];exact .inr ⟨_,rfl,BY fun h=>UA (ML.2 (NI h).1)⟩
   rw[AD (by simp [UA])]
   have hst:=ML.1 UA
   by_cases c1:(fr s.2.2 k).2.2< -1
   ·rw[AA c1];exact .inr ⟨_,rfl,BY fun h=>by have:=(NI h).2.1;omega⟩
   rw[AD c1]
   by_cases c2:(fr s.2.2 k).2.2≥s.2.2.length
   ·rw[AA c2];exact .inr ⟨_,rfl,BY fun h=>by have:=(NI h).2.2.1;omega⟩
   rw[AD c2]
   by_cases c3:(fr s.2.2 k).2.2=k
   ·rw[AA c3];exact .inr ⟨_,rfl,BY fun h=>(NI h).2.2.2.1 c3⟩
   rw[AD c3]
   by_cases c4:(fr s.2.2 k).2.2= -1
   ·rw[AA c4]
    refine .inl ⟨_,rfl,rfl,by omega,h3,h4.free hk (.inr ⟨hst,by omega,by omega,c3,fun h=>absurd c4 h⟩) (by rw[WY,c4]),fun j j0 j1=> ?_⟩
    rcases h5 j j0 j1 with ⟨h6,h7⟩|⟨h6,i,h7,h8,h9⟩
    ·refine .inl ⟨h6,fun i h8 h9=> ?_⟩
     by_cases gS:i=k
     ·rw[gS,WY,c4];omega
     ·exact h7 i h8 (by omega)
    ·exact .inr ⟨h6,i,h7,by omega,h9⟩
   rw[AD c4]
   have hn0:gl (0,0,0) s.2.2 ((fr s.2.2 k).2.2).toNat=fr s.2.2 (fr s.2.2 k).2.2:=rfl
   rw[hn0]
   generalize hnn:(fr s.2.2 k).2.2=nn at*
   rw[AA ⟨by omega,by omega⟩,AA ⟨⟨by omega,by omega⟩,by omega⟩,AA ⟨⟨by omega,by omega⟩,by omega⟩]
   by_cases c5:(fr s.2.2 nn).1=(fr s.2.2 k).1
   rotate_left
   ·rw[AA c5];exact .inr ⟨_,rfl,BY fun h=>c5 (by have:=((NI h).2.2.2.2 (by omega)).1;rw[hnn] at this;exact this)⟩
   rw[AD (by simp [c5])]
   by_cases c6:(fr s.2.2 nn).2.1=(fr s.2.2 k).2.1
   rotate_left
   ·rw[AA c6];exact .inr ⟨_,rfl,BY fun h=>c6 (by have:=((NI h).2.2.2.2 (by omega)).2;rw[hnn] at this;exact this)⟩
   rw[AD (by simp [c6]),EW,AA ⟨⟨by omega,by omega⟩,by omega⟩,AN5 (by omega),AA rfl]
   rcases h5 nn (by omega) (by omega) with ⟨h6,h7⟩|⟨h6,i,h7,h8,h9⟩
   ·rw[h6,AE (by omega) (by omega),AD (by omega)]
    refine .inl ⟨_,rfl,rfl,by omega,by simp [h3],h4.used hk (.inr ⟨hst,by omega,by omega,by omega,fun _=>by rw[hnn];exact⟨c5,c6⟩⟩) (fun i h8 h9=>by rw[WY];exact h7 i h8 h9),fun j j0 j1=> ?_⟩
    rw[AN5 (by omega)]
    by_cases hj:j=nn
    ·subst hj
     rw[AA rfl]
     exact .inr ⟨by omega,k,by omega,by omega,by rw[WY]⟩
    ·rw[AD (by omega)]
     rcases h5 j j0 j1 with ⟨zG,h11⟩|⟨zG,i,h11,h12,h13⟩
     ·refine .inl ⟨zG,fun i h8 h9=> ?_⟩
      by_cases gS:i=k
      ·rw[gS,WY];omega
      ·exact h11 i h8 (by omega)
     ·exact .inr ⟨zG,i,h11,by omega,h13⟩
   ·rw[h6,AE (by omega) (by omega),AA (by omega)]
    refine .inr ⟨_,rfl,BY fun h=> ?_⟩
    have:=h.inj i k h7 (by omega) ki.1 ki.2 (by rw[h9,WY]) (by rw[h9];omega)
    omega
 ·rintro⟨i,cs⟩ ⟨h1,h2,h3,h4,h5⟩
  simp only at h1 h2 h3 h4 h5 ⊢
  subst h1
  rw[AD (by omega)]
  have hr:=h4.IZ
  refine map_inr ?_
  refine AO (fun k i=>i=(k:Int)/\k<=s.2.2.length/\∀ j:Int,0<=j->j<k->∃ l,Pa s.2.2 j l) _ s.2.2.length ?_ ?_ ⟨rfl,by omega,fun j h0 h1=>by omega⟩
  ·rintro k i hk ⟨rfl,_,hp⟩
   rw[AA (by omega)]
   have hx:∃ b,AI (σ:=Int×Int) (β:=Int ⊕ Bool) (fun s4:Int×Int=>
     if s4.2<=(s.2.2.length:Int) then
     if ¬s4.1=(-1) then
     if 0<=s4.1/\s4.1<(s.2.2.length:Int) then
     some (Sum.inl ((((gl (0,0,0) s.2.2 s4.1.toNat).2).2,AG (s4.2+1))))
     else none
     else Option.map Sum.inr (if ¬s4.1=(-1) then
     some (Sum.inr (false))
     else some (Sum.inl (AG ((k:Int)+1))))
     else Option.map Sum.inr (if ¬s4.1=(-1) then
     some (Sum.inr (false))
     else some (Sum.inl (AG ((k:Int)+1))))) ((k:Int),0)=some b/\((b=Sum.inr false/\¬∃ l,Pa s.2.2 k l)\/(b=Sum.inl ((k:Int)+1)/\∃ l,Pa s.2.2 k l)):=by
    refine AO (fun m (st:Int×Int)=>st.2=(m:Int)/\st.1=qT s.2.2 m k∧-1<=st.1/\st.1<s.2.2.length) _ (s.2.2.length+1) ?_ ?_ ⟨rfl,rfl,by simp only;omega,by simp only;omega⟩
    ·rintro m ⟨f,q⟩ hm ⟨e1,e2,e3,e4⟩
     simp only at e1 e2 e3 e4 ⊢
     subst e1
     rw[AA (by omega)]
     by_cases hf:f= -1
     ·rw[AD (by simp [hf]),AD (by simp [hf]),AE (by omega) (by omega)]
      exact .inr ⟨_,rfl,.inr ⟨rfl,Pa.ADF hr m k (by omega) (by omega) (by rw[<-e2,hf])⟩⟩
     ·rw[AA hf,AA ⟨by omega,e4⟩,AE (by omega) (by omega)]
      have:=hr f (by omega) e4
      have h0:(gl (0,0,0) s.2.2 f.toNat).2.2=nx s.2.2 f:=(I4 (by omega) e4).symm
      rw[h0]
      exact .inl ⟨_,rfl,by simp only;omega,by rw[qT,←e2],this.1,this.2⟩
    ·rintro⟨f,q⟩ ⟨e1,e2,e3,e4⟩
     simp only at e1 e2 e3 e4 ⊢
     rw[AD (by omega)]
     by_cases hf:f= -1
     ·rw[AD (by simp [hf]),AE (by omega) (by omega)]
      exact⟨_,rfl,.inr ⟨rfl,Pa.ADF hr _ k (by omega) (by omega) (by rw[<-e2,hf])⟩⟩
     ·rw[AA hf]
      refine⟨_,rfl,.inl ⟨rfl, ?_⟩⟩
      rintro⟨l,hl⟩
      exact hf (by rw[e2];exact hl.ends _ (by have:=hl.length;omega))
   obtain⟨b,hb,hc⟩:=hx
   rw[hb]
   rcases hc with ⟨rfl,hc⟩|⟨rfl,hc⟩
   ·exact .inr ⟨_,rfl,BY fun h=>hc (h.acy k (by omega) (by omega))⟩
   ·refine .inl ⟨_,rfl,by omega,by omega,fun j j0 j1=> ?_⟩
    by_cases kL:j=k
    ·subst kL;exact hc
    ·exact hp j j0 (by omega)
  ·rintro i ⟨rfl,_,hp⟩
   rw[AD (by omega)]
   exact⟨_,rfl,aL rfl ⟨hs,⟨by omega,by omega⟩,hw,h4.fr,h4.inj,hp⟩⟩
theorem AT6 (xs:List (BitVec 64)) (h:xs.length<=1000000):∃ b,W3 xs=some b/\(b=true↔∀ j,j<xs.length->gl 0#64 xs j=0#64):=by
 unfold W3
 refine AO (fun k s=>s=(k:Int)/\k<=xs.length/\∀ j,j<k->gl 0#64 xs j=0#64) _ xs.length ?_ ?_ ⟨rfl,by omega,fun j h1=>by omega⟩
 ·rintro k s hk ⟨rfl,_,hj⟩
  rw[AA (by omega),AA (by omega),show (k:Int).toNat=k from rfl]
  by_cases h0:gl 0#64 xs k=0#64
  ·rw[AD (by simp [h0]),AE (by omega) (by omega)]
   refine .inl ⟨_,rfl,by omega,by omega,fun j hj1=> ?_⟩
   by_cases kL:j=k
   ·subst kL;exact h0
   ·exact hj j (by omega)
  ·rw[AA h0]
   exact .inr ⟨_,rfl,BY fun hh=>h0 (hh k hk)⟩
 ·rintro s ⟨rfl,_,hj⟩
  rw[AD (by omega)]
  exact⟨_,rfl,aL rfl hj⟩
theorem AHH (s:Sp) (hr:Rng s.2.2) (hn:s.2.2.length<=64):∃ b,OV s=some b/\(b=true↔∀ i:Int,0<=i->i<s.2.2.length->∃ l,Pa s.2.2 i l):=by
 unfold OV
 refine AO (fun k i=>i=(k:Int)/\k<=s.2.2.length/\∀ i:Int,0<=i->i<k->∀ q:Nat,1<=q->q<=s.2.2.length->qT s.2.2 q i≠i) _ s.2.2.length ?_ ?_ ⟨rfl,by omega,fun j h0 h1=>by omega⟩
 ·rintro k i hk ⟨rfl,_,hp⟩
  rw[AA (by omega),AA (by omega)]
  have hx:∃ b,AI (σ:=(Int×Int)) (β:=(Int ⊕ Bool)) (fun s2=>
    if s2.1≥0 then
    if s2.2<(s.2.2.length:Int) then
    if s2.1=(k:Int) then
    some (Sum.inr (Sum.inr (false)))
    else if 0<=s2.1/\s2.1<(s.2.2.length:Int) then
    some (Sum.inl ((((gl ((0,0,0):(Int×Int×Int)) s.2.2 s2.1.toNat).2).2,AG (s2.2+1))))
    else none
    else some (Sum.inr (Sum.inl (AG ((k:Int)+1))))
    else some (Sum.inr (Sum.inl (AG ((k:Int)+1))))) ((((gl ((0,0,0):(Int×Int×Int)) s.2.2 (k:Int).toNat).2).2,0))=some b∧
     ((b=Sum.inr false/\∃ q:Nat,1<=q/\qT s.2.2 q k=k)\/(b=Sum.inl ((k:Int)+1)/\∀ q:Nat,1<=q->q<=s.2.2.length->qT s.2.2 q k≠k)):=by
   have h1:=hr k (by omega) (by omega)
   have h2:(gl ((0,0,0):(Int×Int×Int)) s.2.2 (k:Int).toNat).2.2=nx s.2.2 k:=(I4 (by omega) (by omega)).symm
   rw[h2,AE (by omega) (by omega)]
   refine AO (fun m (st:Int×Int)=>st.2=(m:Int)/\m<=s.2.2.length/\st.1=qT s.2.2 (m+1) k∧-1<=st.1/\st.1<s.2.2.length/\∀ q:Nat,1<=q->q<=m->qT s.2.2 q k≠k) _ s.2.2.length ?_ ?_ ⟨rfl,by omega,rfl,h1.1,h1.2,fun q h1 h2=>by omega⟩
   ·rintro m ⟨f,q⟩ hm ⟨e1,e0,e2,e3,e4,e5⟩
    simp only at e1 e2 e3 e4 ⊢
    subst e1
    by_cases hf:f≥0
    ·rw[AA hf,AA (by omega)]
     by_cases hfk:f=k
     ·rw[AA hfk]
      exact .inr ⟨_,rfl,.inl ⟨rfl,m+1,by omega,by rw[<-e2,hfk]⟩⟩
     ·rw[AD hfk,AA ⟨hf,e4⟩,AE (by omega) (by omega)]
      have:=hr f hf e4
      have h0:(gl ((0,0,0):(Int×Int×Int)) s.2.2 f.toNat).2.2=nx s.2.2 f:=(I4 hf e4).symm
      rw[h0]
      refine .inl ⟨_,rfl,by simp only;omega,by omega,by simp only;rw[e2];rfl,this.1,this.2,fun q q1 q2=> ?_⟩
      by_cases hq:q=m+1
      ·subst hq;rw[<-e2];exact hfk
      ·exact e5 q q1 (by omega)
    ·rw[AD hf]
     refine .inr ⟨_,rfl,.inr ⟨rfl,fun q q1 q2=> ?_⟩⟩
     by_cases hq:q<=m
     ·exact e5 q q1 hq
     ·obtain⟨d,rfl⟩:=ALD (show m+1<=q by omega)
      rw[uR,←e2,show f= -1 from by omega,ADE]
      omega
   ·rintro⟨f,q⟩ ⟨e1,e0,e2,e3,e4,e5⟩
    simp only at e1 e2 e3 e4 ⊢
    subst e1
    rw[AD (by omega:¬((s.2.2.length:Int)<s.2.2.length))]
    have h6:(if f≥0 then some (Sum.inr (Sum.inl ((k:Int)+1))) else some (Sum.inr (Sum.inl ((k:Int)+1))))=some (Sum.inr (α:=Int×Int) (Sum.inl (β:=Bool) ((k:Int)+1))):=by split <;> rfl
    rw[h6]
    exact⟨_,rfl,.inr ⟨rfl,fun q q1 q2=>e5 q q1 q2⟩⟩
  obtain⟨b,hb,hc⟩:=hx
  rw[hb]
  rcases hc with ⟨rfl,q,q1,q2⟩|⟨rfl,hc⟩
  ·refine .inr ⟨_,rfl,BY fun h=> ?_⟩
   obtain⟨l,hl⟩:=h k (by omega) (by omega)
   exact hl.AT4 (by omega) q q1 q2
  ·refine .inl ⟨_,rfl,by omega,by omega,fun i i0 i1=> ?_⟩
   by_cases gS:i=k
   ·subst gS;exact hc
   ·exact hp i i0 (by omega)
 ·rintro i ⟨rfl,_,hp⟩
  rw[AD (by omega)]
  exact⟨_,rfl,aL rfl fun i i0 i1=>Pa.AH7 hr hp i i0 i1⟩
def StI (s:Sp):Prop:=∀ i:Int,0<=i->i<s.2.2.length->(fr s.2.2 i).2.1<=9223372036854775807
theorem ABR (s:Sp) (hI:StI s):∃ b,I9 s=some b/\(b=true↔VS s):=by
 unfold I9
 rw[ABQ]
 simp only[AZ]
 by_cases hs:3<=s.1/\s.1<=8
 rotate_left
 ·rw[AA (by simp [hs])];exact⟨_,rfl,BY fun h=>hs h.sh⟩
 rw[AD (by simp [hs])]
 by_cases hn:(s.2.2.length:Int)<2
 ·rw[AA hn];exact⟨_,rfl,BY fun h=>by have:=h.n.1;omega⟩
 rw[AD hn]
 by_cases hn2:(s.2.2.length:Int)>64
 ·rw[AA hn2];exact⟨_,rfl,BY fun h=>by have:=h.n.2;omega⟩
 have z:=LF hs
 obtain⟨q1,q2⟩:=LN hs (by omega:0<=(s.2.2.length:Int)) (show (s.2.2.length:Int)<=64 by omega)
 rw[AD hn2,AA trivial,P4 hs,AE (by omega) (by omega)]
 by_cases hw:(s.2.1.length:Int)=s.2.2.length*sz s.1
 rotate_left
 ·rw[AA hw];exact⟨_,rfl,BY fun h=>hw h.w⟩
 rw[AD (by simp [hw])]
 refine AO (fun k (st:BitVec 64×Int)=>st.2=(k:Int)/\k<=s.2.2.length/\kR s k/\∀ j:Int,0<=j->j<64->(st.1.getLsbD j.toNat=true↔∃ i:Int,0<=i/\i<k/\nx s.2.2 i=j)) _ s.2.2.length ?_ ?_
  ⟨rfl,by omega,⟨fun i h0 h1=>by omega,fun i j h0 h1=>by omega⟩,fun j h0 h1=>⟨fun h=>by simp at h,fun ⟨i,h2,h3,_⟩=>by omega⟩⟩
 ·rintro k ⟨bs,i⟩ hk ⟨h1,h2,h4,h5⟩
  simp only at h1 h2 h4 h5 ⊢
  subst h1
  have ki:0<=(k:Int)/\(k:Int)<s.2.2.length:=⟨by omega,by omega⟩
  have i1:=(dR hs ki.1 (show (k:Int)<=s.2.2.length by omega)).1
  have i2:=(dR hs (show 0<=(k:Int)+1 by omega) (show (k:Int)+1<=s.2.2.length by omega)).2
  rw[JG] at i2
  rw[AA ki.2,AA ki,AE (e:=(k:Int)+1) (by omega) (by omega),JG,AE (e:=(k:Int)*sz s.1) (by omega) (by omega),AE (e:=(k:Int)*sz s.1+sz s.1) (by omega) (by omega)]
  have MY:gl (0,0,0) s.2.2 (k:Int).toNat=fr s.2.2 k:=rfl
  simp only[MY,HJ]
  have WY:=I4 ki.1 ki.2
  have CK:∀ k' :Nat,k' =k+1->nx s.2.2 k= -1->∀ j:Int,0<=j->j<64->(bs.getLsbD j.toNat=true↔∃ i:Int,0<=i/\i<k' /\nx s.2.2 i=j):=by
   rintro k' rfl hm j j0 j1
   rw[h5 j j0 j1]
   constructor
   ·rintro⟨i,i0,i1,i2⟩;exact⟨i,i0,by omega,i2⟩
   ·rintro⟨i,i0,i1,i2⟩
    refine⟨i,i0, ?_,i2⟩
    by_cases gS:i=k
    ·rw[gS,hm] at i2;omega
    ·omega
  by_cases hf:(fr s.2.2 k).1= -1
  ·rw[AA hf]
   by_cases tM:(fr s.2.2 k).2.1= -1
   rotate_left
   ·rw[AA tM]
    refine .inr ⟨_,rfl,BY fun h=> ?_⟩
    rcases h.fr k ki.1 ki.2 with h6|h6
    ·rw[h6.1] at tM;simp at tM
    ·have:=h6.1.1;omega
   rw[AD (by simp [tM])]
   by_cases hf3:(fr s.2.2 k).2.2= -1
   rotate_left
   ·rw[AA hf3]
    refine .inr ⟨_,rfl,BY fun h=> ?_⟩
    rcases h.fr k ki.1 ki.2 with h6|h6
    ·rw[h6.1] at hf3;simp at hf3
    ·have:=h6.1.1;omega
   rw[AD (by simp [hf3])]
   have yC:APJ (fr s.2.2 k):=by
    unfold APJ
    rw[<-Prod.eta (fr s.2.2 k),←Prod.eta (fr s.2.2 k).2,hf,tM,hf3]
   rw[AA ⟨⟨by omega,by omega⟩,by omega,by omega⟩]
   have hl:(B9 s.2.1 ((k:Int)*sz s.1).toNat (((k:Int)*sz s.1+sz s.1).toNat-((k:Int)*sz s.1).toNat)).length=((k:Int)*sz s.1+sz s.1).toNat-((k:Int)*sz s.1).toNat:=AH9 (by omega)
   obtain⟨b,hb,hc⟩:=AT6 (B9 s.2.1 ((k:Int)*sz s.1).toNat (((k:Int)*sz s.1+sz s.1).toNat-((k:Int)*sz s.1).toNat)) (by omega)
   rw[hl] at hc
   have hz:(b=true↔Zero s k):=by
    rw[hc]
    constructor
    ·intro h a a0 a1
     rw[JG] at a1
     have:=h (a-((k:Int)*sz s.1).toNat) (by omega)
     rw[AN4 (by omega)] at this
     rw[<-this];congr 1;omega
    ·intro h j hj
     rw[AN4 hj]
     exact h _ (by omega) (by rw[JG];omega)
   rw[hb]
   simp only[AZ]
   by_cases UA :b=true
   ·rw[AD (by simp [UA])]
    exact .inl ⟨_,rfl,rfl,by omega,h4.free hk (.inl ⟨yC,hz.1 UA⟩) (by rw[WY,hf3]),CK _ rfl (by rw[WY,hf3])⟩
   ·rw[AA (by simpa using UA)]
    refine .inr ⟨_,rfl,BY fun h=> ?_⟩
    rcases h.fr k ki.1 ki.2 with h6|h6
    ·exact UA (hz.2 h6.2)
    ·have:=h6.1.1;omega
  ·rw[AD hf]
   have NI:∀ h:VS s,ZK s.2.2 k:=fun h=>by
    rcases h.fr k ki.1 ki.2 with h6|h6
    ·exfalso;apply hf;rw[h6.1]
    ·exact h6
   by_cases d1:(fr s.2.2 k).1<0
   ·rw[AA d1];exact .inr ⟨_,rfl,BY fun h=>by have:=(NI h).1.1;omega⟩
   rw[AD d1]
   by_cases d2:(fr s.2.2 k).1>4294967295
   ·rw[AA d2];exact .inr ⟨_,rfl,BY fun h=>by have:=(NI h).1.2.1;omega⟩
   rw[AD d2]
   by_cases d3:(fr s.2.2 k).2.1<0
   ·rw[AA d3];exact .inr ⟨_,rfl,BY fun h=>by obtain⟨_,_,b,_,_,hb⟩:=(NI h).1;omega⟩
   rw[AD d3,AA (by omega),Int.tmod_eq_emod_of_nonneg (by omega),Int.tdiv_eq_ediv_of_nonneg (by omega)]
   by_cases d4:(fr s.2.2 k).2.1%4294967296=(fr s.2.2 k).1
   rotate_left
   ·rw[AA d4];exact .inr ⟨_,rfl,BY fun h=>by obtain⟨_,_,b,_,_,hb⟩:=(NI h).1;omega⟩
   rw[AD (by simp [d4]),AA (by decide:¬(4294967296:Int)=0)]
   by_cases d5:AG ((fr s.2.2 k).2.1 / 4294967296)≥4
   ·rw[AA d5]
    refine .inr ⟨_,rfl,BY fun h=> ?_⟩
    obtain⟨_,_,b,_,_,hb⟩:=(NI h).1
    rw[AE (by omega) (by omega)] at d5
    omega
   rw[AD d5]
   by_cases c1:(fr s.2.2 k).2.2< -1
   ·rw[AA c1];exact .inr ⟨_,rfl,BY fun h=>by have:=(NI h).2.1;omega⟩
   rw[AD c1]
   by_cases c2:(fr s.2.2 k).2.2≥s.2.2.length
   ·rw[AA c2];exact .inr ⟨_,rfl,BY fun h=>by have:=(NI h).2.2.1;omega⟩
   rw[AD c2]
   by_cases c3:(fr s.2.2 k).2.2=k
   ·rw[AA c3];exact .inr ⟨_,rfl,BY fun h=>(NI h).2.2.2.1 c3⟩
   rw[AD c3]
   have hI' :=hI k ki.1 ki.2
   rw[AE (by omega) (by omega)] at d5
   have hst:Stamped (fr s.2.2 k):=⟨by omega,by omega,(fr s.2.2 k).2.1 / 4294967296,by omega,by omega,by omega⟩
   by_cases c4:(fr s.2.2 k).2.2<0
   ·rw[AA c4]
    have c4' :(fr s.2.2 k).2.2= -1:=by omega
    exact .inl ⟨_,rfl,rfl,by omega,h4.free hk (.inr ⟨hst,by omega,by omega,c3,fun h=>absurd c4' h⟩) (by rw[WY,c4']),CK _ rfl (by rw[WY,c4'])⟩
   rw[AD c4]
   have hn0:gl (0,0,0) s.2.2 ((fr s.2.2 k).2.2).toNat=fr s.2.2 (fr s.2.2 k).2.2:=rfl
   rw[hn0]
   generalize hnn:(fr s.2.2 k).2.2=nn at*
   rw[AA ⟨by omega,by omega⟩,ABO (by omega) (by omega)]
   by_cases c7:(bs >>> nn.toNat) &&& 1#64=1#64
   ·rw[AA c7]
    refine .inr ⟨_,rfl,BY fun h=> ?_⟩
    obtain⟨i,i0,i1,i2⟩:=(h5 nn (by omega) (by omega)).1 ((AH8 _ _).1 c7)
    have:=h.inj i k i0 (by omega) ki.1 ki.2 (by rw[i2,WY]) (by rw[i2];omega)
    omega
   rw[AD c7]
   rw[AH8,h5 nn (by omega) (by omega)] at c7
   by_cases c5:(fr s.2.2 nn).1=(fr s.2.2 k).1
   rotate_left
   ·rw[AA c5];exact .inr ⟨_,rfl,BY fun h=>c5 (by have:=((NI h).2.2.2.2 (by omega)).1;rw[hnn] at this;exact this)⟩
   rw[AD (by simp [c5])]
   by_cases c6:(fr s.2.2 nn).2.1=(fr s.2.2 k).2.1
   rotate_left
   ·rw[AA c6];exact .inr ⟨_,rfl,BY fun h=>c6 (by have:=((NI h).2.2.2.2 (by omega)).2;rw[hnn] at this;exact this)⟩
   rw[AD (by simp [c6])]
   refine .inl ⟨_,rfl,rfl,by omega,h4.used hk (.inr ⟨hst,by omega,by omega,by omega,fun _=>by rw[hnn];exact⟨c5,c6⟩⟩) (fun i h8 h9 he=>c7 ⟨i,h8,h9,by rw[he,WY]⟩),fun j j0 j1=> ?_⟩
   simp only
   rw[AN3 _ _ (by omega),rW,h5 j j0 j1,NO]
   constructor
   ·rintro (⟨i,i0,i1,i2⟩|h6)
    ·exact⟨i,i0,by omega,i2⟩
    ·exact⟨k,by omega,by omega,by rw[WY];omega⟩
   ·rintro⟨i,i0,i1,i2⟩
    by_cases gS:i=k
    ·right;rw[gS,WY] at i2;omega
    ·left;exact⟨i,i0,by omega,i2⟩
 ·rintro⟨bs,i⟩ ⟨h1,h2,h4,h5⟩
  simp only at h1 h2 h4 h5 ⊢
  subst h1
  rw[AD (by omega)]
  refine map_inr ?_
  obtain⟨b,hb,hc⟩:=AHH s h4.IZ (by omega)
  rw[hb]
  exact⟨b,rfl,hc.trans ⟨fun h=>⟨hs,⟨by omega,by omega⟩,hw,h4.fr,h4.inj,h⟩,fun h=>h.acy⟩⟩
end Go.Proofs.YthmiilamegpllaaGreat
namespace Go.V3
open Go
theorem Pa.congr {fs uQ :List Fr} (hl:uQ.length=fs.length) (hn:∀ i:Int,0<=i->i<fs.length->nx uQ i=nx fs i):∀ {l:List Int} {i:Int},Pa fs i l->Pa uQ i l
 | [],_,h=>h
 |a::r,i,h=>by
  obtain⟨rfl,h0,h1,h2⟩:=h
  exact⟨rfl,h0,by omega,by rw[hn i h0 h1];exact Pa.congr hl hn h2⟩
theorem Pa.mE {fs uQ :List Fr} (hl:uQ.length=fs.length):∀ {l:List Int} {i:Int},(∀ i∈l,nx uQ i=nx fs i)->Pa fs i l->Pa uQ i l
 | [],_,_,h=>h
 |a::r,i,hn,h=>by
  obtain⟨rfl,h0,h1,h2⟩:=h
  exact⟨rfl,h0,by omega,by rw[hn i (by simp)];exact Pa.mE hl (fun j hj=>hn j (by simp [hj])) h2⟩
theorem Pa.link {fs uQ :List Fr} (hl:uQ.length=fs.length) {last f:Int} {lf:List Int} (hn:∀ i:Int,0<=i->i<fs.length->i≠last->nx uQ i=nx fs i) (h0:nx fs last= -1) (h1:nx uQ last=f) (hf:Pa fs f lf) (hx:last∉lf):
  ∀ {l:List Int} {i:Int},Pa fs i l->Pa uQ i (if last∈l then l++lf else l):=by
 have hf' :Pa uQ f lf:=hf.mE hl fun i hi=>hn i (hf.mem hi).1 (hf.mem hi).2 (fun e=>hx (e ▸ hi))
 intro l
 induction l with
 |nil=>intro i h;rw[AD (by simp)];exact h
 |cons a r ih=>
  intro i h
  obtain⟨rfl,g0,g1,g2⟩:=h
  by_cases ha:i=last
  ·subst ha
   rw[h0] at g2
   have hr:r=[]:=by
    cases r with
    |nil=>rfl
    |cons b r=>obtain⟨e,g3,_⟩:=g2;omega
   subst hr
   rw[AA (by simp)]
   exact⟨rfl,g0,by omega,by rw[h1];exact hf'⟩
  ·have:=ih g2
   by_cases hm:last∈r
   ·rw[AA hm] at this
    rw[AA (by simp [hm])]
    exact⟨rfl,g0,by omega,by rw[hn i g0 g1 ha];exact this⟩
   ·rw[AD hm] at this
    rw[AD (by simp only[GA,not_or];exact⟨fun e=>ha e.symm,hm⟩)]
    exact⟨rfl,g0,by omega,by rw[hn i g0 g1 ha];exact this⟩
def EI (n:Nat):List Int:=(List.range n).map fun k:Nat=>(k:Int)
theorem H9 (n:Nat):EI (n+1)=EI n++ [(n:Int)]:=by simp [EI,List.range_succ]
theorem NJ {n:Nat} {i:Int}:i∈EI n↔0<=i/\i<n:=by
 simp only[EI,DD,pV]
 constructor
 ·rintro⟨k,hk,rfl⟩;omega
 ·rintro⟨h0,h1⟩;exact⟨i.toNat,by omega,by omega⟩
theorem GZ (n:Nat):(EI n).length=n:=by simp [EI]
theorem rB (n:Nat):(EI n).Pairwise (·< ·):=by
 induction n with
 |zero=>simp [EI]
 |succ n ih=>
  rw[H9,vP]
  refine⟨ih,by simp,fun a ha b hb=> ?_⟩
  have:=NJ.1 ha
  simp at hb;omega
def owned (fs:List Fr) (q:Int):List Int:=(EI fs.length).filter fun i=>decide ((fr fs i).1=q)
def DX (fs:List Fr):List Int:=owned fs (-1)
theorem CB {fs:List Fr} {q i:Int}:i∈owned fs q↔(0<=i/\i<fs.length)/\(fr fs i).1=q:=by
 simp [owned,NJ]
theorem TP (fs:List Fr) (q:Int):(owned fs q).Pairwise (·< ·):=(rB _).filter _
theorem TQ (fs:List Fr) (q:Int):(owned fs q).Nodup:=(TP fs q).imp fun h=>by omega
theorem VD (fs:List Fr) (q:Int):(owned fs q).length<=fs.length:=by
 have:=mO (fun i=>decide ((fr fs i).1=q)) (EI fs.length)
 rw[GZ] at this
 exact this
theorem ADX:∀ {l l' :List Int},l.Pairwise (·< ·)->l'.Pairwise (·< ·)->(∀ x,x∈l↔x∈l')->l=l'
 | [],[],_,_,_=>rfl
 | [],b::r',_,_,h=>absurd ((h b).2 (by simp)) (by simp)
 |a::r,[],_,_,h=>absurd ((h a).1 (by simp)) (by simp)
 |a::r,b::r',p,p',h=>by
  have hab:a=b:=by
   have h1:=(h a).1 (by simp)
   have h2:=(h b).2 (by simp)
   rcases GA.1 h1 with h3|h3
   ·exact h3
   ·rcases GA.1 h2 with h4|h4
    ·exact h4.symm
    ·have:=(cQ.1 p).1 b h4
     have:=(cQ.1 p').1 a h3
     omega
  subst hab
  rw[ADX (cQ.1 p).2 (cQ.1 p').2 fun x=> ?_]
  have hx:=h x
  simp only[GA] at hx
  constructor
  ·intro hm
   rcases hx.1 (.inr hm) with rfl|h5
   ·exact absurd ((cQ.1 p).1 x hm) (by omega)
   ·exact h5
  ·intro hm
   rcases hx.2 (.inr hm) with rfl|h5
   ·exact absurd ((cQ.1 p').1 x hm) (by omega)
   ·exact h5
theorem mF {fs:List Fr} {f:Int} {r:List Int} (h:DX fs=f::r):(0<=f/\f<fs.length)/\(fr fs f).1= -1/\∀ j:Int,0<=j->j<f->(fr fs j).1≠-1:=by
 have hm:f∈DX fs:=by rw[h];simp
 obtain⟨h1,h2⟩:=CB.1 hm
 refine⟨h1,h2,fun j h0 hj he=> ?_⟩
 have bH :j∈DX fs:=CB.2 ⟨⟨h0,by omega⟩,he⟩
 have hp:=TP fs (-1)
 rw[h] at bH
 rw[show owned fs (-1)=f::r from h] at hp
 rcases GA.1 bH with h3|h3
 ·omega
 ·have:=(cQ.1 hp).1 j h3;omega
theorem AKI {fs:List Fr} {f o st:Int} {r:List Int} (h:DX fs=f::r) (ho:o≠-1):
  DX (fs.set f.toNat (o,st, -1))=r/\(owned (fs.set f.toNat (o,st, -1)) o).length=(owned fs o).length+1/\∀ q,q≠o->q≠-1->owned (fs.set f.toNat (o,st, -1)) q=owned fs q:=by
 obtain⟨⟨h0,h1⟩,h2,h3⟩:=mF h
 have hm:∀ q i,i∈owned (fs.set f.toNat (o,st, -1)) q↔(0<=i/\i<fs.length)/\(if i=f then o else (fr fs i).1)=q:=by
  intro q i
  rw[CB,EW]
  refine and_congr_right fun hi=> ?_
  rw[XI h0 h1 hi.1]
  split <;> rfl
 have JE:=TP fs (-1)
 rw[show owned fs (-1)=f::r from h] at JE
 refine⟨ADX (TP _ _) (cQ.1 JE).2 fun x=> ?_, ?_,fun q h4 h5=>ADX (TP _ _) (TP _ _) fun x=> ?_⟩
 ·show x∈owned _ _↔_
  rw[hm]
  have hx:x∈owned fs (-1)↔_:=CB
  rw[show owned fs (-1)=f::r from h] at hx
  simp only[GA] at hx
  have DO:=(cQ.1 JE).1
  constructor
  ·rintro⟨h6,h7⟩
   by_cases hxf:x=f
   ·rw[AA hxf] at h7;exact absurd h7 ho
   ·rw[AD hxf] at h7
    rcases hx.2 ⟨h6,h7⟩ with h8|h8
    ·exact absurd h8 hxf
    ·exact h8
  ·intro h6
   have h7:=hx.1 (.inr h6)
   have:=DO x h6
   exact⟨h7.1,by rw[AD (by omega)];exact h7.2⟩
 ·have hp:(owned (fs.set f.toNat (o,st, -1)) o).Perm (f::owned fs o):=by
   rw[List.perm_ext_iff_of_nodup (TQ _ _) (WD.2 ⟨fun hf=>by have:=(CB.1 hf).2;omega,TQ _ _⟩)]
   intro x
   rw[hm,GA,CB]
   by_cases hxf:x=f
   ·subst hxf;simp [h0,h1]
   ·simp [hxf]
  rw[hp.length_eq,O0]
 ·rw[hm,CB]
  refine and_congr_right fun hi=> ?_
  by_cases hxf:x=f
  ·rw[AA hxf,hxf,h2];constructor <;> intro h6 <;> omega
  ·rw[AD hxf]
theorem AKJ {fs:List Fr} {a:Int} {x:Fr} (h0:0<=a) (h1:a<fs.length) (hx:x.1=(fr fs a).1) (q:Int):owned (fs.set a.toNat x) q=owned fs q:=by
 refine ADX (TP _ _) (TP _ _) fun i=> ?_
 rw[CB,CB,EW]
 refine and_congr_right fun hi=> ?_
 rw[XI h0 h1 hi.1]
 split
 ·rename_i h;rw[h,hx]
 ·rfl
def DY (z:Int):List Int->Int->Option Int
 | [],_=>none
 |g::r,off=>if off<z then some (g*z+off) else DY z r (off-z)
theorem TR {z:Int} (hz:0<z):∀ {l:List Int} {off:Int},0<=off->off<l.length*z->∃ g,l[(off / z).toNat]? =some g/\DY z l off=some (g*z+off%z)
 | [],off,h0,h1=>by simp at h1;omega
 |g::r,off,h0,h1=>by
  rw[DY]
  by_cases h:off<z
  ·rw[AA h,AQR h0 h,ALQ h0 h]
   exact⟨g,rfl,rfl⟩
  ·rw[AD h]
   have h2:off<((r.length:Int)+1)*z:=by simpa using h1
   rw[v_,rX] at h2
   obtain⟨g',h3,h4⟩:=TR hz (l:=r) (off:=off-z) (by omega) (by omega)
   have e:(off-z) / z=off / z-1:=by rw[Int.sub_ediv_of_dvd _ ⟨1,(Int.mul_one z).symm⟩,Int.ediv_self (by omega)]
   have e2:(off-z)%z=off%z:=by rw[Int.sub_emod,Int.emod_self,Int.sub_zero,Int.emod_emod]
   have hp:1<=off / z:=by rw[ACA hz];omega
   rw[e] at h3
   rw[e2] at h4
   refine⟨g', ?_,h4⟩
   rw[show (off / z).toNat=(off / z-1).toNat+1 from by omega,zC]
   exact h3
theorem AHI {z:Int} (hz:0<z):∀ {l:List Int} {off:Int},0<=off->(l.length:Int)*z<=off->DY z l off=none
 | [],_,_,_=>rfl
 |g::r,off,h0,h1=>by
  have h2:((r.length:Int)+1)*z<=off:=by simpa using h1
  rw[v_,rX] at h2
  have h3:0<=(r.length:Int)*z:=AFG (by omega) (by omega)
  rw[DY,AD (by omega)]
  exact AHI hz (by omega) (by omega)
theorem ADY {z:Int} (hz:0<z) {l:List Int} {off a:Int} (h0:0<=off) (h:DY z l off=some a):off<l.length*z:=by
 rcases Int.lt_or_le off (l.length*z) with h1|h1
 ·exact h1
 ·rw[AHI hz h0 h1] at h;cases h
theorem C5 {z:Int}:∀ {l l' :List Int} {off a:Int},DY z l off=some a->DY z (l++l') off=some a
 | [],_,_,_,h=>by cases h
 |g::r,l',off,a,h=>by
  rw[rU]
  rw[DY] at h ⊢
  split
  ·rename_i h1;rw[AA h1] at h;exact h
  ·rename_i h1;rw[AD h1] at h;exact C5 h
theorem RQ {z:Int} (hz:0<z) {g o:Int} (h0:0<=o) (h1:o<z):(g*z+o) / z=g/\(g*z+o)%z=o:=by
 constructor
 ·rw[Int.add_comm,Int.add_mul_ediv_right _ _ (by omega),AQR h0 h1,Int.zero_add]
 ·rw[Int.add_comm,Int.add_mul_emod_self_right,ALQ h0 h1]
theorem QL {z:Int} (hz:0<z) {fs:List Fr}:∀ {l:List Int} {i off a k:Int},Pa fs i l->0<=off->DY z l off=some a->0<=k->∃ l',Pa fs (a / z) l' /\(0<=a / z/\a / z<fs.length/\a / z∈l)/\DY z l' (a%z+k)=DY z l (off+k)
 | [],_,_,_,_,_,_,h,_=>by cases h
 |g::r,i,off,a,k,hp,h0,h,hk=>by
  have hp' :=hp
  obtain⟨rfl,g0,g1,g2⟩:=hp
  rw[DY] at h
  by_cases h1:off<z
  ·rw[AA h1] at h
   simp only[BA] at h
   subst h
   obtain⟨e1,e2⟩:=RQ hz (g:=i) h0 h1
   rw[e1,e2]
   exact⟨_,hp',⟨g0,g1,by simp⟩,rfl⟩
  ·rw[AD h1] at h
   obtain⟨l',h2,⟨h3,h4,h5⟩,h6⟩:=QL hz g2 (by omega) h hk
   refine⟨l',h2,⟨h3,h4,by simp [h5]⟩, ?_⟩
   rw[h6,DY,AD (by omega)]
   congr 1;omega
theorem VS.IZ {s:Sp} (h:VS s):Rng s.2.2:=by
 intro i h0 h1
 rw[I4 h0 h1]
 rcases h.fr i h0 h1 with ⟨hf,_⟩|hu
 ·rw[show (Go.V3.fr s.2.2 i).2.2= -1 from by rw[hf]];omega
 ·exact⟨hu.2.1,hu.2.2.1⟩
theorem VS.used {s:Sp} (h:VS s) {i:Int} (h0:0<=i) (h1:i<s.2.2.length) (hu:(Go.V3.fr s.2.2 i).1≠-1):ZK s.2.2 i:=by
 rcases h.fr i h0 h1 with ⟨hf,_⟩|hu'
 ·exact absurd (by rw[hf]) hu
 ·exact hu'
theorem VS.free {s:Sp} (h:VS s) {i:Int} (h0:0<=i) (h1:i<s.2.2.length) (hu:(Go.V3.fr s.2.2 i).1= -1):APJ (Go.V3.fr s.2.2 i)/\Zero s i:=by
 rcases h.fr i h0 h1 with hf|hu'
 ·exact hf
 ·have:=hu'.1.1;omega
theorem VS.stI {s:Sp} (h:VS s) (i:Int) (h0:0<=i) (h1:i<s.2.2.length):(Go.V3.fr s.2.2 i).2.1<=9223372036854775807:=by
 rcases h.fr i h0 h1 with ⟨hf,_⟩|hu'
 ·rw[hf];decide
 ·obtain⟨_,_,b,_,_,hb⟩:=hu'.1;omega
theorem VS.owner {s:Sp} (h:VS s):∀ {l:List Int} {i:Int},Pa s.2.2 i l->∀ x∈l,(Go.V3.fr s.2.2 x).1=(Go.V3.fr s.2.2 i).1/\(Go.V3.fr s.2.2 x).2.1=(Go.V3.fr s.2.2 i).2.1
 | [],_,_,x,hx=>by cases hx
 |a::r,i,hp,x,hx=>by
  obtain⟨rfl,g0,g1,g2⟩:=hp
  rcases GA.1 hx with rfl|hx
  ·exact⟨rfl,rfl⟩
  ·have h1:=h.owner g2 x hx
   have h2:=h.IZ i g0 g1
   have CU:nx s.2.2 i≠-1:=by
    intro e
    cases r with
    |nil=>cases hx
    |cons b r=>obtain⟨e2,g3,_⟩:=g2;omega
   rw[I4 g0 g1] at h1 CU
   rcases h.fr i g0 g1 with ⟨hf,_⟩|hu
   ·rw[hf] at CU;exact absurd rfl CU
   ·have:=hu.2.2.2.2 CU
    exact⟨h1.1.trans this.1,h1.2.trans this.2⟩
theorem Pa.last {fs:List Fr}:∀ {l:List Int} {i x:Int},Pa fs i l->l.getLast? =some x->nx fs x= -1/\x∈l
 | [],_,_,_,h=>by cases h
 | [a],i,x,hp,h=>by
  obtain⟨rfl,_,_,h2⟩:=hp
  simp only[List.getLast?_singleton,BA] at h
  subst h
  exact⟨h2,by simp⟩
 |a::b::r,i,x,hp,h=>by
  obtain⟨rfl,_,_,h2⟩:=hp
  rw[List.getLast?_cons_cons] at h
  obtain⟨h3,h4⟩:=h2.last h
  exact⟨h3,by simp [h4]⟩
theorem VS.take {s:Sp} (h:VS s) {f o b:Int} (h0:0<=f) (h1:f<s.2.2.length) (hf:(Go.V3.fr s.2.2 f).1= -1) (o0:0<=o) (o1:o<=4294967295) (b0:0<=b) (b1:b<4):
  VS (s.1,s.2.1,s.2.2.set f.toNat (o,b*4294967296+o, -1))/\∀ i:Int,0<=i->i<s.2.2.length->nx (s.2.2.set f.toNat (o,b*4294967296+o, -1)) i=nx s.2.2 i:=by
 have yC:=(h.free h0 h1 hf).1
 have MY:∀ i:Int,0<=i->Go.V3.fr (s.2.2.set f.toNat (o,b*4294967296+o, -1)) i=if i=f then (o,b*4294967296+o, -1) else Go.V3.fr s.2.2 i:=fun i hi=>XI h0 h1 hi
 have WY:∀ i:Int,0<=i->i<s.2.2.length->nx (s.2.2.set f.toNat (o,b*4294967296+o, -1)) i=nx s.2.2 i:=by
  intro i i0 i1
  rw[I4 i0 (by rw[EW];exact i1),I4 i0 i1,MY i i0]
  by_cases hi:i=f
  ·rw[AA hi,hi,yC]
  ·rw[AD hi]
 refine⟨⟨h.sh,by simpa using h.n,by simpa using h.w, ?_, ?_, ?_⟩,WY⟩
 ·intro i i0 i1
  simp only[EW] at i1
  by_cases hi:i=f
  ·subst hi
   right
   unfold ZK
   simp only[MY i i0,HJ,EW]
   exact⟨⟨by simpa using o0,by simpa using o1,b,b0,b1,by simp only;omega⟩,by omega,by omega,by omega,fun h=>absurd rfl h⟩
  ·rcases h.fr i i0 i1 with ⟨hf1,hz⟩|hu
   ·left
    simp only
    rw[MY i i0,AD hi]
    exact⟨hf1,hz⟩
   ·right
    unfold ZK
    simp only[MY i i0,AD hi,EW]
    refine⟨hu.1,hu.2.1,hu.2.2.1,hu.2.2.2.1,fun CU=> ?_⟩
    have:=hu.2.1
    have hnf:(Go.V3.fr s.2.2 i).2.2≠f:=by
     intro e
     have h2:=(hu.2.2.2.2 CU).1
     rw[e,hf] at h2
     have:=hu.1.1;omega
    rw[MY _ (by omega),AD hnf]
    exact hu.2.2.2.2 CU
 ·intro i j i0 i1 j0 j1 he CU
  simp only[EW] at i1 j1 he CU
  rw[WY i i0 i1,WY j j0 j1] at he
  rw[WY i i0 i1] at CU
  exact h.inj i j i0 i1 j0 j1 he CU
 ·intro i i0 i1
  simp only[EW] at i1
  obtain⟨l,hl⟩:=h.acy i i0 i1
  exact⟨l,hl.congr (by simp) WY⟩
theorem VS.link {s:Sp} (h:VS s) {a f:Int} (a0:0<=a) (a1:a<s.2.2.length) (f0:0<=f) (f1:f<s.2.2.length) (hau:(Go.V3.fr s.2.2 a).1≠-1) (hn:nx s.2.2 a= -1)
  (ho:(Go.V3.fr s.2.2 f).1=(Go.V3.fr s.2.2 a).1) (hst:(Go.V3.fr s.2.2 f).2.1=(Go.V3.fr s.2.2 a).2.1) (OU:∀ i:Int,0<=i->i<s.2.2.length->nx s.2.2 i≠f) {lf:List Int} (hlf:Pa s.2.2 f lf) (hx:a∉lf):
  VS (s.1,s.2.1,s.2.2.set a.toNat ((Go.V3.fr s.2.2 a).1,(Go.V3.fr s.2.2 a).2.1,f))∧
   (∀ (l:List Int) (i:Int),Pa s.2.2 i l->Pa (s.2.2.set a.toNat ((Go.V3.fr s.2.2 a).1,(Go.V3.fr s.2.2 a).2.1,f)) i (if a∈l then l++lf else l)):=by
 have hu:=h.used a0 a1 hau
 have haf:f≠a:=by
  rintro rfl
  cases lf with
  |nil=>rw[Pa] at hlf;omega
  |cons b r=>obtain⟨rfl,_⟩:=hlf;simp at hx
 have MY:∀ i:Int,0<=i->Go.V3.fr (s.2.2.set a.toNat ((Go.V3.fr s.2.2 a).1,(Go.V3.fr s.2.2 a).2.1,f)) i=if i=a then ((Go.V3.fr s.2.2 a).1,(Go.V3.fr s.2.2 a).2.1,f) else Go.V3.fr s.2.2 i:=fun i hi=>XI a0 a1 hi
 have WY:∀ i:Int,0<=i->i<s.2.2.length->nx (s.2.2.set a.toNat ((Go.V3.fr s.2.2 a).1,(Go.V3.fr s.2.2 a).2.1,f)) i=if i=a then f else nx s.2.2 i:=by
  intro i i0 i1
  rw[I4 i0 (by rw[EW];exact i1),I4 i0 i1,MY i i0]
  by_cases hi:i=a
  ·rw[AA hi,AA hi]
  ·rw[AD hi,AD hi]
 have hpa:∀ (l:List Int) (i:Int),Pa s.2.2 i l->Pa (s.2.2.set a.toNat ((Go.V3.fr s.2.2 a).1,(Go.V3.fr s.2.2 a).2.1,f)) i (if a∈l then l++lf else l):=fun l i hl=>
  Pa.link (by simp) (fun i i0 i1 hi=>by rw[WY i i0 i1,AD hi]) hn (by rw[WY a a0 a1,AA rfl]) hlf hx hl
 have C1:∀ i:Int,0<=i->(Go.V3.fr (s.2.2.set a.toNat ((Go.V3.fr s.2.2 a).1,(Go.V3.fr s.2.2 a).2.1,f)) i).1=(Go.V3.fr s.2.2 i).1/\(Go.V3.fr (s.2.2.set a.toNat ((Go.V3.fr s.2.2 a).1,(Go.V3.fr s.2.2 a).2.1,f)) i).2.1=(Go.V3.fr s.2.2 i).2.1:=by
  intro i i0
  rw[MY i i0]
  by_cases hi:i=a
  ·rw[AA hi,hi];exact⟨rfl,rfl⟩
  ·rw[AD hi];exact⟨rfl,rfl⟩
 refine⟨⟨h.sh,by simpa using h.n,by simpa using h.w, ?_, ?_, ?_⟩,hpa⟩
 ·intro i i0 i1
  simp only[EW] at i1
  by_cases hi:i=a
  ·subst hi
   right
   unfold ZK
   simp only[MY i i0,HJ,EW]
   exact⟨hu.1,by omega,f1,haf,fun _=>by rw[(C1 f f0).1,(C1 f f0).2];exact⟨ho,hst⟩⟩
  ·rcases h.fr i i0 i1 with ⟨hf1,hz⟩|hu
   ·left
    simp only
    rw[MY i i0,AD hi]
    exact⟨hf1,hz⟩
   ·right
    unfold ZK
    simp only[MY i i0,AD hi,EW]
    refine⟨hu.1,hu.2.1,hu.2.2.1,hu.2.2.2.1,fun CU=> ?_⟩
    have:=hu.2.1
    rw[(C1 _ (by omega)).1,(C1 _ (by omega)).2]
    exact hu.2.2.2.2 CU
 ·intro i j i0 i1 j0 j1 he CU
  simp only[EW] at i1 j1 he CU
  rw[WY i i0 i1,WY j j0 j1] at he
  rw[WY i i0 i1] at CU
  by_cases hi:i=a
  ·by_cases hj:j=a
   ·omega
   ·rw[AA hi,AD hj] at he
    exact absurd he.symm (OU j j0 j1)
  ·by_cases hj:j=a
   ·rw[AD hi,AA hj] at he
    exact absurd he (OU i i0 i1)
   ·rw[AD hi,AD hj] at he
    rw[AD hi] at CU
    exact h.inj i j i0 i1 j0 j1 he CU
 ·intro i i0 i1
  simp only[EW] at i1
  obtain⟨l,hl⟩:=h.acy i i0 i1
  exact⟨_,hpa l i hl⟩
theorem VS.word {s:Sp} (h:VS s) {x:Int} (x0:0<=x) (hu:(Go.V3.fr s.2.2 (x / sz s.1)).1≠-1) (v:BitVec 64):VS (s.1,s.2.1.set x.toNat v,s.2.2):=by
 refine⟨h.sh,h.n,by simpa using h.w, ?_,h.inj,h.acy⟩
 intro i i0 i1
 rcases h.fr i i0 i1 with ⟨hf,hz⟩|hus
 ·refine .inl ⟨hf,fun a a0 a1=> ?_⟩
  have hz' :=hz a a0 a1
  show gl 0#64 (s.2.1.set x.toNat v) a=0#64
  have hp:=CM s.1
  have hax:a≠x.toNat:=by
   intro e
   apply hu
   have:x / sz s.1=i:=by
    have e1:(a:Int)=x:=by omega
    rw[<-e1]
    apply Int.le_antisymm
    ·exact Int.lt_add_one_iff.1 ((AF0 hp).2 a1)
    ·exact (ACA hp).2 a0
   rw[this,hf]
  refine Eq.trans ?_ hz'
  unfold gl
  simp only[vE,ALJ (fun e=>hax e.symm)]
 ·exact .inr hus
theorem VS.new {s n:Int} (hs:3<=s/\s<=8) (hn:2<=n/\n<=64):VS (s,List.replicate (n*sz s).toNat 0#64,List.replicate n.toNat (-1, -1, -1)):=by
 have hm:=(dR hs (by omega:0<=n) (bC n)).1
 have hp:=CM s
 have MY:∀ i:Int,0<=i->i<n.toNat->Go.V3.fr (List.replicate n.toNat (-1, -1, -1)) i=(-1, -1, -1):=fun i i0 i1=>O4 (by omega)
 refine⟨hs,by simp;omega,by simp only[XV];rw[vJ hm,vJ (by omega)], ?_, ?_, ?_⟩
 ·intro i i0 i1
  simp only[XV] at i1
  refine .inl ⟨MY i i0 i1,fun a a0 a1=>O4 ?_⟩
  simp only at a1
  have:(i+1)*sz s<=n*sz s:=AEV (by omega) (by omega)
  omega
 ·intro i j i0 i1 j0 j1 he CU
  simp only[XV] at i1
  rw[I4 i0 (by simpa using i1),MY i i0 i1] at CU
  exact absurd rfl CU
 ·intro i i0 i1
  simp only[XV] at i1
  refine⟨[i],rfl,i0,by simpa using i1, ?_⟩
  rw[I4 i0 (by simpa using i1),MY i i0 i1]
  rfl
def AHJ (w:BitVec 64):List Nat:=(List.range 64).filter fun i=>w.getLsbD i
def AKK (fs:List Fr) (w:BitVec 64):Prop:=∀ j,j<64->w.getLsbD j=decide (j<fs.length/\(fr fs j).1= -1)
theorem uA {p:Nat->Bool} {n m:Nat} (h:n<=m) (hp:∀ j,n<=j->p j=false):(List.range m).filter p=(List.range n).filter p:=by
 induction m with
 |zero=>have:n=0:=(by omega);subst this;rfl
 |succ m ih=>
  rcases IA m n with h' |h'
  ·have:n=m+1:=by omega
   subst this;rfl
  ·rw[List.range_succ,tH,ih h',vN,AD (by rw[hp m h'];decide)]
   simp
theorem APM {fs:List Fr} {w:BitVec 64} (hn:fs.length<=64) (h:AKK fs w):DX fs=(AHJ w).map fun k:Nat=>(k:Int):=by
 unfold DX owned EI AHJ
 rw[List.filter_map]
 congr 1
 have e:(List.range 64).filter (fun i=>w.getLsbD i)=(List.range 64).filter (fun j=>decide (j<fs.length/\(fr fs j).1= -1)):=by
  apply rR
  intro j hj
  rw[h j (pV.1 hj)]
 rw[e,uA hn (fun j hj=>by simp;omega)]
 apply rR
 intro j hj
 have:=pV.1 hj
 simp [this]
def zr (ws:List (BitVec 64)) (a:Nat):Nat->List (BitVec 64)
 |0=>ws
 |n+1=>(zr ws a n).set (a+n) 0#64
theorem AKL (ws:List (BitVec 64)) (a:Nat):∀ n,(zr ws a n).length=ws.length
 |0=>rfl
 |n+1=>by rw[zr,EW,AKL ws a n]
theorem AX3 (ws:List (BitVec 64)) (k j:Nat):gl 0#64 (ws.set k 0#64) j=if j=k then 0#64 else gl 0#64 ws j:=by
 rcases IA k ws.length with h|h
 ·exact D5 h
 ·rw[ALC h]
  split
  ·rename_i e;subst e;unfold gl;simp [h]
  ·rfl
theorem AZ8 (ws:List (BitVec 64)) (a j:Nat):∀ n,gl 0#64 (zr ws a n) j=if a<=j/\j<a+n then 0#64 else gl 0#64 ws j
 |0=>by rw[zr,AD (by omega)]
 |n+1=>by
  rw[zr,AX3,AZ8 ws a j n]
  by_cases h:j=a+n
  ·rw[AA h,AA (by omega)]
  ·rw[AD h]
   by_cases h2:a<=j/\j<a+n
   ·rw[AA h2,AA (by omega)]
   ·rw[AD h2,AD (by omega)]
def gvF (fs:List Fr) (o:Int):Nat->List Fr
 |0=>fs
 |k+1=>if (fr fs k).1=o then (gvF fs o k).set k (-1, -1, -1) else gvF fs o k
def gvN (fs:List Fr) (o:Int):Nat->Int
 |0=>0
 |k+1=>if (fr fs k).1=o then gvN fs o k+1 else gvN fs o k
def gvW (s:Sp) (o:Int):Nat->List (BitVec 64)
 |0=>s.2.1
 |k+1=>if (fr s.2.2 k).1=o then zr (gvW s o k) (k*(sz s.1).toNat) (sz s.1).toNat else gvW s o k
theorem oW (fs:List Fr) (o:Int):∀ k,(gvF fs o k).length=fs.length
 |0=>rfl
 |k+1=>by rw[gvF];split <;> simp [oW fs o k]
theorem ADZ (s:Sp) (o:Int):∀ k,(gvW s o k).length=s.2.1.length
 |0=>rfl
 |k+1=>by rw[gvW];split <;> simp [AKL,ADZ s o k]
theorem AKM (fs:List Fr) (o:Int):∀ k,0<=gvN fs o k/\gvN fs o k<=k
 |0=>by simp [gvN]
 |k+1=>by have:=AKM fs o k;rw[gvN];split <;> omega
theorem AT7 (fs:List Fr) (o:Int):∀ k,gvN fs o k=((EI k).filter fun i=>decide ((fr fs i).1=o)).length
 |0=>rfl
 |k+1=>by
  rw[gvN,H9,tH,JK,AT7 fs o k]
  by_cases h:(fr fs k).1=o
  ·rw[AA h];simp [h]
  ·rw[AD h];simp [h]
theorem AKN (fs:List Fr) (o:Int):∀ (k:Nat),k<=fs.length->∀ j:Int,0<=j->fr (gvF fs o k) j=if j<k/\(fr fs j).1=o then (-1, -1, -1) else fr fs j
 |0,_,j,h0=>by rw[gvF,AD (by omega)]
 |k+1,hk,j,h0=>by
  have ih:=AKN fs o k (by omega) j h0
  rw[gvF]
  by_cases h:(fr fs k).1=o
  ·rw[AA h]
   have:=XI (fs:=gvF fs o k) (i:=j) (j:=(k:Int)) (x:=(-1, -1, -1)) (by omega) (by rw[oW];omega) h0
   rw[HX] at this
   rw[this,ih]
   by_cases e:j=k
   ·rw[AA e,AA ⟨by omega,by rw[e];exact h⟩]
   ·rw[AD e]
    by_cases h2:j<k/\(fr fs j).1=o
    ·rw[AA h2,AA ⟨by omega,h2.2⟩]
    ·rw[AD h2,AD (fun h3=>h2 ⟨by omega,h3.2⟩)]
  ·rw[AD h,ih]
   by_cases h2:j<k/\(fr fs j).1=o
   ·rw[AA h2,AA ⟨by omega,h2.2⟩]
   ·rw[AD h2,AD (fun h3=>h2 ⟨by
     have:j≠k:=fun e=>h (by rw[<-e];exact h3.2)
     omega,h3.2⟩)]
theorem AKO (s:Sp) (o:Int) (a:Nat):∀ k:Nat,gl 0#64 (gvW s o k) a=if (a:Int) / sz s.1<k/\(fr s.2.2 ((a:Int) / sz s.1)).1=o then 0#64 else gl 0#64 s.2.1 a
 |0=>by
  have:=Int.ediv_nonneg (a:=(a:Int)) (b:=sz s.1) (by omega) (Int.le_of_lt (CM s.1))
  rw[gvW,AD (by omega)]
 |k+1=>by
  have hz:=CM s.1
  have ih:=AKO s o a k
  have hd:(k*(sz s.1).toNat<=a/\a<k*(sz s.1).toNat+(sz s.1).toNat)↔(a:Int) / sz s.1=k:=by
   have hzn:((sz s.1).toNat:Int)=sz s.1:=vJ (by omega)
   have h1:((k*(sz s.1).toNat:Nat):Int)=k*sz s.1:=by rw[ALT,hzn]
   have e1:=Int.ediv_mul_add_emod (a:Int) (sz s.1)
   have e2:=mW (a:Int) (Int.ne_of_gt hz)
   have e3:=rQ (a:Int) hz
   constructor
   ·rintro⟨h2,h3⟩
    have h2' :(k:Int)*sz s.1<=a:=by omega
    have h3' :(a:Int)<(k+1)*sz s.1:=by rw[v_];omega
    have q1:=(ACA hz).2 h2'
    have q2:=(AF0 hz).2 h3'
    omega
   ·intro h
    rw[h] at e1
    omega
  rw[gvW]
  by_cases h:(fr s.2.2 k).1=o
  ·rw[AA h,AZ8,ih]
   by_cases e:(a:Int) / sz s.1=k
   ·rw[AA (hd.2 e),AA ⟨by omega,by rw[e];exact h⟩]
   ·rw[AD (fun q=>e (hd.1 q))]
    by_cases h2:(a:Int) / sz s.1<k/\(fr s.2.2 ((a:Int) / sz s.1)).1=o
    ·rw[AA h2,AA ⟨by omega,h2.2⟩]
    ·rw[AD h2,AD (fun h3=>h2 ⟨by omega,h3.2⟩)]
  ·rw[AD h,ih]
   by_cases h2:(a:Int) / sz s.1<k/\(fr s.2.2 ((a:Int) / sz s.1)).1=o
   ·rw[AA h2,AA ⟨by omega,h2.2⟩]
   ·rw[AD h2,AD (fun h3=>h2 ⟨by
     have:(a:Int) / sz s.1≠k:=fun e=>h (by rw[<-e];exact h3.2)
     omega,h3.2⟩)]
def gv (s:Sp) (o:Int):Sp:=(s.1,gvW s o s.2.2.length,gvF s.2.2 o s.2.2.length)
theorem AT8 {s:Sp} {o j:Int} (h0:0<=j) (h1:j<s.2.2.length):fr (gv s o).2.2 j=if (fr s.2.2 j).1=o then (-1, -1, -1) else fr s.2.2 j:=by
 show fr (gvF s.2.2 o s.2.2.length) j=_
 rw[AKN _ _ _ (EY _) j h0]
 by_cases h:(fr s.2.2 j).1=o
 ·rw[AA ⟨h1,h⟩,AA h]
 ·rw[AD (fun q=>h q.2),AD h]
theorem AT9 (s:Sp) (o:Int):(gv s o).2.2.length=s.2.2.length:=oW _ _ _
theorem AN6 (s:Sp) (o:Int):(gv s o).2.1.length=s.2.1.length:=ADZ _ _ _
theorem A4E {s:Sp} (h:VS s) {o:Int} {a:Nat} (ha:a<s.2.1.length):gl 0#64 (gv s o).2.1 a=if (fr s.2.2 ((a:Int) / sz s.1)).1=o then 0#64 else gl 0#64 s.2.1 a:=by
 show gl 0#64 (gvW s o s.2.2.length) a=_
 rw[AKO]
 have:(a:Int) / sz s.1<s.2.2.length:=(AF0 (CM s.1)).2 (by have:=h.w;omega)
 by_cases h:(fr s.2.2 ((a:Int) / sz s.1)).1=o
 ·rw[AA ⟨this,h⟩,AA h]
 ·rw[AD (fun q=>h q.2),AD h]
theorem VS.A6M {s:Sp} (h:VS s) {o:Int} (o0:0<=o):VS (gv s o):=by
 have hz:=CM s.1
 have hl:=AT9 s o
 have hf:∀ j:Int,0<=j->j<s.2.2.length->Go.V3.fr (gv s o).2.2 j=if (Go.V3.fr s.2.2 j).1=o then (-1, -1, -1) else Go.V3.fr s.2.2 j:=fun j h0 h1=>AT8 h0 h1
 have hn:∀ j:Int,0<=j->j<s.2.2.length->nx (gv s o).2.2 j=if (Go.V3.fr s.2.2 j).1=o then -1 else nx s.2.2 j:=by
  intro j h0 h1
  rw[I4 h0 (by rw[hl];exact h1),I4 h0 h1,hf j h0 h1]
  split <;> rfl
 refine⟨h.sh,by rw[hl];exact h.n,by rw[AN6,hl];exact h.w, ?_, ?_, ?_⟩
 ·intro i i0 i1
  rw[hl] at i1
  have hzero:(Zero s i\/(Go.V3.fr s.2.2 i).1=o)->Zero (gv s o) i:=by
   intro hc a a1 a2
   have ae:(a:Int) / sz s.1=i:=by
    have q1:=(ACA hz).2 a1
    have q2:=(AF0 hz).2 a2
    omega
   show gl 0#64 (gvW s o s.2.2.length) a=0#64
   rw[AKO,ae]
   rcases hc with hc|hc
   ·split
    ·rfl
    ·exact hc a a1 a2
   ·rw[AA ⟨i1,hc⟩]
  by_cases ho:(Go.V3.fr s.2.2 i).1=o
  ·left
   rw[hf i i0 i1,AA ho]
   exact⟨rfl,hzero (.inr ho)⟩
  ·rcases h.fr i i0 i1 with ⟨h1,h2⟩|hu
   ·left
    rw[hf i i0 i1,AD ho]
    exact⟨h1,hzero (.inl h2)⟩
   ·right
    unfold ZK
    rw[hf i i0 i1,AD ho,hl]
    refine⟨hu.1,hu.2.1,hu.2.2.1,hu.2.2.2.1,fun CU=> ?_⟩
    have:=hu.2.1
    obtain⟨q1,q2⟩:=hu.2.2.2.2 CU
    rw[hf _ (by omega) hu.2.2.1,AD (by rw[q1];exact ho)]
    exact⟨q1,q2⟩
 ·intro i j i0 i1 j0 j1 he CU
  rw[hl] at i1 j1
  rw[hn i i0 i1] at he CU
  rw[hn j j0 j1] at he
  by_cases hi:(Go.V3.fr s.2.2 i).1=o
  ·rw[AA hi] at CU;exact absurd rfl CU
  ·rw[AD hi] at he CU
   by_cases hj:(Go.V3.fr s.2.2 j).1=o
   ·rw[AA hj] at he;exact absurd he CU
   ·rw[AD hj] at he
    exact h.inj i j i0 i1 j0 j1 he CU
 ·intro i i0 i1
  rw[hl] at i1
  by_cases ho:(Go.V3.fr s.2.2 i).1=o
  ·refine⟨[i],rfl,i0,by rw[hl];exact i1, ?_⟩
   rw[Pa,hn i i0 i1,AA ho]
  ·obtain⟨l,hp⟩:=h.acy i i0 i1
   refine⟨l,hp.mE hl fun x hx=> ?_⟩
   obtain⟨x0,x1⟩:=hp.mem hx
   have:=(VS.owner h hp x hx).1
   rw[hn x x0 x1,AD (by rw[this];exact ho)]
end Go.V3
namespace Go.Proofs.YthmiilamegpllaaGreat
open Go Go.V3
theorem O9 (a:Int) {m:Int} (h0:0<m) (h1:m<=4611686018427387904):∃ r,B4 a m=some r/\0<=r/\r<m/\r=a%m:=by
 have u:=Int.tmod_lt_of_pos a h0
 have l:=Int.lt_tmod_of_pos a h0
 have e:Int.tmod a m=if 0<=a\/m ∣ a then a%m else a%m-m:=by
  rw[Int.tmod_eq_emod]
  split <;> omega
 have p0:=mW a (show m≠0 by omega)
 have p1:=rQ a h0
 unfold B4
 rw[AA (by omega)]
 by_cases hn:a.tmod m<0
 ·rw[AA hn]
  rw[AE (by omega) (by omega)]
  exact⟨_,rfl,by omega,by omega,by split at e <;> omega⟩
 ·rw[AD hn]
  exact⟨_,rfl,by omega,u,by split at e <;> omega⟩
def TS (d:List Int×Int):Prop:=0<=d.2/\(d.1.length:Int)<=9223372036854775807
theorem FW {d:List Int×Int} (h:TS d) {n:Int} (h0:0<n) (h1:n<=4611686018427387904):∃ r d',AF d n=some (r,d')/\0<=r/\r<n/\TS d' :=by
 unfold AF
 obtain⟨h2,h3⟩:=h
 by_cases hc:d.2≥d.1.length
 ·rw[AA hc];exact⟨_,_,rfl,by omega,h0,h2,h3⟩
 ·rw[AD hc,AE (e:=d.2+1) (by omega) (by omega),show d.2+1-1=d.2 from by omega,AE (by omega) (by omega),AA (by omega)]
  obtain⟨r,h4,h5,h6,_⟩:=O9 (gl (0:Int) d.1 d.2.toNat) h0 h1
  rw[h4]
  exact⟨_,_,rfl,h5,h6,by show (0:Int)<=d.2+1;omega,h3⟩
theorem ATA {ws:List (BitVec 64)} (h:ws.length<=1000000):JP ws=some ws:=by
 unfold JP
 rw[AA (by simp;omega)];rfl
theorem AN7 {s:Sp} (h:s.2.1.length<=1000000) (h2:s.2.2.length<=1000000):DR s=some s:=by
 unfold DR
 rw[ATA h]
 simp only[AZ]
 rw[AA (by simp;omega)];rfl
theorem VS.PO {s:Sp} (h:VS s):s.2.1.length<=16384:=by
 have:=(LN h.sh (by omega:0<=(s.2.2.length:Int)) (show (s.2.2.length:Int)<=64 by have:=h.n.2;omega)).2
 have:=h.w
 omega
theorem VS.copy {s:Sp} (h:VS s):DR s=some s:=AN7 (by have:=VS.PO h;omega) (by have:=h.n.2;omega)
theorem AX4 {s n:Int} (hs:3<=s/\s<=8) (hn:2<=n/\n<=64):
  MD s n=some ((s,List.replicate (n*sz s).toNat 0#64,List.replicate n.toNat (-1, -1, -1)),0):=by
 obtain⟨q1,q2⟩:=LN hs (by omega:0<=n) hn.2
 unfold MD
 rw[q_]
 simp only[AZ]
 rw[AD (by simp [hs]),AD (by omega),AD (by omega),AA trivial,P4 hs,AE (by omega) (by omega),AA (by omega),AA (by omega)]
 refine MZ (fun k st=>st.1=n-k/\(k:Int)<=n/\st.2.length=n.toNat/\∀ j,j<st.1.toNat->st.2[j]? =some (-1, -1, -1)) (n:=n.toNat) ?_ ⟨by omega,by omega,by simp,fun j hj=>by simp at hj⟩
 rintro k ⟨i,xs⟩ ⟨h1,h2,h3,h4⟩
 simp only at h1 h2 h3 h4 ⊢
 rw[XV]
 by_cases hk:k=0
 ·left
  rw[AD (by omega)]
  have:i.toNat=n.toNat:=by omega
  rw[this] at h4
  rw[zQ h3 h4]
 ·right
  refine⟨k-1,_,by omega,by rw[AA (by omega),AA (by omega)], ?_,by omega, ?_, ?_⟩
  ·simp only;rw[AE (by omega) (by omega)];omega
  ·simp [h3]
  ·simp only
   rw[AE (by omega) (by omega)]
   intro j hj
   rw[vL]
   split
   ·rw[AA (by omega)]
   ·exact h4 j (by omega)
theorem uV {s:Sp} (hn:s.2.2.length<=64):DS s=some (DX s.2.2):=by
 unfold DS
 refine (AO (fun k (st:List Int×Int)=>st.2=(k:Int)/\k<=s.2.2.length/\st.1=(EI k).filter fun i=>decide ((fr s.2.2 i).1= -1)) (fun b=>b=DX s.2.2) s.2.2.length ?_ ?_ ⟨rfl,by omega,rfl⟩).elim fun b h=>by rw[h.1,h.2]
 ·rintro k ⟨acc,i⟩ hk ⟨h1,_,h2⟩
  simp only at h1 h2 ⊢
  subst h1
  have hl:acc.length<=k:=by
   have:=mO (fun i=>decide ((fr s.2.2 i).1= -1)) (EI k)
   rw[GZ] at this;rw[h2];exact this
  have MY:gl (0,0,0) s.2.2 (k:Int).toNat=fr s.2.2 k:=rfl
  rw[AA (by omega),AA (by omega),MY,AE (by omega) (by omega),H9,tH]
  by_cases hf:(fr s.2.2 k).1= -1
  ·rw[AA hf,AA (by simp;omega)]
   exact .inl ⟨_,rfl,by simp only;omega,by omega,by simp [h2,hf]⟩
  ·rw[AD hf]
   exact .inl ⟨_,rfl,by simp only;omega,by omega,by simp [h2,hf]⟩
 ·rintro⟨acc,i⟩ ⟨h1,_,h2⟩
  simp only at h1 h2 ⊢
  rw[AD (by omega)]
  exact⟨_,rfl,h2⟩
theorem AX5 {s:Sp} (hn:s.2.2.length<=64) {f:Int} {r:List Int} (hf:DX s.2.2=f::r) {o b:Int} (o0:0<=o) (o1:o<=4294967295) (b0:0<=b) (b1:b<4):
  IK s o b=some (f,s.2.1,s.2.2.set f.toNat (o,b*4294967296+o, -1)):=by
 obtain⟨⟨h0,h1⟩,h2,h3⟩:=mF hf
 unfold IK
 refine MZ (fun k (i:Int)=>i=f-k/\(k:Int)<=f) (n:=f.toNat) ?_ ⟨by omega,by omega⟩
 rintro k i ⟨hi,hk⟩
 have MY:gl (0,0,0) s.2.2 i.toNat=fr s.2.2 i:=rfl
 rw[AA (by omega),AA (by omega),MY]
 by_cases h0:k=0
 ·left
  have:i=f:=by omega
  subst this
  rw[AA h2,AA (by omega),AE (e:=b*4294967296) (by omega) (by omega),AE (by omega) (by omega)]
 ·right
  rw[AD (h3 i (by omega) (by omega)),AE (by omega) (by omega)]
  exact⟨k-1,_,by omega,rfl,by omega,by omega⟩
theorem ATB {s:Sp} (hn:s.2.2.length<=64) {i:Int} {l:List Int} (hp:Pa s.2.2 i l):JN s i=some l:=by
 unfold JN
 have hl:=hp.length
 refine MZ (fun k (st:List Int×Int)=>∃ l2,l=st.1++l2/\Pa s.2.2 st.2 l2/\l2.length=k) (n:=l.length) ?_ ⟨l,rfl,hp,rfl⟩
 rintro k ⟨acc,f⟩ ⟨l2,h1,h2,h3⟩
 simp only at h1 h2 ⊢
 cases l2 with
 |nil=>
  left
  rw[Pa] at h2
  rw[AD (by simp [h2]),h1,HH]
 |cons a r=>
  right
  obtain⟨rfl,g0,g1,g2⟩:=h2
  have:=PR List.length h1
  simp at this h3
  have MY:(gl (0,0,0) s.2.2 f.toNat).2.2=nx s.2.2 f:=(I4 g0 g1).symm
  rw[AA (by omega),AA (by simp;omega),AA ⟨g0,g1⟩,MY]
  exact⟨k-1,_,by omega,rfl,r,by simp [h1],g2,by omega⟩
def cl (z n:Int):Int:=(n+z-1) / z
theorem AN8 {n s:Int} (hs:3<=s/\s<=8) (h0:0<=n) (h1:n<=1000000):II n s=some (cl (sz s) n):=by
 obtain⟨z1,z2⟩:=LF hs
 unfold II
 rw[AD (by omega),AD (by omega),AD (by omega),AD (by omega),AA trivial,AA trivial,P4 hs,rX,AE (e:=sz s) (by omega) (by omega),AE (e:=n+sz s) (by omega) (by omega),AE (by omega) (by omega)]
 rfl
theorem AN9 {z n m:Int} (hz:0<z) (h:n<=m):cl z n<=cl z m:=Int.ediv_le_ediv hz (by omega)
theorem ANA {z:Int} (hz:0<z):cl z 0=0:=AQR (by omega) (by omega)
theorem OX {z n:Int} (hz:0<z):n<=cl z n*z/\cl z n*z<n+z:=by
 have h1:=ALH (n+z-1) z
 have h2:=mW (n+z-1) (show z≠0 by omega)
 have h3:=rQ (n+z-1) hz
 unfold cl
 rw[AAJ] at h1
 omega
theorem AKP {z n:Int} (hz:0<z) (h:0<n):0<cl z n:=by
 obtain⟨h1,h2⟩:=OX (n:=n) hz
 apply vF
 intro hc
 have:cl z n*z<=0*z:=AEV (by omega) (by omega)
 omega
theorem YW {z n:Int} (hz:0<z) (h:0<=n):0<=cl z n:=Int.ediv_nonneg (by omega) (by omega)
def EJ (s:Sp) (i:AH):Prop:=
 (0<=i.1/\i.1<=4294967295/\0<=i.2.1/\i.2.1<4/\0<=i.2.2.2.2/\i.2.2.2.2<=s.2.1.length)∧
 ((i.2.2.2.2=0/\i.2.2.1= -1/\i.2.2.2.1= -1)∨
  (i.2.2.2.2≠0/\(0<=i.2.2.1/\i.2.2.1<s.2.2.length)/\(fr s.2.2 i.2.2.1).1=i.1/\(fr s.2.2 i.2.2.1).2.1=i.2.1*4294967296+i.1∧
  ∃ l,Pa s.2.2 i.2.2.1 l/\(l.length:Int)=cl (sz s.1) i.2.2.2.2/\l.length=(owned s.2.2 i.1).length/\l.getLast? =some i.2.2.2.1))
theorem RR {s:Sp} (h:VS s) {i:AH} (h0:0<=i.2.2.2.2) (h1:i.2.2.2.2<=1000000):BU s i=some (cl (sz s.1) i.2.2.2.2):=by
 unfold BU
 rw[AN8 h.sh h0 h1];rfl
theorem ANB {l:List Int} (h:0<l.length):some (gl 0 l (l.length-1))=l.getLast? :=by
 rw[List.getLast?_eq_getElem?,AX1 (d:=0) (by omega)]
theorem AE0 {s:Sp} (h:VS s) (i:AH):∃ b,IJ s i=some b/\(b=true↔EJ s i):=by
 have pQ:=VS.PO h
 have hn:=h.n.2
 unfold IJ
 by_cases c1:i.1<0
 ·rw[AA c1];exact⟨_,rfl,BY fun h=>by have:=h.1.1;omega⟩
 rw[AD c1]
 by_cases c2:i.1>4294967295
 ·rw[AA c2];exact⟨_,rfl,BY fun h=>by have:=h.1.2.1;omega⟩
 rw[AD c2]
 by_cases c3:i.2.1<0
 ·rw[AA c3];exact⟨_,rfl,BY fun h=>by have:=h.1.2.2.1;omega⟩
 rw[AD c3]
 by_cases c4:i.2.1≥4
 ·rw[AA c4];exact⟨_,rfl,BY fun h=>by have:=h.1.2.2.2.1;omega⟩
 rw[AD c4]
 by_cases c5:i.2.2.2.2<0
 ·rw[AA c5];exact⟨_,rfl,BY fun h=>by have:=h.1.2.2.2.2.1;omega⟩
 rw[AD c5]
 by_cases c6:i.2.2.2.2>s.2.1.length
 ·rw[AA c6];exact⟨_,rfl,BY fun h=>by have:=h.1.2.2.2.2.2;omega⟩
 rw[AD c6]
 have hr:0<=i.1/\i.1<=4294967295/\0<=i.2.1/\i.2.1<4/\0<=i.2.2.2.2/\i.2.2.2.2<=s.2.1.length:=⟨by omega,by omega,by omega,by omega,by omega,by omega⟩
 by_cases c7:i.2.2.2.2=0
 ·rw[AA c7]
  by_cases c8:i.2.2.1= -1
  ·rw[AA c8]
   refine⟨_,rfl, ?_⟩
   rw[NO]
   exact⟨fun hh=>⟨hr,.inl ⟨c7,c8,hh⟩⟩,fun hh=>by rcases hh.2 with h1|h1;exact h1.2.2;exact absurd c7 h1.1⟩
  ·rw[AD c8]
   exact⟨_,rfl,BY fun hh=>by rcases hh.2 with h1|h1;exact c8 h1.2.1;exact h1.1 c7⟩
 rw[AD c7]
 have only:EJ s i->(0<=i.2.2.1/\i.2.2.1<s.2.2.length)/\(fr s.2.2 i.2.2.1).1=i.1/\(fr s.2.2 i.2.2.1).2.1=i.2.1*4294967296+i.1∧
   ∃ l,Pa s.2.2 i.2.2.1 l/\(l.length:Int)=cl (sz s.1) i.2.2.2.2/\l.length=(owned s.2.2 i.1).length/\l.getLast? =some i.2.2.2.1:=fun hh=>by
  rcases hh.2 with h1|h1
  ·exact absurd h1.1 c7
  ·exact h1.2
 by_cases c8:i.2.2.1<0
 ·rw[AA c8];exact⟨_,rfl,BY fun hh=>by have:=(only hh).1.1;omega⟩
 rw[AD c8]
 by_cases c9:i.2.2.1≥s.2.2.length
 ·rw[AA c9];exact⟨_,rfl,BY fun hh=>by have:=(only hh).1.2;omega⟩
 have MY:gl (0,0,0) s.2.2 i.2.2.1.toNat=fr s.2.2 i.2.2.1:=rfl
 rw[AD c9,AA (by omega),MY,AE (e:=i.2.1*4294967296) (by omega) (by omega),AE (e:=i.2.1*4294967296+i.1) (by omega) (by omega)]
 by_cases d1:(fr s.2.2 i.2.2.1).1=i.1
 rotate_left
 ·rw[AA d1];exact⟨_,rfl,BY fun hh=>d1 (only hh).2.1⟩
 rw[AD (by simp [d1])]
 by_cases d2:(fr s.2.2 i.2.2.1).2.1=i.2.1*4294967296+i.1
 rotate_left
 ·rw[AA d2];exact⟨_,rfl,BY fun hh=>d2 (only hh).2.2.1⟩
 rw[AD (by simp [d2])]
 obtain⟨l,hl⟩:=h.acy i.2.2.1 (by omega) (by omega)
 have yD:=hl.length
 rw[ATB hn hl,RR h (by omega) (by omega)]
 simp only[AZ]
 refine AO (fun k (st:Int×Int)=>st.2=(k:Int)/\k<=s.2.2.length/\0<=st.1/\st.1<=k/\st.1=(((EI k).filter fun j=>decide ((fr s.2.2 j).1=i.1)).length:Nat)) _ s.2.2.length ?_ ?_ ⟨rfl,by omega,by simp,by simp,rfl⟩
 ·rintro k ⟨c,j⟩ hk ⟨h1,_,h2,h3,h4⟩
  simp only at h1 h2 h3 h4 ⊢
  subst h1
  have hfk:gl (0,0,0) s.2.2 (k:Int).toNat=fr s.2.2 k:=rfl
  rw[AA (by omega),AA (by omega),hfk,AE (e:=(k:Int)+1) (by omega) (by omega),AE (e:=c+1) (by omega) (by omega),H9,tH]
  by_cases hf:(fr s.2.2 k).1=i.1
  ·rw[AA hf]
   exact .inl ⟨_,rfl,by simp only;omega,by omega,by simp only;omega,by simp only;omega,by simp [h4,hf]⟩
  ·rw[AD hf]
   exact .inl ⟨_,rfl,by simp only;omega,by omega,by simp only;omega,by simp only;omega,by simp [h4,hf]⟩
 ·rintro⟨c,j⟩ ⟨h1,_,h2,h3,h4⟩
  simp only at h1 h2 h3 h4 ⊢
  have h5:c=((owned s.2.2 i.1).length:Int):=h4
  rw[AD (by omega)]
  refine map_inr ?_
  by_cases e1:(l.length:Int)=cl (sz s.1) i.2.2.2.2
  rotate_left
  ·rw[AD e1]
   exact⟨_,rfl,BY fun hh=>by obtain⟨l',p1,p2,_⟩:=(only hh).2.2.2;rw[hl.fn p1] at e1;exact e1 p2⟩
  rw[AA e1]
  by_cases e2:(l.length:Int)=c
  rotate_left
  ·rw[AD e2]
   exact⟨_,rfl,BY fun hh=>by obtain⟨l',p1,_,p2,_⟩:=(only hh).2.2.2;rw[hl.fn p1] at e2;exact e2 (by omega)⟩
  have hp:=AKP (CM s.1) (show 0<i.2.2.2.2 by omega)
  rw[AA e2,AE (by omega) (by omega),AA (by omega)]
  refine⟨_,rfl, ?_⟩
  rw[NO,show ((l.length:Int)-1).toNat=l.length-1 from by omega]
  have hg:=ANB (l:=l) (by omega)
  constructor
  ·intro he
   exact⟨hr,.inr ⟨c7,by omega,d1,d2,l,hl,e1,by omega,by rw[<-hg,he]⟩⟩
  ·intro hh
   obtain⟨l',p1,_,_,p2⟩:=(only hh).2.2.2
   rw[<-hl.fn p1,←hg] at p2
   simpa using p2
theorem AE1 (s:Sp) (i:AH):∃ b,JO s i=some b/\(b=true↔VS s/\EJ s i):=by
 unfold JO
 obtain⟨b,h1,h2⟩:=rA s
 rw[h1]
 simp only[AZ]
 by_cases hb:b=true
 ·rw[AA hb]
  obtain⟨c,h3,h4⟩:=AE0 (h2.1 hb) i
  rw[h3]
  exact⟨c,rfl,h4.trans ⟨fun h=>⟨h2.1 hb,h⟩,fun h=>h.2⟩⟩
 ·rw[AD hb]
  exact⟨_,rfl,BY fun h=>hb (h2.2 h.1)⟩
theorem AX6 {s:Sp} (hn:s.2.2.length<=64) (q:Int):∃ b,KT s q=some b/\(b=true↔owned s.2.2 q≠[]):=by
 unfold KT
 refine AO (fun k (i:Int)=>i=(k:Int)/\k<=s.2.2.length/\∀ j:Int,0<=j->j<k->(fr s.2.2 j).1≠q) _ s.2.2.length ?_ ?_ ⟨rfl,by omega,fun j h0 h1=>by omega⟩
 ·rintro k i hk ⟨rfl,_,hj⟩
  have hfk:gl (0,0,0) s.2.2 (k:Int).toNat=fr s.2.2 k:=rfl
  rw[AA (by omega),AA (by omega),hfk,AE (by omega) (by omega)]
  by_cases hf:(fr s.2.2 k).1=q
  ·rw[AA hf]
   refine .inr ⟨_,rfl,aL rfl fun he=> ?_⟩
   have:(k:Int)∈owned s.2.2 q:=CB.2 ⟨⟨by omega,by omega⟩,hf⟩
   rw[he] at this;cases this
  ·rw[AD hf]
   refine .inl ⟨_,rfl,by omega,by omega,fun j j0 j1=> ?_⟩
   by_cases kL:j=k
   ·rw[kL];exact hf
   ·exact hj j j0 (by omega)
 ·rintro i ⟨rfl,_,hj⟩
  rw[AD (by omega)]
  refine⟨_,rfl,BY fun he=> ?_⟩
  obtain⟨x,hx⟩:=List.exists_mem_of_ne_nil _ he
  obtain⟨⟨x0,x1⟩,x2⟩:=CB.1 hx
  exact hj x x0 x1 x2
theorem HU {s:Sp} (h:VS s) {a:Int} (h0:0<=a) (h1:a<s.2.1.length):0<=a / sz s.1/\a / sz s.1<s.2.2.length:=
 ⟨Int.ediv_nonneg h0 (by have:=CM s.1;omega),(AF0 (CM s.1)).2 (by rw[<-h.w];exact h1)⟩
theorem A18 {s a:Int} (hs:3<=s/\s<=8) (h0:0<=a) (h1:a<=9223372036854775807):AAL .and a (sz s-1)=a%sz s:=xX s.toNat (by omega) h0 h1
def cK:Option Int->Int×Int
 |some a=>(a,0)
 |none=>(0,2)
theorem kS {s:Sp} (h:VS s) {a k:Int} (h0:0<=a) (h1:a<s.2.1.length) (hu:(fr s.2.2 (a / sz s.1)).1≠-1) (k0:0<=k) (k1:k<=9223372036854775807) {l:List Int} (hl:Pa s.2.2 (a / sz s.1) l):
  BF s a k=some (cK (DY (sz s.1) l (a%sz s.1+k))):=by
 have pQ:=VS.PO h
 have hn:=h.n.2
 obtain⟨z1,z2⟩:=LF h.sh
 obtain⟨f0,f1⟩:=HU h h0 h1
 have m0:=mW a (show sz s.1≠0 by omega)
 have m1:=rQ a (show 0<sz s.1 by omega)
 have MY:gl (0,0,0) s.2.2 (a / sz s.1).toNat=fr s.2.2 (a / sz s.1):=rfl
 unfold BF
 rw[AD (by omega),AD (by omega),AD (by omega),AA trivial,AA trivial,P4 h.sh,AA ⟨f0,f1⟩,MY,AD hu,rX,AE (e:=sz s.1) (by omega) (by omega),AE (e:=sz s.1-1) (by omega) (by omega),A18 h.sh h0 (by omega)]
 refine MZ (fun m (st:Int×Int×Int)=>(0<=st.1/\st.1<=k)/\0<=st.2.2/\st.2.2<sz s.1/\∃ l2,l2.length=m/\l2≠[]/\Pa s.2.2 st.2.1 l2/\DY (sz s.1) l2 (st.2.2+st.1)=DY (sz s.1) l (a%sz s.1+k)) (n:=l.length) ?_ ⟨⟨k0,bC _⟩,m0,m1,l,rfl, ?_,hl,rfl⟩
 ·rintro m ⟨k',f,at'⟩ ⟨⟨g0,g7⟩,g1,g2,l2,g3,g6,g4,g5⟩
  simp only at g0 g7 g1 g2 g4 g5 ⊢
  rw[AE (e:=sz s.1-at') (by omega) (by omega),HJ]
  cases l2 with
  |nil=>exact absurd rfl g6
  |cons b r=>
   obtain⟨rfl,i0,i1,i2⟩:=g4
   have WY:(gl (0,0,0) s.2.2 f.toNat).2.2=nx s.2.2 f:=(I4 i0 i1).symm
   have fm:=LN h.sh i0 (show f<=64 by omega)
   rw[DY] at g5
   by_cases hk:k' ≥sz s.1-at'
   ·rw[AA hk,AA trivial,AA ⟨i0,i1⟩,WY,AE (by omega) (by omega)]
    rw[AD (by omega)] at g5
    by_cases hx:nx s.2.2 f= -1
    ·rw[AA hx]
     left
     rw[hx] at i2
     have:r=[]:=i2.fn (show Pa s.2.2 (-1) [] from rfl)
     subst this
     rw[<-g5]
     rfl
    ·rw[AD hx]
     right
     refine⟨m-1,_,by simp at g3;omega,rfl,⟨by simp only;omega,by simp only;omega⟩,by simp only;omega,by simp only;omega,r,by simp at g3;omega, ?_,i2, ?_⟩
     ·rintro rfl;rw[Pa] at i2;exact hx i2
     ·simp only;rw[<-g5];congr 1;omega
   ·rw[AD hk,AA trivial,AE (e:=f*sz s.1) (by omega) (by omega),AE (e:=f*sz s.1+at') (by omega) (by omega),AE (by omega) (by omega)]
    rw[AA (by omega)] at g5
    left
    rw[<-g5]
    show some _=some _
    congr 2
    show _=(_,_)
    congr 1;omega
 ·rintro rfl;rw[Pa] at hl;omega
end Go.Proofs.YthmiilamegpllaaGreat
