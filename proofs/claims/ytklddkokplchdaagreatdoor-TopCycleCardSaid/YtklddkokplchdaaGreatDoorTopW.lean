import Derived.Test.YtklddkokplchdaaGreatDoorV3N
import Derived.Recover
import Derived.Tactics
import Derived.Tactics2
import Derived.WalkKit
import Derived.KernelRfl
set_option linter.unusedVariables false
set_option linter.unusedSimpArgs false
set_option maxRecDepth 100000
namespace Go.Proofs.YtklddkokplchdaaGreatDoor
open Go Go.V3
noncomputable section
def D9 (s:ByteArray):Option Bool:=
if (s.size:Int)<1 then
some (false)
else if (s.size:Int)>16 then
some (false)
else if 0<=(0:Int)/\(0:Int)<(s.size:Int) then
if (hN s ((0:Int).toNat))<97 then
some (false)
else if 0<=(0:Int)/\(0:Int)<(s.size:Int) then
if (hN s ((0:Int).toNat))>122 then
some (false)
else AS (σ:=Nat) (β:=Bool) (fun p=>
cond (decide (p<s.size)) (if ((Utf8.decode s p).1:Int)<97 then
if ((Utf8.decode s p).1:Int)<48 then
if ¬((Utf8.decode s p).1:Int)=45 then
some (Sum.inr (false))
else some (Sum.inl (p+(Utf8.decode s p).2))
else if ((Utf8.decode s p).1:Int)>57 then
if ¬((Utf8.decode s p).1:Int)=45 then
some (Sum.inr (false))
else some (Sum.inl (p+(Utf8.decode s p).2))
else some (Sum.inl (p+(Utf8.decode s p).2))
else if ((Utf8.decode s p).1:Int)>122 then
if ((Utf8.decode s p).1:Int)<48 then
if ¬((Utf8.decode s p).1:Int)=45 then
some (Sum.inr (false))
else some (Sum.inl (p+(Utf8.decode s p).2))
else if ((Utf8.decode s p).1:Int)>57 then
if ¬((Utf8.decode s p).1:Int)=45 then
some (Sum.inr (false))
else some (Sum.inl (p+(Utf8.decode s p).2))
else some (Sum.inl (p+(Utf8.decode s p).2))
else some (Sum.inl (p+(Utf8.decode s p).2)))
(some (Sum.inr (true)))) 0
else none
else none
@[reducible] def V6:FnI:=AV [⟨.str,false,false,false⟩] [bM] fun x=>D9 x
def KQ:Cx:=AP [] [] [] [] []
theorem lK:(fun s=>D9 s)=fun s=>rk Tryz.prog KQ (tS (Tryz.f21.body.getD .skip)) Bool 1000000 (fun e fr L=>match e with
 | .normal=>rk Tryz.prog KQ (tS (YB (Tryz.f21.body.getD .skip))) Bool 1000000 (fun e fr _=>match e with
  | .normal=>AB2 Tryz.prog KQ (YB (lpC (AHG (YB (tS (YB (YB (Tryz.f21.body.getD .skip)))))))) (YB (YB (YB (Tryz.f21.body.getD .skip)))) [2,4,24,25,26,27,28,29,30,31,32,33,34,35,36,37,38,39,40,41,42,43,44,45] 0 (fr.set 23 (.str s)) s
  | .ret=>wM fr
  |_=>none) fr L
 |_=>none) (.str s::List.replicate (46-1) AQ) []:=by kernel_rfl
theorem iF:CallsV Tryz.prog bL 21 V6:=
 zX (cx:=KQ) (AN AB.nil AM.nil) (fn:=Tryz.f21) (r0:=(tS (Tryz.f21.body.getD .skip))) (pre:=(tS (YB (Tryz.f21.body.getD .skip)))) (rest:=(YB (lpC (AHG (YB (tS (YB (YB (Tryz.f21.body.getD .skip))))))))) (tail:=(YB (YB (YB (Tryz.f21.body.getD .skip))))) (i3:=3) (i4:=4) (H4:=0) (n:=46) (o1:=ACZ (tS (tS (YB (YB (Tryz.f21.body.getD .skip))))) 0) (o2:=ACZ (tS (tS (YB (YB (Tryz.f21.body.getD .skip))))) 1) (o3:=ACZ (tS (lpC (AHG (YB (tS (YB (YB (Tryz.f21.body.getD .skip)))))))) 0) (o4:=ACZ (tS (lpC (AHG (YB (tS (YB (YB (Tryz.f21.body.getD .skip)))))))) 1) (t:=9) (W:=[2,4,24,25,26,27,28,29,30,31,32,33,34,35,36,37,38,39,40,41,42,43,44,45]) (F:=D9)
  Tryz.func21 (by kernel_rfl) (by kernel_rfl) rfl (by decide) (by kernel_rfl) ⟨by kernel_rfl,by kernel_rfl,by kernel_rfl⟩ ⟨by kernel_rfl,by kernel_rfl,by kernel_rfl⟩ (by kernel_rfl) ⟨by kernel_rfl,by kernel_rfl,by kernel_rfl⟩ ⟨by kernel_rfl,by kernel_rfl,by kernel_rfl⟩ (by kernel_rfl) (by kernel_rfl) (fun s=>congrFun lK s)
def C2 (a0:(BitVec 64)):Option Int:=
if a0=(0#64) then
some (64)
else a9 ((a0 &&& (0#64-a0))*(285870213051353865#64)) (fun (v1:BitVec 64)=>
if True then
if 0<=((v1 >>> (58#64).toNat).toNat:Int)/\((v1 >>> (58#64).toNat).toNat:Int)<((64:Nat):Int) then
if 0+((v1 >>> (58#64).toNat).toNat:Int).toNat<AJZ.size then
a9 (AG (AJ3 AJZ (0+((v1 >>> (58#64).toNat).toNat:Int).toNat))) (fun (v2:Int)=>
some (v2))
else none
else none
else none)
@[reducible] def CZ:FnI:=AV [EO] [A9] fun x=>C2 x
def NV:Cx:={ nm:=[],BN:=[],fns:=nE [],loops:=[],RH:=[],tb:=bL,exts:=[],lets:=[9,13] }
theorem D2:CV 82 CZ:=okW NV [.tmp 2] 14 0 (AN AB.nil AM.nil) Tryz.func82
def KR (a0:(BitVec 64)):Option Int:=
if True then
a9 ((a0 >>> (1#64).toNat) &&& (6148914691236517205#64)) (fun (v1:BitVec 64)=>
a9 (a0 &&& (6148914691236517205#64)) (fun (v2:BitVec 64)=>
if True then
a9 (((v1+v2) >>> (2#64).toNat) &&& (3689348814741910323#64)) (fun (v3:BitVec 64)=>
a9 ((v1+v2) &&& (3689348814741910323#64)) (fun (v4:BitVec 64)=>
if True then
a9 (((v3+v4) >>> (4#64).toNat)+(v3+v4)) (fun (v5:BitVec 64)=>
a9 (v5 &&& (1085102592571150095#64)) (fun (v6:BitVec 64)=>
if True then
if True then
a9 ((v6+(v6 >>> (8#64).toNat)) >>> (16#64).toNat) (fun (v7:BitVec 64)=>
a9 ((v6+(v6 >>> (8#64).toNat))+v7) (fun (v8:BitVec 64)=>
if True then
a9 (AG (((v8+(v8 >>> (32#64).toNat)).toNat:Int))) (fun (v9:Int)=>
some (oQ .and v9 127))
else none))
else none
else none))
else none))
else none))
else none
@[reducible] def JY:FnI:=AV [EO] [A9] fun x=>KR x
def RU:Cx:={ nm:=[],BN:=[],fns:=nE [],loops:=[],RH:=[],tb:=bL,exts:=[],lets:=[5,7,11,13,18,19,26,27,33] }
theorem QM:CV 221 JY:=okW RU [.tmp 2] 35 0 (AN AB.nil AM.nil) Tryz.func221
def gA (a0:Int):Option (QK×Int):=
if a0<0 then
some (([],1))
else if a0>16384 then
some (([],1))
else if 0<=a0/\a0<=a0/\a0*((8:Nat):Int)<=140737488355328 then
some ((List.replicate a0.toNat (0#64:(BitVec 64)),0))
else none
@[reducible] def bR:FnI:=AV [AF] [lJ,A9] fun x=>gA x
def rS:Cx:=AP [(11,(0,1))] [11] [] [] []
theorem nI:CV 25 bR:=okW rS [.tmp 2,.tmp 3] 12 1 (AN AB.nil AM.nil) Tryz.func25
def lL (a0:Int) (a1:Int):Option (AY×Int):=
Option.bind (KO a0) (fun r1=>
if (!r1)=true then
some (((0,[],[]),1))
else if a1<2 then
some (((0,[],[]),1))
else if a1>64 then
some (((0,[],[]),1))
else if True then
Option.bind (gA (AG (a1*2 ^ min (BitVec.ofInt 64 a0).toNat 64))) (fun r2=>
if ¬r2.2=0 then
some (((0,[],[]),r2.2))
else if 0<=a1/\a1<=a1/\a1*((24:Nat):Int)<=140737488355328 then
AS (σ:=(Int×(List B7))) (β:=(AY×Int)) (fun s1=>
if s1.1<((List.replicate a1.toNat ((0,0,0):B7)).length:Int) then
if 0<=s1.1/\s1.1<(s1.2.length:Int) then
some (Sum.inl ((AG (s1.1+1),s1.2.set s1.1.toNat ((-1),(-1),(-1)))))
else none
else some (Sum.inr (((a0,r2.1,s1.2),0)))) ((0,List.replicate a1.toNat ((0,0,0):B7)))
else none)
else none)
@[reducible] def gB:FnI:=AV [AF,AF] [OP,A9] fun x=>lL x.1 x.2
def wW:Cx:=AP [(4,(0,1)),(8,(3,1)),(27,(1,1)),(37,(2,1))] [37] [(24,JC),(25,bR)] [(0,BD [(42,AF)] [] [(2,lH)] (DW [(9,1),(43,8)]) [] 4)] []
theorem rT:CV 13 gB:=okW wW [.cell 4 33,.tmp 5] 52 4 (AN (.cons KP (.cons nI AB.nil)) AM.nil) Tryz.func13
def JD (a0:P2):Option P2:=
if (([]:List BY).length+a0.2.1.length)*32<=140737488355328 then
some ((a0.1,([]:List BY)++a0.2.1,a0.2.2))
else none
@[reducible] def OQ:FnI:=AV [V5] [⟨AB6,true,true,false⟩] fun x=>JD x
def lM:Cx:=AP [(1,(1,1)),(2,(2,1)),(5,(3,1))] [5] [] [] []
theorem UA:CV 14 OQ:=okW lM [.cell 2 26] 8 3 (AN AB.nil AM.nil) Tryz.func14
def NW (a0:QK):Option QK:=
if (([]:List (BitVec 64)).length+a0.length)*8<=140737488355328 then
some (([]:List (BitVec 64))++a0)
else none
@[reducible] def MD:FnI:=AV [AB7] [lJ] fun x=>NW x
def nJ:Cx:=AP [(4,(1,1))] [4] [] [] []
theorem OR:CV 37 MD:=okW nJ [.tmp 2] 5 1 (AN AB.nil AM.nil) Tryz.func37
def D5 (a0:AY):Option AY:=
Option.bind (NW a0.2.1) (fun r1=>
if (([]:List B7).length+a0.2.2.length)*24<=140737488355328 then
some ((a0.1,r1,([]:List B7)++a0.2.2))
else none)
@[reducible] def DK:FnI:=AV [BG] [OP] fun x=>D5 x
def nK:Cx:=AP [(1,(2,1)),(2,(3,1)),(7,(4,1)),(10,(5,1))] [10] [(37,MD)] [] []
theorem DS:CV 28 DK:=okW nK [.cell 2 33] 12 4 (AN (.cons OR AB.nil) AM.nil) Tryz.func28
def IT (a0:HI):Option HI:=
if 0<=(a0.length:Int)/\(a0.length:Int)<=(a0.length:Int)/\(a0.length:Int)*((24:Nat):Int)<=140737488355328 then
AS (σ:=(Int×HI)) (β:=HI) (fun s1=>
if s1.1<(a0.length:Int) then
if 0<=s1.1/\s1.1<(a0.length:Int) then
if (([]:List AA).length+(gl ([]:(List AA)) a0 s1.1.toNat).length)*40<=140737488355328 then
if 0<=s1.1/\s1.1<(s1.2.length:Int) then
some (Sum.inl ((AG (s1.1+1),s1.2.set s1.1.toNat (([]:List AA)++(gl ([]:(List AA)) a0 s1.1.toNat)))))
else none
else none
else none
else some (Sum.inr (s1.2))) ((0,List.replicate (a0.length:Int).toNat ([]:(List AA))))
else none
@[reducible] def JE:FnI:=AV [MV] [ABC] fun x=>IT x
def nL:Cx:=AP [(8,(1,1)),(15,(2,1)),(19,(3,1))] [8,19] [] [(0,BD [(11,AF)] [] [(1,AB5)] (DW [(4,2),(12,10)]) [] 2)] []
theorem KS:CV 29 JE:=okW nL [.tmp 2] 23 3 (AN AB.nil AM.nil) Tryz.func29
def MX (a0:(List A5)):Option (List A5):=
AS (σ:=((List A5)×Int)) (β:=(List A5)) (fun s1=>
if s1.2<(a0.length:Int) then
if 0<=s1.2/\s1.2<(a0.length:Int) then
if (([]:List Int).length+(((gl ((0,0,[]):A5) a0 s1.2.toNat).2).2).length)*8<=140737488355328 then
if (s1.1.length+([((gl ((0,0,[]):A5) a0 s1.2.toNat).1,((gl ((0,0,[]):A5) a0 s1.2.toNat).2).1,([]:List Int)++(((gl ((0,0,[]):A5) a0 s1.2.toNat).2).2))]:List A5).length)*40<=140737488355328 then
some (Sum.inl ((s1.1++([((gl ((0,0,[]):A5) a0 s1.2.toNat).1,((gl ((0,0,[]):A5) a0 s1.2.toNat).2).1,([]:List Int)++(((gl ((0,0,[]):A5) a0 s1.2.toNat).2).2))]:List A5),AG (s1.2+1))))
else none
else none
else none
else some (Sum.inr (s1.1))) (([],0))
@[reducible] def KT:FnI:=AV [NM] [bN] fun x=>MX x
def rU:Cx:=AP [(5,(3,1)),(11,(2,1)),(19,(4,1)),(21,(5,1)),(22,(6,1))] [22] [] [(0,BD [(3,bN),(8,AF)] [] [] (DW [(5,1),(9,15)]) [] 1)] []
theorem ME:CV 30 KT:=okW rU [.tmp 2] 25 6 (AN AB.nil AM.nil) Tryz.func30
def NX (a0:RR):Option RR:=
if (([]:List Bool).length+a0.1.length)*1<=140737488355328 then
Option.bind (NW a0.2) (fun r1=>
some ((([]:List Bool)++a0.1,r1)))
else none
@[reducible] def MF:FnI:=AV [fZ] [ABB] fun x=>NX x
def nM:Cx:=AP [(1,(2,1)),(2,(3,1)),(5,(4,1)),(8,(5,1))] [5] [(37,MD)] [] []
theorem OS:CV 31 MF:=okW nM [.cell 2 38] 10 4 (AN (.cons OR AB.nil) AM.nil) Tryz.func31
def DT (a0:BZ):Option BZ:=
Option.bind (JD a0.1) (fun r1=>
Option.bind (D5 a0.2.1) (fun r2=>
Option.bind (IT a0.2.2.1) (fun r3=>
Option.bind (MX a0.2.2.2.2.1) (fun r4=>
Option.bind (NX a0.2.2.2.2.2.1) (fun r5=>
some ((r1,r2,r3,a0.2.2.2.1,r4,r5,a0.2.2.2.2.2.2)))))))
@[reducible] def DL:FnI:=AV [D8] [AFN] fun x=>DT x
def rV:Cx:=AP [(1,(7,1)),(2,(8,1)),(5,(9,1)),(8,(10,2)),(11,(12,1)),(14,(13,1)),(17,(14,2))] [] [(14,OQ),(28,DK),(29,JE),(30,KT),(31,MF)] [] []
theorem DM:CV 18 DL:=okW rV [.cell 2 42] 24 9 (AN (.cons UA (.cons DS (.cons KS (.cons ME (.cons OS AB.nil))))) AM.nil) Tryz.func18
def KU (a0:Nat):Option Bool:=
if a0<18446744073709551616 then
if (BitVec.ofNat 64 a0)=(0#64) then
some (true)
else if DZ a0 0=some .gt then
some (decide (DZ a0 4607182418800017408=some .lt\/DZ a0 4607182418800017408=some .eq))
else some (false)
else none
@[reducible] def QN:FnI:=AV [wU] [D1] fun x=>KU x
def nN:Cx:={ nm:=[],BN:=[],fns:=nE [],loops:=[],RH:=[],tb:=bL,exts:=[(40,.S3)],lets:=[] }
theorem AK3:AM Tryz.prog 40 .S3:=⟨Tryz.f40,Tryz.func40,by kernel_rfl,by kernel_rfl,by kernel_rfl,by kernel_rfl⟩
theorem V7:CV 33 QN:=okW nN [.tmp 2] 14 0 (AN AB.nil (.cons AK3 AM.nil)) Tryz.func33
def QO (a0:Int):Option Bool:=
if a0≥0 then
some (decide (a0<=64))
else some (false)
@[reducible] def V8:FnI:=AV [AF] [D1] fun x=>QO x
def lN:Cx:=AP [] [] [] [] []
theorem iG:CV 34 V8:=okW lN [.tmp 2] 9 0 (AN AB.nil AM.nil) Tryz.func34
def bS (a0:P2) (a1:Int):Option Int:=
if 0<=a1/\a1<(a0.2.1.length:Int) then
Option.bind (KU ((gl ((0,0,0,0):BY) a0.2.1 a1.toNat).1)) (fun r1=>
if (!r1)=true then
some (6)
else Option.bind (QO (((gl ((0,0,0,0):BY) a0.2.1 a1.toNat).2).1)) (fun r2=>
if (!r2)=true then
some (9)
else Option.bind (QO ((((gl ((0,0,0,0):BY) a0.2.1 a1.toNat).2).2).1)) (fun r3=>
if (!r3)=true then
some (9)
else if a1=(AG ((a0.2.1.length:Int)-1)) then
if ¬(((gl ((0,0,0,0):BY) a0.2.1 a1.toNat).2).1)=0 then
some (9)
else if a1=(AG ((a0.2.1.length:Int)-1)) then
if ¬((((gl ((0,0,0,0):BY) a0.2.1 a1.toNat).2).2).2)=a1 then
some (10)
else if a1<(AG ((a0.2.1.length:Int)-1)) then
if ((((gl ((0,0,0,0):BY) a0.2.1 a1.toNat).2).2).2)<=a1 then
some (10)
else if ((((gl ((0,0,0,0):BY) a0.2.1 a1.toNat).2).2).2)>(AG ((a0.2.1.length:Int)-1)) then
some (10)
else some (0)
else some (0)
else if a1<(AG ((a0.2.1.length:Int)-1)) then
if ((((gl ((0,0,0,0):BY) a0.2.1 a1.toNat).2).2).2)<=a1 then
some (10)
else if ((((gl ((0,0,0,0):BY) a0.2.1 a1.toNat).2).2).2)>(AG ((a0.2.1.length:Int)-1)) then
some (10)
else some (0)
else some (0)
else if a1=(AG ((a0.2.1.length:Int)-1)) then
if ¬((((gl ((0,0,0,0):BY) a0.2.1 a1.toNat).2).2).2)=a1 then
some (10)
else if a1<(AG ((a0.2.1.length:Int)-1)) then
if ((((gl ((0,0,0,0):BY) a0.2.1 a1.toNat).2).2).2)<=a1 then
some (10)
else if ((((gl ((0,0,0,0):BY) a0.2.1 a1.toNat).2).2).2)>(AG ((a0.2.1.length:Int)-1)) then
some (10)
else some (0)
else some (0)
else if a1<(AG ((a0.2.1.length:Int)-1)) then
if ((((gl ((0,0,0,0):BY) a0.2.1 a1.toNat).2).2).2)<=a1 then
some (10)
else if ((((gl ((0,0,0,0):BY) a0.2.1 a1.toNat).2).2).2)>(AG ((a0.2.1.length:Int)-1)) then
some (10)
else some (0)
else some (0))))
else none
@[reducible] def YF:FnI:=AV [V5,AF] [A9] fun x=>bS x.1 x.2
def nO:Cx:=AP [(2,(1,1)),(5,(2,1))] [] [(33,QN),(34,V8)] [] []
theorem lO:CV 22 YF:=okW nO [.tmp 4] 69 2 (AN (.cons V7 (.cons iG AB.nil)) AM.nil) Tryz.func22
def RV (a0:P2) (a1:Int):Option Bool:=
AS (σ:=Int) (β:=Bool) (fun s1=>
if s1<(a0.2.1.length:Int) then
if 0<=s1/\s1<(a0.2.1.length:Int) then
if ¬s1=a1 then
if ((((gl ((0,0,0,0):BY) a0.2.1 s1.toNat).2).2).2)=a1 then
some (Sum.inr (true))
else some (Sum.inl (AG (s1+1)))
else some (Sum.inl (AG (s1+1)))
else none
else some (Sum.inr (false))) (0)
@[reducible] def P4:FnI:=AV [V5,AF] [D1] fun x=>RV x.1 x.2
def bT:Cx:=AP [(2,(1,1)),(6,(2,1))] [] [] [(0,BD [(10,AF)] [] [] (DW [(4,3),(11,14)]) [] 2)] []
theorem ZY:CV 23 P4:=okW bT [.tmp 4] 25 2 (AN AB.nil AM.nil) Tryz.func23
def DN (a0:P2):Option Int:=
Option.bind (D9 a0.1) (fun r1=>
if (!r1)=true then
some (7)
else if (a0.2.1.length:Int)<1 then
some (8)
else if (a0.2.1.length:Int)>4 then
some (8)
else AS (σ:=Int) (β:=Int) (fun s1=>
if s1<(a0.2.1.length:Int) then
Option.bind (bS a0 s1) (fun r2=>
if ¬r2=0 then
some (Sum.inr (r2))
else some (Sum.inl (AG (s1+1))))
else Option.map Sum.inr (AS (σ:=Int) (β:=Int) (fun s2=>
if s2<(a0.2.1.length:Int) then
Option.bind (RV a0 s2) (fun r3=>
if (!r3)=true then
some (Sum.inr (10))
else some (Sum.inl (AG (s2+1))))
else Option.map Sum.inr (if 0<=(AG ((a0.2.1.length:Int)-1))/\(AG ((a0.2.1.length:Int)-1))<(a0.2.1.length:Int) then
if DZ ((gl ((0,0,0,0):BY) a0.2.1 ((AG ((a0.2.1.length:Int)-1)).toNat)).1) 0=some .eq then
if a0.2.2<1 then
some (9)
else if a0.2.2>64 then
if a0.2.2>64 then
some (9)
else some (0)
else if ¬(DZ ((gl ((0,0,0,0):BY) a0.2.1 ((AG ((a0.2.1.length:Int)-1)).toNat)).1) 0=some .eq) then
if ¬a0.2.2=0 then
some (9)
else some (0)
else some (0)
else if ¬(DZ ((gl ((0,0,0,0):BY) a0.2.1 ((AG ((a0.2.1.length:Int)-1)).toNat)).1) 0=some .eq) then
if ¬a0.2.2=0 then
some (9)
else some (0)
else some (0)
else none)) (1))) (0))
@[reducible] def ED:FnI:=AV [V5] [A9] fun x=>DN x
def lP:Cx:=AP [(1,(1,1))] [] [(21,V6),(22,YF),(23,P4)] [(1,BD [(26,AF)] [] [] (DW [(2,3),(27,9)]) [] 2),(3,BD [(5,AF)] [] [] (DW [(2,1),(36,11)]) [] 2)] []
theorem FA:CV 12 ED:=okW lP [.tmp 2] 76 1 (AN (.cons iF (.cons lO (.cons ZY AB.nil))) AM.nil) Tryz.func12
def XO (a0:AY) (a1:Int):Option Bool:=
if a1≥0 then
some (decide (a1<(a0.2.2.length:Int)))
else some (false)
@[reducible] def ZZ:FnI:=AV [BG,AF] [D1] fun x=>XO x.1 x.2
def zY:Cx:=AP [(2,(2,1))] [] [] [] []
theorem gC:CV 171 ZZ:=okW zY [.tmp 4] 14 1 (AN AB.nil AM.nil) Tryz.func171
def MY (a0:AY) (a1:Int):Option Bool:=
if 0<=a1/\a1<(a0.2.2.length:Int) then
some (decide (((gl ((0,0,0):B7) a0.2.2 a1.toNat).1)=(-1)))
else none
@[reducible] def NY:FnI:=AV [BG,AF] [D1] fun x=>MY x.1 x.2
def rW:Cx:=AP [(2,(2,1))] [] [] [] []
theorem QP:CV 172 NY:=okW rW [.tmp 4] 12 1 (AN AB.nil AM.nil) Tryz.func172
def gD (a0:AY) (a1:Int):Option U4:=
Option.bind (CR a0) (fun r1=>
if (!r1)=true then
some (([],1))
else Option.bind (XO a0 a1) (fun r2=>
if (!r2)=true then
some (([],2))
else Option.bind (MY a0 a1) (fun r3=>
if r3=true then
some (([],5))
else AS (σ:=U4) (β:=U4) (fun s1=>
if s1.2≥0 then
if (s1.1.length+([s1.2]:List Int).length)*8<=140737488355328 then
if 0<=s1.2/\s1.2<(a0.2.2.length:Int) then
some (Sum.inl ((s1.1++([s1.2]:List Int),((gl ((0,0,0):B7) a0.2.2 s1.2.toNat).2).2)))
else none
else none
else some (Sum.inr ((s1.1,0)))) (([],a1)))))
@[reducible] def bU:FnI:=AV [BG,AF] [B3,A9] fun x=>gD x.1 x.2
def rX:Cx:=AP [(2,(2,1)),(29,(4,1)),(30,(5,1))] [30] [(78,B_),(171,ZZ),(172,NY)] [(0,BD [(6,B3),(7,AF)] [] [] (DW [(19,12)]) [] 3)] []
theorem nP:CV 124 bU:=okW rX [.tmp 4,.tmp 5] 32 4 (AN (.cons B8 (.cons gC (.cons QP AB.nil))) AM.nil) Tryz.func124
def Z0 (a0:Int) (a1:Int):Option Int:=
if a0<0 then
some (0)
else if a0>1099511627776 then
some (0)
else if a1<0 then
some (0)
else if a1>20 then
some (0)
else if True then
if True then
some ((AG ((AG (a0+(AG ((1:Int)*2 ^ min (BitVec.ofInt 64 a1).toNat 64))))-1)) / 2 ^ min (BitVec.ofInt 64 a1).toNat 64)
else none
else none
@[reducible] def V9:FnI:=AV [AF,AF] [A9] fun x=>Z0 x.1 x.2
def wX:Cx:=AP [] [] [] [] []
theorem bV:CV 83 V9:=okW wX [.tmp 4] 28 0 (AN AB.nil AM.nil) Tryz.func83
def CS (a0:AY) (a1:AA):Option Int:=
Option.bind (Z0 a1.2.2.2.2 a0.1) (fun r1=>
some (r1))
@[reducible] def FK:FnI:=AV [BG,JX] [A9] fun x=>CS x.1 x.2
def nQ:Cx:=AP [(2,(2,1)),(3,(3,1))] [] [(83,V9)] [] []
theorem F6:CV 54 FK:=okW nQ [.tmp 4] 10 2 (AN (.cons bV AB.nil) AM.nil) Tryz.func54
def Z1 (a0:AY) (a1:Int):Option Int:=
AS (σ:=(Int×Int)) (β:=Int) (fun s1=>
if s1.2<(a0.2.2.length:Int) then
if 0<=s1.2/\s1.2<(a0.2.2.length:Int) then
if ((gl ((0,0,0):B7) a0.2.2 s1.2.toNat).1)=a1 then
some (Sum.inl ((AG (s1.1+1),AG (s1.2+1))))
else some (Sum.inl ((s1.1,AG (s1.2+1))))
else none
else some (Sum.inr (s1.1))) ((0,0))
@[reducible] def V_:FnI:=AV [BG,AF] [A9] fun x=>Z1 x.1 x.2
def wY:Cx:=AP [(2,(2,1)),(7,(3,1))] [] [] [(0,BD [(5,AF),(11,AF)] [] [] (DW [(7,1),(12,10)]) [] 3)] []
theorem bW:CV 125 V_:=okW wY [.tmp 4] 23 2 (AN AB.nil AM.nil) Tryz.func125
def GN (a0:AY) (a1:AA):Option Bool:=
Option.bind (CR a0) (fun r1=>
if (!r1)=true then
some (false)
else if a1.1<0 then
some (false)
else if a1.1>4294967295 then
some (false)
else if a1.2.1<0 then
some (false)
else if a1.2.1≥4 then
some (false)
else if a1.2.2.2.2<0 then
some (false)
else if a1.2.2.2.2=0 then
if a1.2.2.1=(-1) then
some (decide (a1.2.2.2.1=(-1)))
else some (false)
else Option.bind (gD a0 a1.2.2.1) (fun r2=>
if ¬r2.2=0 then
some (false)
else if a1.2.2.2.2>(a0.2.1.length:Int) then
some (false)
else if 0<=(AG ((r2.1.length:Int)-1))/\(AG ((r2.1.length:Int)-1))<(r2.1.length:Int) then
if ¬(gl (0:Int) r2.1 ((AG ((r2.1.length:Int)-1)).toNat))=a1.2.2.2.1 then
some (false)
else Option.bind (CS a0 a1) (fun r3=>
if ¬(r2.1.length:Int)=r3 then
some (false)
else Option.bind (Z1 a0 a1.1) (fun r4=>
if ¬(r2.1.length:Int)=r4 then
some (false)
else if 0<=a1.2.2.1/\a1.2.2.1<(a0.2.2.length:Int) then
if ((gl ((0,0,0):B7) a0.2.2 a1.2.2.1.toNat).1)=a1.1 then
some (decide ((((gl ((0,0,0):B7) a0.2.2 a1.2.2.1.toNat).2).1)=(AG ((AG (a1.2.1*4294967296))+a1.1))))
else some (false)
else none))
else none))
@[reducible] def GZ:FnI:=AV [BG,JX] [D1] fun x=>GN x.1 x.2
def rY:Cx:=AP [(2,(2,1)),(3,(3,1)),(7,(5,1)),(51,(4,1))] [] [(54,FK),(78,B_),(124,bU),(125,V_)] [] []
theorem HR:CV 79 GZ:=okW rY [.tmp 4] 114 4 (AN (.cons F6 (.cons B8 (.cons nP (.cons bW AB.nil)))) AM.nil) Tryz.func79
def WA (a0:AY) (a1:HI):Option Bool:=
Option.bind (CR a0) (fun r1=>
if (!r1)=true then
some (false)
else if (a1.length:Int)<1 then
some (false)
else if (a1.length:Int)>4 then
some (false)
else AS (σ:=(Int×(List (Int×Bool)))) (β:=Bool) (fun s1=>
if s1.1<(a1.length:Int) then
if 0<=s1.1/\s1.1<(a1.length:Int) then
AS (σ:=(Int×(List (Int×Bool)))) (β:=((Int×(List (Int×Bool))) ⊕ Bool)) (fun s2=>
if s2.1<((gl ([]:(List AA)) a1 s1.1.toNat).length:Int) then
if 0<=s2.1/\s2.1<((gl ([]:(List AA)) a1 s1.1.toNat).length:Int) then
if ¬(((gl ((0,0,0,0,0):AA) (gl ([]:(List AA)) a1 s1.1.toNat) s2.1.toNat).2).1)=s1.1 then
some (Sum.inr (Sum.inr (false)))
else if (((((gl ((0,0,0,0,0):AA) (gl ([]:(List AA)) a1 s1.1.toNat) s2.1.toNat).2).2).2).2)<1 then
some (Sum.inr (Sum.inr (false)))
else if s2.1>0 then
if 0<=(AG (s2.1-1))/\(AG (s2.1-1))<((gl ([]:(List AA)) a1 s1.1.toNat).length:Int) then
if ((gl ((0,0,0,0,0):AA) (gl ([]:(List AA)) a1 s1.1.toNat) ((AG (s2.1-1)).toNat)).1)≥((gl ((0,0,0,0,0):AA) (gl ([]:(List AA)) a1 s1.1.toNat) s2.1.toNat).1) then
some (Sum.inr (Sum.inr (false)))
else if ((PO s2.2 ((gl ((0,0,0,0,0):AA) (gl ([]:(List AA)) a1 s1.1.toNat) s2.1.toNat).1)).getD false)=true then
some (Sum.inr (Sum.inr (false)))
else Option.bind (GN a0 ((gl ((0,0,0,0,0):AA) (gl ([]:(List AA)) a1 s1.1.toNat) s2.1.toNat).1,((gl ((0,0,0,0,0):AA) (gl ([]:(List AA)) a1 s1.1.toNat) s2.1.toNat).2).1,(((gl ((0,0,0,0,0):AA) (gl ([]:(List AA)) a1 s1.1.toNat) s2.1.toNat).2).2).1,((((gl ((0,0,0,0,0):AA) (gl ([]:(List AA)) a1 s1.1.toNat) s2.1.toNat).2).2).2))) (fun r2=>
if (!r2)=true then
some (Sum.inr (Sum.inr (false)))
else some (Sum.inl ((AG (s2.1+1),hY s2.2 ((gl ((0,0,0,0,0):AA) (gl ([]:(List AA)) a1 s1.1.toNat) s2.1.toNat).1) true))))
else none
else if ((PO s2.2 ((gl ((0,0,0,0,0):AA) (gl ([]:(List AA)) a1 s1.1.toNat) s2.1.toNat).1)).getD false)=true then
some (Sum.inr (Sum.inr (false)))
else Option.bind (GN a0 ((gl ((0,0,0,0,0):AA) (gl ([]:(List AA)) a1 s1.1.toNat) s2.1.toNat).1,((gl ((0,0,0,0,0):AA) (gl ([]:(List AA)) a1 s1.1.toNat) s2.1.toNat).2).1,(((gl ((0,0,0,0,0):AA) (gl ([]:(List AA)) a1 s1.1.toNat) s2.1.toNat).2).2).1,((((gl ((0,0,0,0,0):AA) (gl ([]:(List AA)) a1 s1.1.toNat) s2.1.toNat).2).2).2))) (fun r3=>
if (!r3)=true then
some (Sum.inr (Sum.inr (false)))
else some (Sum.inl ((AG (s2.1+1),hY s2.2 ((gl ((0,0,0,0,0):AA) (gl ([]:(List AA)) a1 s1.1.toNat) s2.1.toNat).1) true))))
else none
else some (Sum.inr (Sum.inl ((AG (s1.1+1),s2.2))))) ((0,s1.2))
else none
else Option.map Sum.inr (AS (σ:=Int) (β:=Bool) (fun s3=>
if s3<(a0.2.2.length:Int) then
if 0<=s3/\s3<(a0.2.2.length:Int) then
if ¬((gl ((0,0,0):B7) a0.2.2 s3.toNat).1)=(-1) then
if (!((PO s1.2 ((gl ((0,0,0):B7) a0.2.2 s3.toNat).1)).getD false))=true then
some (Sum.inr (false))
else some (Sum.inl (AG (s3+1)))
else some (Sum.inl (AG (s3+1)))
else none
else some (Sum.inr (true))) (0))) ((0,([]:List (Int×Bool)))))
@[reducible] def S9:FnI:=AV [BG,MV] [D1] fun x=>WA x.1 x.2
def rZ:Cx:=AP [(2,(3,1)),(9,(6,1)),(11,(7,1)),(25,(4,1)),(32,(5,1))] [] [(78,B_),(79,GZ)] [(0,BD [(28,AF)] [] [(4,.kv)] (DW [(4,1),(6,4),(29,52)]) [] 5),(2,BD [(35,AF)] [] [(4,.kv)] (DW [(4,1),(8,2),(36,44)]) [] 6),(4,BD [(84,AF)] [] [] (DW [(4,1),(11,1),(85,14)]) [] 7)] []
theorem YG:CV 51 S9:=okW rZ [.tmp 4] 99 5 (AN (.cons B8 (.cons HR AB.nil)) AM.nil) Tryz.func51
def bX (a0:HI) (a1:Int):Option Bool:=
if a1≥0 then
some (decide (a1<(a0.length:Int)))
else some (false)
@[reducible] def XP:FnI:=AV [MV,AF] [D1] fun x=>bX x.1 x.2
def AD3:Cx:=AP [] [] [] [] []
theorem Z2:CV 80 XP:=okW AD3 [.tmp 4] 13 0 (AN AB.nil AM.nil) Tryz.func80
def F7 (a0:HI) (a1:Int):Option (AA×Bool):=
Option.bind (bX a0 a1) (fun r1=>
if (!r1)=true then
some (((0,0,0,0,0),false))
else if 0<=a1/\a1<(a0.length:Int) then
if ((gl ([]:(List AA)) a0 a1.toNat).length:Int)=0 then
some (((0,0,0,0,0),false))
else if 0<=a1/\a1<(a0.length:Int) then
if 0<=a1/\a1<(a0.length:Int) then
if 0<=(AG (((gl ([]:(List AA)) a0 a1.toNat).length:Int)-1))/\(AG (((gl ([]:(List AA)) a0 a1.toNat).length:Int)-1))<((gl ([]:(List AA)) a0 a1.toNat).length:Int) then
some ((((gl ((0,0,0,0,0):AA) (gl ([]:(List AA)) a0 a1.toNat) ((AG (((gl ([]:(List AA)) a0 a1.toNat).length:Int)-1)).toNat)).1,((gl ((0,0,0,0,0):AA) (gl ([]:(List AA)) a0 a1.toNat) ((AG (((gl ([]:(List AA)) a0 a1.toNat).length:Int)-1)).toNat)).2).1,(((gl ((0,0,0,0,0):AA) (gl ([]:(List AA)) a0 a1.toNat) ((AG (((gl ([]:(List AA)) a0 a1.toNat).length:Int)-1)).toNat)).2).2).1,((((gl ((0,0,0,0,0):AA) (gl ([]:(List AA)) a0 a1.toNat) ((AG (((gl ([]:(List AA)) a0 a1.toNat).length:Int)-1)).toNat)).2).2).2)),true))
else none
else none
else none
else none)
@[reducible] def HJ:FnI:=AV [MV,AF] [pY,D1] fun x=>F7 x.1 x.2
def iH:Cx:=AP [(4,(1,1)),(14,(2,1)),(22,(3,1)),(26,(4,1))] [] [(80,XP)] [] []
theorem IU:CV 52 HJ:=okW iH [.cell 4 104,.tmp 5] 31 4 (AN (.cons Z2 AB.nil) AM.nil) Tryz.func52
def S_ (a0:AY):Option (BitVec 64):=
AS (σ:=X3) (β:=(BitVec 64)) (fun s1=>
if s1.2<(a0.2.2.length:Int) then
if 0<=s1.2/\s1.2<(a0.2.2.length:Int) then
if ((gl ((0,0,0):B7) a0.2.2 s1.2.toNat).1)=(-1) then
if s1.2<64 then
if True then
some (Sum.inl ((s1.1|||((1#64) <<< (BitVec.ofInt 64 s1.2).toNat),AG (s1.2+1))))
else none
else some (Sum.inl ((s1.1,AG (s1.2+1))))
else some (Sum.inl ((s1.1,AG (s1.2+1))))
else none
else some (Sum.inr (s1.1))) ((0#64,0))
@[reducible] def P5:FnI:=AV [BG] [FV] fun x=>S_ x
def wZ:Cx:=AP [(1,(2,1)),(5,(3,1))] [] [] [(0,BD [(3,EO),(9,AF)] [] [] (DW [(4,2),(10,17)]) [] 3)] []
theorem TA:CV 81 P5:=okW wZ [.tmp 2] 28 2 (AN AB.nil AM.nil) Tryz.func81
def FL (a0:AY):Option (List Int):=
Option.bind (S_ a0) (fun r1=>
AS (σ:=((List Int)×(BitVec 64))) (β:=(List Int)) (fun s1=>
if ¬s1.2=(0#64) then
Option.bind (C2 s1.2) (fun r2=>
if (s1.1.length+([r2]:List Int).length)*8<=140737488355328 then
some (Sum.inl ((s1.1++([r2]:List Int),s1.2 &&& (s1.2-(1#64)))))
else none)
else some (Sum.inr (s1.1))) (([],r1)))
@[reducible] def P6:FnI:=AV [BG] [B3] fun x=>FL x
def w4:Cx:=AP [(1,(2,1)),(16,(4,1)),(17,(5,1))] [17] [(81,P5),(82,CZ)] [(0,BD [(3,B3),(4,EO)] [] [] (DW [(7,11)]) [] 3)] []
theorem TC:CV 53 P6:=okW w4 [.tmp 2] 19 4 (AN (.cons TA (.cons D2 AB.nil)) AM.nil) Tryz.func53
def YH (a0:P2) (a1:AY) (a2:HI) (a3:wP):Option T9:=
Option.bind (DN a0) (fun r1=>
if ¬r1=0 then
some (([],(0,false,0),false,1))
else Option.bind (WA a1 a2) (fun r2=>
if (!r2)=true then
some (([],(0,false,0),false,1))
else if ¬(a2.length:Int)=(a0.2.1.length:Int) then
some (([],(0,false,0),false,1))
else if a3.1<0 then
some (([],(0,false,0),false,1))
else if a3.1>(AG ((a2.length:Int)-1)) then
some (([],(0,false,0),false,1))
else AS (σ:=wP) (β:=T9) (fun s1=>
if s1.1<(AG ((a2.length:Int)-1)) then
if 0<=s1.1/\s1.1<(a2.length:Int) then
if ((gl ([]:(List AA)) a2 s1.1.toNat).length:Int)=0 then
some (Sum.inl ((AG (s1.1+1),false,0)))
else Option.map Sum.inr (Option.bind (α:=wP ⊕ T9) (if s1.1=(AG ((a2.length:Int)-1)) then
if (!s1.2.1)=true then
Option.bind (F7 a2 (AG ((a2.length:Int)-1))) (fun r3=>
if r3.2=true then
some (Sum.inl ((s1.1,true,r3.1.1)))
else some (Sum.inl ((s1.1,true,(-1)))))
else some (Sum.inl (s1))
else some (Sum.inl (s1))) (fun q=>match q with
|Sum.inl j1=>(if 0<=j1.1/\j1.1<(a2.length:Int) then
AS (σ:=(List AA)) (β:=T9) (fun s2=>
if j1.1=(AG ((a2.length:Int)-1)) then
if (s2.length:Int)>0 then
if 0<=(AG ((s2.length:Int)-1))/\(AG ((s2.length:Int)-1))<(s2.length:Int) then
if ((gl ((0,0,0,0,0):AA) s2 ((AG ((s2.length:Int)-1)).toNat)).1)>j1.2.2 then
if Bd none (some (AG ((s2.length:Int)-1))) ((AG ((s2.length:Int)-1)).toNat) s2.length then
some (Sum.inl (DQ s2 0 (((AG ((s2.length:Int)-1)).toNat)-0)))
else none
else Option.map Sum.inr (if (s2.length:Int)=0 then
some (([],j1,true,0))
else Option.bind (FL a1) (fun r4=>
AS (σ:=((List AA)×Int×Int)) (β:=T9) (fun s3=>
if s3.2.2<(s2.length:Int) then
if 0<=s3.2.2/\s3.2.2<(s2.length:Int) then
Option.bind (CS a1 ((gl ((0,0,0,0,0):AA) s2 s3.2.2.toNat).1,((gl ((0,0,0,0,0):AA) s2 s3.2.2.toNat).2).1,(((gl ((0,0,0,0,0):AA) s2 s3.2.2.toNat).2).2).1,((((gl ((0,0,0,0,0):AA) s2 s3.2.2.toNat).2).2).2))) (fun r5=>
if 0<=j1.1/\j1.1<(a0.2.1.length:Int) then
if (AG (s3.2.1-r5))<0 then
some (Sum.inr ((s3.1,j1,false,0)))
else if ((((gl ((0,0,0,0):BY) a0.2.1 j1.1.toNat).2).2).1)>0 then
if (s3.1.length:Int)≥((((gl ((0,0,0,0):BY) a0.2.1 j1.1.toNat).2).2).1) then
some (Sum.inr ((s3.1,j1,false,0)))
else if (s3.1.length+([((gl ((0,0,0,0,0):AA) s2 s3.2.2.toNat).1,((gl ((0,0,0,0,0):AA) s2 s3.2.2.toNat).2).1,(((gl ((0,0,0,0,0):AA) s2 s3.2.2.toNat).2).2).1,((((gl ((0,0,0,0,0):AA) s2 s3.2.2.toNat).2).2).2))]:List AA).length)*40<=140737488355328 then
some (Sum.inl ((s3.1++([((gl ((0,0,0,0,0):AA) s2 s3.2.2.toNat).1,((gl ((0,0,0,0,0):AA) s2 s3.2.2.toNat).2).1,(((gl ((0,0,0,0,0):AA) s2 s3.2.2.toNat).2).2).1,((((gl ((0,0,0,0,0):AA) s2 s3.2.2.toNat).2).2).2))]:List AA),AG (s3.2.1-r5),AG (s3.2.2+1))))
else none
else if (s3.1.length+([((gl ((0,0,0,0,0):AA) s2 s3.2.2.toNat).1,((gl ((0,0,0,0,0):AA) s2 s3.2.2.toNat).2).1,(((gl ((0,0,0,0,0):AA) s2 s3.2.2.toNat).2).2).1,((((gl ((0,0,0,0,0):AA) s2 s3.2.2.toNat).2).2).2))]:List AA).length)*40<=140737488355328 then
some (Sum.inl ((s3.1++([((gl ((0,0,0,0,0):AA) s2 s3.2.2.toNat).1,((gl ((0,0,0,0,0):AA) s2 s3.2.2.toNat).2).1,(((gl ((0,0,0,0,0):AA) s2 s3.2.2.toNat).2).2).1,((((gl ((0,0,0,0,0):AA) s2 s3.2.2.toNat).2).2).2))]:List AA),AG (s3.2.1-r5),AG (s3.2.2+1))))
else none
else none)
else none
else some (Sum.inr ((s3.1,j1,false,0)))) (([],(r4.length:Int),0))))
else none
else Option.map Sum.inr (if (s2.length:Int)=0 then
some (([],j1,true,0))
else Option.bind (FL a1) (fun r6=>
AS (σ:=((List AA)×Int×Int)) (β:=T9) (fun s4=>
if s4.2.2<(s2.length:Int) then
if 0<=s4.2.2/\s4.2.2<(s2.length:Int) then
Option.bind (CS a1 ((gl ((0,0,0,0,0):AA) s2 s4.2.2.toNat).1,((gl ((0,0,0,0,0):AA) s2 s4.2.2.toNat).2).1,(((gl ((0,0,0,0,0):AA) s2 s4.2.2.toNat).2).2).1,((((gl ((0,0,0,0,0):AA) s2 s4.2.2.toNat).2).2).2))) (fun r7=>
if 0<=j1.1/\j1.1<(a0.2.1.length:Int) then
if (AG (s4.2.1-r7))<0 then
some (Sum.inr ((s4.1,j1,false,0)))
else if ((((gl ((0,0,0,0):BY) a0.2.1 j1.1.toNat).2).2).1)>0 then
if (s4.1.length:Int)≥((((gl ((0,0,0,0):BY) a0.2.1 j1.1.toNat).2).2).1) then
some (Sum.inr ((s4.1,j1,false,0)))
else if (s4.1.length+([((gl ((0,0,0,0,0):AA) s2 s4.2.2.toNat).1,((gl ((0,0,0,0,0):AA) s2 s4.2.2.toNat).2).1,(((gl ((0,0,0,0,0):AA) s2 s4.2.2.toNat).2).2).1,((((gl ((0,0,0,0,0):AA) s2 s4.2.2.toNat).2).2).2))]:List AA).length)*40<=140737488355328 then
some (Sum.inl ((s4.1++([((gl ((0,0,0,0,0):AA) s2 s4.2.2.toNat).1,((gl ((0,0,0,0,0):AA) s2 s4.2.2.toNat).2).1,(((gl ((0,0,0,0,0):AA) s2 s4.2.2.toNat).2).2).1,((((gl ((0,0,0,0,0):AA) s2 s4.2.2.toNat).2).2).2))]:List AA),AG (s4.2.1-r7),AG (s4.2.2+1))))
else none
else if (s4.1.length+([((gl ((0,0,0,0,0):AA) s2 s4.2.2.toNat).1,((gl ((0,0,0,0,0):AA) s2 s4.2.2.toNat).2).1,(((gl ((0,0,0,0,0):AA) s2 s4.2.2.toNat).2).2).1,((((gl ((0,0,0,0,0):AA) s2 s4.2.2.toNat).2).2).2))]:List AA).length)*40<=140737488355328 then
some (Sum.inl ((s4.1++([((gl ((0,0,0,0,0):AA) s2 s4.2.2.toNat).1,((gl ((0,0,0,0,0):AA) s2 s4.2.2.toNat).2).1,(((gl ((0,0,0,0,0):AA) s2 s4.2.2.toNat).2).2).1,((((gl ((0,0,0,0,0):AA) s2 s4.2.2.toNat).2).2).2))]:List AA),AG (s4.2.1-r7),AG (s4.2.2+1))))
else none
else none)
else none
else some (Sum.inr ((s4.1,j1,false,0)))) (([],(r6.length:Int),0))))
else Option.map Sum.inr (if (s2.length:Int)=0 then
some (([],j1,true,0))
else Option.bind (FL a1) (fun r8=>
AS (σ:=((List AA)×Int×Int)) (β:=T9) (fun s5=>
if s5.2.2<(s2.length:Int) then
if 0<=s5.2.2/\s5.2.2<(s2.length:Int) then
Option.bind (CS a1 ((gl ((0,0,0,0,0):AA) s2 s5.2.2.toNat).1,((gl ((0,0,0,0,0):AA) s2 s5.2.2.toNat).2).1,(((gl ((0,0,0,0,0):AA) s2 s5.2.2.toNat).2).2).1,((((gl ((0,0,0,0,0):AA) s2 s5.2.2.toNat).2).2).2))) (fun r9=>
if 0<=j1.1/\j1.1<(a0.2.1.length:Int) then
if (AG (s5.2.1-r9))<0 then
some (Sum.inr ((s5.1,j1,false,0)))
else if ((((gl ((0,0,0,0):BY) a0.2.1 j1.1.toNat).2).2).1)>0 then
if (s5.1.length:Int)≥((((gl ((0,0,0,0):BY) a0.2.1 j1.1.toNat).2).2).1) then
some (Sum.inr ((s5.1,j1,false,0)))
else if (s5.1.length+([((gl ((0,0,0,0,0):AA) s2 s5.2.2.toNat).1,((gl ((0,0,0,0,0):AA) s2 s5.2.2.toNat).2).1,(((gl ((0,0,0,0,0):AA) s2 s5.2.2.toNat).2).2).1,((((gl ((0,0,0,0,0):AA) s2 s5.2.2.toNat).2).2).2))]:List AA).length)*40<=140737488355328 then
some (Sum.inl ((s5.1++([((gl ((0,0,0,0,0):AA) s2 s5.2.2.toNat).1,((gl ((0,0,0,0,0):AA) s2 s5.2.2.toNat).2).1,(((gl ((0,0,0,0,0):AA) s2 s5.2.2.toNat).2).2).1,((((gl ((0,0,0,0,0):AA) s2 s5.2.2.toNat).2).2).2))]:List AA),AG (s5.2.1-r9),AG (s5.2.2+1))))
else none
else if (s5.1.length+([((gl ((0,0,0,0,0):AA) s2 s5.2.2.toNat).1,((gl ((0,0,0,0,0):AA) s2 s5.2.2.toNat).2).1,(((gl ((0,0,0,0,0):AA) s2 s5.2.2.toNat).2).2).1,((((gl ((0,0,0,0,0):AA) s2 s5.2.2.toNat).2).2).2))]:List AA).length)*40<=140737488355328 then
some (Sum.inl ((s5.1++([((gl ((0,0,0,0,0):AA) s2 s5.2.2.toNat).1,((gl ((0,0,0,0,0):AA) s2 s5.2.2.toNat).2).1,(((gl ((0,0,0,0,0):AA) s2 s5.2.2.toNat).2).2).1,((((gl ((0,0,0,0,0):AA) s2 s5.2.2.toNat).2).2).2))]:List AA),AG (s5.2.1-r9),AG (s5.2.2+1))))
else none
else none)
else none
else some (Sum.inr ((s5.1,j1,false,0)))) (([],(r8.length:Int),0))))) (gl ([]:(List AA)) a2 j1.1.toNat)
else none)
|Sum.inr b1=>some b1))
else none
else Option.map Sum.inr (Option.bind (α:=wP ⊕ T9) (if s1.1=(AG ((a2.length:Int)-1)) then
if (!s1.2.1)=true then
Option.bind (F7 a2 (AG ((a2.length:Int)-1))) (fun bY=>
if bY.2=true then
some (Sum.inl ((s1.1,true,bY.1.1)))
else some (Sum.inl ((s1.1,true,(-1)))))
else some (Sum.inl (s1))
else some (Sum.inl (s1))) (fun q=>match q with
|Sum.inl j2=>(if 0<=j2.1/\j2.1<(a2.length:Int) then
AS (σ:=(List AA)) (β:=T9) (fun s6=>
if j2.1=(AG ((a2.length:Int)-1)) then
if (s6.length:Int)>0 then
if 0<=(AG ((s6.length:Int)-1))/\(AG ((s6.length:Int)-1))<(s6.length:Int) then
if ((gl ((0,0,0,0,0):AA) s6 ((AG ((s6.length:Int)-1)).toNat)).1)>j2.2.2 then
if Bd none (some (AG ((s6.length:Int)-1))) ((AG ((s6.length:Int)-1)).toNat) s6.length then
some (Sum.inl (DQ s6 0 (((AG ((s6.length:Int)-1)).toNat)-0)))
else none
else Option.map Sum.inr (if (s6.length:Int)=0 then
some (([],j2,true,0))
else Option.bind (FL a1) (fun mX=>
AS (σ:=((List AA)×Int×Int)) (β:=T9) (fun s7=>
if s7.2.2<(s6.length:Int) then
if 0<=s7.2.2/\s7.2.2<(s6.length:Int) then
Option.bind (CS a1 ((gl ((0,0,0,0,0):AA) s6 s7.2.2.toNat).1,((gl ((0,0,0,0,0):AA) s6 s7.2.2.toNat).2).1,(((gl ((0,0,0,0,0):AA) s6 s7.2.2.toNat).2).2).1,((((gl ((0,0,0,0,0):AA) s6 s7.2.2.toNat).2).2).2))) (fun r12=>
if 0<=j2.1/\j2.1<(a0.2.1.length:Int) then
if (AG (s7.2.1-r12))<0 then
some (Sum.inr ((s7.1,j2,false,0)))
else if ((((gl ((0,0,0,0):BY) a0.2.1 j2.1.toNat).2).2).1)>0 then
if (s7.1.length:Int)≥((((gl ((0,0,0,0):BY) a0.2.1 j2.1.toNat).2).2).1) then
some (Sum.inr ((s7.1,j2,false,0)))
else if (s7.1.length+([((gl ((0,0,0,0,0):AA) s6 s7.2.2.toNat).1,((gl ((0,0,0,0,0):AA) s6 s7.2.2.toNat).2).1,(((gl ((0,0,0,0,0):AA) s6 s7.2.2.toNat).2).2).1,((((gl ((0,0,0,0,0):AA) s6 s7.2.2.toNat).2).2).2))]:List AA).length)*40<=140737488355328 then
some (Sum.inl ((s7.1++([((gl ((0,0,0,0,0):AA) s6 s7.2.2.toNat).1,((gl ((0,0,0,0,0):AA) s6 s7.2.2.toNat).2).1,(((gl ((0,0,0,0,0):AA) s6 s7.2.2.toNat).2).2).1,((((gl ((0,0,0,0,0):AA) s6 s7.2.2.toNat).2).2).2))]:List AA),AG (s7.2.1-r12),AG (s7.2.2+1))))
else none
else if (s7.1.length+([((gl ((0,0,0,0,0):AA) s6 s7.2.2.toNat).1,((gl ((0,0,0,0,0):AA) s6 s7.2.2.toNat).2).1,(((gl ((0,0,0,0,0):AA) s6 s7.2.2.toNat).2).2).1,((((gl ((0,0,0,0,0):AA) s6 s7.2.2.toNat).2).2).2))]:List AA).length)*40<=140737488355328 then
some (Sum.inl ((s7.1++([((gl ((0,0,0,0,0):AA) s6 s7.2.2.toNat).1,((gl ((0,0,0,0,0):AA) s6 s7.2.2.toNat).2).1,(((gl ((0,0,0,0,0):AA) s6 s7.2.2.toNat).2).2).1,((((gl ((0,0,0,0,0):AA) s6 s7.2.2.toNat).2).2).2))]:List AA),AG (s7.2.1-r12),AG (s7.2.2+1))))
else none
else none)
else none
else some (Sum.inr ((s7.1,j2,false,0)))) (([],(mX.length:Int),0))))
else none
else Option.map Sum.inr (if (s6.length:Int)=0 then
some (([],j2,true,0))
else Option.bind (FL a1) (fun r13=>
AS (σ:=((List AA)×Int×Int)) (β:=T9) (fun s8=>
if s8.2.2<(s6.length:Int) then
if 0<=s8.2.2/\s8.2.2<(s6.length:Int) then
Option.bind (CS a1 ((gl ((0,0,0,0,0):AA) s6 s8.2.2.toNat).1,((gl ((0,0,0,0,0):AA) s6 s8.2.2.toNat).2).1,(((gl ((0,0,0,0,0):AA) s6 s8.2.2.toNat).2).2).1,((((gl ((0,0,0,0,0):AA) s6 s8.2.2.toNat).2).2).2))) (fun r14=>
if 0<=j2.1/\j2.1<(a0.2.1.length:Int) then
if (AG (s8.2.1-r14))<0 then
some (Sum.inr ((s8.1,j2,false,0)))
else if ((((gl ((0,0,0,0):BY) a0.2.1 j2.1.toNat).2).2).1)>0 then
if (s8.1.length:Int)≥((((gl ((0,0,0,0):BY) a0.2.1 j2.1.toNat).2).2).1) then
some (Sum.inr ((s8.1,j2,false,0)))
else if (s8.1.length+([((gl ((0,0,0,0,0):AA) s6 s8.2.2.toNat).1,((gl ((0,0,0,0,0):AA) s6 s8.2.2.toNat).2).1,(((gl ((0,0,0,0,0):AA) s6 s8.2.2.toNat).2).2).1,((((gl ((0,0,0,0,0):AA) s6 s8.2.2.toNat).2).2).2))]:List AA).length)*40<=140737488355328 then
some (Sum.inl ((s8.1++([((gl ((0,0,0,0,0):AA) s6 s8.2.2.toNat).1,((gl ((0,0,0,0,0):AA) s6 s8.2.2.toNat).2).1,(((gl ((0,0,0,0,0):AA) s6 s8.2.2.toNat).2).2).1,((((gl ((0,0,0,0,0):AA) s6 s8.2.2.toNat).2).2).2))]:List AA),AG (s8.2.1-r14),AG (s8.2.2+1))))
else none
else if (s8.1.length+([((gl ((0,0,0,0,0):AA) s6 s8.2.2.toNat).1,((gl ((0,0,0,0,0):AA) s6 s8.2.2.toNat).2).1,(((gl ((0,0,0,0,0):AA) s6 s8.2.2.toNat).2).2).1,((((gl ((0,0,0,0,0):AA) s6 s8.2.2.toNat).2).2).2))]:List AA).length)*40<=140737488355328 then
some (Sum.inl ((s8.1++([((gl ((0,0,0,0,0):AA) s6 s8.2.2.toNat).1,((gl ((0,0,0,0,0):AA) s6 s8.2.2.toNat).2).1,(((gl ((0,0,0,0,0):AA) s6 s8.2.2.toNat).2).2).1,((((gl ((0,0,0,0,0):AA) s6 s8.2.2.toNat).2).2).2))]:List AA),AG (s8.2.1-r14),AG (s8.2.2+1))))
else none
else none)
else none
else some (Sum.inr ((s8.1,j2,false,0)))) (([],(r13.length:Int),0))))
else Option.map Sum.inr (if (s6.length:Int)=0 then
some (([],j2,true,0))
else Option.bind (FL a1) (fun r15=>
AS (σ:=((List AA)×Int×Int)) (β:=T9) (fun s9=>
if s9.2.2<(s6.length:Int) then
if 0<=s9.2.2/\s9.2.2<(s6.length:Int) then
Option.bind (CS a1 ((gl ((0,0,0,0,0):AA) s6 s9.2.2.toNat).1,((gl ((0,0,0,0,0):AA) s6 s9.2.2.toNat).2).1,(((gl ((0,0,0,0,0):AA) s6 s9.2.2.toNat).2).2).1,((((gl ((0,0,0,0,0):AA) s6 s9.2.2.toNat).2).2).2))) (fun r16=>
if 0<=j2.1/\j2.1<(a0.2.1.length:Int) then
if (AG (s9.2.1-r16))<0 then
some (Sum.inr ((s9.1,j2,false,0)))
else if ((((gl ((0,0,0,0):BY) a0.2.1 j2.1.toNat).2).2).1)>0 then
if (s9.1.length:Int)≥((((gl ((0,0,0,0):BY) a0.2.1 j2.1.toNat).2).2).1) then
some (Sum.inr ((s9.1,j2,false,0)))
else if (s9.1.length+([((gl ((0,0,0,0,0):AA) s6 s9.2.2.toNat).1,((gl ((0,0,0,0,0):AA) s6 s9.2.2.toNat).2).1,(((gl ((0,0,0,0,0):AA) s6 s9.2.2.toNat).2).2).1,((((gl ((0,0,0,0,0):AA) s6 s9.2.2.toNat).2).2).2))]:List AA).length)*40<=140737488355328 then
some (Sum.inl ((s9.1++([((gl ((0,0,0,0,0):AA) s6 s9.2.2.toNat).1,((gl ((0,0,0,0,0):AA) s6 s9.2.2.toNat).2).1,(((gl ((0,0,0,0,0):AA) s6 s9.2.2.toNat).2).2).1,((((gl ((0,0,0,0,0):AA) s6 s9.2.2.toNat).2).2).2))]:List AA),AG (s9.2.1-r16),AG (s9.2.2+1))))
else none
else if (s9.1.length+([((gl ((0,0,0,0,0):AA) s6 s9.2.2.toNat).1,((gl ((0,0,0,0,0):AA) s6 s9.2.2.toNat).2).1,(((gl ((0,0,0,0,0):AA) s6 s9.2.2.toNat).2).2).1,((((gl ((0,0,0,0,0):AA) s6 s9.2.2.toNat).2).2).2))]:List AA).length)*40<=140737488355328 then
some (Sum.inl ((s9.1++([((gl ((0,0,0,0,0):AA) s6 s9.2.2.toNat).1,((gl ((0,0,0,0,0):AA) s6 s9.2.2.toNat).2).1,(((gl ((0,0,0,0,0):AA) s6 s9.2.2.toNat).2).2).1,((((gl ((0,0,0,0,0):AA) s6 s9.2.2.toNat).2).2).2))]:List AA),AG (s9.2.1-r16),AG (s9.2.2+1))))
else none
else none)
else none
else some (Sum.inr ((s9.1,j2,false,0)))) (([],(r15.length:Int),0))))) (gl ([]:(List AA)) a2 j2.1.toNat)
else none)
|Sum.inr b2=>some b2))) (a3)))
@[reducible] def WB:FnI:=AV [V5,BG,MV,AFO] [ABA,⟨wT,true,true,false⟩,D1,A9] fun x=>YH x.1 x.2.1 x.2.2.1 x.2.2.2
def lQ:Cx:=AP [(4,(4,1)),(5,(5,1)),(7,(6,1)),(9,(7,1)),(13,(9,1)),(19,(15,1)),(62,(8,1)),(95,(10,1)),(121,(12,1)),(127,(13,1)),(161,(16,1)),(162,(17,1))] [162] [(12,ED),(51,S9),(52,HJ),(53,P6),(54,FK)] [(0,BD [] [(6,AFO)] [] (DW [(53,17)]) [] 8),(2,BD [(15,V4)] [] [] (DW [(96,26)]) [] 11),(4,BD [(16,ABA),(17,AF),(131,AF)] [] [] (DW [(19,2),(132,32)]) [] 14)] [(11,BD [] [(6,AFO)] [] (DW [(13,2),(70,21)]) [] 10)]
theorem iI:CV 38 WB:=okW lQ [.tmp 8,.cell 9 98,.tmp 10,.tmp 11] 166 14 (AN (.cons FA (.cons YG (.cons IU (.cons TC (.cons F6 AB.nil))))) AM.nil) Tryz.func38
def WC (a0:HI) (a1:Int):Option (Int×Int):=
AS (σ:=Int) (β:=(Int×Int)) (fun s1=>
if s1<(a0.length:Int) then
if 0<=s1/\s1<(a0.length:Int) then
AS (σ:=Int) (β:=(Int ⊕ (Int×Int))) (fun s2=>
if s2<((gl ([]:(List AA)) a0 s1.toNat).length:Int) then
if 0<=s2/\s2<((gl ([]:(List AA)) a0 s1.toNat).length:Int) then
if ((gl ((0,0,0,0,0):AA) (gl ([]:(List AA)) a0 s1.toNat) s2.toNat).1)=a1 then
some (Sum.inr (Sum.inr ((s1,s2))))
else some (Sum.inl (AG (s2+1)))
else none
else some (Sum.inr (Sum.inl (AG (s1+1))))) (0)
else none
else some (Sum.inr (((-1),(-1))))) (0)
@[reducible] def TD:FnI:=AV [MV,AF] [A9,A9] fun x=>WC x.1 x.2
def r_:Cx:=AP [(9,(2,1)),(16,(1,1))] [] [] [(0,BD [(12,AF)] [] [] (DW [(4,6),(13,19)]) [] 1),(2,BD [(19,AF)] [] [] (DW [(4,2),(8,2),(20,11)]) [] 2)] []
theorem YI:CV 105 TD:=okW r_ [.tmp 4,.tmp 5] 32 2 (AN AB.nil AM.nil) Tryz.func105
def Z3 (a0:HI) (a1:Int):Option (AA×Bool):=
Option.bind (WC a0 a1) (fun r1=>
if r1.1<0 then
some (((0,0,0,0,0),false))
else if 0<=r1.1/\r1.1<(a0.length:Int) then
if 0<=r1.2/\r1.2<((gl ([]:(List AA)) a0 r1.1.toNat).length:Int) then
some ((((gl ((0,0,0,0,0):AA) (gl ([]:(List AA)) a0 r1.1.toNat) r1.2.toNat).1,((gl ((0,0,0,0,0):AA) (gl ([]:(List AA)) a0 r1.1.toNat) r1.2.toNat).2).1,(((gl ((0,0,0,0,0):AA) (gl ([]:(List AA)) a0 r1.1.toNat) r1.2.toNat).2).2).1,((((gl ((0,0,0,0,0):AA) (gl ([]:(List AA)) a0 r1.1.toNat) r1.2.toNat).2).2).2)),true))
else none
else none)
@[reducible] def WD:FnI:=AV [MV,AF] [pY,D1] fun x=>Z3 x.1 x.2
def w5:Cx:=AP [(4,(1,1)),(20,(2,1))] [] [(105,TD)] [] []
theorem bZ:CV 84 WD:=okW w5 [.cell 4 104,.tmp 5] 24 2 (AN (.cons YI AB.nil) AM.nil) Tryz.func84
def Z4 (a0:HI):Option (List AA):=
AS (σ:=((List AA)×Int)) (β:=(List AA)) (fun s1=>
if s1.2<(a0.length:Int) then
if 0<=s1.2/\s1.2<(a0.length:Int) then
if (s1.1.length+(gl ([]:(List AA)) a0 s1.2.toNat).length)*40<=140737488355328 then
some (Sum.inl ((s1.1++(gl ([]:(List AA)) a0 s1.2.toNat),AG (s1.2+1))))
else none
else none
else some (Sum.inr (s1.1))) (([],0))
@[reducible] def WE:FnI:=AV [MV] [ABA] fun x=>Z4 x
def w7:Cx:=AP [(11,(2,1)),(14,(3,1))] [14] [] [(0,BD [(3,ABA),(8,AF)] [] [] (DW [(5,1),(9,7)]) [] 1)] []
theorem b6:CV 126 WE:=okW w7 [.tmp 2] 17 3 (AN AB.nil AM.nil) Tryz.func126
def LG (a0:(List Int)):Option (List Int):=
if 0<a0.length then
if (([]:List Int).length+a0.length)*8<=140737488355328 then
some (([]:List Int)++a0)
else none
else none
@[reducible] def KV:FnI:=AV [YD] [B3] fun x=>LG x
def TE:Cx:=AP [(5,(1,1)),(7,(2,1))] [5,7] [] [] []
theorem RW:CV 127 KV:=okW TE [.tmp 2] 8 2 (AN AB.nil AM.nil) Tryz.func127
def OT (a0:Int) (a1:Int):Option Int:=
if a0<a1 then
some ((-1))
else if a0>a1 then
some (1)
else some (0)
@[reducible] def M9:FnI:=AV [AF,AF] [A9] fun x=>OT x.1 x.2
def iJ:Cx:=AP [] [] [] [] []
theorem RX:CV 130 M9:=okW iJ [.tmp 4] 13 0 (AN AB.nil AM.nil) Tryz.func130
def UB (a0:Int) (a1:Int):Option Int:=
Option.bind (OT a0 a1) (fun r1=>
some (r1))
@[reducible] def RY:FnI:=AV [AF,AF] [A9] fun x=>UB x.1 x.2
def eM:Cx:=AP [] [] [(130,M9)] [] []
theorem b7:CV 129 RY:=okW eM [.tmp 4] 8 0 (AN (.cons RX AB.nil) AM.nil) Tryz.func129
def UC (a0:Int) (a1:Int):Option Int:=
Option.bind (OT a0 a1) (fun r1=>
some (r1))
@[reducible] def RZ:FnI:=AV [AF,AF] [A9] fun x=>UC x.1 x.2
def eN:Cx:=AP [] [] [(130,M9)] [] []
theorem b8:CV 131 RZ:=okW eN [.tmp 4] 8 0 (AN (.cons RX AB.nil) AM.nil) Tryz.func131
def LH (a0:(List Int)) (a1:(List Int)):Option Bool:=
if ¬(a0.length:Int)=(a1.length:Int) then
some (false)
else AS (σ:=Int) (β:=Bool) (fun s1=>
if s1<(a0.length:Int) then
if 0<=s1/\s1<(a0.length:Int) then
if 0<=s1/\s1<(a1.length:Int) then
if ¬(gl (0:Int) a0 s1.toNat)=(gl (0:Int) a1 s1.toNat) then
some (Sum.inr (false))
else some (Sum.inl (AG (s1+1)))
else none
else none
else some (Sum.inr (true))) (0)
@[reducible] def KW:FnI:=AV [YD,YD] [D1] fun x=>LH x.1 x.2
def TF:Cx:=AP [] [] [] [(0,BD [(13,AF)] [] [] (DW [(4,2),(14,12)]) [] 2)] []
theorem R0:CV 132 KW:=okW TF [.tmp 4] 26 0 (AN AB.nil AM.nil) Tryz.func132
def F8 (a0:(List Int)):Option (List Int):=
if (a0.length:Int)<2 then
some (a0)
else AS (σ:=Int) (β:=(List Int)) (fun s1=>
if s1<(a0.length:Int) then
if 0<=s1/\s1<(a0.length:Int) then
if 0<=(AG (s1-1))/\(AG (s1-1))<(a0.length:Int) then
if (gl (0:Int) a0 s1.toNat)=(gl (0:Int) a0 ((AG (s1-1)).toNat)) then
if Bd (some s1) none a0.length a0.length then
AS (σ:=A5) (β:=(Int ⊕ (List Int))) (fun s2=>
if s2.2.1<((a0.length-s1.toNat:Nat):Int) then
if 0<=s2.2.1/\s2.2.1<((a0.length-s1.toNat:Nat):Int) then
if 0<=(AG (s2.2.1-1))/\(AG (s2.2.1-1))<((a0.length-s1.toNat:Nat):Int) then
if ¬(gl (0:Int) s2.2.2 (s1.toNat+s2.2.1.toNat))=(gl (0:Int) s2.2.2 (s1.toNat+(AG (s2.2.1-1)).toNat)) then
if 0<=s2.2.1/\s2.2.1<((a0.length-s1.toNat:Nat):Int) then
if 0<=s2.1/\s2.1<(s2.2.2.length:Int) then
some (Sum.inl ((AG (s2.1+1),AG (s2.2.1+1),s2.2.2.set s2.1.toNat (gl (0:Int) s2.2.2 (s1.toNat+s2.2.1.toNat)))))
else none
else none
else some (Sum.inl ((s2.1,AG (s2.2.1+1),s2.2.2)))
else none
else none
else Option.map Sum.inr (if Bd (some s2.1) none s2.2.2.length s2.2.2.length then
if s2.1.toNat+(s2.2.2.length-s2.1.toNat)<=s2.2.2.length then
if Bd none (some s2.1) s2.1.toNat ((clr s2.2.2 s2.1.toNat (s2.2.2.length-s2.1.toNat) (0:Int)).length) then
some (Sum.inr (DQ (clr s2.2.2 s2.1.toNat (s2.2.2.length-s2.1.toNat) (0:Int)) 0 (s2.1.toNat-0)))
else none
else none
else none)) ((s1,1,a0))
else none
else some (Sum.inl (AG (s1+1)))
else none
else none
else some (Sum.inr (a0))) (1)
@[reducible] def FM:FnI:=AV [B3] [B3] fun x=>F8 x
def QQ:Cx:=AP [(59,(1,1))] [59] [] [(0,BD [(3,AF)] [] [] (DW [(2,1),(4,2),(10,50)]) [] 1),(2,BD [(3,AF),(5,AF)] [] [(0,(.int .i64))] (DW [(29,25)]) [] 1)] []
theorem IY:CV 133 FM:=okW QQ [.tmp 2] 61 1 (AN AB.nil AM.nil) Tryz.func133
def R1 (a0:(BitVec 64)):Option Int:=
if a0.toNat≥(4294967296#64).toNat then
if True then
if (a0 >>> (32#64).toNat).toNat≥(65536#64).toNat then
if True then
if ((a0 >>> (32#64).toNat) >>> (16#64).toNat).toNat≥(256#64).toNat then
if True then
if 0<=(IntKind.wrap .u8 (((((a0 >>> (32#64).toNat) >>> (16#64).toNat) >>> (8#64).toNat).toNat:Int)))/\(IntKind.wrap .u8 (((((a0 >>> (32#64).toNat) >>> (16#64).toNat) >>> (8#64).toNat).toNat:Int)))<((⟨#[0,1,2,2,3,3,3,3,4,4,4,4,4,4,4,4,5,5,5,5,5,5,5,5,5,5,5,5,5,5,5,5,6,6,6,6,6,6,6,6,6,6,6,6,6,6,6,6,6,6,6,6,6,6,6,6,6,6,6,6,6,6,6,6,7,7,7,7,7,7,7,7,7,7,7,7,7,7,7,7,7,7,7,7,7,7,7,7,7,7,7,7,7,7,7,7,7,7,7,7,7,7,7,7,7,7,7,7,7,7,7,7,7,7,7,7,7,7,7,7,7,7,7,7,7,7,7,7,8,8,8,8,8,8,8,8,8,8,8,8,8,8,8,8,8,8,8,8,8,8,8,8,8,8,8,8,8,8,8,8,8,8,8,8,8,8,8,8,8,8,8,8,8,8,8,8,8,8,8,8,8,8,8,8,8,8,8,8,8,8,8,8,8,8,8,8,8,8,8,8,8,8,8,8,8,8,8,8,8,8,8,8,8,8,8,8,8,8,8,8,8,8,8,8,8,8,8,8,8,8,8,8,8,8,8,8,8,8,8,8,8,8,8,8,8,8,8,8,8,8,8,8,8,8,8,8]⟩:ByteArray).size:Int) then
some (AG ((AG ((AG ((32:Int)+16))+8))+(AG (hN (⟨#[0,1,2,2,3,3,3,3,4,4,4,4,4,4,4,4,5,5,5,5,5,5,5,5,5,5,5,5,5,5,5,5,6,6,6,6,6,6,6,6,6,6,6,6,6,6,6,6,6,6,6,6,6,6,6,6,6,6,6,6,6,6,6,6,7,7,7,7,7,7,7,7,7,7,7,7,7,7,7,7,7,7,7,7,7,7,7,7,7,7,7,7,7,7,7,7,7,7,7,7,7,7,7,7,7,7,7,7,7,7,7,7,7,7,7,7,7,7,7,7,7,7,7,7,7,7,7,7,8,8,8,8,8,8,8,8,8,8,8,8,8,8,8,8,8,8,8,8,8,8,8,8,8,8,8,8,8,8,8,8,8,8,8,8,8,8,8,8,8,8,8,8,8,8,8,8,8,8,8,8,8,8,8,8,8,8,8,8,8,8,8,8,8,8,8,8,8,8,8,8,8,8,8,8,8,8,8,8,8,8,8,8,8,8,8,8,8,8,8,8,8,8,8,8,8,8,8,8,8,8,8,8,8,8,8,8,8,8,8,8,8,8,8,8,8,8,8,8,8,8,8,8,8,8,8,8]⟩:ByteArray) ((IntKind.wrap .u8 (((((a0 >>> (32#64).toNat) >>> (16#64).toNat) >>> (8#64).toNat).toNat:Int))).toNat)))))
else none
else none
else if 0<=(IntKind.wrap .u8 ((((a0 >>> (32#64).toNat) >>> (16#64).toNat).toNat:Int)))/\(IntKind.wrap .u8 ((((a0 >>> (32#64).toNat) >>> (16#64).toNat).toNat:Int)))<((⟨#[0,1,2,2,3,3,3,3,4,4,4,4,4,4,4,4,5,5,5,5,5,5,5,5,5,5,5,5,5,5,5,5,6,6,6,6,6,6,6,6,6,6,6,6,6,6,6,6,6,6,6,6,6,6,6,6,6,6,6,6,6,6,6,6,7,7,7,7,7,7,7,7,7,7,7,7,7,7,7,7,7,7,7,7,7,7,7,7,7,7,7,7,7,7,7,7,7,7,7,7,7,7,7,7,7,7,7,7,7,7,7,7,7,7,7,7,7,7,7,7,7,7,7,7,7,7,7,7,8,8,8,8,8,8,8,8,8,8,8,8,8,8,8,8,8,8,8,8,8,8,8,8,8,8,8,8,8,8,8,8,8,8,8,8,8,8,8,8,8,8,8,8,8,8,8,8,8,8,8,8,8,8,8,8,8,8,8,8,8,8,8,8,8,8,8,8,8,8,8,8,8,8,8,8,8,8,8,8,8,8,8,8,8,8,8,8,8,8,8,8,8,8,8,8,8,8,8,8,8,8,8,8,8,8,8,8,8,8,8,8,8,8,8,8,8,8,8,8,8,8,8,8,8,8,8,8]⟩:ByteArray).size:Int) then
some (AG ((AG ((32:Int)+16))+(AG (hN (⟨#[0,1,2,2,3,3,3,3,4,4,4,4,4,4,4,4,5,5,5,5,5,5,5,5,5,5,5,5,5,5,5,5,6,6,6,6,6,6,6,6,6,6,6,6,6,6,6,6,6,6,6,6,6,6,6,6,6,6,6,6,6,6,6,6,7,7,7,7,7,7,7,7,7,7,7,7,7,7,7,7,7,7,7,7,7,7,7,7,7,7,7,7,7,7,7,7,7,7,7,7,7,7,7,7,7,7,7,7,7,7,7,7,7,7,7,7,7,7,7,7,7,7,7,7,7,7,7,7,8,8,8,8,8,8,8,8,8,8,8,8,8,8,8,8,8,8,8,8,8,8,8,8,8,8,8,8,8,8,8,8,8,8,8,8,8,8,8,8,8,8,8,8,8,8,8,8,8,8,8,8,8,8,8,8,8,8,8,8,8,8,8,8,8,8,8,8,8,8,8,8,8,8,8,8,8,8,8,8,8,8,8,8,8,8,8,8,8,8,8,8,8,8,8,8,8,8,8,8,8,8,8,8,8,8,8,8,8,8,8,8,8,8,8,8,8,8,8,8,8,8,8,8,8,8,8,8]⟩:ByteArray) ((IntKind.wrap .u8 ((((a0 >>> (32#64).toNat) >>> (16#64).toNat).toNat:Int))).toNat)))))
else none
else none
else if (a0 >>> (32#64).toNat).toNat≥(256#64).toNat then
if True then
if 0<=(IntKind.wrap .u8 ((((a0 >>> (32#64).toNat) >>> (8#64).toNat).toNat:Int)))/\(IntKind.wrap .u8 ((((a0 >>> (32#64).toNat) >>> (8#64).toNat).toNat:Int)))<((⟨#[0,1,2,2,3,3,3,3,4,4,4,4,4,4,4,4,5,5,5,5,5,5,5,5,5,5,5,5,5,5,5,5,6,6,6,6,6,6,6,6,6,6,6,6,6,6,6,6,6,6,6,6,6,6,6,6,6,6,6,6,6,6,6,6,7,7,7,7,7,7,7,7,7,7,7,7,7,7,7,7,7,7,7,7,7,7,7,7,7,7,7,7,7,7,7,7,7,7,7,7,7,7,7,7,7,7,7,7,7,7,7,7,7,7,7,7,7,7,7,7,7,7,7,7,7,7,7,7,8,8,8,8,8,8,8,8,8,8,8,8,8,8,8,8,8,8,8,8,8,8,8,8,8,8,8,8,8,8,8,8,8,8,8,8,8,8,8,8,8,8,8,8,8,8,8,8,8,8,8,8,8,8,8,8,8,8,8,8,8,8,8,8,8,8,8,8,8,8,8,8,8,8,8,8,8,8,8,8,8,8,8,8,8,8,8,8,8,8,8,8,8,8,8,8,8,8,8,8,8,8,8,8,8,8,8,8,8,8,8,8,8,8,8,8,8,8,8,8,8,8,8,8,8,8,8,8]⟩:ByteArray).size:Int) then
some (AG ((AG ((32:Int)+8))+(AG (hN (⟨#[0,1,2,2,3,3,3,3,4,4,4,4,4,4,4,4,5,5,5,5,5,5,5,5,5,5,5,5,5,5,5,5,6,6,6,6,6,6,6,6,6,6,6,6,6,6,6,6,6,6,6,6,6,6,6,6,6,6,6,6,6,6,6,6,7,7,7,7,7,7,7,7,7,7,7,7,7,7,7,7,7,7,7,7,7,7,7,7,7,7,7,7,7,7,7,7,7,7,7,7,7,7,7,7,7,7,7,7,7,7,7,7,7,7,7,7,7,7,7,7,7,7,7,7,7,7,7,7,8,8,8,8,8,8,8,8,8,8,8,8,8,8,8,8,8,8,8,8,8,8,8,8,8,8,8,8,8,8,8,8,8,8,8,8,8,8,8,8,8,8,8,8,8,8,8,8,8,8,8,8,8,8,8,8,8,8,8,8,8,8,8,8,8,8,8,8,8,8,8,8,8,8,8,8,8,8,8,8,8,8,8,8,8,8,8,8,8,8,8,8,8,8,8,8,8,8,8,8,8,8,8,8,8,8,8,8,8,8,8,8,8,8,8,8,8,8,8,8,8,8,8,8,8,8,8,8]⟩:ByteArray) ((IntKind.wrap .u8 ((((a0 >>> (32#64).toNat) >>> (8#64).toNat).toNat:Int))).toNat)))))
else none
else none
else if 0<=(IntKind.wrap .u8 (((a0 >>> (32#64).toNat).toNat:Int)))/\(IntKind.wrap .u8 (((a0 >>> (32#64).toNat).toNat:Int)))<((⟨#[0,1,2,2,3,3,3,3,4,4,4,4,4,4,4,4,5,5,5,5,5,5,5,5,5,5,5,5,5,5,5,5,6,6,6,6,6,6,6,6,6,6,6,6,6,6,6,6,6,6,6,6,6,6,6,6,6,6,6,6,6,6,6,6,7,7,7,7,7,7,7,7,7,7,7,7,7,7,7,7,7,7,7,7,7,7,7,7,7,7,7,7,7,7,7,7,7,7,7,7,7,7,7,7,7,7,7,7,7,7,7,7,7,7,7,7,7,7,7,7,7,7,7,7,7,7,7,7,8,8,8,8,8,8,8,8,8,8,8,8,8,8,8,8,8,8,8,8,8,8,8,8,8,8,8,8,8,8,8,8,8,8,8,8,8,8,8,8,8,8,8,8,8,8,8,8,8,8,8,8,8,8,8,8,8,8,8,8,8,8,8,8,8,8,8,8,8,8,8,8,8,8,8,8,8,8,8,8,8,8,8,8,8,8,8,8,8,8,8,8,8,8,8,8,8,8,8,8,8,8,8,8,8,8,8,8,8,8,8,8,8,8,8,8,8,8,8,8,8,8,8,8,8,8,8,8]⟩:ByteArray).size:Int) then
some (AG ((32:Int)+(AG (hN (⟨#[0,1,2,2,3,3,3,3,4,4,4,4,4,4,4,4,5,5,5,5,5,5,5,5,5,5,5,5,5,5,5,5,6,6,6,6,6,6,6,6,6,6,6,6,6,6,6,6,6,6,6,6,6,6,6,6,6,6,6,6,6,6,6,6,7,7,7,7,7,7,7,7,7,7,7,7,7,7,7,7,7,7,7,7,7,7,7,7,7,7,7,7,7,7,7,7,7,7,7,7,7,7,7,7,7,7,7,7,7,7,7,7,7,7,7,7,7,7,7,7,7,7,7,7,7,7,7,7,8,8,8,8,8,8,8,8,8,8,8,8,8,8,8,8,8,8,8,8,8,8,8,8,8,8,8,8,8,8,8,8,8,8,8,8,8,8,8,8,8,8,8,8,8,8,8,8,8,8,8,8,8,8,8,8,8,8,8,8,8,8,8,8,8,8,8,8,8,8,8,8,8,8,8,8,8,8,8,8,8,8,8,8,8,8,8,8,8,8,8,8,8,8,8,8,8,8,8,8,8,8,8,8,8,8,8,8,8,8,8,8,8,8,8,8,8,8,8,8,8,8,8,8,8,8,8,8]⟩:ByteArray) ((IntKind.wrap .u8 (((a0 >>> (32#64).toNat).toNat:Int))).toNat)))))
else none
else none
else if a0.toNat≥(65536#64).toNat then
if True then
if (a0 >>> (16#64).toNat).toNat≥(256#64).toNat then
if True then
if 0<=(IntKind.wrap .u8 ((((a0 >>> (16#64).toNat) >>> (8#64).toNat).toNat:Int)))/\(IntKind.wrap .u8 ((((a0 >>> (16#64).toNat) >>> (8#64).toNat).toNat:Int)))<((⟨#[0,1,2,2,3,3,3,3,4,4,4,4,4,4,4,4,5,5,5,5,5,5,5,5,5,5,5,5,5,5,5,5,6,6,6,6,6,6,6,6,6,6,6,6,6,6,6,6,6,6,6,6,6,6,6,6,6,6,6,6,6,6,6,6,7,7,7,7,7,7,7,7,7,7,7,7,7,7,7,7,7,7,7,7,7,7,7,7,7,7,7,7,7,7,7,7,7,7,7,7,7,7,7,7,7,7,7,7,7,7,7,7,7,7,7,7,7,7,7,7,7,7,7,7,7,7,7,7,8,8,8,8,8,8,8,8,8,8,8,8,8,8,8,8,8,8,8,8,8,8,8,8,8,8,8,8,8,8,8,8,8,8,8,8,8,8,8,8,8,8,8,8,8,8,8,8,8,8,8,8,8,8,8,8,8,8,8,8,8,8,8,8,8,8,8,8,8,8,8,8,8,8,8,8,8,8,8,8,8,8,8,8,8,8,8,8,8,8,8,8,8,8,8,8,8,8,8,8,8,8,8,8,8,8,8,8,8,8,8,8,8,8,8,8,8,8,8,8,8,8,8,8,8,8,8,8]⟩:ByteArray).size:Int) then
some (AG ((AG ((AG ((0:Int)+16))+8))+(AG (hN (⟨#[0,1,2,2,3,3,3,3,4,4,4,4,4,4,4,4,5,5,5,5,5,5,5,5,5,5,5,5,5,5,5,5,6,6,6,6,6,6,6,6,6,6,6,6,6,6,6,6,6,6,6,6,6,6,6,6,6,6,6,6,6,6,6,6,7,7,7,7,7,7,7,7,7,7,7,7,7,7,7,7,7,7,7,7,7,7,7,7,7,7,7,7,7,7,7,7,7,7,7,7,7,7,7,7,7,7,7,7,7,7,7,7,7,7,7,7,7,7,7,7,7,7,7,7,7,7,7,7,8,8,8,8,8,8,8,8,8,8,8,8,8,8,8,8,8,8,8,8,8,8,8,8,8,8,8,8,8,8,8,8,8,8,8,8,8,8,8,8,8,8,8,8,8,8,8,8,8,8,8,8,8,8,8,8,8,8,8,8,8,8,8,8,8,8,8,8,8,8,8,8,8,8,8,8,8,8,8,8,8,8,8,8,8,8,8,8,8,8,8,8,8,8,8,8,8,8,8,8,8,8,8,8,8,8,8,8,8,8,8,8,8,8,8,8,8,8,8,8,8,8,8,8,8,8,8,8]⟩:ByteArray) ((IntKind.wrap .u8 ((((a0 >>> (16#64).toNat) >>> (8#64).toNat).toNat:Int))).toNat)))))
else none
else none
else if 0<=(IntKind.wrap .u8 (((a0 >>> (16#64).toNat).toNat:Int)))/\(IntKind.wrap .u8 (((a0 >>> (16#64).toNat).toNat:Int)))<((⟨#[0,1,2,2,3,3,3,3,4,4,4,4,4,4,4,4,5,5,5,5,5,5,5,5,5,5,5,5,5,5,5,5,6,6,6,6,6,6,6,6,6,6,6,6,6,6,6,6,6,6,6,6,6,6,6,6,6,6,6,6,6,6,6,6,7,7,7,7,7,7,7,7,7,7,7,7,7,7,7,7,7,7,7,7,7,7,7,7,7,7,7,7,7,7,7,7,7,7,7,7,7,7,7,7,7,7,7,7,7,7,7,7,7,7,7,7,7,7,7,7,7,7,7,7,7,7,7,7,8,8,8,8,8,8,8,8,8,8,8,8,8,8,8,8,8,8,8,8,8,8,8,8,8,8,8,8,8,8,8,8,8,8,8,8,8,8,8,8,8,8,8,8,8,8,8,8,8,8,8,8,8,8,8,8,8,8,8,8,8,8,8,8,8,8,8,8,8,8,8,8,8,8,8,8,8,8,8,8,8,8,8,8,8,8,8,8,8,8,8,8,8,8,8,8,8,8,8,8,8,8,8,8,8,8,8,8,8,8,8,8,8,8,8,8,8,8,8,8,8,8,8,8,8,8,8,8]⟩:ByteArray).size:Int) then
some (AG ((AG ((0:Int)+16))+(AG (hN (⟨#[0,1,2,2,3,3,3,3,4,4,4,4,4,4,4,4,5,5,5,5,5,5,5,5,5,5,5,5,5,5,5,5,6,6,6,6,6,6,6,6,6,6,6,6,6,6,6,6,6,6,6,6,6,6,6,6,6,6,6,6,6,6,6,6,7,7,7,7,7,7,7,7,7,7,7,7,7,7,7,7,7,7,7,7,7,7,7,7,7,7,7,7,7,7,7,7,7,7,7,7,7,7,7,7,7,7,7,7,7,7,7,7,7,7,7,7,7,7,7,7,7,7,7,7,7,7,7,7,8,8,8,8,8,8,8,8,8,8,8,8,8,8,8,8,8,8,8,8,8,8,8,8,8,8,8,8,8,8,8,8,8,8,8,8,8,8,8,8,8,8,8,8,8,8,8,8,8,8,8,8,8,8,8,8,8,8,8,8,8,8,8,8,8,8,8,8,8,8,8,8,8,8,8,8,8,8,8,8,8,8,8,8,8,8,8,8,8,8,8,8,8,8,8,8,8,8,8,8,8,8,8,8,8,8,8,8,8,8,8,8,8,8,8,8,8,8,8,8,8,8,8,8,8,8,8,8]⟩:ByteArray) ((IntKind.wrap .u8 (((a0 >>> (16#64).toNat).toNat:Int))).toNat)))))
else none
else none
else if a0.toNat≥(256#64).toNat then
if True then
if 0<=(IntKind.wrap .u8 (((a0 >>> (8#64).toNat).toNat:Int)))/\(IntKind.wrap .u8 (((a0 >>> (8#64).toNat).toNat:Int)))<((⟨#[0,1,2,2,3,3,3,3,4,4,4,4,4,4,4,4,5,5,5,5,5,5,5,5,5,5,5,5,5,5,5,5,6,6,6,6,6,6,6,6,6,6,6,6,6,6,6,6,6,6,6,6,6,6,6,6,6,6,6,6,6,6,6,6,7,7,7,7,7,7,7,7,7,7,7,7,7,7,7,7,7,7,7,7,7,7,7,7,7,7,7,7,7,7,7,7,7,7,7,7,7,7,7,7,7,7,7,7,7,7,7,7,7,7,7,7,7,7,7,7,7,7,7,7,7,7,7,7,8,8,8,8,8,8,8,8,8,8,8,8,8,8,8,8,8,8,8,8,8,8,8,8,8,8,8,8,8,8,8,8,8,8,8,8,8,8,8,8,8,8,8,8,8,8,8,8,8,8,8,8,8,8,8,8,8,8,8,8,8,8,8,8,8,8,8,8,8,8,8,8,8,8,8,8,8,8,8,8,8,8,8,8,8,8,8,8,8,8,8,8,8,8,8,8,8,8,8,8,8,8,8,8,8,8,8,8,8,8,8,8,8,8,8,8,8,8,8,8,8,8,8,8,8,8,8,8]⟩:ByteArray).size:Int) then
some (AG ((AG ((0:Int)+8))+(AG (hN (⟨#[0,1,2,2,3,3,3,3,4,4,4,4,4,4,4,4,5,5,5,5,5,5,5,5,5,5,5,5,5,5,5,5,6,6,6,6,6,6,6,6,6,6,6,6,6,6,6,6,6,6,6,6,6,6,6,6,6,6,6,6,6,6,6,6,7,7,7,7,7,7,7,7,7,7,7,7,7,7,7,7,7,7,7,7,7,7,7,7,7,7,7,7,7,7,7,7,7,7,7,7,7,7,7,7,7,7,7,7,7,7,7,7,7,7,7,7,7,7,7,7,7,7,7,7,7,7,7,7,8,8,8,8,8,8,8,8,8,8,8,8,8,8,8,8,8,8,8,8,8,8,8,8,8,8,8,8,8,8,8,8,8,8,8,8,8,8,8,8,8,8,8,8,8,8,8,8,8,8,8,8,8,8,8,8,8,8,8,8,8,8,8,8,8,8,8,8,8,8,8,8,8,8,8,8,8,8,8,8,8,8,8,8,8,8,8,8,8,8,8,8,8,8,8,8,8,8,8,8,8,8,8,8,8,8,8,8,8,8,8,8,8,8,8,8,8,8,8,8,8,8,8,8,8,8,8,8]⟩:ByteArray) ((IntKind.wrap .u8 (((a0 >>> (8#64).toNat).toNat:Int))).toNat)))))
else none
else none
else if 0<=(IntKind.wrap .u8 ((a0.toNat:Int)))/\(IntKind.wrap .u8 ((a0.toNat:Int)))<((⟨#[0,1,2,2,3,3,3,3,4,4,4,4,4,4,4,4,5,5,5,5,5,5,5,5,5,5,5,5,5,5,5,5,6,6,6,6,6,6,6,6,6,6,6,6,6,6,6,6,6,6,6,6,6,6,6,6,6,6,6,6,6,6,6,6,7,7,7,7,7,7,7,7,7,7,7,7,7,7,7,7,7,7,7,7,7,7,7,7,7,7,7,7,7,7,7,7,7,7,7,7,7,7,7,7,7,7,7,7,7,7,7,7,7,7,7,7,7,7,7,7,7,7,7,7,7,7,7,7,8,8,8,8,8,8,8,8,8,8,8,8,8,8,8,8,8,8,8,8,8,8,8,8,8,8,8,8,8,8,8,8,8,8,8,8,8,8,8,8,8,8,8,8,8,8,8,8,8,8,8,8,8,8,8,8,8,8,8,8,8,8,8,8,8,8,8,8,8,8,8,8,8,8,8,8,8,8,8,8,8,8,8,8,8,8,8,8,8,8,8,8,8,8,8,8,8,8,8,8,8,8,8,8,8,8,8,8,8,8,8,8,8,8,8,8,8,8,8,8,8,8,8,8,8,8,8,8]⟩:ByteArray).size:Int) then
some (AG ((0:Int)+(AG (hN (⟨#[0,1,2,2,3,3,3,3,4,4,4,4,4,4,4,4,5,5,5,5,5,5,5,5,5,5,5,5,5,5,5,5,6,6,6,6,6,6,6,6,6,6,6,6,6,6,6,6,6,6,6,6,6,6,6,6,6,6,6,6,6,6,6,6,7,7,7,7,7,7,7,7,7,7,7,7,7,7,7,7,7,7,7,7,7,7,7,7,7,7,7,7,7,7,7,7,7,7,7,7,7,7,7,7,7,7,7,7,7,7,7,7,7,7,7,7,7,7,7,7,7,7,7,7,7,7,7,7,8,8,8,8,8,8,8,8,8,8,8,8,8,8,8,8,8,8,8,8,8,8,8,8,8,8,8,8,8,8,8,8,8,8,8,8,8,8,8,8,8,8,8,8,8,8,8,8,8,8,8,8,8,8,8,8,8,8,8,8,8,8,8,8,8,8,8,8,8,8,8,8,8,8,8,8,8,8,8,8,8,8,8,8,8,8,8,8,8,8,8,8,8,8,8,8,8,8,8,8,8,8,8,8,8,8,8,8,8,8,8,8,8,8,8,8,8,8,8,8,8,8,8,8,8,8,8,8]⟩:ByteArray) ((IntKind.wrap .u8 ((a0.toNat:Int))).toNat)))))
else none
@[reducible] def P7:FnI:=AV [EO] [A9] fun x=>R1 x
def b9:Cx:=AP [] [] [] [] []
theorem Z5:CV 207 P7:=okW b9 [.tmp 2] 25 0 (AN AB.nil AM.nil) Tryz.func207
def KX (a0:(BitVec 64)):Option Int:=
Option.bind (R1 a0) (fun r1=>
some (r1))
@[reducible] def JH:FnI:=AV [EO] [A9] fun x=>KX x
def iK:Cx:=AP [] [] [(207,P7)] [] []
theorem L3:CV 174 JH:=okW iK [.tmp 2] 8 0 (AN (.cons Z5 AB.nil) AM.nil) Tryz.func174
def CK (a0:(List Int)) (a1:Int) (a2:Int):Option (List Int):=
AS (σ:=ZW) (β:=(List Int)) (fun s1=>
if s1.1<a2 then
AS (σ:=ZW) (β:=(ZW ⊕ (List Int))) (fun s2=>
if s2.1>a1 then
if 0<=s2.1/\s2.1<(s2.2.length:Int) then
if 0<=(AG (s2.1-1))/\(AG (s2.1-1))<(s2.2.length:Int) then
Option.bind (UB (gl (0:Int) s2.2 s2.1.toNat) (gl (0:Int) s2.2 ((AG (s2.1-1)).toNat))) (fun r1=>
if r1<0 then
if 0<=(AG (s2.1-1))/\(AG (s2.1-1))<(s2.2.length:Int) then
if 0<=s2.1/\s2.1<(s2.2.length:Int) then
if 0<=s2.1/\s2.1<(s2.2.length:Int) then
if 0<=(AG (s2.1-1))/\(AG (s2.1-1))<((s2.2.set s2.1.toNat (gl (0:Int) s2.2 ((AG (s2.1-1)).toNat))).length:Int) then
some (Sum.inl ((AG (s2.1-1),(s2.2.set s2.1.toNat (gl (0:Int) s2.2 ((AG (s2.1-1)).toNat))).set ((AG (s2.1-1)).toNat) (gl (0:Int) s2.2 s2.1.toNat))))
else none
else none
else none
else none
else some (Sum.inr (Sum.inl ((AG (s1.1+1),s2.2)))))
else none
else none
else some (Sum.inr (Sum.inl ((AG (s1.1+1),s2.2))))) ((s1.1,s1.2))
else some (Sum.inr (s1.2))) ((AG (a1+1),a0))
@[reducible] def CF:FnI:={ ps:=[B3,AF,AF],rs:=[],os:=[B3],bk:=[0],sh:=[.one,.one,.one,.NP 129 0],F:=fun x=>CK x.1 x.2.1 x.2.2 }
def EU:Cx:=AP [] [] [(129,RY)] [(0,BD [(8,AF)] [] [(0,(.int .i64))] (DW [(9,1),(12,41)]) [] 1),(2,BD [(9,AF)] [] [(0,(.int .i64))] (DW [(18,35)]) [] 1)] []
theorem EJ:CV 198 CF:=okW EU [] 53 0 (AN (.cons b7 AB.nil) AM.nil) Tryz.func198
def C6 (a0:(List Int)) (a1:Int) (a2:Int) (a3:Int):Option (List Int):=
AS (σ:=(Int×Int×Int×Bool×Bool)) (β:=(List Int)) (fun s1=>
if (AG (s1.2.1-s1.1))<=12 then
Option.bind (CK a0 s1.1 s1.2.1) (fun r1=>
some (Sum.inr (r1)))
else if s1.2.2.1=0 then
none
else Option.bind (α:=Int ⊕ ((Int×Int×Int×Bool×Bool) ⊕ (List Int))) (if (!s1.2.2.2.1)=true then
none
else some (Sum.inl (s1.2.2.1))) (fun q=>match q with
|Sum.inl j1=>(none)
|Sum.inr b1=>some b1)) ((a1,a2,a3,true,true))
@[reducible] def C3:FnI:={ ps:=[B3,AF,AF,AF],rs:=[],os:=[B3],bk:=[0],sh:=[.one,.one,.one,.one,.NP 129 0],F:=fun x=>C6 x.1 x.2.1 x.2.2.1 x.2.2.2 }
def G4:Cx:=AP [] [] [(198,CF)] [(0,BD [(1,AF),(2,AF),(3,AF),(10,bM),(11,bM)] [] [] (DW [(12,136)]) [] 1)] [(10,BD [(3,AF)] [] [] (DW [(38,9)]) [] 1)]
theorem GK:CV 173 C3:=okW G4 [] 148 0 (AN (.cons EJ AB.nil) AM.nil) Tryz.func173
def DH (a0:(List Int)):Option (List Int):=
Option.bind (KX (BitVec.ofInt 64 (a0.length:Int))) (fun r1=>
Option.bind (C6 a0 0 (a0.length:Int) r1) (fun r2=>
some (r2)))
@[reducible] def DD:FnI:={ ps:=[B3],rs:=[],os:=[B3],bk:=[0],sh:=[.one,.NP 129 0],F:=fun x=>DH x }
def HU:Cx:=AP [] [] [(173,C3),(174,JH)] [] []
theorem HK:CV 128 DD:=okW HU [] 14 0 (AN (.cons GK (.cons L3 AB.nil)) AM.nil) Tryz.func128
def CL (a0:(List Int)) (a1:Int) (a2:Int):Option (List Int):=
AS (σ:=ZW) (β:=(List Int)) (fun s1=>
if s1.1<a2 then
AS (σ:=ZW) (β:=(ZW ⊕ (List Int))) (fun s2=>
if s2.1>a1 then
if 0<=s2.1/\s2.1<(s2.2.length:Int) then
if 0<=(AG (s2.1-1))/\(AG (s2.1-1))<(s2.2.length:Int) then
Option.bind (UC (gl (0:Int) s2.2 s2.1.toNat) (gl (0:Int) s2.2 ((AG (s2.1-1)).toNat))) (fun r1=>
if r1<0 then
if 0<=(AG (s2.1-1))/\(AG (s2.1-1))<(s2.2.length:Int) then
if 0<=s2.1/\s2.1<(s2.2.length:Int) then
if 0<=s2.1/\s2.1<(s2.2.length:Int) then
if 0<=(AG (s2.1-1))/\(AG (s2.1-1))<((s2.2.set s2.1.toNat (gl (0:Int) s2.2 ((AG (s2.1-1)).toNat))).length:Int) then
some (Sum.inl ((AG (s2.1-1),(s2.2.set s2.1.toNat (gl (0:Int) s2.2 ((AG (s2.1-1)).toNat))).set ((AG (s2.1-1)).toNat) (gl (0:Int) s2.2 s2.1.toNat))))
else none
else none
else none
else none
else some (Sum.inr (Sum.inl ((AG (s1.1+1),s2.2)))))
else none
else none
else some (Sum.inr (Sum.inl ((AG (s1.1+1),s2.2))))) ((s1.1,s1.2))
else some (Sum.inr (s1.2))) ((AG (a1+1),a0))
@[reducible] def CG:FnI:={ ps:=[B3,AF,AF],rs:=[],os:=[B3],bk:=[0],sh:=[.one,.one,.one,.NP 131 0],F:=fun x=>CL x.1 x.2.1 x.2.2 }
def EV:Cx:=AP [] [] [(131,RZ)] [(0,BD [(8,AF)] [] [(0,(.int .i64))] (DW [(9,1),(12,41)]) [] 1),(2,BD [(9,AF)] [] [(0,(.int .i64))] (DW [(18,35)]) [] 1)] []
theorem EK:CV 198 CG:=okW EV [] 53 0 (AN (.cons b8 AB.nil) AM.nil) Tryz.func198
def C7 (a0:(List Int)) (a1:Int) (a2:Int) (a3:Int):Option (List Int):=
AS (σ:=(Int×Int×Int×Bool×Bool)) (β:=(List Int)) (fun s1=>
if (AG (s1.2.1-s1.1))<=12 then
Option.bind (CL a0 s1.1 s1.2.1) (fun r1=>
some (Sum.inr (r1)))
else if s1.2.2.1=0 then
none
else Option.bind (α:=Int ⊕ ((Int×Int×Int×Bool×Bool) ⊕ (List Int))) (if (!s1.2.2.2.1)=true then
none
else some (Sum.inl (s1.2.2.1))) (fun q=>match q with
|Sum.inl j1=>(none)
|Sum.inr b1=>some b1)) ((a1,a2,a3,true,true))
@[reducible] def C4:FnI:={ ps:=[B3,AF,AF,AF],rs:=[],os:=[B3],bk:=[0],sh:=[.one,.one,.one,.one,.NP 131 0],F:=fun x=>C7 x.1 x.2.1 x.2.2.1 x.2.2.2 }
def G5:Cx:=AP [] [] [(198,CG)] [(0,BD [(1,AF),(2,AF),(3,AF),(10,bM),(11,bM)] [] [] (DW [(12,136)]) [] 1)] [(10,BD [(3,AF)] [] [] (DW [(38,9)]) [] 1)]
theorem GL:CV 173 C4:=okW G5 [] 148 0 (AN (.cons EK AB.nil) AM.nil) Tryz.func173
def DI (a0:(List Int)):Option (List Int):=
Option.bind (KX (BitVec.ofInt 64 (a0.length:Int))) (fun r1=>
Option.bind (C7 a0 0 (a0.length:Int) r1) (fun r2=>
some (r2)))
@[reducible] def DE:FnI:={ ps:=[B3],rs:=[],os:=[B3],bk:=[0],sh:=[.one,.NP 131 0],F:=fun x=>DI x }
def HV:Cx:=AP [] [] [(173,C4),(174,JH)] [] []
theorem HL:CV 128 DE:=okW HV [] 14 0 (AN (.cons GL (.cons L3 AB.nil)) AM.nil) Tryz.func128
def YJ (a0:HI) (a1:(List Int)):Option Bool:=
Option.bind (Z4 a0) (fun r1=>
if (a1.length:Int)>(r1.length:Int) then
some (false)
else if Bd none (some (a1.length:Int)) ((a1.length:Int).toNat) r1.length then
AS (σ:=U4) (β:=Bool) (fun s1=>
if s1.2<((((a1.length:Int).toNat)-0:Nat):Int) then
if 0<=s1.2/\s1.2<((((a1.length:Int).toNat)-0:Nat):Int) then
if (s1.1.length+([(gl ((0,0,0,0,0):AA) r1 (0+s1.2.toNat)).1]:List Int).length)*8<=140737488355328 then
some (Sum.inl ((s1.1++([(gl ((0,0,0,0,0):AA) r1 (0+s1.2.toNat)).1]:List Int),AG (s1.2+1))))
else none
else none
else Option.map Sum.inr (Option.bind (LG a1) (fun r2=>
Option.bind (DH s1.1) (fun r3=>
Option.bind (DI r2) (fun r4=>
Option.bind (LH r3 r4) (fun r5=>
if r5=true then
Option.bind (F8 r4) (fun r6=>
some (decide ((r6.length:Int)=(a1.length:Int))))
else some (false))))))) (([],0))
else none)
@[reducible] def WG:FnI:=AV [MV,YD] [D1] fun x=>YJ x.1 x.2
def lR:Cx:={ nm:=[(8,(4,1)),(11,(2,1)),(29,(5,1)),(30,(6,1)),(33,(7,1)),(43,(8,1))],BN:=[30],fns:=nE [(126,WE),(127,KV),(128,DD),(132,KW),(133,FM)],loops:=[(0,BD [(6,B3),(22,AF)] [] [] (DW [(8,1),(23,9)]) [] 3)],RH:=[],tb:=bL,exts:=[],lets:=[],ovr:=[(37,(128,DE))] }
theorem iL:CV 85 WG:=okW lR [.tmp 4] 49 7 (AN (.cons b6 (.cons RW (.cons HK (.cons R0 (.cons IY AB.nil))))) AM.nil (ho:=by intro d n fi h;(simp only[lk] at h);(repeat' split at h) <;> first|(cases h;done)|(cases h;exact HL))) Tryz.func85
def eO (a0:Nat):Option Nat:=
if a0<18446744073709551616 then
some (((BitVec.ofNat 64 a0) &&& ~~~(9223372036854775808#64)).toNat)
else none
@[reducible] def Z6:FnI:=AV [wU] [wV] fun x=>eO x
def zZ:Cx:={ nm:=[],BN:=[],fns:=nE [],loops:=[],RH:=[],tb:=bL,exts:=[(40,.S3),(231,.a8)],lets:=[] }
theorem AIB:AM Tryz.prog 231 .a8:=⟨Tryz.f231,Tryz.func231,by kernel_rfl,by kernel_rfl,by kernel_rfl,by kernel_rfl⟩
theorem gE:CV 238 Z6:=okW zZ [.tmp 2] 7 0 (AN AB.nil (.cons AK3 (.cons AIB AM.nil))) Tryz.func238
def gF (a0:Nat) (a1:Int):Option Bool:=
if a1=0 then
Option.bind (eO a0) (fun r1=>
some (decide (DZ r1 9218868437227405311=some .gt)))
else if a1<0 then
some (decide (DZ (AKF a0) 9218868437227405311=some .gt))
else some (decide (DZ a0 9218868437227405311=some .gt))
@[reducible] def b_:FnI:=AV [wU,AF] [D1] fun x=>gF x.1 x.2
def sA:Cx:=AP [] [] [(238,Z6)] [] []
theorem nR:CV 228 b_:=okW sA [.tmp 4] 15 0 (AN (.cons gE AB.nil) AM.nil) Tryz.func228
def gG (a0:Nat):Option Bool:=
some (decide (¬DZ a0 a0=some .eq))
@[reducible] def cA:FnI:=AV [wU] [D1] fun x=>gG x
def sB:Cx:=AP [] [] [] [] []
theorem nS:CV 229 cA:=okW sB [.tmp 2] 6 0 (AN AB.nil AM.nil) Tryz.func229
def UD (a0:Nat):Option (Nat×Int):=
Option.bind (eO a0) (fun r1=>
if DZ r1 4503599627370496=some .lt then
if (D_ .mul a0 4841369599423283200).isSome=true then
some (((D_ .mul a0 4841369599423283200).getD 0,(-52)))
else none
else some ((a0,0)))
@[reducible] def R2:FnI:=AV [wU] [wV,A9] fun x=>UD x
def eP:Cx:=AP [] [] [(238,Z6)] [] []
theorem cB:CV 230 R2:=okW eP [.tmp 2,.tmp 3] 10 0 (AN (.cons gE AB.nil) AM.nil) Tryz.func230
def gH (a0:Nat):Option (Nat×Int):=
if DZ a0 0=some .eq then
some ((a0,0))
else Option.bind (gF a0 0) (fun r1=>
if r1=true then
some ((a0,0))
else Option.bind (gG a0) (fun r2=>
if r2=true then
some ((a0,0))
else Option.bind (UD a0) (fun r3=>
if r3.1<18446744073709551616 then
if True then
some (((((BitVec.ofNat 64 r3.1) &&& ~~~(9218868437227405312#64))|||(4602678819172646912#64)).toNat,AG (r3.2+(AG ((AG ((AG (((((BitVec.ofNat 64 r3.1) >>> (52#64).toNat) &&& (2047#64)).toNat:Int)))-1023))+1)))))
else none
else none)))
@[reducible] def cC:FnI:=AV [wU] [wV,A9] fun x=>gH x
def sC:Cx:={ nm:=[],BN:=[],fns:=nE [(228,b_),(229,cA),(230,R2)],loops:=[],RH:=[],tb:=bL,exts:=[(40,.S3),(231,.a8)],lets:=[] }
theorem nT:CV 209 cC:=okW sC [.tmp 2,.tmp 3] 38 0 (AN (.cons nR (.cons nS (.cons cB AB.nil))) (.cons AK3 (.cons AIB AM.nil))) Tryz.func209
def gI (a0:Nat):Option (Nat×Int):=
Option.bind (gH a0) (fun r1=>
some ((r1.1,r1.2)))
@[reducible] def cD:FnI:=AV [wU] [wV,A9] fun x=>gI x
def sD:Cx:=AP [] [] [(209,cC)] [] []
theorem nU:CV 175 cD:=okW sD [.tmp 2,.tmp 3] 12 0 (AN (.cons nT AB.nil) AM.nil) Tryz.func175
def JF (a0:Nat) (a1:Int):Option (Int×Int):=
Option.bind (KU a0) (fun r1=>
if (!r1)=true then
some ((0,6))
else if a1<1 then
some ((0,1))
else if a1>64 then
some ((0,1))
else if DZ a0 0=some .eq then
some ((0,0))
else Option.bind (gI a0) (fun r2=>
if (D_ .mul r2.1 4845873199050653696).isSome=true then
if fIn .u64 ((D_ .mul r2.1 4845873199050653696).getD 0)=true then
if True then
some ((if (AG (((((BitVec.ofInt 64 ((ZC ((D_ .mul r2.1 4845873199050653696).getD 0)).getD 0))*(BitVec.ofInt 64 a1)) >>> (BitVec.ofInt 64 (AG ((53:Int)-r2.2))).toNat).toNat:Int)))>1 then AG (((((BitVec.ofInt 64 ((ZC ((D_ .mul r2.1 4845873199050653696).getD 0)).getD 0))*(BitVec.ofInt 64 a1)) >>> (BitVec.ofInt 64 (AG ((53:Int)-r2.2))).toNat).toNat:Int)) else 1,0))
else none
else none
else none))
@[reducible] def WH:FnI:=AV [wU,AF] [A9,A9] fun x=>JF x.1 x.2
def lS:Cx:=AP [] [] [(33,QN),(175,cD)] [] []
theorem iM:CV 134 WH:=okW lS [.tmp 4,.tmp 5] 38 0 (AN (.cons V7 (.cons nU AB.nil)) AM.nil) Tryz.func134
def GO (a0:P2) (a1:Int) (a2:Int):Option (Int×Int):=
Option.bind (DN a0) (fun r1=>
if ¬r1=0 then
some ((0,1))
else if a1<0 then
some ((0,1))
else if a1≥(a0.2.1.length:Int) then
some ((0,1))
else if a2<1 then
some ((0,1))
else if a2>64 then
some ((0,1))
else if 0<=a1/\a1<(a0.2.1.length:Int) then
Option.bind (JF ((gl ((0,0,0,0):BY) a0.2.1 a1.toNat).1) a2) (fun r2=>
some ((r2.1,r2.2)))
else none)
@[reducible] def TG:FnI:=AV [V5,AF,AF] [A9,A9] fun x=>GO x.1 x.2.1 x.2.2
def sE:Cx:=AP [(3,(1,1))] [] [(12,ED),(134,WH)] [] []
theorem YK:CV 86 TG:=okW sE [.tmp 6,.tmp 7] 40 1 (AN (.cons FA (.cons iM AB.nil)) AM.nil) Tryz.func86
def Z7 (a0:AY) (a1:AA) (a2:Int):Option Bool:=
if a2=0 then
some (true)
else Option.bind (MW a0) (fun r1=>
some (decide (a1.2.2.2.2<(AG (a2*r1)))))
@[reducible] def WI:FnI:=AV [BG,JX,AF] [D1] fun x=>Z7 x.1 x.2.1 x.2.2
def w8:Cx:=AP [(3,(2,1)),(4,(3,1))] [] [(135,NU)] [] []
theorem cE:CV 87 WI:=okW w8 [.tmp 6] 18 2 (AN (.cons QL AB.nil) AM.nil) Tryz.func87
def gJ (a0:(List AA)) (a1:AA):Option Bool:=
AS (σ:=Int) (β:=Bool) (fun s1=>
if s1<(a0.length:Int) then
if 0<=s1/\s1<(a0.length:Int) then
if ((gl ((0,0,0,0,0):AA) a0 s1.toNat).1)=a1.1 then
some (Sum.inr (true))
else some (Sum.inl (AG (s1+1)))
else none
else some (Sum.inr (false))) (0)
@[reducible] def cF:FnI:=AV [V4,JX] [D1] fun x=>gJ x.1 x.2
def sF:Cx:=AP [(3,(1,1)),(6,(2,1))] [] [] [(0,BD [(9,AF)] [] [] (DW [(4,1),(6,1),(10,9)]) [] 2)] []
theorem nV:CV 88 cF:=okW sF [.tmp 4] 19 2 (AN AB.nil AM.nil) Tryz.func88
def cG (a0:BZ) (a1:(List AA)):Option (AA×Int):=
if (a1.length:Int)=0 then
some (((0,0,0,0,0),1))
else AS (σ:=U4) (β:=(AA×Int)) (fun s1=>
if s1.2<(a1.length:Int) then
if 0<=s1.2/\s1.2<(a1.length:Int) then
Option.bind (Z3 a0.2.2.1 ((gl ((0,0,0,0,0):AA) a1 s1.2.toNat).1)) (fun r1=>
if (!r1.2)=true then
some (Sum.inr (((0,0,0,0,0),1)))
else if (!(jU [decide (r1.1.1=((gl ((0,0,0,0,0):AA) a1 s1.2.toNat).1)),decide (r1.1.2.1=(((gl ((0,0,0,0,0):AA) a1 s1.2.toNat).2).1)),decide (r1.1.2.2.1=((((gl ((0,0,0,0,0):AA) a1 s1.2.toNat).2).2).1)),decide (r1.1.2.2.2.1=(((((gl ((0,0,0,0,0):AA) a1 s1.2.toNat).2).2).2).1)),decide (r1.1.2.2.2.2=(((((gl ((0,0,0,0,0):AA) a1 s1.2.toNat).2).2).2).2))]))=true then
some (Sum.inr (((0,0,0,0,0),1)))
else if 0<=(0:Int)/\(0:Int)<(a1.length:Int) then
if ¬(((gl ((0,0,0,0,0):AA) a1 s1.2.toNat).2).1)=(((gl ((0,0,0,0,0):AA) a1 ((0:Int).toNat)).2).1) then
some (Sum.inr (((0,0,0,0,0),1)))
else if (s1.1.length+([(gl ((0,0,0,0,0):AA) a1 s1.2.toNat).1]:List Int).length)*8<=140737488355328 then
some (Sum.inl ((s1.1++([(gl ((0,0,0,0,0):AA) a1 s1.2.toNat).1]:List Int),AG (s1.2+1))))
else none
else none)
else none
else Option.map Sum.inr (Option.bind (YJ a0.2.2.1 s1.1) (fun r2=>
if (!r2)=true then
some (((0,0,0,0,0),1))
else if 0<=(0:Int)/\(0:Int)<(a1.length:Int) then
if (((gl ((0,0,0,0,0):AA) a1 ((0:Int).toNat)).2).1)≥(a0.1.2.1.length:Int) then
some (((0,0,0,0,0),1))
else if 0<=(0:Int)/\(0:Int)<(a1.length:Int) then
if 0<=(((gl ((0,0,0,0,0):AA) a1 ((0:Int).toNat)).2).1)/\(((gl ((0,0,0,0,0):AA) a1 ((0:Int).toNat)).2).1)<(a0.1.2.1.length:Int) then
Option.bind (GO a0.1 ((((gl ((0,0,0,0):BY) a0.1.2.1 ((((gl ((0,0,0,0,0):AA) a1 ((0:Int).toNat)).2).1).toNat)).2).2).2) (a0.2.1.2.2.length:Int)) (fun r3=>
if ¬r3.2=0 then
some (((0,0,0,0,0),1))
else Option.bind (F7 a0.2.2.1 ((((gl ((0,0,0,0):BY) a0.1.2.1 ((((gl ((0,0,0,0,0):AA) a1 ((0:Int).toNat)).2).1).toNat)).2).2).2)) (fun r4=>
if r4.2=true then
Option.bind (Z7 a0.2.1 r4.1 r3.1) (fun r5=>
if r5=true then
Option.bind (gJ a1 r4.1) (fun r6=>
if (!r6)=true then
some ((r4.1,0))
else some (((a0.2.2.2.1,(((gl ((0,0,0,0):BY) a0.1.2.1 ((((gl ((0,0,0,0,0):AA) a1 ((0:Int).toNat)).2).1).toNat)).2).2).2,(-1),(-1),0),0)))
else some (((a0.2.2.2.1,(((gl ((0,0,0,0):BY) a0.1.2.1 ((((gl ((0,0,0,0,0):AA) a1 ((0:Int).toNat)).2).1).toNat)).2).2).2,(-1),(-1),0),0)))
else some (((a0.2.2.2.1,(((gl ((0,0,0,0):BY) a0.1.2.1 ((((gl ((0,0,0,0,0):AA) a1 ((0:Int).toNat)).2).1).toNat)).2).2).2,(-1),(-1),0),0))))
else none
else none
else none))) (([],0))
@[reducible] def YL:FnI:=AV [D8,V4] [pY,A9] fun x=>cG x.1 x.2
def nW:Cx:=AP [(2,(8,1)),(4,(9,1)),(8,(11,1)),(9,(12,1)),(14,(15,1)),(54,(13,1)),(55,(14,1))] [55] [(52,HJ),(84,WD),(85,WG),(86,TG),(87,WI),(88,cF)] [(0,BD [(6,B3),(22,AF)] [] [] (DW [(5,1),(8,3),(23,34)]) [] 10)] []
theorem lT:CV 55 YL:=okW nW [.cell 4 104,.tmp 5] 124 8 (AN (.cons IU (.cons bZ (.cons iL (.cons YK (.cons cE (.cons nV AB.nil)))))) AM.nil) Tryz.func55
def XQ (a0:AY) (a1:(List AA)):Option (BitVec 64):=
AS (σ:=X3) (β:=(BitVec 64)) (fun s1=>
if s1.2<(a0.2.2.length:Int) then
if 0<=s1.2/\s1.2<(a0.2.2.length:Int) then
AS (σ:=X3) (β:=(X3 ⊕ (BitVec 64))) (fun s2=>
if s2.2<(a1.length:Int) then
if 0<=s2.2/\s2.2<(a1.length:Int) then
if ((gl ((0,0,0):B7) a0.2.2 s1.2.toNat).1)=((gl ((0,0,0,0,0):AA) a1 s2.2.toNat).1) then
if s1.2<64 then
if True then
some (Sum.inl ((s2.1|||((1#64) <<< (BitVec.ofInt 64 s1.2).toNat),AG (s2.2+1))))
else none
else some (Sum.inl ((s2.1,AG (s2.2+1))))
else some (Sum.inl ((s2.1,AG (s2.2+1))))
else none
else some (Sum.inr (Sum.inl ((s2.1,AG (s1.2+1)))))) ((s1.1,0))
else none
else some (Sum.inr (s1.1))) ((0#64,0))
@[reducible] def TH:FnI:=AV [BG,V4] [FV] fun x=>XQ x.1 x.2
def z0:Cx:=AP [(2,(3,1)),(7,(4,1)),(9,(5,1))] [] [] [(0,BD [(5,EO),(13,AF)] [] [] (DW [(6,2),(9,1),(14,26)]) [] 4),(2,BD [(5,EO),(20,AF)] [] [] (DW [(9,1),(21,18)]) [] 5)] []
theorem WJ:CV 89 TH:=okW z0 [.tmp 4] 41 3 (AN AB.nil AM.nil) Tryz.func89
def TI (a0:AY) (a1:(BitVec 64)) (a2:(BitVec 64)):Option Bool:=
if ¬a2=(0#64) then
if a2.toNat<=(BitVec.ofInt 64 (a0.2.1.length:Int)).toNat then
if True then
if 0<=((AG (((a2-(1#64)).toNat:Int))) / 2 ^ min (BitVec.ofInt 64 a0.1).toNat 64) then
some (decide (((a1 >>> ((AG (((a2-(1#64)).toNat:Int))) / 2 ^ min (BitVec.ofInt 64 a0.1).toNat 64).toNat) &&& (1#64))=(1#64)))
else none
else none
else some (false)
else some (false)
@[reducible] def QR:FnI:=AV [BG,EO,EO] [D1] fun x=>TI x.1 x.2.1 x.2.2
def nX:Cx:=AP [(3,(2,1))] [] [] [] []
theorem WK:CV 90 QR:=okW nX [.tmp 6] 30 1 (AN AB.nil AM.nil) Tryz.func90
def YM (a0:AY) (a1:RR) (a2:(List AA)):Option (List Int):=
Option.bind (XQ a0 a2) (fun r1=>
AS (σ:=U4) (β:=(List Int)) (fun s1=>
if s1.2<(a1.2.length:Int) then
if 0<=s1.2/\s1.2<(a1.2.length:Int) then
if s1.2<(a1.1.length:Int) then
if 0<=s1.2/\s1.2<(a1.1.length:Int) then
if (gl (false:Bool) a1.1 s1.2.toNat)=true then
Option.bind (TI a0 r1 (gl (0#64:(BitVec 64)) a1.2 s1.2.toNat)) (fun r2=>
if r2=true then
if (s1.1.length+([AG (s1.2+1)]:List Int).length)*8<=140737488355328 then
some (Sum.inl ((s1.1++([AG (s1.2+1)]:List Int),AG (s1.2+1))))
else none
else some (Sum.inl ((s1.1,AG (s1.2+1)))))
else some (Sum.inl ((s1.1,AG (s1.2+1))))
else none
else some (Sum.inl ((s1.1,AG (s1.2+1))))
else none
else some (Sum.inr (s1.1))) (([],0)))
@[reducible] def WL:FnI:=AV [BG,fZ,V4] [B3] fun x=>YM x.1 x.2.1 x.2.2
def lU:Cx:=AP [(3,(5,1)),(4,(6,1)),(43,(8,1)),(44,(9,1))] [44] [(89,TH),(90,QR)] [(0,BD [(8,B3),(17,AF)] [] [] (DW [(9,2),(18,28)]) [] 7)] []
theorem iN:CV 56 WL:=okW lU [.tmp 6] 47 5 (AN (.cons WJ (.cons WK AB.nil)) AM.nil) Tryz.func56
def NZ (a0:AY) (a1:(List AA)):Option (List Int):=
Option.bind (XQ a0 a1) (fun r1=>
AS (σ:=((List Int)×(BitVec 64))) (β:=(List Int)) (fun s1=>
if ¬s1.2=(0#64) then
Option.bind (C2 s1.2) (fun r2=>
if (s1.1.length+([r2]:List Int).length)*8<=140737488355328 then
some (Sum.inl ((s1.1++([r2]:List Int),s1.2 &&& (s1.2-(1#64)))))
else none)
else some (Sum.inr (s1.1))) (([],r1)))
@[reducible] def MG:FnI:=AV [BG,V4] [B3] fun x=>NZ x.1 x.2
def nY:Cx:=AP [(2,(3,1)),(19,(5,1)),(20,(6,1))] [20] [(82,CZ),(89,TH)] [(0,BD [(5,B3),(6,EO)] [] [] (DW [(10,11)]) [] 4)] []
theorem OU:CV 92 MG:=okW nY [.tmp 4] 22 4 (AN (.cons D2 (.cons WJ AB.nil)) AM.nil) Tryz.func92
def LI (a0:(List Int)) (a1:Int):Option Int:=
AS (σ:=Int) (β:=Int) (fun s1=>
if s1<(a0.length:Int) then
if 0<=s1/\s1<(a0.length:Int) then
if a1=(gl (0:Int) a0 s1.toNat) then
some (Sum.inr (s1))
else some (Sum.inl (AG (s1+1)))
else none
else some (Sum.inr ((-1)))) (0)
@[reducible] def KY:FnI:=AV [YD,AF] [A9] fun x=>LI x.1 x.2
def TJ:Cx:=AP [] [] [] [(0,BD [(8,AF)] [] [] (DW [(4,2),(9,10)]) [] 1)] []
theorem R3:CV 176 KY:=okW TJ [.tmp 4] 19 0 (AN AB.nil AM.nil) Tryz.func176
def CO (a0:(List Int)) (a1:Int):Option Bool:=
Option.bind (LI a0 a1) (fun r1=>
some (decide (r1≥0)))
@[reducible] def EW:FnI:=AV [YD,AF] [D1] fun x=>CO x.1 x.2
def PQ:Cx:=AP [] [] [(176,KY)] [] []
theorem IH:CV 136 EW:=okW PQ [.tmp 4] 9 0 (AN (.cons R3 AB.nil) AM.nil) Tryz.func136
def OV (a0:Int):Option Bool:=
some (decide (¬a0=a0))
@[reducible] def UE:FnI:=AV [AF] [D1] fun x=>OV x
def iO:Cx:=AP [] [] [] [] []
theorem eQ:CV 219 UE:=okW iO [.tmp 2] 6 0 (AN AB.nil AM.nil) Tryz.func219
def QS (a0:Int) (a1:Int):Option Bool:=
Option.bind (OV a0) (fun r1=>
if r1=true then
Option.bind (OV a1) (fun r2=>
if (!r2)=true then
some (true)
else some (decide (a0<a1)))
else some (decide (a0<a1)))
@[reducible] def OW:FnI:=AV [AF,AF] [D1] fun x=>QS x.1 x.2
def lV:Cx:=AP [] [] [(219,UE)] [] []
theorem UF:CV 186 OW:=okW lV [.tmp 4] 17 0 (AN (.cons eQ AB.nil) AM.nil) Tryz.func186
def FD (a0:(List Int)) (a1:Int) (a2:Int):Option (List Int):=
AS (σ:=ZW) (β:=(List Int)) (fun s1=>
if s1.1<a2 then
AS (σ:=ZW) (β:=(ZW ⊕ (List Int))) (fun s2=>
if s2.1>a1 then
if 0<=s2.1/\s2.1<(s2.2.length:Int) then
if 0<=(AG (s2.1-1))/\(AG (s2.1-1))<(s2.2.length:Int) then
Option.bind (QS (gl (0:Int) s2.2 s2.1.toNat) (gl (0:Int) s2.2 ((AG (s2.1-1)).toNat))) (fun r1=>
if r1=true then
if 0<=(AG (s2.1-1))/\(AG (s2.1-1))<(s2.2.length:Int) then
if 0<=s2.1/\s2.1<(s2.2.length:Int) then
if 0<=s2.1/\s2.1<(s2.2.length:Int) then
if 0<=(AG (s2.1-1))/\(AG (s2.1-1))<((s2.2.set s2.1.toNat (gl (0:Int) s2.2 ((AG (s2.1-1)).toNat))).length:Int) then
some (Sum.inl ((AG (s2.1-1),(s2.2.set s2.1.toNat (gl (0:Int) s2.2 ((AG (s2.1-1)).toNat))).set ((AG (s2.1-1)).toNat) (gl (0:Int) s2.2 s2.1.toNat))))
else none
else none
else none
else none
else some (Sum.inr (Sum.inl ((AG (s1.1+1),s2.2)))))
else none
else none
else some (Sum.inr (Sum.inl ((AG (s1.1+1),s2.2))))) ((s1.1,s1.2))
else some (Sum.inr (s1.2))) ((AG (a1+1),a0))
@[reducible] def EP:FnI:={ ps:=[B3,AF,AF],rs:=[],os:=[B3],bk:=[0],F:=fun x=>FD x.1 x.2.1 x.2.2 }
def J8:Cx:=AP [] [] [(186,OW)] [(0,BD [(6,AF)] [] [(0,(.int .i64))] (DW [(7,1),(10,39)]) [] 1),(2,BD [(7,AF)] [] [(0,(.int .i64))] (DW [(16,33)]) [] 1)] []
theorem JO:CV 210 EP:=okW J8 [] 49 0 (AN (.cons UF AB.nil) AM.nil) Tryz.func210
def II (a0:(List Int)) (a1:Int) (a2:Int) (a3:Int):Option (List Int):=
AS (σ:=(Int×Int×Int×Bool×Bool)) (β:=(List Int)) (fun s1=>
if (AG (s1.2.1-s1.1))<=12 then
Option.bind (FD a0 s1.1 s1.2.1) (fun r1=>
some (Sum.inr (r1)))
else if s1.2.2.1=0 then
none
else Option.bind (α:=Int ⊕ ((Int×Int×Int×Bool×Bool) ⊕ (List Int))) (if (!s1.2.2.2.1)=true then
none
else some (Sum.inl (s1.2.2.1))) (fun q=>match q with
|Sum.inl j1=>(none)
|Sum.inr b1=>some b1)) ((a1,a2,a3,true,true))
@[reducible] def H5:FnI:={ ps:=[B3,AF,AF,AF],rs:=[],os:=[B3],bk:=[0],F:=fun x=>II x.1 x.2.1 x.2.2.1 x.2.2.2 }
def N0:Cx:=AP [] [] [(210,EP)] [(0,BD [(1,AF),(2,AF),(3,AF),(8,bM),(9,bM)] [] [] (DW [(10,124)]) [] 1)] [(10,BD [(3,AF)] [] [] (DW [(34,8)]) [] 1)]
theorem M_:CV 177 H5:=okW N0 [] 134 0 (AN (.cons JO AB.nil) AM.nil) Tryz.func177
def MZ (a0:(List Int)):Option (List Int):=
Option.bind (KX (BitVec.ofInt 64 (a0.length:Int))) (fun r1=>
Option.bind (II a0 0 (a0.length:Int) r1) (fun r2=>
some (r2)))
@[reducible] def LJ:FnI:={ ps:=[B3],rs:=[],os:=[B3],bk:=[0],F:=fun x=>MZ x }
def U5:Cx:=AP [] [] [(174,JH),(177,H5)] [] []
theorem TK:CV 137 LJ:=okW U5 [] 11 0 (AN (.cons L3 (.cons M_ AB.nil)) AM.nil) Tryz.func137
def cH (a0:(List A5)) (a1:(List Int)):Option U4:=
AS (σ:=U4) (β:=U4) (fun s1=>
if s1.2<(a0.length:Int) then
if 0<=s1.2/\s1.2<(a0.length:Int) then
Option.bind (CO a1 (((gl ((0,0,[]):A5) a0 s1.2.toNat).2).1)) (fun r1=>
if r1=true then
Option.bind (CO a1 ((gl ((0,0,[]):A5) a0 s1.2.toNat).1)) (fun r2=>
if (!r2)=true then
if (s1.1.length+(((gl ((0,0,[]):A5) a0 s1.2.toNat).2).2).length)*8<=140737488355328 then
some (Sum.inl ((s1.1++(((gl ((0,0,[]):A5) a0 s1.2.toNat).2).2),AG (s1.2+1))))
else none
else some (Sum.inl ((s1.1,AG (s1.2+1)))))
else some (Sum.inl ((s1.1,AG (s1.2+1)))))
else none
else Option.map Sum.inr (Option.bind (MZ s1.1) (fun r3=>
Option.bind (F8 r3) (fun r4=>
some ((r4,(s1.1.length:Int))))))) (([],0))
@[reducible] def YN:FnI:=AV [NM,YD] [B3,A9] fun x=>cH x.1 x.2
def nZ:Cx:=AP [(8,(4,1)),(15,(3,1)),(30,(5,1)),(37,(6,1))] [30] [(133,FM),(136,EW),(137,LJ)] [(0,BD [(6,B3),(12,AF)] [] [] (DW [(8,1),(13,19)]) [] 2)] []
theorem lW:CV 91 YN:=okW nZ [.tmp 4,.tmp 5] 39 5 (AN (.cons IY (.cons IH (.cons TK AB.nil))) AM.nil) Tryz.func91
def YO (a0:AY) (a1:(List A5)) (a2:(List AA)):Option U4:=
Option.bind (XQ a0 a2) (fun r1=>
Option.bind (NZ a0 a2) (fun r2=>
Option.bind (cH a1 r2) (fun r3=>
AS (σ:=U4) (β:=U4) (fun s1=>
if s1.2<(r3.1.length:Int) then
if 0<=s1.2/\s1.2<(r3.1.length:Int) then
if (gl (0:Int) r3.1 s1.2.toNat)<(a0.2.1.length:Int) then
if 0<=(gl (0:Int) r3.1 s1.2.toNat)/\(gl (0:Int) r3.1 s1.2.toNat)<(a0.2.1.length:Int) then
Option.bind (TI a0 r1 (gl (0#64:(BitVec 64)) a0.2.1 ((gl (0:Int) r3.1 s1.2.toNat).toNat))) (fun r4=>
if r4=true then
if (s1.1.length+([gl (0:Int) r3.1 s1.2.toNat]:List Int).length)*8<=140737488355328 then
some (Sum.inl ((s1.1++([gl (0:Int) r3.1 s1.2.toNat]:List Int),AG (s1.2+1))))
else none
else some (Sum.inl ((s1.1,AG (s1.2+1)))))
else none
else some (Sum.inl ((s1.1,AG (s1.2+1))))
else none
else some (Sum.inr ((s1.1,r3.2)))) (([],0)))))
@[reducible] def WM:FnI:=AV [BG,NM,V4] [B3,A9] fun x=>YO x.1 x.2.1 x.2.2
def lX:Cx:=AP [(3,(4,1)),(21,(5,1)),(22,(6,1)),(48,(8,1)),(49,(9,1))] [49] [(89,TH),(90,QR),(91,YN),(92,MG)] [(0,BD [(11,B3),(27,AF)] [] [] (DW [(13,1),(28,23)]) [] 7)] []
theorem iP:CV 57 WM:=okW lX [.tmp 6,.tmp 7] 53 6 (AN (.cons WJ (.cons WK (.cons lW (.cons OU AB.nil)))) AM.nil) Tryz.func57
def IV (a0:Int):Option pX:=
some (((0,[],[]),(0,0,0,0,0),[],[],a0))
@[reducible] def P8:FnI:=AV [AF] [OP,pY,⟨(.slice wR),false,true,false⟩,lJ,A9] fun x=>IV x
def cI:Cx:=AP [(2,(0,1)),(3,(1,1))] [] [] [] []
theorem Z8:CV 93 P8:=okW cI [.cell 2 33,.cell 3 104,.tmp 4,.tmp 5,.tmp 6] 10 2 (AN AB.nil AM.nil) Tryz.func93
def UG (a0:Int) (a1:Int) (a2:(List Int)):Option (Bool×(List Int)):=
if (a2.length+([a0]:List Int).length)*8<=140737488355328 then
some ((true,a2++([a0]:List Int)))
else none
@[reducible] def R4:FnI:={ ps:=[AF,AF,YE],rs:=[D1],os:=[YE],bk:=[0],F:=fun x=>UG x.1 x.2.1 x.2.2 }
def eR:Cx:=AP [(8,(2,1)),(9,(3,1))] [9] [] [] []
theorem cJ:CV 179 R4:=okW eR [.tmp 5] 10 2 (AN AB.nil AM.nil) Tryz.func179
def OX (a0:AY):Option Bool:=
Option.bind (KO a0.1) (fun r1=>
if r1=true then
some (decide ((a0.2.2.length:Int)<=64))
else some (false))
@[reducible] def NA:FnI:=AV [BG] [D1] fun x=>OX x
def iQ:Cx:=AP [(1,(2,1))] [] [(24,JC)] [] []
theorem R5:CV 194 NA:=okW iQ [.tmp 2] 12 1 (AN (.cons KP AB.nil) AM.nil) Tryz.func194
def M0 (a0:AY) (a1:Int):Option (Int×Int):=
Option.bind (OX a0) (fun r1=>
if (!r1)=true then
some ((0,1))
else if a1<0 then
some ((0,2))
else if a1≥(a0.2.2.length:Int) then
some ((0,2))
else if True then
some ((AG (a1*2 ^ min (BitVec.ofInt 64 a0.1).toNat 64),0))
else none)
@[reducible] def N1:FnI:=AV [BG,AF] [A9,A9] fun x=>M0 x.1 x.2
def sG:Cx:=AP [(2,(2,1))] [] [(194,NA)] [] []
theorem QT:CV 162 N1:=okW sG [.tmp 4,.tmp 5] 23 1 (AN (.cons R5 AB.nil) AM.nil) Tryz.func162
def FE (a0:AY) (a1:Int) (a2:Int):Option (Int×Int):=
Option.bind (CR a0) (fun r1=>
if (!r1)=true then
some ((0,1))
else if a1<0 then
some ((0,2))
else if a1≥(a0.2.1.length:Int) then
some ((0,2))
else if a2<0 then
some ((0,2))
else if True then
Option.bind (MW a0) (fun r2=>
Option.bind (MW a0) (fun r3=>
Option.bind (MY a0 (a1 / 2 ^ min (BitVec.ofInt 64 a0.1).toNat 64)) (fun r4=>
if r4=true then
some ((0,5))
else if a2>(a0.2.1.length:Int) then
some ((0,2))
else AS (σ:=(Int×Int)) (β:=(Int×Int)) (fun s1=>
if s1.1≥0 then
if s1.2<r3 then
if True then
some (Sum.inr ((AG ((AG (s1.1*2 ^ min (BitVec.ofInt 64 a0.1).toNat 64))+s1.2),0)))
else none
else if 0<=s1.1/\s1.1<(a0.2.2.length:Int) then
some (Sum.inl ((((gl ((0,0,0):B7) a0.2.2 s1.1.toNat).2).2,AG (s1.2-r3))))
else none
else some (Sum.inr ((0,2)))) ((a1 / 2 ^ min (BitVec.ofInt 64 a0.1).toNat 64,AG ((oQ .and a1 (AG (r2-1)))+a2))))))
else none)
@[reducible] def G6:FnI:=AV [BG,AF,AF] [A9,A9] fun x=>FE x.1 x.2.1 x.2.2
def sH:Cx:=AP [(3,(2,1))] [] [(78,B_),(135,NU),(172,NY)] [(0,BD [(11,AF),(12,AF)] [] [] (DW [(6,2),(53,21)]) [] 3)] []
theorem HS:CV 163 G6:=okW sH [.tmp 6,.tmp 7] 74 1 (AN (.cons B8 (.cons QL (.cons QP AB.nil))) AM.nil) Tryz.func163
def WN (a0:Int) (a1:Int):Option Bool:=
if a0≥0 then
if a1≥0 then
if a0<=64 then
some (decide (a1<=(AG ((64:Int)-a0))))
else some (false)
else some (false)
else some (false)
@[reducible] def TL:FnI:=AV [AF,AF] [D1] fun x=>WN x.1 x.2
def sI:Cx:=AP [] [] [] [] []
theorem YP:CV 153 TL:=okW sI [.tmp 4] 21 0 (AN AB.nil AM.nil) Tryz.func153
def TM (a0:Int):Option (BitVec 64):=
if a0<0 then
some (0#64)
else if True then
some (~~~((18446744073709551615#64) <<< (BitVec.ofInt 64 a0).toNat))
else none
@[reducible] def P9:FnI:=AV [AF] [FV] fun x=>TM x
def w9:Cx:=AP [] [] [] [] []
theorem TN:CV 155 P9:=okW w9 [.tmp 2] 9 0 (AN AB.nil AM.nil) Tryz.func155
def XR (a0:(BitVec 64)) (a1:Int) (a2:Int):Option X3:=
Option.bind (WN a1 a2) (fun r1=>
if (!r1)=true then
some ((0#64,1))
else if True then
Option.bind (TM a2) (fun r2=>
some (((a0 >>> (BitVec.ofInt 64 a1).toNat) &&& r2,0)))
else none)
@[reducible] def lY:FnI:=AV [EO,AF,AF] [FV,A9] fun x=>XR x.1 x.2.1 x.2.2
def z3:Cx:=AP [] [] [(153,TL),(155,P9)] [] []
theorem w_:CV 142 lY:=okW z3 [.tmp 6,.tmp 7] 19 0 (AN (.cons YP (.cons TN AB.nil)) AM.nil) Tryz.func142
def F9 (a0:(BitVec 64)):Option (Int×Int×Int×Bool×Int):=
if (a0 &&& (1#64))=(1#64) then
Option.bind (XR a0 1 63) (fun r1=>
if r1.1.toNat>(16383#64).toNat then
some ((0,0,0,false,12))
else some ((0,0,AG ((r1.1.toNat:Int)),true,0)))
else Option.bind (XR a0 1 7) (fun r2=>
Option.bind (XR a0 8 56) (fun r3=>
if r2.1.toNat>(15#64).toNat then
some ((0,0,0,false,12))
else if r3.1.toNat<((1#64)+r2.1).toNat then
some ((0,0,0,false,12))
else if r3.1.toNat>(((1#64)+r2.1)+(32#64)).toNat then
some ((0,0,0,false,12))
else some ((AG ((r2.1.toNat:Int)),AG ((((r3.1-(1#64))-r2.1).toNat:Int)),0,false,0))))
@[reducible] def FB:FnI:=AV [EO] [A9,A9,A9,D1,A9] fun x=>F9 x
def iR:Cx:=AP [] [] [(142,lY)] [] []
theorem F_:CV 96 FB:=okW iR [.tmp 2,.tmp 3,.tmp 4,.tmp 5,.tmp 6] 57 0 (AN (.cons w_ AB.nil) AM.nil) Tryz.func96
def IZ (a0:AY) (a1:AA) (a2:(List Int)):Option ZW:=
Option.bind (GN a0 a1) (fun r1=>
if (!r1)=true then
some ((1,a2))
else if a1.2.2.2.2=0 then
some ((0,a2))
else Option.bind (M0 a0 a1.2.2.1) (fun r2=>
AS (σ:=ZW) (β:=ZW) (fun s1=>
if s1.1<a1.2.2.2.2 then
Option.bind (FE a0 r2.1 s1.1) (fun r3=>
if ¬r3.2=0 then
some (Sum.inr ((12,s1.2)))
else if 0<=r3.1/\r3.1<(a0.2.1.length:Int) then
Option.bind (F9 (gl (0#64:(BitVec 64)) a0.2.1 r3.1.toNat)) (fun r4=>
if ¬r4.2.2.2.2=0 then
some (Sum.inr ((12,s1.2)))
else if r4.2.2.2.1=true then
some (Sum.inr ((12,s1.2)))
else if (AG ((AG ((1:Int)+r4.1))+r4.2.1))>(AG (a1.2.2.2.2-s1.1)) then
some (Sum.inr ((12,s1.2)))
else Option.bind (UG r3.1 (AG ((AG ((1:Int)+r4.1))+r4.2.1)) s1.2) (fun r5=>
if (!r5.1)=true then
some (Sum.inr ((0,r5.2)))
else some (Sum.inl ((AG (s1.1+(AG ((AG ((1:Int)+r4.1))+r4.2.1))),r5.2)))))
else none)
else some (Sum.inr ((0,s1.2)))) ((0,a2))))
@[reducible] def IJ:FnI:={ ps:=[BG,JX,YE],rs:=[A9],os:=[YE],bk:=[2],sh:=[.one,.one,.NP 179 1],F:=fun x=>IZ x.1 x.2.1 x.2.2 }
def OY:Cx:=AP [(3,(4,1)),(4,(5,1)),(76,(6,1))] [] [(79,GZ),(96,FB),(162,N1),(163,G6),(179,R4)] [(0,BD [(9,AF)] [(2,B3)] [] (DW [(6,1),(10,7),(31,50)]) [3] 7)] []
theorem N2:CV 178 IJ:=okW OY [.tmp 6] 81 4 (AN (.cons HR (.cons F_ (.cons QT (.cons HS (.cons cJ AB.nil))))) AM.nil) Tryz.func178
def YQ (a0:AY) (a1:AA):Option U4:=
Option.bind (IZ a0 a1 []) (fun r1=>
if ¬r1.1=0 then
some (([],r1.1))
else some ((r1.2,0)))
@[reducible] def WO:FnI:=AV [BG,JX] [B3,A9] fun x=>YQ x.1 x.2
def lZ:Cx:=AP [(2,(2,1)),(3,(3,1)),(6,(4,1)),(11,(5,1))] [] [(178,IJ)] [] []
theorem iS:CV 138 WO:=okW lZ [.tmp 4,.tmp 5] 16 4 (AN (.cons N2 AB.nil) AM.nil) Tryz.func138
def UH (a0:AY) (a1:(List AA)) (a2:AA):Option Int:=
Option.bind (CR a0) (fun r1=>
if (!r1)=true then
some (1)
else AS (σ:=(Int×(List (Int×Bool)))) (β:=Int) (fun s1=>
if s1.1<(a1.length:Int) then
if 0<=s1.1/\s1.1<(a1.length:Int) then
Option.bind (YQ a0 ((gl ((0,0,0,0,0):AA) a1 s1.1.toNat).1,((gl ((0,0,0,0,0):AA) a1 s1.1.toNat).2).1,(((gl ((0,0,0,0,0):AA) a1 s1.1.toNat).2).2).1,((((gl ((0,0,0,0,0):AA) a1 s1.1.toNat).2).2).2))) (fun r2=>
if ¬r2.2=0 then
some (Sum.inr (1))
else if (((((gl ((0,0,0,0,0):AA) a1 s1.1.toNat).2).2).2).2)=0 then
some (Sum.inr (1))
else if ((PO s1.2 ((gl ((0,0,0,0,0):AA) a1 s1.1.toNat).1)).getD false)=true then
some (Sum.inr (1))
else some (Sum.inl ((AG (s1.1+1),hY s1.2 ((gl ((0,0,0,0,0):AA) a1 s1.1.toNat).1) true))))
else none
else Option.map Sum.inr (Option.bind (GN a0 a2) (fun r3=>
if (!r3)=true then
some (1)
else if ((PO s1.2 a2.1).getD false)=true then
some (1)
else AS (σ:=Int) (β:=Int) (fun s2=>
if s2<(a0.2.2.length:Int) then
if 0<=s2/\s2<(a0.2.2.length:Int) then
if a2.2.2.2.2=0 then
if ((gl ((0,0,0):B7) a0.2.2 s2.toNat).1)=a2.1 then
some (Sum.inr (1))
else some (Sum.inl (AG (s2+1)))
else some (Sum.inl (AG (s2+1)))
else none
else some (Sum.inr (0))) (0)))) ((0,([]:List (Int×Bool)))))
@[reducible] def R6:FnI:=AV [BG,V4,JX] [A9] fun x=>UH x.1 x.2.1 x.2.2
def eS:Cx:=AP [(3,(3,1)),(5,(4,1)),(9,(6,1)),(13,(8,1)),(17,(5,1)),(27,(7,1))] [] [(78,B_),(79,GZ),(138,WO)] [(0,BD [(20,AF)] [] [(5,.kv)] (DW [(6,1),(9,3),(21,26)]) [] 6),(2,BD [(60,AF)] [] [] (DW [(6,1),(13,1),(61,14)]) [] 8)] []
theorem cK:CV 94 R6:=okW eS [.tmp 6] 75 6 (AN (.cons B8 (.cons HR (.cons iS AB.nil))) AM.nil) Tryz.func94
def OE (a0:AY) (a1:Int) (a2:Int):Option Int:=
if True then
if True then
AS (σ:=(Int×Int)) (β:=Int) (fun s1=>
if s1.2≥0 then
if s1.1<(AG ((1:Int)*2 ^ min (BitVec.ofInt 64 a0.1).toNat 64)) then
if True then
some (Sum.inr (AG ((AG (s1.2*2 ^ min (BitVec.ofInt 64 a0.1).toNat 64))+s1.1)))
else none
else if 0<=s1.2/\s1.2<(a0.2.2.length:Int) then
some (Sum.inl ((AG (s1.1-(AG ((1:Int)*2 ^ min (BitVec.ofInt 64 a0.1).toNat 64))),((gl ((0,0,0):B7) a0.2.2 s1.2.toNat).2).2)))
else none
else some (Sum.inr ((-1)))) ((AG ((oQ .and a1 (AG ((AG ((1:Int)*2 ^ min (BitVec.ofInt 64 a0.1).toNat 64))-1)))+a2),a1 / 2 ^ min (BitVec.ofInt 64 a0.1).toNat 64))
else none
else none
@[reducible] def TO:FnI:=AV [BG,AF,AF] [A9] fun x=>OE x.1 x.2.1 x.2.2
def z4:Cx:=AP [(3,(2,1))] [] [] [(0,BD [(8,AF),(9,AF)] [] [] (DW [(6,1),(25,21)]) [] 3)] []
theorem WQ:CV 97 TO:=okW z4 [.tmp 6] 46 1 (AN AB.nil AM.nil) Tryz.func97
def cL (a0:AY):Option Int:=
AS (σ:=(Int×Int)) (β:=Int) (fun s1=>
if s1.2<(a0.2.2.length:Int) then
if 0<=s1.2/\s1.2<(a0.2.2.length:Int) then
if ((gl ((0,0,0):B7) a0.2.2 s1.2.toNat).1)=(-1) then
some (Sum.inl ((AG (s1.1+1),AG (s1.2+1))))
else some (Sum.inl ((s1.1,AG (s1.2+1))))
else none
else some (Sum.inr (s1.1))) ((0,0))
@[reducible] def YR:FnI:=AV [BG] [A9] fun x=>cL x
def n5:Cx:=AP [(1,(2,1)),(5,(3,1))] [] [] [(0,BD [(3,AF),(9,AF)] [] [] (DW [(5,1),(10,9)]) [] 3)] []
theorem l0:CV 180 YR:=okW n5 [.tmp 2] 20 2 (AN AB.nil AM.nil) Tryz.func180
def gK (a0:AY):Option Int:=
AS (σ:=Int) (β:=Int) (fun s1=>
if s1<(a0.2.2.length:Int) then
if 0<=s1/\s1<(a0.2.2.length:Int) then
if ((gl ((0,0,0):B7) a0.2.2 s1.toNat).1)=(-1) then
some (Sum.inr (s1))
else some (Sum.inl (AG (s1+1)))
else none
else some (Sum.inr ((-1)))) (0)
@[reducible] def cM:FnI:=AV [BG] [A9] fun x=>gK x
def sJ:Cx:=AP [(1,(2,1)),(4,(3,1))] [] [] [(0,BD [(8,AF)] [] [] (DW [(2,3),(9,9)]) [] 3)] []
theorem n6:CV 181 cM:=okW sJ [.tmp 2] 18 2 (AN AB.nil AM.nil) Tryz.func181
def gL (a0:AY) (a1:AA) (a2:Int):Option (Int×Bool×QK×(List B7)×AA):=
if True then
if True then
if True then
Option.bind (cL a0) (fun r1=>
if r1<(AG (((AG ((AG ((AG (a1.2.2.2.2+a2))+(AG ((1:Int)*2 ^ min (BitVec.ofInt 64 a0.1).toNat 64))))-1)) / 2 ^ min (BitVec.ofInt 64 a0.1).toNat 64)-((AG ((AG (a1.2.2.2.2+(AG ((1:Int)*2 ^ min (BitVec.ofInt 64 a0.1).toNat 64))))-1)) / 2 ^ min (BitVec.ofInt 64 a0.1).toNat 64))) then
some ((0,false,a0.2.1,a0.2.2,a1))
else AS (σ:=(Int×AA×(List B7))) (β:=(Int×Bool×QK×(List B7)×AA)) (fun s1=>
if s1.1>0 then
Option.bind (gK (a0.1,a0.2.1,s1.2.2)) (fun r2=>
if 0<=r2/\r2<(s1.2.2.length:Int) then
if s1.2.1.2.2.2.1≥0 then
if 0<=s1.2.1.2.2.2.1/\s1.2.1.2.2.2.1<((s1.2.2.set r2.toNat (s1.2.1.1,AG ((AG (s1.2.1.2.1*4294967296))+s1.2.1.1),(-1))).length:Int) then
some (Sum.inl ((AG (s1.1-1),(s1.2.1.1,s1.2.1.2.1,s1.2.1.2.2.1,r2,s1.2.1.2.2.2.2),(s1.2.2.set r2.toNat (s1.2.1.1,AG ((AG (s1.2.1.2.1*4294967296))+s1.2.1.1),(-1))).set s1.2.1.2.2.2.1.toNat ((gl ((0,0,0):B7) (s1.2.2.set r2.toNat (s1.2.1.1,AG ((AG (s1.2.1.2.1*4294967296))+s1.2.1.1),(-1))) s1.2.1.2.2.2.1.toNat).1,((gl ((0,0,0):B7) (s1.2.2.set r2.toNat (s1.2.1.1,AG ((AG (s1.2.1.2.1*4294967296))+s1.2.1.1),(-1))) s1.2.1.2.2.2.1.toNat).2).1,r2))))
else none
else some (Sum.inl ((AG (s1.1-1),(s1.2.1.1,s1.2.1.2.1,r2,r2,s1.2.1.2.2.2.2),s1.2.2.set r2.toNat (s1.2.1.1,AG ((AG (s1.2.1.2.1*4294967296))+s1.2.1.1),(-1)))))
else none)
else Option.map Sum.inr (if True then
Option.bind (OE (a0.1,a0.2.1,s1.2.2) (AG (s1.2.1.2.2.1*2 ^ min (BitVec.ofInt 64 a0.1).toNat 64)) s1.2.1.2.2.2.2) (fun r3=>
some ((r3,true,a0.2.1,s1.2.2,(s1.2.1.1,s1.2.1.2.1,s1.2.1.2.2.1,s1.2.1.2.2.2.1,AG (s1.2.1.2.2.2.2+a2)))))
else none)) ((AG (((AG ((AG ((AG (a1.2.2.2.2+a2))+(AG ((1:Int)*2 ^ min (BitVec.ofInt 64 a0.1).toNat 64))))-1)) / 2 ^ min (BitVec.ofInt 64 a0.1).toNat 64)-((AG ((AG (a1.2.2.2.2+(AG ((1:Int)*2 ^ min (BitVec.ofInt 64 a0.1).toNat 64))))-1)) / 2 ^ min (BitVec.ofInt 64 a0.1).toNat 64)),a1,a0.2.2)))
else none
else none
else none
@[reducible] def cN:FnI:={ ps:=[OP,⟨fY,true,false,true⟩,AF],rs:=[A9,D1],os:=[lJ,⟨AI9,false,true,false⟩,⟨fY,true,false,true⟩],bk:=[0,1,2],F:=fun x=>gL x.1 x.2.1 x.2.2 }
def sK:Cx:=AP [(3,(3,1))] [] [(97,TO),(180,YR),(181,cM)] [(0,BD [(10,AF)] [(2,JX)] [(1,lH)] (DW [(11,1),(47,47)]) [] 4)] []
theorem n7:CV 140 cN:=okW sK [.tmp 6,.tmp 7] 117 1 (AN (.cons WQ (.cons l0 (.cons n6 AB.nil))) AM.nil) Tryz.func140
def l4 (a0:(BitVec 64)) (a1:Int):Option Bool:=
Option.bind (TM a1) (fun r1=>
some (decide ((a0 &&& ~~~r1)=(0#64))))
@[reducible] def gM:FnI:=AV [EO,AF] [D1] fun x=>l4 x.1 x.2
def xA:Cx:=AP [] [] [(155,P9)] [] []
theorem sL:CV 154 gM:=okW xA [.tmp 4] 10 0 (AN (.cons TN AB.nil) AM.nil) Tryz.func154
def XS (a0:(BitVec 64)) (a1:Int) (a2:Int) (a3:(BitVec 64)):Option X3:=
Option.bind (WN a1 a2) (fun r1=>
if (!r1)=true then
some ((0#64,1))
else Option.bind (l4 a3 a2) (fun r2=>
if (!r2)=true then
some ((0#64,3))
else Option.bind (TM a2) (fun r3=>
if True then
if True then
some (((a0 &&& ~~~(r3 <<< (BitVec.ofInt 64 a1).toNat))|||(a3 <<< (BitVec.ofInt 64 a1).toNat),0))
else none
else none)))
@[reducible] def Z9:FnI:=AV [EO,AF,AF,EO] [FV,A9] fun x=>XS x.1 x.2.1 x.2.2.1 x.2.2.2
def z5:Cx:=AP [] [] [(153,TL),(154,gM),(155,P9)] [] []
theorem gN:CV 106 Z9:=okW z5 [.tmp 8,.tmp 9] 30 0 (AN (.cons YP (.cons sL (.cons TN AB.nil))) AM.nil) Tryz.func106
def UI (a0:Int):Option X3:=
if a0<0 then
some ((0#64,2))
else if a0>16383 then
some ((0#64,2))
else Option.bind (XS (1#64) 1 32 (BitVec.ofInt 64 a0)) (fun r1=>
some ((r1.1,0)))
@[reducible] def R7:FnI:=AV [AF] [FV,A9] fun x=>UI x
def eT:Cx:=AP [] [] [(106,Z9)] [] []
theorem cO:CV 141 R7:=okW eT [.tmp 2,.tmp 3] 19 0 (AN (.cons gN AB.nil) AM.nil) Tryz.func141
def HM (a0:YC) (a1:(BitVec 64)):Option (Bool×YC):=
if ¬a1=(0#64) then
if a1.toNat<=(BitVec.ofInt 64 (a0.1.2.1.length:Int)).toNat then
if True then
if 0<=((AG (((a1-(1#64)).toNat:Int))) / 2 ^ min (BitVec.ofInt 64 a0.1.1).toNat 64) then
some ((decide (((a0.2.1 >>> ((AG (((a1-(1#64)).toNat:Int))) / 2 ^ min (BitVec.ofInt 64 a0.1.1).toNat 64).toNat) &&& (1#64))=(1#64)),a0))
else none
else none
else some ((false,a0))
else some ((false,a0))
@[reducible] def GP:FnI:={ ps:=[ABE,EO],rs:=[D1],os:=[ABE],bk:=[0],pin:=[(1,0,1,0),(2,1,2,0),(3,2,3,0)],F:=fun x=>HM x.1 x.2 }
def M1:Cx:=AP [] [] [] [] []
theorem L4:CV 139 GP:=okW M1 [.tmp 4] 37 0 (AN AB.nil AM.nil) Tryz.func139
def HW (a0:YC) (a1:(BitVec 64)):Option ((BitVec 64)×Int×YC):=
Option.bind (HM a0 a1) (fun r1=>
if (!r1.1)=true then
some ((a1,0,r1.2))
else if 0<=(AG (((a1-(1#64)).toNat:Int)))/\(AG (((a1-(1#64)).toNat:Int)))<(r1.2.1.2.1.length:Int) then
Option.bind (F9 (gl (0#64:(BitVec 64)) r1.2.1.2.1 ((AG (((a1-(1#64)).toNat:Int))).toNat))) (fun r2=>
if ¬r2.2.2.2.2=0 then
some ((0#64,12,r1.2))
else if r2.2.2.2.1=true then
some (((BitVec.ofInt 64 r2.2.2.1)+(1#64),0,r1.2))
else Option.bind (OE r1.2.1 (AG (((a1-(1#64)).toNat:Int))) (AG ((AG ((AG ((1:Int)+r2.1))+r2.2.1))-1))) (fun r3=>
if r3<0 then
some ((0#64,12,r1.2))
else Option.bind (gL r1.2.1 r1.2.2.2.1 (AG ((AG ((1:Int)+r2.1))+r2.2.1))) (fun r4=>
if (!r4.2.1)=true then
some ((0#64,4,((r1.2.1.1,r4.2.2.1,r4.2.2.2.1),r1.2.2.1,r4.2.2.2.2,r1.2.2.2.2)))
else AS (σ:=(Int×QK)) (β:=((BitVec 64)×Int×YC)) (fun s1=>
if s1.1<(AG ((AG ((1:Int)+r2.1))+r2.2.1)) then
Option.bind (OE (r1.2.1.1,s1.2,r4.2.2.2.1) r4.1 s1.1) (fun r5=>
Option.bind (OE (r1.2.1.1,s1.2,r4.2.2.2.1) (AG (((a1-(1#64)).toNat:Int))) s1.1) (fun r6=>
if 0<=r6/\r6<(s1.2.length:Int) then
if 0<=r5/\r5<(s1.2.length:Int) then
some (Sum.inl ((AG (s1.1+1),s1.2.set r5.toNat (gl (0#64:(BitVec 64)) s1.2 r6.toNat))))
else none
else none))
else Option.map Sum.inr (Option.bind (UI r4.1) (fun r7=>
if 0<=(AG (((a1-(1#64)).toNat:Int)))/\(AG (((a1-(1#64)).toNat:Int)))<(s1.2.length:Int) then
if (r1.2.2.2.2.length+([(AG (((a1-(1#64)).toNat:Int)),r4.1)]:List (Int×Int)).length)*16<=140737488355328 then
some (((BitVec.ofInt 64 r4.1)+(1#64),0,((r1.2.1.1,s1.2.set ((AG (((a1-(1#64)).toNat:Int))).toNat) r7.1,r4.2.2.2.1),r1.2.2.1,r4.2.2.2.2,r1.2.2.2.2++([(AG (((a1-(1#64)).toNat:Int)),r4.1)]:List (Int×Int)))))
else none
else none))) ((0,r4.2.2.1)))))
else none)
@[reducible] def KZ:FnI:={ ps:=[ABE,EO],rs:=[FV,A9],os:=[ABE],bk:=[0],pin:=[(1,0,1,0),(2,1,2,0)],F:=fun x=>HW x.1 x.2 }
def TP:Cx:=AP [(18,(4,3)),(52,(7,1)),(109,(8,1)),(110,(9,1))] [110] [(96,FB),(97,TO),(139,GP),(140,cN),(141,R7)] [(1,BD [(15,AF)] [] [(1,.u64)] (DW [(57,32)]) [] 8)] []
theorem R8:CV 95 KZ:=okW TP [.tmp 4,.tmp 5] 134 6 (AN (.cons F_ (.cons WQ (.cons L4 (.cons n7 (.cons cO AB.nil))))) AM.nil) Tryz.func95
def WR (a0:AY) (a1:(List AA)) (a2:AA) (a3:QK):Option pX:=
Option.bind (UH a0 a1 a2) (fun r1=>
if ¬r1=0 then
Option.bind (IV r1) (fun r2=>
some ((r2.1,r2.2.1,r2.2.2.1,r2.2.2.2.1,r2.2.2.2.2)))
else Option.bind (D5 a0) (fun r3=>
Option.bind (NZ a0 a1) (fun r4=>
AS (σ:=(Int×YC)) (β:=pX) (fun s1=>
if s1.1<(r4.length:Int) then
if 0<=s1.1/\s1.1<(r4.length:Int) then
if True then
some (Sum.inl ((AG (s1.1+1),(s1.2.1,s1.2.2.1|||((1#64) <<< (BitVec.ofInt 64 (gl (0:Int) r4 s1.1.toNat)).toNat),s1.2.2.2))))
else none
else none
else Option.map Sum.inr (Option.bind (NW a3) (fun r5=>
AS (σ:=(Int×YC×QK)) (β:=pX) (fun s2=>
if s2.1<(a3.length:Int) then
if 0<=s2.1/\s2.1<(a3.length:Int) then
Option.bind (HW s2.2.1 (gl (0#64:(BitVec 64)) a3 s2.1.toNat)) (fun r6=>
if ¬r6.2.1=0 then
Option.bind (IV r6.2.1) (fun r7=>
some (Sum.inr ((r7.1,r7.2.1,r7.2.2.1,r7.2.2.2.1,r7.2.2.2.2))))
else if 0<=s2.1/\s2.1<(s2.2.2.length:Int) then
some (Sum.inl ((AG (s2.1+1),r6.2.2,s2.2.2.set s2.1.toNat r6.1)))
else none)
else none
else Option.map Sum.inr (AS (σ:=(Int×YC)) (β:=pX) (fun s3=>
if s3.1<(s3.2.2.2.2.length:Int) then
if 0<=s3.1/\s3.1<(s3.2.2.2.2.length:Int) then
if 0<=((gl ((0,0):(Int×Int)) s3.2.2.2.2 s3.1.toNat).2)/\((gl ((0,0):(Int×Int)) s3.2.2.2.2 s3.1.toNat).2)<(s3.2.1.2.1.length:Int) then
Option.bind (F9 (gl (0#64:(BitVec 64)) s3.2.1.2.1 (((gl ((0,0):(Int×Int)) s3.2.2.2.2 s3.1.toNat).2).toNat))) (fun r8=>
AS (σ:=(Int×YC)) (β:=((Int×YC) ⊕ pX)) (fun s4=>
if s4.1<=r8.1 then
Option.bind (OE s4.2.1 ((gl ((0,0):(Int×Int)) s3.2.2.2.2 s3.1.toNat).2) s4.1) (fun r9=>
if 0<=r9/\r9<(s4.2.1.2.1.length:Int) then
Option.bind (HW s4.2 (gl (0#64:(BitVec 64)) s4.2.1.2.1 r9.toNat)) (fun bY=>
if ¬bY.2.1=0 then
Option.bind (IV bY.2.1) (fun mX=>
some (Sum.inr (Sum.inr ((mX.1,mX.2.1,mX.2.2.1,mX.2.2.2.1,mX.2.2.2.2)))))
else if 0<=r9/\r9<(bY.2.2.1.2.1.length:Int) then
some (Sum.inl ((AG (s4.1+1),((bY.2.2.1.1,bY.2.2.1.2.1.set r9.toNat bY.1,bY.2.2.1.2.2),bY.2.2.2))))
else none)
else none)
else some (Sum.inr (Sum.inl ((AG (s3.1+1),s4.2))))) ((1,s3.2)))
else none
else none
else some (Sum.inr ((s3.2.1,s3.2.2.2.1,s3.2.2.2.2,s2.2.2,0)))) ((0,s2.2.1)))) ((0,s1.2,r5))))) ((0,(r3,0#64,a2,[]))))))
@[reducible] def UJ:FnI:=AV [BG,V4,JX,AB7] [OP,pY,⟨(.slice wR),false,true,false⟩,lJ,A9] fun x=>WR x.1 x.2.1 x.2.2.1 x.2.2.2
def iT:Cx:=AP [(4,(4,1)),(6,(5,1)),(8,(6,1)),(9,(7,1)),(42,(8,4)),(49,(12,2)),(52,(14,1)),(55,(15,1)),(73,(19,1)),(84,(20,3)),(91,(23,4)),(156,(30,3)),(163,(33,4))] [] [(28,DK),(37,MD),(92,MG),(93,P8),(94,R6),(95,KZ),(96,FB),(97,TO)] [(0,{ live:=[(57,AF)],boxes:=[(14,ABD)],rows:=[],dead:=DW [(17,1),(58,14)],lost:=[12,13],base:=16,pins:=[(16,12,14),(17,13,14)] }),(2,{ live:=[(76,AF)],boxes:=[(14,ABD)],rows:=[(19,.u64)],dead:=DW [(10,3),(19,4),(77,25)],lost:=[12,13,18],base:=27,pins:=[(27,12,14),(28,13,14)] }),(4,BD [(23,AF)] [(14,ABD)] [] (DW [(10,3),(24,10),(102,75)]) [12,13,29] 40),(6,{ live:=[(30,AF)],boxes:=[(14,ABD)],rows:=[],dead:=DW [(10,3),(31,3),(134,43)],lost:=[12,13,29,40,41,42],base:=37,pins:=[(37,40,14),(38,41,14)] })] []
theorem eU:CV 58 UJ:=okW iT [.cell 8 33,.cell 9 104,.tmp 10,.tmp 11,.tmp 12] 190 39 (AN (.cons DS (.cons OR (.cons OU (.cons Z8 (.cons cK (.cons R8 (.cons F_ (.cons WQ AB.nil)))))))) AM.nil) Tryz.func58
def OZ (a0:Int):Option Bool:=
if a0≥0 then
some (decide (a0<64))
else some (false)
@[reducible] def WS:FnI:=AV [AF] [D1] fun x=>OZ x
def xB:Cx:=AP [] [] [] [] []
theorem cP:CV 143 WS:=okW xB [.tmp 2] 9 0 (AN AB.nil AM.nil) Tryz.func143
def JI (a0:A5) (a1:A5):Option Int:=
if ¬a0.1=a1.1 then
some (AG (a0.1-a1.1))
else some (AG (a0.2.1-a1.2.1))
@[reducible] def L5:FnI:=AV [AB8,AB8] [A9] fun x=>JI x.1 x.2
def eV:Cx:=AP [(2,(2,1)),(3,(3,1))] [] [] [] []
theorem P_:CV 144 L5:=okW eV [.tmp 4] 20 2 (AN AB.nil AM.nil) Tryz.func144
def MH (a0:(List A5)):Option Bool:=
AS (σ:=Int) (β:=Bool) (fun s1=>
if s1<(a0.length:Int) then
if 0<=s1/\s1<(a0.length:Int) then
Option.bind (OZ ((gl ((0,0,[]):A5) a0 s1.toNat).1)) (fun r1=>
if (!r1)=true then
some (Sum.inr (false))
else Option.bind (OZ (((gl ((0,0,[]):A5) a0 s1.toNat).2).1)) (fun r2=>
if (!r2)=true then
some (Sum.inr (false))
else if s1>0 then
if 0<=(AG (s1-1))/\(AG (s1-1))<(a0.length:Int) then
Option.bind (JI ((gl ((0,0,[]):A5) a0 ((AG (s1-1)).toNat)).1,((gl ((0,0,[]):A5) a0 ((AG (s1-1)).toNat)).2)) ((gl ((0,0,[]):A5) a0 s1.toNat).1,((gl ((0,0,[]):A5) a0 s1.toNat).2))) (fun r3=>
if r3≥0 then
some (Sum.inr (false))
else if ((((gl ((0,0,[]):A5) a0 s1.toNat).2).2).length:Int)=0 then
some (Sum.inr (false))
else if 0<=(0:Int)/\(0:Int)<((((gl ((0,0,[]):A5) a0 s1.toNat).2).2).length:Int) then
if (gl (0:Int) (((gl ((0,0,[]):A5) a0 s1.toNat).2).2) ((0:Int).toNat))<0 then
some (Sum.inr (false))
else AS (σ:=Int) (β:=(Int ⊕ Bool)) (fun s2=>
if s2<((((gl ((0,0,[]):A5) a0 s1.toNat).2).2).length:Int) then
if 0<=s2/\s2<((((gl ((0,0,[]):A5) a0 s1.toNat).2).2).length:Int) then
if 0<=(AG (s2-1))/\(AG (s2-1))<((((gl ((0,0,[]):A5) a0 s1.toNat).2).2).length:Int) then
if (gl (0:Int) (((gl ((0,0,[]):A5) a0 s1.toNat).2).2) s2.toNat)<=(gl (0:Int) (((gl ((0,0,[]):A5) a0 s1.toNat).2).2) ((AG (s2-1)).toNat)) then
some (Sum.inr (Sum.inr (false)))
else some (Sum.inl (AG (s2+1)))
else none
else none
else some (Sum.inr (Sum.inl (AG (s1+1))))) (1)
else none)
else none
else if ((((gl ((0,0,[]):A5) a0 s1.toNat).2).2).length:Int)=0 then
some (Sum.inr (false))
else if 0<=(0:Int)/\(0:Int)<((((gl ((0,0,[]):A5) a0 s1.toNat).2).2).length:Int) then
if (gl (0:Int) (((gl ((0,0,[]):A5) a0 s1.toNat).2).2) ((0:Int).toNat))<0 then
some (Sum.inr (false))
else AS (σ:=Int) (β:=(Int ⊕ Bool)) (fun s3=>
if s3<((((gl ((0,0,[]):A5) a0 s1.toNat).2).2).length:Int) then
if 0<=s3/\s3<((((gl ((0,0,[]):A5) a0 s1.toNat).2).2).length:Int) then
if 0<=(AG (s3-1))/\(AG (s3-1))<((((gl ((0,0,[]):A5) a0 s1.toNat).2).2).length:Int) then
if (gl (0:Int) (((gl ((0,0,[]):A5) a0 s1.toNat).2).2) s3.toNat)<=(gl (0:Int) (((gl ((0,0,[]):A5) a0 s1.toNat).2).2) ((AG (s3-1)).toNat)) then
some (Sum.inr (Sum.inr (false)))
else some (Sum.inl (AG (s3+1)))
else none
else none
else some (Sum.inr (Sum.inl (AG (s1+1))))) (1)
else none))
else none
else some (Sum.inr (true))) (0)
@[reducible] def K0:FnI:=AV [NM] [D1] fun x=>MH x
def l5:Cx:=AP [(4,(2,1)),(12,(1,1)),(31,(3,1))] [] [(143,WS),(144,L5)] [(0,BD [(8,AF)] [] [] (DW [(2,4),(9,61)]) [] 1),(2,BD [(5,AF)] [] [] (DW [(2,1),(50,19)]) [] 4)] []
theorem NB:CV 98 K0:=okW l5 [.tmp 2] 70 3 (AN (.cons cP (.cons P_ AB.nil)) AM.nil) Tryz.func98
def O0 (a0:A5) (a1:(List Int)):Option (Bool×(List Int)):=
Option.bind (CO a1 a0.1) (fun r1=>
if r1=true then
some ((true,a1))
else Option.bind (CO a1 a0.2.1) (fun r2=>
some ((r2,a1))))
@[reducible] def NC:FnI:={ ps:=[AB8,YE],rs:=[D1],os:=[YE],bk:=[1],pin:=[(1,0,2,1)],F:=fun x=>O0 x.1 x.2 }
def iU:Cx:=AP [(2,(3,1))] [] [(136,EW)] [] []
theorem R9:CV 146 NC:=okW iU [.tmp 3] 14 1 (AN (.cons IH AB.nil) AM.nil) Tryz.func146
def CM (a0:(List A5)) (a1:(List Int)):Option ZW:=
AS (σ:=ZW) (β:=ZW) (fun s1=>
if s1.1<(a0.length:Int) then
if 0<=s1.1/\s1.1<(a0.length:Int) then
Option.bind (O0 ((gl ((0,0,[]):A5) a0 s1.1.toNat).1,((gl ((0,0,[]):A5) a0 s1.1.toNat).2)) s1.2) (fun r1=>
if r1.1=true then
some (Sum.inr ((s1.1,r1.2)))
else some (Sum.inl ((AG (s1.1+1),r1.2))))
else none
else some (Sum.inr (((-1),s1.2)))) ((0,a1))
@[reducible] def CH:FnI:={ ps:=[NM,YE],rs:=[A9],os:=[YE],bk:=[1],sh:=[.one,.NP 146 1],pin:=[(1,0,2,1)],F:=fun x=>CM x.1 x.2 }
def EX:Cx:=AP [(15,(3,1)),(16,(4,1))] [] [(146,NC)] [(0,{ live:=[(8,AF)],boxes:=[(1,B3)],rows:=[],dead:=DW [(4,2),(9,10)],lost:=[2],base:=5,pins:=[(5,2,1)] })] []
theorem EL:CV 182 CH:=okW EX [.tmp 4] 19 3 (AN (.cons R9 AB.nil) AM.nil) Tryz.func182
def CI (a0:(List A5)) (a1:(List Int)):Option ((List A5)×(List Int)):=
Option.bind (CM a0 a1) (fun r1=>
if r1.1=(-1) then
some ((a0,r1.2))
else AS (σ:=(Int×Int×(List Int)×(List A5))) (β:=((List A5)×(List Int))) (fun s1=>
if s1.2.1<(s1.2.2.2.length:Int) then
if 0<=s1.2.1/\s1.2.1<(s1.2.2.2.length:Int) then
Option.bind (O0 ((gl ((0,0,[]):A5) s1.2.2.2 s1.2.1.toNat).1,((gl ((0,0,[]):A5) s1.2.2.2 s1.2.1.toNat).2)) s1.2.2.1) (fun r2=>
if (!r2.1)=true then
if 0<=s1.1/\s1.1<(s1.2.2.2.length:Int) then
some (Sum.inl ((AG (s1.1+1),AG (s1.2.1+1),r2.2,s1.2.2.2.set s1.1.toNat ((gl ((0,0,[]):A5) s1.2.2.2 s1.2.1.toNat).1,((gl ((0,0,[]):A5) s1.2.2.2 s1.2.1.toNat).2)))))
else none
else some (Sum.inl ((s1.1,AG (s1.2.1+1),r2.2,s1.2.2.2))))
else none
else Option.map Sum.inr (if Bd (some s1.1) none s1.2.2.2.length s1.2.2.2.length then
if s1.1.toNat+(s1.2.2.2.length-s1.1.toNat)<=s1.2.2.2.length then
if Bd none (some s1.1) s1.1.toNat ((clr s1.2.2.2 s1.1.toNat (s1.2.2.2.length-s1.1.toNat) ((0,0,[]):A5)).length) then
some ((DQ (clr s1.2.2.2 s1.1.toNat (s1.2.2.2.length-s1.1.toNat) ((0,0,[]):A5)) 0 (s1.1.toNat-0),s1.2.2.1))
else none
else none
else none)) ((r1.1,AG (r1.1+1),r1.2,a0)))
@[reducible] def CC:FnI:={ ps:=[bN,YE],rs:=[bN],os:=[YE],bk:=[1],sh:=[.one,.NP 146 1],pin:=[(2,1,2,1)],F:=fun x=>CI x.1 x.2 }
def EM:Cx:=AP [(7,(5,1)),(10,(3,1)),(25,(4,1)),(28,(6,1)),(41,(8,1))] [41] [(146,NC),(182,CH)] [(0,{ live:=[(5,AF),(6,AF)],boxes:=[(1,B3)],rows:=[(0,AFK)],dead:=DW [(7,1),(16,20)],lost:=[2],base:=7,pins:=[(7,2,1)] })] []
theorem EE:CV 145 CC:=okW EM [.tmp 4] 42 6 (AN (.cons R9 (.cons EL AB.nil)) AM.nil) Tryz.func145
def cQ (a0:(List A5)) (a1:(List Int)):Option ((List A5)×(List Int)):=
Option.bind (MX a0) (fun r1=>
Option.bind (CI r1 a1) (fun r2=>
some ((r2.1,r2.2))))
@[reducible] def YS:FnI:={ ps:=[NM,B3],rs:=[bN],os:=[B3],bk:=[1],F:=fun x=>cQ x.1 x.2 }
def n8:Cx:=AP [(3,(2,1)),(6,(3,1)),(8,(4,2))] [] [(30,KT),(145,CC)] [] []
theorem l6:CV 99 YS:=okW n8 [.tmp 4] 9 4 (AN (.cons ME (.cons EE AB.nil)) AM.nil) Tryz.func99
def QU (a0:AY) (a1:Int) (a2:(BitVec 64)):Option (Int×Int×Bool):=
if a2=(0#64) then
some ((0,0,false))
else if a2.toNat>(BitVec.ofInt 64 (a0.2.1.length:Int)).toNat then
some ((0,0,false))
else if a1<0 then
some ((0,0,false))
else if a1≥(a0.2.1.length:Int) then
some ((0,0,false))
else if True then
if True then
some ((a1 / 2 ^ min (BitVec.ofInt 64 a0.1).toNat 64,(AG (((a2-(1#64)).toNat:Int))) / 2 ^ min (BitVec.ofInt 64 a0.1).toNat 64,true))
else none
else none
@[reducible] def O1:FnI:=AV [BG,AF,EO] [A9,A9,D1] fun x=>QU x.1 x.2.1 x.2.2
def l7:Cx:=AP [(3,(2,1))] [] [] [] []
theorem UK:CV 147 O1:=okW l7 [.tmp 6,.tmp 7,.tmp 8] 42 1 (AN AB.nil AM.nil) Tryz.func147
def O2 (a0:AY) (a1:Int) (a2:(BitVec 64)):Option Bool:=
Option.bind (QU a0 a1 a2) (fun r1=>
if r1.2.2=true then
if 0<=r1.1/\r1.1<(a0.2.2.length:Int) then
if ¬((gl ((0,0,0):B7) a0.2.2 r1.1.toNat).1)=(-1) then
if 0<=r1.2.1/\r1.2.1<(a0.2.2.length:Int) then
if ¬((gl ((0,0,0):B7) a0.2.2 r1.2.1.toNat).1)=(-1) then
if 0<=r1.1/\r1.1<(a0.2.2.length:Int) then
if 0<=r1.2.1/\r1.2.1<(a0.2.2.length:Int) then
some (decide ((((gl ((0,0,0):B7) a0.2.2 r1.1.toNat).2).1)>(((gl ((0,0,0):B7) a0.2.2 r1.2.1.toNat).2).1)))
else none
else none
else some (false)
else none
else some (false)
else none
else some (false))
@[reducible] def ND:FnI:=AV [BG,AF,EO] [D1] fun x=>O2 x.1 x.2.1 x.2.2
def iV:Cx:=AP [(3,(2,1))] [] [(147,O1)] [] []
theorem R_:CV 101 ND:=okW iV [.tmp 6] 52 1 (AN (.cons UK AB.nil) AM.nil) Tryz.func101
def BO (a0:(List A5)) (a1:A5):Option (Int×Bool):=
AS (σ:=(Int×Int)) (β:=(Int×Bool)) (fun s1=>
if s1.1<s1.2 then
if True then
if 0<=(AG ((((BitVec.ofInt 64 (AG (s1.1+s1.2))) >>> (1#64).toNat).toNat:Int)))/\(AG ((((BitVec.ofInt 64 (AG (s1.1+s1.2))) >>> (1#64).toNat).toNat:Int)))<(a0.length:Int) then
Option.bind (JI ((gl ((0,0,[]):A5) a0 ((AG ((((BitVec.ofInt 64 (AG (s1.1+s1.2))) >>> (1#64).toNat).toNat:Int))).toNat)).1,((gl ((0,0,[]):A5) a0 ((AG ((((BitVec.ofInt 64 (AG (s1.1+s1.2))) >>> (1#64).toNat).toNat:Int))).toNat)).2)) a1) (fun r1=>
if r1<0 then
some (Sum.inl ((AG ((AG ((((BitVec.ofInt 64 (AG (s1.1+s1.2))) >>> (1#64).toNat).toNat:Int)))+1),s1.2)))
else some (Sum.inl ((s1.1,AG ((((BitVec.ofInt 64 (AG (s1.1+s1.2))) >>> (1#64).toNat).toNat:Int))))))
else none
else none
else Option.map Sum.inr (if s1.1<(a0.length:Int) then
if 0<=s1.1/\s1.1<(a0.length:Int) then
Option.bind (JI ((gl ((0,0,[]):A5) a0 s1.1.toNat).1,((gl ((0,0,[]):A5) a0 s1.1.toNat).2)) a1) (fun r2=>
some ((s1.1,decide (r2=0))))
else none
else some ((s1.1,false)))) ((0,(a0.length:Int)))
@[reducible] def BM:FnI:={ ps:=[NM,AB8],rs:=[A9,D1],os:=[],bk:=[],sh:=[.one,.one,.NP 144 0],F:=fun x=>BO x.1 x.2 }
def C1:Cx:=AP [(4,(2,1)),(28,(3,1)),(44,(4,1))] [] [(144,L5)] [(0,BD [(9,AF),(10,AF)] [] [] (DW [(11,1),(15,20)]) [] 3)] []
theorem CY:CV 183 BM:=okW C1 [.tmp 6,.tmp 7] 49 3 (AN (.cons P_ AB.nil) AM.nil) Tryz.func183
def cR (a0:(List A5)) (a1:Int) (a2:Int):Option (Int×Bool):=
Option.bind (BO a0 (a1,a2,[])) (fun r1=>
some ((r1.1,r1.2)))
@[reducible] def YT:FnI:=AV [NM,AF,AF] [A9,D1] fun x=>cR x.1 x.2.1 x.2.2
def n9:Cx:=AP [] [] [(183,BM)] [] []
theorem l8:CV 148 YT:=okW n9 [.tmp 6,.tmp 7] 15 0 (AN (.cons CY AB.nil) AM.nil) Tryz.func148
def GA (a0:(List A5)) (a1:Int) (a2:(List A5)):Option (List A5):=
if Bd (some a1) none a0.length a0.length then
if (a2.length:Int)=0 then
some (a0)
else if a1=(a0.length:Int) then
if (a0.length+a2.length)*40<=140737488355328 then
some (a0++a2)
else none
else none
else none
@[reducible] def FX:FnI:=AV [bN,AF,NM] [bN] fun x=>GA x.1 x.2.1 x.2.2
def LB:Cx:=AP [(25,(2,1))] [25] [] [] []
theorem K1:CV 149 FX:=okW LB [.tmp 6] 95 1 (AN AB.nil AM.nil) Tryz.func149
def K2 (a0:Int):Option Bool:=
some (decide (¬a0=a0))
@[reducible] def O3:FnI:=AV [AF] [D1] fun x=>K2 x
def Z_:Cx:=AP [] [] [] [] []
theorem X4:CV 187 O3:=okW Z_ [.tmp 2] 6 0 (AN AB.nil AM.nil) Tryz.func187
def HN (a0:(List Int)) (a1:Int):Option (Int×Bool):=
AS (σ:=(Int×Int)) (β:=(Int×Bool)) (fun s1=>
if s1.1<s1.2 then
if True then
if 0<=(AG ((((BitVec.ofInt 64 (AG (s1.1+s1.2))) >>> (1#64).toNat).toNat:Int)))/\(AG ((((BitVec.ofInt 64 (AG (s1.1+s1.2))) >>> (1#64).toNat).toNat:Int)))<(a0.length:Int) then
Option.bind (QS (gl (0:Int) a0 ((AG ((((BitVec.ofInt 64 (AG (s1.1+s1.2))) >>> (1#64).toNat).toNat:Int))).toNat)) a1) (fun r1=>
if r1=true then
some (Sum.inl ((AG ((AG ((((BitVec.ofInt 64 (AG (s1.1+s1.2))) >>> (1#64).toNat).toNat:Int)))+1),s1.2)))
else some (Sum.inl ((s1.1,AG ((((BitVec.ofInt 64 (AG (s1.1+s1.2))) >>> (1#64).toNat).toNat:Int))))))
else none
else none
else Option.map Sum.inr (if s1.1<(a0.length:Int) then
if 0<=s1.1/\s1.1<(a0.length:Int) then
if (gl (0:Int) a0 s1.1.toNat)=a1 then
some ((s1.1,true))
else if 0<=s1.1/\s1.1<(a0.length:Int) then
Option.bind (K2 (gl (0:Int) a0 s1.1.toNat)) (fun r2=>
if r2=true then
Option.bind (K2 a1) (fun r3=>
some ((s1.1,r3)))
else some ((s1.1,false)))
else none
else none
else some ((s1.1,false)))) ((0,(a0.length:Int)))
@[reducible] def GQ:FnI:=AV [YD,AF] [A9,D1] fun x=>HN x.1 x.2
def M3:Cx:=AP [] [] [(186,OW),(187,O3)] [(0,BD [(7,AF),(8,AF)] [] [] (DW [(9,1),(13,18)]) [] 1)] []
theorem L7:CV 150 GQ:=okW M3 [.tmp 4,.tmp 5] 54 0 (AN (.cons UF (.cons X4 AB.nil)) AM.nil) Tryz.func150
def TQ (a0:(List Int)) (a1:Int) (a2:(List Int)):Option (List Int):=
if Bd (some a1) none a0.length a0.length then
if (a2.length:Int)=0 then
some (a0)
else if a1=(a0.length:Int) then
if (a0.length+a2.length)*8<=140737488355328 then
some (a0++a2)
else none
else none
else none
@[reducible] def JZ:FnI:=AV [B3,AF,YD] [B3] fun x=>TQ x.1 x.2.1 x.2.2
def SA:Cx:=AP [(25,(2,1))] [25] [] [] []
theorem QV:CV 151 JZ:=okW SA [.tmp 6] 95 1 (AN AB.nil AM.nil) Tryz.func151
def O4 (a0:(List A5)) (a1:Int) (a2:Int) (a3:Int):Option ((List A5)×Int):=
Option.bind (MH a0) (fun r1=>
if (!r1)=true then
some (([],1))
else Option.bind (OZ a1) (fun r2=>
if (!r2)=true then
some (([],1))
else Option.bind (OZ a2) (fun r3=>
if (!r3)=true then
some (([],1))
else if a3<0 then
some (([],1))
else Option.bind (MX a0) (fun r4=>
Option.bind (cR r4 a1 a2) (fun r5=>
if (!r5.2)=true then
Option.bind (GA r4 r5.1 ([(a1,a2,([a3]:List Int))]:List A5)) (fun r6=>
some ((r6,0)))
else if 0<=r5.1/\r5.1<(r4.length:Int) then
Option.bind (HN (((gl ((0,0,[]):A5) r4 r5.1.toNat).2).2) a3) (fun r7=>
if (!r7.2)=true then
if 0<=r5.1/\r5.1<(r4.length:Int) then
none
else none
else some ((r4,0)))
else none)))))
@[reducible] def NF:FnI:=AV [NM,AF,AF,AF] [bN,A9] fun x=>O4 x.1 x.2.1 x.2.2.1 x.2.2.2
def iW:Cx:=AP [(33,(1,1)),(48,(2,1)),(50,(3,1)),(51,(4,1)),(57,(5,1)),(70,(6,1)),(73,(7,1))] [] [(30,KT),(98,K0),(143,WS),(148,YT),(149,FX),(150,GQ),(151,JZ)] [] []
theorem SB:CV 102 NF:=okW iW [.tmp 8,.tmp 9] 78 7 (AN (.cons ME (.cons NB (.cons cP (.cons l8 (.cons K1 (.cons L7 (.cons QV AB.nil))))))) AM.nil) Tryz.func102
def NG (a0:Int) (a1:AY) (a2:Int) (a3:(List A5)):Option (AY×Int×(List A5)):=
if a0<0 then
some ((a1,1,a3))
else if a0≥(a1.2.1.length:Int) then
some ((a1,1,a3))
else if 0<=a0/\a0<(a1.2.1.length:Int) then
Option.bind (O2 a1 a0 (gl (0#64:(BitVec 64)) a1.2.1 a0.toNat)) (fun r1=>
if (!r1)=true then
some ((a1,a2,a3))
else if True then
if 0<=a0/\a0<(a1.2.1.length:Int) then
if True then
Option.bind (O4 a3 (a0 / 2 ^ min (BitVec.ofInt 64 a1.1).toNat 64) ((AG ((((gl (0#64:(BitVec 64)) a1.2.1 a0.toNat)-(1#64)).toNat:Int))) / 2 ^ min (BitVec.ofInt 64 a1.1).toNat 64) a0) (fun r2=>
if ¬r2.2=0 then
some ((a1,r2.2,a3))
else some ((a1,a2,r2.1)))
else none
else none
else none)
else none
@[reducible] def SC:FnI:={ ps:=[AF,⟨lI,true,false,true⟩,AD2,⟨wQ,false,false,true⟩],rs:=[],os:=[⟨lI,true,false,true⟩,AD2,⟨wQ,false,false,true⟩],bk:=[0,3,4],F:=fun x=>NG x.1 x.2.1 x.2.2.1 x.2.2.2 }
def eW:Cx:=AP [(44,(6,1))] [] [(101,ND),(102,NF)] [] []
theorem cS:CV 100 SC:=okW eW [] 51 1 (AN (.cons R_ (.cons SB AB.nil)) AM.nil) Tryz.func100
def G7 (a0:AY) (a1:Int):Option ((AY×Int×Int×Int)×Int):=
Option.bind (FE a0 a1 0) (fun r1=>
if ¬r1.2=0 then
some ((((0,[],[]),0,0,0),r1.2))
else if 0<=a1/\a1<(a0.2.1.length:Int) then
Option.bind (F9 (gl (0#64:(BitVec 64)) a0.2.1 a1.toNat)) (fun r2=>
if ¬r2.2.2.2.2=0 then
some ((((0,[],[]),0,0,0),12))
else if r2.2.2.2.1=true then
some ((((0,[],[]),0,0,0),12))
else Option.bind (FE a0 a1 (AG (r2.1+r2.2.1))) (fun r3=>
if ¬r3.2=0 then
some ((((0,[],[]),0,0,0),2))
else some (((a0,a1,r2.1,r2.2.1),0))))
else none)
@[reducible] def FN:FnI:=AV [BG,AF] [AFM,AF] fun x=>G7 x.1 x.2
def n_:Cx:=AP [(2,(2,1)),(4,(3,1))] [] [(96,FB),(163,G6)] [] []
theorem GB:CV 121 FN:=okW n_ [.cell 4 212,.tmp 5] 60 2 (AN (.cons F_ (.cons HS AB.nil)) AM.nil) Tryz.func121
def FF (a0:(AY×Int×Int×Int)) (a1:Int):Option Int:=
Option.bind (FE a0.1 a0.2.1 a1) (fun r1=>
some (r1.1))
@[reducible] def EI:FnI:=AV [AFM,AF] [A9] fun x=>FF x.1 x.2
def U6:Cx:=AP [(2,(2,1))] [] [(163,G6)] [] []
theorem G8:CV 152 EI:=okW U6 [.tmp 4] 17 1 (AN (.cons HS AB.nil) AM.nil) Tryz.func152
def QW (a0:AY) (a1:Int):Option U4:=
Option.bind (G7 a0 a1) (fun r1=>
if ¬r1.2=0 then
some (([],r1.2))
else AS (σ:=U4) (β:=U4) (fun s1=>
if s1.2<r1.1.2.2.1 then
Option.bind (FF r1.1 (AG ((1:Int)+s1.2))) (fun r2=>
if (s1.1.length+([r2]:List Int).length)*8<=140737488355328 then
some (Sum.inl ((s1.1++([r2]:List Int),AG (s1.2+1))))
else none)
else some (Sum.inr ((s1.1,0)))) (([],0)))
@[reducible] def O5:FnI:=AV [BG,AF] [B3,A9] fun x=>QW x.1 x.2
def l9:Cx:=AP [(2,(2,1)),(6,(5,1)),(13,(3,2)),(30,(7,1)),(31,(8,1))] [31] [(121,FN),(152,EI)] [(0,BD [(8,B3),(9,AF)] [] [] (DW [(19,13)]) [] 6)] []
theorem UL:CV 103 O5:=okW l9 [.tmp 4,.tmp 5] 33 7 (AN (.cons GB (.cons G8 AB.nil)) AM.nil) Tryz.func103
def YU (a0:AY) (a1:(List A5)) (a2:(List AA)) (a3:(List Int)) (a4:AK2):Option ((List A5)×Int):=
Option.bind (CR a0) (fun r1=>
if (!r1)=true then
some (([],1))
else Option.bind (MH a1) (fun r2=>
if (!r2)=true then
some (([],1))
else Option.bind (NZ a0 a2) (fun r3=>
Option.bind (cQ a1 r3) (fun r4=>
AS (σ:=(Int×AY×(List A5)×Int)) (β:=((List A5)×Int)) (fun s1=>
if s1.1<(a3.length:Int) then
if 0<=s1.1/\s1.1<(a3.length:Int) then
Option.bind (NG (gl (0:Int) a3 s1.1.toNat) s1.2.1 s1.2.2.2 s1.2.2.1) (fun r5=>
some (Sum.inl ((AG (s1.1+1),r5.1,r5.2.2,r5.2.1))))
else none
else Option.map Sum.inr (AS (σ:=(Int×AY×(List A5)×Int)) (β:=((List A5)×Int)) (fun s2=>
if s2.1<(a4.length:Int) then
if 0<=s2.1/\s2.1<(a4.length:Int) then
Option.bind (QW s2.2.1 ((gl ((0,0):(Int×Int)) a4 s2.1.toNat).2)) (fun r6=>
if ¬r6.2=0 then
some (Sum.inr (([],1)))
else AS (σ:=(Int×AY×(List A5)×Int)) (β:=((Int×AY×(List A5)×Int) ⊕ ((List A5)×Int))) (fun s3=>
if s3.1<(r6.1.length:Int) then
if 0<=s3.1/\s3.1<(r6.1.length:Int) then
Option.bind (NG (gl (0:Int) r6.1 s3.1.toNat) s3.2.1 s3.2.2.2 s3.2.2.1) (fun r7=>
some (Sum.inl ((AG (s3.1+1),r7.1,r7.2.2,r7.2.1))))
else none
else some (Sum.inr (Sum.inl ((AG (s2.1+1),s3.2.1,s3.2.2.1,s3.2.2.2))))) ((0,s2.2.1,s2.2.2.1,s2.2.2.2)))
else none
else Option.map Sum.inr (if ¬s2.2.2.2=0 then
some (([],s2.2.2.2))
else some ((s2.2.2.1,0)))) ((0,s1.2.1,s1.2.2.1,s1.2.2.2)))) ((0,a0,r4.1,0))))))
@[reducible] def WT:FnI:=AV [BG,NM,V4,YD,⟨(.slice wR),false,false,false⟩] [NM,AF] fun x=>YU x.1 x.2.1 x.2.2.1 x.2.2.2.1 x.2.2.2.2
def l_:Cx:=AP [(5,(6,1)),(12,(9,1)),(13,(10,1)),(18,(19,1)),(34,(7,1)),(35,(8,1)),(45,(11,3)),(57,(20,1)),(70,(21,3))] [] [(78,B_),(92,MG),(98,K0),(99,YS),(100,SC),(103,O5)] [(0,BD [(39,AF)] [(6,BG),(9,NM),(10,AF)] [] (DW [(16,1),(40,7)]) [8] 16),(2,BD [(49,AF)] [(6,BG),(9,NM),(10,AF)] [] (DW [(10,2),(18,3),(22,1),(50,23)]) [] 31),(4,BD [(64,AF)] [(6,BG),(9,NM),(10,AF)] [] (DW [(22,1),(65,7)]) [] 26)] []
theorem iX:CV 59 WT:=okW l_ [.tmp 10,.tmp 11] 77 28 (AN (.cons B8 (.cons OU (.cons NB (.cons l6 (.cons cS (.cons UL AB.nil)))))) AM.nil) Tryz.func59
def mA (a0:AY) (a1:Int):Option (AY×Int×Int):=
Option.bind (CR a0) (fun r1=>
if (!r1)=true then
some (((0,[],[]),0,1))
else if a1<0 then
some (((0,[],[]),0,1))
else if a1>4294967295 then
some (((0,[],[]),0,1))
else Option.bind (D5 a0) (fun r2=>
AS (σ:=(Int×Int×QK×(List B7))) (β:=(AY×Int×Int)) (fun s1=>
if s1.2.1<(a0.2.2.length:Int) then
if 0<=s1.2.1/\s1.2.1<(a0.2.2.length:Int) then
if ¬((gl ((0,0,0):B7) a0.2.2 s1.2.1.toNat).1)=a1 then
some (Sum.inl ((s1.1,AG (s1.2.1+1),s1.2.2.1,s1.2.2.2)))
else if 0<=s1.2.1/\s1.2.1<(s1.2.2.2.length:Int) then
if True then
AS (σ:=(Int×QK)) (β:=((Int×Int×QK×(List B7)) ⊕ (AY×Int×Int))) (fun s2=>
if True then
if s2.1<(AG ((AG (s1.2.1+1))*2 ^ min (BitVec.ofInt 64 a0.1).toNat 64)) then
if 0<=s2.1/\s2.1<(s2.2.length:Int) then
some (Sum.inl ((AG (s2.1+1),s2.2.set s2.1.toNat (0#64))))
else none
else some (Sum.inr (Sum.inl ((AG (s1.1+1),AG (s1.2.1+1),s2.2,s1.2.2.2.set s1.2.1.toNat ((-1),(-1),(-1))))))
else none) ((AG (s1.2.1*2 ^ min (BitVec.ofInt 64 a0.1).toNat 64),s1.2.2.1))
else none
else none
else none
else Option.map Sum.inr (if s1.1=0 then
some (((0,[],[]),0,5))
else some (((r2.1,s1.2.2),s1.1,0)))) ((0,0,r2.2.1,r2.2.2))))
@[reducible] def gO:FnI:=AV [BG,AF] [OP,A9,A9] fun x=>mA x.1 x.2
def xC:Cx:=AP [(2,(2,1)),(4,(3,1)),(7,(6,1)),(10,(7,1)),(25,(4,2))] [] [(28,DK),(78,B_)] [(0,BD [(8,AF),(29,AF)] [] [(4,.u64),(5,lH)] (DW [(9,3),(30,35)]) [] 7),(2,BD [(11,AF)] [] [(4,.u64)] (DW [(50,14)]) [] 8)] []
theorem sM:CV 104 gO:=okW xC [.cell 4 33,.tmp 5,.tmp 6] 70 6 (AN (.cons DS (.cons B8 AB.nil)) AM.nil) Tryz.func104
def mB (a0:AY) (a1:AA):Option (AY×Int):=
Option.bind (GN a0 a1) (fun r1=>
if (!r1)=true then
some (((0,[],[]),1))
else if a1.2.2.1<0 then
some (((0,[],[]),5))
else Option.bind (mA a0 a1.1) (fun r2=>
some ((r2.1,r2.2.2))))
@[reducible] def gP:FnI:=AV [BG,JX] [OP,A9] fun x=>mB x.1 x.2
def xD:Cx:=AP [(2,(2,1)),(3,(3,1)),(4,(4,1)),(6,(7,1)),(22,(5,2))] [] [(79,GZ),(104,gO)] [] []
theorem sN:CV 60 gP:=okW xD [.cell 4 33,.tmp 5] 28 6 (AN (.cons HR (.cons sM AB.nil)) AM.nil) Tryz.func60
def cT (a0:HI) (a1:Int):Option (HI×Int):=
Option.bind (WC a0 a1) (fun r1=>
if r1.1<0 then
some (([],5))
else Option.bind (IT a0) (fun r2=>
if 0<=r1.1/\r1.1<(r2.length:Int) then
if 0<=r1.1/\r1.1<(r2.length:Int) then
if r1.1.toNat=r1.1.toNat then
if Bd none (some r1.2) r1.2.toNat ((r2.getD r1.1.toNat []).length) then
if 0<=r1.1/\r1.1<(r2.length:Int) then
if r1.1.toNat=r1.1.toNat then
if Bd (some (AG (r1.2+1))) none ((r2.getD r1.1.toNat []).length) ((r2.getD r1.1.toNat []).length) then
if ((DQ (r2.getD r1.1.toNat []) 0 (r1.2.toNat-0)).length+(DQ (r2.getD r1.1.toNat []) ((AG (r1.2+1)).toNat) (((r2.getD r1.1.toNat []).length)-((AG (r1.2+1)).toNat))).length)*40<=140737488355328 then
if 0<=r1.1/\r1.1<(r2.length:Int) then
if r1.1.toNat=r1.1.toNat then
some ((r2.set r1.1.toNat ((DQ (r2.getD r1.1.toNat []) 0 (r1.2.toNat-0))++(DQ (r2.getD r1.1.toNat []) ((AG (r1.2+1)).toNat) (((r2.getD r1.1.toNat []).length)-((AG (r1.2+1)).toNat)))),0))
else none
else none
else none
else none
else none
else none
else none
else none
else none
else none))
@[reducible] def YV:FnI:=AV [MV,AF] [ABC,A9] fun x=>cT x.1 x.2
def oA:Cx:={ nm:=[(18,(1,1)),(34,(3,1))],BN:=[34],fns:=nE [(29,JE),(105,TD)],loops:=[],RH:=[],tb:=bL,exts:=[],lets:=[],opens:=[(5,(8,6,2))] }
theorem mC:CV 61 YV:=okW oA [.tmp 4,.tmp 5] 37 3 (AN (.cons KS (.cons YI AB.nil)) AM.nil) Tryz.func61
def QX (a0:HI) (a1:AA):Option (HI×Int):=
Option.bind (bX a0 a1.2.1) (fun r1=>
if (!r1)=true then
some (([],1))
else if 0<=a1.2.1/\a1.2.1<(a0.length:Int) then
AS (σ:=Int) (β:=(HI×Int)) (fun s1=>
if s1<((gl ([]:(List AA)) a0 a1.2.1.toNat).length:Int) then
if 0<=s1/\s1<((gl ([]:(List AA)) a0 a1.2.1.toNat).length:Int) then
if ((gl ((0,0,0,0,0):AA) (gl ([]:(List AA)) a0 a1.2.1.toNat) s1.toNat).1)=a1.1 then
Option.bind (IT a0) (fun r2=>
if 0<=a1.2.1/\a1.2.1<(r2.length:Int) then
if 0<=s1/\s1<((r2.getD a1.2.1.toNat []).length:Int) then
some (Sum.inr ((r2.set a1.2.1.toNat ((r2.getD a1.2.1.toNat []).set s1.toNat a1),0)))
else none
else none)
else some (Sum.inl (AG (s1+1)))
else none
else some (Sum.inr (([],5)))) (0)
else none)
@[reducible] def O6:FnI:={ ps:=[MV,JX],rs:=[ABC,A9],os:=[],bk:=[],cl:=[(4,fY)],F:=fun x=>QX x.1 x.2 }
def mD:Cx:=AP [(3,(1,1)),(7,(3,1)),(18,(2,1)),(31,(4,1)),(36,(5,1))] [] [(29,JE),(80,XP)] [(0,BD [(20,AF)] [] [] (DW [(4,5),(21,21)]) [] 3)] []
theorem UM:CV 62 O6:=okW mD [.tmp 4,.tmp 5] 42 5 (AN (.cons KS (.cons Z2 AB.nil)) AM.nil) Tryz.func62
def eX (a0:HI) (a1:AA):Option (HI×Int):=
Option.bind (bX a0 a1.2.1) (fun r1=>
if (!r1)=true then
some (([],1))
else Option.bind (F7 a0 a1.2.1) (fun r2=>
if r2.2=true then
if r2.1.1≥a1.1 then
some (([],5))
else Option.bind (IT a0) (fun r3=>
if 0<=a1.2.1/\a1.2.1<(r3.length:Int) then
if ((r3.getD a1.2.1.toNat []).length+([a1]:List AA).length)*40<=140737488355328 then
if 0<=a1.2.1/\a1.2.1<(r3.length:Int) then
if a1.2.1.toNat=a1.2.1.toNat then
some ((r3.set a1.2.1.toNat ((r3.getD a1.2.1.toNat [])++([a1]:List AA)),0))
else none
else none
else none
else none)
else Option.bind (IT a0) (fun r4=>
if 0<=a1.2.1/\a1.2.1<(r4.length:Int) then
if ((r4.getD a1.2.1.toNat []).length+([a1]:List AA).length)*40<=140737488355328 then
if 0<=a1.2.1/\a1.2.1<(r4.length:Int) then
if a1.2.1.toNat=a1.2.1.toNat then
some ((r4.set a1.2.1.toNat ((r4.getD a1.2.1.toNat [])++([a1]:List AA)),0))
else none
else none
else none
else none)))
@[reducible] def aA:FnI:=AV [MV,JX] [ABC,A9] fun x=>eX x.1 x.2
def z6:Cx:=AP [(3,(1,1)),(6,(2,1)),(30,(3,1)),(38,(4,1)),(40,(5,1)),(41,(6,1))] [41] [(29,JE),(52,HJ),(80,XP)] [] []
theorem gQ:CV 63 aA:=okW z6 [.tmp 4,.tmp 5] 44 6 (AN (.cons KS (.cons IU (.cons Z2 AB.nil))) AM.nil) Tryz.func63
def mE (a0:RR):Option (List Int):=
AS (σ:=U4) (β:=(List Int)) (fun s1=>
if s1.2<(a0.1.length:Int) then
if 0<=s1.2/\s1.2<(a0.1.length:Int) then
if (gl (false:Bool) a0.1 s1.2.toNat)=true then
if (s1.1.length+([AG (s1.2+1)]:List Int).length)*8<=140737488355328 then
some (Sum.inl ((s1.1++([AG (s1.2+1)]:List Int),AG (s1.2+1))))
else none
else some (Sum.inl ((s1.1,AG (s1.2+1))))
else none
else some (Sum.inr (s1.1))) (([],0))
@[reducible] def gR:FnI:=AV [fZ] [B3] fun x=>mE x
def xE:Cx:=AP [(1,(2,1)),(18,(4,1)),(19,(5,1))] [19] [] [(0,BD [(3,B3),(9,AF)] [] [] (DW [(4,2),(10,11)]) [] 3)] []
theorem sO:CV 64 gR:=okW xE [.tmp 2] 22 4 (AN AB.nil AM.nil) Tryz.func64
def mF (a0:BZ) (a1:(List AA)):Option (BZ×GM×Int):=
Option.bind (cG a0 a1) (fun r1=>
if ¬r1.2=0 then
some (((((⟨#[]⟩:ByteArray),[],0),(0,[],[]),[],0,[],([],[]),0,(0,0,0,0,0,0,0,0,0),false),(0,0,0,0),r1.2))
else AS (σ:=(Int×Int×GM)) (β:=(BZ×GM×Int)) (fun s1=>
if s1.2.1<(a1.length:Int) then
if 0<=s1.2.1/\s1.2.1<(a1.length:Int) then
Option.bind (CS a0.2.1 ((gl ((0,0,0,0,0):AA) a1 s1.2.1.toNat).1,((gl ((0,0,0,0,0):AA) a1 s1.2.1.toNat).2).1,(((gl ((0,0,0,0,0):AA) a1 s1.2.1.toNat).2).2).1,((((gl ((0,0,0,0,0):AA) a1 s1.2.1.toNat).2).2).2))) (fun r2=>
some (Sum.inl ((AG (s1.1+r2),AG (s1.2.1+1),(AG (s1.2.2.1+(((((gl ((0,0,0,0,0):AA) a1 s1.2.1.toNat).2).2).2).2)),s1.2.2.2)))))
else none
else Option.map Sum.inr (Option.bind (FL a0.2.1) (fun r3=>
if s1.1>(r3.length:Int) then
some (((((⟨#[]⟩:ByteArray),[],0),(0,[],[]),[],0,[],([],[]),0,(0,0,0,0,0,0,0,0,0),false),(0,0,0,0),4))
else Option.bind (YM a0.2.1 a0.2.2.2.2.2.1 a1) (fun r4=>
Option.bind (YO a0.2.1 a0.2.2.2.2.1 a1) (fun r5=>
AS (σ:=(QK×Int)) (β:=(BZ×GM×Int)) (fun s2=>
if s2.2<(r4.length:Int) then
if 0<=s2.2/\s2.2<(r4.length:Int) then
if 0<=(AG ((gl (0:Int) r4 s2.2.toNat)-1))/\(AG ((gl (0:Int) r4 s2.2.toNat)-1))<(a0.2.2.2.2.2.1.2.length:Int) then
if (s2.1.length+([gl (0#64:(BitVec 64)) a0.2.2.2.2.2.1.2 ((AG ((gl (0:Int) r4 s2.2.toNat)-1)).toNat)]:List (BitVec 64)).length)*8<=140737488355328 then
some (Sum.inl ((s2.1++([gl (0#64:(BitVec 64)) a0.2.2.2.2.2.1.2 ((AG ((gl (0:Int) r4 s2.2.toNat)-1)).toNat)]:List (BitVec 64)),AG (s2.2+1))))
else none
else none
else none
else Option.map Sum.inr (AS (σ:=(QK×Int)) (β:=(BZ×GM×Int)) (fun s3=>
if s3.2<(r5.1.length:Int) then
if 0<=s3.2/\s3.2<(r5.1.length:Int) then
if 0<=(gl (0:Int) r5.1 s3.2.toNat)/\(gl (0:Int) r5.1 s3.2.toNat)<(a0.2.1.2.1.length:Int) then
if (s3.1.length+([gl (0#64:(BitVec 64)) a0.2.1.2.1 ((gl (0:Int) r5.1 s3.2.toNat).toNat)]:List (BitVec 64)).length)*8<=140737488355328 then
some (Sum.inl ((s3.1++([gl (0#64:(BitVec 64)) a0.2.1.2.1 ((gl (0:Int) r5.1 s3.2.toNat).toNat)]:List (BitVec 64)),AG (s3.2+1))))
else none
else none
else none
else Option.map Sum.inr (Option.bind (WR a0.2.1 a1 r1.1 s3.1) (fun r6=>
if ¬r6.2.2.2.2=0 then
some (((((⟨#[]⟩:ByteArray),[],0),(0,[],[]),[],0,[],([],[]),0,(0,0,0,0,0,0,0,0,0),false),(0,0,0,0),r6.2.2.2.2))
else Option.bind (DT a0) (fun r7=>
AS (σ:=(Int×QK)) (β:=(BZ×GM×Int)) (fun s4=>
if s4.1<(r4.length:Int) then
if 0<=s4.1/\s4.1<(r4.length:Int) then
if 0<=s4.1/\s4.1<(r6.2.2.2.1.length:Int) then
if 0<=(AG ((gl (0:Int) r4 s4.1.toNat)-1))/\(AG ((gl (0:Int) r4 s4.1.toNat)-1))<(s4.2.length:Int) then
some (Sum.inl ((AG (s4.1+1),s4.2.set ((AG ((gl (0:Int) r4 s4.1.toNat)-1)).toNat) (gl (0#64:(BitVec 64)) r6.2.2.2.1 s4.1.toNat))))
else none
else none
else none
else Option.map Sum.inr (AS (σ:=(Int×QK)) (β:=(BZ×GM×Int)) (fun s5=>
if s5.1<(r5.1.length:Int) then
if 0<=s5.1/\s5.1<(r5.1.length:Int) then
if 0<=(AG ((r4.length:Int)+s5.1))/\(AG ((r4.length:Int)+s5.1))<(r6.2.2.2.1.length:Int) then
if 0<=(gl (0:Int) r5.1 s5.1.toNat)/\(gl (0:Int) r5.1 s5.1.toNat)<(s5.2.length:Int) then
some (Sum.inl ((AG (s5.1+1),s5.2.set ((gl (0:Int) r5.1 s5.1.toNat).toNat) (gl (0#64:(BitVec 64)) r6.2.2.2.1 ((AG ((r4.length:Int)+s5.1)).toNat)))))
else none
else none
else none
else Option.map Sum.inr (Option.bind (YU (r6.1.1,s5.2,r6.1.2.2) a0.2.2.2.2.1 a1 r5.1 r6.2.2.1) (fun r8=>
if ¬r8.2=0 then
some (((((⟨#[]⟩:ByteArray),[],0),(0,[],[]),[],0,[],([],[]),0,(0,0,0,0,0,0,0,0,0),false),(0,0,0,0),r8.2))
else AS (σ:=(Int×Int×AY×BZ)) (β:=(BZ×GM×Int)) (fun s6=>
if s6.2.1<(a1.length:Int) then
if 0<=s6.2.1/\s6.2.1<(a1.length:Int) then
Option.bind (mB s6.2.2.1 ((gl ((0,0,0,0,0):AA) a1 s6.2.1.toNat).1,((gl ((0,0,0,0,0):AA) a1 s6.2.1.toNat).2).1,(((gl ((0,0,0,0,0):AA) a1 s6.2.1.toNat).2).2).1,((((gl ((0,0,0,0,0):AA) a1 s6.2.1.toNat).2).2).2))) (fun r9=>
if r9.2=0 then
Option.bind (cT s6.2.2.2.2.2.1 ((gl ((0,0,0,0,0):AA) a1 s6.2.1.toNat).1)) (fun bY=>
if ¬bY.2=0 then
some (Sum.inr (((((⟨#[]⟩:ByteArray),[],0),(0,[],[]),[],0,[],([],[]),0,(0,0,0,0,0,0,0,0,0),false),(0,0,0,0),bY.2)))
else some (Sum.inl ((bY.2,AG (s6.2.1+1),r9.1,(s6.2.2.2.1,s6.2.2.2.2.1,bY.1,s6.2.2.2.2.2.2)))))
else if ¬r9.2=0 then
some (Sum.inr (((((⟨#[]⟩:ByteArray),[],0),(0,[],[]),[],0,[],([],[]),0,(0,0,0,0,0,0,0,0,0),false),(0,0,0,0),r9.2)))
else some (Sum.inl ((r9.2,AG (s6.2.1+1),r9.1,s6.2.2.2))))
else none
else Option.map Sum.inr (Option.bind (α:=(Int×BZ) ⊕ (BZ×GM×Int)) (if r1.1.2.2.2.2>0 then
Option.bind (QX s6.2.2.2.2.2.1 r6.2.1) (fun mX=>
some (Sum.inl ((mX.2,(s6.2.2.2.1,s6.2.2.1,mX.1,s6.2.2.2.2.2.2)))))
else if r6.2.1.2.2.2.2>0 then
Option.bind (eX s6.2.2.2.2.2.1 r6.2.1) (fun r12=>
some (Sum.inl ((r12.2,(s6.2.2.2.1,s6.2.2.1,r12.1,AG (s6.2.2.2.2.2.2.1+1),s6.2.2.2.2.2.2.2)))))
else some (Sum.inl ((s6.1,(s6.2.2.2.1,s6.2.2.1,s6.2.2.2.2.2))))) (fun q=>match q with
|Sum.inl j1=>(if ¬j1.1=0 then
some (((((⟨#[]⟩:ByteArray),[],0),(0,[],[]),[],0,[],([],[]),0,(0,0,0,0,0,0,0,0,0),false),(0,0,0,0),j1.1))
else Option.bind (mE a0.2.2.2.2.2.1) (fun r13=>
some (((j1.2.1,j1.2.2.1,j1.2.2.2.1,j1.2.2.2.2.1,j1.2.2.2.2.2.1,j1.2.2.2.2.2.2.1,j1.2.2.2.2.2.2.2.1,(j1.2.2.2.2.2.2.2.2.1.1,j1.2.2.2.2.2.2.2.2.1.2.1,j1.2.2.2.2.2.2.2.2.1.2.2.1,AG (j1.2.2.2.2.2.2.2.2.1.2.2.2.1+1),j1.2.2.2.2.2.2.2.2.1.2.2.2.2.1,AG (j1.2.2.2.2.2.2.2.2.1.2.2.2.2.2.1+s1.2.2.1),AG (j1.2.2.2.2.2.2.2.2.1.2.2.2.2.2.2.1+(AG (r6.2.1.2.2.2.2-r1.1.2.2.2.2))),AG (j1.2.2.2.2.2.2.2.2.1.2.2.2.2.2.2.2.1+r5.2),AG (j1.2.2.2.2.2.2.2.2.1.2.2.2.2.2.2.2.2+(AG ((AG ((r13.length:Int)+r5.2))+(AG ((2:Int)*(AG (r6.2.1.2.2.2.2-r1.1.2.2.2.2)))))))),j1.2.2.2.2.2.2.2.2.2),(s1.2.2.1,AG (r6.2.1.2.2.2.2-r1.1.2.2.2.2),r5.2,AG ((AG ((r13.length:Int)+r5.2))+(AG ((2:Int)*(AG (r6.2.1.2.2.2.2-r1.1.2.2.2.2)))))),0))))
|Sum.inr b1=>some b1))) ((r8.2,0,(r6.1.1,s5.2,r6.1.2.2),(r7.1,r7.2.1,r7.2.2.1,r7.2.2.2.1,r8.1,(r7.2.2.2.2.2.1.1,s4.2),r7.2.2.2.2.2.2)))))) ((0,r6.1.2.1)))) ((0,r7.2.2.2.2.2.1.2)))))) ((s2.1,0)))) (([],0))))))) ((0,0,(0,0,0,0))))
@[reducible] def pZ:FnI:=AV [D8,V4] [D8,AB9,AF] fun x=>mF x.1 x.2
def AD4:Cx:=AP [(2,(8,1)),(4,(9,1)),(5,(10,1)),(7,(11,1)),(9,(12,1)),(12,(13,1)),(21,(27,1)),(22,(28,1)),(25,(36,1)),(31,(38,1)),(66,(14,1)),(76,(15,1)),(83,(16,1)),(100,(18,1)),(101,(19,1)),(116,(21,1)),(117,(22,1)),(125,(23,4)),(137,(29,7)),(182,(37,1)),(200,(39,2)),(210,(41,1)),(230,(53,1)),(242,(54,1)),(265,(62,1))] [101,117] [(18,DL),(53,P6),(54,FK),(55,YL),(56,WL),(57,WM),(58,UJ),(59,WT),(60,gP),(61,YV),(62,O6),(63,aA),(64,gR)] [(0,BD [(10,AF),(46,AF)] [(12,AB9)] [] (DW [(12,1),(47,16)]) [] 13),(2,BD [(16,lJ),(88,AF)] [] [] (DW [(18,1),(89,14)]) [] 17),(4,BD [(16,lJ),(105,AF)] [] [] (DW [(20,1),(106,13)]) [17] 20),(6,BD [(140,AF)] [] [(35,.u64)] (DW [(26,2),(141,15)]) [] 37),(8,BD [(158,AF)] [] [(23,.u64)] (DW [(28,2),(159,16)]) [] 37),(10,BD [(8,AF),(193,AF)] [(27,BG),(36,D8)] [] (DW [(6,1),(31,1),(194,26)]) [29,30,31,32,34,35] 44)] [(59,BD [(8,AF)] [(36,D8)] [] (DW [(222,28)]) [] 55)]
theorem z7:CV 39 pZ:=okW AD4 [.cell 4 42,.cell 5 119,.tmp 6] 320 55 (AN (.cons DM (.cons TC (.cons F6 (.cons lT (.cons iN (.cons iP (.cons eU (.cons iX (.cons sN (.cons mC (.cons UM (.cons gQ (.cons sO AB.nil))))))))))))) AM.nil) Tryz.func39
def H6 (a0:(BZ×Int×Bool×Int)):Option (Int×(BZ×Int×Bool×Int)):=
Option.bind (YH a0.1.1 a0.1.2.1 a0.1.2.2.1 a0.2) (fun r1=>
if ¬r1.2.2.2=0 then
some ((2,a0))
else if (!r1.2.2.1)=true then
if (r1.1.length:Int)=0 then
some ((2,a0))
else if r1.2.2.1=true then
some ((1,((a0.1.1,a0.1.2.1,a0.1.2.2.1,a0.1.2.2.2.1,a0.1.2.2.2.2.1,a0.1.2.2.2.2.2.1,0,(a0.1.2.2.2.2.2.2.2.1.1,a0.1.2.2.2.2.2.2.2.1.2.1,a0.1.2.2.2.2.2.2.2.1.2.2.1,a0.1.2.2.2.2.2.2.2.1.2.2.2.1,AG (a0.1.2.2.2.2.2.2.2.1.2.2.2.2.1+1),a0.1.2.2.2.2.2.2.2.1.2.2.2.2.2),a0.1.2.2.2.2.2.2.2.2),a0.2)))
else Option.bind (mF a0.1 r1.1) (fun r2=>
if ¬r2.2.2=0 then
some ((2,a0))
else some ((0,(r2.1,r1.2.1))))
else if r1.2.2.1=true then
some ((1,((a0.1.1,a0.1.2.1,a0.1.2.2.1,a0.1.2.2.2.1,a0.1.2.2.2.2.1,a0.1.2.2.2.2.2.1,0,(a0.1.2.2.2.2.2.2.2.1.1,a0.1.2.2.2.2.2.2.2.1.2.1,a0.1.2.2.2.2.2.2.2.1.2.2.1,a0.1.2.2.2.2.2.2.2.1.2.2.2.1,AG (a0.1.2.2.2.2.2.2.2.1.2.2.2.2.1+1),a0.1.2.2.2.2.2.2.2.1.2.2.2.2.2),a0.1.2.2.2.2.2.2.2.2),a0.2)))
else Option.bind (mF a0.1 r1.1) (fun r3=>
if ¬r3.2.2=0 then
some ((2,a0))
else some ((0,(r3.1,r1.2.1)))))
@[reducible] def JP:FnI:={ ps:=[⟨(.pair pW wT),true,false,true⟩],rs:=[A9],os:=[⟨(.pair pW wT),true,false,true⟩],bk:=[0],F:=fun x=>H6 x }
def aB:Cx:=AP [(4,(9,1)),(7,(17,1)),(8,(18,1)),(29,(8,1)),(69,(10,7))] [] [(38,WB),(39,pZ)] [] []
theorem NN:CV 32 JP:=okW aB [.tmp 2] 83 11 (AN (.cons iI (.cons z7 AB.nil)) AM.nil) Tryz.func32
def QA (a0:BZ):Option (BZ×Bool):=
Option.bind (DT a0) (fun r1=>
AS (σ:=(Int×(BZ×Int×Bool×Int))) (β:=(BZ×Bool)) (fun s1=>
if s1.1=0 then
Option.bind (H6 s1.2) (fun r2=>
some (Sum.inl ((r2.1,r2.2))))
else some (Sum.inr ((s1.2.1,decide (s1.1=1))))) ((0,(r1,0,false,0))))
@[reducible] def TR:FnI:=AV [D8] [D8,bM] fun x=>QA x
def sP:Cx:=AP [(1,(7,1)),(2,(8,1)),(7,(9,7)),(9,(16,1)),(13,(17,7))] [] [(18,DL),(32,JP)] [(0,BD [(5,AF)] [(16,AMF)] [] [10,11,12,13] [9,10,11,12,13,14,15] 24)] []
theorem YW:CV 19 TR:=okW sP [.cell 2 42,.tmp 3] 20 24 (AN (.cons DM (.cons NN AB.nil)) AM.nil) Tryz.func19
def CA (a0:BZ):Option (BZ×Bool×Int):=
if a0.2.2.2.2.2.2.2.2=true then
some (((((⟨#[]⟩:ByteArray),[],0),(0,[],[]),[],0,[],([],[]),0,(0,0,0,0,0,0,0,0,0),false),false,19))
else Option.bind (DT a0) (fun r1=>
Option.bind (QA (r1.1,r1.2.1,r1.2.2.1,r1.2.2.2.1,r1.2.2.2.2.1,r1.2.2.2.2.2.1,r1.2.2.2.2.2.2.1,(r1.2.2.2.2.2.2.2.1.1,r1.2.2.2.2.2.2.2.1.2.1,AG (r1.2.2.2.2.2.2.2.1.2.2.1+1),r1.2.2.2.2.2.2.2.1.2.2.2),r1.2.2.2.2.2.2.2.2)) (fun r2=>
some ((r2.1,r2.2,0))))
@[reducible] def O7:FnI:=AV [D8] [D8,bM,AF] fun x=>CA x
def mG:Cx:=AP [(1,(7,1)),(2,(8,1)),(5,(16,1)),(11,(9,7)),(20,(17,7))] [] [(18,DL),(19,TR)] [] []
theorem UN:CV 8 O7:=okW mG [.cell 2 42,.tmp 3,.tmp 4] 25 17 (AN (.cons DM (.cons YW AB.nil)) AM.nil) Tryz.func8
def N3 (a0:Int) (a1:Int):Option X3:=
if a0<0 then
some ((0#64,13))
else if a0>15 then
some ((0#64,13))
else if a1<0 then
some ((0#64,13))
else if a1>32 then
some ((0#64,13))
else Option.bind (XS (0#64) 1 7 (BitVec.ofInt 64 a0)) (fun r1=>
Option.bind (XS r1.1 8 8 (BitVec.ofInt 64 (AG ((AG ((1:Int)+a0))+a1)))) (fun r2=>
some ((r2.1,0))))
@[reducible] def MI:FnI:=AV [AF,AF] [FV,A9] fun x=>N3 x.1 x.2
def oB:Cx:=AP [] [] [(106,Z9)] [] []
theorem O8:CV 65 MI:=okW oB [.tmp 4,.tmp 5] 39 0 (AN (.cons gN AB.nil) AM.nil) Tryz.func65
def QB (a0:AY) (a1:AA) (a2:Int):Option Int:=
Option.bind (Z0 (AG (a1.2.2.2.2+a2)) a0.1) (fun r1=>
Option.bind (CS a0 a1) (fun r2=>
some (AG (r1-r2))))
@[reducible] def TS:FnI:=AV [BG,JX,AF] [A9] fun x=>QB x.1 x.2.1 x.2.2
def sQ:Cx:=AP [(3,(2,1)),(4,(3,1))] [] [(54,FK),(83,V9)] [] []
theorem YX:CV 159 TS:=okW sQ [.tmp 6] 18 2 (AN (.cons F6 (.cons bV AB.nil)) AM.nil) Tryz.func159
def mH (a0:AY):Option Int:=
Option.bind (S_ a0) (fun r1=>
Option.bind (KR r1) (fun r2=>
some (AG ((a0.2.2.length:Int)-r2))))
@[reducible] def gS:FnI:=AV [BG] [A9] fun x=>mH x
def xF:Cx:=AP [(1,(2,1))] [] [(81,P5),(221,JY)] [] []
theorem sR:CV 190 gS:=okW xF [.tmp 2] 10 1 (AN (.cons TA (.cons QM AB.nil)) AM.nil) Tryz.func190
def GC (a0:P2):Option Bool:=
Option.bind (DN a0) (fun r1=>
if r1=0 then
if 0<=(AG ((a0.2.1.length:Int)-1))/\(AG ((a0.2.1.length:Int)-1))<(a0.2.1.length:Int) then
some (decide (DZ ((gl ((0,0,0,0):BY) a0.2.1 ((AG ((a0.2.1.length:Int)-1)).toNat)).1) 0=some .eq))
else none
else some (false))
@[reducible] def K3:FnI:=AV [V5] [D1] fun x=>GC x
def cU:Cx:=AP [(1,(1,1))] [] [(12,ED)] [] []
theorem O9:CV 157 K3:=okW cU [.tmp 2] 18 1 (AN (.cons FA AB.nil) AM.nil) Tryz.func157
def YY (a0:AY) (a1:HI):Option Int:=
AS (σ:=(Int×Int)) (β:=Int) (fun s1=>
if s1.2<(a1.length:Int) then
if 0<=s1.2/\s1.2<(a1.length:Int) then
AS (σ:=(Int×Int)) (β:=((Int×Int) ⊕ Int)) (fun s2=>
if s2.2<((gl ([]:(List AA)) a1 s1.2.toNat).length:Int) then
if 0<=s2.2/\s2.2<((gl ([]:(List AA)) a1 s1.2.toNat).length:Int) then
Option.bind (CS a0 ((gl ((0,0,0,0,0):AA) (gl ([]:(List AA)) a1 s1.2.toNat) s2.2.toNat).1,((gl ((0,0,0,0,0):AA) (gl ([]:(List AA)) a1 s1.2.toNat) s2.2.toNat).2).1,(((gl ((0,0,0,0,0):AA) (gl ([]:(List AA)) a1 s1.2.toNat) s2.2.toNat).2).2).1,((((gl ((0,0,0,0,0):AA) (gl ([]:(List AA)) a1 s1.2.toNat) s2.2.toNat).2).2).2))) (fun r1=>
some (Sum.inl ((if r1>s2.1 then r1 else s2.1,AG (s2.2+1)))))
else none
else some (Sum.inr (Sum.inl ((s2.1,AG (s1.2+1)))))) ((s1.1,0))
else none
else some (Sum.inr (s1.1))) ((0,0))
@[reducible] def WU:FnI:=AV [BG,MV] [A9] fun x=>YY x.1 x.2
def mI:Cx:=AP [(2,(3,1)),(9,(5,1)),(15,(4,1))] [] [(54,FK)] [(0,BD [(5,AF),(12,AF)] [] [] (DW [(7,1),(9,1),(13,16)]) [] 4),(2,BD [(5,AF),(18,AF)] [] [] (DW [(9,1),(19,9)]) [] 5)] []
theorem iY:CV 191 WU:=okW mI [.tmp 4] 30 3 (AN (.cons F6 AB.nil) AM.nil) Tryz.func191
def FC (a0:P2) (a1:AY) (a2:HI) (a3:AA) (a4:Int):Option Bool:=
Option.bind (QB a1 a3 a4) (fun r1=>
if r1=0 then
some (true)
else Option.bind (mH a1) (fun r2=>
Option.bind (GC a0) (fun r3=>
if r3=true then
some (decide ((AG ((a1.2.2.length:Int)-(AG (r2+r1))))≥(AG (r2+r1))))
else if (AG ((a1.2.2.length:Int)-(AG (r2+r1))))≥0 then
Option.bind (YY a1 a2) (fun r4=>
Option.bind (CS a1 a3) (fun r5=>
some (decide ((AG ((a1.2.2.length:Int)-(AG (r2+r1))))≥(if (AG (r5+r1))>r4 then AG (r5+r1) else r4)))))
else some (false))))
@[reducible] def SD:FnI:=AV [V5,BG,MV,JX,AF] [D1] fun x=>FC x.1 x.2.1 x.2.2.1 x.2.2.2.1 x.2.2.2.2
def eY:Cx:=AP [(5,(4,1)),(6,(5,1)),(8,(6,1))] [] [(54,FK),(157,K3),(159,TS),(190,gS),(191,WU)] [] []
theorem cV:CV 156 SD:=okW eY [.tmp 10] 49 3 (AN (.cons F6 (.cons O9 (.cons YX (.cons sR (.cons iY AB.nil))))) AM.nil) Tryz.func156
def JJ (a0:P2) (a1:AY) (a2:HI) (a3:Int) (a4:Int):Option (Int×AA×Int):=
Option.bind (DN a0) (fun r1=>
if ¬r1=0 then
some ((0,(0,0,0,0,0),1))
else Option.bind (WA a1 a2) (fun r2=>
if (!r2)=true then
some ((0,(0,0,0,0,0),1))
else if ¬(a2.length:Int)=(a0.2.1.length:Int) then
some ((0,(0,0,0,0,0),1))
else if a3<0 then
some ((0,(0,0,0,0,0),1))
else if a3>4294967295 then
some ((0,(0,0,0,0,0),1))
else if a4<1 then
some ((0,(0,0,0,0,0),1))
else if a4>48 then
some ((0,(0,0,0,0,0),1))
else Option.bind (Z4 a2) (fun r3=>
AS (σ:=Int) (β:=(Int×AA×Int)) (fun s1=>
if s1<(r3.length:Int) then
if 0<=s1/\s1<(r3.length:Int) then
if ((gl ((0,0,0,0,0):AA) r3 s1.toNat).1)≥a3 then
some (Sum.inr ((0,(0,0,0,0,0),1)))
else some (Sum.inl (AG (s1+1)))
else none
else Option.map Sum.inr (Option.bind (GO a0 0 (a1.2.2.length:Int)) (fun r4=>
if ¬r4.2=0 then
some ((0,(0,0,0,0,0),r4.2))
else Option.bind (F7 a2 0) (fun r5=>
if r5.2=true then
Option.bind (Z7 a1 r5.1 r4.1) (fun r6=>
if r6=true then
Option.bind (FC a0 a1 a2 r5.1 a4) (fun r7=>
if r7=true then
some ((1,r5.1,0))
else some ((3,(0,0,0,0,0),0)))
else if 0<=(0:Int)/\(0:Int)<(a0.2.1.length:Int) then
if ¬(((gl ((0,0,0,0):BY) a0.2.1 ((0:Int).toNat)).2).1)=0 then
if 0<=(0:Int)/\(0:Int)<(a2.length:Int) then
if 0<=(0:Int)/\(0:Int)<(a0.2.1.length:Int) then
if ((gl ([]:(List AA)) a2 ((0:Int).toNat)).length:Int)≥(((gl ((0,0,0,0):BY) a0.2.1 ((0:Int).toNat)).2).1) then
some ((3,(0,0,0,0,0),0))
else Option.bind (FC a0 a1 a2 (a3,0,(-1),(-1),0) a4) (fun r8=>
if r8=true then
some ((2,(a3,0,(-1),(-1),0),0))
else some ((3,(0,0,0,0,0),0)))
else none
else none
else Option.bind (FC a0 a1 a2 (a3,0,(-1),(-1),0) a4) (fun r9=>
if r9=true then
some ((2,(a3,0,(-1),(-1),0),0))
else some ((3,(0,0,0,0,0),0)))
else none)
else if 0<=(0:Int)/\(0:Int)<(a0.2.1.length:Int) then
if ¬(((gl ((0,0,0,0):BY) a0.2.1 ((0:Int).toNat)).2).1)=0 then
if 0<=(0:Int)/\(0:Int)<(a2.length:Int) then
if 0<=(0:Int)/\(0:Int)<(a0.2.1.length:Int) then
if ((gl ([]:(List AA)) a2 ((0:Int).toNat)).length:Int)≥(((gl ((0,0,0,0):BY) a0.2.1 ((0:Int).toNat)).2).1) then
some ((3,(0,0,0,0,0),0))
else Option.bind (FC a0 a1 a2 (a3,0,(-1),(-1),0) a4) (fun bY=>
if bY=true then
some ((2,(a3,0,(-1),(-1),0),0))
else some ((3,(0,0,0,0,0),0)))
else none
else none
else Option.bind (FC a0 a1 a2 (a3,0,(-1),(-1),0) a4) (fun mX=>
if mX=true then
some ((2,(a3,0,(-1),(-1),0),0))
else some ((3,(0,0,0,0,0),0)))
else none)))) (0))))
@[reducible] def L8:FnI:=AV [V5,BG,MV,AF,AF] [A9,pY,A9] fun x=>JJ x.1 x.2.1 x.2.2.1 x.2.2.2.1 x.2.2.2.2
def eZ:Cx:=AP [(5,(4,1)),(6,(5,1)),(11,(6,1)),(14,(8,1)),(17,(9,1)),(19,(11,1)),(55,(7,1)),(108,(10,1))] [] [(12,ED),(51,S9),(52,HJ),(86,TG),(87,WI),(126,WE),(156,SD)] [(0,BD [(57,AF)] [] [] [10,12,14,58,59,60,61,62,63,64,65,66] [] 8)] []
theorem QC:CV 108 L8:=okW eZ [.tmp 10,.cell 11 104,.tmp 12] 128 8 (AN (.cons FA (.cons YG (.cons IU (.cons YK (.cons cE (.cons b6 (.cons cV AB.nil))))))) AM.nil) Tryz.func108
def IK (a0:BZ) (a1:Int):Option Bool:=
Option.bind (JJ a0.1 a0.2.1 a0.2.2.1 a0.2.2.2.1 a1) (fun r1=>
if r1.2.2=0 then
some (decide (¬r1.1=3))
else some (false))
@[reducible] def cW:FnI:=AV [D8,AF] [D1] fun x=>IK x.1 x.2
def sS:Cx:=AP [(2,(7,1)),(6,(8,1))] [] [(108,L8)] [] []
theorem oC:CV 192 cW:=okW sS [.tmp 4] 28 2 (AN (.cons QC AB.nil) AM.nil) Tryz.func192
def YZ (a0:P2) (a1:HI):Option (List Int):=
Option.bind (DN a0) (fun r1=>
if ¬r1=0 then
some ([])
else if ¬(a1.length:Int)=(a0.2.1.length:Int) then
some ([])
else AS (σ:=U4) (β:=(List Int)) (fun s1=>
if s1.2<(a0.2.1.length:Int) then
if 0<=s1.2/\s1.2<(a0.2.1.length:Int) then
if ¬(((gl ((0,0,0,0):BY) a0.2.1 s1.2.toNat).2).1)=0 then
if 0<=s1.2/\s1.2<(a1.length:Int) then
if ((gl ([]:(List AA)) a1 s1.2.toNat).length:Int)>(((gl ((0,0,0,0):BY) a0.2.1 s1.2.toNat).2).1) then
if (s1.1.length+([s1.2]:List Int).length)*8<=140737488355328 then
some (Sum.inl ((s1.1++([s1.2]:List Int),AG (s1.2+1))))
else none
else some (Sum.inl ((s1.1,AG (s1.2+1))))
else none
else some (Sum.inl ((s1.1,AG (s1.2+1))))
else none
else some (Sum.inr (s1.1))) (([],0)))
@[reducible] def WV:FnI:=AV [V5,MV] [B3] fun x=>YZ x.1 x.2
def mJ:Cx:=AP [(2,(2,1)),(7,(4,1)),(34,(5,1)),(42,(6,1)),(43,(7,1))] [43] [(12,ED)] [(0,BD [(5,B3),(22,AF)] [] [] (DW [(6,2),(23,22)]) [] 3)] []
theorem iZ:CV 193 WV:=okW mJ [.tmp 4] 46 6 (AN (.cons FA AB.nil) AM.nil) Tryz.func193
def O_ (a0:BZ) (a1:Int):Option (BZ×Bool):=
Option.bind (DT a0) (fun r1=>
AS (σ:=(BZ×Int×Bool×Int)) (β:=(BZ×Bool)) (fun s1=>
Option.bind (IK s1.1 a1) (fun r2=>
if r2=true then
Option.bind (YZ s1.1.1 s1.1.2.2.1) (fun r3=>
if (r3.length:Int)=0 then
Option.map Sum.inr (Option.bind (IK s1.1 a1) (fun r4=>
some ((s1.1,r4))))
else Option.bind (H6 s1) (fun r5=>
if r5.1=1 then
if r5.1=1 then
Option.map Sum.inr (Option.bind (IK r5.2.1 a1) (fun r6=>
some ((r5.2.1,r6))))
else some (Sum.inl (r5.2))
else if r5.1=2 then
Option.map Sum.inr (Option.bind (IK r5.2.1 a1) (fun r7=>
some ((r5.2.1,r7))))
else some (Sum.inl (r5.2))))
else Option.bind (H6 s1) (fun r8=>
if r8.1=1 then
if r8.1=1 then
Option.map Sum.inr (Option.bind (IK r8.2.1 a1) (fun r9=>
some ((r8.2.1,r9))))
else some (Sum.inl (r8.2))
else if r8.1=2 then
Option.map Sum.inr (Option.bind (IK r8.2.1 a1) (fun bY=>
some ((r8.2.1,bY))))
else some (Sum.inl (r8.2))))) ((r1,0,false,0)))
@[reducible] def gT:FnI:=AV [D8,AF] [D8,bM] fun x=>O_ x.1 x.2
def xG:Cx:=AP [(2,(7,1)),(4,(8,1)),(8,(9,7)),(10,(16,1)),(28,(17,1)),(33,(18,7))] [] [(18,DL),(32,JP),(192,cW),(193,WV)] [(0,BD [] [(16,AMF)] [] (DW [(11,26)]) [9,10,11,12,13,14,15] 25)] []
theorem sT:CV 158 gT:=okW xG [.cell 4 42,.tmp 5] 47 25 (AN (.cons DM (.cons NN (.cons oC (.cons iZ AB.nil)))) AM.nil) Tryz.func158
def UO (a0:BZ) (a1:Int):Option BZ:=
Option.bind (DT a0) (fun r1=>
Option.bind (GC r1.1) (fun r2=>
if r2=true then
if r2=true then
if (AG (r1.2.2.2.2.2.2.1+1))≥r1.1.2.2 then
Option.bind (QA (r1.1,r1.2.1,r1.2.2.1,r1.2.2.2.1,r1.2.2.2.2.1,r1.2.2.2.2.2.1,AG (r1.2.2.2.2.2.2.1+1),(r1.2.2.2.2.2.2.2.1.1,r1.2.2.2.2.2.2.2.1.2.1,AG (r1.2.2.2.2.2.2.2.1.2.2.1+1),r1.2.2.2.2.2.2.2.1.2.2.2),r1.2.2.2.2.2.2.2.2)) (fun r3=>
some (r3.1))
else Option.bind (O_ (r1.1,r1.2.1,r1.2.2.1,r1.2.2.2.1,r1.2.2.2.2.1,r1.2.2.2.2.2.1,AG (r1.2.2.2.2.2.2.1+1),(r1.2.2.2.2.2.2.2.1.1,r1.2.2.2.2.2.2.2.1.2.1,AG (r1.2.2.2.2.2.2.2.1.2.2.1+1),r1.2.2.2.2.2.2.2.1.2.2.2),r1.2.2.2.2.2.2.2.2) a1) (fun r4=>
some (r4.1))
else Option.bind (O_ (r1.1,r1.2.1,r1.2.2.1,r1.2.2.2.1,r1.2.2.2.2.1,r1.2.2.2.2.2.1,AG (r1.2.2.2.2.2.2.1+1),(r1.2.2.2.2.2.2.2.1.1,r1.2.2.2.2.2.2.2.1.2.1,AG (r1.2.2.2.2.2.2.2.1.2.2.1+1),r1.2.2.2.2.2.2.2.1.2.2.2),r1.2.2.2.2.2.2.2.2) a1) (fun r5=>
some (r5.1))
else if r2=true then
if r1.2.2.2.2.2.2.1≥r1.1.2.2 then
Option.bind (QA (r1.1,r1.2.1,r1.2.2.1,r1.2.2.2.1,r1.2.2.2.2.1,r1.2.2.2.2.2.1,r1.2.2.2.2.2.2.1,(r1.2.2.2.2.2.2.2.1.1,r1.2.2.2.2.2.2.2.1.2.1,AG (r1.2.2.2.2.2.2.2.1.2.2.1+1),r1.2.2.2.2.2.2.2.1.2.2.2),r1.2.2.2.2.2.2.2.2)) (fun r6=>
some (r6.1))
else Option.bind (O_ (r1.1,r1.2.1,r1.2.2.1,r1.2.2.2.1,r1.2.2.2.2.1,r1.2.2.2.2.2.1,r1.2.2.2.2.2.2.1,(r1.2.2.2.2.2.2.2.1.1,r1.2.2.2.2.2.2.2.1.2.1,AG (r1.2.2.2.2.2.2.2.1.2.2.1+1),r1.2.2.2.2.2.2.2.1.2.2.2),r1.2.2.2.2.2.2.2.2) a1) (fun r7=>
some (r7.1))
else Option.bind (O_ (r1.1,r1.2.1,r1.2.2.1,r1.2.2.2.1,r1.2.2.2.2.1,r1.2.2.2.2.2.1,r1.2.2.2.2.2.2.1,(r1.2.2.2.2.2.2.2.1.1,r1.2.2.2.2.2.2.2.1.2.1,AG (r1.2.2.2.2.2.2.2.1.2.2.1+1),r1.2.2.2.2.2.2.2.1.2.2.2),r1.2.2.2.2.2.2.2.2) a1) (fun r8=>
some (r8.1))))
@[reducible] def SE:FnI:=AV [D8,AF] [D8] fun x=>UO x.1 x.2
def e7:Cx:=AP [(2,(7,1)),(4,(8,1)),(5,(16,1)),(8,(9,7)),(34,(17,7)),(40,(24,7))] [] [(18,DL),(19,TR),(157,K3),(158,gT)] [] []
theorem cX:CV 109 SE:=okW e7 [.cell 4 42] 44 24 (AN (.cons DM (.cons YW (.cons O9 (.cons sT AB.nil)))) AM.nil) Tryz.func109
def aC (a0:AY) (a1:Int) (a2:Int):Option (AY×Int×Int):=
Option.bind (CR a0) (fun r1=>
if (!r1)=true then
some (((0,[],[]),0,1))
else if a1<0 then
some (((0,[],[]),0,1))
else if a1>4294967295 then
some (((0,[],[]),0,1))
else if a2<0 then
some (((0,[],[]),0,1))
else if a2≥4 then
some (((0,[],[]),0,1))
else AS (σ:=Int) (β:=(AY×Int×Int)) (fun s1=>
if s1<(a0.2.2.length:Int) then
if 0<=s1/\s1<(a0.2.2.length:Int) then
if ((gl ((0,0,0):B7) a0.2.2 s1.toNat).1)=a1 then
if ¬(((gl ((0,0,0):B7) a0.2.2 s1.toNat).2).1)=(AG ((AG (a2*4294967296))+a1)) then
some (Sum.inr (((0,[],[]),0,5)))
else some (Sum.inl (AG (s1+1)))
else some (Sum.inl (AG (s1+1)))
else none
else Option.map Sum.inr (Option.bind (S_ a0) (fun r2=>
if r2=(0#64) then
some (((0,[],[]),0,4))
else Option.bind (D5 a0) (fun r3=>
Option.bind (C2 r2) (fun r4=>
if 0<=r4/\r4<(r3.2.2.length:Int) then
some (((r3.1,r3.2.1,r3.2.2.set r4.toNat (a1,AG ((AG (a2*4294967296))+a1),(-1))),r4,0))
else none))))) (0))
@[reducible] def gU:FnI:=AV [BG,AF,AF] [OP,A9,A9] fun x=>aC x.1 x.2.1 x.2.2
def xH:Cx:=AP [(3,(2,1)),(6,(3,1)),(11,(4,1)),(13,(7,1)),(64,(5,2))] [] [(28,DK),(78,B_),(81,P5),(82,CZ)] [(0,BD [(42,AF)] [] [] (DW [(7,2),(11,1),(43,15)]) [] 4)] []
theorem sU:CV 160 gU:=okW xH [.cell 6 33,.tmp 7,.tmp 8] 76 6 (AN (.cons DS (.cons B8 (.cons TA (.cons D2 AB.nil)))) AM.nil) Tryz.func160
def WW (a0:AY) (a1:Int) (a2:Int):Option (AY×Int):=
Option.bind (CR a0) (fun r1=>
if (!r1)=true then
some (((0,[],[]),1))
else Option.bind (XO a0 a1) (fun r2=>
if (!r2)=true then
some (((0,[],[]),2))
else Option.bind (XO a0 a2) (fun r3=>
if (!r3)=true then
some (((0,[],[]),2))
else Option.bind (MY a0 a1) (fun r4=>
if r4=true then
some (((0,[],[]),5))
else Option.bind (MY a0 a2) (fun r5=>
if r5=true then
some (((0,[],[]),5))
else if 0<=a1/\a1<(a0.2.2.length:Int) then
if 0<=a2/\a2<(a0.2.2.length:Int) then
if ¬(((gl ((0,0,0):B7) a0.2.2 a1.toNat).2).1)=(((gl ((0,0,0):B7) a0.2.2 a2.toNat).2).1) then
some (((0,[],[]),5))
else if 0<=a1/\a1<(a0.2.2.length:Int) then
if ¬(((gl ((0,0,0):B7) a0.2.2 a1.toNat).2).2)=(-1) then
some (((0,[],[]),5))
else AS (σ:=Int) (β:=(AY×Int)) (fun s1=>
if s1<(a0.2.2.length:Int) then
if 0<=s1/\s1<(a0.2.2.length:Int) then
if (((gl ((0,0,0):B7) a0.2.2 s1.toNat).2).2)=a2 then
some (Sum.inr (((0,[],[]),5)))
else some (Sum.inl (AG (s1+1)))
else none
else Option.map Sum.inr (AS (σ:=Int) (β:=(AY×Int)) (fun s2=>
if s2≥0 then
if s2=a1 then
some (Sum.inr (((0,[],[]),5)))
else if 0<=s2/\s2<(a0.2.2.length:Int) then
some (Sum.inl (((gl ((0,0,0):B7) a0.2.2 s2.toNat).2).2))
else none
else Option.map Sum.inr (Option.bind (D5 a0) (fun r6=>
if 0<=a1/\a1<(r6.2.2.length:Int) then
some (((r6.1,r6.2.1,r6.2.2.set a1.toNat ((gl ((0,0,0):B7) r6.2.2 a1.toNat).1,((gl ((0,0,0):B7) r6.2.2 a1.toNat).2).1,a2)),0))
else none))) (a2))) (0)
else none
else none
else none)))))
@[reducible] def cY:FnI:=AV [BG,AF,AF] [OP,A9] fun x=>WW x.1 x.2.1 x.2.2
def sV:Cx:=AP [(3,(2,1)),(6,(3,1)),(9,(4,1)),(11,(7,1)),(87,(5,2))] [] [(28,DK),(78,B_),(171,ZZ),(172,NY)] [(0,BD [(63,AF)] [] [] (DW [(7,1),(9,1),(64,9)]) [] 4),(2,BD [(10,AF)] [] [] (DW [(7,1),(74,12)]) [] 5)] []
theorem oD:CV 161 cY:=okW sV [.cell 6 33,.tmp 7] 95 6 (AN (.cons DS (.cons B8 (.cons gC (.cons QP AB.nil)))) AM.nil) Tryz.func161
def TT (a0:AY):Option AY:=
if (([]:List (BitVec 64)).length+a0.2.1.length)*8<=140737488355328 then
if (([]:List B7).length+a0.2.2.length)*24<=140737488355328 then
some ((a0.1,([]:List (BitVec 64))++a0.2.1,([]:List B7)++a0.2.2))
else none
else none
@[reducible] def Y0:FnI:=AV [BG] [OP] fun x=>TT x
def oE:Cx:=AP [(1,(2,1)),(2,(3,1)),(7,(4,1)),(10,(5,1))] [7,10] [] [] []
theorem mK:CV 164 Y0:=okW oE [.cell 2 33] 12 4 (AN AB.nil AM.nil) Tryz.func164
def gV (a0:AY) (a1:AA) (a2:Int):Option (AY×AA×Int×Int):=
Option.bind (GN a0 a1) (fun r1=>
if (!r1)=true then
some (((0,[],[]),(0,0,0,0,0),0,1))
else if a2<1 then
some (((0,[],[]),(0,0,0,0,0),0,1))
else if a2>48 then
some (((0,[],[]),(0,0,0,0,0),0,1))
else if a1.2.2.2.2=0 then
Option.bind (Z1 a0 a1.1) (fun r2=>
if r2>0 then
some (((0,[],[]),(0,0,0,0,0),0,5))
else Option.bind (QB a0 a1 a2) (fun r3=>
Option.bind (FL a0) (fun r4=>
if (r4.length:Int)<r3 then
some (((0,[],[]),(0,0,0,0,0),0,4))
else AS (σ:=(Int×AY×AA)) (β:=(AY×AA×Int×Int)) (fun s1=>
if s1.1=r3 then
Option.map Sum.inr (Option.bind (M0 s1.2.1 s1.2.2.2.2.1) (fun r5=>
Option.bind (FE s1.2.1 r5.1 a1.2.2.2.2) (fun r6=>
if ¬r6.2=0 then
some (((0,[],[]),(0,0,0,0,0),0,r6.2))
else if r3=0 then
Option.bind (TT a0) (fun r7=>
some ((r7,(s1.2.2.1,s1.2.2.2.1,s1.2.2.2.2.1,s1.2.2.2.2.2.1,AG (s1.2.2.2.2.2.2+a2)),r6.1,0)))
else some ((s1.2.1,(s1.2.2.1,s1.2.2.2.1,s1.2.2.2.2.1,s1.2.2.2.2.2.1,AG (s1.2.2.2.2.2.2+a2)),r6.1,0)))))
else Option.bind (aC s1.2.1 a1.1 a1.2.1) (fun r8=>
if ¬r8.2.2=0 then
some (Sum.inr (((0,[],[]),(0,0,0,0,0),0,r8.2.2)))
else if s1.2.2.2.2.2.1≥0 then
Option.bind (WW r8.1 s1.2.2.2.2.2.1 r8.2.1) (fun r9=>
if ¬r9.2=0 then
some (Sum.inr (((0,[],[]),(0,0,0,0,0),0,r9.2)))
else some (Sum.inl ((AG (s1.1+1),r9.1,(s1.2.2.1,s1.2.2.2.1,s1.2.2.2.2.1,r8.2.1,s1.2.2.2.2.2.2)))))
else some (Sum.inl ((AG (s1.1+1),r8.1,(s1.2.2.1,s1.2.2.2.1,r8.2.1,r8.2.1,s1.2.2.2.2.2.2)))))) ((0,a0,a1)))))
else Option.bind (QB a0 a1 a2) (fun bY=>
Option.bind (FL a0) (fun mX=>
if (mX.length:Int)<bY then
some (((0,[],[]),(0,0,0,0,0),0,4))
else AS (σ:=(Int×AY×AA)) (β:=(AY×AA×Int×Int)) (fun s2=>
if s2.1=bY then
Option.map Sum.inr (Option.bind (M0 s2.2.1 s2.2.2.2.2.1) (fun r12=>
Option.bind (FE s2.2.1 r12.1 a1.2.2.2.2) (fun r13=>
if ¬r13.2=0 then
some (((0,[],[]),(0,0,0,0,0),0,r13.2))
else if bY=0 then
Option.bind (TT a0) (fun r14=>
some ((r14,(s2.2.2.1,s2.2.2.2.1,s2.2.2.2.2.1,s2.2.2.2.2.2.1,AG (s2.2.2.2.2.2.2+a2)),r13.1,0)))
else some ((s2.2.1,(s2.2.2.1,s2.2.2.2.1,s2.2.2.2.2.1,s2.2.2.2.2.2.1,AG (s2.2.2.2.2.2.2+a2)),r13.1,0)))))
else Option.bind (aC s2.2.1 a1.1 a1.2.1) (fun r15=>
if ¬r15.2.2=0 then
some (Sum.inr (((0,[],[]),(0,0,0,0,0),0,r15.2.2)))
else if s2.2.2.2.2.2.1≥0 then
Option.bind (WW r15.1 s2.2.2.2.2.2.1 r15.2.1) (fun r16=>
if ¬r16.2=0 then
some (Sum.inr (((0,[],[]),(0,0,0,0,0),0,r16.2)))
else some (Sum.inl ((AG (s2.1+1),r16.1,(s2.2.2.1,s2.2.2.2.1,s2.2.2.2.2.1,r15.2.1,s2.2.2.2.2.2.2)))))
else some (Sum.inl ((AG (s2.1+1),r15.1,(s2.2.2.1,s2.2.2.2.1,r15.2.1,r15.2.1,s2.2.2.2.2.2.2)))))) ((0,a0,a1)))))
@[reducible] def cZ:FnI:=AV [BG,JX,AF] [BG,JX,AF,AF] fun x=>gV x.1 x.2.1 x.2.2
def sW:Cx:=AP [(3,(2,1)),(4,(3,1)),(6,(4,1)),(7,(5,1)),(11,(7,1)),(12,(8,1)),(14,(13,1)),(52,(6,1)),(71,(11,2)),(89,(14,2)),(129,(9,2))] [] [(53,P6),(79,GZ),(125,V_),(159,TS),(160,gU),(161,cY),(162,N1),(163,G6),(164,Y0)] [(0,BD [(13,AF)] [(7,BG),(8,JX)] [] (DW [(8,2),(14,3),(60,41)]) [] 16)] []
theorem oF:CV 110 cZ:=okW sW [.cell 6 33,.cell 7 104,.tmp 8,.tmp 9] 133 16 (AN (.cons TC (.cons HR (.cons bW (.cons YX (.cons sU (.cons oD (.cons QT (.cons HS (.cons mK AB.nil))))))))) AM.nil) Tryz.func110
def c8 (a0:AY) (a1:Int) (a2:Int) (a3:Int):Option (AY×Int):=
Option.bind (CR a0) (fun r1=>
if (!r1)=true then
some (((0,[],[]),1))
else Option.bind (N3 a2 a3) (fun r2=>
if ¬r2.2=0 then
some (((0,[],[]),r2.2))
else Option.bind (FE a0 a1 (AG (a2+a3))) (fun r3=>
if ¬r3.2=0 then
some (((0,[],[]),r3.2))
else Option.bind (D5 a0) (fun r4=>
AS (σ:=(Int×QK)) (β:=(AY×Int)) (fun s1=>
if s1.1<=(AG (a2+a3)) then
Option.bind (FF (a0,a1,a2,a3) s1.1) (fun r5=>
if 0<=r5/\r5<(s1.2.length:Int) then
some (Sum.inl ((AG (s1.1+1),s1.2.set r5.toNat (0#64))))
else none)
else Option.map Sum.inr (if 0<=a1/\a1<(s1.2.length:Int) then
some (((r4.1,s1.2.set a1.toNat r2.1,r4.2.2),0))
else none)) ((1,r4.2.1))))))
@[reducible] def Y1:FnI:=AV [BG,AF,AF,AF] [OP,A9] fun x=>c8 x.1 x.2.1 x.2.2.1 x.2.2.2
def oG:Cx:=AP [(4,(2,1)),(8,(3,1)),(14,(6,1)),(15,(7,1)),(45,(4,2))] [] [(28,DK),(65,MI),(78,B_),(152,EI),(163,G6)] [(0,BD [(16,AF)] [] [(4,.u64)] (DW [(51,13)]) [] 8)] []
theorem mL:CV 111 Y1:=okW oG [.cell 8 33,.tmp 9] 70 6 (AN (.cons DS (.cons O8 (.cons B8 (.cons G8 (.cons HS AB.nil))))) AM.nil) Tryz.func111
def gW (a0:BZ) (a1:Int) (a2:Int):Option (BZ×Int×Int):=
if a0.2.2.2.2.2.2.2.2=true then
some (((((⟨#[]⟩:ByteArray),[],0),(0,[],[]),[],0,[],([],[]),0,(0,0,0,0,0,0,0,0,0),false),0,19))
else Option.bind (N3 a1 a2) (fun r1=>
if ¬r1.2=0 then
some (((((⟨#[]⟩:ByteArray),[],0),(0,[],[]),[],0,[],([],[]),0,(0,0,0,0,0,0,0,0,0),false),0,r1.2))
else Option.bind (JJ a0.1 a0.2.1 a0.2.2.1 a0.2.2.2.1 (AG ((AG ((1:Int)+a1))+a2))) (fun r2=>
Option.bind (DT a0) (fun r3=>
Option.bind (α:=(Int×Int×AA×BZ) ⊕ (BZ×Int×Int)) (if r2.1=3 then
Option.bind (UO a0 (AG ((AG ((1:Int)+a1))+a2))) (fun r4=>
Option.bind (JJ r4.1 r4.2.1 r4.2.2.1 r4.2.2.2.1 (AG ((AG ((1:Int)+a1))+a2))) (fun r5=>
some (Sum.inl ((r5.1,r5.2.2,r5.2.1,r4)))))
else some (Sum.inl ((r2.1,r2.2.2,r2.2.1,r3)))) (fun q=>match q with
|Sum.inl j1=>(if ¬j1.2.1=0 then
some (((j1.2.2.2.1,j1.2.2.2.2.1,j1.2.2.2.2.2.1,j1.2.2.2.2.2.2.1,j1.2.2.2.2.2.2.2.1,j1.2.2.2.2.2.2.2.2.1,j1.2.2.2.2.2.2.2.2.2.1,j1.2.2.2.2.2.2.2.2.2.2.1,true),0,18))
else if j1.1=3 then
some (((j1.2.2.2.1,j1.2.2.2.2.1,j1.2.2.2.2.2.1,j1.2.2.2.2.2.2.1,j1.2.2.2.2.2.2.2.1,j1.2.2.2.2.2.2.2.2.1,j1.2.2.2.2.2.2.2.2.2.1,j1.2.2.2.2.2.2.2.2.2.2.1,true),0,18))
else Option.bind (gV j1.2.2.2.2.1 j1.2.2.1 (AG ((AG ((1:Int)+a1))+a2))) (fun r6=>
Option.bind (α:=(Int×AY) ⊕ (BZ×Int×Int)) (if r6.2.2.2=0 then
Option.bind (c8 r6.1 r6.2.2.1 a1 a2) (fun r7=>
some (Sum.inl ((r7.2,r7.1))))
else some (Sum.inl ((r6.2.2.2,r6.1)))) (fun q=>match q with
|Sum.inl j2=>(if ¬j2.1=0 then
some (((((⟨#[]⟩:ByteArray),[],0),(0,[],[]),[],0,[],([],[]),0,(0,0,0,0,0,0,0,0,0),false),0,j2.1))
else if j1.1=1 then
Option.bind (QX j1.2.2.2.2.2.1 r6.2.1) (fun r8=>
if ¬r8.2=0 then
some (((((⟨#[]⟩:ByteArray),[],0),(0,[],[]),[],0,[],([],[]),0,(0,0,0,0,0,0,0,0,0),false),0,r8.2))
else some (((j1.2.2.2.1,j2.2,r8.1,j1.2.2.2.2.2.2.1,j1.2.2.2.2.2.2.2.1,j1.2.2.2.2.2.2.2.2.1,j1.2.2.2.2.2.2.2.2.2.1,(AG (j1.2.2.2.2.2.2.2.2.2.2.1.1+(AG ((AG ((1:Int)+a1))+a2))),AG (j1.2.2.2.2.2.2.2.2.2.2.1.2.1+1),j1.2.2.2.2.2.2.2.2.2.2.1.2.2),j1.2.2.2.2.2.2.2.2.2.2.2),r6.2.2.1,0)))
else Option.bind (eX j1.2.2.2.2.2.1 r6.2.1) (fun r9=>
if ¬r9.2=0 then
some (((((⟨#[]⟩:ByteArray),[],0),(0,[],[]),[],0,[],([],[]),0,(0,0,0,0,0,0,0,0,0),false),0,r9.2))
else some (((j1.2.2.2.1,j2.2,r9.1,AG (j1.2.2.2.2.2.2.1+1),j1.2.2.2.2.2.2.2.1,j1.2.2.2.2.2.2.2.2.1,j1.2.2.2.2.2.2.2.2.2.1,(AG (j1.2.2.2.2.2.2.2.2.2.2.1.1+(AG ((AG ((1:Int)+a1))+a2))),AG (j1.2.2.2.2.2.2.2.2.2.2.1.2.1+1),j1.2.2.2.2.2.2.2.2.2.2.1.2.2),j1.2.2.2.2.2.2.2.2.2.2.2),r6.2.2.1,0))))
|Sum.inr b1=>some b1)))
|Sum.inr b2=>some b2))))
@[reducible] def c9:FnI:=AV [D8,AF,AF] [D8,AF,AF] fun x=>gW x.1 x.2.1 x.2.2
def sX:Cx:=AP [(3,(7,1)),(6,(8,1)),(13,(9,1)),(15,(17,1)),(16,(34,1)),(17,(35,1)),(51,(10,7)),(56,(18,7)),(84,(32,2)),(96,(36,2)),(111,(40,1)),(119,(41,1))] [] [(18,DL),(62,O6),(63,aA),(65,MI),(108,L8),(109,SE),(110,cZ),(111,Y1)] [] [(12,BD [(12,AF),(14,AF)] [(9,JX),(17,D8)] [] (DW [(52,19)]) [10,11,12,13,14,15,16] 25),(18,BD [(14,AF)] [(34,BG)] [] (DW [(89,10)]) [] 38)]
theorem oH:CV 68 c9:=okW sX [.cell 6 42,.tmp 7,.tmp 8] 146 35 (AN (.cons DM (.cons UM (.cons gQ (.cons O8 (.cons QC (.cons cX (.cons oF (.cons mL AB.nil)))))))) AM.nil) Tryz.func68
def p_ :Option RR:=
if 0<=(32:Int)/\(32:Int)<=(32:Int)/\(32:Int)*((1:Nat):Int)<=140737488355328 then
if 0<=(32:Int)/\(32:Int)<=(32:Int)/\(32:Int)*((8:Nat):Int)<=140737488355328 then
some ((List.replicate (32:Int).toNat (false:Bool),List.replicate (32:Int).toNat (0#64:(BitVec 64))))
else none
else none
@[reducible] def mM:FnI:=AV [] [ABB] fun x=>p_ 
def z8:Cx:=AP [(0,(0,1)),(1,(1,1)),(2,(2,1))] [1,2] [] [] []
theorem xI:CV 15 mM:=okW z8 [.cell 0 38] 4 3 (AN AB.nil AM.nil) Tryz.func15
def OF (a0:P2) (a1:Int) (a2:Int):Option (BZ×Int):=
Option.bind (DN a0) (fun r1=>
if ¬r1=0 then
some (((((⟨#[]⟩:ByteArray),[],0),(0,[],[]),[],0,[],([],[]),0,(0,0,0,0,0,0,0,0,0),false),r1))
else Option.bind (lL a1 a2) (fun r2=>
if ¬r2.2=0 then
some (((((⟨#[]⟩:ByteArray),[],0),(0,[],[]),[],0,[],([],[]),0,(0,0,0,0,0,0,0,0,0),false),r2.2))
else Option.bind (JD a0) (fun r3=>
if 0<=(a0.2.1.length:Int)/\(a0.2.1.length:Int)<=(a0.2.1.length:Int)/\(a0.2.1.length:Int)*((24:Nat):Int)<=140737488355328 then
Option.bind (p_) (fun r4=>
some (((r3,r2.1,List.replicate (a0.2.1.length:Int).toNat ([]:(List AA)),0,[],r4,0,(0,0,0,0,0,0,0,0,0),false),0)))
else none)))
@[reducible] def aD:FnI:=AV [V5,AF,AF] [AFN,A9] fun x=>OF x.1 x.2.1 x.2.2
def z9:Cx:=AP [(3,(1,1)),(6,(2,1)),(9,(5,1)),(20,(3,2)),(28,(6,1)),(33,(7,1)),(34,(8,2))] [33] [(12,ED),(13,gB),(14,OQ),(15,mM)] [] []
theorem gX:CV 6 aD:=okW z9 [.cell 6 42,.tmp 7] 36 9 (AN (.cons FA (.cons rT (.cons UA (.cons xI AB.nil)))) AM.nil) Tryz.func6
def gY (a0:HI):Option Int:=
AS (σ:=(Int×Int)) (β:=Int) (fun s1=>
if s1.2<(a0.length:Int) then
if 0<=s1.2/\s1.2<(a0.length:Int) then
AS (σ:=(Int×Int)) (β:=((Int×Int) ⊕ Int)) (fun s2=>
if s2.2<((gl ([]:(List AA)) a0 s1.2.toNat).length:Int) then
if 0<=s2.2/\s2.2<((gl ([]:(List AA)) a0 s1.2.toNat).length:Int) then
some (Sum.inl ((AG (s2.1+(((((gl ((0,0,0,0,0):AA) (gl ([]:(List AA)) a0 s1.2.toNat) s2.2.toNat).2).2).2).2)),AG (s2.2+1))))
else none
else some (Sum.inr (Sum.inl ((s2.1,AG (s1.2+1)))))) ((s1.1,0))
else none
else some (Sum.inr (s1.1))) ((0,0))
@[reducible] def c_:FnI:=AV [MV] [A9] fun x=>gY x
def sY:Cx:=AP [(7,(2,1)),(13,(1,1))] [] [] [(0,BD [(3,AF),(10,AF)] [] [] (DW [(5,1),(7,1),(11,15)]) [] 1),(2,BD [(3,AF),(16,AF)] [] [] (DW [(7,1),(17,8)]) [] 2)] []
theorem oI:CV 20 c_:=okW sY [.tmp 2] 27 2 (AN AB.nil AM.nil) Tryz.func20
def B9 (a0:BZ):Option Int:=
Option.bind (gY a0.2.2.1) (fun r1=>
some (r1))
@[reducible] def NH:FnI:=AV [D8] [A9] fun x=>B9 x
def i_:Cx:=AP [(1,(7,1))] [] [(20,c_)] [] []
theorem SF:CV 9 NH:=okW i_ [.tmp 2] 6 1 (AN (.cons oI AB.nil) AM.nil) Tryz.func9
def SG (a0:Int):Option Int:=
Option.bind (α:=Bool ⊕ Int) (if a0=1 then
some (Sum.inl (decide (a0=1)))
else if a0=2 then
some (Sum.inl (decide (a0=2)))
else if a0=4 then
some (Sum.inl (decide (a0=4)))
else some (Sum.inl (decide (a0=6)))) (fun q=>match q with
|Sum.inl j1=>(if j1=true then
some (2)
else if a0=3 then
if a0=3 then
some (3)
else if a0=7 then
if a0=7 then
some (1)
else if a0=8 then
if a0=8 then
some (0)
else some ((-1))
else if a0=10 then
some (0)
else some ((-1))
else if a0=9 then
some (1)
else if a0=8 then
if a0=8 then
some (0)
else some ((-1))
else if a0=10 then
some (0)
else some ((-1))
else if a0=5 then
some (3)
else if a0=7 then
if a0=7 then
some (1)
else if a0=8 then
if a0=8 then
some (0)
else some ((-1))
else if a0=10 then
some (0)
else some ((-1))
else if a0=9 then
some (1)
else if a0=8 then
if a0=8 then
some (0)
else some ((-1))
else if a0=10 then
some (0)
else some ((-1)))
|Sum.inr b1=>some b1)
@[reducible] def QD:FnI:=AV [AF] [A9] fun x=>SG x
def dA:Cx:=AP [] [] [] [] [(6,BD [(4,bM)] [] [] [5,6,7,8] [] 0)]
theorem aE:CV 27 QD:=okW dA [.tmp 2] 18 0 (AN AB.nil AM.nil) Tryz.func27
def WX (a0:(List Int)):Option (List GM):=
if Bd none (some (if (4096:Int)<(a0.length:Int) then 4096 else (a0.length:Int))) ((if (4096:Int)<(a0.length:Int) then 4096 else (a0.length:Int)).toNat) a0.length then
AS (σ:=((List GM)×Int)) (β:=(List GM)) (fun s1=>
if s1.2<((DQ a0 0 (((if (4096:Int)<(a0.length:Int) then 4096 else (a0.length:Int)).toNat)-0)).length:Int) then
if 0<=s1.2/\s1.2<((DQ a0 0 (((if (4096:Int)<(a0.length:Int) then 4096 else (a0.length:Int)).toNat)-0)).length:Int) then
Option.bind (SG (AG (gl (0:Int) (DQ a0 0 (((if (4096:Int)<(a0.length:Int) then 4096 else (a0.length:Int)).toNat)-0)) s1.2.toNat))) (fun r1=>
if r1<0 then
if (s1.1.length+([(0,0,0,0)]:List GM).length)*32<=140737488355328 then
some (Sum.inl ((s1.1++([(0,0,0,0)]:List GM),AG (s1.2+1))))
else none
else if r1>(AG ((AG (((DQ a0 0 (((if (4096:Int)<(a0.length:Int) then 4096 else (a0.length:Int)).toNat)-0)).length:Int)-s1.2))-1)) then
if (s1.1.length+([(0,0,0,0)]:List GM).length)*32<=140737488355328 then
some (Sum.inr (s1.1++([(0,0,0,0)]:List GM)))
else none
else if 0<=s1.2/\s1.2<((DQ a0 0 (((if (4096:Int)<(a0.length:Int) then 4096 else (a0.length:Int)).toNat)-0)).length:Int) then
if Bd none (some r1) r1.toNat 3 then
AS (σ:=(Int×GM)) (β:=(((List GM)×Int) ⊕ (List GM))) (fun s2=>
if s2.1<((r1.toNat:Nat):Int) then
if 0<=s2.1/\s2.1<((r1.toNat:Nat):Int) then
if s2.1=((0:Nat):Int) then
if 0<=(AG ((AG (s1.2+1))+s2.1))/\(AG ((AG (s1.2+1))+s2.1))<((DQ a0 0 (((if (4096:Int)<(a0.length:Int) then 4096 else (a0.length:Int)).toNat)-0)).length:Int) then
some (Sum.inl ((AG (s2.1+1),(s2.2.1,AG (gl (0:Int) (DQ a0 0 (((if (4096:Int)<(a0.length:Int) then 4096 else (a0.length:Int)).toNat)-0)) ((AG ((AG (s1.2+1))+s2.1)).toNat)),s2.2.2.2))))
else none
else if s2.1=((1:Nat):Int) then
if 0<=(AG ((AG (s1.2+1))+s2.1))/\(AG ((AG (s1.2+1))+s2.1))<((DQ a0 0 (((if (4096:Int)<(a0.length:Int) then 4096 else (a0.length:Int)).toNat)-0)).length:Int) then
some (Sum.inl ((AG (s2.1+1),(s2.2.1,s2.2.2.1,AG (gl (0:Int) (DQ a0 0 (((if (4096:Int)<(a0.length:Int) then 4096 else (a0.length:Int)).toNat)-0)) ((AG ((AG (s1.2+1))+s2.1)).toNat)),s2.2.2.2.2))))
else none
else if s2.1=((2:Nat):Int) then
if 0<=(AG ((AG (s1.2+1))+s2.1))/\(AG ((AG (s1.2+1))+s2.1))<((DQ a0 0 (((if (4096:Int)<(a0.length:Int) then 4096 else (a0.length:Int)).toNat)-0)).length:Int) then
some (Sum.inl ((AG (s2.1+1),(s2.2.1,s2.2.2.1,s2.2.2.2.1,AG (gl (0:Int) (DQ a0 0 (((if (4096:Int)<(a0.length:Int) then 4096 else (a0.length:Int)).toNat)-0)) ((AG ((AG (s1.2+1))+s2.1)).toNat))))))
else none
else none
else none
else Option.map Sum.inr (if (s1.1.length+([s2.2]:List GM).length)*32<=140737488355328 then
some (Sum.inl ((s1.1++([s2.2]:List GM),AG (s1.2+(AG ((1:Int)+r1))))))
else none)) ((0,(AG (gl (0:Int) (DQ a0 0 (((if (4096:Int)<(a0.length:Int) then 4096 else (a0.length:Int)).toNat)-0)) s1.2.toNat),0,0,0)))
else none
else none)
else none
else some (Sum.inr (s1.1))) (([],0))
else none
@[reducible] def UP:FnI:=AV [AMG] [⟨(.slice wS),false,true,false⟩] fun x=>WX x
def jA:Cx:=AP [(6,(7,1)),(13,(1,1)),(29,(3,1)),(30,(4,1)),(43,(5,1)),(44,(6,1)),(54,(8,1)),(76,(9,1)),(77,(10,1))] [30,44,77] [(27,QD)] [(0,BD [(3,⟨(.slice wS),false,true,false⟩),(4,AF)] [] [] (DW [(2,1),(5,4),(14,68)]) [] 2),(3,BD [(58,AF)] [(7,AB9)] [] (DW [(7,2),(59,15)]) [] 9)] []
theorem e8:CV 17 UP:=okW jA [.tmp 2] 83 10 (AN (.cons aE AB.nil) AM.nil) Tryz.func17
def AHL:List (Int×Nat):=[(1,41),(2,42),(3,43),(4,44),(5,45),(6,46),(7,47),(8,48),(9,49),(10,50)]
theorem AK4:AJG Tryz.prog 36 AHL:=by
 refine⟨calleeRuns_of Tryz.func36 rfl (by kernel_rfl),fun w=> ?_⟩
 refine calls_of_wp Tryz.func36 rfl (wp_seq (wp_region (.inl ?_)))
 change Code.wp Tryz.prog (.seq (.region 1 _ false) .ret) _ _ w
 refine wp_seq (wp_region (.inl ?_))
 have hx:∀ (ρ:Operand->Value) (o:Oper),o.op= .makeMap 110 none->(execOp ρ o).run Tryz.prog w= .ok (.value (.map (some w.heap.size))) (w.alloc (.map #[] 0)):=by
  intro ρ o ho
  simp only[execOp,ho]
  exact BB rfl
 change Oper.upon _ _ _ (wpOps Tryz.prog _ _ (List.range' 1 AHL.length++ [11,12])) _ (Sem.run _ (execOp _ _) w)
 rw[hx _ _ rfl,Oper.upon_value]
 refine AFB (m:=1) (b:=w.heap.size) (fin:=[11,12]) (by kernel_rfl:Tryz.prog.underlying 110=some (.map 3 108)) (by kernel_rfl:Tryz.prog.underlying 3=some (.int .i64)) (by simp [Act.eval,Act.put,Tryz.ntmps36]) AHL 1 [] _ #[] 0 ?_ ?_ rfl (by decide) ?_
 ·intro j x hx
  match j,hx with
  |0,rfl=>exact⟨_,rfl,rfl,rfl,rfl⟩
  |1,rfl=>exact⟨_,rfl,rfl,rfl,rfl⟩
  |2,rfl=>exact⟨_,rfl,rfl,rfl,rfl⟩
  |3,rfl=>exact⟨_,rfl,rfl,rfl,rfl⟩
  |4,rfl=>exact⟨_,rfl,rfl,rfl,rfl⟩
  |5,rfl=>exact⟨_,rfl,rfl,rfl,rfl⟩
  |6,rfl=>exact⟨_,rfl,rfl,rfl,rfl⟩
  |7,rfl=>exact⟨_,rfl,rfl,rfl,rfl⟩
  |8,rfl=>exact⟨_,rfl,rfl,rfl,rfl⟩
  |9,rfl=>exact⟨_,rfl,rfl,rfl,rfl⟩
  |j+10,hx=>cases hx
 ·show (w.heap.push (.map #[] 0))[w.heap.size]? =_
  simp
 intro w' es ck h1 h2 h3 h4 h5
 refine .inl (.inl ?_)
 refine wp_ret ⟨rfl,_,by simp [results,Act.eval,Act.put,Tryz.ntmps36,Tryz.results36],es,ck,rfl, ?_,⟨h4.os,h4.tape,h4.output⟩,h5⟩
 apply ADA
 intro c
 rw[jQ]
 split
 ·rename_i hc;rw[hc];exact h3
 ·rename_i hc
  rw[h2 c hc]
  show (w.heap.push (.map #[] 0))[c]? =_
  rw[jQ,BC hc]
theorem AK5:Idle Tryz.prog 35 2:=by
 refine⟨calleeRuns_of Tryz.func35 rfl (by kernel_rfl),fun AFA w hc=> ?_⟩
 obtain⟨x,y,rfl⟩:∃ x y,AFA= #[x,y]:=by
  rcases AFA with ⟨l⟩
  match l,hc with
  | [x,y],_=>exact⟨x,y,rfl⟩
 refine callsD_of_wpS Tryz.func35 rfl fun c₀ cs hu=> ?_
 apply wpS_seq
 apply wpS_region
 simp [wpOpsS,go_sem,recoverD,hu,Tryz.ntmps35,Exit.thenS]
 refine wpS_of_wp ?_
 go_wp2
 cases c₀
 simp_all [bodyPostS,results]
def BK (a0:Int):Option Unit:=
if ¬a0=0 then
none
else some (())
@[reducible] def B0:FnI:=AV [AF] [] fun x=>BK x
def mN:Cx:=AP [] [] [] [] []
theorem B1:CV 66 B0:=okW mN [] 7 0 (AN AB.nil AM.nil) Tryz.func66
def GD (a0:(List Bool)) (a1:Bool):Option Int:=
AS (σ:=Int) (β:=Int) (fun s1=>
if s1<(a0.length:Int) then
if 0<=s1/\s1<(a0.length:Int) then
if a1=(gl (false:Bool) a0 s1.toNat) then
some (Sum.inr (s1))
else some (Sum.inl (AG (s1+1)))
else none
else some (Sum.inr ((-1)))) (0)
@[reducible] def FO:FnI:=AV [⟨AK0,false,false,false⟩,bM] [A9] fun x=>GD x.1 x.2
def QY:Cx:=AP [] [] [] [(0,BD [(8,AF)] [] [] (DW [(4,2),(9,10)]) [] 1)] []
theorem I0:CV 107 FO:=okW QY [.tmp 4] 19 0 (AN AB.nil AM.nil) Tryz.func107
def IL (a0:(List Bool)) (a1:Bool):Option Bool:=
Option.bind (GD a0 a1) (fun r1=>
some (decide (r1≥0)))
@[reducible] def H7:FnI:=AV [⟨AK0,false,false,false⟩,bM] [D1] fun x=>IL x.1 x.2
def N4:Cx:=AP [] [] [(107,FO)] [] []
theorem NI:CV 67 H7:=okW N4 [.tmp 4] 9 0 (AN (.cons I0 AB.nil) AM.nil) Tryz.func67
def WY (a0:RR):Option Bool:=
if ¬(a0.1.length:Int)=32 then
some (false)
else if ¬(a0.2.length:Int)=32 then
some (false)
else AS (σ:=Int) (β:=Bool) (fun s1=>
if s1<(a0.1.length:Int) then
if 0<=s1/\s1<(a0.1.length:Int) then
if (!(gl (false:Bool) a0.1 s1.toNat))=true then
if 0<=s1/\s1<(a0.2.length:Int) then
if ¬(gl (0#64:(BitVec 64)) a0.2 s1.toNat)=(0#64) then
some (Sum.inr (false))
else some (Sum.inl (AG (s1+1)))
else none
else some (Sum.inl (AG (s1+1)))
else none
else some (Sum.inr (true))) (0)
@[reducible] def TU:FnI:=AV [fZ] [D1] fun x=>WY x
def sZ:Cx:=AP [(1,(2,1))] [] [] [(0,BD [(18,AF)] [] [] (DW [(2,3),(19,15)]) [] 3)] []
theorem Y2:CV 165 TU:=okW sZ [.tmp 2] 34 1 (AN AB.nil AM.nil) Tryz.func165
def mO (a0:RR) (a1:(BitVec 64)):Option (RR×Int×Int):=
Option.bind (WY a0) (fun r1=>
if (!r1)=true then
some ((([],[]),0,1))
else Option.bind (GD a0.1 false) (fun r2=>
if r2<0 then
some ((([],[]),0,15))
else Option.bind (NX a0) (fun r3=>
if 0<=r2/\r2<(r3.1.length:Int) then
if 0<=r2/\r2<(r3.2.length:Int) then
some (((r3.1.set r2.toNat true,r3.2.set r2.toNat a1),AG (r2+1),0))
else none
else none)))
@[reducible] def gZ:FnI:=AV [fZ,EO] [ABB,A9,A9] fun x=>mO x.1 x.2
def xJ:Cx:=AP [(2,(2,1)),(4,(3,1)),(8,(6,1)),(20,(4,2))] [] [(31,MF),(107,FO),(165,TU)] [] []
theorem s_:CV 112 gZ:=okW xJ [.cell 4 38,.tmp 5,.tmp 6] 33 5 (AN (.cons OS (.cons I0 (.cons Y2 AB.nil))) AM.nil) Tryz.func112
def DY (a0:MU) (a1:(BitVec 64)):Option RS:=
Option.bind (mO a0.1.2.2.2.2.2.1 a1) (fun r1=>
Option.bind (BK r1.2.2) (fun r2=>
some ((BitVec.ofInt 64 r1.2.1,((a0.1.1,a0.1.2.1,a0.1.2.2.1,a0.1.2.2.2.1,a0.1.2.2.2.2.1,r1.1,a0.1.2.2.2.2.2.2),a0.2)))))
@[reducible] def FP:FnI:={ ps:=[FW,EO],rs:=[FV],os:=[FW],bk:=[0],F:=fun x=>DY x.1 x.2 }
def QZ:Cx:=AP [(5,(10,1)),(15,(8,2))] [] [(66,B0),(112,gZ)] [] []
theorem I1:CV 69 FP:=okW QZ [.tmp 4] 28 3 (AN (.cons B1 (.cons s_ AB.nil)) AM.nil) Tryz.func69
def G9 (a0:MU):Option RS:=
Option.bind (N3 a0.2.2.1 a0.2.2.2.1) (fun r1=>
Option.bind (BK r1.2) (fun r2=>
Option.bind (α:=Unit ⊕ RS) (Option.bind (IL a0.1.2.2.2.2.2.1.1 false) (fun r3=>
if (!r3)=true then
Option.bind (BK 15) (fun r4=>
some (Sum.inl (())))
else some (Sum.inl (())))) (fun q=>match q with
|Sum.inl j1=>(Option.bind (gW a0.1 a0.2.2.1 a0.2.2.2.1) (fun r5=>
if r5.2.2=18 then
Option.bind (BK r5.2.2) (fun r6=>
Option.bind (DY (r5.1,a0.2) ((BitVec.ofInt 64 r5.2.1)+(1#64))) (fun r7=>
some ((r7.1,r7.2))))
else Option.bind (BK r5.2.2) (fun r8=>
Option.bind (DY (r5.1,a0.2) ((BitVec.ofInt 64 r5.2.1)+(1#64))) (fun r9=>
some ((r9.1,r9.2))))))
|Sum.inr b1=>some b1)))
@[reducible] def J0:FnI:={ ps:=[FW],rs:=[FV],os:=[FW],bk:=[0],F:=fun x=>G9 x }
def SH:Cx:=AP [(5,(15,1)),(47,(8,7)),(67,(16,7))] [] [(65,MI),(66,B0),(67,H7),(68,c9),(69,FP)] [] [(5,BD [] [] [] (DW [(23,9)]) [] 8)]
theorem Q0:CV 41 J0:=okW SH [.tmp 2] 68 15 (AN (.cons O8 (.cons B1 (.cons NI (.cons oH (.cons I1 AB.nil))))) AM.nil) Tryz.func41
def WZ (a0:RR) (a1:Int):Option Int:=
Option.bind (WY a0) (fun r1=>
if (!r1)=true then
some (1)
else if a1<1 then
some (14)
else if a1>32 then
some (14)
else if 0<=(AG (a1-1))/\(AG (a1-1))<(a0.1.length:Int) then
if (!(gl (false:Bool) a0.1 ((AG (a1-1)).toNat)))=true then
some (14)
else some (0)
else none)
@[reducible] def TV:FnI:=AV [fZ,AF] [A9] fun x=>WZ x.1 x.2
def tA:Cx:=AP [(2,(2,1))] [] [(165,TU)] [] []
theorem Y3:CV 120 TV:=okW tA [.tmp 4] 23 1 (AN (.cons Y2 AB.nil) AM.nil) Tryz.func120
def qA (a0:RR) (a1:Int):Option X3:=
Option.bind (WZ a0 a1) (fun r1=>
if ¬r1=0 then
some ((0#64,r1))
else if 0<=(AG (a1-1))/\(AG (a1-1))<(a0.2.length:Int) then
some ((gl (0#64:(BitVec 64)) a0.2 ((AG (a1-1)).toNat),0))
else none)
@[reducible] def mP:FnI:=AV [fZ,AF] [FV,A9] fun x=>qA x.1 x.2
def z_:Cx:=AP [(2,(2,1))] [] [(120,TV)] [] []
theorem xK:CV 117 mP:=okW z_ [.tmp 4,.tmp 5] 19 1 (AN (.cons Y3 AB.nil) AM.nil) Tryz.func117
def DF (a0:MU) (a1:Int):Option RS:=
if a1=0 then
some ((0#64,a0))
else Option.bind (qA a0.1.2.2.2.2.2.1 a1) (fun r1=>
Option.bind (BK r1.2) (fun r2=>
some ((r1.1,a0))))
@[reducible] def D6:FnI:={ ps:=[FW,AF],rs:=[FV],os:=[FW],bk:=[0],ro:=[0],F:=fun x=>DF x.1 x.2 }
def TW:Cx:=AP [] [] [(66,B0),(117,mP)] [] []
theorem GF:CV 73 D6:=okW TW [.tmp 4] 22 0 (AN (.cons B1 (.cons xK AB.nil)) AM.nil) Tryz.func73
def BT (a0:MU) (a1:Int):Option (Int×MU):=
Option.bind (DF a0 a1) (fun r1=>
if r1.1=(0#64) then
Option.bind (BK 16) (fun r2=>
some ((AG (((r1.1-(1#64)).toNat:Int)),a0)))
else some ((AG (((r1.1-(1#64)).toNat:Int)),a0)))
@[reducible] def BR:FnI:={ ps:=[FW,AF],rs:=[A9],os:=[FW],bk:=[0],ro:=[0],F:=fun x=>BT x.1 x.2 }
def Q1:Cx:=AP [(8,(8,7))] [] [(66,B0),(73,D6)] [] []
theorem BW:CV 71 BR:=okW Q1 [.tmp 4] 15 7 (AN (.cons B1 (.cons GF AB.nil)) AM.nil) Tryz.func71
def qB (a0:AY) (a1:Int):Option B7:=
Option.bind (OX a0) (fun r1=>
if (!r1)=true then
some ((0,0,1))
else if a1<0 then
some ((0,0,2))
else if True then
if a1≥(AG ((a0.2.2.length:Int)*2 ^ min (BitVec.ofInt 64 a0.1).toNat 64)) then
some ((0,0,2))
else if True then
Option.bind (MW a0) (fun r2=>
some ((a1 / 2 ^ min (BitVec.ofInt 64 a0.1).toNat 64,oQ .and a1 (AG (r2-1)),0)))
else none
else none)
@[reducible] def mQ:FnI:=AV [BG,AF] [A9,A9,A9] fun x=>qB x.1 x.2
def AA0:Cx:=AP [(2,(2,1))] [] [(135,NU),(194,NA)] [] []
theorem xL:CV 195 mQ:=okW AA0 [.tmp 4,.tmp 5,.tmp 6] 33 1 (AN (.cons QL (.cons R5 AB.nil)) AM.nil) Tryz.func195
def Y4 (a0:Int) (a1:Int) (a2:Bool) (a3:Int):Option (Bool×Bool×Int):=
if a2=true then
some ((true,true,a3))
else some ((true,decide (a0=a3),a3))
@[reducible] def W0:FnI:={ ps:=[AF,AF,AHK,AD2],rs:=[D1],os:=[AHK,AD2],bk:=[0,1],F:=fun x=>Y4 x.1 x.2.1 x.2.2.1 x.2.2.2 }
def mR:Cx:=AP [] [] [] [] []
theorem jB:CV 222 W0:=okW mR [.tmp 6] 13 0 (AN AB.nil AM.nil) Tryz.func222
def J1 (a0:AY) (a1:AA) (a2:Bool) (a3:Int):Option wP:=
Option.bind (GN a0 a1) (fun r1=>
if (!r1)=true then
some ((1,a2,a3))
else if a1.2.2.2.2=0 then
some ((0,a2,a3))
else Option.bind (M0 a0 a1.2.2.1) (fun r2=>
AS (σ:=wP) (β:=wP) (fun s1=>
if s1.1<a1.2.2.2.2 then
Option.bind (FE a0 r2.1 s1.1) (fun r3=>
if ¬r3.2=0 then
some (Sum.inr ((12,s1.2.1,s1.2.2)))
else if 0<=r3.1/\r3.1<(a0.2.1.length:Int) then
Option.bind (F9 (gl (0#64:(BitVec 64)) a0.2.1 r3.1.toNat)) (fun r4=>
if ¬r4.2.2.2.2=0 then
some (Sum.inr ((12,s1.2.1,s1.2.2)))
else if r4.2.2.2.1=true then
some (Sum.inr ((12,s1.2.1,s1.2.2)))
else if (AG ((AG ((1:Int)+r4.1))+r4.2.1))>(AG (a1.2.2.2.2-s1.1)) then
some (Sum.inr ((12,s1.2.1,s1.2.2)))
else Option.bind (Y4 r3.1 (AG ((AG ((1:Int)+r4.1))+r4.2.1)) s1.2.1 s1.2.2) (fun r5=>
if (!r5.1)=true then
some (Sum.inr ((0,r5.2.1,r5.2.2)))
else some (Sum.inl ((AG (s1.1+(AG ((AG ((1:Int)+r4.1))+r4.2.1))),r5.2.1,r5.2.2)))))
else none)
else some (Sum.inr ((0,s1.2.1,s1.2.2)))) ((0,a2,a3))))
@[reducible] def JG:FnI:={ ps:=[BG,JX,AHK,AD2],rs:=[A9],os:=[AHK,AD2],bk:=[2,3],sh:=[.one,.one,.NP 222 2],F:=fun x=>J1 x.1 x.2.1 x.2.2.1 x.2.2.2 }
def Q2:Cx:=AP [(3,(4,1)),(4,(5,1))] [] [(79,GZ),(96,FB),(162,N1),(163,G6),(222,W0)] [(0,BD [(9,AF)] [(2,bM),(3,AF)] [] (DW [(6,1),(10,7),(31,50)]) [] 6)] []
theorem PR:CV 178 JG:=okW Q2 [.tmp 6] 81 2 (AN (.cons HR (.cons F_ (.cons QT (.cons HS (.cons jB AB.nil))))) AM.nil) Tryz.func178
def g6 (a0:AY) (a1:AA) (a2:Int):Option Bool:=
Option.bind (J1 a0 a1 false a2) (fun r1=>
if r1.1=0 then
some (r1.2.1)
else some (false))
@[reducible] def dB:FnI:=AV [BG,JX,AF] [D1] fun x=>g6 x.1 x.2.1 x.2.2
def tB:Cx:=AP [(3,(2,1)),(4,(3,1)),(5,(4,1)),(7,(5,1))] [] [(178,JG)] [] []
theorem oJ:CV 196 dB:=okW tB [.tmp 6] 18 4 (AN (.cons PR AB.nil) AM.nil) Tryz.func196
def W1 (a0:BZ) (a1:Int):Option Bool:=
Option.bind (qB a0.2.1 a1) (fun r1=>
if ¬r1.2.2=0 then
some (false)
else if 0<=r1.1/\r1.1<(a0.2.1.2.2.length:Int) then
Option.bind (Z3 a0.2.2.1 ((gl ((0,0,0):B7) a0.2.1.2.2 r1.1.toNat).1)) (fun r2=>
if r2.2=true then
Option.bind (g6 a0.2.1 r2.1 a1) (fun r3=>
some (r3))
else some (false))
else none)
@[reducible] def dC:FnI:=AV [D8,AF] [D1] fun x=>W1 x.1 x.2
def tC:Cx:=AP [(2,(7,1)),(8,(8,1))] [] [(84,WD),(195,mQ),(196,dB)] [] []
theorem oK:CV 166 dC:=okW tC [.tmp 4] 41 2 (AN (.cons bZ (.cons xL (.cons oJ AB.nil))) AM.nil) Tryz.func166
def M4 (a0:BZ) (a1:Int) (a2:QK):Option Int:=
if a0.2.2.2.2.2.2.2.2=true then
some (19)
else Option.bind (W1 a0 a1) (fun r1=>
if (!r1)=true then
some (1)
else AS (σ:=Int) (β:=Int) (fun s1=>
if s1<(a2.length:Int) then
if 0<=s1/\s1<(a2.length:Int) then
if ¬(gl (0#64:(BitVec 64)) a2 s1.toNat)=(0#64) then
if (gl (0#64:(BitVec 64)) a2 s1.toNat).toNat>(BitVec.ofInt 64 (a0.2.1.2.1.length:Int)).toNat then
some (Sum.inr (1))
else Option.bind (W1 a0 (AG ((((gl (0#64:(BitVec 64)) a2 s1.toNat)-(1#64)).toNat:Int)))) (fun r2=>
if (!r2)=true then
some (Sum.inr (1))
else some (Sum.inl (AG (s1+1))))
else some (Sum.inl (AG (s1+1)))
else none
else some (Sum.inr (0))) (0))
@[reducible] def K4:FnI:=AV [D8,AF,AB7] [A9] fun x=>M4 x.1 x.2.1 x.2.2
def tD:Cx:=AP [(3,(8,1))] [] [(166,dC)] [(0,BD [(17,AF)] [] [] (DW [(6,1),(8,1),(18,23)]) [] 9)] []
theorem MJ:CV 113 K4:=okW tD [.tmp 6] 41 1 (AN (.cons oK AB.nil) AM.nil) Tryz.func113
def HX (a0:(AY×Int×Int×Int)) (a1:Int) (a2:Int) (a3:Int):Option (Int×Int):=
if a1<0 then
some ((0,17))
else if a1≥a2 then
some ((0,17))
else Option.bind (FF a0 (AG (a3+a1))) (fun r1=>
some ((r1,0)))
@[reducible] def G_:FnI:=AV [AFM,AF,AF,AF] [A9,A9] fun x=>HX x.1 x.2.1 x.2.2.1 x.2.2.2
def TX:Cx:=AP [(4,(2,1))] [] [(152,EI)] [] []
theorem J2:CV 197 G_:=okW TX [.tmp 8,.tmp 9] 22 1 (AN (.cons G8 AB.nil) AM.nil) Tryz.func197
def I5 (a0:(AY×Int×Int×Int)) (a1:Int):Option (Int×Int):=
Option.bind (HX a0 a1 a0.2.2.1 1) (fun r1=>
some ((r1.1,r1.2)))
@[reducible] def IM:FnI:=AV [AFM,AF] [A9,A9] fun x=>I5 x.1 x.2
def W2:Cx:=AP [(2,(2,1))] [] [(197,G_)] [] []
theorem LK:CV 168 IM:=okW W2 [.tmp 4,.tmp 5] 13 1 (AN (.cons J2 AB.nil) AM.nil) Tryz.func168
def GG (a0:AY) (a1:Int) (a2:Int):Option X3:=
Option.bind (G7 a0 a1) (fun r1=>
if ¬r1.2=0 then
some ((0#64,r1.2))
else Option.bind (I5 r1.1 a2) (fun r2=>
if ¬r2.2=0 then
some ((0#64,r2.2))
else if 0<=r2.1/\r2.1<(a0.2.1.length:Int) then
some ((gl (0#64:(BitVec 64)) a0.2.1 r2.1.toNat,0))
else none))
@[reducible] def FY:FnI:={ ps:=[BG,AF,AF],rs:=[FV,A9],os:=[],bk:=[],sh:=[.one,.one,.one,.NP 168 0],F:=fun x=>GG x.1 x.2.1 x.2.2 }
def LC:Cx:=AP [(4,(2,1)),(10,(5,1)),(16,(3,2))] [] [(121,FN),(168,IM)] [] []
theorem K5:CV 167 FY:=okW LC [.tmp 8,.tmp 9] 37 4 (AN (.cons GB (.cons LK AB.nil)) AM.nil) Tryz.func167
def g7 (a0:AY) (a1:Int) (a2:Int):Option X3:=
Option.bind (GG a0 a1 a2) (fun r1=>
some ((r1.1,r1.2)))
@[reducible] def dD:FnI:=AV [BG,AF,AF] [FV,A9] fun x=>g7 x.1 x.2.1 x.2.2
def tE:Cx:=AP [(3,(2,1))] [] [(167,FY)] [] []
theorem oL:CV 114 dD:=okW tE [.tmp 6,.tmp 7] 14 1 (AN (.cons K5 AB.nil) AM.nil) Tryz.func114
def Q3 (a0:BZ) (a1:Int) (a2:Int):Option X3:=
Option.bind (M4 a0 a1 []) (fun r1=>
if ¬r1=0 then
some ((0#64,r1))
else Option.bind (g7 a0.2.1 a1 a2) (fun r2=>
some ((r2.1,r2.2))))
@[reducible] def PA:FnI:=AV [D8,AF,AF] [FV,A9] fun x=>Q3 x.1 x.2.1 x.2.2
def mS:Cx:=AP [(3,(7,1))] [] [(113,K4),(114,dD)] [] []
theorem UQ:CV 70 PA:=okW mS [.tmp 6,.tmp 7] 22 1 (AN (.cons MJ (.cons oL AB.nil)) AM.nil) Tryz.func70
def FQ (a0:MU):Option RS:=
Option.bind (BT a0 a0.2.2.1) (fun r1=>
Option.bind (Q3 a0.1 r1.1 a0.2.2.2.1) (fun r2=>
Option.bind (BK r2.2) (fun r3=>
if r2.1=(0#64) then
some ((0#64,a0))
else Option.bind (DY a0 r2.1) (fun r4=>
some ((r4.1,r4.2))))))
@[reducible] def I2:FnI:={ ps:=[FW],rs:=[FV],os:=[FW],bk:=[0],F:=fun x=>FQ x }
def PT:Cx:=AP [(16,(8,7)),(31,(15,7))] [] [(66,B0),(69,FP),(70,PA),(71,BR)] [] []
theorem PB:CV 42 I2:=okW PT [.tmp 2] 32 14 (AN (.cons B1 (.cons I1 (.cons UQ (.cons BW AB.nil)))) AM.nil) Tryz.func42
def GH (a0:AY) (a1:Int) (a2:Int) (a3:(BitVec 64)):Option (AY×Int):=
Option.bind (G7 a0 a1) (fun r1=>
if ¬r1.2=0 then
some (((0,[],[]),r1.2))
else Option.bind (I5 r1.1 a2) (fun r2=>
if ¬r2.2=0 then
some (((0,[],[]),r2.2))
else Option.bind (D5 a0) (fun r3=>
if 0<=r2.1/\r2.1<(r3.2.1.length:Int) then
some (((r3.1,r3.2.1.set r2.1.toNat a3,r3.2.2),0))
else none)))
@[reducible] def FZ:FnI:={ ps:=[BG,AF,AF,EO],rs:=[OP,A9],os:=[],bk:=[],sh:=[.one,.one,.one,.one,.NP 168 0],F:=fun x=>GH x.1 x.2.1 x.2.2.1 x.2.2.2 }
def LD:Cx:=AP [(5,(2,1)),(10,(3,1)),(12,(6,1)),(15,(9,1)),(19,(4,2)),(38,(7,2))] [] [(28,DK),(121,FN),(168,IM)] [] []
theorem K6:CV 169 FZ:=okW LD [.cell 10 33,.tmp 11] 45 8 (AN (.cons DS (.cons GB (.cons LK AB.nil))) AM.nil) Tryz.func169
def W3 (a0:AY) (a1:Int) (a2:Int) (a3:(BitVec 64)):Option (AY×Int):=
Option.bind (GH a0 a1 a2 a3) (fun r1=>
some ((r1.1,r1.2)))
@[reducible] def UR:FnI:=AV [BG,AF,AF,EO] [OP,A9] fun x=>W3 x.1 x.2.1 x.2.2.1 x.2.2.2
def jC:Cx:=AP [(4,(2,1)),(8,(3,1)),(14,(4,2))] [] [(169,FZ)] [] []
theorem e9:CV 115 UR:=okW jC [.cell 8 33,.tmp 9] 17 4 (AN (.cons K6 AB.nil) AM.nil) Tryz.func115
def US (a0:AY) (a1:(List A5)) (a2:Int) (a3:(BitVec 64)):Option ((List A5)×Int):=
Option.bind (CR a0) (fun r1=>
if (!r1)=true then
some (([],1))
else Option.bind (MH a1) (fun r2=>
if (!r2)=true then
some (([],1))
else Option.bind (O2 a0 a2 a3) (fun r3=>
if (!r3)=true then
Option.bind (MX a1) (fun r4=>
some ((r4,0)))
else Option.bind (QU a0 a2 a3) (fun r5=>
Option.bind (O4 a1 r5.1 r5.2.1 a2) (fun r6=>
some ((r6.1,r6.2)))))))
@[reducible] def SI:FnI:=AV [BG,NM,AF,EO] [bN,A9] fun x=>US x.1 x.2.1 x.2.2.1 x.2.2.2
def e_:Cx:=AP [(4,(3,1)),(27,(4,1)),(40,(5,1))] [] [(30,KT),(78,B_),(98,K0),(101,ND),(102,NF),(147,O1)] [] []
theorem dE:CV 116 SI:=okW e_ [.tmp 8,.tmp 9] 43 3 (AN (.cons ME (.cons B8 (.cons NB (.cons R_ (.cons SB (.cons UK AB.nil)))))) AM.nil) Tryz.func116
def W4 (a0:BZ) (a1:Int) (a2:Int) (a3:(BitVec 64)):Option (BZ×Int):=
Option.bind (M4 a0 a1 ([a3]:List (BitVec 64))) (fun r1=>
if ¬r1=0 then
some (((((⟨#[]⟩:ByteArray),[],0),(0,[],[]),[],0,[],([],[]),0,(0,0,0,0,0,0,0,0,0),false),r1))
else Option.bind (W3 a0.2.1 a1 a2 a3) (fun r2=>
if ¬r2.2=0 then
some (((((⟨#[]⟩:ByteArray),[],0),(0,[],[]),[],0,[],([],[]),0,(0,0,0,0,0,0,0,0,0),false),r2.2))
else Option.bind (QW r2.1 a1) (fun r3=>
if ¬r3.2=0 then
some (((((⟨#[]⟩:ByteArray),[],0),(0,[],[]),[],0,[],([],[]),0,(0,0,0,0,0,0,0,0,0),false),r3.2))
else if 0<=a2/\a2<(r3.1.length:Int) then
Option.bind (US r2.1 a0.2.2.2.2.1 (gl (0:Int) r3.1 a2.toNat) a3) (fun r4=>
if ¬r4.2=0 then
some (((((⟨#[]⟩:ByteArray),[],0),(0,[],[]),[],0,[],([],[]),0,(0,0,0,0,0,0,0,0,0),false),r4.2))
else Option.bind (DT a0) (fun r5=>
some (((r5.1,r2.1,r5.2.2.1,r5.2.2.2.1,r4.1,r5.2.2.2.2.2),0))))
else none)))
@[reducible] def UT:FnI:=AV [D8,AF,AF,EO] [D8,AF] fun x=>W4 x.1 x.2.1 x.2.2.1 x.2.2.2
def jD:Cx:=AP [(4,(7,1)),(8,(8,1)),(11,(12,1)),(15,(22,1)),(19,(9,1)),(31,(10,2)),(41,(13,1)),(57,(14,1)),(65,(15,7))] [] [(18,DL),(103,O5),(113,K4),(115,UR),(116,SI)] [] []
theorem fA:CV 72 UT:=okW jD [.cell 8 42,.tmp 9] 71 16 (AN (.cons DM (.cons UL (.cons MJ (.cons e9 (.cons dE AB.nil))))) AM.nil) Tryz.func72
def EY (a0:MU):Option RS:=
Option.bind (BT a0 a0.2.2.1) (fun r1=>
Option.bind (Q3 a0.1 r1.1 a0.2.2.2.1) (fun r2=>
Option.bind (BK r2.2) (fun r3=>
Option.bind (DF a0 a0.2.2.2.2) (fun r4=>
Option.bind (W4 a0.1 r1.1 a0.2.2.2.1 r4.1) (fun r5=>
Option.bind (BK r5.2) (fun r6=>
some ((0#64,(r5.1,a0.2)))))))))
@[reducible] def IN:FnI:={ ps:=[FW],rs:=[FV],os:=[FW],bk:=[0],F:=fun x=>EY x }
def PC:Cx:=AP [(12,(8,7)),(47,(15,7)),(48,(22,7))] [] [(66,B0),(70,PA),(71,BR),(72,UT),(73,D6)] [] []
theorem N5:CV 43 IN:=okW PC [.tmp 2] 55 21 (AN (.cons B1 (.cons UQ (.cons BW (.cons fA (.cons GF AB.nil))))) AM.nil) Tryz.func43
def HY (a0:(AY×Int×Int×Int)) (a1:Int):Option (Int×Int):=
Option.bind (HX a0 a1 a0.2.2.2 (AG ((1:Int)+a0.2.2.1))) (fun r1=>
some ((r1.1,r1.2)))
@[reducible] def HA:FnI:=AV [AFM,AF] [A9,A9] fun x=>HY x.1 x.2
def TY:Cx:=AP [(2,(2,1))] [] [(197,G_)] [] []
theorem J3:CV 170 HA:=okW TY [.tmp 4,.tmp 5] 16 1 (AN (.cons J2 AB.nil) AM.nil) Tryz.func170
def FG (a0:AY) (a1:Int) (a2:Int):Option X3:=
Option.bind (G7 a0 a1) (fun r1=>
if ¬r1.2=0 then
some ((0#64,r1.2))
else Option.bind (HY r1.1 a2) (fun r2=>
if ¬r2.2=0 then
some ((0#64,r2.2))
else if 0<=r2.1/\r2.1<(a0.2.1.length:Int) then
some ((gl (0#64:(BitVec 64)) a0.2.1 r2.1.toNat,0))
else none))
@[reducible] def ER:FnI:={ ps:=[BG,AF,AF],rs:=[FV,A9],os:=[],bk:=[],sh:=[.one,.one,.one,.NP 170 0],F:=fun x=>FG x.1 x.2.1 x.2.2 }
def J9:Cx:=AP [(4,(2,1)),(10,(5,1)),(16,(3,2))] [] [(121,FN),(170,HA)] [] []
theorem JQ:CV 167 ER:=okW J9 [.tmp 8,.tmp 9] 37 4 (AN (.cons GB (.cons J3 AB.nil)) AM.nil) Tryz.func167
def dF (a0:AY) (a1:Int) (a2:Int):Option X3:=
Option.bind (FG a0 a1 a2) (fun r1=>
some ((r1.1,r1.2)))
@[reducible] def Y5:FnI:=AV [BG,AF,AF] [FV,A9] fun x=>dF x.1 x.2.1 x.2.2
def oM:Cx:=AP [(3,(2,1))] [] [(167,ER)] [] []
theorem mT:CV 118 Y5:=okW oM [.tmp 6,.tmp 7] 14 1 (AN (.cons JQ AB.nil) AM.nil) Tryz.func118
def W5 (a0:BZ) (a1:Int) (a2:Int):Option X3:=
Option.bind (M4 a0 a1 []) (fun r1=>
if ¬r1=0 then
some ((0#64,r1))
else Option.bind (dF a0.2.1 a1 a2) (fun r2=>
some ((r2.1,r2.2))))
@[reducible] def UU:FnI:=AV [D8,AF,AF] [FV,A9] fun x=>W5 x.1 x.2.1 x.2.2
def jE:Cx:=AP [(3,(7,1))] [] [(113,K4),(118,Y5)] [] []
theorem fB:CV 74 UU:=okW jE [.tmp 6,.tmp 7] 22 1 (AN (.cons MJ (.cons mT AB.nil)) AM.nil) Tryz.func74
def EZ (a0:MU):Option RS:=
Option.bind (BT a0 a0.2.2.1) (fun r1=>
Option.bind (W5 a0.1 r1.1 a0.2.2.2.1) (fun r2=>
Option.bind (BK r2.2) (fun r3=>
some ((r2.1,a0)))))
@[reducible] def IP:FnI:={ ps:=[FW],rs:=[FV],os:=[FW],bk:=[0],F:=fun x=>EZ x }
def PD:Cx:=AP [(16,(8,7))] [] [(66,B0),(71,BR),(74,UU)] [] []
theorem N6:CV 44 IP:=okW PD [.tmp 2] 28 7 (AN (.cons B1 (.cons BW (.cons fB AB.nil))) AM.nil) Tryz.func44
def FH (a0:AY) (a1:Int) (a2:Int) (a3:(BitVec 64)):Option (AY×Int):=
Option.bind (G7 a0 a1) (fun r1=>
if ¬r1.2=0 then
some (((0,[],[]),r1.2))
else Option.bind (HY r1.1 a2) (fun r2=>
if ¬r2.2=0 then
some (((0,[],[]),r2.2))
else Option.bind (D5 a0) (fun r3=>
if 0<=r2.1/\r2.1<(r3.2.1.length:Int) then
some (((r3.1,r3.2.1.set r2.1.toNat a3,r3.2.2),0))
else none)))
@[reducible] def ES:FnI:={ ps:=[BG,AF,AF,EO],rs:=[OP,A9],os:=[],bk:=[],sh:=[.one,.one,.one,.one,.NP 170 0],F:=fun x=>FH x.1 x.2.1 x.2.2.1 x.2.2.2 }
def J_:Cx:=AP [(5,(2,1)),(10,(3,1)),(12,(6,1)),(15,(9,1)),(19,(4,2)),(38,(7,2))] [] [(28,DK),(121,FN),(170,HA)] [] []
theorem JR:CV 169 ES:=okW J_ [.cell 10 33,.tmp 11] 45 8 (AN (.cons DS (.cons GB (.cons J3 AB.nil))) AM.nil) Tryz.func169
def UW (a0:AY) (a1:Int) (a2:Int) (a3:(BitVec 64)):Option (AY×Int):=
Option.bind (FH a0 a1 a2 a3) (fun r1=>
some ((r1.1,r1.2)))
@[reducible] def SJ:FnI:=AV [BG,AF,AF,EO] [OP,A9] fun x=>UW x.1 x.2.1 x.2.2.1 x.2.2.2
def fC:Cx:=AP [(4,(2,1)),(8,(3,1)),(14,(4,2))] [] [(169,ES)] [] []
theorem dG:CV 119 SJ:=okW fC [.cell 8 33,.tmp 9] 17 4 (AN (.cons JR AB.nil) AM.nil) Tryz.func119
def UX (a0:BZ) (a1:Int) (a2:Int) (a3:(BitVec 64)):Option (BZ×Int):=
Option.bind (M4 a0 a1 []) (fun r1=>
if ¬r1=0 then
some (((((⟨#[]⟩:ByteArray),[],0),(0,[],[]),[],0,[],([],[]),0,(0,0,0,0,0,0,0,0,0),false),r1))
else Option.bind (UW a0.2.1 a1 a2 a3) (fun r2=>
if ¬r2.2=0 then
some (((((⟨#[]⟩:ByteArray),[],0),(0,[],[]),[],0,[],([],[]),0,(0,0,0,0,0,0,0,0,0),false),r2.2))
else Option.bind (DT a0) (fun r3=>
some (((r3.1,r2.1,r3.2.2),0)))))
@[reducible] def SK:FnI:=AV [D8,AF,AF,EO] [AFN,A9] fun x=>UX x.1 x.2.1 x.2.2.1 x.2.2.2
def fD:Cx:=AP [(4,(7,1)),(8,(8,1)),(11,(11,1)),(13,(19,1)),(27,(9,2)),(35,(12,7))] [] [(18,DL),(113,K4),(119,SJ)] [] []
theorem dH:CV 75 SK:=okW fD [.cell 8 42,.tmp 9] 39 13 (AN (.cons DM (.cons MJ (.cons dG AB.nil))) AM.nil) Tryz.func75
def EF (a0:MU):Option RS:=
Option.bind (BT a0 a0.2.2.1) (fun r1=>
Option.bind (UX a0.1 r1.1 a0.2.2.2.1 (BitVec.ofInt 64 a0.2.2.2.2)) (fun r2=>
Option.bind (BK r2.2) (fun r3=>
some ((0#64,(r2.1,a0.2))))))
@[reducible] def H8:FnI:={ ps:=[FW],rs:=[FV],os:=[FW],bk:=[0],F:=fun x=>EF x }
def N7:Cx:=AP [(3,(22,1)),(16,(8,7)),(28,(15,7))] [] [(66,B0),(71,BR),(75,SK)] [] []
theorem NJ:CV 45 H8:=okW N7 [.tmp 2] 37 15 (AN (.cons B1 (.cons BW (.cons dH AB.nil))) AM.nil) Tryz.func45
def HB (a0:MU):Option RS:=
Option.bind (DF a0 a0.2.2.1) (fun r1=>
Option.bind (DF a0 a0.2.2.2.1) (fun r2=>
if r1.1=r2.1 then
some ((1#64,a0))
else some ((0#64,a0))))
@[reducible] def J4:FnI:={ ps:=[FW],rs:=[FV],os:=[FW],bk:=[0],F:=fun x=>HB x }
def SL:Cx:=AP [(11,(8,7)),(18,(15,7))] [] [(73,D6)] [] []
theorem Q4:CV 46 J4:=okW SL [.tmp 2] 22 14 (AN (.cons GF AB.nil) AM.nil) Tryz.func46
def mU (a0:RR) (a1:Int):Option (RR×Int):=
Option.bind (WZ a0 a1) (fun r1=>
if ¬r1=0 then
some ((([],[]),r1))
else Option.bind (NX a0) (fun r2=>
if 0<=(AG (a1-1))/\(AG (a1-1))<(r2.1.length:Int) then
if 0<=(AG (a1-1))/\(AG (a1-1))<(r2.2.length:Int) then
some (((r2.1.set ((AG (a1-1)).toNat) false,r2.2.set ((AG (a1-1)).toNat) (0#64)),0))
else none
else none))
@[reducible] def g8:FnI:=AV [fZ,AF] [ABB,A9] fun x=>mU x.1 x.2
def xM:Cx:=AP [(2,(2,1)),(4,(3,1)),(7,(6,1)),(16,(4,2))] [] [(31,MF),(120,TV)] [] []
theorem tF:CV 76 g8:=okW xM [.cell 4 38,.tmp 5] 28 5 (AN (.cons OS (.cons Y3 AB.nil)) AM.nil) Tryz.func76
def HZ (a0:MU):Option RS:=
Option.bind (BT a0 a0.2.2.1) (fun r1=>
Option.bind (mU a0.1.2.2.2.2.2.1 a0.2.2.1) (fun r2=>
Option.bind (BK r2.2) (fun r3=>
some ((0#64,((a0.1.1,a0.1.2.1,a0.1.2.2.1,a0.1.2.2.2.1,a0.1.2.2.2.2.1,r2.1,a0.1.2.2.2.2.2.2),a0.2))))))
@[reducible] def K7:FnI:={ ps:=[FW],rs:=[FV],os:=[FW],bk:=[0],F:=fun x=>HZ x }
def TZ:Cx:=AP [(3,(17,1)),(11,(8,7)),(23,(15,2))] [] [(66,B0),(71,BR),(76,g8)] [] []
theorem SM:CV 47 K7:=okW TZ [.tmp 2] 33 10 (AN (.cons B1 (.cons BW (.cons tF AB.nil))) AM.nil) Tryz.func47
def FR (a0:MU):Option RS:=
Option.bind (CA a0.1) (fun r1=>
Option.bind (BK r1.2.2) (fun r2=>
some ((0#64,(r1.1,a0.2)))))
@[reducible] def I3:FnI:={ ps:=[FW],rs:=[FV],os:=[FW],bk:=[0],F:=fun x=>FR x }
def PU:Cx:=AP [(3,(15,1)),(11,(8,7))] [] [(8,O7),(66,B0)] [] []
theorem PE:CV 48 I3:=okW PU [.tmp 2] 21 8 (AN (.cons UN (.cons B1 AB.nil)) AM.nil) Tryz.func48
def Y6 (a0:AY) (a1:Int):Option B7:=
Option.bind (G7 a0 a1) (fun r1=>
some ((r1.1.2.2.1,r1.1.2.2.2,r1.2)))
@[reducible] def W6:FnI:=AV [BG,AF] [A9,A9,A9] fun x=>Y6 x.1 x.2
def mV:Cx:=AP [(2,(2,1)),(7,(5,1)),(12,(3,2))] [] [(121,FN)] [] []
theorem jF:CV 77 W6:=okW mV [.tmp 4,.tmp 5,.tmp 6] 20 4 (AN (.cons GB AB.nil) AM.nil) Tryz.func77
def HC (a0:MU):Option RS:=
Option.bind (BT a0 a0.2.2.1) (fun r1=>
Option.bind (Y6 a0.1.2.1 r1.1) (fun r2=>
Option.bind (BK r2.2.2) (fun r3=>
some ((BitVec.ofInt 64 (AG ((AG ((256:Int)*r2.1))+r2.2.1)),a0)))))
@[reducible] def J5:FnI:={ ps:=[FW],rs:=[FV],os:=[FW],bk:=[0],F:=fun x=>HC x }
def SN:Cx:=AP [(18,(8,7))] [] [(66,B0),(71,BR),(77,W6)] [] []
theorem Q5:CV 49 J5:=okW SN [.tmp 2] 30 7 (AN (.cons B1 (.cons BW (.cons jF AB.nil))) AM.nil) Tryz.func49
def HD (a0:MU):Option RS:=
Option.bind (B9 a0.1) (fun r1=>
some ((BitVec.ofInt 64 r1,a0)))
@[reducible] def J6:FnI:={ ps:=[FW],rs:=[FV],os:=[FW],bk:=[0],F:=fun x=>HD x }
def SO:Cx:=AP [] [] [(9,NH)] [] []
theorem Q6:CV 50 J6:=okW SO [.tmp 2] 9 0 (AN (.cons SF AB.nil) AM.nil) Tryz.func50
def M5 (a0:MU):Option ((BitVec 64)×Int×MU):=
if a0.2.1=1 then
if a0.1.2.2.2.2.2.2.2.2=true then
if ¬a0.2.1=0 then
some ((0#64,19,a0))
else Option.bind (G9 a0) (fun r19=>
some ((r19.1,0,r19.2)))
else Option.bind (G9 a0) (fun r20=>
some ((r20.1,0,r20.2)))
else if a0.2.1=2 then
if a0.1.2.2.2.2.2.2.2.2=true then
if ¬a0.2.1=0 then
some ((0#64,19,a0))
else Option.bind (FQ a0) (fun r17=>
some ((r17.1,0,r17.2)))
else Option.bind (FQ a0) (fun r18=>
some ((r18.1,0,r18.2)))
else if a0.2.1=3 then
if a0.1.2.2.2.2.2.2.2.2=true then
if ¬a0.2.1=0 then
some ((0#64,19,a0))
else Option.bind (EY a0) (fun r15=>
some ((r15.1,0,r15.2)))
else Option.bind (EY a0) (fun r16=>
some ((r16.1,0,r16.2)))
else if a0.2.1=4 then
if a0.1.2.2.2.2.2.2.2.2=true then
if ¬a0.2.1=0 then
some ((0#64,19,a0))
else Option.bind (EZ a0) (fun r13=>
some ((r13.1,0,r13.2)))
else Option.bind (EZ a0) (fun r14=>
some ((r14.1,0,r14.2)))
else if a0.2.1=5 then
if a0.1.2.2.2.2.2.2.2.2=true then
if ¬a0.2.1=0 then
some ((0#64,19,a0))
else Option.bind (EF a0) (fun mX=>
some ((mX.1,0,mX.2)))
else Option.bind (EF a0) (fun r12=>
some ((r12.1,0,r12.2)))
else if a0.2.1=6 then
if a0.1.2.2.2.2.2.2.2.2=true then
if ¬a0.2.1=0 then
some ((0#64,19,a0))
else Option.bind (HB a0) (fun r9=>
some ((r9.1,0,r9.2)))
else Option.bind (HB a0) (fun bY=>
some ((bY.1,0,bY.2)))
else if a0.2.1=7 then
if a0.1.2.2.2.2.2.2.2.2=true then
if ¬a0.2.1=0 then
some ((0#64,19,a0))
else Option.bind (HZ a0) (fun r7=>
some ((r7.1,0,r7.2)))
else Option.bind (HZ a0) (fun r8=>
some ((r8.1,0,r8.2)))
else if a0.2.1=8 then
if a0.1.2.2.2.2.2.2.2.2=true then
if ¬a0.2.1=0 then
some ((0#64,19,a0))
else Option.bind (FR a0) (fun r5=>
some ((r5.1,0,r5.2)))
else Option.bind (FR a0) (fun r6=>
some ((r6.1,0,r6.2)))
else if a0.2.1=9 then
if a0.1.2.2.2.2.2.2.2.2=true then
if ¬a0.2.1=0 then
some ((0#64,19,a0))
else Option.bind (HC a0) (fun r3=>
some ((r3.1,0,r3.2)))
else Option.bind (HC a0) (fun r4=>
some ((r4.1,0,r4.2)))
else if a0.2.1=10 then
if a0.1.2.2.2.2.2.2.2.2=true then
if ¬a0.2.1=0 then
some ((0#64,19,a0))
else Option.bind (HD a0) (fun r1=>
some ((r1.1,0,r1.2)))
else Option.bind (HD a0) (fun r2=>
some ((r2.1,0,r2.2)))
else if a0.1.2.2.2.2.2.2.2.2=true then
if ¬a0.2.1=0 then
some ((0#64,19,a0))
else some ((0#64,20,a0))
else some ((0#64,20,a0))
@[reducible] def A6:FnI:={ ps:=[FW],rs:=[FV,A9],os:=[FW],bk:=[0],F:=fun x=>M5 x }
def LL:Cx:={ nm:=[(2,(8,1)),(3,(9,1)),(8,(10,1)),(36,(11,7))],BN:=[],fns:=nE [(41,J0),(42,I2),(43,IN),(44,IP),(45,H8),(46,J4),(47,K7),(48,I3),(49,J5),(50,J6)],loops:=[],RH:=[],tb:=bL,exts:=[],lets:=[],fms:=[(36,AHL)] }
theorem U7:(fun x:HT A6.ps=>A6.F x)=fun x=>rkD Tryz.prog LL (tS (Tryz.f26.body.getD .skip)) (YB (YB (Tryz.f26.body.getD .skip))) (HT (A6.rs++A6.os)) (wJ Tryz.prog [.cell 2 63,.cell 3 27] [] [] [0] A6.os (A6.rs++A6.os)) (V1 A6.ps A6.sh x 37) (RQ A6.ps A6.X1 x 10) 6 35 [.tmp 2,.tmp 3]:=by kernel_rfl
theorem T0:CallsV Tryz.prog bL 26 A6:=
 rP (cx:=LL) (g:=35) (fn:=Tryz.f26) (c0:=tS (Tryz.f26.body.getD .skip)) (c1:=YB (YB (Tryz.f26.body.getD .skip))) (id:=1) (t:=6) (o1:=ACZ (tS (YB (Tryz.f26.body.getD .skip))) 0) (o2:=ACZ (tS (YB (Tryz.f26.body.getD .skip))) 1) (xs:= #[.tmp 2,.tmp 3]) (ts:= #[]) (n:=37) (N:=10) (rvs:=[.cell 2 63,.cell 3 27]) (AN (.cons Q0 (.cons PB (.cons N5 (.cons N6 (.cons NJ (.cons Q4 (.cons SM (.cons PE (.cons Q5 (.cons Q6 AB.nil)))))))))) AM.nil (hf:=by intro n xs h;(simp only[lk] at h);(repeat' split at h) <;> first|(cases h;done)|(cases h;rename_i hh;subst hh;exact AK4))) Tryz.func26 (by kernel_rfl) (by kernel_rfl) rfl rfl (fun x=>Nat.le_of_ble_eq_true rfl) (by refine⟨?_, ?_, ?_⟩ <;> kernel_rfl) (by refine⟨?_, ?_, ?_⟩ <;> kernel_rfl) (by decide) AK5 (by decide) (fun x=>congrFun U7 x)
def W7 (a0:BZ) (a1:GM):Option (BZ×(Int×(BitVec 64))):=
Option.bind (DT a0) (fun r1=>
Option.bind (M5 (r1,a1)) (fun r2=>
if ¬r2.2.1=0 then
if ¬r2.2.1=18 then
Option.bind (DT a0) (fun r3=>
some ((r3,(r2.2.1,0#64))))
else some ((r2.2.2.1,(r2.2.1,r2.1)))
else some ((r2.2.2.1,(r2.2.1,r2.1)))))
@[reducible] def dI:FnI:=AV [D8,AB9] [D8,⟨(.pair (.int .i64) .u64),true,false,false⟩] fun x=>W7 x.1 x.2
def tG:Cx:=AP [(2,(7,1)),(3,(8,1)),(4,(9,1)),(5,(10,1)),(10,(11,7)),(13,(18,1)),(16,(19,7)),(26,(26,7))] [] [(18,DL),(26,A6)] [] []
theorem oN:CV 16 dI:=okW tG [.cell 4 42,.cell 5 65] 36 26 (AN (.cons DM (.cons T0 AB.nil)) AM.nil) Tryz.func16
def J7 (a0:BZ) (a1:(List Int)):Option (BZ×(List (Int×(BitVec 64)))):=
Option.bind (W7 a0 (0,0,0,0)) (fun r1=>
Option.bind (WX a1) (fun r2=>
AS (σ:=((List (Int×(BitVec 64)))×Int×BZ)) (β:=(BZ×(List (Int×(BitVec 64))))) (fun s1=>
if s1.2.1<(r2.length:Int) then
if 0<=s1.2.1/\s1.2.1<(r2.length:Int) then
Option.bind (W7 s1.2.2 ((gl ((0,0,0,0):GM) r2 s1.2.1.toNat).1,((gl ((0,0,0,0):GM) r2 s1.2.1.toNat).2).1,(((gl ((0,0,0,0):GM) r2 s1.2.1.toNat).2).2))) (fun r3=>
if ¬((gl ((0,0,0,0):GM) r2 s1.2.1.toNat).1)=10 then
if (s1.1.length+([r3.2]:List (Int×(BitVec 64))).length)*16<=140737488355328 then
some (Sum.inl ((s1.1++([r3.2]:List (Int×(BitVec 64))),AG (s1.2.1+1),r3.1)))
else none
else some (Sum.inl ((s1.1,AG (s1.2.1+1),r3.1))))
else none
else some (Sum.inr ((s1.2.2,s1.1)))) (([],0,r1.1))))
@[reducible] def T1:FnI:=AV [D8,AMG] [D8,⟨(.slice (.pair (.int .i64) .u64)),false,false,false⟩] fun x=>J7 x.1 x.2
def tH:Cx:=AP [(2,(8,1)),(4,(9,1)),(8,(19,1)),(9,(20,1)),(13,(10,7)),(17,(17,1)),(26,(21,7)),(34,(28,1)),(35,(29,1))] [35] [(16,dI),(17,UP)] [(0,BD [(6,⟨(.slice (.pair (.int .i64) .u64)),false,true,false⟩),(19,AF)] [(8,D8)] [] (DW [(8,2),(20,17)]) [] 30)] []
theorem Y7:CV 7 T1:=okW tH [.cell 4 42,.tmp 5] 39 30 (AN (.cons oN (.cons e8 AB.nil)) AM.nil) Tryz.func7
def H0 (a0:Int):Option (Nat×Int):=
if a0<0 then
some ((0,1))
else if a0>100 then
some ((0,1))
else if (D_ .quo (dO a0) 4636737291354636288).isSome=true then
some (((D_ .quo (dO a0) 4636737291354636288).getD 0,0))
else none
@[reducible] def K8:FnI:=AV [AF] [wV,A9] fun x=>H0 x
def T2:Cx:=AP [] [] [] [] []
theorem SP:CV 11 K8:=okW T2 [.tmp 2,.tmp 3] 13 0 (AN AB.nil AM.nil) Tryz.func11
def CN (a0:ByteArray) (a1:Int):Option (P2×Int):=
Option.bind (H0 a1) (fun r1=>
if ¬r1.2=0 then
if a0=(⟨#[115,101,109,105,115,112,97,99,101]⟩:ByteArray) then
some ((((⟨#[]⟩:ByteArray),[],0),6))
else if a0=(⟨#[97,112,112,101,108]⟩:ByteArray) then
some ((((⟨#[]⟩:ByteArray),[],0),6))
else if a0=(⟨#[102,105,120,101,100]⟩:ByteArray) then
some ((((⟨#[]⟩:ByteArray),[],0),6))
else if a0=(⟨#[111,108,100,101,114,45,102,105,114,115,116]⟩:ByteArray) then
some ((((⟨#[]⟩:ByteArray),[],0),6))
else if a0=(⟨#[120,120]⟩:ByteArray) then
some ((((⟨#[]⟩:ByteArray),[],0),6))
else if a0=(⟨#[120,120,49,48,48]⟩:ByteArray) then
some ((((⟨#[]⟩:ByteArray),[],0),6))
else some ((((⟨#[]⟩:ByteArray),[],0),7))
else if a0=(⟨#[115,101,109,105,115,112,97,99,101]⟩:ByteArray) then
if a1<1 then
some ((((⟨#[]⟩:ByteArray),[],0),6))
else some (((a0,([(0,0,0,0)]:List BY),1),0))
else if a0=(⟨#[97,112,112,101,108]⟩:ByteArray) then
if a1<1 then
some ((((⟨#[]⟩:ByteArray),[],0),6))
else some (((a0,([(0,0,0,1),(0,0,0,1)]:List BY),8),0))
else if a0=(⟨#[102,105,120,101,100]⟩:ByteArray) then
if a1<1 then
some ((((⟨#[]⟩:ByteArray),[],0),6))
else some (((a0,([(r1.1,1,0,1),(0,0,0,1)]:List BY),8),0))
else if a0=(⟨#[111,108,100,101,114,45,102,105,114,115,116]⟩:ByteArray) then
if a1<1 then
some ((((⟨#[]⟩:ByteArray),[],0),6))
else some (((a0,([(r1.1,0,1,0)]:List BY),0),0))
else if a0=(⟨#[120,120]⟩:ByteArray) then
if a1<1 then
some ((((⟨#[]⟩:ByteArray),[],0),6))
else some (((a0,([(r1.1,0,1,1),(r1.1,0,1,1)]:List BY),0),0))
else if a0=(⟨#[120,120,49,48,48]⟩:ByteArray) then
if a1<1 then
some ((((⟨#[]⟩:ByteArray),[],0),6))
else some (((a0,([(r1.1,0,1,1),(r1.1,0,1,2),(0,0,0,2)]:List BY),8),0))
else some ((((⟨#[]⟩:ByteArray),[],0),7)))
@[reducible] def JS:FnI:=AV [⟨.str,false,false,false⟩,AF] [⟨AB6,true,true,false⟩,A9] fun x=>CN x.1 x.2
def aF:Cx:=AP [(4,(0,1)),(9,(1,1)),(28,(2,1)),(35,(3,1)),(42,(4,1)),(48,(5,1)),(57,(6,1)),(67,(7,1))] [28,35,42,48,57,67] [(11,K8)] [] []
theorem NO:CV 5 JS:=okW aF [.cell 4 26,.tmp 5] 72 8 (AN (.cons SP AB.nil) AM.nil) Tryz.func5
def K9 :Option Bool:=
Option.bind (CN (⟨#[115,101,109,105,115,112,97,99,101]⟩:ByteArray) 10) (fun r1=>
Option.bind (OF r1.1 3 8) (fun r2=>
Option.bind (J7 r2.1 ([1,1,1]:List Int)) (fun r3=>
if r2.2=0 then
if (r3.2.length:Int)=1 then
if 0<=(0:Int)/\(0:Int)<(r3.2.length:Int) then
if ((gl ((0,0#64):(Int×(BitVec 64))) r3.2 ((0:Int).toNat)).1)=0 then
if 0<=(0:Int)/\(0:Int)<(r3.2.length:Int) then
some (decide (((gl ((0,0#64):(Int×(BitVec 64))) r3.2 ((0:Int).toNat)).2)=(1#64)))
else none
else some (false)
else none
else some (false)
else some (false))))
@[reducible] def PF:FnI:=AV [] [D1] fun x=>K9 
def aG:Cx:=AP [(1,(1,1)),(3,(9,1)),(5,(19,1)),(8,(0,1)),(13,(2,7)),(18,(10,1)),(19,(11,8))] [] [(5,JS),(6,aD),(7,T1)] [] []
theorem X5:CV 10 PF:=okW aG [.tmp 0] 43 20 (AN (.cons NO (.cons gX (.cons Y7 AB.nil))) AM.nil) Tryz.func10
def IQ (a0:Int):Option Bool:=
Option.bind (F5 a0 18) (fun r1=>
Option.bind (α:=Int ⊕ Bool) (Option.bind (F5 a0 40) (fun r2=>
if r2=0 then
some (Sum.inl (1000))
else some (Sum.inl (20)))) (fun q=>match q with
|Sum.inl j1=>(Option.bind (CN (⟨#[120,120]⟩:ByteArray) (AG ((1:Int)+r1))) (fun r3=>
Option.bind (CN (⟨#[120,120,49,48,48]⟩:ByteArray) (AG ((1:Int)+r1))) (fun r4=>
Option.bind (OF r3.1 3 16) (fun r5=>
Option.bind (OF r4.1 3 16) (fun r6=>
if ¬r5.2=0 then
some (false)
else if ¬r6.2=0 then
some (false)
else Option.bind (J7 r5.1 ([1,1,14,1,1,14,3,1,0,2,3,2,0,1,7,1,7,2]:List Int)) (fun r7=>
Option.bind (J7 r6.1 ([1,1,14,1,1,14,3,1,0,2,3,2,0,1,7,1,7,2]:List Int)) (fun r8=>
Option.bind (CA r8.1) (fun r9=>
if ¬r9.2.2=0 then
some (false)
else if (!r9.2.1)=true then
some (false)
else Option.bind (B9 r9.1) (fun bY=>
if ¬bY=0 then
some (false)
else AS (σ:=(Int×BZ)) (β:=Bool) (fun s1=>
if s1.1<j1 then
Option.bind (CA s1.2) (fun mX=>
if ¬mX.2.2=0 then
some (Sum.inr (false))
else if (!mX.2.1)=true then
some (Sum.inr (false))
else Option.bind (B9 mX.1) (fun r12=>
if ¬r12=32 then
some (Sum.inr (false))
else some (Sum.inl ((AG (s1.1+1),mX.1)))))
else Option.map Sum.inr (Option.bind (K9) (fun r13=>
some (r13)))) ((0,r7.1)))))))))))
|Sum.inr b1=>some b1))
@[reducible] def LM:FnI:=AV [AF] [D1] fun x=>IQ x
def U8:Cx:=AP [(6,(2,1)),(8,(4,1)),(10,(12,1)),(12,(20,1)),(16,(0,1)),(25,(1,1)),(30,(3,1)),(35,(5,7)),(40,(13,7)),(52,(21,8)),(58,(29,8)),(63,(37,7)),(85,(44,7))] [] [(4,P3),(5,JS),(6,aD),(7,T1),(8,O7),(9,NH),(10,PF)] [(0,BD [(15,AF)] [(12,D8)] [] (DW [(2,1),(11,1),(14,1),(78,22)]) [] 51)] [(5,BD [(5,AF)] [] [] [20,21,22] [] 1)]
theorem T3:CV 3 LM:=okW U8 [.tmp 2] 101 58 (AN (.cons ZX (.cons NO (.cons gX (.cons Y7 (.cons UN (.cons SF (.cons X5 AB.nil))))))) AM.nil) Tryz.func3
end
end Go.Proofs.YtklddkokplchdaaGreatDoor
set_option maxRecDepth 10000000
set_option cbv.maxSteps 100000000
set_option maxHeartbeats 4000000
namespace Go.Proofs.YtklddkokplchdaaGreatDoor
open Go Go.V3
abbrev CfT:=ByteArray×(List (Nat×Int×Int×Int))×Int
abbrev HpT:=(CfT×(Int×(List (BitVec 64))×(List (Int×Int×Int)))×(List (List (Int×Int×Int×Int×Int)))×Int×(List (Int×Int×(List Int)))×((List Bool)×(List (BitVec 64)))×Int×(Int×Int×Int×Int×Int×Int×Int×Int×Int)×Bool)
abbrev K_:=Fin 1001
theorem aH {e:Int} (h1: -9223372036854775808<=e) (h2:e<=9223372036854775807):AG e=e:=InK.wrap (k:= .i64) (show I64 e from ⟨h1,h2⟩)
@[cbv_opaque] def GI (k:Nat) (n:K_):Int:=2*(n.val:Int)+4+(min k 15:Nat)
@[cbv_opaque] def aJ (k:Nat) (n:K_):Int:=4294967296+GI k n
def baN (i:Nat) (n:K_):Int:=match i with
 |0=>n.val+1
 |1=>2*n.val+4
 |2=>n.val+1
 |3=>32*(n.val+2)
 |4=>32*(n.val+2)
 |5=>2*n.val+4
 |_=>66*(n.val+2)
@[cbv_opaque] def ZtN (i:Nat) (v:Int) (n:K_):Int:=baN i n+if 0<=v/\v<=1000000 then v else 0
@[cbv_opaque] def shN (p:Fin 18):Nat:=[4576918229304087675,4581421828931458171,4584304132692975288,4585925428558828667,4587366580439587226,4588807732320345784,4589708452245819884,4590429028186199163,4591149604126578442,4591870180066957722,4592590756007337001,4593311331947716280,4593851763903000740,4594212051873190380,4594572339843380019,4594932627813569659,4595292915783759299,4595653203753948938].getD p.val 0
@[cbv_opaque] def KpN (p:Fin 18):Int:=if p.val<12 then 1 else 2
@[cbv_opaque] def nxN:ByteArray:=⟨#[120,120]⟩
@[cbv_opaque] def nyN:ByteArray:=⟨#[120,120,49,48,48]⟩
@[cbv_opaque] def PK (p:Fin 18):CfT:=(nxN,[(shN p,0,1,1),(shN p,0,1,1)],0)
@[cbv_opaque] def xN (p:Fin 18):CfT:=(nyN,[(shN p,0,1,1),(shN p,0,1,2),(0,0,0,2)],8)
def zeN (n:Nat):List (BitVec 64):=List.replicate n 0#64
def wdN (j:Nat):List (BitVec 64):=match j with
 |0=>[4098#64,17#64]++zeN 14++ [4098#64,1#64]++zeN 110
 |1=>[4098#64,33#64]++zeN 30++ [4098#64,1#64]++zeN 94
 |_=>zeN 16++ [4098#64,33#64]++zeN 14++ [4098#64,17#64]++zeN 94
def frN (k:Nat) (n:K_) (x:Int):Int×Int×Int:=(GI k n,aJ k n,x)
def fzN:Int×Int×Int:=(-1, -1, -1)
def fsN (j:Nat) (k:Nat) (n:K_):List (Int×Int×Int):=match j with
 |0=>[frN k n 1,frN k n (-1),frN (k+1) n 3,frN (k+1) n (-1),fzN,fzN]++List.replicate 10 fzN
 |1=>[frN (k+1) n 1,frN (k+1) n (-1),fzN,fzN,frN k n 5,frN k n (-1)]++List.replicate 10 fzN
 |_=>[fzN,fzN,frN k n 3,frN k n (-1),frN (k+1) n 5,frN (k+1) n (-1)]++List.replicate 10 fzN
def blN (j:Nat) (k:Nat) (n:K_):List (List (Int×Int×Int×Int×Int)):=match j with
 |0=>[[],[(GI k n,1,0,1,16),(GI (k+1) n,1,2,3,16)]]
 |1=>[[],[(GI k n,1,4,5,16),(GI (k+1) n,1,0,1,16)]]
 |_=>[[],[(GI k n,1,2,3,16),(GI (k+1) n,1,4,5,16)]]
def ssN (j:Nat):List (Int×Int×List Int):=match j with
 |0=>[(2,0,[17])]
 |1=>[(0,4,[1])]
 |_=>[(4,2,[33])]
def AHM (m:Nat) (n:K_):Int×Int×Int×Int×Int×Int×Int×Int×Int:=(32,2,ZtN 0 m n,ZtN 1 (2*m) n,ZtN 2 m n,ZtN 3 (32*m) n,ZtN 4 (32*m) n,ZtN 5 (2*m) n,ZtN 6 (66*m) n)
def xU (c:CfT) (j k m:Nat) (n:K_):HpT:=(c,(3,wdN j,fsN j k n),blN j k n,GI (k+2) n,ssN j,(List.replicate 32 false,zeN 32),0,AHM m n,false)
def okN (X:Option (CfT×Int)) (c:CfT):Bool:=match X with
 |some r=>decide (r.1.1.data.toList=c.1.data.toList) && decide (r.1.2.1=c.2.1) && decide (r.1.2.2=c.2.2) && decide (r.2=0)
 |none=>false
theorem AFP {X:Option (CfT×Int)} {c:CfT} (h:okN X c=true):X=some (c,0):=by
 cases X with
 |none=>cases h
 |some r=>
  obtain⟨⟨a,b,d⟩,e⟩:=r
  simp only[okN,PG,OH] at h
  obtain⟨⟨⟨h1,h2⟩,h3⟩,h4⟩:=h
  have h5:a=c.1:=ByteArray.ext (SS h1)
  rw[h5,h2,h3,h4]
theorem AMH:∀ p:Fin 18,okN (CN ⟨#[120,120]⟩ (1+(p.val:Int))) (PK p)=true:=by decide+kernel
theorem AMI:∀ p:Fin 18,okN (CN ⟨#[120,120,49,48,48]⟩ (1+(p.val:Int))) (xN p)=true:=by decide+kernel
theorem AK6 (p:Fin 18):CN ⟨#[120,120]⟩ (1+(p.val:Int))=some (PK p,0):=AFP (AMH p)
theorem AK7 (p:Fin 18):CN ⟨#[120,120,49,48,48]⟩ (1+(p.val:Int))=some (xN p,0):=AFP (AMI p)
@[cbv_eval] theorem nc0:((0:Nat):Int)=0:=rfl
@[cbv_eval] theorem no0:Int.ofNat 0=0:=rfl
@[cbv_eval] theorem nc1:((1:Nat):Int)=1:=rfl
@[cbv_eval] theorem no1:Int.ofNat 1=1:=rfl
@[cbv_eval] theorem nc2:((2:Nat):Int)=2:=rfl
@[cbv_eval] theorem no2:Int.ofNat 2=2:=rfl
@[cbv_eval] theorem nc3:((3:Nat):Int)=3:=rfl
@[cbv_eval] theorem no3:Int.ofNat 3=3:=rfl
@[cbv_eval] theorem nc4:((4:Nat):Int)=4:=rfl
@[cbv_eval] theorem no4:Int.ofNat 4=4:=rfl
@[cbv_eval] theorem nc5:((5:Nat):Int)=5:=rfl
@[cbv_eval] theorem no5:Int.ofNat 5=5:=rfl
@[cbv_eval] theorem nc6:((6:Nat):Int)=6:=rfl
@[cbv_eval] theorem no6:Int.ofNat 6=6:=rfl
@[cbv_eval] theorem nc7:((7:Nat):Int)=7:=rfl
@[cbv_eval] theorem no7:Int.ofNat 7=7:=rfl
@[cbv_eval] theorem nc8:((8:Nat):Int)=8:=rfl
@[cbv_eval] theorem no8:Int.ofNat 8=8:=rfl
@[cbv_eval] theorem nc9:((9:Nat):Int)=9:=rfl
@[cbv_eval] theorem no9:Int.ofNat 9=9:=rfl
@[cbv_eval] theorem AR8:((10:Nat):Int)=10:=rfl
@[cbv_eval] theorem AR9:Int.ofNat 10=10:=rfl
@[cbv_eval] theorem ARA:((11:Nat):Int)=11:=rfl
@[cbv_eval] theorem ARB:Int.ofNat 11=11:=rfl
@[cbv_eval] theorem ARC:((12:Nat):Int)=12:=rfl
@[cbv_eval] theorem ARD:Int.ofNat 12=12:=rfl
@[cbv_eval] theorem ARE:((13:Nat):Int)=13:=rfl
@[cbv_eval] theorem ARF:Int.ofNat 13=13:=rfl
@[cbv_eval] theorem ARG:((14:Nat):Int)=14:=rfl
@[cbv_eval] theorem ARH:Int.ofNat 14=14:=rfl
@[cbv_eval] theorem ARI:((15:Nat):Int)=15:=rfl
@[cbv_eval] theorem ARJ:Int.ofNat 15=15:=rfl
@[cbv_eval] theorem ARK:((16:Nat):Int)=16:=rfl
@[cbv_eval] theorem ARL:Int.ofNat 16=16:=rfl
@[cbv_eval] theorem ARM:((17:Nat):Int)=17:=rfl
@[cbv_eval] theorem ARN:Int.ofNat 17=17:=rfl
@[cbv_eval] theorem ARO:((18:Nat):Int)=18:=rfl
@[cbv_eval] theorem ARP:Int.ofNat 18=18:=rfl
@[cbv_eval] theorem ARQ:((19:Nat):Int)=19:=rfl
@[cbv_eval] theorem ARR:Int.ofNat 19=19:=rfl
@[cbv_eval] theorem ARS:((20:Nat):Int)=20:=rfl
@[cbv_eval] theorem ART:Int.ofNat 20=20:=rfl
@[cbv_eval] theorem ARU:((21:Nat):Int)=21:=rfl
@[cbv_eval] theorem ARV:Int.ofNat 21=21:=rfl
@[cbv_eval] theorem ARW:((22:Nat):Int)=22:=rfl
@[cbv_eval] theorem ARX:Int.ofNat 22=22:=rfl
@[cbv_eval] theorem ARY:((23:Nat):Int)=23:=rfl
@[cbv_eval] theorem ARZ:Int.ofNat 23=23:=rfl
@[cbv_eval] theorem AS0:((24:Nat):Int)=24:=rfl
@[cbv_eval] theorem AS1:Int.ofNat 24=24:=rfl
@[cbv_eval] theorem AS2:((25:Nat):Int)=25:=rfl
@[cbv_eval] theorem AS3:Int.ofNat 25=25:=rfl
@[cbv_eval] theorem AS4:((26:Nat):Int)=26:=rfl
@[cbv_eval] theorem AS5:Int.ofNat 26=26:=rfl
@[cbv_eval] theorem AS6:((27:Nat):Int)=27:=rfl
@[cbv_eval] theorem AS7:Int.ofNat 27=27:=rfl
@[cbv_eval] theorem AS8:((28:Nat):Int)=28:=rfl
@[cbv_eval] theorem AS9:Int.ofNat 28=28:=rfl
@[cbv_eval] theorem ASA:((29:Nat):Int)=29:=rfl
@[cbv_eval] theorem ASB:Int.ofNat 29=29:=rfl
@[cbv_eval] theorem ASC:((30:Nat):Int)=30:=rfl
@[cbv_eval] theorem ASD:Int.ofNat 30=30:=rfl
@[cbv_eval] theorem ASE:((31:Nat):Int)=31:=rfl
@[cbv_eval] theorem ASF:Int.ofNat 31=31:=rfl
@[cbv_eval] theorem ASG:((32:Nat):Int)=32:=rfl
@[cbv_eval] theorem ASH:Int.ofNat 32=32:=rfl
@[cbv_eval] theorem ASI:((33:Nat):Int)=33:=rfl
@[cbv_eval] theorem ASJ:Int.ofNat 33=33:=rfl
@[cbv_eval] theorem ASK:((34:Nat):Int)=34:=rfl
@[cbv_eval] theorem ASL:Int.ofNat 34=34:=rfl
@[cbv_eval] theorem ASM:((35:Nat):Int)=35:=rfl
@[cbv_eval] theorem ASN:Int.ofNat 35=35:=rfl
@[cbv_eval] theorem ASO:((36:Nat):Int)=36:=rfl
@[cbv_eval] theorem ASP:Int.ofNat 36=36:=rfl
@[cbv_eval] theorem ASQ:((37:Nat):Int)=37:=rfl
@[cbv_eval] theorem ASR:Int.ofNat 37=37:=rfl
@[cbv_eval] theorem ASS:((38:Nat):Int)=38:=rfl
@[cbv_eval] theorem AST:Int.ofNat 38=38:=rfl
@[cbv_eval] theorem ASU:((39:Nat):Int)=39:=rfl
@[cbv_eval] theorem ASV:Int.ofNat 39=39:=rfl
@[cbv_eval] theorem ASW:((40:Nat):Int)=40:=rfl
@[cbv_eval] theorem ASX:Int.ofNat 40=40:=rfl
@[cbv_eval] theorem ASY:((41:Nat):Int)=41:=rfl
@[cbv_eval] theorem ASZ:Int.ofNat 41=41:=rfl
@[cbv_eval] theorem AT0:((42:Nat):Int)=42:=rfl
@[cbv_eval] theorem AT1:Int.ofNat 42=42:=rfl
@[cbv_eval] theorem AT2:((43:Nat):Int)=43:=rfl
@[cbv_eval] theorem AT3:Int.ofNat 43=43:=rfl
@[cbv_eval] theorem AT4:((44:Nat):Int)=44:=rfl
@[cbv_eval] theorem AT5:Int.ofNat 44=44:=rfl
@[cbv_eval] theorem AT6:((45:Nat):Int)=45:=rfl
@[cbv_eval] theorem AT7:Int.ofNat 45=45:=rfl
@[cbv_eval] theorem AT8:((46:Nat):Int)=46:=rfl
@[cbv_eval] theorem AT9:Int.ofNat 46=46:=rfl
@[cbv_eval] theorem ATA:((47:Nat):Int)=47:=rfl
@[cbv_eval] theorem ATB:Int.ofNat 47=47:=rfl
@[cbv_eval] theorem ATC:((48:Nat):Int)=48:=rfl
@[cbv_eval] theorem ATD:Int.ofNat 48=48:=rfl
@[cbv_eval] theorem ATE:((49:Nat):Int)=49:=rfl
@[cbv_eval] theorem ATF:Int.ofNat 49=49:=rfl
@[cbv_eval] theorem ATG:((50:Nat):Int)=50:=rfl
@[cbv_eval] theorem ATH:Int.ofNat 50=50:=rfl
@[cbv_eval] theorem ATI:((51:Nat):Int)=51:=rfl
@[cbv_eval] theorem ATJ:Int.ofNat 51=51:=rfl
@[cbv_eval] theorem ATK:((52:Nat):Int)=52:=rfl
@[cbv_eval] theorem ATL:Int.ofNat 52=52:=rfl
@[cbv_eval] theorem ATM:((53:Nat):Int)=53:=rfl
@[cbv_eval] theorem ATN:Int.ofNat 53=53:=rfl
@[cbv_eval] theorem ATO:((54:Nat):Int)=54:=rfl
@[cbv_eval] theorem ATP:Int.ofNat 54=54:=rfl
@[cbv_eval] theorem ATQ:((55:Nat):Int)=55:=rfl
@[cbv_eval] theorem ATR:Int.ofNat 55=55:=rfl
@[cbv_eval] theorem ATS:((56:Nat):Int)=56:=rfl
@[cbv_eval] theorem ATT:Int.ofNat 56=56:=rfl
@[cbv_eval] theorem ATU:((57:Nat):Int)=57:=rfl
@[cbv_eval] theorem ATV:Int.ofNat 57=57:=rfl
@[cbv_eval] theorem ATW:((58:Nat):Int)=58:=rfl
@[cbv_eval] theorem ATX:Int.ofNat 58=58:=rfl
@[cbv_eval] theorem ATY:((59:Nat):Int)=59:=rfl
@[cbv_eval] theorem ATZ:Int.ofNat 59=59:=rfl
@[cbv_eval] theorem AU0:((60:Nat):Int)=60:=rfl
@[cbv_eval] theorem AU1:Int.ofNat 60=60:=rfl
@[cbv_eval] theorem AU2:((61:Nat):Int)=61:=rfl
@[cbv_eval] theorem AU3:Int.ofNat 61=61:=rfl
@[cbv_eval] theorem AU4:((62:Nat):Int)=62:=rfl
@[cbv_eval] theorem AU5:Int.ofNat 62=62:=rfl
@[cbv_eval] theorem AU6:((63:Nat):Int)=63:=rfl
@[cbv_eval] theorem AU7:Int.ofNat 63=63:=rfl
@[cbv_eval] theorem AU8:((64:Nat):Int)=64:=rfl
@[cbv_eval] theorem AU9:Int.ofNat 64=64:=rfl
@[cbv_eval] theorem AUA:((65:Nat):Int)=65:=rfl
@[cbv_eval] theorem AUB:Int.ofNat 65=65:=rfl
@[cbv_eval] theorem AUC:((66:Nat):Int)=66:=rfl
@[cbv_eval] theorem AUD:Int.ofNat 66=66:=rfl
@[cbv_eval] theorem AUE:((67:Nat):Int)=67:=rfl
@[cbv_eval] theorem AUF:Int.ofNat 67=67:=rfl
@[cbv_eval] theorem AUG:((68:Nat):Int)=68:=rfl
@[cbv_eval] theorem AUH:Int.ofNat 68=68:=rfl
@[cbv_eval] theorem AUI:((69:Nat):Int)=69:=rfl
@[cbv_eval] theorem AUJ:Int.ofNat 69=69:=rfl
@[cbv_eval] theorem AUK:((70:Nat):Int)=70:=rfl
@[cbv_eval] theorem AUL:Int.ofNat 70=70:=rfl
@[cbv_eval] theorem AUM:((71:Nat):Int)=71:=rfl
@[cbv_eval] theorem AUN:Int.ofNat 71=71:=rfl
@[cbv_eval] theorem AUO:((72:Nat):Int)=72:=rfl
@[cbv_eval] theorem AUP:Int.ofNat 72=72:=rfl
@[cbv_eval] theorem AUQ:((73:Nat):Int)=73:=rfl
@[cbv_eval] theorem AUR:Int.ofNat 73=73:=rfl
@[cbv_eval] theorem AUS:((74:Nat):Int)=74:=rfl
@[cbv_eval] theorem AUT:Int.ofNat 74=74:=rfl
@[cbv_eval] theorem AUU:((75:Nat):Int)=75:=rfl
@[cbv_eval] theorem AUV:Int.ofNat 75=75:=rfl
@[cbv_eval] theorem AUW:((76:Nat):Int)=76:=rfl
@[cbv_eval] theorem AUX:Int.ofNat 76=76:=rfl
@[cbv_eval] theorem AUY:((77:Nat):Int)=77:=rfl
@[cbv_eval] theorem AUZ:Int.ofNat 77=77:=rfl
@[cbv_eval] theorem AV0:((78:Nat):Int)=78:=rfl
@[cbv_eval] theorem AV1:Int.ofNat 78=78:=rfl
@[cbv_eval] theorem AV2:((79:Nat):Int)=79:=rfl
@[cbv_eval] theorem AV3:Int.ofNat 79=79:=rfl
@[cbv_eval] theorem AV4:((80:Nat):Int)=80:=rfl
@[cbv_eval] theorem AV5:Int.ofNat 80=80:=rfl
@[cbv_eval] theorem AV6:((81:Nat):Int)=81:=rfl
@[cbv_eval] theorem AV7:Int.ofNat 81=81:=rfl
@[cbv_eval] theorem AV8:((82:Nat):Int)=82:=rfl
@[cbv_eval] theorem AV9:Int.ofNat 82=82:=rfl
@[cbv_eval] theorem AVA:((83:Nat):Int)=83:=rfl
@[cbv_eval] theorem AVB:Int.ofNat 83=83:=rfl
@[cbv_eval] theorem AVC:((84:Nat):Int)=84:=rfl
@[cbv_eval] theorem AVD:Int.ofNat 84=84:=rfl
@[cbv_eval] theorem AVE:((85:Nat):Int)=85:=rfl
@[cbv_eval] theorem AVF:Int.ofNat 85=85:=rfl
@[cbv_eval] theorem AVG:((86:Nat):Int)=86:=rfl
@[cbv_eval] theorem AVH:Int.ofNat 86=86:=rfl
@[cbv_eval] theorem AVI:((87:Nat):Int)=87:=rfl
@[cbv_eval] theorem AVJ:Int.ofNat 87=87:=rfl
@[cbv_eval] theorem AVK:((88:Nat):Int)=88:=rfl
@[cbv_eval] theorem AVL:Int.ofNat 88=88:=rfl
@[cbv_eval] theorem AVM:((89:Nat):Int)=89:=rfl
@[cbv_eval] theorem AVN:Int.ofNat 89=89:=rfl
@[cbv_eval] theorem AVO:((90:Nat):Int)=90:=rfl
@[cbv_eval] theorem AVP:Int.ofNat 90=90:=rfl
@[cbv_eval] theorem AVQ:((91:Nat):Int)=91:=rfl
@[cbv_eval] theorem AVR:Int.ofNat 91=91:=rfl
@[cbv_eval] theorem AVS:((92:Nat):Int)=92:=rfl
@[cbv_eval] theorem AVT:Int.ofNat 92=92:=rfl
@[cbv_eval] theorem AVU:((93:Nat):Int)=93:=rfl
@[cbv_eval] theorem AVV:Int.ofNat 93=93:=rfl
@[cbv_eval] theorem AVW:((94:Nat):Int)=94:=rfl
@[cbv_eval] theorem AVX:Int.ofNat 94=94:=rfl
@[cbv_eval] theorem AVY:((95:Nat):Int)=95:=rfl
@[cbv_eval] theorem AVZ:Int.ofNat 95=95:=rfl
@[cbv_eval] theorem AW0:((96:Nat):Int)=96:=rfl
@[cbv_eval] theorem AW1:Int.ofNat 96=96:=rfl
@[cbv_eval] theorem AW2:((97:Nat):Int)=97:=rfl
@[cbv_eval] theorem AW3:Int.ofNat 97=97:=rfl
@[cbv_eval] theorem AW4:((98:Nat):Int)=98:=rfl
@[cbv_eval] theorem AW5:Int.ofNat 98=98:=rfl
@[cbv_eval] theorem AW6:((99:Nat):Int)=99:=rfl
@[cbv_eval] theorem AW7:Int.ofNat 99=99:=rfl
@[cbv_eval] theorem AOZ:((100:Nat):Int)=100:=rfl
@[cbv_eval] theorem AP0:Int.ofNat 100=100:=rfl
@[cbv_eval] theorem AP1:((101:Nat):Int)=101:=rfl
@[cbv_eval] theorem AP2:Int.ofNat 101=101:=rfl
@[cbv_eval] theorem AP3:((102:Nat):Int)=102:=rfl
@[cbv_eval] theorem AP4:Int.ofNat 102=102:=rfl
@[cbv_eval] theorem AP5:((103:Nat):Int)=103:=rfl
@[cbv_eval] theorem AP6:Int.ofNat 103=103:=rfl
@[cbv_eval] theorem AP7:((104:Nat):Int)=104:=rfl
@[cbv_eval] theorem AP8:Int.ofNat 104=104:=rfl
@[cbv_eval] theorem AP9:((105:Nat):Int)=105:=rfl
@[cbv_eval] theorem APA:Int.ofNat 105=105:=rfl
@[cbv_eval] theorem APB:((106:Nat):Int)=106:=rfl
@[cbv_eval] theorem APC:Int.ofNat 106=106:=rfl
@[cbv_eval] theorem APD:((107:Nat):Int)=107:=rfl
@[cbv_eval] theorem APE:Int.ofNat 107=107:=rfl
@[cbv_eval] theorem APF:((108:Nat):Int)=108:=rfl
@[cbv_eval] theorem APG:Int.ofNat 108=108:=rfl
@[cbv_eval] theorem APH:((109:Nat):Int)=109:=rfl
@[cbv_eval] theorem API:Int.ofNat 109=109:=rfl
@[cbv_eval] theorem APJ:((110:Nat):Int)=110:=rfl
@[cbv_eval] theorem APK:Int.ofNat 110=110:=rfl
@[cbv_eval] theorem APL:((111:Nat):Int)=111:=rfl
@[cbv_eval] theorem APM:Int.ofNat 111=111:=rfl
@[cbv_eval] theorem APN:((112:Nat):Int)=112:=rfl
@[cbv_eval] theorem APO:Int.ofNat 112=112:=rfl
@[cbv_eval] theorem APP:((113:Nat):Int)=113:=rfl
@[cbv_eval] theorem APQ:Int.ofNat 113=113:=rfl
@[cbv_eval] theorem APR:((114:Nat):Int)=114:=rfl
@[cbv_eval] theorem APS:Int.ofNat 114=114:=rfl
@[cbv_eval] theorem APT:((115:Nat):Int)=115:=rfl
@[cbv_eval] theorem APU:Int.ofNat 115=115:=rfl
@[cbv_eval] theorem APV:((116:Nat):Int)=116:=rfl
@[cbv_eval] theorem APW:Int.ofNat 116=116:=rfl
@[cbv_eval] theorem APX:((117:Nat):Int)=117:=rfl
@[cbv_eval] theorem APY:Int.ofNat 117=117:=rfl
@[cbv_eval] theorem APZ:((118:Nat):Int)=118:=rfl
@[cbv_eval] theorem AQ0:Int.ofNat 118=118:=rfl
@[cbv_eval] theorem AQ1:((119:Nat):Int)=119:=rfl
@[cbv_eval] theorem AQ2:Int.ofNat 119=119:=rfl
@[cbv_eval] theorem AQ3:((120:Nat):Int)=120:=rfl
@[cbv_eval] theorem AQ4:Int.ofNat 120=120:=rfl
@[cbv_eval] theorem AQ5:((121:Nat):Int)=121:=rfl
@[cbv_eval] theorem AQ6:Int.ofNat 121=121:=rfl
@[cbv_eval] theorem AQ7:((122:Nat):Int)=122:=rfl
@[cbv_eval] theorem AQ8:Int.ofNat 122=122:=rfl
@[cbv_eval] theorem AQ9:((123:Nat):Int)=123:=rfl
@[cbv_eval] theorem AQA:Int.ofNat 123=123:=rfl
@[cbv_eval] theorem AQB:((124:Nat):Int)=124:=rfl
@[cbv_eval] theorem AQC:Int.ofNat 124=124:=rfl
@[cbv_eval] theorem AQD:((125:Nat):Int)=125:=rfl
@[cbv_eval] theorem AQE:Int.ofNat 125=125:=rfl
@[cbv_eval] theorem AQF:((126:Nat):Int)=126:=rfl
@[cbv_eval] theorem AQG:Int.ofNat 126=126:=rfl
@[cbv_eval] theorem AQH:((127:Nat):Int)=127:=rfl
@[cbv_eval] theorem AQI:Int.ofNat 127=127:=rfl
@[cbv_eval] theorem AQJ:((128:Nat):Int)=128:=rfl
@[cbv_eval] theorem AQK:Int.ofNat 128=128:=rfl
@[cbv_eval] theorem AQL:((129:Nat):Int)=129:=rfl
@[cbv_eval] theorem AQM:Int.ofNat 129=129:=rfl
@[cbv_eval] theorem AQN:((256:Nat):Int)=256:=rfl
@[cbv_eval] theorem AQO:Int.ofNat 256=256:=rfl
attribute [cbv_opaque] AS
@[cbv_eval] theorem AMJ {σ β:Type} (f:σ->Option (σ ⊕ β)) (s:σ):AS f s=match f s with
  |none=>none
  |some (.inl s')=>AS f s'
  |some (.inr b)=>some b:=AF0 f s
@[cbv_eval] theorem AMK:∀ p:Fin 18,KU (shN p)=some true:=by decide+kernel
@[cbv_eval] theorem AKD:∀ p:Fin 18,JF (shN p) 16=some (KpN p,0):=by decide+kernel
@[cbv_eval] theorem AOG:∀ p:Fin 18,DZ (shN p) 0=some .gt:=by decide+kernel
@[cbv_eval] theorem AML:KU 0=some true:=by kernel_rfl
@[cbv_eval] theorem AIC:JF 0 16=some (0,0):=by kernel_rfl
@[cbv_eval] theorem AK8:JF 0 8=some (0,0):=by kernel_rfl
@[cbv_eval] theorem AOH:DZ 0 0=some .eq:=by kernel_rfl
@[cbv_eval] theorem AMM:D9 nxN=some true:=by
 show D9 ⟨#[120,120]⟩=some true
 cbv
@[cbv_eval] theorem AMN:D9 nyN=some true:=by
 show D9 ⟨#[120,120,49,48,48]⟩=some true
 cbv
@[cbv_eval] theorem cf1 (p:Fin 18):Prod.fst (PK p)=nxN:=rfl
@[cbv_eval] theorem cf2 (p:Fin 18):Prod.snd (PK p)=([(shN p,0,1,1),(shN p,0,1,1)],0):=rfl
@[cbv_eval] theorem AN1 (p:Fin 18):JD (PK p)=some (PK p):=rfl
@[cbv_eval] theorem cg1 (p:Fin 18):Prod.fst (xN p)=nyN:=rfl
@[cbv_eval] theorem cg2 (p:Fin 18):Prod.snd (xN p)=([(shN p,0,1,1),(shN p,0,1,2),(0,0,0,2)],8):=rfl
@[cbv_eval] theorem AN2 (p:Fin 18):JD (xN p)=some (xN p):=rfl
@[cbv_eval] theorem AMO (p:Fin 18):DN (PK p)=some 0:=by cbv
@[cbv_eval] theorem AMP (p:Fin 18):DN (xN p)=some 0:=by cbv
@[cbv_eval] theorem AID (p:Fin 18):GC (PK p)=some false:=by cbv
@[cbv_eval] theorem AIE (p:Fin 18):GC (xN p)=some true:=by cbv
@[cbv_eval] theorem AN3 (p:Fin 18):GO (PK p) 0 16=some (KpN p,0):=by cbv
@[cbv_eval] theorem AN4 (p:Fin 18):GO (PK p) 1 16=some (KpN p,0):=by cbv
@[cbv_eval] theorem AN5 (p:Fin 18):GO (xN p) 0 16=some (KpN p,0):=by cbv
@[cbv_eval] theorem AN6 (p:Fin 18):GO (xN p) 1 16=some (KpN p,0):=by cbv
@[cbv_eval] theorem AN7 (p:Fin 18):GO (xN p) 2 16=some (0,0):=by cbv
@[cbv_eval] theorem AW8 (a b:Nat) (n:K_):(GI a n<GI b n)=(min a 15<min b 15):=by unfold GI;apply propext;omega
@[cbv_eval] theorem AW9 (a b:Nat) (n:K_):(GI a n<=GI b n)=(min a 15<=min b 15):=by unfold GI;apply propext;omega
@[cbv_eval] theorem AWA (a b:Nat) (n:K_):(GI a n>GI b n)=(min b 15<min a 15):=by unfold GI;apply propext;omega
@[cbv_eval] theorem AWB (a b:Nat) (n:K_):(GI a n≥GI b n)=(min b 15<=min a 15):=by unfold GI;apply propext;omega
@[cbv_eval] theorem AWC (a b:Nat) (n:K_):(GI a n=GI b n)=(min a 15=min b 15):=by unfold GI;apply propext;omega
@[cbv_eval] theorem AQP (a:Nat) (n:K_):(GI a n<0)=False:=X6 (by unfold GI;omega)
@[cbv_eval] theorem AWD (a:Nat) (n:K_):(GI a n>4294967295)=False:=X6 (by unfold GI;omega)
@[cbv_eval] theorem AOI (a:Nat) (n:K_):(aJ a n<0)=False:=X6 (by unfold aJ GI;omega)
@[cbv_eval] theorem AQQ (a b:Nat) (n:K_):(aJ a n=aJ b n)=(min a 15=min b 15):=by unfold aJ GI;apply propext;omega
theorem AHN (a:Nat) (n:K_):Int.tmod (aJ a n) 4294967296=GI a n:=by
 unfold aJ
 have h0:(0:Int)<=GI a n/\GI a n<4294967296:=by unfold GI;omega
 rw[Int.tmod_eq_emod_of_nonneg (by omega)];omega
@[cbv_eval] theorem AOJ (a:Nat) (n:K_) (k:Int):Int.tmod (aJ a n) k=if k=4294967296 then GI a n else Int.tmod (aJ a n) k:=by
 split
 ·next h=>rw[h];exact AHN a n
 ·rfl
theorem AHO (a:Nat) (n:K_):Int.tdiv (aJ a n) 4294967296=1:=by
 unfold aJ
 have h0:(0:Int)<=GI a n/\GI a n<4294967296:=by unfold GI;omega
 rw[Int.tdiv_eq_ediv_of_nonneg (by omega)];omega
@[cbv_eval] theorem AOK (a:Nat) (n:K_) (k:Int):Int.tdiv (aJ a n) k=if k=4294967296 then 1 else Int.tdiv (aJ a n) k:=by
 split
 ·next h=>rw[h];exact AHO a n
 ·rfl
@[cbv_eval] theorem AQR (a:Nat) (n:K_):4294967296+GI a n=aJ a n:=rfl
@[cbv_eval] theorem S_w (a:Nat) (n:K_):AG (GI a n)=GI a n:=aH (by unfold GI;omega) (by unfold GI;omega)
@[cbv_eval] theorem AWE (a:Nat) (n:K_):AG (aJ a n)=aJ a n:=aH (by unfold aJ GI;omega) (by unfold aJ GI;omega)
@[cbv_eval] theorem S_1 (n:K_):GI 0 n+1=GI 1 n:=rfl
@[cbv_eval] theorem S_2 (n:K_):GI 1 n+1=GI 2 n:=by unfold GI;omega
@[cbv_eval] theorem S_3 (n:K_):GI 2 n+1=GI 3 n:=by unfold GI;omega
@[cbv_eval] theorem S_4 (n:K_):GI 3 n+1=GI 4 n:=by unfold GI;omega
@[cbv_eval] theorem S_5 (n:K_):GI 4 n+1=GI 5 n:=by unfold GI;omega
@[cbv_eval] theorem S_6 (n:K_):GI 5 n+1=GI 6 n:=by unfold GI;omega
@[cbv_eval] theorem S_7 (n:K_):GI 6 n+1=GI 7 n:=by unfold GI;omega
@[cbv_eval] theorem AWF (a:Nat) (n:K_):(GI a n= -1)=False:=X6 (by unfold GI;omega)
@[cbv_eval] theorem AQS (a:Nat) (n:K_):(-1=GI a n)=False:=X6 (by unfold GI;omega)
@[cbv_eval] theorem AQT (a:Nat) (n:K_):(aJ a n= -1)=False:=X6 (by unfold aJ GI;omega)
@[cbv_eval] theorem AQU (a:Nat) (n:K_):(0<=GI a n)=True:=eq_true (by unfold GI;omega)
@[cbv_eval] theorem AQV (a:Nat) (n:K_):(GI a n<=4294967295)=True:=eq_true (by unfold GI;omega)
@[cbv_eval] theorem AQW (a:Nat) (n:K_):(4294967295<GI a n)=False:=X6 (by unfold GI;omega)
@[cbv_eval] theorem AQX (a:Nat) (n:K_):(4294967295<=GI a n)=False:=X6 (by unfold GI;omega)
theorem AHP (i:Nat) (n:K_):0<=baN i n/\baN i n<=100000:=by
 unfold baN;split <;> omega
@[cbv_eval] theorem AQY (i:Nat) (v:Int) (n:K_) (c:Int):ZtN i v n+c=if 0<=v/\0<=c/\v+c<=1000000 then ZtN i (v+c) n else ZtN i v n+c:=by
 split
 ·unfold ZtN
  rw[BQ (by omega),BQ (by omega)];omega
 ·rfl
@[cbv_eval] theorem Z_w (i:Nat) (v:Int) (n:K_):AG (ZtN i v n)=ZtN i v n:=by
 have h:=AHP i n
 apply aH <;> unfold ZtN <;> split <;> omega
@[cbv_eval] theorem AMQ (x:Int):BitVec.ofInt 64 x=BitVec.ofNat 64 (x%18446744073709551616).toNat:=by
 apply AIJ
 simp only[ADE,ABH]
 omega
@[cbv_eval] theorem AKE (a b:Int):oQ .and a b=AG ((BitVec.ofInt 64 a &&& BitVec.ofInt 64 b).toNat:Int):=rfl
@[cbv_eval] theorem AQZ (a b:Nat) (n:K_):(aJ a n<aJ b n)=(min a 15<min b 15):=by unfold aJ GI;apply propext;omega
@[cbv_eval] theorem AR0 (a b:Nat) (n:K_):(aJ a n<=aJ b n)=(min a 15<=min b 15):=by unfold aJ GI;apply propext;omega
@[cbv_opaque] def K8N (p:Fin 18):Int:=KpN p*8
@[cbv_eval] theorem AR1 (p:Fin 18) (c:Int):KpN p*c=if c=8 then K8N p else KpN p*c:=by
 split
 ·next h=>rw[h];rfl
 ·rfl
@[cbv_eval] theorem K_0 (p:Fin 18):(KpN p=0)=False:=X6 (by unfold KpN;split <;> omega)
@[cbv_eval] theorem AWG (p:Fin 18):AG (K8N p)=K8N p:=by
 apply aH <;> unfold K8N KpN <;> split <;> omega
@[cbv_eval] theorem AR2 (p:Fin 18):(16<K8N p)=False:=X6 (by unfold K8N KpN;split <;> omega)
theorem AOL (p:Fin 18) (n:K_):CA (xU (PK p) 0 0 0 n)=some (xU (PK p) 1 2 1 n,true,0):=by cbv
theorem AOM (p:Fin 18) (n:K_):CA (xU (PK p) 1 0 0 n)=some (xU (PK p) 2 2 1 n,true,0):=by cbv
theorem AON (p:Fin 18) (n:K_):CA (xU (PK p) 2 0 0 n)=some (xU (PK p) 0 2 1 n,true,0):=by cbv
def H0N (c:CfT) (m:Nat):HpT:=(c,(3,zeN 128,List.replicate 16 fzN),List.replicate m [],0,[],(List.replicate 32 false,zeN 32),0,(0,0,0,0,0,0,0,0,0),false)
def H1N (c:CfT) (m:Nat):HpT:=(c,(3,[4098#64,17#64]++zeN 14++ [4098#64,1#64]++zeN 110,[(0,0,1),(0,0, -1),(1,1,3),(1,1, -1)]++List.replicate 12 fzN),[(0,0,0,1,16),(1,0,2,3,16)]::List.replicate m [],2,[(2,0,[17])],(List.replicate 32 false,zeN 32),0,(32,2,0,0,0,0,0,0,0),false)
def HLN (c:CfT):HpT:=(c,(3,wdN 2,[fzN,fzN,(4,4294967300,3),(4,4294967300, -1),(5,4294967301,5),(5,4294967301, -1)]++List.replicate 10 fzN),[[],[(4,1,2,3,16),(5,1,4,5,16)]],6,ssN 2,(List.replicate 32 false,zeN 32),0,(32,2,1,4,1,64,64,4,132),false)
def AMR:List (Int×BitVec 64):=[(0,1#64),(0,2#64),(0,0#64),(0,0#64),(0,0#64),(0,0#64)]
theorem AOO (p:Fin 18):OF (PK p) 3 16=some (H0N (PK p) 2,0):=by cbv
theorem AOP (p:Fin 18):OF (xN p) 3 16=some (H0N (xN p) 3,0):=by cbv
theorem AOQ (p:Fin 18):J7 (H0N (PK p) 2) [1,1,14,1,1,14,3,1,0,2,3,2,0,1,7,1,7,2]=some (H1N (PK p) 1,AMR):=by cbv
theorem AOR (p:Fin 18):J7 (H0N (xN p) 3) [1,1,14,1,1,14,3,1,0,2,3,2,0,1,7,1,7,2]=some (H1N (xN p) 2,AMR):=by cbv
theorem AOS (p:Fin 18):CA (H1N (PK p) 1)=some (HLN (PK p),true,0):=by cbv
theorem AOT (p:Fin 18):(CA (H1N (xN p) 2)).bind (fun r=>(B9 r.1).map (fun o=>(r.2,o)))=some ((true,0),0):=by cbv
theorem AOU (p:Fin 18) (n:K_):B9 (xU (PK p) 0 0 0 n)=some 32:=by cbv
theorem AOV (p:Fin 18) (n:K_):B9 (xU (PK p) 1 0 0 n)=some 32:=by cbv
theorem AOW (p:Fin 18) (n:K_):B9 (xU (PK p) 2 0 0 n)=some 32:=by cbv
end Go.Proofs.YtklddkokplchdaaGreatDoor
