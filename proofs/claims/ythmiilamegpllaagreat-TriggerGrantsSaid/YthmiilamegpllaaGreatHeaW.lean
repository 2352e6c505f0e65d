import Derived.Test.YthmiilamegpllaaGreatV3P
set_option linter.unusedVariables false
set_option linter.unusedSimpArgs false
set_option maxRecDepth 100000
namespace Go.Proofs.YthmiilamegpllaaGreat
open Go Go.V3
noncomputable section
def J8 (s:ByteArray):Option Bool:=
if (s.size:Int)<1 then
some (false)
else if (s.size:Int)>16 then
some (false)
else if 0<=(0:Int)/\(0:Int)<(s.size:Int) then
if (JY s ((0:Int).toNat))<97 then
some (false)
else if 0<=(0:Int)/\(0:Int)<(s.size:Int) then
if (JY s ((0:Int).toNat))>122 then
some (false)
else AM (σ:=Nat) (β:=Bool) (fun p=>
cond (decide (p<s.size)) (if ((Utf8.decode s p).1:Int)<97 then
if ((Utf8.decode s p).1:Int)<48 then
if ¬((Utf8.decode s p).1:Int)=45 then
some (Sum.inr (false))
else some (Sum.inl (p+(Utf8.decode s p).2))
else if ((Utf8.decode s p).1:Int)>57 then
if ¬((Utf8.decode s p).1:Int)=45 then
some (Sum.inr (false))
else some (Sum.inl (p+(Utf8.decode s p).2))
else some (Sum.inl (p+(Utf8.decode s p).2))
else if ((Utf8.decode s p).1:Int)>122 then
if ((Utf8.decode s p).1:Int)<48 then
if ¬((Utf8.decode s p).1:Int)=45 then
some (Sum.inr (false))
else some (Sum.inl (p+(Utf8.decode s p).2))
else if ((Utf8.decode s p).1:Int)>57 then
if ¬((Utf8.decode s p).1:Int)=45 then
some (Sum.inr (false))
else some (Sum.inl (p+(Utf8.decode s p).2))
else some (Sum.inl (p+(Utf8.decode s p).2))
else some (Sum.inl (p+(Utf8.decode s p).2)))
(some (Sum.inr (true)))) 0
else none
else none
@[reducible] def aW:FnI:={ ps:=[⟨.str,false,false,false⟩],rs:=[⟨.bool,false,false,false⟩],os:=[],bk:=[],F:=fun x=>J8 x }
def OJ:Cx:={ nm:=[],AL:=[],fns:=BA [],loops:=[],AO:=[],tb:=A8,exts:=[],lets:=[] }
theorem sY:(fun s=>J8 s)=fun s=>rk Tryz.prog OJ (sq1 (Tryz.f64.body.getD .skip)) Bool 1000000 (fun e fr L=>match e with
 | .normal=>rk Tryz.prog OJ (sq1 (oH (Tryz.f64.body.getD .skip))) Bool 1000000 (fun e fr _=>match e with
  | .normal=>AHH Tryz.prog OJ (oH (lpC (AQW (oH (sq1 (oH (oH (Tryz.f64.body.getD .skip)))))))) (oH (oH (oH (Tryz.f64.body.getD .skip)))) [2,4,24,25,26,27,28,29,30,31,32,33,34,35,36,37,38,39,40,41,42,43,44,45] 0 (fr.set 23 (.str s)) s
  | .ret=>ACE fr
  |_=>none) fr L
 |_=>none) (.str s::List.replicate (46-1) AV) []:=by kernel_rfl
theorem pK:CallsV Tryz.prog A8 64 aW:=
 AFQ (cx:=OJ) (BB AN.nil A3.nil) (fn:=Tryz.f64) (r0:=(sq1 (Tryz.f64.body.getD .skip))) (pre:=(sq1 (oH (Tryz.f64.body.getD .skip)))) (rest:=(oH (lpC (AQW (oH (sq1 (oH (oH (Tryz.f64.body.getD .skip))))))))) (tail:=(oH (oH (oH (Tryz.f64.body.getD .skip))))) (i3:=3) (i4:=4) (KN:=0) (n:=46) (o1:=AQX (sq1 (sq1 (oH (oH (Tryz.f64.body.getD .skip))))) 0) (o2:=AQX (sq1 (sq1 (oH (oH (Tryz.f64.body.getD .skip))))) 1) (o3:=AQX (sq1 (lpC (AQW (oH (sq1 (oH (oH (Tryz.f64.body.getD .skip)))))))) 0) (o4:=AQX (sq1 (lpC (AQW (oH (sq1 (oH (oH (Tryz.f64.body.getD .skip)))))))) 1) (t:=9) (W:=[2,4,24,25,26,27,28,29,30,31,32,33,34,35,36,37,38,39,40,41,42,43,44,45]) (F:=J8)
  Tryz.func64 (by kernel_rfl) (by kernel_rfl) rfl (by decide) (by kernel_rfl) ⟨by kernel_rfl,by kernel_rfl,by kernel_rfl⟩ ⟨by kernel_rfl,by kernel_rfl,by kernel_rfl⟩ (by kernel_rfl) ⟨by kernel_rfl,by kernel_rfl,by kernel_rfl⟩ ⟨by kernel_rfl,by kernel_rfl,by kernel_rfl⟩ (by kernel_rfl) (by kernel_rfl) (fun s=>congrFun sY s)
def GR (a0:(BitVec 64)):Option Int:=
if True then
mK ((a0 >>> (1#64).toNat) &&& (6148914691236517205#64)) (fun (v1:BitVec 64)=>
mK (a0 &&& (6148914691236517205#64)) (fun (v2:BitVec 64)=>
if True then
mK (((v1+v2) >>> (2#64).toNat) &&& (3689348814741910323#64)) (fun (v3:BitVec 64)=>
mK ((v1+v2) &&& (3689348814741910323#64)) (fun (v4:BitVec 64)=>
if True then
mK (((v3+v4) >>> (4#64).toNat)+(v3+v4)) (fun (v5:BitVec 64)=>
mK (v5 &&& (1085102592571150095#64)) (fun (v6:BitVec 64)=>
if True then
if True then
mK ((v6+(v6 >>> (8#64).toNat)) >>> (16#64).toNat) (fun (v7:BitVec 64)=>
mK ((v6+(v6 >>> (8#64).toNat))+v7) (fun (v8:BitVec 64)=>
if True then
mK (AG (((v8+(v8 >>> (32#64).toNat)).toNat:Int))) (fun (v9:Int)=>
some (vP .and v9 127))
else none))
else none
else none))
else none))
else none))
else none
@[reducible] def NU:FnI:={ ps:=[⟨.u64,false,false,false⟩],rs:=[⟨(.int .i64),false,true,false⟩],os:=[],bk:=[],F:=fun x=>GR x }
def WB:Cx:={ nm:=[],AL:=[],fns:=BA [],loops:=[],AO:=[],tb:=A8,exts:=[],lets:=[5,7,11,13,18,19,26,27,33] }
theorem VC:CV 115 NU:=okW WB [.tmp 2] 35 0 (BB AN.nil A3.nil) Tryz.func115
def IE (a0:ByteArray):Option Bool:=
AM (σ:=Int) (β:=Bool) (fun s1=>
if s1<(a0.size:Int) then
if 0<=s1/\s1<(a0.size:Int) then
if (JY a0 s1.toNat)≥97 then
if ¬((JY a0 s1.toNat)<=122) then
if s1=0 then
some (Sum.inr (false))
else if ¬(JY a0 s1.toNat)=45 then
if (JY a0 s1.toNat)<48 then
some (Sum.inr (false))
else if (JY a0 s1.toNat)>57 then
some (Sum.inr (false))
else some (Sum.inl (AG (s1+1)))
else some (Sum.inl (AG (s1+1)))
else some (Sum.inl (AG (s1+1)))
else if s1=0 then
some (Sum.inr (false))
else if ¬(JY a0 s1.toNat)=45 then
if (JY a0 s1.toNat)<48 then
some (Sum.inr (false))
else if (JY a0 s1.toNat)>57 then
some (Sum.inr (false))
else some (Sum.inl (AG (s1+1)))
else some (Sum.inl (AG (s1+1)))
else none
else Option.map Sum.inr (if (a0.size:Int)≥1 then
some (decide ((a0.size:Int)<=16))
else some (false))) (0)
@[reducible] def QT:FnI:={ ps:=[⟨.str,false,false,false⟩],rs:=[⟨.bool,false,true,false⟩],os:=[],bk:=[],F:=fun x=>IE x }
def aX:Cx:={ nm:=[],AL:=[],fns:=BA [],loops:=[(0,{ live:=[(3,⟨(.int .i64),false,false,false⟩)],boxes:=[],rows:=[],dead:=FU [(2,1),(4,35)],lost:=[],base:=0 })],AO:=[],tb:=A8,exts:=[],lets:=[] }
theorem YZ:CV 77 QT:=okW aX [.tmp 2] 47 0 (BB AN.nil A3.nil) Tryz.func77
def IF (a0:Nat):Option Bool:=
if a0<18446744073709551616 then
if (BitVec.ofNat 64 a0)=(0#64) then
some (true)
else if C4 a0 0=some .gt then
some (decide (C4 a0 4607182418800017408=some .lt\/C4 a0 4607182418800017408=some .eq))
else some (false)
else none
@[reducible] def LI:FnI:={ ps:=[⟨.NC,false,false,false⟩],rs:=[⟨.bool,false,true,false⟩],os:=[],bk:=[],F:=fun x=>IF x }
def aY:Cx:={ nm:=[],AL:=[],fns:=BA [],loops:=[],AO:=[],tb:=A8,exts:=[(81,.SU)],lets:=[] }
theorem AN3:A3 Tryz.prog 81 .SU:=⟨Tryz.f81,Tryz.func81,by kernel_rfl,by kernel_rfl,by kernel_rfl,by kernel_rfl⟩
theorem O9:CV 78 LI:=okW aY [.tmp 2] 14 0 (BB AN.nil (.cons AN3 A3.nil)) Tryz.func78
def DF (a0:J1):Option Int:=
Option.bind (IE a0.1) (fun r1=>
if (!r1)=true then
some (7)
else if (a0.2.1.length:Int)<1 then
some (8)
else if (a0.2.1.length:Int)>4 then
some (8)
else if (List.replicate 4 (false:Bool)).length=4 then
AM (σ:=(Int×(List Bool))) (β:=Int) (fun s1=>
if s1.1<(a0.2.1.length:Int) then
if 0<=s1.1/\s1.1<(a0.2.1.length:Int) then
Option.bind (IF ((gl ((0,0,0,0):AX) a0.2.1 s1.1.toNat).1)) (fun r2=>
if (!r2)=true then
some (Sum.inr (6))
else if (((gl ((0,0,0,0):AX) a0.2.1 s1.1.toNat).2).1)<0 then
some (Sum.inr (9))
else if (((gl ((0,0,0,0):AX) a0.2.1 s1.1.toNat).2).1)>64 then
some (Sum.inr (9))
else if ((((gl ((0,0,0,0):AX) a0.2.1 s1.1.toNat).2).2).1)<0 then
some (Sum.inr (9))
else if ((((gl ((0,0,0,0):AX) a0.2.1 s1.1.toNat).2).2).1)>64 then
some (Sum.inr (9))
else if s1.1=(AG ((a0.2.1.length:Int)-1)) then
if ¬(((gl ((0,0,0,0):AX) a0.2.1 s1.1.toNat).2).1)=0 then
some (Sum.inr (9))
else if s1.1=(AG ((a0.2.1.length:Int)-1)) then
if ¬((((gl ((0,0,0,0):AX) a0.2.1 s1.1.toNat).2).2).2)=s1.1 then
some (Sum.inr (10))
else if ¬(s1.1=(AG ((a0.2.1.length:Int)-1))) then
if ((((gl ((0,0,0,0):AX) a0.2.1 s1.1.toNat).2).2).2)<=s1.1 then
some (Sum.inr (10))
else if ((((gl ((0,0,0,0):AX) a0.2.1 s1.1.toNat).2).2).2)≥(a0.2.1.length:Int) then
some (Sum.inr (10))
else if ¬(s1.1=(AG ((a0.2.1.length:Int)-1))) then
if (0<=((((gl ((0,0,0,0):AX) a0.2.1 s1.1.toNat).2).2).2)/\((((gl ((0,0,0,0):AX) a0.2.1 s1.1.toNat).2).2).2)<((4:Nat):Int))/\((((gl ((0,0,0,0):AX) a0.2.1 s1.1.toNat).2).2).2)<(s1.2.length:Int) then
some (Sum.inl ((AG (s1.1+1),s1.2.set (((((gl ((0,0,0,0):AX) a0.2.1 s1.1.toNat).2).2).2).toNat) true)))
else none
else some (Sum.inl ((AG (s1.1+1),s1.2)))
else if ¬(s1.1=(AG ((a0.2.1.length:Int)-1))) then
if (0<=((((gl ((0,0,0,0):AX) a0.2.1 s1.1.toNat).2).2).2)/\((((gl ((0,0,0,0):AX) a0.2.1 s1.1.toNat).2).2).2)<((4:Nat):Int))/\((((gl ((0,0,0,0):AX) a0.2.1 s1.1.toNat).2).2).2)<(s1.2.length:Int) then
some (Sum.inl ((AG (s1.1+1),s1.2.set (((((gl ((0,0,0,0):AX) a0.2.1 s1.1.toNat).2).2).2).toNat) true)))
else none
else some (Sum.inl ((AG (s1.1+1),s1.2)))
else if ¬(s1.1=(AG ((a0.2.1.length:Int)-1))) then
if ((((gl ((0,0,0,0):AX) a0.2.1 s1.1.toNat).2).2).2)<=s1.1 then
some (Sum.inr (10))
else if ((((gl ((0,0,0,0):AX) a0.2.1 s1.1.toNat).2).2).2)≥(a0.2.1.length:Int) then
some (Sum.inr (10))
else if ¬(s1.1=(AG ((a0.2.1.length:Int)-1))) then
if (0<=((((gl ((0,0,0,0):AX) a0.2.1 s1.1.toNat).2).2).2)/\((((gl ((0,0,0,0):AX) a0.2.1 s1.1.toNat).2).2).2)<((4:Nat):Int))/\((((gl ((0,0,0,0):AX) a0.2.1 s1.1.toNat).2).2).2)<(s1.2.length:Int) then
some (Sum.inl ((AG (s1.1+1),s1.2.set (((((gl ((0,0,0,0):AX) a0.2.1 s1.1.toNat).2).2).2).toNat) true)))
else none
else some (Sum.inl ((AG (s1.1+1),s1.2)))
else if ¬(s1.1=(AG ((a0.2.1.length:Int)-1))) then
if (0<=((((gl ((0,0,0,0):AX) a0.2.1 s1.1.toNat).2).2).2)/\((((gl ((0,0,0,0):AX) a0.2.1 s1.1.toNat).2).2).2)<((4:Nat):Int))/\((((gl ((0,0,0,0):AX) a0.2.1 s1.1.toNat).2).2).2)<(s1.2.length:Int) then
some (Sum.inl ((AG (s1.1+1),s1.2.set (((((gl ((0,0,0,0):AX) a0.2.1 s1.1.toNat).2).2).2).toNat) true)))
else none
else some (Sum.inl ((AG (s1.1+1),s1.2)))
else if s1.1=(AG ((a0.2.1.length:Int)-1)) then
if ¬((((gl ((0,0,0,0):AX) a0.2.1 s1.1.toNat).2).2).2)=s1.1 then
some (Sum.inr (10))
else if ¬(s1.1=(AG ((a0.2.1.length:Int)-1))) then
if ((((gl ((0,0,0,0):AX) a0.2.1 s1.1.toNat).2).2).2)<=s1.1 then
some (Sum.inr (10))
else if ((((gl ((0,0,0,0):AX) a0.2.1 s1.1.toNat).2).2).2)≥(a0.2.1.length:Int) then
some (Sum.inr (10))
else if ¬(s1.1=(AG ((a0.2.1.length:Int)-1))) then
if (0<=((((gl ((0,0,0,0):AX) a0.2.1 s1.1.toNat).2).2).2)/\((((gl ((0,0,0,0):AX) a0.2.1 s1.1.toNat).2).2).2)<((4:Nat):Int))/\((((gl ((0,0,0,0):AX) a0.2.1 s1.1.toNat).2).2).2)<(s1.2.length:Int) then
some (Sum.inl ((AG (s1.1+1),s1.2.set (((((gl ((0,0,0,0):AX) a0.2.1 s1.1.toNat).2).2).2).toNat) true)))
else none
else some (Sum.inl ((AG (s1.1+1),s1.2)))
else if ¬(s1.1=(AG ((a0.2.1.length:Int)-1))) then
if (0<=((((gl ((0,0,0,0):AX) a0.2.1 s1.1.toNat).2).2).2)/\((((gl ((0,0,0,0):AX) a0.2.1 s1.1.toNat).2).2).2)<((4:Nat):Int))/\((((gl ((0,0,0,0):AX) a0.2.1 s1.1.toNat).2).2).2)<(s1.2.length:Int) then
some (Sum.inl ((AG (s1.1+1),s1.2.set (((((gl ((0,0,0,0):AX) a0.2.1 s1.1.toNat).2).2).2).toNat) true)))
else none
else some (Sum.inl ((AG (s1.1+1),s1.2)))
else if ¬(s1.1=(AG ((a0.2.1.length:Int)-1))) then
if ((((gl ((0,0,0,0):AX) a0.2.1 s1.1.toNat).2).2).2)<=s1.1 then
some (Sum.inr (10))
else if ((((gl ((0,0,0,0):AX) a0.2.1 s1.1.toNat).2).2).2)≥(a0.2.1.length:Int) then
some (Sum.inr (10))
else if ¬(s1.1=(AG ((a0.2.1.length:Int)-1))) then
if (0<=((((gl ((0,0,0,0):AX) a0.2.1 s1.1.toNat).2).2).2)/\((((gl ((0,0,0,0):AX) a0.2.1 s1.1.toNat).2).2).2)<((4:Nat):Int))/\((((gl ((0,0,0,0):AX) a0.2.1 s1.1.toNat).2).2).2)<(s1.2.length:Int) then
some (Sum.inl ((AG (s1.1+1),s1.2.set (((((gl ((0,0,0,0):AX) a0.2.1 s1.1.toNat).2).2).2).toNat) true)))
else none
else some (Sum.inl ((AG (s1.1+1),s1.2)))
else if ¬(s1.1=(AG ((a0.2.1.length:Int)-1))) then
if (0<=((((gl ((0,0,0,0):AX) a0.2.1 s1.1.toNat).2).2).2)/\((((gl ((0,0,0,0):AX) a0.2.1 s1.1.toNat).2).2).2)<((4:Nat):Int))/\((((gl ((0,0,0,0):AX) a0.2.1 s1.1.toNat).2).2).2)<(s1.2.length:Int) then
some (Sum.inl ((AG (s1.1+1),s1.2.set (((((gl ((0,0,0,0):AX) a0.2.1 s1.1.toNat).2).2).2).toNat) true)))
else none
else some (Sum.inl ((AG (s1.1+1),s1.2))))
else none
else Option.map Sum.inr (AM (σ:=Int) (β:=Int) (fun s2=>
if s2<(a0.2.1.length:Int) then
if (0<=s2/\s2<((4:Nat):Int))/\s2<(s1.2.length:Int) then
if (!(gl (false:Bool) s1.2 s2.toNat))=true then
some (Sum.inr (10))
else some (Sum.inl (AG (s2+1)))
else none
else Option.map Sum.inr (if 0<=(AG ((a0.2.1.length:Int)-1))/\(AG ((a0.2.1.length:Int)-1))<(a0.2.1.length:Int) then
if C4 ((gl ((0,0,0,0):AX) a0.2.1 ((AG ((a0.2.1.length:Int)-1)).toNat)).1) 0=some .eq then
if a0.2.2<1 then
some (9)
else if a0.2.2>64 then
some (9)
else if ¬(C4 ((gl ((0,0,0,0):AX) a0.2.1 ((AG ((a0.2.1.length:Int)-1)).toNat)).1) 0=some .eq) then
if ¬a0.2.2=0 then
some (9)
else some (0)
else some (0)
else if ¬(C4 ((gl ((0,0,0,0):AX) a0.2.1 ((AG ((a0.2.1.length:Int)-1)).toNat)).1) 0=some .eq) then
if ¬a0.2.2=0 then
some (9)
else some (0)
else some (0)
else none)) (0))) ((0,([true,false,false,false]:List Bool)))
else none)
@[reducible] def FX:FnI:={ ps:=[⟨M4,true,false,false⟩],rs:=[⟨(.int .i64),false,true,false⟩],os:=[],bk:=[],F:=fun x=>DF x }
def aZ:Cx:={ nm:=[(1,(1,1)),(4,(2,1)),(6,(3,1))],AL:=[4],fns:=BA [(77,QT),(78,LI)],loops:=[(0,{ live:=[(27,⟨(.int .i64),false,false,false⟩)],boxes:=[],rows:=[(2,.bool)],dead:=FU [(2,1),(5,3),(28,70)],lost:=[],base:=3 }),(3,{ live:=[(8,⟨(.int .i64),false,false,false⟩)],boxes:=[],rows:=[],dead:=FU [(2,1),(98,9)],lost:=[],base:=4 })],AO:=[],tb:=A8,exts:=[],lets:=[] }
theorem HA:CV 38 FX:=okW aZ [.tmp 2] 135 3 (BB (.cons YZ (.cons O9 AN.nil)) A3.nil) Tryz.func38
def OK :Option V8:=
if 0<=(32:Int)/\(32:Int)<=(32:Int)/\(32:Int)*((1:Nat):Int)<=140737488355328 then
if 0<=(32:Int)/\(32:Int)<=(32:Int)/\(32:Int)*((8:Nat):Int)<=140737488355328 then
some ((List.replicate (32:Int).toNat (false:Bool),List.replicate (32:Int).toNat (0#64:(BitVec 64))))
else none
else none
@[reducible] def TL:FnI:={ ps:=[],rs:=[⟨pJ,true,true,false⟩],os:=[],bk:=[],F:=fun x=>OK  }
def iF:Cx:={ nm:=[(0,(0,1)),(1,(1,1)),(2,(2,1))],AL:=[1,2],fns:=BA [],loops:=[],AO:=[],tb:=A8,exts:=[],lets:=[] }
theorem eF:CV 53 TL:=okW iF [.cell 0 37] 4 3 (BB AN.nil A3.nil) Tryz.func53
def KP (a0:J1) (a1:Int) (a2:Int):Option (CU×Int):=
Option.bind (DF a0) (fun r1=>
if ¬r1=0 then
some (((((⟨#[]⟩:ByteArray),[],0),(0,[],[]),[],0,[],([],[]),0,(0,0,0,0,0,0,0,0,0),false),r1))
else Option.bind (KO a1 a2) (fun r2=>
if ¬r2.2=0 then
some (((((⟨#[]⟩:ByteArray),[],0),(0,[],[]),[],0,[],([],[]),0,(0,0,0,0,0,0,0,0,0),false),r2.2))
else if (([]:List AX).length+a0.2.1.length)*32<=140737488355328 then
if 0<=((([]:List AX)++a0.2.1).length:Int)/\((([]:List AX)++a0.2.1).length:Int)<=((([]:List AX)++a0.2.1).length:Int)/\((([]:List AX)++a0.2.1).length:Int)*((24:Nat):Int)<=140737488355328 then
Option.bind (OK) (fun r3=>
some ((((a0.1,([]:List AX)++a0.2.1,a0.2.2),r2.1,List.replicate ((([]:List AX)++a0.2.1).length:Int).toNat ([]:(List AE)),0,[],r3,0,(0,0,0,0,0,0,0,0,0),false),0)))
else none
else none))
@[reducible] def TM:FnI:={ ps:=[⟨M4,true,false,false⟩,⟨(.int .i64),false,false,false⟩,⟨(.int .i64),false,false,false⟩],rs:=[⟨D4,true,true,false⟩,⟨(.int .i64),false,true,false⟩],os:=[],bk:=[],F:=fun x=>KP x.1 x.2.1 x.2.2 }
def iG:Cx:={ nm:=[(3,(1,1)),(6,(2,1)),(9,(5,1)),(20,(3,2)),(29,(6,1)),(36,(7,1)),(37,(8,2))],AL:=[29,36],fns:=BA [(38,FX),(52,TJ),(53,TL)],loops:=[],AO:=[],tb:=A8,exts:=[],lets:=[] }
theorem eG:CV 27 TM:=okW iG [.cell 6 41,.tmp 7] 39 9 (BB (.cons HA (.cons dV (.cons eF AN.nil))) A3.nil) Tryz.func27
def C6 (a0:CE) (a1:(List AE)) (a2:(BitVec 64)):Option Bool:=
if a2=(0#64) then
some (false)
else if a2.toNat>(BitVec.ofInt 64 (a0.2.1.length:Int)).toNat then
some (false)
else if True then
if 0<=((AG (((a2-(1#64)).toNat:Int))) / 2 ^ min (BitVec.ofInt 64 a0.1).toNat 64)/\((AG (((a2-(1#64)).toNat:Int))) / 2 ^ min (BitVec.ofInt 64 a0.1).toNat 64)<(a0.2.2.length:Int) then
AM (σ:=Int) (β:=Bool) (fun s1=>
if s1<(a1.length:Int) then
if 0<=s1/\s1<(a1.length:Int) then
if ((gl ((0,0,0):A4) a0.2.2 (((AG (((a2-(1#64)).toNat:Int))) / 2 ^ min (BitVec.ofInt 64 a0.1).toNat 64).toNat)).1)=((gl ((0,0,0,0,0):AE) a1 s1.toNat).1) then
some (Sum.inr (true))
else some (Sum.inl (AG (s1+1)))
else none
else some (Sum.inr (false))) (0)
else none
else none
@[reducible] def HC:FnI:={ ps:=[⟨CN,true,false,false⟩,⟨LC,false,false,false⟩,⟨.u64,false,false,false⟩],rs:=[⟨.bool,false,true,false⟩],os:=[],bk:=[],F:=fun x=>C6 x.1 x.2.1 x.2.2 }
def Y0:Cx:={ nm:=[(3,(3,1)),(7,(4,1)),(9,(5,1))],AL:=[],fns:=BA [],loops:=[(0,{ live:=[(33,⟨(.int .i64),false,false,false⟩)],boxes:=[],rows:=[],dead:=FU [(6,1),(9,1),(34,9)],lost:=[],base:=5 })],AO:=[],tb:=A8,exts:=[],lets:=[] }
theorem JG:CV 169 HC:=okW Y0 [.tmp 6] 43 3 (BB AN.nil A3.nil) Tryz.func169
def DQ (a0:(BitVec 64)):Option (Int×Int×Int×Bool×Int):=
if ¬(2#64)=0#64 then
if (a0%(2#64))=(1#64) then
if ¬(2#64)=0#64 then
if (a0 / (2#64)).toNat≥(16384#64).toNat then
some ((0,0,0,false,12))
else if ¬(2#64)=0#64 then
some ((0,0,AG (((a0 / (2#64)).toNat:Int)),true,0))
else none
else none
else if ¬(256#64)=0#64 then
if ¬(2#64)=0#64 then
if ¬(256#64)=0#64 then
if (a0 / (256#64)).toNat>(48#64).toNat then
some ((0,0,0,false,12))
else if (AG ((((a0%(256#64)) / (2#64)).toNat:Int)))>15 then
some ((0,0,0,false,12))
else if (AG (((a0 / (256#64)).toNat:Int)))<(AG ((1:Int)+(AG ((((a0%(256#64)) / (2#64)).toNat:Int))))) then
some ((0,0,0,false,12))
else if (AG ((AG ((AG (((a0 / (256#64)).toNat:Int)))-1))-(AG ((((a0%(256#64)) / (2#64)).toNat:Int)))))>32 then
some ((0,0,0,false,12))
else some ((AG ((((a0%(256#64)) / (2#64)).toNat:Int)),AG ((AG ((AG (((a0 / (256#64)).toNat:Int)))-1))-(AG ((((a0%(256#64)) / (2#64)).toNat:Int)))),0,false,0))
else none
else none
else none
else none
@[reducible] def KC:FnI:={ ps:=[⟨.u64,false,false,false⟩],rs:=[⟨(.int .i64),false,true,false⟩,⟨(.int .i64),false,true,false⟩,⟨(.int .i64),false,true,false⟩,⟨.bool,false,true,false⟩,⟨(.int .i64),false,true,false⟩],os:=[],bk:=[],F:=fun x=>DQ x }
def Y1:Cx:={ nm:=[],AL:=[],fns:=BA [],loops:=[],AO:=[],tb:=A8,exts:=[],lets:=[] }
theorem OL:CV 128 KC:=okW Y1 [.tmp 2,.tmp 3,.tmp 4,.tmp 5,.tmp 6] 51 0 (BB AN.nil A3.nil) Tryz.func128
def BK (a0:CE) (a1:Int):Option A4:=
Option.bind (A5 a0 a1 0) (fun r1=>
if ¬r1.2=0 then
some ((0,0,r1.2))
else if 0<=a1/\a1<(a0.2.1.length:Int) then
Option.bind (DQ (gl (0#64:(BitVec 64)) a0.2.1 a1.toNat)) (fun r2=>
if ¬r2.2.2.2.2=0 then
some ((0,0,12))
else if r2.2.2.2.1=true then
some ((0,0,12))
else Option.bind (A5 a0 a1 (AG (r2.1+r2.2.1))) (fun r3=>
if ¬r3.2=0 then
some ((0,0,2))
else some ((r2.1,r2.2.1,0))))
else none)
@[reducible] def E5:FnI:={ ps:=[⟨CN,true,false,false⟩,⟨(.int .i64),false,false,false⟩],rs:=[⟨(.int .i64),false,true,false⟩,⟨(.int .i64),false,true,false⟩,⟨(.int .i64),false,true,false⟩],os:=[],bk:=[],F:=fun x=>BK x.1 x.2 }
def eH:Cx:={ nm:=[(2,(2,1))],AL:=[],fns:=BA [(86,D9),(128,KC)],loops:=[],AO:=[],tb:=A8,exts:=[],lets:=[] }
theorem FY:CV 98 E5:=okW eH [.tmp 4,.tmp 5,.tmp 6] 55 1 (BB (.cons EM (.cons OL AN.nil)) A3.nil) Tryz.func98
def EC (a0:Int):Option ((BitVec 64)×Int):=
if a0<0 then
some ((0#64,2))
else if a0≥16384 then
some ((0#64,2))
else some ((BitVec.ofInt 64 (AG ((AG ((2:Int)*a0))+1)),0))
@[reducible] def OM:FnI:={ ps:=[⟨(.int .i64),false,false,false⟩],rs:=[⟨.u64,false,true,false⟩,⟨(.int .i64),false,true,false⟩],os:=[],bk:=[],F:=fun x=>EC x }
def XE:Cx:={ nm:=[],AL:=[],fns:=BA [],loops:=[],AO:=[],tb:=A8,exts:=[],lets:=[] }
theorem WC:CV 177 OM:=okW XE [.tmp 2,.tmp 3] 14 0 (BB AN.nil A3.nil) Tryz.func177
def B7 (a0:oK) (a1:(BitVec 64)):Option ((BitVec 64)×oK):=
if ¬a0.2.2.2.2=0 then
some ((a1,a0))
else Option.bind (C6 a0.1 a0.2.1 a1) (fun r1=>
if (!r1)=true then
some ((a1,a0))
else if 0<=(AG (((a1-(1#64)).toNat:Int)))/\(AG (((a1-(1#64)).toNat:Int)))<(a0.1.2.1.length:Int) then
Option.bind (DQ (gl (0#64:(BitVec 64)) a0.1.2.1 ((AG (((a1-(1#64)).toNat:Int))).toNat))) (fun r2=>
if r2.2.2.2.2=0 then
if r2.2.2.2.1=true then
some ((BitVec.ofInt 64 (AG (r2.2.2.1+1)),a0))
else Option.bind (BK a0.1 (AG (((a1-(1#64)).toNat:Int)))) (fun r3=>
if ¬r3.2.2=0 then
some ((a1,(a0.1,a0.2.1,a0.2.2.1,a0.2.2.2.1,12)))
else Option.bind (CG a0.1 a0.2.2.1 (AG ((AG ((1:Int)+r3.1))+r3.2.1))) (fun r4=>
if ¬r4.2.2.1=0 then
some ((a1,((a0.1.1,r4.2.2.2),a0.2.1,a0.2.2.1,a0.2.2.2.1,r4.2.2.1)))
else AM (σ:=(Int×M3)) (β:=((BitVec 64)×oK)) (fun s1=>
if s1.1<=(AG (r3.1+r3.2.1)) then
Option.bind (A5 (a0.1.1,s1.2,r4.2.2.2.2) (AG (((a1-(1#64)).toNat:Int))) s1.1) (fun r5=>
Option.bind (A5 (a0.1.1,s1.2,r4.2.2.2.2) r4.2.1 s1.1) (fun r6=>
if 0<=r5.1/\r5.1<(s1.2.length:Int) then
if 0<=r6.1/\r6.1<(s1.2.length:Int) then
some (Sum.inl ((AG (s1.1+1),s1.2.set r6.1.toNat (gl (0#64:(BitVec 64)) s1.2 r5.1.toNat))))
else none
else none))
else Option.map Sum.inr (Option.bind (EC r4.2.1) (fun r7=>
if 0<=(AG (((a1-(1#64)).toNat:Int)))/\(AG (((a1-(1#64)).toNat:Int)))<(s1.2.length:Int) then
if (a0.2.2.2.1.length+([(AG (((a1-(1#64)).toNat:Int)),r4.2.1)]:List (Int×Int)).length)*16<=140737488355328 then
some ((BitVec.ofInt 64 (AG (r4.2.1+1)),((a0.1.1,s1.2.set ((AG (((a1-(1#64)).toNat:Int))).toNat) r7.1,r4.2.2.2.2),a0.2.1,r4.1,a0.2.2.2.1++([(AG (((a1-(1#64)).toNat:Int)),r4.2.1)]:List (Int×Int)),a0.2.2.2.2)))
else none
else none))) ((0,r4.2.2.2.1))))
else Option.bind (BK a0.1 (AG (((a1-(1#64)).toNat:Int)))) (fun r8=>
if ¬r8.2.2=0 then
some ((a1,(a0.1,a0.2.1,a0.2.2.1,a0.2.2.2.1,12)))
else Option.bind (CG a0.1 a0.2.2.1 (AG ((AG ((1:Int)+r8.1))+r8.2.1))) (fun r9=>
if ¬r9.2.2.1=0 then
some ((a1,((a0.1.1,r9.2.2.2),a0.2.1,a0.2.2.1,a0.2.2.2.1,r9.2.2.1)))
else AM (σ:=(Int×M3)) (β:=((BitVec 64)×oK)) (fun s2=>
if s2.1<=(AG (r8.1+r8.2.1)) then
Option.bind (A5 (a0.1.1,s2.2,r9.2.2.2.2) (AG (((a1-(1#64)).toNat:Int))) s2.1) (fun LZ=>
Option.bind (A5 (a0.1.1,s2.2,r9.2.2.2.2) r9.2.1 s2.1) (fun VL=>
if 0<=LZ.1/\LZ.1<(s2.2.length:Int) then
if 0<=VL.1/\VL.1<(s2.2.length:Int) then
some (Sum.inl ((AG (s2.1+1),s2.2.set VL.1.toNat (gl (0#64:(BitVec 64)) s2.2 LZ.1.toNat))))
else none
else none))
else Option.map Sum.inr (Option.bind (EC r9.2.1) (fun QU=>
if 0<=(AG (((a1-(1#64)).toNat:Int)))/\(AG (((a1-(1#64)).toNat:Int)))<(s2.2.length:Int) then
if (a0.2.2.2.1.length+([(AG (((a1-(1#64)).toNat:Int)),r9.2.1)]:List (Int×Int)).length)*16<=140737488355328 then
some ((BitVec.ofInt 64 (AG (r9.2.1+1)),((a0.1.1,s2.2.set ((AG (((a1-(1#64)).toNat:Int))).toNat) QU.1,r9.2.2.2.2),a0.2.1,r9.1,a0.2.2.2.1++([(AG (((a1-(1#64)).toNat:Int)),r9.2.1)]:List (Int×Int)),a0.2.2.2.2)))
else none
else none))) ((0,r9.2.2.2.1)))))
else none)
@[reducible] def M5:FnI:={ ps:=[⟨(.pair CN (.pair LC ACI)),true,true,true⟩,⟨.u64,false,false,false⟩],rs:=[⟨.u64,false,true,false⟩],os:=[⟨(.pair CN (.pair LC ACI)),true,true,true⟩],bk:=[0],pin:=[(1,0,1,0),(2,1,2,0),(3,2,3,0)],F:=fun x=>B7 x.1 x.2 }
def VD:Cx:={ nm:=[(14,(5,1)),(172,(6,1)),(173,(7,1))],AL:=[173],fns:=BA [(49,IC),(86,D9),(98,E5),(128,KC),(169,HC),(177,OM)],loops:=[(0,{ live:=[(16,⟨(.int .i64),false,false,false⟩)],boxes:=[],rows:=[(1,.u64)],dead:=FU [(17,4),(110,42)],lost:=[],base:=6 })],AO:=[],tb:=A8,exts:=[],lets:=[] }
theorem UE:CV 172 M5:=okW VD [.tmp 4] 179 3 (BB (.cons LG (.cons EM (.cons FY (.cons OL (.cons JG (.cons WC AN.nil)))))) A3.nil) Tryz.func172
def CC (a0:CE) (a1:Int):Option FC:=
Option.bind (BK a0 a1) (fun r1=>
if ¬r1.2.2=0 then
some (([],r1.2.2))
else AM (σ:=FC) (β:=FC) (fun s1=>
if s1.2<r1.1 then
Option.bind (A5 a0 a1 (AG ((1:Int)+s1.2))) (fun r2=>
if (s1.1.length+([r2.1]:List Int).length)*8<=140737488355328 then
some (Sum.inl ((s1.1++([r2.1]:List Int),AG (s1.2+1))))
else none)
else some (Sum.inr ((s1.1,0)))) (([],0)))
@[reducible] def KD:FnI:={ ps:=[⟨CN,true,false,false⟩,⟨(.int .i64),false,false,false⟩],rs:=[⟨H0,false,true,false⟩,⟨(.int .i64),false,true,false⟩],os:=[],bk:=[],F:=fun x=>CC x.1 x.2 }
def Y2:Cx:={ nm:=[(2,(2,1)),(38,(4,1)),(39,(5,1))],AL:=[39],fns:=BA [(86,D9),(98,E5)],loops:=[(0,{ live:=[(9,⟨H0,false,true,false⟩),(10,⟨(.int .i64),false,false,false⟩)],boxes:=[],rows:=[],dead:=FU [(11,2),(23,17)],lost:=[],base:=3 })],AO:=[],tb:=A8,exts:=[],lets:=[] }
theorem ON:CV 173 KD:=okW Y2 [.tmp 4,.tmp 5] 41 4 (BB (.cons EM (.cons FY AN.nil)) A3.nil) Tryz.func173
def KQ (a0:CE) (a1:(List AE)) (a2:AE) (a3:M3):Option AHK:=
AM (σ:=(M3×Int×oK)) (β:=AHK) (fun s1=>
if s1.2.1<(a3.length:Int) then
if 0<=s1.2.1/\s1.2.1<(a3.length:Int) then
Option.bind (B7 s1.2.2 (gl (0#64:(BitVec 64)) a3 s1.2.1.toNat)) (fun r1=>
if (s1.1.length+([r1.1]:List (BitVec 64)).length)*8<=140737488355328 then
some (Sum.inl ((s1.1++([r1.1]:List (BitVec 64)),AG (s1.2.1+1),r1.2)))
else none)
else none
else Option.map Sum.inr (AM (σ:=(Int×oK)) (β:=AHK) (fun s2=>
if s2.1<(s2.2.2.2.2.1.length:Int) then
if s2.2.2.2.2.2=0 then
if 0<=s2.1/\s2.1<(s2.2.2.2.2.1.length:Int) then
Option.bind (CC (a0.1,s2.2.1.2) ((gl ((0,0):(Int×Int)) s2.2.2.2.2.1 s2.1.toNat).2)) (fun r2=>
AM (σ:=(Int×oK)) (β:=((Int×oK) ⊕ AHK)) (fun s3=>
if s3.1<(r2.1.length:Int) then
if 0<=s3.1/\s3.1<(r2.1.length:Int) then
if 0<=(gl (0:Int) r2.1 s3.1.toNat)/\(gl (0:Int) r2.1 s3.1.toNat)<(s3.2.1.2.1.length:Int) then
Option.bind (B7 s3.2 (gl (0#64:(BitVec 64)) s3.2.1.2.1 ((gl (0:Int) r2.1 s3.1.toNat).toNat))) (fun r3=>
if 0<=(gl (0:Int) r2.1 s3.1.toNat)/\(gl (0:Int) r2.1 s3.1.toNat)<(r3.2.1.2.1.length:Int) then
some (Sum.inl ((AG (s3.1+1),((r3.2.1.1,r3.2.1.2.1.set ((gl (0:Int) r2.1 s3.1.toNat).toNat) r3.1,r3.2.1.2.2),r3.2.2))))
else none)
else none
else none
else some (Sum.inr (Sum.inl ((AG (s2.1+1),s3.2))))) ((0,s2.2)))
else none
else some (Sum.inr ((s2.2.2.2.1,s2.2.2.2.2.1,s1.1,s2.2.2.2.2.2,s2.2.1.2.1,s2.2.1.2.2,s2.2.2.1)))
else some (Sum.inr ((s2.2.2.2.1,s2.2.2.2.2.1,s1.1,s2.2.2.2.2.2,s2.2.1.2.1,s2.2.1.2.2,s2.2.2.1)))) ((0,s1.2.2)))) (([],0,(a0,a1,a2,[],0)))
@[reducible] def TN:FnI:={ ps:=[⟨CN,true,true,false⟩,⟨LC,false,true,false⟩,⟨GX,true,false,false⟩,⟨YS,false,false,false⟩],rs:=[⟨GX,true,true,false⟩,⟨(.slice AHJ),false,true,false⟩,⟨YS,false,true,false⟩,⟨(.int .i64),false,true,false⟩],os:=[⟨YS,false,true,false⟩,⟨oJ,false,true,false⟩,⟨LC,false,true,false⟩],bk:=[0,1,2],F:=fun x=>KQ x.1 x.2.1 x.2.2.1 x.2.2.2 }
def iH:Cx:={ nm:=[(4,(4,1)),(6,(5,1)),(8,(6,1)),(25,(7,1)),(35,(9,4)),(36,(13,1)),(37,(14,1)),(65,(20,1)),(83,(21,4))],AL:=[37],fns:=BA [(172,M5),(173,KD)],loops:=[(0,{ live:=[(13,⟨YS,false,true,false⟩),(28,⟨(.int .i64),false,false,false⟩)],boxes:=[(7,⟨(.pair CN (.pair LC ACI)),true,true,false⟩)],rows:=[],dead:=FU [(15,1),(29,10)],lost:=[0,1,2],base:=15,pins:=[(16,0,7),(17,1,7),(18,2,7)] }),(2,{ live:=[(16,⟨(.int .i64),false,false,false⟩)],boxes:=[(7,⟨(.pair CN (.pair LC ACI)),true,true,false⟩)],rows:=[],dead:=FU [(17,2),(20,1),(39,47)],lost:=[0,1,2,19],base:=29,pins:=[(29,0,7),(30,1,7),(31,2,7)] }),(4,{ live:=[(70,⟨(.int .i64),false,false,false⟩)],boxes:=[(7,⟨(.pair CN (.pair LC ACI)),true,true,false⟩)],rows:=[],dead:=FU [(20,1),(71,15)],lost:=[0,1,2,19,32],base:=25,pins:=[(25,0,7),(26,1,7),(27,2,7)] })],AO:=[],tb:=A8,exts:=[],lets:=[] }
theorem eI:CV 162 TN:=okW iH [.cell 8 57,.tmp 9,.tmp 10,.tmp 11] 99 29 (BB (.cons UE (.cons ON AN.nil)) A3.nil) Tryz.func162
def EN (a0:GC) (a1:Int):Option (AE×Bool):=
AM (σ:=Int) (β:=(AE×Bool)) (fun s1=>
if s1<(a0.length:Int) then
if 0<=s1/\s1<(a0.length:Int) then
AM (σ:=Int) (β:=(Int ⊕ (AE×Bool))) (fun s2=>
if s2<((gl ([]:(List AE)) a0 s1.toNat).length:Int) then
if 0<=s2/\s2<((gl ([]:(List AE)) a0 s1.toNat).length:Int) then
if ((gl ((0,0,0,0,0):AE) (gl ([]:(List AE)) a0 s1.toNat) s2.toNat).1)=a1 then
some (Sum.inr (Sum.inr ((((gl ((0,0,0,0,0):AE) (gl ([]:(List AE)) a0 s1.toNat) s2.toNat).1,((gl ((0,0,0,0,0):AE) (gl ([]:(List AE)) a0 s1.toNat) s2.toNat).2).1,(((gl ((0,0,0,0,0):AE) (gl ([]:(List AE)) a0 s1.toNat) s2.toNat).2).2).1,((((gl ((0,0,0,0,0):AE) (gl ([]:(List AE)) a0 s1.toNat) s2.toNat).2).2).2)),true))))
else some (Sum.inl (AG (s2+1)))
else none
else some (Sum.inr (Sum.inl (AG (s1+1))))) (0)
else none
else some (Sum.inr (((0,0,0,0,0),false)))) (0)
@[reducible] def MH:FnI:={ ps:=[⟨IY,false,false,false⟩,⟨(.int .i64),false,false,false⟩],rs:=[⟨GX,true,true,false⟩,⟨.bool,false,true,false⟩],os:=[],bk:=[],F:=fun x=>EN x.1 x.2 }
def eJ:Cx:={ nm:=[(4,(1,1)),(9,(3,1)),(15,(2,1))],AL:=[],fns:=BA [],loops:=[(0,{ live:=[(12,⟨(.int .i64),false,false,false⟩)],boxes:=[],rows:=[],dead:=FU [(5,1),(7,1),(9,1),(13,16)],lost:=[],base:=2 }),(2,{ live:=[(18,⟨(.int .i64),false,false,false⟩)],boxes:=[],rows:=[],dead:=FU [(5,1),(9,1),(19,9)],lost:=[],base:=3 })],AO:=[],tb:=A8,exts:=[],lets:=[] }
theorem QV:CV 154 MH:=okW eJ [.cell 4 57,.tmp 5] 30 3 (BB AN.nil A3.nil) Tryz.func154
def KR (a0:GC):Option (List AE):=
AM (σ:=((List AE)×Int)) (β:=(List AE)) (fun s1=>
if s1.2<(a0.length:Int) then
if 0<=s1.2/\s1.2<(a0.length:Int) then
if (s1.1.length+(gl ([]:(List AE)) a0 s1.2.toNat).length)*40<=140737488355328 then
some (Sum.inl ((s1.1++(gl ([]:(List AE)) a0 s1.2.toNat),AG (s1.2+1))))
else none
else none
else some (Sum.inr (s1.1))) (([],0))
@[reducible] def TO:FnI:={ ps:=[⟨IY,false,false,false⟩],rs:=[⟨LC,false,true,false⟩],os:=[],bk:=[],F:=fun x=>KR x }
def iI:Cx:={ nm:=[(11,(2,1)),(14,(3,1))],AL:=[14],fns:=BA [],loops:=[(0,{ live:=[(3,⟨LC,false,true,false⟩),(8,⟨(.int .i64),false,false,false⟩)],boxes:=[],rows:=[],dead:=FU [(5,1),(9,7)],lost:=[],base:=1 })],AO:=[],tb:=A8,exts:=[],lets:=[] }
theorem eK:CV 175 TO:=okW iI [.tmp 2] 17 3 (BB AN.nil A3.nil) Tryz.func175
def HQ (a0:GC) (a1:(List Int)):Option Bool:=
Option.bind (KR a0) (fun r1=>
if (a1.length:Int)>(r1.length:Int) then
some (false)
else AM (σ:=Int) (β:=Bool) (fun s1=>
if s1<(a1.length:Int) then
if 0<=s1/\s1<(a1.length:Int) then
AM (σ:=Int) (β:=(Int ⊕ Bool)) (fun s2=>
if s2<s1 then
if 0<=s2/\s2<(a1.length:Int) then
if (gl (0:Int) a1 s2.toNat)=(gl (0:Int) a1 s1.toNat) then
some (Sum.inr (Sum.inr (false)))
else some (Sum.inl (AG (s2+1)))
else none
else Option.map Sum.inr (if Bd none (some (a1.length:Int)) ((a1.length:Int).toNat) r1.length then
AM (σ:=(Bool×Int)) (β:=(Int ⊕ Bool)) (fun s3=>
if s3.2<((((a1.length:Int).toNat)-0:Nat):Int) then
if 0<=s3.2/\s3.2<((((a1.length:Int).toNat)-0:Nat):Int) then
if s3.1=true then
some (Sum.inl ((true,AG (s3.2+1))))
else some (Sum.inl ((decide (((gl ((0,0,0,0,0):AE) r1 (0+s3.2.toNat)).1)=(gl (0:Int) a1 s1.toNat)),AG (s3.2+1))))
else none
else Option.map Sum.inr (if (!s3.1)=true then
some (Sum.inr (false))
else some (Sum.inl (AG (s1+1))))) ((false,0))
else none)) (0)
else none
else Option.map Sum.inr (if Bd none (some (a1.length:Int)) ((a1.length:Int).toNat) r1.length then
AM (σ:=Int) (β:=Bool) (fun s4=>
if s4<((((a1.length:Int).toNat)-0:Nat):Int) then
if 0<=s4/\s4<((((a1.length:Int).toNat)-0:Nat):Int) then
AM (σ:=(Bool×Int)) (β:=(Int ⊕ Bool)) (fun s5=>
if s5.2<(a1.length:Int) then
if 0<=s5.2/\s5.2<(a1.length:Int) then
if s5.1=true then
some (Sum.inl ((true,AG (s5.2+1))))
else some (Sum.inl ((decide (((gl ((0,0,0,0,0):AE) r1 (0+s4.toNat)).1)=(gl (0:Int) a1 s5.2.toNat)),AG (s5.2+1))))
else none
else Option.map Sum.inr (if (!s5.1)=true then
some (Sum.inr (false))
else some (Sum.inl (AG (s4+1))))) ((false,0))
else none
else some (Sum.inr (true))) (0)
else none)) (0))
@[reducible] def O_:FnI:={ ps:=[⟨IY,false,false,false⟩,⟨H0,false,false,false⟩],rs:=[⟨.bool,false,true,false⟩],os:=[],bk:=[],F:=fun x=>HQ x.1 x.2 }
def Y3:Cx:={ nm:=[(11,(3,1)),(13,(4,1)),(18,(2,1))],AL:=[],fns:=BA [(175,TO)],loops:=[(0,{ live:=[(26,⟨(.int .i64),false,false,false⟩)],boxes:=[],rows:=[],dead:=FU [(4,1),(6,4),(11,1),(27,35)],lost:=[],base:=3 }),(2,{ live:=[(8,⟨(.int .i64),false,false,false⟩)],boxes:=[],rows:=[],dead:=FU [(4,1),(31,11)],lost:=[],base:=3 }),(4,{ live:=[(9,⟨.bool,false,false,false⟩),(47,⟨(.int .i64),false,false,false⟩)],boxes:=[],rows:=[],dead:=FU [(11,1),(48,11)],lost:=[],base:=3 }),(6,{ live:=[(67,⟨(.int .i64),false,false,false⟩)],boxes:=[],rows:=[],dead:=FU [(4,1),(13,2),(16,1),(68,20)],lost:=[],base:=4 }),(8,{ live:=[(14,⟨.bool,false,false,false⟩),(73,⟨(.int .i64),false,false,false⟩)],boxes:=[],rows:=[],dead:=FU [(16,1),(74,11)],lost:=[],base:=5 })],AO:=[],tb:=A8,exts:=[],lets:=[] }
theorem XF:CV 168 O_:=okW Y3 [.tmp 4] 88 3 (BB (.cons eK AN.nil) A3.nil) Tryz.func168
def ET (a0:Nat) (a1:Int):Option (Int×Int):=
Option.bind (IF a0) (fun r1=>
if (!r1)=true then
some ((0,6))
else if a1<1 then
some ((0,1))
else if a1>64 then
some ((0,1))
else if C4 a0 0=some .eq then
some ((0,0))
else if a0<18446744073709551616 then
if True then
if (AG (((((BitVec.ofNat 64 a0) >>> (52#64).toNat) &&& (2047#64)).toNat:Int)))>0 then
if (AG ((1075:Int)-(AG (((((BitVec.ofNat 64 a0) >>> (52#64).toNat) &&& (2047#64)).toNat:Int)))))<64 then
if True then
some ((if (AG (((((((BitVec.ofNat 64 a0) &&& (4503599627370495#64))|||(4503599627370496#64))*(BitVec.ofInt 64 a1)) >>> (BitVec.ofInt 64 (AG ((1075:Int)-(AG (((((BitVec.ofNat 64 a0) >>> (52#64).toNat) &&& (2047#64)).toNat:Int)))))).toNat).toNat:Int)))>1 then AG (((((((BitVec.ofNat 64 a0) &&& (4503599627370495#64))|||(4503599627370496#64))*(BitVec.ofInt 64 a1)) >>> (BitVec.ofInt 64 (AG ((1075:Int)-(AG (((((BitVec.ofNat 64 a0) >>> (52#64).toNat) &&& (2047#64)).toNat:Int)))))).toNat).toNat:Int)) else 1,0))
else none
else some ((if (AG (((0#64).toNat:Int)))>1 then AG (((0#64).toNat:Int)) else 1,0))
else if (1074:Int)<64 then
if True then
some ((if (AG ((((((BitVec.ofNat 64 a0) &&& (4503599627370495#64))*(BitVec.ofInt 64 a1)) >>> (BitVec.ofInt 64 1074).toNat).toNat:Int)))>1 then AG ((((((BitVec.ofNat 64 a0) &&& (4503599627370495#64))*(BitVec.ofInt 64 a1)) >>> (BitVec.ofInt 64 1074).toNat).toNat:Int)) else 1,0))
else none
else some ((if (AG (((0#64).toNat:Int)))>1 then AG (((0#64).toNat:Int)) else 1,0))
else none
else none)
@[reducible] def PA:FnI:={ ps:=[⟨.NC,false,false,false⟩,⟨(.int .i64),false,false,false⟩],rs:=[⟨(.int .i64),false,true,false⟩,⟨(.int .i64),false,true,false⟩],os:=[],bk:=[],F:=fun x=>ET x.1 x.2 }
def Y4:Cx:={ nm:=[],AL:=[],fns:=BA [(78,LI)],loops:=[],AO:=[],tb:=A8,exts:=[(81,.SU)],lets:=[] }
theorem XG:CV 41 PA:=okW Y4 [.tmp 4,.tmp 5] 48 0 (BB (.cons O9 AN.nil) (.cons AN3 A3.nil)) Tryz.func41
def D_ (a0:J1) (a1:Int) (a2:Int):Option (Int×Int):=
Option.bind (DF a0) (fun r1=>
if ¬r1=0 then
some ((0,1))
else if a1<0 then
some ((0,1))
else if a1≥(a0.2.1.length:Int) then
some ((0,1))
else if a2<1 then
some ((0,1))
else if a2>64 then
some ((0,1))
else if 0<=a1/\a1<(a0.2.1.length:Int) then
Option.bind (ET ((gl ((0,0,0,0):AX) a0.2.1 a1.toNat).1) a2) (fun r2=>
some ((r2.1,r2.2)))
else none)
@[reducible] def JH:FnI:={ ps:=[⟨M4,true,false,false⟩,⟨(.int .i64),false,false,false⟩,⟨(.int .i64),false,false,false⟩],rs:=[⟨(.int .i64),false,true,false⟩,⟨(.int .i64),false,true,false⟩],os:=[],bk:=[],F:=fun x=>D_ x.1 x.2.1 x.2.2 }
def iJ:Cx:={ nm:=[(3,(1,1))],AL:=[],fns:=BA [(38,FX),(41,PA)],loops:=[],AO:=[],tb:=A8,exts:=[],lets:=[] }
theorem MI:CV 18 JH:=okW iJ [.tmp 6,.tmp 7] 40 1 (BB (.cons HA (.cons XG AN.nil)) A3.nil) Tryz.func18
def BN (a0:GC) (a1:Int):Option (AE×Bool):=
if a1<0 then
some (((0,0,0,0,0),false))
else if a1≥(a0.length:Int) then
some (((0,0,0,0,0),false))
else if 0<=a1/\a1<(a0.length:Int) then
if ((gl ([]:(List AE)) a0 a1.toNat).length:Int)=0 then
some (((0,0,0,0,0),false))
else if 0<=a1/\a1<(a0.length:Int) then
if 0<=a1/\a1<(a0.length:Int) then
if 0<=(AG (((gl ([]:(List AE)) a0 a1.toNat).length:Int)-1))/\(AG (((gl ([]:(List AE)) a0 a1.toNat).length:Int)-1))<((gl ([]:(List AE)) a0 a1.toNat).length:Int) then
some ((((gl ((0,0,0,0,0):AE) (gl ([]:(List AE)) a0 a1.toNat) ((AG (((gl ([]:(List AE)) a0 a1.toNat).length:Int)-1)).toNat)).1,((gl ((0,0,0,0,0):AE) (gl ([]:(List AE)) a0 a1.toNat) ((AG (((gl ([]:(List AE)) a0 a1.toNat).length:Int)-1)).toNat)).2).1,(((gl ((0,0,0,0,0):AE) (gl ([]:(List AE)) a0 a1.toNat) ((AG (((gl ([]:(List AE)) a0 a1.toNat).length:Int)-1)).toNat)).2).2).1,((((gl ((0,0,0,0,0):AE) (gl ([]:(List AE)) a0 a1.toNat) ((AG (((gl ([]:(List AE)) a0 a1.toNat).length:Int)-1)).toNat)).2).2).2)),true))
else none
else none
else none
else none
@[reducible] def DK:FnI:={ ps:=[⟨IY,false,false,false⟩,⟨(.int .i64),false,false,false⟩],rs:=[⟨GX,true,true,false⟩,⟨.bool,false,true,false⟩],os:=[],bk:=[],F:=fun x=>BN x.1 x.2 }
def WD:Cx:={ nm:=[(4,(1,1)),(18,(2,1)),(26,(3,1)),(30,(4,1))],AL:=[],fns:=BA [],loops:=[],AO:=[],tb:=A8,exts:=[],lets:=[] }
theorem EG:CV 17 DK:=okW WD [.cell 4 57,.tmp 5] 35 4 (BB AN.nil A3.nil) Tryz.func17
def JI (a0:CE):Option Int:=
Option.bind (E3 a0.1) (fun r1=>
if (!r1)=true then
some (0)
else if True then
some (AG ((1:Int)*2 ^ min (BitVec.ofInt 64 a0.1).toNat 64))
else none)
@[reducible] def R8:FnI:={ ps:=[⟨CN,true,false,false⟩],rs:=[⟨(.int .i64),false,true,false⟩],os:=[],bk:=[],F:=fun x=>JI x }
def eL:Cx:={ nm:=[(1,(2,1))],AL:=[],fns:=BA [(82,HM)],loops:=[],AO:=[],tb:=A8,exts:=[],lets:=[] }
theorem a8:CV 42 R8:=okW eL [.tmp 2] 11 1 (BB (.cons KA AN.nil) A3.nil) Tryz.func42
def FM (a0:CE) (a1:AE) (a2:Int):Option Bool:=
if a2=0 then
some (true)
else Option.bind (JI a0) (fun r1=>
some (decide (a1.2.2.2.2<(AG (a2*r1)))))
@[reducible] def IG:FnI:={ ps:=[⟨CN,true,false,false⟩,⟨GX,true,false,false⟩,⟨(.int .i64),false,false,false⟩],rs:=[⟨.bool,false,true,false⟩],os:=[],bk:=[],F:=fun x=>FM x.1 x.2.1 x.2.2 }
def eM:Cx:={ nm:=[(3,(2,1)),(4,(3,1))],AL:=[],fns:=BA [(42,R8)],loops:=[],AO:=[],tb:=A8,exts:=[],lets:=[] }
theorem LJ:CV 19 IG:=okW eM [.tmp 6] 18 2 (BB (.cons a8 AN.nil) A3.nil) Tryz.func19
def FZ (a0:CU) (a1:(List AE)):Option (AE×Int):=
AM (σ:=FC) (β:=(AE×Int)) (fun s1=>
if s1.2<(a1.length:Int) then
if 0<=s1.2/\s1.2<(a1.length:Int) then
Option.bind (EN a0.2.2.1 ((gl ((0,0,0,0,0):AE) a1 s1.2.toNat).1)) (fun r1=>
if (!r1.2)=true then
some (Sum.inr (((0,0,0,0,0),1)))
else if (!(gP [decide (r1.1.1=((gl ((0,0,0,0,0):AE) a1 s1.2.toNat).1)),decide (r1.1.2.1=(((gl ((0,0,0,0,0):AE) a1 s1.2.toNat).2).1)),decide (r1.1.2.2.1=((((gl ((0,0,0,0,0):AE) a1 s1.2.toNat).2).2).1)),decide (r1.1.2.2.2.1=(((((gl ((0,0,0,0,0):AE) a1 s1.2.toNat).2).2).2).1)),decide (r1.1.2.2.2.2=(((((gl ((0,0,0,0,0):AE) a1 s1.2.toNat).2).2).2).2))]))=true then
some (Sum.inr (((0,0,0,0,0),1)))
else if 0<=(0:Int)/\(0:Int)<(a1.length:Int) then
if ¬(((gl ((0,0,0,0,0):AE) a1 s1.2.toNat).2).1)=(((gl ((0,0,0,0,0):AE) a1 ((0:Int).toNat)).2).1) then
some (Sum.inr (((0,0,0,0,0),1)))
else if (s1.1.length+([(gl ((0,0,0,0,0):AE) a1 s1.2.toNat).1]:List Int).length)*8<=140737488355328 then
some (Sum.inl ((s1.1++([(gl ((0,0,0,0,0):AE) a1 s1.2.toNat).1]:List Int),AG (s1.2+1))))
else none
else none)
else none
else Option.map Sum.inr (if (a1.length:Int)=0 then
some (((0,0,0,0,0),1))
else Option.bind (HQ a0.2.2.1 s1.1) (fun r2=>
if (!r2)=true then
some (((0,0,0,0,0),1))
else if 0<=(0:Int)/\(0:Int)<(a1.length:Int) then
if 0<=(((gl ((0,0,0,0,0):AE) a1 ((0:Int).toNat)).2).1)/\(((gl ((0,0,0,0,0):AE) a1 ((0:Int).toNat)).2).1)<(a0.1.2.1.length:Int) then
Option.bind (D_ a0.1 ((((gl ((0,0,0,0):AX) a0.1.2.1 ((((gl ((0,0,0,0,0):AE) a1 ((0:Int).toNat)).2).1).toNat)).2).2).2) (a0.2.1.2.2.length:Int)) (fun r3=>
Option.bind (BN a0.2.2.1 ((((gl ((0,0,0,0):AX) a0.1.2.1 ((((gl ((0,0,0,0,0):AE) a1 ((0:Int).toNat)).2).1).toNat)).2).2).2)) (fun r4=>
AM (σ:=(Bool×Int)) (β:=(AE×Int)) (fun s2=>
if s2.2<(a1.length:Int) then
if 0<=s2.2/\s2.2<(a1.length:Int) then
if s2.1=true then
some (Sum.inl ((decide (¬((gl ((0,0,0,0,0):AE) a1 s2.2.toNat).1)=r4.1.1),AG (s2.2+1))))
else some (Sum.inl ((false,AG (s2.2+1))))
else none
else Option.map Sum.inr (if s2.1=true then
Option.bind (FM a0.2.1 r4.1 r3.1) (fun r5=>
if r5=true then
some ((r4.1,0))
else some (((a0.2.2.2.1,(((gl ((0,0,0,0):AX) a0.1.2.1 ((((gl ((0,0,0,0,0):AE) a1 ((0:Int).toNat)).2).1).toNat)).2).2).2,(-1),(-1),0),0)))
else some (((a0.2.2.2.1,(((gl ((0,0,0,0):AX) a0.1.2.1 ((((gl ((0,0,0,0,0):AE) a1 ((0:Int).toNat)).2).1).toNat)).2).2).2,(-1),(-1),0),0)))) ((r4.2,0))))
else none
else none))) (([],0))
@[reducible] def PB:FnI:={ ps:=[⟨D4,true,false,false⟩,⟨LC,false,false,false⟩],rs:=[⟨GX,true,true,false⟩,⟨(.int .i64),false,true,false⟩],os:=[],bk:=[],F:=fun x=>FZ x.1 x.2 }
def Y5:Cx:={ nm:=[(2,(8,1)),(4,(9,1)),(8,(11,1)),(9,(12,1)),(14,(15,1)),(17,(16,1)),(52,(13,1)),(53,(14,1))],AL:=[53],fns:=BA [(17,DK),(18,JH),(19,IG),(154,MH),(168,O_)],loops:=[(0,{ live:=[(6,⟨H0,false,true,false⟩),(20,⟨(.int .i64),false,false,false⟩)],boxes:=[],rows:=[],dead:=FU [(5,1),(8,3),(21,34)],lost:=[],base:=10 }),(2,{ live:=[(15,⟨.bool,false,false,false⟩),(96,⟨(.int .i64),false,false,false⟩)],boxes:=[],rows:=[],dead:=FU [(17,1),(97,12)],lost:=[],base:=16 })],AO:=[],tb:=A8,exts:=[],lets:=[] }
theorem XH:CV 159 PB:=okW Y5 [.cell 4 57,.tmp 5] 122 9 (BB (.cons EG (.cons MI (.cons LJ (.cons QV (.cons XF AN.nil))))) A3.nil) Tryz.func159
def DR (a0:GC):Option GC:=
AM (σ:=(GC×Int)) (β:=GC) (fun s1=>
if s1.2<(a0.length:Int) then
if 0<=s1.2/\s1.2<(a0.length:Int) then
if (([]:List AE).length+(gl ([]:(List AE)) a0 s1.2.toNat).length)*40<=140737488355328 then
if (s1.1.length+([([]:List AE)++(gl ([]:(List AE)) a0 s1.2.toNat)]:List (List AE)).length)*24<=140737488355328 then
some (Sum.inl ((s1.1++([([]:List AE)++(gl ([]:(List AE)) a0 s1.2.toNat)]:List (List AE)),AG (s1.2+1))))
else none
else none
else none
else some (Sum.inr (s1.1))) (([],0))
@[reducible] def GG:FnI:={ ps:=[⟨IY,false,false,false⟩],rs:=[⟨IY,false,true,false⟩],os:=[],bk:=[],F:=fun x=>DR x }
def eN:Cx:={ nm:=[(11,(2,1)),(14,(3,1)),(15,(4,1)),(16,(5,1))],AL:=[14,15,16],fns:=BA [],loops:=[(0,{ live:=[(3,⟨IY,false,true,false⟩),(8,⟨(.int .i64),false,false,false⟩)],boxes:=[],rows:=[],dead:=FU [(5,1),(9,9)],lost:=[],base:=1 })],AO:=[],tb:=A8,exts:=[],lets:=[] }
theorem HR:CV 13 GG:=okW eN [.tmp 2] 19 5 (BB AN.nil A3.nil) Tryz.func13
def DS (a0:(List BS)):Option (List BS):=
AM (σ:=((List BS)×Int)) (β:=(List BS)) (fun s1=>
if s1.2<(a0.length:Int) then
if 0<=s1.2/\s1.2<(a0.length:Int) then
if (([]:List Int).length+(((gl ((0,0,[]):BS) a0 s1.2.toNat).2).2).length)*8<=140737488355328 then
if (s1.1.length+([((gl ((0,0,[]):BS) a0 s1.2.toNat).1,((gl ((0,0,[]):BS) a0 s1.2.toNat).2).1,([]:List Int)++(((gl ((0,0,[]):BS) a0 s1.2.toNat).2).2))]:List BS).length)*40<=140737488355328 then
some (Sum.inl ((s1.1++([((gl ((0,0,[]):BS) a0 s1.2.toNat).1,((gl ((0,0,[]):BS) a0 s1.2.toNat).2).1,([]:List Int)++(((gl ((0,0,[]):BS) a0 s1.2.toNat).2).2))]:List BS),AG (s1.2+1))))
else none
else none
else none
else some (Sum.inr (s1.1))) (([],0))
@[reducible] def IH:FnI:={ ps:=[⟨O8,false,false,false⟩],rs:=[⟨O8,false,true,false⟩],os:=[],bk:=[],F:=fun x=>DS x }
def eO:Cx:={ nm:=[(5,(3,1)),(11,(2,1)),(19,(4,1)),(21,(5,1)),(22,(6,1))],AL:=[22],fns:=BA [],loops:=[(0,{ live:=[(3,⟨O8,false,true,false⟩),(8,⟨(.int .i64),false,false,false⟩)],boxes:=[],rows:=[],dead:=FU [(5,1),(9,15)],lost:=[],base:=1 })],AO:=[],tb:=A8,exts:=[],lets:=[] }
theorem LK:CV 125 IH:=okW eO [.tmp 2] 25 6 (BB AN.nil A3.nil) Tryz.func125
def FN (a0:V8):Option V8:=
if (([]:List Bool).length+a0.1.length)*1<=140737488355328 then
if (([]:List (BitVec 64)).length+a0.2.length)*8<=140737488355328 then
some ((([]:List Bool)++a0.1,([]:List (BitVec 64))++a0.2))
else none
else none
@[reducible] def II:FnI:={ ps:=[⟨pJ,true,false,false⟩],rs:=[⟨pJ,true,true,false⟩],os:=[],bk:=[],F:=fun x=>FN x }
def eP:Cx:={ nm:=[(1,(2,1)),(2,(3,1)),(5,(4,1)),(8,(5,1))],AL:=[5,8],fns:=BA [],loops:=[],AO:=[],tb:=A8,exts:=[],lets:=[] }
theorem LL:CV 126 II:=okW eP [.cell 2 37] 10 4 (BB AN.nil A3.nil) Tryz.func126
def BL (a0:CU):Option CU:=
if (([]:List AX).length+a0.1.2.1.length)*32<=140737488355328 then
Option.bind (DO a0.2.1) (fun r1=>
Option.bind (DR a0.2.2.1) (fun r2=>
Option.bind (DS a0.2.2.2.2.1) (fun r3=>
Option.bind (FN a0.2.2.2.2.2.1) (fun r4=>
some (((a0.1.1,([]:List AX)++a0.1.2.1,a0.1.2.2),r1,r2,a0.2.2.2.1,r3,r4,a0.2.2.2.2.2.2))))))
else none
@[reducible] def DG:FnI:={ ps:=[⟨D4,true,false,false⟩],rs:=[⟨D4,true,true,false⟩],os:=[],bk:=[],F:=fun x=>BL x }
def eQ:Cx:={ nm:=[(1,(7,1)),(2,(8,1)),(3,(9,1)),(8,(10,1)),(13,(11,2)),(17,(13,1)),(21,(14,1)),(25,(15,2))],AL:=[8],fns:=BA [(13,GG),(30,MG),(125,IH),(126,II)],loops:=[],AO:=[],tb:=A8,exts:=[],lets:=[] }
theorem DT:CV 96 DG:=okW eQ [.cell 2 41] 28 10 (BB (.cons HR (.cons QR (.cons LK (.cons LL AN.nil)))) A3.nil) Tryz.func96
def FO (a0:V8):Option (List Int):=
AM (σ:=FC) (β:=(List Int)) (fun s1=>
if s1.2<(a0.1.length:Int) then
if 0<=s1.2/\s1.2<(a0.1.length:Int) then
if (gl (false:Bool) a0.1 s1.2.toNat)=true then
if (s1.1.length+([AG (s1.2+1)]:List Int).length)*8<=140737488355328 then
some (Sum.inl ((s1.1++([AG (s1.2+1)]:List Int),AG (s1.2+1))))
else none
else some (Sum.inl ((s1.1,AG (s1.2+1))))
else none
else some (Sum.inr (s1.1))) (([],0))
@[reducible] def IJ:FnI:={ ps:=[⟨pJ,true,false,false⟩],rs:=[⟨H0,false,true,false⟩],os:=[],bk:=[],F:=fun x=>FO x }
def eR:Cx:={ nm:=[(1,(2,1)),(18,(4,1)),(19,(5,1))],AL:=[19],fns:=BA [],loops:=[(0,{ live:=[(3,⟨H0,false,true,false⟩),(9,⟨(.int .i64),false,false,false⟩)],boxes:=[],rows:=[],dead:=FU [(4,2),(10,11)],lost:=[],base:=3 })],AO:=[],tb:=A8,exts:=[],lets:=[] }
theorem LM:CV 137 IJ:=okW eR [.tmp 2] 22 4 (BB AN.nil A3.nil) Tryz.func137
def HD (a0:CE) (a1:V8) (a2:(List AE)):Option (List Int):=
Option.bind (FO a1) (fun r1=>
AM (σ:=FC) (β:=(List Int)) (fun s1=>
if s1.2<(r1.length:Int) then
if 0<=s1.2/\s1.2<(r1.length:Int) then
if 0<=(AG ((gl (0:Int) r1 s1.2.toNat)-1))/\(AG ((gl (0:Int) r1 s1.2.toNat)-1))<(a1.2.length:Int) then
Option.bind (C6 a0 a2 (gl (0#64:(BitVec 64)) a1.2 ((AG ((gl (0:Int) r1 s1.2.toNat)-1)).toNat))) (fun r2=>
if r2=true then
if (s1.1.length+([gl (0:Int) r1 s1.2.toNat]:List Int).length)*8<=140737488355328 then
some (Sum.inl ((s1.1++([gl (0:Int) r1 s1.2.toNat]:List Int),AG (s1.2+1))))
else none
else some (Sum.inl ((s1.1,AG (s1.2+1)))))
else none
else none
else some (Sum.inr (s1.1))) (([],0)))
@[reducible] def OO:FnI:={ ps:=[⟨CN,true,false,false⟩,⟨pJ,true,false,false⟩,⟨LC,false,false,false⟩],rs:=[⟨H0,false,true,false⟩],os:=[],bk:=[],F:=fun x=>HD x.1 x.2.1 x.2.2 }
def XI:Cx:={ nm:=[(3,(5,1)),(4,(6,1)),(11,(7,1)),(28,(9,1)),(29,(10,1))],AL:=[29],fns:=BA [(137,IJ),(169,HC)],loops:=[(0,{ live:=[(7,⟨H0,false,true,false⟩),(13,⟨(.int .i64),false,false,false⟩)],boxes:=[],rows:=[],dead:=FU [(9,1),(14,17)],lost:=[],base:=8 })],AO:=[],tb:=A8,exts:=[],lets:=[] }
theorem WE:CV 160 OO:=okW XI [.tmp 6] 32 6 (BB (.cons LM (.cons JG AN.nil)) A3.nil) Tryz.func160
def F3 (a0:CE) (a1:(List AE)):Option (List Int):=
AM (σ:=FC) (β:=(List Int)) (fun s1=>
if s1.2<(a0.2.2.length:Int) then
if 0<=s1.2/\s1.2<(a0.2.2.length:Int) then
AM (σ:=FC) (β:=(FC ⊕ (List Int))) (fun s2=>
if s2.2<(a1.length:Int) then
if 0<=s2.2/\s2.2<(a1.length:Int) then
if ((gl ((0,0,0):A4) a0.2.2 s1.2.toNat).1)=((gl ((0,0,0,0,0):AE) a1 s2.2.toNat).1) then
if (s2.1.length+([s1.2]:List Int).length)*8<=140737488355328 then
some (Sum.inr (Sum.inl ((s2.1++([s1.2]:List Int),AG (s1.2+1)))))
else none
else some (Sum.inl ((s2.1,AG (s2.2+1))))
else none
else some (Sum.inr (Sum.inl ((s2.1,AG (s1.2+1)))))) ((s1.1,0))
else none
else some (Sum.inr (s1.1))) (([],0))
@[reducible] def KE:FnI:={ ps:=[⟨CN,true,false,false⟩,⟨LC,false,false,false⟩],rs:=[⟨H0,false,true,false⟩],os:=[],bk:=[],F:=fun x=>F3 x.1 x.2 }
def Y6:Cx:={ nm:=[(2,(3,1)),(7,(5,1)),(9,(7,1)),(31,(8,1)),(32,(9,1))],AL:=[32],fns:=BA [],loops:=[(0,{ live:=[(5,⟨H0,false,true,false⟩),(13,⟨(.int .i64),false,false,false⟩)],boxes:=[],rows:=[],dead:=FU [(6,2),(9,1),(14,21)],lost:=[],base:=4 }),(2,{ live:=[(5,⟨H0,false,true,false⟩),(20,⟨(.int .i64),false,false,false⟩)],boxes:=[],rows:=[],dead:=FU [(9,1),(21,13)],lost:=[4],base:=6 })],AO:=[],tb:=A8,exts:=[],lets:=[] }
theorem OP:CV 171 KE:=okW Y6 [.tmp 4] 36 7 (BB AN.nil A3.nil) Tryz.func171
def D2 (a0:(List Int)) (a1:Int):Option Bool:=
AM (σ:=Int) (β:=Bool) (fun s1=>
if s1<(a0.length:Int) then
if 0<=s1/\s1<(a0.length:Int) then
if (gl (0:Int) a0 s1.toNat)=a1 then
some (Sum.inr (true))
else some (Sum.inl (AG (s1+1)))
else none
else some (Sum.inr (false))) (0)
@[reducible] def OQ:FnI:={ ps:=[⟨H0,false,false,false⟩,⟨(.int .i64),false,false,false⟩],rs:=[⟨.bool,false,true,false⟩],os:=[],bk:=[],F:=fun x=>D2 x.1 x.2 }
def kL:Cx:={ nm:=[],AL:=[],fns:=BA [],loops:=[(0,{ live:=[(9,⟨(.int .i64),false,false,false⟩)],boxes:=[],rows:=[],dead:=[4,6,10,11,12,13,14,15,16],lost:=[],base:=1 })],AO:=[],tb:=A8,exts:=[],lets:=[] }
theorem TP:CV 176 OQ:=okW kL [.tmp 4] 17 0 (BB AN.nil A3.nil) Tryz.func176
def DU (a0:(List Int)) (a1:Int):Option (List Int):=
AM (σ:=Int) (β:=(List Int)) (fun s1=>
if s1<(a0.length:Int) then
if 0<=s1/\s1<(a0.length:Int) then
if (gl (0:Int) a0 s1.toNat)<a1 then
some (Sum.inl (AG (s1+1)))
else Option.map Sum.inr (if s1<(a0.length:Int) then
if 0<=s1/\s1<(a0.length:Int) then
if (gl (0:Int) a0 s1.toNat)=a1 then
some (a0)
else if Bd none (some s1) s1.toNat a0.length then
if (([]:List Int).length+(BX a0 0 (s1.toNat-0)).length)*8<=140737488355328 then
if ((([]:List Int)++(BX a0 0 (s1.toNat-0))).length+([a1]:List Int).length)*8<=140737488355328 then
if Bd (some s1) none a0.length a0.length then
if (((([]:List Int)++(BX a0 0 (s1.toNat-0)))++([a1]:List Int)).length+(BX a0 s1.toNat (a0.length-s1.toNat)).length)*8<=140737488355328 then
some (((([]:List Int)++(BX a0 0 (s1.toNat-0)))++([a1]:List Int))++(BX a0 s1.toNat (a0.length-s1.toNat)))
else none
else none
else none
else none
else none
else none
else if Bd none (some s1) s1.toNat a0.length then
if (([]:List Int).length+(BX a0 0 (s1.toNat-0)).length)*8<=140737488355328 then
if ((([]:List Int)++(BX a0 0 (s1.toNat-0))).length+([a1]:List Int).length)*8<=140737488355328 then
if Bd (some s1) none a0.length a0.length then
if (((([]:List Int)++(BX a0 0 (s1.toNat-0)))++([a1]:List Int)).length+(BX a0 s1.toNat (a0.length-s1.toNat)).length)*8<=140737488355328 then
some (((([]:List Int)++(BX a0 0 (s1.toNat-0)))++([a1]:List Int))++(BX a0 s1.toNat (a0.length-s1.toNat)))
else none
else none
else none
else none
else none)
else none
else Option.map Sum.inr (if s1<(a0.length:Int) then
if 0<=s1/\s1<(a0.length:Int) then
if (gl (0:Int) a0 s1.toNat)=a1 then
some (a0)
else if Bd none (some s1) s1.toNat a0.length then
if (([]:List Int).length+(BX a0 0 (s1.toNat-0)).length)*8<=140737488355328 then
if ((([]:List Int)++(BX a0 0 (s1.toNat-0))).length+([a1]:List Int).length)*8<=140737488355328 then
if Bd (some s1) none a0.length a0.length then
if (((([]:List Int)++(BX a0 0 (s1.toNat-0)))++([a1]:List Int)).length+(BX a0 s1.toNat (a0.length-s1.toNat)).length)*8<=140737488355328 then
some (((([]:List Int)++(BX a0 0 (s1.toNat-0)))++([a1]:List Int))++(BX a0 s1.toNat (a0.length-s1.toNat)))
else none
else none
else none
else none
else none
else none
else if Bd none (some s1) s1.toNat a0.length then
if (([]:List Int).length+(BX a0 0 (s1.toNat-0)).length)*8<=140737488355328 then
if ((([]:List Int)++(BX a0 0 (s1.toNat-0))).length+([a1]:List Int).length)*8<=140737488355328 then
if Bd (some s1) none a0.length a0.length then
if (((([]:List Int)++(BX a0 0 (s1.toNat-0)))++([a1]:List Int)).length+(BX a0 s1.toNat (a0.length-s1.toNat)).length)*8<=140737488355328 then
some (((([]:List Int)++(BX a0 0 (s1.toNat-0)))++([a1]:List Int))++(BX a0 s1.toNat (a0.length-s1.toNat)))
else none
else none
else none
else none
else none)) (0)
@[reducible] def MJ:FnI:={ ps:=[⟨H0,false,false,false⟩,⟨(.int .i64),false,false,false⟩],rs:=[⟨H0,false,false,false⟩],os:=[],bk:=[],F:=fun x=>DU x.1 x.2 }
def eS:Cx:={ nm:=[(36,(1,1)),(37,(2,1)),(40,(3,1)),(41,(4,1)),(44,(5,1)),(45,(6,1))],AL:=[37,41],fns:=BA [],loops:=[(0,{ live:=[(5,⟨(.int .i64),false,false,false⟩)],boxes:=[],rows:=[],dead:=FU [(7,14)],lost:=[],base:=1 })],AO:=[],tb:=A8,exts:=[],lets:=[] }
theorem QW:CV 167 MJ:=okW eS [.tmp 4] 46 6 (BB AN.nil A3.nil) Tryz.func167
def JJ (a0:(List BS)) (a1:(List Int)):Option FC:=
AM (σ:=((List Int)×Int×Int)) (β:=FC) (fun s1=>
if s1.2.2<(a0.length:Int) then
if 0<=s1.2.2/\s1.2.2<(a0.length:Int) then
Option.bind (D2 a1 (((gl ((0,0,[]):BS) a0 s1.2.2.toNat).2).1)) (fun r1=>
if r1=true then
Option.bind (D2 a1 ((gl ((0,0,[]):BS) a0 s1.2.2.toNat).1)) (fun r2=>
if (!r2)=true then
AM (σ:=FC) (β:=(((List Int)×Int×Int) ⊕ FC)) (fun s2=>
if s2.2<((((gl ((0,0,[]):BS) a0 s1.2.2.toNat).2).2).length:Int) then
if 0<=s2.2/\s2.2<((((gl ((0,0,[]):BS) a0 s1.2.2.toNat).2).2).length:Int) then
Option.bind (DU s2.1 (gl (0:Int) (((gl ((0,0,[]):BS) a0 s1.2.2.toNat).2).2) s2.2.toNat)) (fun r3=>
some (Sum.inl ((r3,AG (s2.2+1)))))
else none
else some (Sum.inr (Sum.inl ((s2.1,AG (s1.2.1+((((gl ((0,0,[]):BS) a0 s1.2.2.toNat).2).2).length:Int)),AG (s1.2.2+1)))))) ((s1.1,0))
else some (Sum.inl ((s1.1,s1.2.1,AG (s1.2.2+1)))))
else some (Sum.inl ((s1.1,s1.2.1,AG (s1.2.2+1)))))
else none
else some (Sum.inr ((s1.1,s1.2.1)))) (([],0,0))
@[reducible] def R9:FnI:={ ps:=[⟨O8,false,false,false⟩,⟨H0,false,false,false⟩],rs:=[⟨H0,false,false,false⟩,⟨(.int .i64),false,false,false⟩],os:=[],bk:=[],F:=fun x=>JJ x.1 x.2 }
def eT:Cx:={ nm:=[(9,(4,1)),(17,(3,1)),(43,(6,1))],AL:=[],fns:=BA [(167,MJ),(176,OQ)],loops:=[(0,{ live:=[(6,⟨H0,false,false,false⟩),(7,⟨(.int .i64),false,false,false⟩),(14,⟨(.int .i64),false,false,false⟩)],boxes:=[],rows:=[],dead:=FU [(9,1),(11,1),(15,31)],lost:=[],base:=2 }),(2,{ live:=[(6,⟨H0,false,false,false⟩),(37,⟨(.int .i64),false,false,false⟩)],boxes:=[],rows:=[],dead:=FU [(11,1),(38,7)],lost:=[],base:=5 })],AO:=[],tb:=A8,exts:=[],lets:=[] }
theorem a9:CV 170 R9:=okW eT [.tmp 4,.tmp 5] 48 5 (BB (.cons QW (.cons TP AN.nil)) A3.nil) Tryz.func170
def HE (a0:CE) (a1:(List BS)) (a2:(List AE)):Option FC:=
Option.bind (F3 a0 a2) (fun r1=>
Option.bind (JJ a1 r1) (fun r2=>
AM (σ:=FC) (β:=FC) (fun s1=>
if s1.2<(r2.1.length:Int) then
if 0<=s1.2/\s1.2<(r2.1.length:Int) then
if (gl (0:Int) r2.1 s1.2.toNat)<(a0.2.1.length:Int) then
if 0<=(gl (0:Int) r2.1 s1.2.toNat)/\(gl (0:Int) r2.1 s1.2.toNat)<(a0.2.1.length:Int) then
Option.bind (C6 a0 a2 (gl (0#64:(BitVec 64)) a0.2.1 ((gl (0:Int) r2.1 s1.2.toNat).toNat))) (fun r3=>
if r3=true then
if (s1.1.length+([gl (0:Int) r2.1 s1.2.toNat]:List Int).length)*8<=140737488355328 then
some (Sum.inl ((s1.1++([gl (0:Int) r2.1 s1.2.toNat]:List Int),AG (s1.2+1))))
else none
else some (Sum.inl ((s1.1,AG (s1.2+1)))))
else none
else some (Sum.inl ((s1.1,AG (s1.2+1))))
else none
else some (Sum.inr ((s1.1,r2.2)))) (([],0))))
@[reducible] def OR:FnI:={ ps:=[⟨CN,true,false,false⟩,⟨O8,false,false,false⟩,⟨LC,false,false,false⟩],rs:=[⟨H0,false,true,false⟩,⟨(.int .i64),false,true,false⟩],os:=[],bk:=[],F:=fun x=>HE x.1 x.2.1 x.2.2 }
def XJ:Cx:={ nm:=[(3,(4,1)),(17,(5,1)),(18,(6,1)),(44,(8,1)),(45,(9,1))],AL:=[45],fns:=BA [(169,HC),(170,R9),(171,KE)],loops:=[(0,{ live:=[(10,⟨H0,false,true,false⟩),(23,⟨(.int .i64),false,false,false⟩)],boxes:=[],rows:=[],dead:=FU [(12,1),(24,23)],lost:=[],base:=7 })],AO:=[],tb:=A8,exts:=[],lets:=[] }
theorem WG:CV 161 OR:=okW XJ [.tmp 6,.tmp 7] 49 6 (BB (.cons JG (.cons a9 (.cons OP AN.nil))) A3.nil) Tryz.func161
def JK (a0:(List BS)) (a1:(List Int)):Option (List BS):=
Option.bind (DS a0) (fun r1=>
AM (σ:=((List BS)×Int)) (β:=(List BS)) (fun s1=>
if s1.2<(r1.length:Int) then
if 0<=s1.2/\s1.2<(r1.length:Int) then
Option.bind (D2 a1 ((gl ((0,0,[]):BS) r1 s1.2.toNat).1)) (fun r2=>
if (!r2)=true then
Option.bind (D2 a1 (((gl ((0,0,[]):BS) r1 s1.2.toNat).2).1)) (fun r3=>
if (!r3)=true then
if (s1.1.length+([((gl ((0,0,[]):BS) r1 s1.2.toNat).1,((gl ((0,0,[]):BS) r1 s1.2.toNat).2))]:List BS).length)*40<=140737488355328 then
some (Sum.inl ((s1.1++([((gl ((0,0,[]):BS) r1 s1.2.toNat).1,((gl ((0,0,[]):BS) r1 s1.2.toNat).2))]:List BS),AG (s1.2+1))))
else none
else some (Sum.inl ((s1.1,AG (s1.2+1)))))
else some (Sum.inl ((s1.1,AG (s1.2+1)))))
else none
else some (Sum.inr (s1.1))) (([],0)))
@[reducible] def R_:FnI:={ ps:=[⟨O8,false,false,false⟩,⟨H0,false,false,false⟩],rs:=[⟨O8,false,true,false⟩],os:=[],bk:=[],F:=fun x=>JK x.1 x.2 }
def eU:Cx:={ nm:=[(7,(5,1)),(9,(2,1)),(14,(4,1)),(29,(6,1)),(30,(7,1))],AL:=[30],fns:=BA [(125,IH),(176,OQ)],loops:=[(0,{ live:=[(5,⟨O8,false,true,false⟩),(11,⟨(.int .i64),false,false,false⟩)],boxes:=[],rows:=[],dead:=FU [(7,1),(12,20)],lost:=[],base:=3 })],AO:=[],tb:=A8,exts:=[],lets:=[] }
theorem a_:CV 174 R_:=okW eU [.tmp 4] 33 6 (BB (.cons LK (.cons TP AN.nil)) A3.nil) Tryz.func174
def JL (a0:CE) (a1:Int) (a2:(BitVec 64)):Option (Int×Int×Bool):=
if a2=(0#64) then
some ((0,0,false))
else if a2.toNat>(BitVec.ofInt 64 (a0.2.1.length:Int)).toNat then
some ((0,0,false))
else if a1<0 then
some ((0,0,false))
else if a1≥(a0.2.1.length:Int) then
some ((0,0,false))
else if True then
if True then
if 0<=(a1 / 2 ^ min (BitVec.ofInt 64 a0.1).toNat 64)/\(a1 / 2 ^ min (BitVec.ofInt 64 a0.1).toNat 64)<(a0.2.2.length:Int) then
if 0<=((AG (((a2-(1#64)).toNat:Int))) / 2 ^ min (BitVec.ofInt 64 a0.1).toNat 64)/\((AG (((a2-(1#64)).toNat:Int))) / 2 ^ min (BitVec.ofInt 64 a0.1).toNat 64)<(a0.2.2.length:Int) then
if ¬((gl ((0,0,0):A4) a0.2.2 ((a1 / 2 ^ min (BitVec.ofInt 64 a0.1).toNat 64).toNat)).1)=(-1) then
if ¬((gl ((0,0,0):A4) a0.2.2 (((AG (((a2-(1#64)).toNat:Int))) / 2 ^ min (BitVec.ofInt 64 a0.1).toNat 64).toNat)).1)=(-1) then
some ((a1 / 2 ^ min (BitVec.ofInt 64 a0.1).toNat 64,(AG (((a2-(1#64)).toNat:Int))) / 2 ^ min (BitVec.ofInt 64 a0.1).toNat 64,decide ((((gl ((0,0,0):A4) a0.2.2 ((a1 / 2 ^ min (BitVec.ofInt 64 a0.1).toNat 64).toNat)).2).1)>(((gl ((0,0,0):A4) a0.2.2 (((AG (((a2-(1#64)).toNat:Int))) / 2 ^ min (BitVec.ofInt 64 a0.1).toNat 64).toNat)).2).1))))
else some ((a1 / 2 ^ min (BitVec.ofInt 64 a0.1).toNat 64,(AG (((a2-(1#64)).toNat:Int))) / 2 ^ min (BitVec.ofInt 64 a0.1).toNat 64,false))
else some ((a1 / 2 ^ min (BitVec.ofInt 64 a0.1).toNat 64,(AG (((a2-(1#64)).toNat:Int))) / 2 ^ min (BitVec.ofInt 64 a0.1).toNat 64,false))
else none
else none
else none
else none
@[reducible] def SA:FnI:={ ps:=[⟨CN,true,false,false⟩,⟨(.int .i64),false,false,false⟩,⟨.u64,false,false,false⟩],rs:=[⟨(.int .i64),false,true,false⟩,⟨(.int .i64),false,true,false⟩,⟨.bool,false,true,false⟩],os:=[],bk:=[],F:=fun x=>JL x.1 x.2.1 x.2.2 }
def eV:Cx:={ nm:=[(3,(2,1)),(11,(3,1)),(12,(4,1))],AL:=[],fns:=BA [],loops:=[],AO:=[],tb:=A8,exts:=[],lets:=[] }
theorem bA:CV 156 SA:=okW eV [.tmp 6,.tmp 7,.tmp 8] 73 3 (BB AN.nil A3.nil) Tryz.func156
def EU (a0:BS) (a1:BS):Option Bool:=
if a0.1<a1.1 then
some (true)
else if a0.1=a1.1 then
some (decide (a0.2.1<a1.2.1))
else some (false)
@[reducible] def PC:FnI:={ ps:=[⟨AN0,true,false,false⟩,⟨AN0,true,false,false⟩],rs:=[⟨.bool,false,true,false⟩],os:=[],bk:=[],F:=fun x=>EU x.1 x.2 }
def Y7:Cx:={ nm:=[(2,(2,1)),(3,(3,1))],AL:=[],fns:=BA [],loops:=[],AO:=[],tb:=A8,exts:=[],lets:=[] }
theorem XK:CV 166 PC:=okW Y7 [.tmp 4] 24 2 (BB AN.nil A3.nil) Tryz.func166
def HS (a0:(List BS)) (a1:Int) (a2:Int) (a3:Int):Option (List BS):=
AM (σ:=Int) (β:=(List BS)) (fun s1=>
if s1<(a0.length:Int) then
if 0<=s1/\s1<(a0.length:Int) then
Option.bind (EU ((gl ((0,0,[]):BS) a0 s1.toNat).1,((gl ((0,0,[]):BS) a0 s1.toNat).2)) (a1,a2,[])) (fun r1=>
if r1=true then
some (Sum.inl (AG (s1+1)))
else Option.map Sum.inr (Option.bind (DS a0) (fun r2=>
if s1<(a0.length:Int) then
if 0<=s1/\s1<(a0.length:Int) then
Option.bind (EU (a1,a2,[]) ((gl ((0,0,[]):BS) a0 s1.toNat).1,((gl ((0,0,[]):BS) a0 s1.toNat).2))) (fun r3=>
if (!r3)=true then
if 0<=s1/\s1<(a0.length:Int) then
Option.bind (DU (((gl ((0,0,[]):BS) a0 s1.toNat).2).2) a3) (fun r4=>
if 0<=s1/\s1<(r2.length:Int) then
some (r2.set s1.toNat ((gl ((0,0,[]):BS) r2 s1.toNat).1,((gl ((0,0,[]):BS) r2 s1.toNat).2).1,r4))
else none)
else none
else if Bd (some s1) none r2.length r2.length then
if (([]:List BS).length+(BX r2 s1.toNat (r2.length-s1.toNat)).length)*40<=140737488355328 then
if Bd none (some s1) s1.toNat r2.length then
if ((BX r2 0 (s1.toNat-0)).length+([(a1,a2,([a3]:List Int))]:List BS).length)*40<=140737488355328 then
if (((BX r2 0 (s1.toNat-0))++([(a1,a2,([a3]:List Int))]:List BS)).length+(([]:List BS)++(BX r2 s1.toNat (r2.length-s1.toNat))).length)*40<=140737488355328 then
some (((BX r2 0 (s1.toNat-0))++([(a1,a2,([a3]:List Int))]:List BS))++(([]:List BS)++(BX r2 s1.toNat (r2.length-s1.toNat))))
else none
else none
else none
else none
else none)
else none
else if Bd (some s1) none r2.length r2.length then
if (([]:List BS).length+(BX r2 s1.toNat (r2.length-s1.toNat)).length)*40<=140737488355328 then
if Bd none (some s1) s1.toNat r2.length then
if ((BX r2 0 (s1.toNat-0)).length+([(a1,a2,([a3]:List Int))]:List BS).length)*40<=140737488355328 then
if (((BX r2 0 (s1.toNat-0))++([(a1,a2,([a3]:List Int))]:List BS)).length+(([]:List BS)++(BX r2 s1.toNat (r2.length-s1.toNat))).length)*40<=140737488355328 then
some (((BX r2 0 (s1.toNat-0))++([(a1,a2,([a3]:List Int))]:List BS))++(([]:List BS)++(BX r2 s1.toNat (r2.length-s1.toNat))))
else none
else none
else none
else none
else none)))
else none
else Option.map Sum.inr (Option.bind (DS a0) (fun r5=>
if s1<(a0.length:Int) then
if 0<=s1/\s1<(a0.length:Int) then
Option.bind (EU (a1,a2,[]) ((gl ((0,0,[]):BS) a0 s1.toNat).1,((gl ((0,0,[]):BS) a0 s1.toNat).2))) (fun r6=>
if (!r6)=true then
if 0<=s1/\s1<(a0.length:Int) then
Option.bind (DU (((gl ((0,0,[]):BS) a0 s1.toNat).2).2) a3) (fun r7=>
if 0<=s1/\s1<(r5.length:Int) then
some (r5.set s1.toNat ((gl ((0,0,[]):BS) r5 s1.toNat).1,((gl ((0,0,[]):BS) r5 s1.toNat).2).1,r7))
else none)
else none
else if Bd (some s1) none r5.length r5.length then
if (([]:List BS).length+(BX r5 s1.toNat (r5.length-s1.toNat)).length)*40<=140737488355328 then
if Bd none (some s1) s1.toNat r5.length then
if ((BX r5 0 (s1.toNat-0)).length+([(a1,a2,([a3]:List Int))]:List BS).length)*40<=140737488355328 then
if (((BX r5 0 (s1.toNat-0))++([(a1,a2,([a3]:List Int))]:List BS)).length+(([]:List BS)++(BX r5 s1.toNat (r5.length-s1.toNat))).length)*40<=140737488355328 then
some (((BX r5 0 (s1.toNat-0))++([(a1,a2,([a3]:List Int))]:List BS))++(([]:List BS)++(BX r5 s1.toNat (r5.length-s1.toNat))))
else none
else none
else none
else none
else none)
else none
else if Bd (some s1) none r5.length r5.length then
if (([]:List BS).length+(BX r5 s1.toNat (r5.length-s1.toNat)).length)*40<=140737488355328 then
if Bd none (some s1) s1.toNat r5.length then
if ((BX r5 0 (s1.toNat-0)).length+([(a1,a2,([a3]:List Int))]:List BS).length)*40<=140737488355328 then
if (((BX r5 0 (s1.toNat-0))++([(a1,a2,([a3]:List Int))]:List BS)).length+(([]:List BS)++(BX r5 s1.toNat (r5.length-s1.toNat))).length)*40<=140737488355328 then
some (((BX r5 0 (s1.toNat-0))++([(a1,a2,([a3]:List Int))]:List BS))++(([]:List BS)++(BX r5 s1.toNat (r5.length-s1.toNat))))
else none
else none
else none
else none
else none))) (0)
@[reducible] def TQ:FnI:={ ps:=[⟨O8,false,false,false⟩,⟨(.int .i64),false,false,false⟩,⟨(.int .i64),false,false,false⟩,⟨(.int .i64),false,false,false⟩],rs:=[⟨O8,false,true,false⟩],os:=[],bk:=[],F:=fun x=>HS x.1 x.2.1 x.2.2.1 x.2.2.2 }
def iK:Cx:={ nm:=[(9,(1,1)),(24,(2,1)),(31,(3,1)),(41,(4,1)),(51,(5,1)),(53,(6,1)),(58,(7,1)),(63,(8,1)),(68,(9,1)),(69,(10,1)),(71,(11,1))],AL:=[69,71],fns:=BA [(125,IH),(166,PC),(167,MJ)],loops:=[(0,{ live:=[(10,⟨(.int .i64),false,false,false⟩)],boxes:=[],rows:=[],dead:=FU [(16,14)],lost:=[],base:=2 })],AO:=[],tb:=A8,exts:=[],lets:=[] }
theorem eW:CV 157 TQ:=okW iK [.tmp 8] 72 11 (BB (.cons LK (.cons XK (.cons QW AN.nil))) A3.nil) Tryz.func157
def CH (a0:CE) (a1:(List BS)) (a2:Int) (a3:(BitVec 64)):Option ((List BS)×M3×(List A4)):=
Option.bind (JL a0 a2 a3) (fun r1=>
if (!r1.2.2)=true then
some ((a1,a0.2.1,a0.2.2))
else Option.bind (HS a1 r1.1 r1.2.1 a2) (fun r2=>
some ((r2,a0.2.1,a0.2.2))))
@[reducible] def MK:FnI:={ ps:=[⟨CN,true,true,false⟩,⟨O8,false,true,false⟩,⟨(.int .i64),false,false,false⟩,⟨.u64,false,false,false⟩],rs:=[⟨O8,false,true,false⟩],os:=[⟨YS,false,true,false⟩,⟨oJ,false,true,false⟩],bk:=[0,1],F:=fun x=>CH x.1 x.2.1 x.2.2.1 x.2.2.2 }
def eX:Cx:={ nm:=[(4,(3,1)),(27,(4,1))],AL:=[],fns:=BA [(156,SA),(157,TQ)],loops:=[],AO:=[],tb:=A8,exts:=[],lets:=[] }
theorem QX:CV 146 MK:=okW eX [.tmp 8] 28 2 (BB (.cons bA (.cons eW AN.nil)) A3.nil) Tryz.func146
def GH (a0:CE) (a1:(List BS)) (a2:(List AE)) (a3:(List Int)) (a4:(List (Int×Int))):Option ((List BS)×M3×(List A4)):=
Option.bind (F3 a0 a2) (fun r1=>
Option.bind (JK a1 r1) (fun r2=>
AM (σ:=((List BS)×Int×M3×(List A4))) (β:=((List BS)×M3×(List A4))) (fun s1=>
if s1.2.1<(a3.length:Int) then
if 0<=s1.2.1/\s1.2.1<(a3.length:Int) then
if 0<=(gl (0:Int) a3 s1.2.1.toNat)/\(gl (0:Int) a3 s1.2.1.toNat)<(s1.2.2.1.length:Int) then
Option.bind (CH (a0.1,s1.2.2) s1.1 (gl (0:Int) a3 s1.2.1.toNat) (gl (0#64:(BitVec 64)) s1.2.2.1 ((gl (0:Int) a3 s1.2.1.toNat).toNat))) (fun r3=>
some (Sum.inl ((r3.1,AG (s1.2.1+1),r3.2.1,r3.2.2))))
else none
else none
else Option.map Sum.inr (AM (σ:=((List BS)×Int×M3×(List A4))) (β:=((List BS)×M3×(List A4))) (fun s2=>
if s2.2.1<(a4.length:Int) then
if 0<=s2.2.1/\s2.2.1<(a4.length:Int) then
Option.bind (CC (a0.1,s2.2.2) ((gl ((0,0):(Int×Int)) a4 s2.2.1.toNat).2)) (fun r4=>
AM (σ:=((List BS)×Int×M3×(List A4))) (β:=(((List BS)×Int×M3×(List A4)) ⊕ ((List BS)×M3×(List A4)))) (fun s3=>
if s3.2.1<(r4.1.length:Int) then
if 0<=s3.2.1/\s3.2.1<(r4.1.length:Int) then
if 0<=(gl (0:Int) r4.1 s3.2.1.toNat)/\(gl (0:Int) r4.1 s3.2.1.toNat)<(s3.2.2.1.length:Int) then
Option.bind (CH (a0.1,s3.2.2) s3.1 (gl (0:Int) r4.1 s3.2.1.toNat) (gl (0#64:(BitVec 64)) s3.2.2.1 ((gl (0:Int) r4.1 s3.2.1.toNat).toNat))) (fun r5=>
some (Sum.inl ((r5.1,AG (s3.2.1+1),r5.2.1,r5.2.2))))
else none
else none
else some (Sum.inr (Sum.inl ((s3.1,AG (s2.2.1+1),s3.2.2.1,s3.2.2.2))))) ((s2.1,0,s2.2.2.1,s2.2.2.2)))
else none
else some (Sum.inr ((s2.1,s2.2.2.1,s2.2.2.2)))) ((s1.1,0,s1.2.2.1,s1.2.2.2)))) ((r2,0,a0.2.1,a0.2.2))))
@[reducible] def QY:FnI:={ ps:=[⟨CN,true,true,false⟩,⟨O8,false,false,false⟩,⟨LC,false,false,false⟩,⟨H0,false,false,false⟩,⟨(.slice AHJ),false,false,false⟩],rs:=[⟨O8,false,true,false⟩],os:=[⟨YS,false,true,false⟩,⟨oJ,false,true,false⟩],bk:=[0,1],F:=fun x=>GH x.1 x.2.1 x.2.2.1 x.2.2.2.1 x.2.2.2.2 }
def bB:Cx:={ nm:=[(5,(6,1)),(15,(12,1)),(23,(7,1)),(24,(8,1)),(39,(10,1)),(51,(13,1)),(68,(15,1))],AL:=[],fns:=BA [(146,MK),(171,KE),(173,KD),(174,R_)],loops:=[(0,{ live:=[(11,⟨O8,false,true,false⟩),(27,⟨(.int .i64),false,false,false⟩)],boxes:=[],rows:=[(0,.u64),(1,gE)],dead:=FU [(13,1),(28,13)],lost:=[8],base:=9 }),(2,{ live:=[(11,⟨O8,false,true,false⟩),(43,⟨(.int .i64),false,false,false⟩)],boxes:=[],rows:=[(0,.u64),(1,gE)],dead:=FU [(15,3),(19,1),(44,27)],lost:=[9],base:=11 }),(4,{ live:=[(11,⟨O8,false,true,false⟩),(56,⟨(.int .i64),false,false,false⟩)],boxes:=[],rows:=[(0,.u64),(1,gE)],dead:=FU [(19,1),(57,13)],lost:=[11],base:=14 })],AO:=[],tb:=A8,exts:=[],lets:=[] }
theorem Y8:CV 163 QY:=okW bB [.tmp 10] 72 10 (BB (.cons QX (.cons OP (.cons ON (.cons a_ AN.nil)))) A3.nil) Tryz.func163
def DV (a0:GC) (a1:Int):Option (GC×Int):=
Option.bind (DR a0) (fun r1=>
AM (σ:=(Int×GC)) (β:=(GC×Int)) (fun s1=>
if s1.1<(r1.length:Int) then
if 0<=s1.1/\s1.1<(s1.2.length:Int) then
AM (σ:=Int) (β:=((Int×GC) ⊕ (GC×Int))) (fun s2=>
if s2<((s1.2.getD s1.1.toNat []).length:Int) then
if 0<=s2/\s2<((s1.2.getD s1.1.toNat []).length:Int) then
if ((gl ((0,0,0,0,0):AE) (s1.2.getD s1.1.toNat []) s2.toNat).1)=a1 then
if Bd none (some s2) s2.toNat ((s1.2.getD s1.1.toNat []).length) then
if Bd (some (AG (s2+1))) none ((s1.2.getD s1.1.toNat []).length) ((s1.2.getD s1.1.toNat []).length) then
if ((BX (s1.2.getD s1.1.toNat []) 0 (s2.toNat-0)).length+(BX (s1.2.getD s1.1.toNat []) ((AG (s2+1)).toNat) (((s1.2.getD s1.1.toNat []).length)-((AG (s2+1)).toNat))).length)*40<=140737488355328 then
if 0<=s1.1/\s1.1<(s1.2.length:Int) then
if s1.1.toNat=s1.1.toNat then
some (Sum.inr (Sum.inr ((s1.2.set s1.1.toNat ((BX (s1.2.getD s1.1.toNat []) 0 (s2.toNat-0))++(BX (s1.2.getD s1.1.toNat []) ((AG (s2+1)).toNat) (((s1.2.getD s1.1.toNat []).length)-((AG (s2+1)).toNat)))),0))))
else none
else none
else none
else none
else none
else some (Sum.inl (AG (s2+1)))
else none
else some (Sum.inr (Sum.inl ((AG (s1.1+1),s1.2.set s1.1.toNat (s1.2.getD s1.1.toNat [])))))) (0)
else none
else some (Sum.inr (([],5)))) ((0,r1)))
@[reducible] def PD:FnI:={ ps:=[⟨IY,false,false,false⟩,⟨(.int .i64),false,false,false⟩],rs:=[⟨IY,false,true,false⟩,⟨(.int .i64),false,true,false⟩],os:=[],bk:=[],F:=fun x=>DV x.1 x.2 }
def Y9:Cx:={ nm:=[(10,(3,1)),(12,(1,1)),(19,(2,1)),(40,(4,1))],AL:=[40],fns:=BA [(13,GG)],loops:=[(0,{ live:=[(15,⟨(.int .i64),false,false,false⟩)],boxes:=[],rows:=[(1,LC)],dead:=FU [(4,2),(7,4),(16,29)],lost:=[],base:=2 }),(2,{ live:=[(22,⟨(.int .i64),false,false,false⟩)],boxes:=[],rows:=[],dead:=FU [(4,2),(9,2),(23,21)],lost:=[],base:=3 })],AO:=[],tb:=A8,exts:=[],lets:=[] }
theorem XL:CV 164 PD:=okW Y9 [.tmp 4,.tmp 5] 45 4 (BB (.cons HR AN.nil) A3.nil) Tryz.func164
def GI (a0:CE) (a1:Int):Option CE:=
AM (σ:=(Int×Int×M3×(List A4))) (β:=CE) (fun s1=>
if s1.2.1<(a0.2.2.length:Int) then
if 0<=s1.2.1/\s1.2.1<(s1.2.2.2.length:Int) then
if ¬((gl ((0,0,0):A4) s1.2.2.2 s1.2.1.toNat).1)=a1 then
some (Sum.inl ((s1.1,AG (s1.2.1+1),s1.2.2.1,s1.2.2.2)))
else if 0<=s1.2.1/\s1.2.1<(s1.2.2.2.length:Int) then
if True then
AM (σ:=(Int×M3)) (β:=((Int×Int×M3×(List A4)) ⊕ CE)) (fun s2=>
if True then
if s2.1<(AG ((AG (s1.2.1+1))*2 ^ min (BitVec.ofInt 64 a0.1).toNat 64)) then
if 0<=s2.1/\s2.1<(s2.2.length:Int) then
some (Sum.inl ((AG (s2.1+1),s2.2.set s2.1.toNat (0#64))))
else none
else some (Sum.inr (Sum.inl ((AG (s1.1+1),AG (s1.2.1+1),s2.2,s1.2.2.2.set s1.2.1.toNat ((-1),(-1),(-1))))))
else none) ((AG (s1.2.1*2 ^ min (BitVec.ofInt 64 a0.1).toNat 64),s1.2.2.1))
else none
else none
else none
else some (Sum.inr ((s1.1,s1.2.2.1,s1.2.2.2)))) ((0,0,a0.2.1,a0.2.2))
@[reducible] def QZ:FnI:={ ps:=[⟨CN,true,true,false⟩,⟨(.int .i64),false,false,false⟩],rs:=[⟨(.int .i64),false,true,false⟩],os:=[⟨YS,false,true,false⟩,⟨oJ,false,true,false⟩],bk:=[0,1],F:=fun x=>GI x.1 x.2 }
def bC:Cx:={ nm:=[(2,(2,1)),(7,(3,1))],AL:=[],fns:=BA [],loops:=[(0,{ live:=[(5,⟨(.int .i64),false,false,false⟩),(12,⟨(.int .i64),false,false,false⟩)],boxes:=[],rows:=[(0,.u64),(1,gE)],dead:=FU [(6,3),(13,35)],lost:=[],base:=3 }),(2,{ live:=[(8,⟨(.int .i64),false,false,false⟩)],boxes:=[],rows:=[(0,.u64)],dead:=FU [(33,14)],lost:=[],base:=4 })],AO:=[],tb:=A8,exts:=[],lets:=[] }
theorem Y_:CV 165 QZ:=okW bC [.tmp 4] 49 2 (BB AN.nil A3.nil) Tryz.func165
def CX (a0:GC) (a1:AE):Option (GC×Int):=
if a1.2.1<0 then
some (([],1))
else if a1.2.1≥(a0.length:Int) then
some (([],1))
else Option.bind (DR a0) (fun r1=>
if 0<=a1.2.1/\a1.2.1<(r1.length:Int) then
AM (σ:=Int) (β:=(GC×Int)) (fun s1=>
if s1<((r1.getD a1.2.1.toNat []).length:Int) then
if 0<=s1/\s1<((r1.getD a1.2.1.toNat []).length:Int) then
if ((gl ((0,0,0,0,0):AE) (r1.getD a1.2.1.toNat []) s1.toNat).1)=a1.1 then
if 0<=a1.2.1/\a1.2.1<(r1.length:Int) then
if a1.2.1.toNat=a1.2.1.toNat then
if 0<=s1/\s1<((r1.getD a1.2.1.toNat []).length:Int) then
some (Sum.inr ((r1.set a1.2.1.toNat ((r1.getD a1.2.1.toNat []).set s1.toNat a1),0)))
else none
else none
else none
else some (Sum.inl (AG (s1+1)))
else none
else some (Sum.inr (([],5)))) (0)
else none)
@[reducible] def JM:FnI:={ ps:=[⟨IY,false,false,false⟩,⟨GX,true,false,false⟩],rs:=[⟨IY,false,true,false⟩,⟨(.int .i64),false,true,false⟩],os:=[],bk:=[],cl:=[(2,GX)],F:=fun x=>CX x.1 x.2 }
def XM:Cx:={ nm:=[(3,(1,1)),(8,(4,1)),(20,(2,1)),(25,(3,1))],AL:=[],fns:=BA [(13,GG)],loops:=[(0,{ live:=[(27,⟨(.int .i64),false,false,false⟩)],boxes:=[],rows:=[],dead:=FU [(4,2),(7,2),(28,19)],lost:=[],base:=4 })],AO:=[],tb:=A8,exts:=[],lets:=[] }
theorem NV:CV 141 JM:=okW XM [.tmp 4,.tmp 5] 47 4 (BB (.cons HR AN.nil) A3.nil) Tryz.func141
def EY (a0:GC) (a1:AE):Option (GC×Int):=
if a1.2.1<0 then
some (([],1))
else if a1.2.1≥(a0.length:Int) then
some (([],1))
else Option.bind (BN a0 a1.2.1) (fun r1=>
if r1.2=true then
if r1.1.1≥a1.1 then
some (([],5))
else Option.bind (DR a0) (fun r2=>
if 0<=a1.2.1/\a1.2.1<(r2.length:Int) then
if ((r2.getD a1.2.1.toNat []).length+([a1]:List AE).length)*40<=140737488355328 then
if 0<=a1.2.1/\a1.2.1<(r2.length:Int) then
if a1.2.1.toNat=a1.2.1.toNat then
some ((r2.set a1.2.1.toNat ((r2.getD a1.2.1.toNat [])++([a1]:List AE)),0))
else none
else none
else none
else none)
else Option.bind (DR a0) (fun r3=>
if 0<=a1.2.1/\a1.2.1<(r3.length:Int) then
if ((r3.getD a1.2.1.toNat []).length+([a1]:List AE).length)*40<=140737488355328 then
if 0<=a1.2.1/\a1.2.1<(r3.length:Int) then
if a1.2.1.toNat=a1.2.1.toNat then
some ((r3.set a1.2.1.toNat ((r3.getD a1.2.1.toNat [])++([a1]:List AE)),0))
else none
else none
else none
else none))
@[reducible] def NM:FnI:={ ps:=[⟨IY,false,false,false⟩,⟨GX,true,false,false⟩],rs:=[⟨IY,false,true,false⟩,⟨(.int .i64),false,true,false⟩],os:=[],bk:=[],F:=fun x=>EY x.1 x.2 }
def iL:Cx:={ nm:=[(3,(1,1)),(6,(2,1)),(35,(3,1)),(43,(4,1)),(45,(5,1)),(46,(6,1))],AL:=[46],fns:=BA [(13,GG),(17,DK)],loops:=[],AO:=[],tb:=A8,exts:=[],lets:=[] }
theorem SB:CV 140 NM:=okW iL [.tmp 4,.tmp 5] 49 6 (BB (.cons HR (.cons EG AN.nil)) A3.nil) Tryz.func140
def B8 (a0:CU) (a1:(List AE)):Option (CU×O7×Int):=
Option.bind (FZ a0 a1) (fun r1=>
if ¬r1.2=0 then
some (((((⟨#[]⟩:ByteArray),[],0),(0,[],[]),[],0,[],([],[]),0,(0,0,0,0,0,0,0,0,0),false),(0,0,0,0),r1.2))
else AM (σ:=(Int×Int×O7)) (β:=(CU×O7×Int)) (fun s1=>
if s1.2.1<(a1.length:Int) then
if 0<=s1.2.1/\s1.2.1<(a1.length:Int) then
Option.bind (BW a0.2.1 ((gl ((0,0,0,0,0):AE) a1 s1.2.1.toNat).1,((gl ((0,0,0,0,0):AE) a1 s1.2.1.toNat).2).1,(((gl ((0,0,0,0,0):AE) a1 s1.2.1.toNat).2).2).1,((((gl ((0,0,0,0,0):AE) a1 s1.2.1.toNat).2).2).2))) (fun r2=>
some (Sum.inl ((AG (s1.1+r2),AG (s1.2.1+1),(AG (s1.2.2.1+(((((gl ((0,0,0,0,0):AE) a1 s1.2.1.toNat).2).2).2).2)),s1.2.2.2)))))
else none
else Option.map Sum.inr (Option.bind (C8 a0.2.1) (fun r3=>
if s1.1>(r3.length:Int) then
some (((((⟨#[]⟩:ByteArray),[],0),(0,[],[]),[],0,[],([],[]),0,(0,0,0,0,0,0,0,0,0),false),(0,0,0,0),4))
else Option.bind (BL a0) (fun r4=>
Option.bind (HD a0.2.1 a0.2.2.2.2.2.1 a1) (fun r5=>
Option.bind (HE a0.2.1 a0.2.2.2.2.1 a1) (fun r6=>
AM (σ:=(M3×Int)) (β:=(CU×O7×Int)) (fun s2=>
if s2.2<(r5.length:Int) then
if 0<=s2.2/\s2.2<(r5.length:Int) then
if 0<=(AG ((gl (0:Int) r5 s2.2.toNat)-1))/\(AG ((gl (0:Int) r5 s2.2.toNat)-1))<(a0.2.2.2.2.2.1.2.length:Int) then
if (s2.1.length+([gl (0#64:(BitVec 64)) a0.2.2.2.2.2.1.2 ((AG ((gl (0:Int) r5 s2.2.toNat)-1)).toNat)]:List (BitVec 64)).length)*8<=140737488355328 then
some (Sum.inl ((s2.1++([gl (0#64:(BitVec 64)) a0.2.2.2.2.2.1.2 ((AG ((gl (0:Int) r5 s2.2.toNat)-1)).toNat)]:List (BitVec 64)),AG (s2.2+1))))
else none
else none
else none
else Option.map Sum.inr (AM (σ:=(M3×Int)) (β:=(CU×O7×Int)) (fun s3=>
if s3.2<(r6.1.length:Int) then
if 0<=s3.2/\s3.2<(r6.1.length:Int) then
if 0<=(gl (0:Int) r6.1 s3.2.toNat)/\(gl (0:Int) r6.1 s3.2.toNat)<(a0.2.1.2.1.length:Int) then
if (s3.1.length+([gl (0#64:(BitVec 64)) a0.2.1.2.1 ((gl (0:Int) r6.1 s3.2.toNat).toNat)]:List (BitVec 64)).length)*8<=140737488355328 then
some (Sum.inl ((s3.1++([gl (0#64:(BitVec 64)) a0.2.1.2.1 ((gl (0:Int) r6.1 s3.2.toNat).toNat)]:List (BitVec 64)),AG (s3.2+1))))
else none
else none
else none
else Option.map Sum.inr (Option.bind (KQ r4.2.1 a1 r1.1 s3.1) (fun r7=>
if ¬r7.2.2.2.1=0 then
some (((((⟨#[]⟩:ByteArray),[],0),(0,[],[]),[],0,[],([],[]),0,(0,0,0,0,0,0,0,0,0),false),(0,0,0,0),r7.2.2.2.1))
else AM (σ:=(Int×M3)) (β:=(CU×O7×Int)) (fun s4=>
if s4.1<(r5.length:Int) then
if 0<=s4.1/\s4.1<(r5.length:Int) then
if 0<=s4.1/\s4.1<(r7.2.2.1.length:Int) then
if 0<=(AG ((gl (0:Int) r5 s4.1.toNat)-1))/\(AG ((gl (0:Int) r5 s4.1.toNat)-1))<(s4.2.length:Int) then
some (Sum.inl ((AG (s4.1+1),s4.2.set ((AG ((gl (0:Int) r5 s4.1.toNat)-1)).toNat) (gl (0#64:(BitVec 64)) r7.2.2.1 s4.1.toNat))))
else none
else none
else none
else Option.map Sum.inr (AM (σ:=(Int×M3)) (β:=(CU×O7×Int)) (fun s5=>
if s5.1<(r6.1.length:Int) then
if 0<=s5.1/\s5.1<(r6.1.length:Int) then
if 0<=(AG ((r5.length:Int)+s5.1))/\(AG ((r5.length:Int)+s5.1))<(r7.2.2.1.length:Int) then
if 0<=(gl (0:Int) r6.1 s5.1.toNat)/\(gl (0:Int) r6.1 s5.1.toNat)<(s5.2.length:Int) then
some (Sum.inl ((AG (s5.1+1),s5.2.set ((gl (0:Int) r6.1 s5.1.toNat).toNat) (gl (0#64:(BitVec 64)) r7.2.2.1 ((AG ((r5.length:Int)+s5.1)).toNat)))))
else none
else none
else none
else Option.map Sum.inr (Option.bind (GH (r4.2.1.1,s5.2,r7.2.2.2.2.2.1) r4.2.2.2.2.1 r7.2.2.2.2.2.2 r6.1 r7.2.1) (fun r8=>
AM (σ:=(Int×CU)) (β:=(CU×O7×Int)) (fun s6=>
if s6.1<(r7.2.2.2.2.2.2.length:Int) then
if 0<=s6.1/\s6.1<(r7.2.2.2.2.2.2.length:Int) then
Option.bind (DV s6.2.2.2.1 ((gl ((0,0,0,0,0):AE) r7.2.2.2.2.2.2 s6.1.toNat).1)) (fun r9=>
Option.bind (GI s6.2.2.1 ((gl ((0,0,0,0,0):AE) r7.2.2.2.2.2.2 s6.1.toNat).1)) (fun LZ=>
some (Sum.inl ((AG (s6.1+1),(s6.2.1,(s6.2.2.1.1,LZ.2),r9.1,s6.2.2.2.2))))))
else none
else Option.map Sum.inr (Option.bind (α:=CU ⊕ (CU×O7×Int)) (if r1.1.2.2.2.2>0 then
Option.bind (CX s6.2.2.2.1 r7.1) (fun VL=>
some (Sum.inl ((s6.2.1,s6.2.2.1,VL.1,s6.2.2.2.2))))
else if r7.1.2.2.2.2>0 then
Option.bind (EY s6.2.2.2.1 r7.1) (fun QU=>
some (Sum.inl ((s6.2.1,s6.2.2.1,QU.1,AG (s6.2.2.2.2.1+1),s6.2.2.2.2.2))))
else some (Sum.inl (s6.2))) (fun q=>match q with
|Sum.inl j1=>(Option.bind (FO a0.2.2.2.2.2.1) (fun UF=>
some (((j1.1,j1.2.1,j1.2.2.1,j1.2.2.2.1,j1.2.2.2.2.1,j1.2.2.2.2.2.1,j1.2.2.2.2.2.2.1,(j1.2.2.2.2.2.2.2.1.1,j1.2.2.2.2.2.2.2.1.2.1,j1.2.2.2.2.2.2.2.1.2.2.1,AG (j1.2.2.2.2.2.2.2.1.2.2.2.1+1),j1.2.2.2.2.2.2.2.1.2.2.2.2.1,AG (j1.2.2.2.2.2.2.2.1.2.2.2.2.2.1+s1.2.2.1),AG (j1.2.2.2.2.2.2.2.1.2.2.2.2.2.2.1+(AG (r7.1.2.2.2.2-r1.1.2.2.2.2))),AG (j1.2.2.2.2.2.2.2.1.2.2.2.2.2.2.2.1+r6.2),AG (j1.2.2.2.2.2.2.2.1.2.2.2.2.2.2.2.2+(AG ((AG ((UF.length:Int)+r6.2))+(AG ((2:Int)*(AG (r7.1.2.2.2.2-r1.1.2.2.2.2)))))))),j1.2.2.2.2.2.2.2.2),(s1.2.2.1,AG (r7.1.2.2.2.2-r1.1.2.2.2.2),r6.2,AG ((AG ((UF.length:Int)+r6.2))+(AG ((2:Int)*(AG (r7.1.2.2.2.2-r1.1.2.2.2.2)))))),0))))
|Sum.inr b1=>some b1))) ((0,(r4.1,(r4.2.1.1,r8.2),r4.2.2.1,r4.2.2.2.1,r8.1,(r4.2.2.2.2.2.1.1,s4.2),r4.2.2.2.2.2.2)))))) ((0,r7.2.2.2.2.1)))) ((0,r4.2.2.2.2.2.1.2))))) ((s2.1,0)))) (([],0)))))))) ((0,0,(0,0,0,0))))
@[reducible] def CF:FnI:={ ps:=[⟨D4,true,false,false⟩,⟨LC,false,true,false⟩],rs:=[⟨D4,true,true,false⟩,⟨kE,true,true,false⟩,⟨(.int .i64),false,true,false⟩],os:=[],bk:=[],F:=fun x=>B8 x.1 x.2 }
def kM:Cx:={ nm:=[(2,(8,1)),(4,(9,1)),(5,(10,1)),(7,(11,1)),(10,(12,1)),(12,(13,1)),(13,(22,1)),(22,(33,1)),(29,(35,1)),(63,(14,1)),(69,(15,7)),(75,(23,1)),(82,(24,1)),(99,(26,1)),(100,(27,1)),(115,(29,1)),(116,(30,1)),(124,(31,2)),(179,(34,1)),(192,(36,1)),(209,(44,1)),(220,(45,1)),(238,(53,1))],AL:=[100,116],fns:=BA [(46,DI),(83,GF),(96,DG),(137,IJ),(140,NM),(141,JM),(159,PB),(160,OO),(161,OR),(162,TN),(163,QY),(164,PD),(165,QZ)],loops:=[(0,{ live:=[(9,⟨(.int .i64),false,false,false⟩),(43,⟨(.int .i64),false,false,false⟩)],boxes:=[(12,⟨kE,true,false,false⟩)],rows:=[],dead:=FU [(12,1),(44,16)],lost:=[],base:=13 }),(2,{ live:=[(17,⟨YS,false,true,false⟩),(87,⟨(.int .i64),false,false,false⟩)],boxes:=[],rows:=[],dead:=FU [(19,1),(88,14)],lost:=[],base:=25 }),(4,{ live:=[(17,⟨YS,false,true,false⟩),(104,⟨(.int .i64),false,false,false⟩)],boxes:=[],rows:=[],dead:=FU [(21,1),(105,13)],lost:=[25],base:=28 }),(6,{ live:=[(136,⟨(.int .i64),false,false,false⟩)],boxes:=[],rows:=[(21,.u64)],dead:=FU [(24,2),(137,15)],lost:=[],base:=34 }),(8,{ live:=[(154,⟨(.int .i64),false,false,false⟩)],boxes:=[],rows:=[(16,.u64)],dead:=FU [(26,2),(155,17)],lost:=[],base:=34 }),(10,{ live:=[(183,⟨(.int .i64),false,false,false⟩)],boxes:=[(22,⟨D4,true,true,false⟩)],rows:=[],dead:=FU [(29,1),(184,18)],lost:=[15,16,17,18,34,20,21],base:=37,pins:=[(37,15,22),(38,16,22),(39,17,22),(41,34,22),(42,20,22),(43,21,22)] })],AO:=[(53,{ live:=[],boxes:=[(22,⟨D4,true,true,false⟩)],rows:=[],dead:=FU [(202,26)],lost:=[40,15,16,17,34,20,21],base:=46,pins:=[(46,15,22),(47,16,22),(48,17,22),(50,34,22),(51,20,22),(52,21,22)] })],tb:=A8,exts:=[],lets:=[] }
theorem iM:CV 153 CF:=okW kM [.cell 4 41,.cell 5 209,.tmp 6] 287 46 (BB (.cons D1 (.cons HO (.cons DT (.cons LM (.cons SB (.cons NV (.cons XH (.cons WE (.cons WG (.cons eI (.cons Y8 (.cons XL (.cons Y_ AN.nil))))))))))))) A3.nil) Tryz.func153
def JN (a0:CE):Option Int:=
Option.bind (C8 a0) (fun r1=>
some (AG ((a0.2.2.length:Int)-(r1.length:Int))))
@[reducible] def SC:FnI:={ ps:=[⟨CN,true,false,false⟩],rs:=[⟨(.int .i64),false,true,false⟩],os:=[],bk:=[],F:=fun x=>JN x }
def eY:Cx:={ nm:=[(1,(2,1)),(7,(3,1))],AL:=[],fns:=BA [(83,GF)],loops:=[],AO:=[],tb:=A8,exts:=[],lets:=[] }
theorem bD:CV 43 SC:=okW eY [.tmp 2] 10 2 (BB (.cons HO AN.nil) A3.nil) Tryz.func43
def CB (a0:J1):Option Bool:=
Option.bind (DF a0) (fun r1=>
if r1=0 then
if 0<=(AG ((a0.2.1.length:Int)-1))/\(AG ((a0.2.1.length:Int)-1))<(a0.2.1.length:Int) then
some (decide (C4 ((gl ((0,0,0,0):AX) a0.2.1 ((AG ((a0.2.1.length:Int)-1)).toNat)).1) 0=some .eq))
else none
else some (false))
@[reducible] def I0:FnI:={ ps:=[⟨M4,true,false,false⟩],rs:=[⟨.bool,false,true,false⟩],os:=[],bk:=[],F:=fun x=>CB x }
def WH:Cx:={ nm:=[(1,(1,1))],AL:=[],fns:=BA [(38,FX)],loops:=[],AO:=[],tb:=A8,exts:=[],lets:=[] }
theorem M6:CV 44 I0:=okW WH [.tmp 2] 18 1 (BB (.cons HA AN.nil) A3.nil) Tryz.func44
def FG (a0:CE) (a1:GC):Option Int:=
AM (σ:=(Int×Int)) (β:=Int) (fun s1=>
if s1.2<(a1.length:Int) then
if 0<=s1.2/\s1.2<(a1.length:Int) then
AM (σ:=(Int×Int)) (β:=((Int×Int) ⊕ Int)) (fun s2=>
if s2.2<((gl ([]:(List AE)) a1 s1.2.toNat).length:Int) then
if 0<=s2.2/\s2.2<((gl ([]:(List AE)) a1 s1.2.toNat).length:Int) then
Option.bind (BW a0 ((gl ((0,0,0,0,0):AE) (gl ([]:(List AE)) a1 s1.2.toNat) s2.2.toNat).1,((gl ((0,0,0,0,0):AE) (gl ([]:(List AE)) a1 s1.2.toNat) s2.2.toNat).2).1,(((gl ((0,0,0,0,0):AE) (gl ([]:(List AE)) a1 s1.2.toNat) s2.2.toNat).2).2).1,((((gl ((0,0,0,0,0):AE) (gl ([]:(List AE)) a1 s1.2.toNat) s2.2.toNat).2).2).2))) (fun r1=>
some (Sum.inl ((if r1>s2.1 then r1 else s2.1,AG (s2.2+1)))))
else none
else some (Sum.inr (Sum.inl ((s2.1,AG (s1.2+1)))))) ((s1.1,0))
else none
else some (Sum.inr (s1.1))) ((0,0))
@[reducible] def OS:FnI:={ ps:=[⟨CN,true,false,false⟩,⟨IY,false,false,false⟩],rs:=[⟨(.int .i64),false,true,false⟩],os:=[],bk:=[],F:=fun x=>FG x.1 x.2 }
def XN:Cx:={ nm:=[(2,(3,1)),(9,(5,1)),(15,(4,1))],AL:=[],fns:=BA [(46,DI)],loops:=[(0,{ live:=[(5,⟨(.int .i64),false,false,false⟩),(12,⟨(.int .i64),false,false,false⟩)],boxes:=[],rows:=[],dead:=FU [(7,1),(9,1),(13,16)],lost:=[],base:=4 }),(2,{ live:=[(5,⟨(.int .i64),false,false,false⟩),(18,⟨(.int .i64),false,false,false⟩)],boxes:=[],rows:=[],dead:=FU [(9,1),(19,9)],lost:=[],base:=5 })],AO:=[],tb:=A8,exts:=[],lets:=[] }
theorem WI:CV 45 OS:=okW XN [.tmp 4] 30 3 (BB (.cons D1 AN.nil) A3.nil) Tryz.func45
def BT (a0:J1) (a1:CE) (a2:GC) (a3:AE) (a4:Int):Option Bool:=
Option.bind (D6 a1 a3 a4) (fun r1=>
if r1=0 then
some (true)
else Option.bind (JN a1) (fun r2=>
if (AG (r2+r1))>(a1.2.2.length:Int) then
some (false)
else Option.bind (CB a0) (fun r3=>
if r3=true then
some (decide ((AG ((2:Int)*(AG (r2+r1))))<=(a1.2.2.length:Int)))
else Option.bind (FG a1 a2) (fun r4=>
Option.bind (BW a1 a3) (fun r5=>
some (decide ((AG ((a1.2.2.length:Int)-(AG (r2+r1))))≥(if (AG (r5+r1))>r4 then AG (r5+r1) else r4))))))))
@[reducible] def KF:FnI:={ ps:=[⟨M4,true,false,false⟩,⟨CN,true,false,false⟩,⟨IY,false,false,false⟩,⟨GX,true,false,false⟩,⟨(.int .i64),false,false,false⟩],rs:=[⟨.bool,false,true,false⟩],os:=[],bk:=[],F:=fun x=>BT x.1 x.2.1 x.2.2.1 x.2.2.2.1 x.2.2.2.2 }
def ZA:Cx:={ nm:=[(5,(4,1)),(6,(5,1)),(8,(6,1))],AL:=[],fns:=BA [(22,HN),(43,SC),(44,I0),(45,OS),(46,DI)],loops:=[],AO:=[],tb:=A8,exts:=[],lets:=[] }
theorem OT:CV 20 KF:=okW ZA [.tmp 10] 49 3 (BB (.cons KB (.cons bD (.cons M6 (.cons WI (.cons D1 AN.nil))))) A3.nil) Tryz.func20
def BU (a0:J1) (a1:CE) (a2:GC) (a3:Int) (a4:Int):Option (Int×AE):=
Option.bind (D_ a0 0 (a1.2.2.length:Int)) (fun r1=>
Option.bind (BN a2 0) (fun r2=>
if r2.2=true then
Option.bind (FM a1 r2.1 r1.1) (fun r3=>
if r3=true then
Option.bind (BT a0 a1 a2 r2.1 a4) (fun r4=>
if (!r4)=true then
some ((3,(0,0,0,0,0)))
else some ((1,r2.1)))
else if 0<=(0:Int)/\(0:Int)<(a0.2.1.length:Int) then
if ¬(((gl ((0,0,0,0):AX) a0.2.1 ((0:Int).toNat)).2).1)=0 then
if 0<=(0:Int)/\(0:Int)<(a2.length:Int) then
if ((gl ([]:(List AE)) a2 ((0:Int).toNat)).length:Int)≥(((gl ((0,0,0,0):AX) a0.2.1 ((0:Int).toNat)).2).1) then
some ((3,(0,0,0,0,0)))
else Option.bind (BT a0 a1 a2 (a3,0,(-1),(-1),0) a4) (fun r5=>
if (!r5)=true then
some ((3,(0,0,0,0,0)))
else some ((2,(a3,0,(-1),(-1),0))))
else none
else Option.bind (BT a0 a1 a2 (a3,0,(-1),(-1),0) a4) (fun r6=>
if (!r6)=true then
some ((3,(0,0,0,0,0)))
else some ((2,(a3,0,(-1),(-1),0))))
else none)
else if 0<=(0:Int)/\(0:Int)<(a0.2.1.length:Int) then
if ¬(((gl ((0,0,0,0):AX) a0.2.1 ((0:Int).toNat)).2).1)=0 then
if 0<=(0:Int)/\(0:Int)<(a2.length:Int) then
if ((gl ([]:(List AE)) a2 ((0:Int).toNat)).length:Int)≥(((gl ((0,0,0,0):AX) a0.2.1 ((0:Int).toNat)).2).1) then
some ((3,(0,0,0,0,0)))
else Option.bind (BT a0 a1 a2 (a3,0,(-1),(-1),0) a4) (fun r7=>
if (!r7)=true then
some ((3,(0,0,0,0,0)))
else some ((2,(a3,0,(-1),(-1),0))))
else none
else Option.bind (BT a0 a1 a2 (a3,0,(-1),(-1),0) a4) (fun r8=>
if (!r8)=true then
some ((3,(0,0,0,0,0)))
else some ((2,(a3,0,(-1),(-1),0))))
else none))
@[reducible] def ML:FnI:={ ps:=[⟨M4,true,false,false⟩,⟨CN,true,false,false⟩,⟨IY,false,false,false⟩,⟨(.int .i64),false,false,false⟩,⟨(.int .i64),false,false,false⟩],rs:=[⟨(.int .i64),false,true,false⟩,⟨GX,true,true,false⟩],os:=[],bk:=[],F:=fun x=>BU x.1 x.2.1 x.2.2.1 x.2.2.2.1 x.2.2.2.2 }
def eZ:Cx:={ nm:=[(5,(4,1)),(6,(5,1)),(11,(6,1)),(15,(7,1)),(16,(8,1)),(52,(9,1))],AL:=[],fns:=BA [(17,DK),(18,JH),(19,IG),(20,KF)],loops:=[],AO:=[],tb:=A8,exts:=[],lets:=[] }
theorem Q0:CV 40 ML:=okW eZ [.tmp 10,.cell 11 57] 68 6 (BB (.cons EG (.cons MI (.cons LJ (.cons OT AN.nil)))) A3.nil) Tryz.func40
def D7 (a0:CU) (a1:Int):Option Bool:=
Option.bind (BU a0.1 a0.2.1 a0.2.2.1 a0.2.2.2.1 a1) (fun r1=>
some (decide (r1.1=3)))
@[reducible] def LN:FnI:={ ps:=[⟨D4,true,false,false⟩,⟨(.int .i64),false,false,false⟩],rs:=[⟨.bool,false,true,false⟩],os:=[],bk:=[],F:=fun x=>D7 x.1 x.2 }
def bE:Cx:={ nm:=[(2,(7,1)),(6,(8,1))],AL:=[],fns:=BA [(40,ML)],loops:=[],AO:=[],tb:=A8,exts:=[],lets:=[] }
theorem PE:CV 151 LN:=okW bE [.tmp 4] 22 2 (BB (.cons Q0 AN.nil) A3.nil) Tryz.func151
def FP (a0:J1) (a1:GC):Option (List Int):=
Option.bind (DF a0) (fun r1=>
if ¬r1=0 then
some ([])
else if ¬(a1.length:Int)=(a0.2.1.length:Int) then
some ([])
else AM (σ:=FC) (β:=(List Int)) (fun s1=>
if s1.2<(a1.length:Int) then
if 0<=s1.2/\s1.2<(a1.length:Int) then
if 0<=s1.2/\s1.2<(a0.2.1.length:Int) then
if ¬(((gl ((0,0,0,0):AX) a0.2.1 s1.2.toNat).2).1)=0 then
if ((gl ([]:(List AE)) a1 s1.2.toNat).length:Int)>(((gl ((0,0,0,0):AX) a0.2.1 s1.2.toNat).2).1) then
if (s1.1.length+([s1.2]:List Int).length)*8<=140737488355328 then
some (Sum.inl ((s1.1++([s1.2]:List Int),AG (s1.2+1))))
else none
else some (Sum.inl ((s1.1,AG (s1.2+1))))
else some (Sum.inl ((s1.1,AG (s1.2+1))))
else none
else none
else some (Sum.inr (s1.1))) (([],0)))
@[reducible] def SD:FnI:={ ps:=[⟨M4,true,false,false⟩,⟨IY,false,false,false⟩],rs:=[⟨H0,false,true,false⟩],os:=[],bk:=[],F:=fun x=>FP x.1 x.2 }
def e_:Cx:={ nm:=[(2,(2,1)),(26,(4,1)),(43,(5,1)),(44,(6,1))],AL:=[44],fns:=BA [(38,FX)],loops:=[(0,{ live:=[(5,⟨H0,false,true,false⟩),(22,⟨(.int .i64),false,false,false⟩)],boxes:=[],rows:=[],dead:=FU [(6,3),(23,23)],lost:=[],base:=3 })],AO:=[],tb:=A8,exts:=[],lets:=[] }
theorem bF:CV 25 SD:=okW e_ [.tmp 4] 47 5 (BB (.cons HA AN.nil) A3.nil) Tryz.func25
def CP (a0:J1) (a1:CE) (a2:GC) (a3:AK3):Option oI:=
AM (σ:=AK3) (β:=oI) (fun s1=>
if s1.1<(AG ((a2.length:Int)-1)) then
if 0<=s1.1/\s1.1<(a2.length:Int) then
if ((gl ([]:(List AE)) a2 s1.1.toNat).length:Int)=0 then
some (Sum.inl ((AG (s1.1+1),false,0)))
else Option.map Sum.inr (Option.bind (α:=AK3 ⊕ oI) (if s1.1=(AG ((a2.length:Int)-1)) then
if (!s1.2.1)=true then
Option.bind (BN a2 (AG ((a2.length:Int)-1))) (fun r1=>
if r1.2=true then
some (Sum.inl ((s1.1,true,r1.1.1)))
else some (Sum.inl ((s1.1,true,(-1)))))
else some (Sum.inl (s1))
else some (Sum.inl (s1))) (fun q=>match q with
|Sum.inl j1=>(if 0<=j1.1/\j1.1<(a2.length:Int) then
AM (σ:=((List AE)×Int)) (β:=oI) (fun s2=>
if s2.2<((gl ([]:(List AE)) a2 j1.1.toNat).length:Int) then
if 0<=s2.2/\s2.2<((gl ([]:(List AE)) a2 j1.1.toNat).length:Int) then
if j1.1<(AG ((a2.length:Int)-1)) then
if (s2.1.length+([((gl ((0,0,0,0,0):AE) (gl ([]:(List AE)) a2 j1.1.toNat) s2.2.toNat).1,((gl ((0,0,0,0,0):AE) (gl ([]:(List AE)) a2 j1.1.toNat) s2.2.toNat).2).1,(((gl ((0,0,0,0,0):AE) (gl ([]:(List AE)) a2 j1.1.toNat) s2.2.toNat).2).2).1,((((gl ((0,0,0,0,0):AE) (gl ([]:(List AE)) a2 j1.1.toNat) s2.2.toNat).2).2).2))]:List AE).length)*40<=140737488355328 then
some (Sum.inl ((s2.1++([((gl ((0,0,0,0,0):AE) (gl ([]:(List AE)) a2 j1.1.toNat) s2.2.toNat).1,((gl ((0,0,0,0,0):AE) (gl ([]:(List AE)) a2 j1.1.toNat) s2.2.toNat).2).1,(((gl ((0,0,0,0,0):AE) (gl ([]:(List AE)) a2 j1.1.toNat) s2.2.toNat).2).2).1,((((gl ((0,0,0,0,0):AE) (gl ([]:(List AE)) a2 j1.1.toNat) s2.2.toNat).2).2).2))]:List AE),AG (s2.2+1))))
else none
else if ((gl ((0,0,0,0,0):AE) (gl ([]:(List AE)) a2 j1.1.toNat) s2.2.toNat).1)<=j1.2.2 then
if (s2.1.length+([((gl ((0,0,0,0,0):AE) (gl ([]:(List AE)) a2 j1.1.toNat) s2.2.toNat).1,((gl ((0,0,0,0,0):AE) (gl ([]:(List AE)) a2 j1.1.toNat) s2.2.toNat).2).1,(((gl ((0,0,0,0,0):AE) (gl ([]:(List AE)) a2 j1.1.toNat) s2.2.toNat).2).2).1,((((gl ((0,0,0,0,0):AE) (gl ([]:(List AE)) a2 j1.1.toNat) s2.2.toNat).2).2).2))]:List AE).length)*40<=140737488355328 then
some (Sum.inl ((s2.1++([((gl ((0,0,0,0,0):AE) (gl ([]:(List AE)) a2 j1.1.toNat) s2.2.toNat).1,((gl ((0,0,0,0,0):AE) (gl ([]:(List AE)) a2 j1.1.toNat) s2.2.toNat).2).1,(((gl ((0,0,0,0,0):AE) (gl ([]:(List AE)) a2 j1.1.toNat) s2.2.toNat).2).2).1,((((gl ((0,0,0,0,0):AE) (gl ([]:(List AE)) a2 j1.1.toNat) s2.2.toNat).2).2).2))]:List AE),AG (s2.2+1))))
else none
else some (Sum.inl ((s2.1,AG (s2.2+1))))
else none
else Option.map Sum.inr (if (s2.1.length:Int)=0 then
some (([],j1,true))
else Option.bind (C8 a1) (fun r2=>
if 0<=j1.1/\j1.1<(a0.2.1.length:Int) then
AM (σ:=((List AE)×Int×Int)) (β:=oI) (fun s3=>
if s3.2.2<(s2.1.length:Int) then
if 0<=s3.2.2/\s3.2.2<(s2.1.length:Int) then
Option.bind (BW a1 ((gl ((0,0,0,0,0):AE) s2.1 s3.2.2.toNat).1,((gl ((0,0,0,0,0):AE) s2.1 s3.2.2.toNat).2).1,(((gl ((0,0,0,0,0):AE) s2.1 s3.2.2.toNat).2).2).1,((((gl ((0,0,0,0,0):AE) s2.1 s3.2.2.toNat).2).2).2))) (fun r3=>
if (AG (s3.2.1-r3))<0 then
some (Sum.inr ((s3.1,j1,false)))
else if ¬((((gl ((0,0,0,0):AX) a0.2.1 j1.1.toNat).2).2).1)=0 then
if (s3.1.length:Int)=((((gl ((0,0,0,0):AX) a0.2.1 j1.1.toNat).2).2).1) then
some (Sum.inr ((s3.1,j1,false)))
else if (s3.1.length+([((gl ((0,0,0,0,0):AE) s2.1 s3.2.2.toNat).1,((gl ((0,0,0,0,0):AE) s2.1 s3.2.2.toNat).2).1,(((gl ((0,0,0,0,0):AE) s2.1 s3.2.2.toNat).2).2).1,((((gl ((0,0,0,0,0):AE) s2.1 s3.2.2.toNat).2).2).2))]:List AE).length)*40<=140737488355328 then
some (Sum.inl ((s3.1++([((gl ((0,0,0,0,0):AE) s2.1 s3.2.2.toNat).1,((gl ((0,0,0,0,0):AE) s2.1 s3.2.2.toNat).2).1,(((gl ((0,0,0,0,0):AE) s2.1 s3.2.2.toNat).2).2).1,((((gl ((0,0,0,0,0):AE) s2.1 s3.2.2.toNat).2).2).2))]:List AE),AG (s3.2.1-r3),AG (s3.2.2+1))))
else none
else if (s3.1.length+([((gl ((0,0,0,0,0):AE) s2.1 s3.2.2.toNat).1,((gl ((0,0,0,0,0):AE) s2.1 s3.2.2.toNat).2).1,(((gl ((0,0,0,0,0):AE) s2.1 s3.2.2.toNat).2).2).1,((((gl ((0,0,0,0,0):AE) s2.1 s3.2.2.toNat).2).2).2))]:List AE).length)*40<=140737488355328 then
some (Sum.inl ((s3.1++([((gl ((0,0,0,0,0):AE) s2.1 s3.2.2.toNat).1,((gl ((0,0,0,0,0):AE) s2.1 s3.2.2.toNat).2).1,(((gl ((0,0,0,0,0):AE) s2.1 s3.2.2.toNat).2).2).1,((((gl ((0,0,0,0,0):AE) s2.1 s3.2.2.toNat).2).2).2))]:List AE),AG (s3.2.1-r3),AG (s3.2.2+1))))
else none)
else none
else some (Sum.inr ((s3.1,j1,false)))) (([],(r2.length:Int),0))
else none))) (([],0))
else none)
|Sum.inr b1=>some b1))
else none
else Option.map Sum.inr (Option.bind (α:=AK3 ⊕ oI) (if s1.1=(AG ((a2.length:Int)-1)) then
if (!s1.2.1)=true then
Option.bind (BN a2 (AG ((a2.length:Int)-1))) (fun r4=>
if r4.2=true then
some (Sum.inl ((s1.1,true,r4.1.1)))
else some (Sum.inl ((s1.1,true,(-1)))))
else some (Sum.inl (s1))
else some (Sum.inl (s1))) (fun q=>match q with
|Sum.inl j2=>(if 0<=j2.1/\j2.1<(a2.length:Int) then
AM (σ:=((List AE)×Int)) (β:=oI) (fun s4=>
if s4.2<((gl ([]:(List AE)) a2 j2.1.toNat).length:Int) then
if 0<=s4.2/\s4.2<((gl ([]:(List AE)) a2 j2.1.toNat).length:Int) then
if j2.1<(AG ((a2.length:Int)-1)) then
if (s4.1.length+([((gl ((0,0,0,0,0):AE) (gl ([]:(List AE)) a2 j2.1.toNat) s4.2.toNat).1,((gl ((0,0,0,0,0):AE) (gl ([]:(List AE)) a2 j2.1.toNat) s4.2.toNat).2).1,(((gl ((0,0,0,0,0):AE) (gl ([]:(List AE)) a2 j2.1.toNat) s4.2.toNat).2).2).1,((((gl ((0,0,0,0,0):AE) (gl ([]:(List AE)) a2 j2.1.toNat) s4.2.toNat).2).2).2))]:List AE).length)*40<=140737488355328 then
some (Sum.inl ((s4.1++([((gl ((0,0,0,0,0):AE) (gl ([]:(List AE)) a2 j2.1.toNat) s4.2.toNat).1,((gl ((0,0,0,0,0):AE) (gl ([]:(List AE)) a2 j2.1.toNat) s4.2.toNat).2).1,(((gl ((0,0,0,0,0):AE) (gl ([]:(List AE)) a2 j2.1.toNat) s4.2.toNat).2).2).1,((((gl ((0,0,0,0,0):AE) (gl ([]:(List AE)) a2 j2.1.toNat) s4.2.toNat).2).2).2))]:List AE),AG (s4.2+1))))
else none
else if ((gl ((0,0,0,0,0):AE) (gl ([]:(List AE)) a2 j2.1.toNat) s4.2.toNat).1)<=j2.2.2 then
if (s4.1.length+([((gl ((0,0,0,0,0):AE) (gl ([]:(List AE)) a2 j2.1.toNat) s4.2.toNat).1,((gl ((0,0,0,0,0):AE) (gl ([]:(List AE)) a2 j2.1.toNat) s4.2.toNat).2).1,(((gl ((0,0,0,0,0):AE) (gl ([]:(List AE)) a2 j2.1.toNat) s4.2.toNat).2).2).1,((((gl ((0,0,0,0,0):AE) (gl ([]:(List AE)) a2 j2.1.toNat) s4.2.toNat).2).2).2))]:List AE).length)*40<=140737488355328 then
some (Sum.inl ((s4.1++([((gl ((0,0,0,0,0):AE) (gl ([]:(List AE)) a2 j2.1.toNat) s4.2.toNat).1,((gl ((0,0,0,0,0):AE) (gl ([]:(List AE)) a2 j2.1.toNat) s4.2.toNat).2).1,(((gl ((0,0,0,0,0):AE) (gl ([]:(List AE)) a2 j2.1.toNat) s4.2.toNat).2).2).1,((((gl ((0,0,0,0,0):AE) (gl ([]:(List AE)) a2 j2.1.toNat) s4.2.toNat).2).2).2))]:List AE),AG (s4.2+1))))
else none
else some (Sum.inl ((s4.1,AG (s4.2+1))))
else none
else Option.map Sum.inr (if (s4.1.length:Int)=0 then
some (([],j2,true))
else Option.bind (C8 a1) (fun r5=>
if 0<=j2.1/\j2.1<(a0.2.1.length:Int) then
AM (σ:=((List AE)×Int×Int)) (β:=oI) (fun s5=>
if s5.2.2<(s4.1.length:Int) then
if 0<=s5.2.2/\s5.2.2<(s4.1.length:Int) then
Option.bind (BW a1 ((gl ((0,0,0,0,0):AE) s4.1 s5.2.2.toNat).1,((gl ((0,0,0,0,0):AE) s4.1 s5.2.2.toNat).2).1,(((gl ((0,0,0,0,0):AE) s4.1 s5.2.2.toNat).2).2).1,((((gl ((0,0,0,0,0):AE) s4.1 s5.2.2.toNat).2).2).2))) (fun r6=>
if (AG (s5.2.1-r6))<0 then
some (Sum.inr ((s5.1,j2,false)))
else if ¬((((gl ((0,0,0,0):AX) a0.2.1 j2.1.toNat).2).2).1)=0 then
if (s5.1.length:Int)=((((gl ((0,0,0,0):AX) a0.2.1 j2.1.toNat).2).2).1) then
some (Sum.inr ((s5.1,j2,false)))
else if (s5.1.length+([((gl ((0,0,0,0,0):AE) s4.1 s5.2.2.toNat).1,((gl ((0,0,0,0,0):AE) s4.1 s5.2.2.toNat).2).1,(((gl ((0,0,0,0,0):AE) s4.1 s5.2.2.toNat).2).2).1,((((gl ((0,0,0,0,0):AE) s4.1 s5.2.2.toNat).2).2).2))]:List AE).length)*40<=140737488355328 then
some (Sum.inl ((s5.1++([((gl ((0,0,0,0,0):AE) s4.1 s5.2.2.toNat).1,((gl ((0,0,0,0,0):AE) s4.1 s5.2.2.toNat).2).1,(((gl ((0,0,0,0,0):AE) s4.1 s5.2.2.toNat).2).2).1,((((gl ((0,0,0,0,0):AE) s4.1 s5.2.2.toNat).2).2).2))]:List AE),AG (s5.2.1-r6),AG (s5.2.2+1))))
else none
else if (s5.1.length+([((gl ((0,0,0,0,0):AE) s4.1 s5.2.2.toNat).1,((gl ((0,0,0,0,0):AE) s4.1 s5.2.2.toNat).2).1,(((gl ((0,0,0,0,0):AE) s4.1 s5.2.2.toNat).2).2).1,((((gl ((0,0,0,0,0):AE) s4.1 s5.2.2.toNat).2).2).2))]:List AE).length)*40<=140737488355328 then
some (Sum.inl ((s5.1++([((gl ((0,0,0,0,0):AE) s4.1 s5.2.2.toNat).1,((gl ((0,0,0,0,0):AE) s4.1 s5.2.2.toNat).2).1,(((gl ((0,0,0,0,0):AE) s4.1 s5.2.2.toNat).2).2).1,((((gl ((0,0,0,0,0):AE) s4.1 s5.2.2.toNat).2).2).2))]:List AE),AG (s5.2.1-r6),AG (s5.2.2+1))))
else none)
else none
else some (Sum.inr ((s5.1,j2,false)))) (([],(r5.length:Int),0))
else none))) (([],0))
else none)
|Sum.inr b2=>some b2))) (a3)
@[reducible] def PF:FnI:={ ps:=[⟨M4,true,false,false⟩,⟨CN,true,false,false⟩,⟨IY,false,false,false⟩,⟨ACH,true,false,false⟩],rs:=[⟨LC,false,true,false⟩,⟨ACH,true,true,false⟩,⟨.bool,false,true,false⟩],os:=[],bk:=[],F:=fun x=>CP x.1 x.2.1 x.2.2.1 x.2.2.2 }
def ZB:Cx:={ nm:=[(4,(4,1)),(5,(5,1)),(7,(6,1)),(9,(7,1)),(12,(9,1)),(16,(12,1)),(21,(17,1)),(34,(8,1)),(67,(10,1)),(86,(13,1)),(87,(14,1)),(94,(15,1)),(128,(18,1)),(129,(19,1))],AL:=[87,129],fns:=BA [(17,DK),(46,DI),(83,GF)],loops:=[(0,{ live:=[],boxes:=[(6,⟨ACH,true,false,false⟩)],rows:=[],dead:=FU [(25,17)],lost:=[],base:=8 }),(2,{ live:=[(14,⟨LC,false,true,false⟩),(69,⟨(.int .i64),false,false,false⟩)],boxes:=[],rows:=[],dead:=FU [(16,1),(70,19)],lost:=[],base:=11 }),(4,{ live:=[(17,⟨LC,false,true,false⟩),(18,⟨(.int .i64),false,false,false⟩),(105,⟨(.int .i64),false,false,false⟩)],boxes:=[],rows:=[],dead:=FU [(21,1),(106,25)],lost:=[],base:=16 })],AO:=[(9,{ live:=[],boxes:=[(6,⟨ACH,true,false,false⟩)],rows:=[],dead:=FU [(12,2),(42,21)],lost:=[],base:=10 })],tb:=A8,exts:=[],lets:=[] }
theorem XO:CV 152 PF:=okW ZB [.tmp 8,.cell 9 205,.tmp 10] 133 16 (BB (.cons EG (.cons D1 (.cons HO AN.nil))) A3.nil) Tryz.func152
def E8 (a0:CU) (a1:Int):Option (CU×Bool):=
Option.bind (BL a0) (fun r1=>
AM (σ:=(CU×AK3)) (β:=(CU×Bool)) (fun s1=>
if a1>0 then
Option.bind (D7 s1.1 a1) (fun r2=>
if (!r2)=true then
Option.bind (FP s1.1.1 s1.1.2.2.1) (fun r3=>
if (r3.length:Int)=0 then
some (Sum.inr ((s1.1,false)))
else Option.bind (CP s1.1.1 s1.1.2.1 s1.1.2.2.1 s1.2) (fun r4=>
if r4.2.2=true then
some (Sum.inr (((s1.1.1,s1.1.2.1,s1.1.2.2.1,s1.1.2.2.2.1,s1.1.2.2.2.2.1,s1.1.2.2.2.2.2.1,0,(s1.1.2.2.2.2.2.2.2.1.1,s1.1.2.2.2.2.2.2.2.1.2.1,s1.1.2.2.2.2.2.2.2.1.2.2.1,s1.1.2.2.2.2.2.2.2.1.2.2.2.1,AG (s1.1.2.2.2.2.2.2.2.1.2.2.2.2.1+1),s1.1.2.2.2.2.2.2.2.1.2.2.2.2.2),s1.1.2.2.2.2.2.2.2.2),true)))
else if (r4.1.length:Int)=0 then
some (Sum.inr ((s1.1,false)))
else Option.bind (B8 s1.1 r4.1) (fun r5=>
bif YE (CF.rs++CF.os) r5 then if ¬r5.2.2=0 then
some (Sum.inr ((s1.1,false)))
else some (Sum.inl ((r5.1,r4.2.1))) else Option.bind (B8 s1.1 r4.1) (fun r6=>
if ¬r6.2.2=0 then
Option.map Sum.inr (none)
else some (Sum.inl ((r6.1,r4.2.1)))))))
else Option.bind (CP s1.1.1 s1.1.2.1 s1.1.2.2.1 s1.2) (fun r7=>
if r7.2.2=true then
some (Sum.inr (((s1.1.1,s1.1.2.1,s1.1.2.2.1,s1.1.2.2.2.1,s1.1.2.2.2.2.1,s1.1.2.2.2.2.2.1,0,(s1.1.2.2.2.2.2.2.2.1.1,s1.1.2.2.2.2.2.2.2.1.2.1,s1.1.2.2.2.2.2.2.2.1.2.2.1,s1.1.2.2.2.2.2.2.2.1.2.2.2.1,AG (s1.1.2.2.2.2.2.2.2.1.2.2.2.2.1+1),s1.1.2.2.2.2.2.2.2.1.2.2.2.2.2),s1.1.2.2.2.2.2.2.2.2),true)))
else if (r7.1.length:Int)=0 then
some (Sum.inr ((s1.1,false)))
else Option.bind (B8 s1.1 r7.1) (fun r8=>
bif YE (CF.rs++CF.os) r8 then if ¬r8.2.2=0 then
some (Sum.inr ((s1.1,false)))
else some (Sum.inl ((r8.1,r7.2.1))) else Option.bind (B8 s1.1 r7.1) (fun r9=>
if ¬r9.2.2=0 then
Option.map Sum.inr (none)
else some (Sum.inl ((r9.1,r7.2.1)))))))
else Option.bind (CP s1.1.1 s1.1.2.1 s1.1.2.2.1 s1.2) (fun LZ=>
if LZ.2.2=true then
some (Sum.inr (((s1.1.1,s1.1.2.1,s1.1.2.2.1,s1.1.2.2.2.1,s1.1.2.2.2.2.1,s1.1.2.2.2.2.2.1,0,(s1.1.2.2.2.2.2.2.2.1.1,s1.1.2.2.2.2.2.2.2.1.2.1,s1.1.2.2.2.2.2.2.2.1.2.2.1,s1.1.2.2.2.2.2.2.2.1.2.2.2.1,AG (s1.1.2.2.2.2.2.2.2.1.2.2.2.2.1+1),s1.1.2.2.2.2.2.2.2.1.2.2.2.2.2),s1.1.2.2.2.2.2.2.2.2),true)))
else if (LZ.1.length:Int)=0 then
some (Sum.inr ((s1.1,false)))
else Option.bind (B8 s1.1 LZ.1) (fun VL=>
bif YE (CF.rs++CF.os) VL then if ¬VL.2.2=0 then
some (Sum.inr ((s1.1,false)))
else some (Sum.inl ((VL.1,LZ.2.1))) else Option.bind (B8 s1.1 LZ.1) (fun QU=>
if ¬QU.2.2=0 then
Option.map Sum.inr (none)
else some (Sum.inl ((QU.1,LZ.2.1))))))) ((r1,(0,false,0))))
@[reducible] def LO:FnI:={ ps:=[⟨D4,true,false,false⟩,⟨(.int .i64),false,false,false⟩],rs:=[⟨D4,true,true,false⟩,⟨.bool,false,true,false⟩],os:=[],bk:=[],F:=fun x=>E8 x.1 x.2 }
def bG:Cx:={ nm:=[(2,(7,1)),(4,(8,1)),(6,(16,1)),(8,(19,1)),(10,(27,1)),(11,(28,1)),(14,(9,7)),(28,(17,1)),(41,(18,1)),(62,(20,7))],AL:=[],fns:=BA [(25,SD),(96,DG),(151,LN),(152,PF),(153,CF)],loops:=[(0,{ live:=[],boxes:=[(7,⟨D4,true,true,false⟩),(16,⟨ACH,true,false,false⟩)],rows:=[],dead:=FU [(5,1),(7,6),(15,55)],lost:=[9,10,11,12,13,14,15],base:=29 })],AO:=[],tb:=A8,exts:=[],lets:=[],AU6:=[62] }
theorem PG:CV 143 LO:=okW bG [.cell 4 41,.tmp 5] 70 29 (BB (.cons bF (.cons DT (.cons PE (.cons XO (.cons iM AN.nil))))) A3.nil) Tryz.func143
def FQ (a0:CU):Option (CU×Bool):=
Option.bind (E8 a0 0) (fun r1=>
some ((r1.1,r1.2)))
@[reducible] def MM:FnI:={ ps:=[⟨D4,true,false,false⟩],rs:=[⟨D4,true,true,false⟩,⟨.bool,false,true,false⟩],os:=[],bk:=[],F:=fun x=>FQ x }
def fA:Cx:={ nm:=[(1,(7,1)),(2,(8,1)),(5,(9,7))],AL:=[],fns:=BA [(143,LO)],loops:=[],AO:=[],tb:=A8,exts:=[],lets:=[] }
theorem Q1:CV 123 MM:=okW fA [.cell 2 41,.tmp 3] 8 9 (BB (.cons PG AN.nil) A3.nil) Tryz.func123
def EA (a0:CU) (a1:Int):Option (CU×Bool):=
Option.bind (E8 a0 a1) (fun r1=>
Option.bind (D7 r1.1 a1) (fun r2=>
some ((r1.1, !r2))))
@[reducible] def TR:FnI:={ ps:=[⟨D4,true,false,false⟩,⟨(.int .i64),false,false,false⟩],rs:=[⟨D4,true,true,false⟩,⟨.bool,false,true,false⟩],os:=[],bk:=[],F:=fun x=>EA x.1 x.2 }
def iN:Cx:={ nm:=[(2,(7,1)),(4,(8,1)),(6,(16,1)),(11,(9,7))],AL:=[],fns:=BA [(143,LO),(151,LN)],loops:=[],AO:=[],tb:=A8,exts:=[],lets:=[] }
theorem fB:CV 138 TR:=okW iN [.cell 4 41,.tmp 5] 19 10 (BB (.cons PG (.cons PE AN.nil)) A3.nil) Tryz.func138
def A6 (a0:CU) (a1:Int):Option (CU×(Int×(BitVec 64))):=
some ((a0,(a1,0#64)))
@[reducible] def KS:FnI:={ ps:=[⟨D4,true,false,false⟩,⟨(.int .i64),false,false,false⟩],rs:=[⟨D4,true,false,false⟩,⟨(.pair (.int .i64) .u64),true,false,false⟩],os:=[],bk:=[],F:=fun x=>A6 x.1 x.2 }
def kN:Cx:={ nm:=[(2,(7,1)),(4,(8,1)),(5,(9,1))],AL:=[],fns:=BA [],loops:=[],AO:=[],tb:=A8,exts:=[],lets:=[] }
theorem NN:CV 88 KS:=okW kN [.cell 4 41,.cell 5 118] 9 3 (BB AN.nil A3.nil) Tryz.func88
def EO (a0:CU):Option Bool:=
Option.bind (FO a0.2.2.2.2.2.1) (fun r1=>
some (decide ((r1.length:Int)=32)))
@[reducible] def MN:FnI:={ ps:=[⟨D4,true,false,false⟩],rs:=[⟨.bool,false,true,false⟩],os:=[],bk:=[],F:=fun x=>EO x }
def fC:Cx:={ nm:=[(1,(7,1)),(5,(8,1))],AL:=[],fns:=BA [(137,IJ)],loops:=[],AO:=[],tb:=A8,exts:=[],lets:=[] }
theorem Q2:CV 120 MN:=okW fC [.tmp 2] 8 2 (BB (.cons LM AN.nil) A3.nil) Tryz.func120
def IK (a0:CU) (a1:Int) (a2:Int):Option (CU×Int×Int):=
if a0.2.2.2.2.2.2.2.2=true then
some (((((⟨#[]⟩:ByteArray),[],0),(0,[],[]),[],0,[],([],[]),0,(0,0,0,0,0,0,0,0,0),false),0,19))
else Option.bind (C9 a1 a2) (fun r1=>
if ¬r1.2=0 then
some (((((⟨#[]⟩:ByteArray),[],0),(0,[],[]),[],0,[],([],[]),0,(0,0,0,0,0,0,0,0,0),false),0,r1.2))
else Option.bind (BL a0) (fun r2=>
Option.bind (BU r2.1 r2.2.1 r2.2.2.1 r2.2.2.2.1 (AG ((AG ((1:Int)+a1))+a2))) (fun r3=>
Option.bind (α:=(Int×CU×AE) ⊕ (CU×Int×Int)) (if r3.1=3 then
Option.bind (α:=CU ⊕ ((Int×CU×AE) ⊕ (CU×Int×Int))) (Option.bind (CB r2.1) (fun r4=>
if r4=true then
some (Sum.inl ((r2.1,r2.2.1,r2.2.2.1,r2.2.2.2.1,r2.2.2.2.2.1,r2.2.2.2.2.2.1,AG (r2.2.2.2.2.2.2.1+1),(r2.2.2.2.2.2.2.2.1.1,r2.2.2.2.2.2.2.2.1.2.1,AG (r2.2.2.2.2.2.2.2.1.2.2.1+1),r2.2.2.2.2.2.2.2.1.2.2.2),r2.2.2.2.2.2.2.2.2)))
else some (Sum.inl ((r2.1,r2.2.1,r2.2.2.1,r2.2.2.2.1,r2.2.2.2.2.1,r2.2.2.2.2.2.1,r2.2.2.2.2.2.2.1,(r2.2.2.2.2.2.2.2.1.1,r2.2.2.2.2.2.2.2.1.2.1,AG (r2.2.2.2.2.2.2.2.1.2.2.1+1),r2.2.2.2.2.2.2.2.1.2.2.2),r2.2.2.2.2.2.2.2.2))))) (fun q=>match q with
|Sum.inl j2=>(Option.bind (CB j2.1) (fun r5=>
if r5=true then
if j2.2.2.2.2.2.2.1≥j2.1.2.2 then
Option.bind (FQ j2) (fun r6=>
Option.bind (BU r6.1.1 r6.1.2.1 r6.1.2.2.1 r6.1.2.2.2.1 (AG ((AG ((1:Int)+a1))+a2))) (fun r7=>
if r7.1=3 then
some (Sum.inr (((r6.1.1,r6.1.2.1,r6.1.2.2.1,r6.1.2.2.2.1,r6.1.2.2.2.2.1,r6.1.2.2.2.2.2.1,r6.1.2.2.2.2.2.2.1,r6.1.2.2.2.2.2.2.2.1,true),0,18)))
else some (Sum.inl ((r7.1,r6.1,r7.2)))))
else Option.bind (EA j2 (AG ((AG ((1:Int)+a1))+a2))) (fun r8=>
Option.bind (BU r8.1.1 r8.1.2.1 r8.1.2.2.1 r8.1.2.2.2.1 (AG ((AG ((1:Int)+a1))+a2))) (fun r9=>
if r9.1=3 then
some (Sum.inr (((r8.1.1,r8.1.2.1,r8.1.2.2.1,r8.1.2.2.2.1,r8.1.2.2.2.2.1,r8.1.2.2.2.2.2.1,r8.1.2.2.2.2.2.2.1,r8.1.2.2.2.2.2.2.2.1,true),0,18)))
else some (Sum.inl ((r9.1,r8.1,r9.2)))))
else Option.bind (EA j2 (AG ((AG ((1:Int)+a1))+a2))) (fun LZ=>
Option.bind (BU LZ.1.1 LZ.1.2.1 LZ.1.2.2.1 LZ.1.2.2.2.1 (AG ((AG ((1:Int)+a1))+a2))) (fun VL=>
if VL.1=3 then
some (Sum.inr (((LZ.1.1,LZ.1.2.1,LZ.1.2.2.1,LZ.1.2.2.2.1,LZ.1.2.2.2.2.1,LZ.1.2.2.2.2.2.1,LZ.1.2.2.2.2.2.2.1,LZ.1.2.2.2.2.2.2.2.1,true),0,18)))
else some (Sum.inl ((VL.1,LZ.1,VL.2)))))))
|Sum.inr b1=>some b1)
else some (Sum.inl ((r3.1,r2,r3.2)))) (fun q=>match q with
|Sum.inl j1=>(Option.bind (CG j1.2.1.2.1 j1.2.2 (AG ((AG ((1:Int)+a1))+a2))) (fun QU=>
if ¬QU.2.2.1=0 then
some (((j1.2.1.1,(j1.2.1.2.1.1,QU.2.2.2),j1.2.1.2.2.1,j1.2.1.2.2.2.1,j1.2.1.2.2.2.2.1,j1.2.1.2.2.2.2.2.1,j1.2.1.2.2.2.2.2.2.1,j1.2.1.2.2.2.2.2.2.2.1,true),0,18))
else Option.bind (FL (j1.2.1.2.1.1,QU.2.2.2) QU.2.1 a1 a2) (fun UF=>
if j1.1=2 then
Option.bind (EY j1.2.1.2.2.1 QU.1) (fun tX=>
some (((j1.2.1.1,(j1.2.1.2.1.1,UF.2),tX.1,AG (j1.2.1.2.2.2.1+1),j1.2.1.2.2.2.2.1,j1.2.1.2.2.2.2.2.1,j1.2.1.2.2.2.2.2.2.1,(AG (j1.2.1.2.2.2.2.2.2.2.1.1+(AG ((AG ((1:Int)+a1))+a2))),AG (j1.2.1.2.2.2.2.2.2.2.1.2.1+1),j1.2.1.2.2.2.2.2.2.2.1.2.2),j1.2.1.2.2.2.2.2.2.2.2),QU.2.1,0)))
else Option.bind (CX j1.2.1.2.2.1 QU.1) (fun sZ=>
some (((j1.2.1.1,(j1.2.1.2.1.1,UF.2),sZ.1,j1.2.1.2.2.2.1,j1.2.1.2.2.2.2.1,j1.2.1.2.2.2.2.2.1,j1.2.1.2.2.2.2.2.2.1,(AG (j1.2.1.2.2.2.2.2.2.2.1.1+(AG ((AG ((1:Int)+a1))+a2))),AG (j1.2.1.2.2.2.2.2.2.2.1.2.1+1),j1.2.1.2.2.2.2.2.2.2.1.2.2),j1.2.1.2.2.2.2.2.2.2.2),QU.2.1,0))))))
|Sum.inr b2=>some b2))))
@[reducible] def Q3:FnI:={ ps:=[⟨D4,true,false,false⟩,⟨(.int .i64),false,false,false⟩,⟨(.int .i64),false,false,false⟩],rs:=[⟨D4,true,true,false⟩,⟨(.int .i64),false,true,false⟩,⟨(.int .i64),false,true,false⟩],os:=[],bk:=[],F:=fun x=>IK x.1 x.2.1 x.2.2 }
def bH:Cx:={ nm:=[(3,(7,1)),(6,(8,1)),(12,(16,1)),(14,(17,1)),(15,(46,1)),(36,(9,7)),(78,(25,7)),(84,(32,7)),(129,(47,1)),(141,(48,1))],AL:=[],fns:=BA [(40,ML),(44,I0),(49,IC),(96,DG),(119,ID),(123,MM),(138,TR),(139,R7),(140,NM),(141,JM)],loops:=[],AO:=[(13,{ live:=[],boxes:=[(16,⟨D4,true,false,false⟩)],rows:=[],dead:=FU [(58,7)],lost:=[9,10,11,12,13,14,15],base:=18 }),(20,{ live:=[(13,⟨(.int .i64),false,false,false⟩)],boxes:=[(16,⟨D4,true,true,false⟩),(17,⟨GX,true,false,false⟩)],rows:=[],dead:=FU [(7,2),(50,54)],lost:=[9,10,11,12,13,14,15],base:=39 })],tb:=A8,exts:=[],lets:=[] }
theorem ZC:CV 121 Q3:=okW bH [.cell 6 41,.tmp 7,.tmp 8] 160 42 (BB (.cons Q0 (.cons M6 (.cons LG (.cons DT (.cons LH (.cons Q1 (.cons fB (.cons aU (.cons SB (.cons NV AN.nil)))))))))) A3.nil) Tryz.func121
def GJ (a0:V8):Option Bool:=
if ¬(a0.1.length:Int)=32 then
some (false)
else if ¬(a0.2.length:Int)=32 then
some (false)
else AM (σ:=Int) (β:=Bool) (fun s1=>
if s1<(a0.1.length:Int) then
if 0<=s1/\s1<(a0.1.length:Int) then
if (!(gl (false:Bool) a0.1 s1.toNat))=true then
if 0<=s1/\s1<(a0.2.length:Int) then
if ¬(gl (0#64:(BitVec 64)) a0.2 s1.toNat)=(0#64) then
some (Sum.inr (false))
else some (Sum.inl (AG (s1+1)))
else none
else some (Sum.inl (AG (s1+1)))
else none
else some (Sum.inr (true))) (0)
@[reducible] def LP:FnI:={ ps:=[⟨pJ,true,false,false⟩],rs:=[⟨.bool,false,true,false⟩],os:=[],bk:=[],F:=fun x=>GJ x }
def bI:Cx:={ nm:=[(1,(2,1))],AL:=[],fns:=BA [],loops:=[(0,{ live:=[(18,⟨(.int .i64),false,false,false⟩)],boxes:=[],rows:=[],dead:=FU [(2,3),(19,15)],lost:=[],base:=3 })],AO:=[],tb:=A8,exts:=[],lets:=[] }
theorem PH:CV 142 LP:=okW bI [.tmp 2] 34 1 (BB AN.nil A3.nil) Tryz.func142
def C_ (a0:V8) (a1:(BitVec 64)):Option (V8×Int×Int):=
Option.bind (GJ a0) (fun r1=>
if (!r1)=true then
some ((([],[]),0,1))
else AM (σ:=Int) (β:=(V8×Int×Int)) (fun s1=>
if s1<(a0.1.length:Int) then
if 0<=s1/\s1<(a0.1.length:Int) then
if (!(gl (false:Bool) a0.1 s1.toNat))=true then
Option.bind (FN a0) (fun r2=>
if 0<=s1/\s1<(r2.1.length:Int) then
if 0<=s1/\s1<(r2.2.length:Int) then
some (Sum.inr (((r2.1.set s1.toNat true,r2.2.set s1.toNat a1),AG (s1+1),0)))
else none
else none)
else some (Sum.inl (AG (s1+1)))
else none
else some (Sum.inr ((([],[]),0,15)))) (0))
@[reducible] def MO:FnI:={ ps:=[⟨pJ,true,false,false⟩,⟨.u64,false,false,false⟩],rs:=[⟨pJ,true,true,false⟩,⟨(.int .i64),false,true,false⟩,⟨(.int .i64),false,true,false⟩],os:=[],bk:=[],F:=fun x=>C_ x.1 x.2 }
def fD:Cx:={ nm:=[(2,(2,1)),(4,(3,1)),(9,(6,1)),(25,(4,2))],AL:=[],fns:=BA [(126,II),(142,LP)],loops:=[(0,{ live:=[(17,⟨(.int .i64),false,false,false⟩)],boxes:=[],rows:=[],dead:=FU [(5,5),(18,21)],lost:=[],base:=4 })],AO:=[],tb:=A8,exts:=[],lets:=[] }
theorem Q4:CV 122 MO:=okW fD [.cell 4 37,.tmp 5,.tmp 6] 40 5 (BB (.cons LL (.cons PH AN.nil)) A3.nil) Tryz.func122
def A7 (a0:CU) (a1:(BitVec 64)):Option (CU×(Int×(BitVec 64))):=
some ((a0,(0,a1)))
@[reducible] def KT:FnI:={ ps:=[⟨D4,true,false,false⟩,⟨.u64,false,false,false⟩],rs:=[⟨D4,true,false,false⟩,⟨(.pair (.int .i64) .u64),true,false,false⟩],os:=[],bk:=[],F:=fun x=>A7 x.1 x.2 }
def kO:Cx:={ nm:=[(2,(7,1)),(4,(8,1)),(5,(9,1))],AL:=[],fns:=BA [],loops:=[],AO:=[],tb:=A8,exts:=[],lets:=[] }
theorem NO:CV 91 KT:=okW kO [.cell 4 41,.cell 5 118] 9 3 (BB AN.nil A3.nil) Tryz.func91
def MP (a0:CU) (a1:O7):Option (CU×(Int×(BitVec 64))):=
Option.bind (C9 a1.2.1 a1.2.2.1) (fun r1=>
if ¬r1.2=0 then
Option.bind (A6 a0 r1.2) (fun r2=>
some ((r2.1,r2.2)))
else Option.bind (EO a0) (fun r3=>
if r3=true then
Option.bind (A6 a0 15) (fun r4=>
some ((r4.1,r4.2)))
else Option.bind (IK a0 a1.2.1 a1.2.2.1) (fun r5=>
if ¬r5.2.2=0 then
Option.bind (A6 r5.1 r5.2.2) (fun r6=>
some ((r6.1,r6.2)))
else Option.bind (C_ r5.1.2.2.2.2.2.1 (BitVec.ofInt 64 (AG (r5.2.1+1)))) (fun r7=>
Option.bind (A7 (r5.1.1,r5.1.2.1,r5.1.2.2.1,r5.1.2.2.2.1,r5.1.2.2.2.2.1,r7.1,r5.1.2.2.2.2.2.2) (BitVec.ofInt 64 r7.2.1)) (fun r8=>
some ((r8.1,r8.2)))))))
@[reducible] def Q5:FnI:={ ps:=[⟨D4,true,false,false⟩,⟨kE,true,false,false⟩],rs:=[⟨D4,true,false,false⟩,⟨(.pair (.int .i64) .u64),true,false,false⟩],os:=[],bk:=[],F:=fun x=>MP x.1 x.2 }
def bJ:Cx:={ nm:=[(2,(7,1)),(3,(8,1)),(4,(9,1)),(5,(10,1)),(8,(32,1)),(24,(11,7)),(30,(18,7)),(39,(25,7)),(47,(33,7)),(56,(40,2)),(64,(42,7))],AL:=[],fns:=BA [(88,KS),(91,KT),(119,ID),(120,MN),(121,Q3),(122,MO)],loops:=[],AO:=[],tb:=A8,exts:=[],lets:=[] }
theorem ZD:CV 89 Q5:=okW bJ [.cell 4 41,.cell 5 118] 67 42 (BB (.cons NN (.cons NO (.cons LH (.cons Q2 (.cons ZC (.cons Q4 AN.nil)))))) A3.nil) Tryz.func89
def KG (a0:CU):Option (CU×Bool×Int):=
if a0.2.2.2.2.2.2.2.2=true then
some (((((⟨#[]⟩:ByteArray),[],0),(0,[],[]),[],0,[],([],[]),0,(0,0,0,0,0,0,0,0,0),false),false,19))
else Option.bind (FQ (a0.1,a0.2.1,a0.2.2.1,a0.2.2.2.1,a0.2.2.2.2.1,a0.2.2.2.2.2.1,a0.2.2.2.2.2.2.1,(a0.2.2.2.2.2.2.2.1.1,a0.2.2.2.2.2.2.2.1.2.1,AG (a0.2.2.2.2.2.2.2.1.2.2.1+1),a0.2.2.2.2.2.2.2.1.2.2.2),a0.2.2.2.2.2.2.2.2)) (fun r1=>
some ((r1.1,r1.2,0)))
@[reducible] def OU:FnI:={ ps:=[⟨D4,true,false,false⟩],rs:=[⟨D4,true,true,false⟩,⟨.bool,false,true,false⟩,⟨(.int .i64),false,true,false⟩],os:=[],bk:=[],F:=fun x=>KG x }
def XP:Cx:={ nm:=[(1,(7,1)),(2,(8,1)),(5,(16,1)),(18,(9,7))],AL:=[],fns:=BA [(123,MM)],loops:=[],AO:=[],tb:=A8,exts:=[],lets:=[] }
theorem WJ:CV 90 OU:=okW XP [.cell 2 41,.tmp 3,.tmp 4] 23 10 (BB (.cons Q1 AN.nil) A3.nil) Tryz.func90
def IL (a0:GC):Option Int:=
AM (σ:=(Int×Int)) (β:=Int) (fun s1=>
if s1.2<(a0.length:Int) then
if 0<=s1.2/\s1.2<(a0.length:Int) then
AM (σ:=(Int×Int)) (β:=((Int×Int) ⊕ Int)) (fun s2=>
if s2.2<((gl ([]:(List AE)) a0 s1.2.toNat).length:Int) then
if 0<=s2.2/\s2.2<((gl ([]:(List AE)) a0 s1.2.toNat).length:Int) then
some (Sum.inl ((AG (s2.1+(((((gl ((0,0,0,0,0):AE) (gl ([]:(List AE)) a0 s1.2.toNat) s2.2.toNat).2).2).2).2)),AG (s2.2+1))))
else none
else some (Sum.inr (Sum.inl ((s2.1,AG (s1.2+1)))))) ((s1.1,0))
else none
else some (Sum.inr (s1.1))) ((0,0))
@[reducible] def Q6:FnI:={ ps:=[⟨IY,false,false,false⟩],rs:=[⟨(.int .i64),false,true,false⟩],os:=[],bk:=[],F:=fun x=>IL x }
def bK:Cx:={ nm:=[(7,(2,1)),(13,(1,1))],AL:=[],fns:=BA [],loops:=[(0,{ live:=[(3,⟨(.int .i64),false,false,false⟩),(10,⟨(.int .i64),false,false,false⟩)],boxes:=[],rows:=[],dead:=FU [(5,1),(7,1),(11,15)],lost:=[],base:=1 }),(2,{ live:=[(3,⟨(.int .i64),false,false,false⟩),(16,⟨(.int .i64),false,false,false⟩)],boxes:=[],rows:=[],dead:=FU [(7,1),(17,8)],lost:=[],base:=2 })],AO:=[],tb:=A8,exts:=[],lets:=[] }
theorem ZE:CV 124 Q6:=okW bK [.tmp 2] 27 2 (BB AN.nil A3.nil) Tryz.func124
def JO (a0:CU):Option Int:=
Option.bind (IL a0.2.2.1) (fun r1=>
some (r1))
@[reducible] def NW:FnI:={ ps:=[⟨D4,true,false,false⟩],rs:=[⟨(.int .i64),false,true,false⟩],os:=[],bk:=[],F:=fun x=>JO x }
def WK:Cx:={ nm:=[(1,(7,1))],AL:=[],fns:=BA [(124,Q6)],loops:=[],AO:=[],tb:=A8,exts:=[],lets:=[] }
theorem VE:CV 92 NW:=okW WK [.tmp 2] 6 1 (BB (.cons ZE AN.nil) A3.nil) Tryz.func92
def CQ (a0:CU) (a1:Int) (a2:Bool):Option Int:=
if a1=0 then
if a2=true then
some (16)
else if a1=0 then
some (0)
else if a1<0 then
some (14)
else if a1>32 then
some (14)
else if 0<=(AG (a1-1))/\(AG (a1-1))<(a0.2.2.2.2.2.1.1.length:Int) then
if (!(gl (false:Bool) a0.2.2.2.2.2.1.1 ((AG (a1-1)).toNat)))=true then
some (14)
else some (0)
else none
else if a1=0 then
some (0)
else if a1<0 then
some (14)
else if a1>32 then
some (14)
else if 0<=(AG (a1-1))/\(AG (a1-1))<(a0.2.2.2.2.2.1.1.length:Int) then
if (!(gl (false:Bool) a0.2.2.2.2.2.1.1 ((AG (a1-1)).toNat)))=true then
some (14)
else some (0)
else none
@[reducible] def KH:FnI:={ ps:=[⟨D4,true,false,false⟩,⟨(.int .i64),false,false,false⟩,⟨.bool,false,false,false⟩],rs:=[⟨(.int .i64),false,true,false⟩],os:=[],bk:=[],F:=fun x=>CQ x.1 x.2.1 x.2.2 }
def ZF:Cx:={ nm:=[(3,(7,1))],AL:=[],fns:=BA [],loops:=[],AO:=[],tb:=A8,exts:=[],lets:=[] }
theorem OV:CV 93 KH:=okW ZF [.tmp 6] 33 1 (BB AN.nil A3.nil) Tryz.func93
def BE (a0:CU) (a1:Int):Option (BitVec 64):=
if a1=0 then
some (0#64)
else if 0<=(AG (a1-1))/\(AG (a1-1))<(a0.2.2.2.2.2.1.2.length:Int) then
some (gl (0#64:(BitVec 64)) a0.2.2.2.2.2.1.2 ((AG (a1-1)).toNat))
else none
@[reducible] def MQ:FnI:={ ps:=[⟨D4,true,false,false⟩,⟨(.int .i64),false,false,false⟩],rs:=[⟨.u64,false,true,false⟩],os:=[],bk:=[],F:=fun x=>BE x.1 x.2 }
def fE:Cx:={ nm:=[(2,(7,1))],AL:=[],fns:=BA [],loops:=[],AO:=[],tb:=A8,exts:=[],lets:=[] }
theorem Q7:CV 95 MQ:=okW fE [.tmp 4] 14 1 (BB AN.nil A3.nil) Tryz.func95
def MR (a0:Bool):Option (BitVec 64):=
if a0=true then
some (1#64)
else some (0#64)
@[reducible] def Q8:FnI:={ ps:=[⟨.bool,false,false,false⟩],rs:=[⟨.u64,false,true,false⟩],os:=[],bk:=[],F:=fun x=>MR x }
def bL:Cx:={ nm:=[],AL:=[],fns:=BA [],loops:=[],AO:=[],tb:=A8,exts:=[],lets:=[] }
theorem ZG:CV 94 Q8:=okW bL [.tmp 2] 4 0 (BB AN.nil A3.nil) Tryz.func94
def MS (a0:V8) (a1:Int):Option Int:=
Option.bind (GJ a0) (fun r1=>
if (!r1)=true then
some (1)
else if a1<1 then
some (14)
else if a1>32 then
some (14)
else if 0<=(AG (a1-1))/\(AG (a1-1))<(a0.1.length:Int) then
if (!(gl (false:Bool) a0.1 ((AG (a1-1)).toNat)))=true then
some (14)
else some (0)
else none)
@[reducible] def Q9:FnI:={ ps:=[⟨pJ,true,false,false⟩,⟨(.int .i64),false,false,false⟩],rs:=[⟨(.int .i64),false,true,false⟩],os:=[],bk:=[],F:=fun x=>MS x.1 x.2 }
def bM:Cx:={ nm:=[(2,(2,1))],AL:=[],fns:=BA [(142,LP)],loops:=[],AO:=[],tb:=A8,exts:=[],lets:=[] }
theorem ZH:CV 127 Q9:=okW bM [.tmp 4] 23 1 (BB (.cons PH AN.nil) A3.nil) Tryz.func127
def JP (a0:V8) (a1:Int):Option (V8×Int):=
Option.bind (MS a0 a1) (fun r1=>
if ¬r1=0 then
some ((([],[]),r1))
else Option.bind (FN a0) (fun r2=>
if 0<=(AG (a1-1))/\(AG (a1-1))<(r2.1.length:Int) then
if 0<=(AG (a1-1))/\(AG (a1-1))<(r2.2.length:Int) then
some (((r2.1.set ((AG (a1-1)).toNat) false,r2.2.set ((AG (a1-1)).toNat) (0#64)),0))
else none
else none))
@[reducible] def SE:FnI:={ ps:=[⟨pJ,true,false,false⟩,⟨(.int .i64),false,false,false⟩],rs:=[⟨pJ,true,true,false⟩,⟨(.int .i64),false,true,false⟩],os:=[],bk:=[],F:=fun x=>JP x.1 x.2 }
def fF:Cx:={ nm:=[(2,(2,1)),(4,(3,1)),(7,(6,1)),(16,(4,2))],AL:=[],fns:=BA [(126,II),(127,Q9)],loops:=[],AO:=[],tb:=A8,exts:=[],lets:=[] }
theorem bN:CV 97 SE:=okW fF [.cell 4 37,.tmp 5] 28 5 (BB (.cons LL (.cons ZH AN.nil)) A3.nil) Tryz.func97
def B_ (a0:CE) (a1:Int) (a2:Int) (a3:Bool):Option (Int×Int):=
Option.bind (BK a0 a1) (fun r1=>
if ¬r1.2.2=0 then
some ((0,r1.2.2))
else if a3=true then
if a2<0 then
some ((0,17))
else if a2≥r1.1 then
some ((0,17))
else Option.bind (A5 a0 a1 (AG ((1:Int)+a2))) (fun r2=>
some ((r2.1,r2.2)))
else if a2<0 then
some ((0,17))
else if a2≥r1.2.1 then
some ((0,17))
else Option.bind (A5 a0 a1 (AG ((AG ((1:Int)+r1.1))+a2))) (fun r3=>
some ((r3.1,r3.2))))
@[reducible] def LQ:FnI:={ ps:=[⟨CN,true,false,false⟩,⟨(.int .i64),false,false,false⟩,⟨(.int .i64),false,false,false⟩,⟨.bool,false,false,false⟩],rs:=[⟨(.int .i64),false,true,false⟩,⟨(.int .i64),false,true,false⟩],os:=[],bk:=[],F:=fun x=>B_ x.1 x.2.1 x.2.2.1 x.2.2.2 }
def bO:Cx:={ nm:=[(4,(2,1))],AL:=[],fns:=BA [(86,D9),(98,E5)],loops:=[],AO:=[],tb:=A8,exts:=[],lets:=[] }
theorem PI:CV 129 LQ:=okW bO [.tmp 8,.tmp 9] 45 1 (BB (.cons EM (.cons FY AN.nil)) A3.nil) Tryz.func129
def HU (a0:CE) (a1:AE):Option FC:=
AM (σ:=FC) (β:=FC) (fun s1=>
if s1.2<a1.2.2.2.2 then
if True then
Option.bind (A5 a0 (AG (a1.2.2.1*2 ^ min (BitVec.ofInt 64 a0.1).toNat 64)) s1.2) (fun r1=>
Option.bind (BK a0 r1.1) (fun r2=>
if ¬r2.2.2=0 then
some (Sum.inr (([],12)))
else if (AG ((AG ((AG (s1.2+1))+r2.1))+r2.2.1))>a1.2.2.2.2 then
some (Sum.inr (([],12)))
else if (s1.1.length+([r1.1]:List Int).length)*8<=140737488355328 then
some (Sum.inl ((s1.1++([r1.1]:List Int),AG (s1.2+(AG ((AG ((1:Int)+r2.1))+r2.2.1))))))
else none))
else none
else some (Sum.inr ((s1.1,0)))) (([],0))
@[reducible] def TS:FnI:={ ps:=[⟨CN,true,false,false⟩,⟨GX,true,false,false⟩],rs:=[⟨H0,false,true,false⟩,⟨(.int .i64),false,true,false⟩],os:=[],bk:=[],F:=fun x=>HU x.1 x.2 }
def iO:Cx:={ nm:=[(2,(2,1)),(3,(3,1)),(51,(5,1)),(52,(6,1))],AL:=[52],fns:=BA [(86,D9),(98,E5)],loops:=[(0,{ live:=[(6,⟨H0,false,true,false⟩),(7,⟨(.int .i64),false,false,false⟩)],boxes:=[],rows:=[],dead:=FU [(4,2),(8,51)],lost:=[],base:=4 })],AO:=[],tb:=A8,exts:=[],lets:=[] }
theorem fG:CV 155 TS:=okW iO [.tmp 4,.tmp 5] 60 5 (BB (.cons EM (.cons FY AN.nil)) A3.nil) Tryz.func155
def FT (a0:CU) (a1:Int):Option Bool:=
if a1<0 then
some (false)
else if a1≥(a0.2.1.2.1.length:Int) then
some (false)
else if True then
if 0<=(a1 / 2 ^ min (BitVec.ofInt 64 a0.2.1.1).toNat 64)/\(a1 / 2 ^ min (BitVec.ofInt 64 a0.2.1.1).toNat 64)<(a0.2.1.2.2.length:Int) then
Option.bind (EN a0.2.2.1 ((gl ((0,0,0):A4) a0.2.1.2.2 ((a1 / 2 ^ min (BitVec.ofInt 64 a0.2.1.1).toNat 64).toNat)).1)) (fun r1=>
if (!r1.2)=true then
some (false)
else Option.bind (HU a0.2.1 r1.1) (fun r2=>
AM (σ:=Int) (β:=Bool) (fun s1=>
if s1<(r2.1.length:Int) then
if 0<=s1/\s1<(r2.1.length:Int) then
if (gl (0:Int) r2.1 s1.toNat)=a1 then
some (Sum.inr (true))
else some (Sum.inl (AG (s1+1)))
else none
else some (Sum.inr (false))) (0)))
else none
else none
@[reducible] def OW:FnI:={ ps:=[⟨D4,true,false,false⟩,⟨(.int .i64),false,false,false⟩],rs:=[⟨.bool,false,true,false⟩],os:=[],bk:=[],F:=fun x=>FT x.1 x.2 }
def kP:Cx:={ nm:=[(2,(7,1)),(5,(8,1)),(45,(9,1))],AL:=[],fns:=BA [(154,MH),(155,TS)],loops:=[(0,{ live:=[(50,⟨(.int .i64),false,false,false⟩)],boxes:=[],rows:=[],dead:=[4,10,51,52,53,54,55,56,57],lost:=[],base:=10 })],AO:=[],tb:=A8,exts:=[],lets:=[] }
theorem TT:CV 145 OW:=okW kP [.tmp 4] 58 3 (BB (.cons QV (.cons fG AN.nil)) A3.nil) Tryz.func145
def GK (a0:CU) (a1:Int) (a2:Int) (a3:Bool):Option (Int×Int):=
if a0.2.2.2.2.2.2.2.2=true then
some ((0,19))
else Option.bind (FT a0 a1) (fun r1=>
if (!r1)=true then
some ((0,1))
else Option.bind (B_ a0.2.1 a1 a2 a3) (fun r2=>
some ((r2.1,r2.2))))
@[reducible] def LR:FnI:={ ps:=[⟨D4,true,false,false⟩,⟨(.int .i64),false,false,false⟩,⟨(.int .i64),false,false,false⟩,⟨.bool,false,false,false⟩],rs:=[⟨(.int .i64),false,true,false⟩,⟨(.int .i64),false,true,false⟩],os:=[],bk:=[],F:=fun x=>GK x.1 x.2.1 x.2.2.1 x.2.2.2 }
def bP:Cx:={ nm:=[(4,(7,1))],AL:=[],fns:=BA [(129,LQ),(145,OW)],loops:=[],AO:=[],tb:=A8,exts:=[],lets:=[] }
theorem PJ:CV 144 LR:=okW bP [.tmp 8,.tmp 9] 24 1 (BB (.cons PI (.cons TT AN.nil)) A3.nil) Tryz.func144
def D3 (a0:CU) (a1:Int) (a2:Int) (a3:(BitVec 64)):Option (CU×Int):=
Option.bind (GK a0 a1 a2 true) (fun r1=>
if r1.2=19 then
some (((((⟨#[]⟩:ByteArray),[],0),(0,[],[]),[],0,[],([],[]),0,(0,0,0,0,0,0,0,0,0),false),r1.2))
else if ¬a3=(0#64) then
if a3.toNat>(BitVec.ofInt 64 (a0.2.1.2.1.length:Int)).toNat then
if ¬(1:Int)=0 then
some (((((⟨#[]⟩:ByteArray),[],0),(0,[],[]),[],0,[],([],[]),0,(0,0,0,0,0,0,0,0,0),false),1))
else Option.bind (BL a0) (fun r2=>
if 0<=r1.1/\r1.1<(r2.2.1.2.1.length:Int) then
Option.bind (CH (r2.2.1.1,r2.2.1.2.1.set r1.1.toNat a3,r2.2.1.2.2) r2.2.2.2.2.1 r1.1 a3) (fun r3=>
some (((r2.1,(r2.2.1.1,r3.2),r2.2.2.1,r2.2.2.2.1,r3.1,r2.2.2.2.2.2),0)))
else none)
else Option.bind (FT a0 (AG (((a3-(1#64)).toNat:Int)))) (fun r4=>
if (!r4)=true then
if ¬(1:Int)=0 then
some (((((⟨#[]⟩:ByteArray),[],0),(0,[],[]),[],0,[],([],[]),0,(0,0,0,0,0,0,0,0,0),false),1))
else Option.bind (BL a0) (fun r5=>
if 0<=r1.1/\r1.1<(r5.2.1.2.1.length:Int) then
Option.bind (CH (r5.2.1.1,r5.2.1.2.1.set r1.1.toNat a3,r5.2.1.2.2) r5.2.2.2.2.1 r1.1 a3) (fun r6=>
some (((r5.1,(r5.2.1.1,r6.2),r5.2.2.1,r5.2.2.2.1,r6.1,r5.2.2.2.2.2),0)))
else none)
else if ¬r1.2=0 then
some (((((⟨#[]⟩:ByteArray),[],0),(0,[],[]),[],0,[],([],[]),0,(0,0,0,0,0,0,0,0,0),false),r1.2))
else Option.bind (BL a0) (fun r7=>
if 0<=r1.1/\r1.1<(r7.2.1.2.1.length:Int) then
Option.bind (CH (r7.2.1.1,r7.2.1.2.1.set r1.1.toNat a3,r7.2.1.2.2) r7.2.2.2.2.1 r1.1 a3) (fun r8=>
some (((r7.1,(r7.2.1.1,r8.2),r7.2.2.1,r7.2.2.2.1,r8.1,r7.2.2.2.2.2),0)))
else none))
else if ¬r1.2=0 then
some (((((⟨#[]⟩:ByteArray),[],0),(0,[],[]),[],0,[],([],[]),0,(0,0,0,0,0,0,0,0,0),false),r1.2))
else Option.bind (BL a0) (fun r9=>
if 0<=r1.1/\r1.1<(r9.2.1.2.1.length:Int) then
Option.bind (CH (r9.2.1.1,r9.2.1.2.1.set r1.1.toNat a3,r9.2.1.2.2) r9.2.2.2.2.1 r1.1 a3) (fun LZ=>
some (((r9.1,(r9.2.1.1,LZ.2),r9.2.2.1,r9.2.2.2.1,LZ.1,r9.2.2.2.2.2),0)))
else none))
@[reducible] def NX:FnI:={ ps:=[⟨D4,true,false,false⟩,⟨(.int .i64),false,false,false⟩,⟨(.int .i64),false,false,false⟩,⟨.u64,false,false,false⟩],rs:=[⟨D4,true,true,false⟩,⟨(.int .i64),false,true,false⟩],os:=[],bk:=[],F:=fun x=>D3 x.1 x.2.1 x.2.2.1 x.2.2.2 }
def WL:Cx:={ nm:=[(4,(7,1)),(8,(8,1)),(12,(16,1)),(48,(9,7)),(61,(17,1))],AL:=[],fns:=BA [(96,DG),(144,LR),(145,OW),(146,MK)],loops:=[],AO:=[],tb:=A8,exts:=[],lets:=[] }
theorem VF:CV 130 NX:=okW WL [.cell 8 41,.tmp 9] 64 11 (BB (.cons DT (.cons PJ (.cons TT (.cons QX AN.nil)))) A3.nil) Tryz.func130
def DL (a0:CU) (a1:Int) (a2:Int) (a3:(BitVec 64)):Option (CU×Int):=
Option.bind (GK a0 a1 a2 false) (fun r1=>
if ¬r1.2=0 then
some (((((⟨#[]⟩:ByteArray),[],0),(0,[],[]),[],0,[],([],[]),0,(0,0,0,0,0,0,0,0,0),false),r1.2))
else Option.bind (BL a0) (fun r2=>
if 0<=r1.1/\r1.1<(r2.2.1.2.1.length:Int) then
some (((r2.1,(r2.2.1.1,r2.2.1.2.1.set r1.1.toNat a3,r2.2.1.2.2),r2.2.2),0))
else none))
@[reducible] def M7:FnI:={ ps:=[⟨D4,true,false,false⟩,⟨(.int .i64),false,false,false⟩,⟨(.int .i64),false,false,false⟩,⟨.u64,false,false,false⟩],rs:=[⟨D4,true,true,false⟩,⟨(.int .i64),false,true,false⟩],os:=[],bk:=[],F:=fun x=>DL x.1 x.2.1 x.2.2.1 x.2.2.2 }
def VG:Cx:={ nm:=[(4,(7,1)),(8,(8,1)),(12,(16,1)),(25,(9,7))],AL:=[],fns:=BA [(96,DG),(144,LR)],loops:=[],AO:=[],tb:=A8,exts:=[],lets:=[] }
theorem UG:CV 131 M7:=okW VG [.cell 8 41,.tmp 9] 33 10 (BB (.cons DT (.cons PJ AN.nil)) A3.nil) Tryz.func131
def E9 (a0:CU) (a1:O7):Option (CU×(Int×(BitVec 64))):=
if a1.1=2 then
Option.bind (BE a0 a1.2.1) (fun r1=>
Option.bind (B_ a0.2.1 (AG ((AG ((r1.toNat:Int)))-1)) a1.2.2.1 true) (fun r2=>
if ¬r2.2=0 then
Option.bind (A6 a0 r2.2) (fun r3=>
some ((r3.1,r3.2)))
else if 0<=r2.1/\r2.1<(a0.2.1.2.1.length:Int) then
if a1.1=4 then
Option.bind (A7 a0 (gl (0#64:(BitVec 64)) a0.2.1.2.1 r2.1.toNat)) (fun r4=>
some ((r4.1,r4.2)))
else if a1.1=2 then
if (gl (0#64:(BitVec 64)) a0.2.1.2.1 r2.1.toNat)=(0#64) then
Option.bind (A7 a0 (0#64)) (fun r5=>
some ((r5.1,r5.2)))
else Option.bind (EO a0) (fun r6=>
if r6=true then
Option.bind (A6 a0 15) (fun r7=>
some ((r7.1,r7.2)))
else Option.bind (BL a0) (fun r8=>
Option.bind (C_ r8.2.2.2.2.2.1 (gl (0#64:(BitVec 64)) a0.2.1.2.1 r2.1.toNat)) (fun r9=>
Option.bind (A7 (r8.1,r8.2.1,r8.2.2.1,r8.2.2.2.1,r8.2.2.2.2.1,r9.1,r8.2.2.2.2.2.2) (BitVec.ofInt 64 r9.2.1)) (fun LZ=>
some ((LZ.1,LZ.2))))))
else if a1.1=3 then
Option.bind (CQ a0 a1.2.2.2 false) (fun VL=>
if ¬VL=0 then
Option.bind (A6 a0 VL) (fun QU=>
some ((QU.1,QU.2)))
else Option.bind (BE a0 a1.2.1) (fun UF=>
Option.bind (BE a0 a1.2.2.2) (fun tX=>
Option.bind (D3 a0 (AG ((AG ((UF.toNat:Int)))-1)) a1.2.2.1 tX) (fun sZ=>
Option.bind (A7 sZ.1 (0#64)) (fun tY=>
some ((tY.1,tY.2)))))))
else Option.bind (BE a0 a1.2.1) (fun r17=>
Option.bind (DL a0 (AG ((AG ((r17.toNat:Int)))-1)) a1.2.2.1 (BitVec.ofInt 64 a1.2.2.2)) (fun r18=>
Option.bind (A7 r18.1 (0#64)) (fun r19=>
some ((r19.1,r19.2)))))
else none))
else Option.bind (BE a0 a1.2.1) (fun r20=>
Option.bind (B_ a0.2.1 (AG ((AG ((r20.toNat:Int)))-1)) a1.2.2.1 (decide (a1.1=3))) (fun qB=>
if ¬qB.2=0 then
Option.bind (A6 a0 qB.2) (fun r22=>
some ((r22.1,r22.2)))
else if 0<=qB.1/\qB.1<(a0.2.1.2.1.length:Int) then
if a1.1=4 then
Option.bind (A7 a0 (gl (0#64:(BitVec 64)) a0.2.1.2.1 qB.1.toNat)) (fun XQ=>
some ((XQ.1,XQ.2)))
else if a1.1=2 then
if (gl (0#64:(BitVec 64)) a0.2.1.2.1 qB.1.toNat)=(0#64) then
Option.bind (A7 a0 (0#64)) (fun r24=>
some ((r24.1,r24.2)))
else Option.bind (EO a0) (fun r25=>
if r25=true then
Option.bind (A6 a0 15) (fun uV=>
some ((uV.1,uV.2)))
else Option.bind (BL a0) (fun qC=>
Option.bind (C_ qC.2.2.2.2.2.1 (gl (0#64:(BitVec 64)) a0.2.1.2.1 qB.1.toNat)) (fun r28=>
Option.bind (A7 (qC.1,qC.2.1,qC.2.2.1,qC.2.2.2.1,qC.2.2.2.2.1,r28.1,qC.2.2.2.2.2.2) (BitVec.ofInt 64 r28.2.1)) (fun tZ=>
some ((tZ.1,tZ.2))))))
else if a1.1=3 then
Option.bind (CQ a0 a1.2.2.2 false) (fun r30=>
if ¬r30=0 then
Option.bind (A6 a0 r30) (fun s7=>
some ((s7.1,s7.2)))
else Option.bind (BE a0 a1.2.1) (fun r32=>
Option.bind (BE a0 a1.2.2.2) (fun r33=>
Option.bind (D3 a0 (AG ((AG ((r32.toNat:Int)))-1)) a1.2.2.1 r33) (fun r34=>
Option.bind (A7 r34.1 (0#64)) (fun r35=>
some ((r35.1,r35.2)))))))
else Option.bind (BE a0 a1.2.1) (fun r36=>
Option.bind (DL a0 (AG ((AG ((r36.toNat:Int)))-1)) a1.2.2.1 (BitVec.ofInt 64 a1.2.2.2)) (fun r37=>
Option.bind (A7 r37.1 (0#64)) (fun r38=>
some ((r38.1,r38.2)))))
else none))
@[reducible] def Q_:FnI:={ ps:=[⟨D4,true,false,false⟩,⟨kE,true,false,false⟩],rs:=[⟨D4,true,false,false⟩,⟨(.pair (.int .i64) .u64),true,false,false⟩],os:=[],bk:=[],F:=fun x=>E9 x.1 x.2 }
def bQ:Cx:={ nm:=[(2,(7,1)),(3,(8,1)),(4,(9,1)),(5,(10,1)),(10,(46,1)),(13,(70,1)),(15,(85,1)),(44,(11,7)),(59,(18,7)),(67,(25,7)),(73,(32,7)),(77,(39,7)),(82,(47,2)),(90,(49,7)),(103,(56,7)),(120,(63,7)),(124,(71,7)),(140,(78,7)),(144,(86,7))],AL:=[],fns:=BA [(88,KS),(91,KT),(93,KH),(95,MQ),(96,DG),(120,MN),(122,MO),(129,LQ),(130,NX),(131,M7)],loops:=[],AO:=[],tb:=A8,exts:=[],lets:=[] }
theorem ZI:CV 99 Q_:=okW bQ [.cell 4 41,.cell 5 118] 147 86 (BB (.cons NN (.cons NO (.cons OV (.cons Q7 (.cons DT (.cons Q2 (.cons Q4 (.cons PI (.cons VF (.cons UG AN.nil)))))))))) A3.nil) Tryz.func99
def L7 (a0:CU) (a1:O7):Option (CU×(Int×(BitVec 64))):=
if a1.1<1 then
if a0.2.2.2.2.2.2.2.2=true then
if ¬a1.1=0 then
Option.bind (A6 a0 19) (fun r1=>
some ((r1.1,r1.2)))
else Option.bind (A6 a0 20) (fun r2=>
some ((r2.1,r2.2)))
else Option.bind (A6 a0 20) (fun r3=>
some ((r3.1,r3.2)))
else if a1.1>10 then
if a0.2.2.2.2.2.2.2.2=true then
if ¬a1.1=0 then
Option.bind (A6 a0 19) (fun r4=>
some ((r4.1,r4.2)))
else Option.bind (A6 a0 20) (fun r5=>
some ((r5.1,r5.2)))
else Option.bind (A6 a0 20) (fun r6=>
some ((r6.1,r6.2)))
else if a0.2.2.2.2.2.2.2.2=true then
Option.bind (A6 a0 19) (fun r7=>
some ((r7.1,r7.2)))
else if a1.1=1 then
Option.bind (MP a0 a1) (fun r8=>
some ((r8.1,r8.2)))
else if a1.1=8 then
Option.bind (KG a0) (fun r9=>
Option.bind (A7 r9.1 (0#64)) (fun LZ=>
some ((LZ.1,LZ.2))))
else if a1.1=10 then
Option.bind (JO a0) (fun VL=>
Option.bind (A7 a0 (BitVec.ofInt 64 VL)) (fun QU=>
some ((QU.1,QU.2))))
else if a1.1=6 then
Option.bind (CQ a0 a1.2.1 false) (fun UF=>
if ¬UF=0 then
Option.bind (A6 a0 UF) (fun tX=>
some ((tX.1,tX.2)))
else Option.bind (CQ a0 a1.2.2.1 false) (fun sZ=>
if ¬sZ=0 then
Option.bind (A6 a0 sZ) (fun tY=>
some ((tY.1,tY.2)))
else Option.bind (BE a0 a1.2.1) (fun r17=>
Option.bind (BE a0 a1.2.2.1) (fun r18=>
Option.bind (MR (decide (r17=r18))) (fun r19=>
Option.bind (A7 a0 r19) (fun r20=>
some ((r20.1,r20.2))))))))
else Option.bind (CQ a0 a1.2.1 true) (fun qB=>
if ¬qB=0 then
Option.bind (A6 a0 qB) (fun r22=>
some ((r22.1,r22.2)))
else if a1.1=7 then
Option.bind (BL a0) (fun XQ=>
Option.bind (JP XQ.2.2.2.2.2.1 a1.2.1) (fun r24=>
Option.bind (A7 (XQ.1,XQ.2.1,XQ.2.2.1,XQ.2.2.2.1,XQ.2.2.2.2.1,r24.1,XQ.2.2.2.2.2.2) (0#64)) (fun r25=>
some ((r25.1,r25.2)))))
else if a1.1=9 then
Option.bind (BE a0 a1.2.1) (fun uV=>
Option.bind (BK a0.2.1 (AG ((AG ((uV.toNat:Int)))-1))) (fun qC=>
Option.bind (A7 a0 (BitVec.ofInt 64 (AG ((AG ((256:Int)*qC.1))+qC.2.1)))) (fun r28=>
some ((r28.1,r28.2)))))
else Option.bind (E9 a0 a1) (fun tZ=>
some ((tZ.1,tZ.2))))
@[reducible] def UX:FnI:={ ps:=[⟨D4,true,false,false⟩,⟨kE,true,false,false⟩],rs:=[⟨D4,true,false,false⟩,⟨(.pair (.int .i64) .u64),true,false,false⟩],os:=[],bk:=[],F:=fun x=>L7 x.1 x.2 }
def kQ:Cx:={ nm:=[(2,(7,1)),(3,(8,1)),(4,(9,1)),(5,(10,1)),(6,(46,1)),(12,(96,1)),(32,(11,7)),(36,(18,7)),(42,(25,7)),(51,(32,7)),(58,(39,7)),(63,(47,7)),(72,(54,7)),(85,(61,7)),(96,(68,7)),(110,(75,7)),(121,(82,7)),(129,(89,7)),(135,(97,2)),(140,(99,7)),(164,(106,7)),(169,(113,7))],AL:=[],fns:=BA [(88,KS),(89,Q5),(90,OU),(91,KT),(92,NW),(93,KH),(94,Q8),(95,MQ),(96,DG),(97,SE),(98,E5),(99,Q_)],loops:=[],AO:=[],tb:=A8,exts:=[],lets:=[] }
theorem iP:CV 59 UX:=okW kQ [.cell 4 41,.cell 5 118] 172 113 (BB (.cons NN (.cons ZD (.cons WJ (.cons NO (.cons VE (.cons OV (.cons ZG (.cons Q7 (.cons DT (.cons bN (.cons FY (.cons ZI AN.nil)))))))))))) A3.nil) Tryz.func59
def JQ (a0:LD):Option LD:=
if (([]:List Bool).length+a0.2.1.length)*1<=140737488355328 then
if (([]:List Int).length+a0.2.2.length)*8<=140737488355328 then
AM (σ:=(Int×LD)) (β:=LD) (fun s1=>
if s1.1<(a0.1.length:Int) then
if 0<=s1.1/\s1.1<(a0.1.length:Int) then
if (([]:List Int).length+((gl (([],[]):I8) a0.1 s1.1.toNat).1).length)*8<=140737488355328 then
if (([]:List (BitVec 64)).length+((gl (([],[]):I8) a0.1 s1.1.toNat).2).length)*8<=140737488355328 then
if (s1.2.1.length+([(([]:List Int)++((gl (([],[]):I8) a0.1 s1.1.toNat).1),([]:List (BitVec 64))++((gl (([],[]):I8) a0.1 s1.1.toNat).2))]:List I8).length)*48<=140737488355328 then
some (Sum.inl ((AG (s1.1+1),(s1.2.1++([(([]:List Int)++((gl (([],[]):I8) a0.1 s1.1.toNat).1),([]:List (BitVec 64))++((gl (([],[]):I8) a0.1 s1.1.toNat).2))]:List I8),s1.2.2))))
else none
else none
else none
else none
else some (Sum.inr (s1.2))) ((0,([],([]:List Bool)++a0.2.1,([]:List Int)++a0.2.2)))
else none
else none
@[reducible] def SF:FnI:={ ps:=[⟨QK,true,false,false⟩],rs:=[⟨QK,true,true,false⟩],os:=[],bk:=[],F:=fun x=>JQ x }
def fH:Cx:={ nm:=[(1,(3,1)),(2,(4,1)),(3,(7,1)),(5,(10,1)),(8,(5,1)),(11,(6,1)),(19,(8,2)),(24,(11,1)),(27,(12,1)),(29,(13,1)),(30,(14,1))],AL:=[8,11,24,27,29,30],fns:=BA [],loops:=[(0,{ live:=[(16,⟨(.int .i64),false,false,false⟩)],boxes:=[(7,⟨QK,true,true,false⟩)],rows:=[],dead:=FU [(5,1),(17,16)],lost:=[5,6],base:=15,pins:=[(16,5,7),(17,6,7)] })],AO:=[],tb:=A8,exts:=[],lets:=[] }
theorem bR:CV 100 SF:=okW fH [.cell 2 44] 34 15 (BB AN.nil A3.nil) Tryz.func100
def AU (a0:LD) (a1:Int):Option (LD×(Int×(BitVec 64))):=
some ((a0,(a1,0#64)))
@[reducible] def SG:FnI:={ ps:=[⟨QK,true,false,false⟩,⟨(.int .i64),false,false,false⟩],rs:=[⟨QK,true,false,false⟩,⟨(.pair (.int .i64) .u64),true,false,false⟩],os:=[],bk:=[],F:=fun x=>AU x.1 x.2 }
def fI:Cx:={ nm:=[(2,(3,1)),(4,(4,1)),(5,(5,1))],AL:=[],fns:=BA [],loops:=[],AO:=[],tb:=A8,exts:=[],lets:=[] }
theorem bS:CV 101 SG:=okW fI [.cell 4 44,.cell 5 118] 9 3 (BB AN.nil A3.nil) Tryz.func101
def EP (a0:LD):Option Int:=
AM (σ:=Int) (β:=Int) (fun s1=>
if s1<(a0.2.1.length:Int) then
if 0<=s1/\s1<(a0.2.1.length:Int) then
if (!(gl (false:Bool) a0.2.1 s1.toNat))=true then
some (Sum.inr (AG (s1+1)))
else some (Sum.inl (AG (s1+1)))
else none
else some (Sum.inr (0))) (0)
@[reducible] def SH:FnI:={ ps:=[⟨QK,true,false,false⟩],rs:=[⟨(.int .i64),false,true,false⟩],os:=[],bk:=[],F:=fun x=>EP x }
def fJ:Cx:={ nm:=[(1,(3,1))],AL:=[],fns:=BA [],loops:=[(0,{ live:=[(8,⟨(.int .i64),false,false,false⟩)],boxes:=[],rows:=[],dead:=FU [(2,3),(9,9)],lost:=[],base:=4 })],AO:=[],tb:=A8,exts:=[],lets:=[] }
theorem bT:CV 102 SH:=okW fJ [.tmp 2] 18 1 (BB AN.nil A3.nil) Tryz.func102
def IM (a0:LD):Option (List Int):=
if 0<=(a0.1.length:Int)/\(a0.1.length:Int)<=(a0.1.length:Int)/\(a0.1.length:Int)*((1:Nat):Int)<=140737488355328 then
AM (σ:=(Int×(List Bool))) (β:=(List Int)) (fun s1=>
if s1.1<(a0.2.1.length:Int) then
if 0<=s1.1/\s1.1<(a0.2.1.length:Int) then
if (gl (false:Bool) a0.2.1 s1.1.toNat)=true then
if 0<=s1.1/\s1.1<(a0.2.2.length:Int) then
if 0<=(gl (0:Int) a0.2.2 s1.1.toNat)/\(gl (0:Int) a0.2.2 s1.1.toNat)<(s1.2.length:Int) then
some (Sum.inl ((AG (s1.1+1),s1.2.set ((gl (0:Int) a0.2.2 s1.1.toNat).toNat) true)))
else none
else none
else some (Sum.inl ((AG (s1.1+1),s1.2)))
else none
else Option.map Sum.inr (AM (σ:=(Bool×(List Bool))) (β:=(List Int)) (fun s2=>
if s2.1=true then
AM (σ:=(Bool×Int×(List Bool))) (β:=((Bool×(List Bool)) ⊕ (List Int))) (fun s3=>
if s3.2.1<(a0.1.length:Int) then
if 0<=s3.2.1/\s3.2.1<(a0.1.length:Int) then
AM (σ:=(Bool×Int×(List Bool))) (β:=((Bool×Int×(List Bool)) ⊕ ((Bool×(List Bool)) ⊕ (List Int)))) (fun s4=>
if s4.2.1<(((gl (([],[]):I8) a0.1 s3.2.1.toNat).1).length:Int) then
if 0<=s4.2.1/\s4.2.1<(((gl (([],[]):I8) a0.1 s3.2.1.toNat).1).length:Int) then
if 0<=s3.2.1/\s3.2.1<(s4.2.2.length:Int) then
if (gl (false:Bool) s4.2.2 s3.2.1.toNat)=true then
if (gl (0:Int) ((gl (([],[]):I8) a0.1 s3.2.1.toNat).1) s4.2.1.toNat)≥0 then
if 0<=(gl (0:Int) ((gl (([],[]):I8) a0.1 s3.2.1.toNat).1) s4.2.1.toNat)/\(gl (0:Int) ((gl (([],[]):I8) a0.1 s3.2.1.toNat).1) s4.2.1.toNat)<(s4.2.2.length:Int) then
if (!(gl (false:Bool) s4.2.2 ((gl (0:Int) ((gl (([],[]):I8) a0.1 s3.2.1.toNat).1) s4.2.1.toNat).toNat)))=true then
if 0<=(gl (0:Int) ((gl (([],[]):I8) a0.1 s3.2.1.toNat).1) s4.2.1.toNat)/\(gl (0:Int) ((gl (([],[]):I8) a0.1 s3.2.1.toNat).1) s4.2.1.toNat)<(s4.2.2.length:Int) then
some (Sum.inl ((true,AG (s4.2.1+1),s4.2.2.set ((gl (0:Int) ((gl (([],[]):I8) a0.1 s3.2.1.toNat).1) s4.2.1.toNat).toNat) true)))
else none
else some (Sum.inl ((s4.1,AG (s4.2.1+1),s4.2.2)))
else none
else some (Sum.inl ((s4.1,AG (s4.2.1+1),s4.2.2)))
else some (Sum.inl ((s4.1,AG (s4.2.1+1),s4.2.2)))
else none
else none
else some (Sum.inr (Sum.inl ((s4.1,AG (s3.2.1+1),s4.2.2))))) ((s3.1,0,s3.2.2))
else none
else some (Sum.inr (Sum.inl ((s3.1,s3.2.2))))) ((false,0,s2.2))
else Option.map Sum.inr (AM (σ:=FC) (β:=(List Int)) (fun s5=>
if s5.2<(s2.2.length:Int) then
if 0<=s5.2/\s5.2<(s2.2.length:Int) then
if (gl (false:Bool) s2.2 s5.2.toNat)=true then
if (s5.1.length+([s5.2]:List Int).length)*8<=140737488355328 then
some (Sum.inl ((s5.1++([s5.2]:List Int),AG (s5.2+1))))
else none
else some (Sum.inl ((s5.1,AG (s5.2+1))))
else none
else some (Sum.inr (s5.1))) (([],0)))) ((true,s1.2)))) ((0,List.replicate (a0.1.length:Int).toNat (false:Bool)))
else none
@[reducible] def RA:FnI:={ ps:=[⟨QK,true,false,false⟩],rs:=[⟨H0,false,true,false⟩],os:=[],bk:=[],F:=fun x=>IM x }
def bU:Cx:={ nm:=[(1,(3,1)),(8,(7,1)),(17,(4,1)),(43,(5,2)),(81,(9,1)),(82,(10,1))],AL:=[17,82],fns:=BA [],loops:=[(0,{ live:=[(21,⟨(.int .i64),false,false,false⟩)],boxes:=[],rows:=[(4,.bool)],dead:=FU [(4,2),(22,13)],lost:=[],base:=5 }),(2,{ live:=[(6,⟨.bool,false,false,false⟩)],boxes:=[],rows:=[(4,.bool)],dead:=FU [(7,2),(10,1),(35,36)],lost:=[],base:=5 }),(4,{ live:=[(6,⟨.bool,false,false,false⟩),(39,⟨(.int .i64),false,false,false⟩)],boxes:=[],rows:=[(4,.bool)],dead:=FU [(7,2),(10,1),(40,31)],lost:=[],base:=5 }),(6,{ live:=[(6,⟨.bool,false,false,false⟩),(47,⟨(.int .i64),false,false,false⟩)],boxes:=[],rows:=[(4,.bool)],dead:=FU [(10,1),(48,22)],lost:=[],base:=8 }),(8,{ live:=[(11,⟨H0,false,true,false⟩),(73,⟨(.int .i64),false,false,false⟩)],boxes:=[],rows:=[],dead:=FU [(12,2),(74,10)],lost:=[],base:=8 })],AO:=[],tb:=A8,exts:=[],lets:=[] }
theorem ZJ:CV 132 RA:=okW bU [.tmp 2] 85 8 (BB AN.nil A3.nil) Tryz.func132
def JR (a0:LD):Option Int:=
Option.bind (IM a0) (fun r1=>
AM (σ:=(Int×Int)) (β:=Int) (fun s1=>
if s1.2<(r1.length:Int) then
if 0<=s1.2/\s1.2<(r1.length:Int) then
if 0<=(gl (0:Int) r1 s1.2.toNat)/\(gl (0:Int) r1 s1.2.toNat)<(a0.1.length:Int) then
if 0<=(gl (0:Int) r1 s1.2.toNat)/\(gl (0:Int) r1 s1.2.toNat)<(a0.1.length:Int) then
some (Sum.inl ((AG (s1.1+(AG ((AG ((1:Int)+(((gl (([],[]):I8) a0.1 ((gl (0:Int) r1 s1.2.toNat).toNat)).1).length:Int)))+(((gl (([],[]):I8) a0.1 ((gl (0:Int) r1 s1.2.toNat).toNat)).2).length:Int)))),AG (s1.2+1))))
else none
else none
else none
else some (Sum.inr (s1.1))) ((0,0)))
@[reducible] def SI:FnI:={ ps:=[⟨QK,true,false,false⟩],rs:=[⟨(.int .i64),false,true,false⟩],os:=[],bk:=[],F:=fun x=>JR x }
def fK:Cx:={ nm:=[(1,(3,1)),(7,(4,1)),(19,(5,2)),(27,(7,2))],AL:=[],fns:=BA [(132,RA)],loops:=[(0,{ live:=[(3,⟨(.int .i64),false,false,false⟩),(9,⟨(.int .i64),false,false,false⟩)],boxes:=[],rows:=[],dead:=FU [(5,1),(10,22)],lost:=[],base:=5 })],AO:=[],tb:=A8,exts:=[],lets:=[] }
theorem bV:CV 103 SI:=okW fK [.tmp 2] 33 6 (BB (.cons ZJ AN.nil) A3.nil) Tryz.func103
def CR (a0:LD) (a1:Int) (a2:Bool):Option Int:=
if a1=0 then
if a2=true then
some (16)
else if a1=0 then
some (0)
else if a1<0 then
some (14)
else if a1>32 then
some (14)
else if 0<=(AG (a1-1))/\(AG (a1-1))<(a0.2.1.length:Int) then
if (!(gl (false:Bool) a0.2.1 ((AG (a1-1)).toNat)))=true then
some (14)
else some (0)
else none
else if a1=0 then
some (0)
else if a1<0 then
some (14)
else if a1>32 then
some (14)
else if 0<=(AG (a1-1))/\(AG (a1-1))<(a0.2.1.length:Int) then
if (!(gl (false:Bool) a0.2.1 ((AG (a1-1)).toNat)))=true then
some (14)
else some (0)
else none
@[reducible] def PK:FnI:={ ps:=[⟨QK,true,false,false⟩,⟨(.int .i64),false,false,false⟩,⟨.bool,false,false,false⟩],rs:=[⟨(.int .i64),false,true,false⟩],os:=[],bk:=[],F:=fun x=>CR x.1 x.2.1 x.2.2 }
def ZK:Cx:={ nm:=[(3,(3,1))],AL:=[],fns:=BA [],loops:=[],AO:=[],tb:=A8,exts:=[],lets:=[] }
theorem XR:CV 104 PK:=okW ZK [.tmp 6] 32 1 (BB AN.nil A3.nil) Tryz.func104
def BZ (a0:LD) (a1:Int):Option Int:=
if a1=0 then
some ((-1))
else if 0<=(AG (a1-1))/\(AG (a1-1))<(a0.2.2.length:Int) then
some (gl (0:Int) a0.2.2 ((AG (a1-1)).toNat))
else none
@[reducible] def SJ:FnI:={ ps:=[⟨QK,true,false,false⟩,⟨(.int .i64),false,false,false⟩],rs:=[⟨(.int .i64),false,true,false⟩],os:=[],bk:=[],F:=fun x=>BZ x.1 x.2 }
def fL:Cx:={ nm:=[(2,(3,1))],AL:=[],fns:=BA [],loops:=[],AO:=[],tb:=A8,exts:=[],lets:=[] }
theorem bW:CV 105 SJ:=okW fL [.tmp 4] 13 1 (BB AN.nil A3.nil) Tryz.func105
def L8 (a0:LD) (a1:O7):Option (LD×(Int×(BitVec 64))):=
Option.bind (JQ a0) (fun r1=>
Option.bind (α:=Unit ⊕ (LD×(Int×(BitVec 64)))) (if a1.1=1 then
if a1.2.1<0 then
Option.bind (AU a0 13) (fun r2=>
some (Sum.inr ((r2.1,r2.2))))
else if a1.2.1>15 then
Option.bind (AU a0 13) (fun r3=>
some (Sum.inr ((r3.1,r3.2))))
else if a1.2.2.1<0 then
Option.bind (AU a0 13) (fun r4=>
some (Sum.inr ((r4.1,r4.2))))
else if a1.2.2.1>32 then
Option.bind (AU a0 13) (fun r5=>
some (Sum.inr ((r5.1,r5.2))))
else Option.bind (EP a0) (fun r6=>
if r6=0 then
Option.bind (AU a0 15) (fun r7=>
some (Sum.inr ((r7.1,r7.2))))
else if 0<=a1.2.2.1/\a1.2.2.1<=a1.2.2.1/\a1.2.2.1*((8:Nat):Int)<=140737488355328 then
AM (σ:=(Int×I8)) (β:=(Unit ⊕ (LD×(Int×(BitVec 64))))) (fun s1=>
if s1.1<a1.2.1 then
if (s1.2.1.length+([(-1)]:List Int).length)*8<=140737488355328 then
some (Sum.inl ((AG (s1.1+1),(s1.2.1++([(-1)]:List Int),s1.2.2))))
else none
else Option.map Sum.inr (if (r1.1.length+([(s1.2.1,s1.2.2)]:List I8).length)*48<=140737488355328 then
if 0<=(AG (r6-1))/\(AG (r6-1))<(r1.2.1.length:Int) then
if 0<=(AG (r6-1))/\(AG (r6-1))<(r1.2.2.length:Int) then
some (Sum.inr (((r1.1++([(s1.2.1,s1.2.2)]:List I8),r1.2.1.set ((AG (r6-1)).toNat) true,r1.2.2.set ((AG (r6-1)).toNat) (AG (((r1.1++([(s1.2.1,s1.2.2)]:List I8)).length:Int)-1))),(0,BitVec.ofInt 64 r6))))
else none
else none
else none)) ((0,([],List.replicate a1.2.2.1.toNat (0#64:(BitVec 64)))))
else none)
else if a1.1=8 then
some (Sum.inr ((r1,(0,0#64))))
else if a1.1=10 then
Option.bind (JR a0) (fun r8=>
some (Sum.inr ((r1,(0,BitVec.ofInt 64 r8)))))
else if a1.1=6 then
Option.bind (CR a0 a1.2.1 false) (fun r9=>
if ¬r9=0 then
Option.bind (AU a0 r9) (fun LZ=>
some (Sum.inr ((LZ.1,LZ.2))))
else Option.bind (CR a0 a1.2.2.1 false) (fun VL=>
if ¬VL=0 then
Option.bind (AU a0 VL) (fun QU=>
some (Sum.inr ((QU.1,QU.2))))
else Option.bind (BZ a0 a1.2.1) (fun UF=>
Option.bind (BZ a0 a1.2.2.1) (fun tX=>
if UF=tX then
some (Sum.inr ((r1,(0,1#64))))
else some (Sum.inr ((r1,(0,0#64))))))))
else if a1.1=7 then
if a1.1=7 then
some (Sum.inl (()))
else Option.bind (AU a0 20) (fun sZ=>
some (Sum.inr ((sZ.1,sZ.2))))
else if a1.1=9 then
if a1.1=9 then
some (Sum.inl (()))
else Option.bind (AU a0 20) (fun tY=>
some (Sum.inr ((tY.1,tY.2))))
else if a1.1=2 then
if a1.1=2 then
some (Sum.inl (()))
else Option.bind (AU a0 20) (fun r17=>
some (Sum.inr ((r17.1,r17.2))))
else if a1.1=3 then
if a1.1=3 then
some (Sum.inl (()))
else Option.bind (AU a0 20) (fun r18=>
some (Sum.inr ((r18.1,r18.2))))
else if a1.1=4 then
if a1.1=4 then
some (Sum.inl (()))
else Option.bind (AU a0 20) (fun r19=>
some (Sum.inr ((r19.1,r19.2))))
else if a1.1=5 then
some (Sum.inl (()))
else Option.bind (AU a0 20) (fun r20=>
some (Sum.inr ((r20.1,r20.2))))) (fun q=>match q with
|Sum.inl j1=>(Option.bind (CR a0 a1.2.1 true) (fun qB=>
if ¬qB=0 then
Option.bind (AU a0 qB) (fun r22=>
some ((r22.1,r22.2)))
else Option.bind (BZ a0 a1.2.1) (fun XQ=>
if 0<=XQ/\XQ<(a0.1.length:Int) then
if a1.1=7 then
if 0<=(AG (a1.2.1-1))/\(AG (a1.2.1-1))<(r1.2.1.length:Int) then
if 0<=(AG (a1.2.1-1))/\(AG (a1.2.1-1))<(r1.2.2.length:Int) then
some (((r1.1,r1.2.1.set ((AG (a1.2.1-1)).toNat) false,r1.2.2.set ((AG (a1.2.1-1)).toNat) (-1)),(0,0#64)))
else none
else none
else if a1.1=9 then
some ((r1,(0,BitVec.ofInt 64 (AG ((AG ((256:Int)*(((gl (([],[]):I8) a0.1 XQ.toNat).1).length:Int)))+(((gl (([],[]):I8) a0.1 XQ.toNat).2).length:Int))))))
else Option.bind (α:=Int ⊕ (LD×(Int×(BitVec 64)))) (if a1.1=2 then
some (Sum.inl ((((gl (([],[]):I8) a0.1 XQ.toNat).1).length:Int)))
else if a1.1=3 then
some (Sum.inl ((((gl (([],[]):I8) a0.1 XQ.toNat).1).length:Int)))
else some (Sum.inl ((((gl (([],[]):I8) a0.1 XQ.toNat).2).length:Int)))) (fun q=>match q with
|Sum.inl j2=>(if a1.2.2.1<0 then
Option.bind (AU a0 17) (fun r24=>
some ((r24.1,r24.2)))
else if a1.2.2.1≥j2 then
Option.bind (AU a0 17) (fun r25=>
some ((r25.1,r25.2)))
else if a1.1=4 then
if 0<=a1.2.2.1/\a1.2.2.1<(((gl (([],[]):I8) a0.1 XQ.toNat).2).length:Int) then
some ((r1,(0,gl (0#64:(BitVec 64)) ((gl (([],[]):I8) a0.1 XQ.toNat).2) a1.2.2.1.toNat)))
else none
else if a1.1=5 then
Option.bind (BZ a0 a1.2.1) (fun uV=>
if 0<=uV/\uV<(r1.1.length:Int) then
if 0<=a1.2.2.1/\a1.2.2.1<(((gl (([],[]):I8) r1.1 uV.toNat).2).length:Int) then
some (((r1.1.set uV.toNat ((gl (([],[]):I8) r1.1 uV.toNat).1,(gl (([],[]):I8) r1.1 uV.toNat).2.set a1.2.2.1.toNat (BitVec.ofInt 64 a1.2.2.2)),r1.2),(0,0#64)))
else none
else none)
else if a1.1=3 then
Option.bind (CR a0 a1.2.2.2 false) (fun qC=>
if ¬qC=0 then
Option.bind (AU a0 qC) (fun r28=>
some ((r28.1,r28.2)))
else Option.bind (BZ a0 a1.2.1) (fun tZ=>
if 0<=tZ/\tZ<(r1.1.length:Int) then
Option.bind (BZ a0 a1.2.2.2) (fun r30=>
if 0<=a1.2.2.1/\a1.2.2.1<(((gl (([],[]):I8) r1.1 tZ.toNat).1).length:Int) then
some (((r1.1.set tZ.toNat ((gl (([],[]):I8) r1.1 tZ.toNat).1.set a1.2.2.1.toNat r30,(gl (([],[]):I8) r1.1 tZ.toNat).2),r1.2),(0,0#64)))
else none)
else none))
else if 0<=a1.2.2.1/\a1.2.2.1<(((gl (([],[]):I8) a0.1 XQ.toNat).1).length:Int) then
if (gl (0:Int) ((gl (([],[]):I8) a0.1 XQ.toNat).1) a1.2.2.1.toNat)=(-1) then
some ((r1,(0,0#64)))
else Option.bind (EP a0) (fun s7=>
if s7=0 then
Option.bind (AU a0 15) (fun r32=>
some ((r32.1,r32.2)))
else if 0<=(AG (s7-1))/\(AG (s7-1))<(r1.2.1.length:Int) then
if 0<=(AG (s7-1))/\(AG (s7-1))<(r1.2.2.length:Int) then
some (((r1.1,r1.2.1.set ((AG (s7-1)).toNat) true,r1.2.2.set ((AG (s7-1)).toNat) (gl (0:Int) ((gl (([],[]):I8) a0.1 XQ.toNat).1) a1.2.2.1.toNat)),(0,BitVec.ofInt 64 s7)))
else none
else none)
else none)
|Sum.inr b1=>some b1)
else none)))
|Sum.inr b2=>some b2))
@[reducible] def UY:FnI:={ ps:=[⟨QK,true,false,false⟩,⟨kE,true,false,false⟩],rs:=[⟨QK,true,false,false⟩,⟨(.pair (.int .i64) .u64),true,false,false⟩],os:=[],bk:=[],F:=fun x=>L8 x.1 x.2 }
def kR:Cx:={ nm:=[(2,(3,1)),(3,(4,1)),(4,(5,1)),(5,(6,1)),(6,(10,1)),(8,(18,1)),(13,(39,1)),(19,(7,3)),(23,(31,3)),(47,(11,3)),(55,(14,3)),(60,(17,1)),(70,(19,1)),(71,(20,1)),(76,(23,1)),(77,(24,1)),(118,(25,3)),(129,(28,3)),(160,(34,3)),(170,(37,2)),(226,(40,3)),(270,(43,3)),(306,(46,3))],AL:=[60,71,76,77],fns:=BA [(100,SF),(101,SG),(102,SH),(103,SI),(104,PK),(105,SJ)],loops:=[(1,{ live:=[(9,⟨(.int .i64),false,false,false⟩)],boxes:=[(18,⟨AXO,true,true,false⟩)],rows:=[],dead:=FU [(62,11)],lost:=[17],base:=21,pins:=[(22,17,18)] })],AO:=[(38,{ live:=[],boxes:=[],rows:=[],dead:=FU [(7,5),(20,132)],lost:=[],base:=34 }),(51,{ live:=[(14,⟨(.int .i64),false,false,false⟩)],boxes:=[],rows:=[],dead:=FU [(205,11)],lost:=[],base:=40 })],tb:=A8,exts:=[],lets:=[] }
theorem iQ:CV 60 UY:=okW kR [.cell 4 44,.cell 5 118] 324 46 (BB (.cons bR (.cons bS (.cons bT (.cons bV (.cons XR (.cons bW AN.nil)))))) A3.nil) Tryz.func60
def BF (a0:(List Int)) (a1:FC):Option (Int×(List Int)×FC):=
if (a0.length:Int)=0 then
Option.bind (AF a1 35) (fun r1=>
some ((r1.1,a0,r1.2)))
else Option.bind (AF a1 12) (fun r2=>
if r2.1=0 then
Option.bind (AF r2.2 35) (fun r3=>
some ((r3.1,a0,r3.2)))
else Option.bind (AF r2.2 (a0.length:Int)) (fun r4=>
if 0<=r4.1/\r4.1<(a0.length:Int) then
some ((gl (0:Int) a0 r4.1.toNat,a0,r4.2))
else none))
@[reducible] def TU:FnI:={ ps:=[⟨H0,false,false,true⟩,⟨LB,true,false,true⟩],rs:=[⟨(.int .i64),false,true,false⟩],os:=[⟨H0,false,false,true⟩,⟨LB,true,false,true⟩],bk:=[0,2],sh:=[.one,.pp 4],mI:=[(4,2)],F:=fun x=>BF x.1 x.2 }
def iR:Cx:={ nm:=[(8,(6,1)),(12,(5,1)),(17,(7,1))],AL:=[],fns:=BA [(56,C1)],loops:=[],AO:=[],tb:=A8,exts:=[],lets:=[] }
theorem fM:CV 87 TU:=okW iR [.tmp 2] 20 4 (BB (.cons DE AN.nil) A3.nil) Tryz.func87
def J2 (a0:FC) (a1:LD):Option (O7×FC):=
AM (σ:=(Int×(List Int))) (β:=(O7×FC)) (fun s1=>
if s1.1<(a1.2.1.length:Int) then
if 0<=s1.1/\s1.1<(a1.2.1.length:Int) then
if (gl (false:Bool) a1.2.1 s1.1.toNat)=true then
if (s1.2.length+([AG (s1.1+1)]:List Int).length)*8<=140737488355328 then
some (Sum.inl ((AG (s1.1+1),s1.2++([AG (s1.1+1)]:List Int))))
else none
else some (Sum.inl ((AG (s1.1+1),s1.2)))
else none
else Option.map Sum.inr (Option.bind (AF a0 20) (fun r1=>
if 0<=r1.1/\r1.1<(([1,1,1,1,2,2,3,3,3,3,4,5,6,7,7,7,8,9,10,0]:List Int).length:Int) then
Option.bind (α:=O7 ⊕ (O7×FC)) (if (s1.2.length:Int)>20 then
if (gl (0:Int) ([1,1,1,1,2,2,3,3,3,3,4,5,6,7,7,7,8,9,10,0]:List Int) r1.1.toNat)=1 then
some (Sum.inl ((7,0,0,0)))
else some (Sum.inl ((gl (0:Int) ([1,1,1,1,2,2,3,3,3,3,4,5,6,7,7,7,8,9,10,0]:List Int) r1.1.toNat,0,0,0)))
else some (Sum.inl ((gl (0:Int) ([1,1,1,1,2,2,3,3,3,3,4,5,6,7,7,7,8,9,10,0]:List Int) r1.1.toNat,0,0,0)))) (fun q=>match q with
|Sum.inl j1=>(if j1.1=1 then
Option.bind (AF r1.2 4) (fun r2=>
Option.bind (AF r2.2 4) (fun r3=>
if 0<=r3.1/\r3.1<(([3,3,8,17]:List Int).length:Int) then
Option.bind (AF r3.2 (gl (0:Int) ([3,3,8,17]:List Int) r3.1.toNat)) (fun r4=>
some (((j1.1,r2.1,r4.1,j1.2.2.2),r4.2)))
else none))
else Option.bind (α:=Bool ⊕ (O7×FC)) (if j1.1=2 then
some (Sum.inl (decide (j1.1=2)))
else some (Sum.inl (decide (j1.1=4)))) (fun q=>match q with
|Sum.inl j2=>(if j2=true then
Option.bind (BF s1.2 r1.2) (fun r5=>
Option.bind (AF r5.2.2 3) (fun r6=>
some (((j1.1,r5.1,r6.1,j1.2.2.2),r6.2))))
else if j1.1=3 then
Option.bind (BF s1.2 r1.2) (fun r7=>
Option.bind (AF r7.2.2 3) (fun r8=>
Option.bind (BF r7.2.1 r8.2) (fun r9=>
some (((j1.1,r7.1,r8.1,r9.1),r9.2.2)))))
else if j1.1=5 then
Option.bind (BF s1.2 r1.2) (fun LZ=>
Option.bind (AF LZ.2.2 3) (fun VL=>
Option.bind (AF VL.2 256) (fun QU=>
some (((j1.1,LZ.1,VL.1,QU.1),QU.2)))))
else if j1.1=6 then
Option.bind (BF s1.2 r1.2) (fun UF=>
Option.bind (BF UF.2.1 UF.2.2) (fun tX=>
some (((j1.1,UF.1,tX.1,j1.2.2.2),tX.2.2))))
else if j1.1=7 then
if j1.1=7 then
Option.bind (BF s1.2 r1.2) (fun sZ=>
some (((j1.1,sZ.1,j1.2.2),sZ.2.2)))
else some ((j1,r1.2))
else if j1.1=9 then
Option.bind (BF s1.2 r1.2) (fun tY=>
some (((j1.1,tY.1,j1.2.2),tY.2.2)))
else some ((j1,r1.2)))
|Sum.inr b1=>some b1))
|Sum.inr b2=>some b2)
else none))) ((0,[]))
@[reducible] def WM:FnI:={ ps:=[⟨LB,true,false,true⟩,⟨QK,true,false,false⟩],rs:=[⟨kE,true,true,false⟩],os:=[⟨LB,true,false,true⟩],bk:=[0],F:=fun x=>J2 x.1 x.2 }
def m4:Cx:={ nm:=[(2,(5,1)),(3,(6,1)),(4,(7,1)),(5,(8,1)),(9,(14,1)),(22,(9,1)),(23,(10,1)),(26,(12,1)),(28,(13,1)),(46,(15,1)),(48,(16,1)),(50,(17,1)),(53,(18,1)),(60,(19,2)),(62,(21,1)),(68,(22,2)),(70,(24,1)),(72,(25,2)),(79,(27,2)),(81,(29,1)),(83,(30,1)),(90,(31,2)),(92,(33,2)),(99,(35,2))],AL:=[23],fns:=BA [(56,C1),(87,TU)],loops:=[(0,{ live:=[(13,⟨(.int .i64),false,false,false⟩)],boxes:=[(8,⟨H0,false,true,false⟩)],rows:=[],dead:=FU [(6,2),(14,11)],lost:=[],base:=11 })],AO:=[(12,{ live:=[],boxes:=[(14,⟨kE,true,false,false⟩)],rows:=[],dead:=FU [(32,9)],lost:=[],base:=15 }),(17,{ live:=[(56,⟨.bool,false,false,false⟩)],boxes:=[],rows:=[],dead:=[57,58],lost:=[],base:=19 })],tb:=A8,exts:=[],lets:=[] }
theorem kS:CV 58 WM:=okW m4 [.cell 4 115] 102 32 (BB (.cons DE (.cons fM AN.nil)) A3.nil) Tryz.func58
def MT :Option (List ByteArray):=
some (([(⟨#[115,101,109,105,115,112,97,99,101]⟩:ByteArray),(⟨#[97,112,112,101,108]⟩:ByteArray),(⟨#[102,105,120,101,100]⟩:ByteArray),(⟨#[111,108,100,101,114,45,102,105,114,115,116]⟩:ByteArray),(⟨#[120,120]⟩:ByteArray),(⟨#[120,120,49,48,48]⟩:ByteArray)]:List ByteArray))
@[reducible] def RB:FnI:={ ps:=[],rs:=[⟨(.slice .str),false,true,false⟩],os:=[],bk:=[],F:=fun x=>MT  }
def bX:Cx:={ nm:=[(1,(0,1))],AL:=[1],fns:=BA [],loops:=[],AO:=[],tb:=A8,exts:=[],lets:=[] }
theorem ZL:CV 61 RB:=okW bX [.tmp 0] 2 1 (BB AN.nil A3.nil) Tryz.func61
def FH (a0:Int):Option (Nat×Int):=
if a0<0 then
some ((0,1))
else if a0>100 then
some ((0,1))
else if (FI .quo (ZX a0) 4636737291354636288).isSome=true then
some (((FI .quo (ZX a0) 4636737291354636288).getD 0,0))
else none
@[reducible] def JS:FnI:={ ps:=[⟨(.int .i64),false,false,false⟩],rs:=[⟨.NC,false,true,false⟩,⟨(.int .i64),false,true,false⟩],os:=[],bk:=[],F:=fun x=>FH x }
def XS:Cx:={ nm:=[],AL:=[],fns:=BA [],loops:=[],AO:=[],tb:=A8,exts:=[],lets:=[] }
theorem NY:CV 51 JS:=okW XS [.tmp 2,.tmp 3] 13 0 (BB AN.nil A3.nil) Tryz.func51
def KU (a0:ByteArray) (a1:Int):Option (J1×Int):=
Option.bind (FH a1) (fun r1=>
if ¬r1.2=0 then
if a0=(⟨#[115,101,109,105,115,112,97,99,101]⟩:ByteArray) then
some ((((⟨#[]⟩:ByteArray),[],0),6))
else if a0=(⟨#[97,112,112,101,108]⟩:ByteArray) then
some ((((⟨#[]⟩:ByteArray),[],0),6))
else if a0=(⟨#[102,105,120,101,100]⟩:ByteArray) then
some ((((⟨#[]⟩:ByteArray),[],0),6))
else if a0=(⟨#[111,108,100,101,114,45,102,105,114,115,116]⟩:ByteArray) then
some ((((⟨#[]⟩:ByteArray),[],0),6))
else if a0=(⟨#[120,120]⟩:ByteArray) then
some ((((⟨#[]⟩:ByteArray),[],0),6))
else if a0=(⟨#[120,120,49,48,48]⟩:ByteArray) then
some ((((⟨#[]⟩:ByteArray),[],0),6))
else some ((((⟨#[]⟩:ByteArray),[],0),7))
else if a0=(⟨#[115,101,109,105,115,112,97,99,101]⟩:ByteArray) then
if a1<1 then
some ((((⟨#[]⟩:ByteArray),[],0),6))
else some (((a0,([(0,0,0,0)]:List AX),1),0))
else if a0=(⟨#[97,112,112,101,108]⟩:ByteArray) then
if a1<1 then
some ((((⟨#[]⟩:ByteArray),[],0),6))
else some (((a0,([(0,0,0,1),(0,0,0,1)]:List AX),8),0))
else if a0=(⟨#[102,105,120,101,100]⟩:ByteArray) then
if a1<1 then
some ((((⟨#[]⟩:ByteArray),[],0),6))
else some (((a0,([(r1.1,1,0,1),(0,0,0,1)]:List AX),8),0))
else if a0=(⟨#[111,108,100,101,114,45,102,105,114,115,116]⟩:ByteArray) then
if a1<1 then
some ((((⟨#[]⟩:ByteArray),[],0),6))
else some (((a0,([(r1.1,0,1,0)]:List AX),0),0))
else if a0=(⟨#[120,120]⟩:ByteArray) then
if a1<1 then
some ((((⟨#[]⟩:ByteArray),[],0),6))
else some (((a0,([(r1.1,0,1,1),(r1.1,0,1,1)]:List AX),0),0))
else if a0=(⟨#[120,120,49,48,48]⟩:ByteArray) then
if a1<1 then
some ((((⟨#[]⟩:ByteArray),[],0),6))
else some (((a0,([(r1.1,0,1,1),(r1.1,0,1,2),(0,0,0,2)]:List AX),8),0))
else some ((((⟨#[]⟩:ByteArray),[],0),7)))
@[reducible] def TV:FnI:={ ps:=[⟨.str,false,false,false⟩,⟨(.int .i64),false,false,false⟩],rs:=[⟨M4,true,true,false⟩,⟨(.int .i64),false,true,false⟩],os:=[],bk:=[],F:=fun x=>KU x.1 x.2 }
def iS:Cx:={ nm:=[(4,(0,1)),(9,(1,1)),(28,(2,1)),(35,(3,1)),(42,(4,1)),(48,(5,1)),(57,(6,1)),(67,(7,1))],AL:=[28,35,42,48,57,67],fns:=BA [(51,JS)],loops:=[],AO:=[],tb:=A8,exts:=[],lets:=[] }
theorem fN:CV 26 TV:=okW iS [.cell 4 24,.tmp 5] 72 8 (BB (.cons NY AN.nil) A3.nil) Tryz.func26
def JT (a0:FC):Option (Nat×FC):=
Option.bind (AF a0 4) (fun r1=>
if r1.1=0 then
Option.bind (AF r1.2 5) (fun r2=>
if 0<=r2.1/\r2.1<(([4602678819172646912,4593671619917905920,4607182418800017408,4599676419421066581,4562254508917369340]:List Nat).length:Int) then
some ((gl (0:Nat) ([4602678819172646912,4593671619917905920,4607182418800017408,4599676419421066581,4562254508917369340]:List Nat) r2.1.toNat,r2.2))
else none)
else Option.bind (AF r1.2 100) (fun r3=>
Option.bind (FH (AG ((1:Int)+r3.1))) (fun r4=>
some ((r4.1,r3.2)))))
@[reducible] def SK:FnI:={ ps:=[⟨LB,true,false,true⟩],rs:=[⟨.NC,false,true,false⟩],os:=[⟨LB,true,false,true⟩],bk:=[0],F:=fun x=>JT x }
def fO:Cx:={ nm:=[(6,(2,1)),(8,(3,1)),(10,(4,1)),(15,(5,1))],AL:=[],fns:=BA [(51,JS),(56,C1)],loops:=[],AO:=[],tb:=A8,exts:=[],lets:=[] }
theorem bY:CV 62 SK:=okW fO [.tmp 2] 21 4 (BB (.cons NY (.cons DE AN.nil)) A3.nil) Tryz.func62
def IN (a0:FC):Option (J1×FC):=
Option.bind (AF a0 3) (fun r1=>
if r1.1>0 then
Option.bind (MT) (fun r2=>
Option.bind (AF r1.2 6) (fun r3=>
if 0<=r3.1/\r3.1<(r2.length:Int) then
Option.bind (AF r3.2 100) (fun r4=>
Option.bind (AF r4.2 6) (fun r5=>
if 0<=r5.1/\r5.1<(([10,15,25,30,50,AG ((1:Int)+r4.1)]:List Int).length:Int) then
Option.bind (KU (gl (⟨#[]⟩:ByteArray) r2 r3.1.toNat) (gl (0:Int) ([10,15,25,30,50,AG ((1:Int)+r4.1)]:List Int) r5.1.toNat)) (fun r6=>
Option.bind (α:=(FC×J1) ⊕ (J1×FC)) (if r6.1.2.2>0 then
Option.bind (AF r5.2 5) (fun r7=>
some (Sum.inl ((r7.2,(r6.1.1,r6.1.2.1,AG ((1:Int)+r7.1))))))
else some (Sum.inl ((r5.2,r6.1)))) (fun q=>match q with
|Sum.inl j1=>(some ((j1.2,j1.1)))
|Sum.inr b1=>some b1))
else none))
else none))
else Option.bind (AF r1.2 4) (fun r8=>
AM (σ:=(Int×FC×J1)) (β:=(J1×FC)) (fun s1=>
if s1.1<(AG ((1:Int)+r8.1)) then
Option.bind (AF s1.2.1 3) (fun r9=>
Option.bind (α:=(FC×AX) ⊕ ((Int×FC×J1) ⊕ (J1×FC))) (Option.bind (AF r9.2 3) (fun LZ=>
if LZ.1>0 then
Option.bind (JT LZ.2) (fun VL=>
some (Sum.inl ((VL.2,(VL.1,0,r9.1,AG (s1.1+1))))))
else some (Sum.inl ((LZ.2,(0,0,r9.1,AG (s1.1+1))))))) (fun q=>match q with
|Sum.inl j2=>(if s1.1<(AG ((AG ((1:Int)+r8.1))-1)) then
Option.bind (AF j2.1 3) (fun QU=>
if QU.1=0 then
Option.bind (AF QU.2 2) (fun UF=>
if s1.1=(AG ((AG ((1:Int)+r8.1))-1)) then
if C4 j2.2.1 0=some .eq then
Option.bind (AF UF.2 6) (fun tX=>
if (s1.2.2.2.1.length+([(j2.2.1,AG ((1:Int)+UF.1),j2.2.2.2.1,s1.1)]:List AX).length)*32<=140737488355328 then
some (Sum.inl ((AG (s1.1+1),tX.2,(s1.2.2.1,s1.2.2.2.1++([(j2.2.1,AG ((1:Int)+UF.1),j2.2.2.2.1,s1.1)]:List AX),AG ((1:Int)+tX.1)))))
else none)
else if (s1.2.2.2.1.length+([(j2.2.1,AG ((1:Int)+UF.1),j2.2.2.2.1,s1.1)]:List AX).length)*32<=140737488355328 then
some (Sum.inl ((AG (s1.1+1),UF.2,(s1.2.2.1,s1.2.2.2.1++([(j2.2.1,AG ((1:Int)+UF.1),j2.2.2.2.1,s1.1)]:List AX),s1.2.2.2.2))))
else none
else if (s1.2.2.2.1.length+([(j2.2.1,AG ((1:Int)+UF.1),j2.2.2.2)]:List AX).length)*32<=140737488355328 then
some (Sum.inl ((AG (s1.1+1),UF.2,(s1.2.2.1,s1.2.2.2.1++([(j2.2.1,AG ((1:Int)+UF.1),j2.2.2.2)]:List AX),s1.2.2.2.2))))
else none)
else if s1.1=(AG ((AG ((1:Int)+r8.1))-1)) then
if C4 j2.2.1 0=some .eq then
Option.bind (AF QU.2 6) (fun sZ=>
if (s1.2.2.2.1.length+([(j2.2.1,j2.2.2.1,j2.2.2.2.1,s1.1)]:List AX).length)*32<=140737488355328 then
some (Sum.inl ((AG (s1.1+1),sZ.2,(s1.2.2.1,s1.2.2.2.1++([(j2.2.1,j2.2.2.1,j2.2.2.2.1,s1.1)]:List AX),AG ((1:Int)+sZ.1)))))
else none)
else if (s1.2.2.2.1.length+([(j2.2.1,j2.2.2.1,j2.2.2.2.1,s1.1)]:List AX).length)*32<=140737488355328 then
some (Sum.inl ((AG (s1.1+1),QU.2,(s1.2.2.1,s1.2.2.2.1++([(j2.2.1,j2.2.2.1,j2.2.2.2.1,s1.1)]:List AX),s1.2.2.2.2))))
else none
else if (s1.2.2.2.1.length+([j2.2]:List AX).length)*32<=140737488355328 then
some (Sum.inl ((AG (s1.1+1),QU.2,(s1.2.2.1,s1.2.2.2.1++([j2.2]:List AX),s1.2.2.2.2))))
else none)
else if s1.1=(AG ((AG ((1:Int)+r8.1))-1)) then
if C4 j2.2.1 0=some .eq then
Option.bind (AF j2.1 6) (fun tY=>
if (s1.2.2.2.1.length+([(j2.2.1,j2.2.2.1,j2.2.2.2.1,s1.1)]:List AX).length)*32<=140737488355328 then
some (Sum.inl ((AG (s1.1+1),tY.2,(s1.2.2.1,s1.2.2.2.1++([(j2.2.1,j2.2.2.1,j2.2.2.2.1,s1.1)]:List AX),AG ((1:Int)+tY.1)))))
else none)
else if (s1.2.2.2.1.length+([(j2.2.1,j2.2.2.1,j2.2.2.2.1,s1.1)]:List AX).length)*32<=140737488355328 then
some (Sum.inl ((AG (s1.1+1),j2.1,(s1.2.2.1,s1.2.2.2.1++([(j2.2.1,j2.2.2.1,j2.2.2.2.1,s1.1)]:List AX),s1.2.2.2.2))))
else none
else if (s1.2.2.2.1.length+([j2.2]:List AX).length)*32<=140737488355328 then
some (Sum.inl ((AG (s1.1+1),j2.1,(s1.2.2.1,s1.2.2.2.1++([j2.2]:List AX),s1.2.2.2.2))))
else none)
|Sum.inr b2=>some b2))
else some (Sum.inr ((s1.2.2,s1.2.1)))) ((0,r8.2,((⟨#[111,119,110]⟩:ByteArray),[],0)))))
@[reducible] def RC:FnI:={ ps:=[⟨LB,true,false,true⟩],rs:=[⟨M4,true,true,false⟩],os:=[⟨LB,true,false,true⟩],bk:=[0],F:=fun x=>IN x }
def bZ:Cx:={ nm:=[(2,(2,1)),(3,(10,1)),(6,(15,1)),(8,(17,1)),(10,(3,1)),(13,(4,1)),(15,(5,1)),(19,(6,1)),(21,(7,1)),(23,(8,1)),(26,(9,1)),(33,(11,1)),(38,(14,1)),(47,(16,1)),(52,(18,1)),(55,(19,1)),(63,(21,1)),(67,(22,1)),(80,(23,1)),(86,(24,1)),(87,(25,1))],AL:=[87],fns:=BA [(26,TV),(56,C1),(61,RB),(62,SK)],loops:=[(0,{ live:=[(7,⟨(.int .i64),false,false,false⟩)],boxes:=[(0,⟨LB,true,false,false⟩),(15,⟨M4,true,true,false⟩)],rows:=[],dead:=FU [(8,1),(41,48)],lost:=[],base:=27 })],AO:=[(5,{ live:=[],boxes:=[(0,⟨LB,true,false,false⟩),(10,⟨M4,true,true,false⟩)],rows:=[],dead:=FU [(29,7)],lost:=[9],base:=12,pins:=[(13,9,10)] }),(14,{ live:=[],boxes:=[(0,⟨LB,true,false,false⟩),(17,⟨AT4,true,false,false⟩)],rows:=[],dead:=FU [(51,6)],lost:=[],base:=20 })],tb:=A8,exts:=[],lets:=[] }
theorem ZM:CV 29 RC:=okW bZ [.cell 2 24] 90 27 (BB (.cons fN (.cons DE (.cons ZL (.cons bY AN.nil)))) A3.nil) Tryz.func29
def NP (a0:FC):Option (Int×Int×FC):=
Option.bind (AF a0 2) (fun r1=>
Option.bind (AF r1.2 15) (fun r2=>
some ((AG ((3:Int)+r1.1),AG ((6:Int)+r2.1),r2.2))))
@[reducible] def SL:FnI:={ ps:=[⟨LB,true,false,true⟩],rs:=[⟨(.int .i64),false,true,false⟩,⟨(.int .i64),false,true,false⟩],os:=[⟨LB,true,false,true⟩],bk:=[0],F:=fun x=>NP x }
def fP:Cx:={ nm:=[(5,(2,1)),(8,(3,1))],AL:=[],fns:=BA [(56,C1)],loops:=[],AO:=[],tb:=A8,exts:=[],lets:=[] }
theorem b6:CV 54 SL:=okW fP [.tmp 2,.tmp 3] 10 2 (BB (.cons DE AN.nil) A3.nil) Tryz.func54
def KV :Option LD:=
if 0<=(32:Int)/\(32:Int)<=(32:Int)/\(32:Int)*((1:Nat):Int)<=140737488355328 then
if 0<=(32:Int)/\(32:Int)<=(32:Int)/\(32:Int)*((8:Nat):Int)<=140737488355328 then
AM (σ:=(Int×(List Int))) (β:=LD) (fun s1=>
if s1.1<((List.replicate (32:Int).toNat (0:Int)).length:Int) then
if 0<=s1.1/\s1.1<(s1.2.length:Int) then
some (Sum.inl ((AG (s1.1+1),s1.2.set s1.1.toNat (-1))))
else none
else some (Sum.inr (([],List.replicate (32:Int).toNat (false:Bool),s1.2)))) ((0,List.replicate (32:Int).toNat (0:Int)))
else none
else none
@[reducible] def TW:FnI:={ ps:=[],rs:=[⟨QK,true,true,false⟩],os:=[],bk:=[],F:=fun x=>KV  }
def iT:Cx:={ nm:=[(0,(0,1)),(1,(3,1)),(3,(1,1)),(4,(2,1))],AL:=[3,4],fns:=BA [],loops:=[(0,{ live:=[(9,⟨(.int .i64),false,false,false⟩)],boxes:=[],rows:=[(2,(.int .i64))],dead:=FU [(2,1),(10,7)],lost:=[],base:=4 })],AO:=[],tb:=A8,exts:=[],lets:=[] }
theorem fQ:CV 55 TW:=okW iT [.cell 0 44] 18 4 (BB AN.nil A3.nil) Tryz.func55
def JU (a0:FC):Option (Bool×FC):=
some ((decide (a0.2<(a0.1.length:Int)),a0))
@[reducible] def NZ:FnI:={ ps:=[⟨LB,true,false,true⟩],rs:=[⟨.bool,false,true,false⟩],os:=[⟨LB,true,false,true⟩],bk:=[0],F:=fun x=>JU x }
def WN:Cx:={ nm:=[],AL:=[],fns:=BA [],loops:=[],AO:=[],tb:=A8,exts:=[],lets:=[] }
theorem VH:CV 57 NZ:=okW WN [.tmp 2] 13 0 (BB AN.nil A3.nil) Tryz.func57
def GL (a0:FC) (a1:J1):Option (CU×LD×FC):=
Option.bind (NP a0) (fun r1=>
Option.bind (KP a1 r1.1 r1.2.1) (fun r2=>
Option.bind (KV) (fun r3=>
Option.bind (AF r1.2.2 50) (fun r4=>
AM (σ:=(Int×FC×CU×LD)) (β:=(CU×LD×FC)) (fun s1=>
if s1.1>0 then
Option.bind (JU s1.2.1) (fun r5=>
if r5.1=true then
Option.bind (J2 r5.2 s1.2.2.2) (fun r6=>
Option.bind (L7 s1.2.2.1 r6.1) (fun r7=>
if r7.2.1=18 then
some (Sum.inl ((AG (s1.1-1),r6.2,s1.2.2.1,s1.2.2.2)))
else Option.bind (L8 s1.2.2.2 r6.1) (fun r8=>
some (Sum.inl ((AG (s1.1-1),r6.2,r7.1,r8.1))))))
else some (Sum.inr ((s1.2.2.1,s1.2.2.2,r5.2))))
else some (Sum.inr ((s1.2.2.1,s1.2.2.2,s1.2.1)))) ((AG ((6:Int)+r4.1),r4.2,r2.1,r3))))))
@[reducible] def RE:FnI:={ ps:=[⟨LB,true,false,true⟩,⟨M4,true,false,false⟩],rs:=[⟨D4,true,false,false⟩,⟨QK,true,false,false⟩],os:=[⟨LB,true,false,true⟩],bk:=[0],F:=fun x=>GL x.1 x.2 }
def b7:Cx:={ nm:=[(3,(3,1)),(4,(4,1)),(5,(5,1)),(8,(14,1)),(10,(18,1)),(12,(22,1)),(13,(30,1)),(14,(31,1)),(17,(6,1)),(24,(7,7)),(27,(15,3)),(29,(19,1)),(35,(20,1)),(41,(21,1)),(45,(23,7)),(55,(52,3))],AL:=[],fns:=BA [(27,TM),(54,SL),(55,TW),(56,C1),(57,NZ),(58,WM),(59,UX),(60,UY)],loops:=[(0,{ live:=[(11,⟨(.int .i64),false,false,false⟩)],boxes:=[(0,⟨LB,true,false,false⟩),(14,⟨D4,true,false,false⟩),(18,⟨QK,true,false,false⟩)],rows:=[],dead:=FU [(12,3),(31,27)],lost:=[7,8,9,10,11,12,13,15,16,17],base:=41 })],AO:=[],tb:=A8,exts:=[],lets:=[] }
theorem ZN:CV 28 RE:=okW b7 [.cell 4 41,.cell 5 44] 60 52 (BB (.cons eG (.cons b6 (.cons fQ (.cons DE (.cons VH (.cons kS (.cons iP (.cons iQ AN.nil)))))))) A3.nil) Tryz.func28
def KW (a0:FC):Option (CU×LD×FC):=
Option.bind (IN a0) (fun r1=>
Option.bind (GL r1.2 r1.1) (fun r2=>
some ((r2.1,r2.2.1,r2.2.2))))
@[reducible] def TX:FnI:={ ps:=[⟨LB,true,false,true⟩],rs:=[⟨D4,true,false,false⟩,⟨QK,true,false,false⟩],os:=[⟨LB,true,false,true⟩],bk:=[0],F:=fun x=>KW x }
def iU:Cx:={ nm:=[(2,(2,1)),(3,(3,1)),(6,(4,2)),(7,(6,11))],AL:=[],fns:=BA [(28,RE),(29,RC)],loops:=[],AO:=[],tb:=A8,exts:=[],lets:=[] }
theorem fR:CV 10 TX:=okW iU [.cell 2 41,.cell 3 44] 10 15 (BB (.cons ZN (.cons ZM AN.nil)) A3.nil) Tryz.func10
end
noncomputable section
def L9 (a0:Nat):Option Bool:=
if a0<18446744073709551616 then
if (BitVec.ofNat 64 a0)=(0#64) then
some (true)
else if C4 a0 0=some .gt then
some (decide (C4 a0 4607182418800017408=some .lt\/C4 a0 4607182418800017408=some .eq))
else some (false)
else none
@[reducible] def VI:FnI:={ ps:=[⟨.NC,false,false,false⟩],rs:=[⟨.bool,false,true,false⟩],os:=[],bk:=[],F:=fun x=>L9 x }
def uW:Cx:={ nm:=[],AL:=[],fns:=BA [],loops:=[],AO:=[],tb:=A8,exts:=[(81,.SU)],lets:=[] }
theorem b8:CV 106 VI:=okW uW [.tmp 2] 14 0 (BB AN.nil (.cons AN3 A3.nil)) Tryz.func106
def M8 (a0:Int):Option Bool:=
if a0≥0 then
some (decide (a0<=64))
else some (false)
@[reducible] def b9:FnI:={ ps:=[⟨(.int .i64),false,false,false⟩],rs:=[⟨.bool,false,true,false⟩],os:=[],bk:=[],F:=fun x=>M8 x }
def s8:Cx:={ nm:=[],AL:=[],fns:=BA [],loops:=[],AO:=[],tb:=A8,exts:=[],lets:=[] }
theorem pL:CV 107 b9:=okW s8 [.tmp 2] 9 0 (BB AN.nil A3.nil) Tryz.func107
def SY (a0:J1) (a1:Int):Option Int:=
if 0<=a1/\a1<(a0.2.1.length:Int) then
Option.bind (L9 ((gl ((0,0,0,0):AX) a0.2.1 a1.toNat).1)) (fun r1=>
if (!r1)=true then
some (6)
else Option.bind (M8 (((gl ((0,0,0,0):AX) a0.2.1 a1.toNat).2).1)) (fun r2=>
if (!r2)=true then
some (9)
else Option.bind (M8 ((((gl ((0,0,0,0):AX) a0.2.1 a1.toNat).2).2).1)) (fun r3=>
if (!r3)=true then
some (9)
else if a1=(AG ((a0.2.1.length:Int)-1)) then
if ¬(((gl ((0,0,0,0):AX) a0.2.1 a1.toNat).2).1)=0 then
some (9)
else if a1=(AG ((a0.2.1.length:Int)-1)) then
if ¬((((gl ((0,0,0,0):AX) a0.2.1 a1.toNat).2).2).2)=a1 then
some (10)
else if a1<(AG ((a0.2.1.length:Int)-1)) then
if ((((gl ((0,0,0,0):AX) a0.2.1 a1.toNat).2).2).2)<=a1 then
some (10)
else if ((((gl ((0,0,0,0):AX) a0.2.1 a1.toNat).2).2).2)>(AG ((a0.2.1.length:Int)-1)) then
some (10)
else some (0)
else some (0)
else if a1<(AG ((a0.2.1.length:Int)-1)) then
if ((((gl ((0,0,0,0):AX) a0.2.1 a1.toNat).2).2).2)<=a1 then
some (10)
else if ((((gl ((0,0,0,0):AX) a0.2.1 a1.toNat).2).2).2)>(AG ((a0.2.1.length:Int)-1)) then
some (10)
else some (0)
else some (0)
else if a1=(AG ((a0.2.1.length:Int)-1)) then
if ¬((((gl ((0,0,0,0):AX) a0.2.1 a1.toNat).2).2).2)=a1 then
some (10)
else if a1<(AG ((a0.2.1.length:Int)-1)) then
if ((((gl ((0,0,0,0):AX) a0.2.1 a1.toNat).2).2).2)<=a1 then
some (10)
else if ((((gl ((0,0,0,0):AX) a0.2.1 a1.toNat).2).2).2)>(AG ((a0.2.1.length:Int)-1)) then
some (10)
else some (0)
else some (0)
else if a1<(AG ((a0.2.1.length:Int)-1)) then
if ((((gl ((0,0,0,0):AX) a0.2.1 a1.toNat).2).2).2)<=a1 then
some (10)
else if ((((gl ((0,0,0,0):AX) a0.2.1 a1.toNat).2).2).2)>(AG ((a0.2.1.length:Int)-1)) then
some (10)
else some (0)
else some (0))))
else none
@[reducible] def gF:FnI:={ ps:=[⟨M4,true,false,false⟩,⟨(.int .i64),false,false,false⟩],rs:=[⟨(.int .i64),false,true,false⟩],os:=[],bk:=[],F:=fun x=>SY x.1 x.2 }
def uX:Cx:={ nm:=[(2,(1,1)),(5,(2,1))],AL:=[],fns:=BA [(106,VI),(107,b9)],loops:=[],AO:=[],tb:=A8,exts:=[],lets:=[] }
theorem s9:CV 65 gF:=okW uX [.tmp 4] 69 2 (BB (.cons b8 (.cons pL AN.nil)) A3.nil) Tryz.func65
def MA (a0:J1) (a1:Int):Option Bool:=
AM (σ:=Int) (β:=Bool) (fun s1=>
if s1<(a0.2.1.length:Int) then
if 0<=s1/\s1<(a0.2.1.length:Int) then
if ¬s1=a1 then
if ((((gl ((0,0,0,0):AX) a0.2.1 s1.toNat).2).2).2)=a1 then
some (Sum.inr (true))
else some (Sum.inl (AG (s1+1)))
else some (Sum.inl (AG (s1+1)))
else none
else some (Sum.inr (false))) (0)
@[reducible] def UZ:FnI:={ ps:=[⟨M4,true,false,false⟩,⟨(.int .i64),false,false,false⟩],rs:=[⟨.bool,false,true,false⟩],os:=[],bk:=[],F:=fun x=>MA x.1 x.2 }
def kT:Cx:={ nm:=[(2,(1,1)),(6,(2,1))],AL:=[],fns:=BA [],loops:=[(0,{ live:=[(10,⟨(.int .i64),false,false,false⟩)],boxes:=[],rows:=[],dead:=FU [(4,3),(11,14)],lost:=[],base:=2 })],AO:=[],tb:=A8,exts:=[],lets:=[] }
theorem iV:CV 66 UZ:=okW kT [.tmp 4] 25 2 (BB AN.nil A3.nil) Tryz.func66
def H3 (a0:J1):Option Int:=
Option.bind (J8 a0.1) (fun r1=>
if (!r1)=true then
some (7)
else if (a0.2.1.length:Int)<1 then
some (8)
else if (a0.2.1.length:Int)>4 then
some (8)
else AM (σ:=Int) (β:=Int) (fun s1=>
if s1<(a0.2.1.length:Int) then
Option.bind (SY a0 s1) (fun r2=>
if ¬r2=0 then
some (Sum.inr (r2))
else some (Sum.inl (AG (s1+1))))
else Option.map Sum.inr (AM (σ:=Int) (β:=Int) (fun s2=>
if s2<(a0.2.1.length:Int) then
Option.bind (MA a0 s2) (fun r3=>
if (!r3)=true then
some (Sum.inr (10))
else some (Sum.inl (AG (s2+1))))
else Option.map Sum.inr (if 0<=(AG ((a0.2.1.length:Int)-1))/\(AG ((a0.2.1.length:Int)-1))<(a0.2.1.length:Int) then
if C4 ((gl ((0,0,0,0):AX) a0.2.1 ((AG ((a0.2.1.length:Int)-1)).toNat)).1) 0=some .eq then
if a0.2.2<1 then
some (9)
else if a0.2.2>64 then
if a0.2.2>64 then
some (9)
else some (0)
else if ¬(C4 ((gl ((0,0,0,0):AX) a0.2.1 ((AG ((a0.2.1.length:Int)-1)).toNat)).1) 0=some .eq) then
if ¬a0.2.2=0 then
some (9)
else some (0)
else some (0)
else if ¬(C4 ((gl ((0,0,0,0):AX) a0.2.1 ((AG ((a0.2.1.length:Int)-1)).toNat)).1) 0=some .eq) then
if ¬a0.2.2=0 then
some (9)
else some (0)
else some (0)
else none)) (1))) (0))
@[reducible] def OX:FnI:={ ps:=[⟨M4,true,false,false⟩],rs:=[⟨(.int .i64),false,true,false⟩],os:=[],bk:=[],F:=fun x=>H3 x }
def s_:Cx:={ nm:=[(1,(1,1))],AL:=[],fns:=BA [(64,aW),(65,gF),(66,UZ)],loops:=[(1,{ live:=[(26,⟨(.int .i64),false,false,false⟩)],boxes:=[],rows:=[],dead:=FU [(2,3),(27,9)],lost:=[],base:=2 }),(3,{ live:=[(5,⟨(.int .i64),false,false,false⟩)],boxes:=[],rows:=[],dead:=FU [(2,1),(36,11)],lost:=[],base:=2 })],AO:=[],tb:=A8,exts:=[],lets:=[] }
theorem RT:CV 31 OX:=okW s_ [.tmp 2] 76 1 (BB (.cons pK (.cons s9 (.cons iV AN.nil))) A3.nil) Tryz.func31
def dJ (a0:CE) (a1:Int):Option Bool:=
if a1≥0 then
some (decide (a1<(a0.2.2.length:Int)))
else some (false)
@[reducible] def tA:FnI:={ ps:=[⟨CN,true,false,false⟩,⟨(.int .i64),false,false,false⟩],rs:=[⟨.bool,false,true,false⟩],os:=[],bk:=[],F:=fun x=>dJ x.1 x.2 }
def AFR:Cx:={ nm:=[(2,(2,1))],AL:=[],fns:=BA [],loops:=[],AO:=[],tb:=A8,exts:=[],lets:=[] }
theorem ACN:CV 133 tA:=okW AFR [.tmp 4] 14 1 (BB AN.nil A3.nil) Tryz.func133
def U0 (a0:CE) (a1:Int):Option Bool:=
if 0<=a1/\a1<(a0.2.2.length:Int) then
some (decide (((gl ((0,0,0):A4) a0.2.2 a1.toNat).1)=(-1)))
else none
@[reducible] def kU:FnI:={ ps:=[⟨CN,true,false,false⟩,⟨(.int .i64),false,false,false⟩],rs:=[⟨.bool,false,true,false⟩],os:=[],bk:=[],F:=fun x=>U0 x.1 x.2 }
def zI:Cx:={ nm:=[(2,(2,1))],AL:=[],fns:=BA [],loops:=[],AO:=[],tb:=A8,exts:=[],lets:=[] }
theorem uY:CV 134 kU:=okW zI [.tmp 4] 12 1 (BB AN.nil A3.nil) Tryz.func134
def N0 (a0:CE) (a1:Int):Option FC:=
Option.bind (HP a0) (fun r1=>
if (!r1)=true then
some (([],1))
else Option.bind (dJ a0 a1) (fun r2=>
if (!r2)=true then
some (([],2))
else Option.bind (U0 a0 a1) (fun r3=>
if r3=true then
some (([],5))
else AM (σ:=FC) (β:=FC) (fun s1=>
if s1.2≥0 then
if (s1.1.length+([s1.2]:List Int).length)*8<=140737488355328 then
if 0<=s1.2/\s1.2<(a0.2.2.length:Int) then
some (Sum.inl ((s1.1++([s1.2]:List Int),((gl ((0,0,0):A4) a0.2.2 s1.2.toNat).2).2)))
else none
else none
else some (Sum.inr ((s1.1,0)))) (([],a1)))))
@[reducible] def kV:FnI:={ ps:=[⟨CN,true,false,false⟩,⟨(.int .i64),false,false,false⟩],rs:=[⟨H0,false,true,false⟩,⟨(.int .i64),false,true,false⟩],os:=[],bk:=[],F:=fun x=>N0 x.1 x.2 }
def zJ:Cx:={ nm:=[(2,(2,1)),(29,(4,1)),(30,(5,1))],AL:=[30],fns:=BA [(67,P5),(133,tA),(134,kU)],loops:=[(0,{ live:=[(6,⟨H0,false,true,false⟩),(7,⟨(.int .i64),false,false,false⟩)],boxes:=[],rows:=[],dead:=FU [(19,12)],lost:=[],base:=3 })],AO:=[],tb:=A8,exts:=[],lets:=[] }
theorem uZ:CV 111 kV:=okW zJ [.tmp 4,.tmp 5] 32 4 (BB (.cons TK (.cons ACN (.cons uY AN.nil))) A3.nil) Tryz.func111
def TY (a0:Int) (a1:Int):Option Int:=
if a0<0 then
some (0)
else if a0>1099511627776 then
some (0)
else if a1<0 then
some (0)
else if a1>20 then
some (0)
else if True then
if True then
some ((AG ((AG (a0+(AG ((1:Int)*2 ^ min (BitVec.ofInt 64 a1).toNat 64))))-1)) / 2 ^ min (BitVec.ofInt 64 a1).toNat 64)
else none
else none
@[reducible] def b_:FnI:={ ps:=[⟨(.int .i64),false,false,false⟩,⟨(.int .i64),false,false,false⟩],rs:=[⟨(.int .i64),false,true,false⟩],os:=[],bk:=[],F:=fun x=>TY x.1 x.2 }
def ACO:Cx:={ nm:=[],AL:=[],fns:=BA [],loops:=[],AO:=[],tb:=A8,exts:=[],lets:=[] }
theorem kW:CV 114 b_:=okW ACO [.tmp 4] 28 0 (BB AN.nil A3.nil) Tryz.func114
def JV (a0:CE) (a1:AE):Option Int:=
Option.bind (TY a1.2.2.2.2 a0.1) (fun r1=>
some (r1))
@[reducible] def M9:FnI:={ ps:=[⟨CN,true,false,false⟩,⟨GX,true,false,false⟩],rs:=[⟨(.int .i64),false,true,false⟩],os:=[],bk:=[],F:=fun x=>JV x.1 x.2 }
def u4:Cx:={ nm:=[(2,(2,1)),(3,(3,1))],AL:=[],fns:=BA [(114,b_)],loops:=[],AO:=[],tb:=A8,exts:=[],lets:=[] }
theorem OY:CV 76 M9:=okW u4 [.tmp 4] 10 2 (BB (.cons kW AN.nil) A3.nil) Tryz.func76
def XT (a0:CE) (a1:Int):Option Int:=
AM (σ:=(Int×Int)) (β:=Int) (fun s1=>
if s1.2<(a0.2.2.length:Int) then
if 0<=s1.2/\s1.2<(a0.2.2.length:Int) then
if ((gl ((0,0,0):A4) a0.2.2 s1.2.toNat).1)=a1 then
some (Sum.inl ((AG (s1.1+1),AG (s1.2+1))))
else some (Sum.inl ((s1.1,AG (s1.2+1))))
else none
else some (Sum.inr (s1.1))) ((0,0))
@[reducible] def oL:FnI:={ ps:=[⟨CN,true,false,false⟩,⟨(.int .i64),false,false,false⟩],rs:=[⟨(.int .i64),false,true,false⟩],os:=[],bk:=[],F:=fun x=>XT x.1 x.2 }
def ACP:Cx:={ nm:=[(2,(2,1)),(7,(3,1))],AL:=[],fns:=BA [],loops:=[(0,{ live:=[(5,⟨(.int .i64),false,false,false⟩),(11,⟨(.int .i64),false,false,false⟩)],boxes:=[],rows:=[],dead:=FU [(7,1),(12,10)],lost:=[],base:=3 })],AO:=[],tb:=A8,exts:=[],lets:=[] }
theorem zK:CV 112 oL:=okW ACP [.tmp 4] 23 2 (BB AN.nil A3.nil) Tryz.func112
def I_ (a0:CE) (a1:AE):Option Bool:=
Option.bind (HP a0) (fun r1=>
if (!r1)=true then
some (false)
else if a1.1<0 then
some (false)
else if a1.1>4294967295 then
some (false)
else if a1.2.1<0 then
some (false)
else if a1.2.1≥4 then
some (false)
else if a1.2.2.2.2<0 then
some (false)
else if a1.2.2.2.2=0 then
if a1.2.2.1=(-1) then
some (decide (a1.2.2.2.1=(-1)))
else some (false)
else Option.bind (N0 a0 a1.2.2.1) (fun r2=>
if ¬r2.2=0 then
some (false)
else if a1.2.2.2.2>(a0.2.1.length:Int) then
some (false)
else if 0<=(AG ((r2.1.length:Int)-1))/\(AG ((r2.1.length:Int)-1))<(r2.1.length:Int) then
if ¬(gl (0:Int) r2.1 ((AG ((r2.1.length:Int)-1)).toNat))=a1.2.2.2.1 then
some (false)
else Option.bind (JV a0 a1) (fun r3=>
if ¬(r2.1.length:Int)=r3 then
some (false)
else Option.bind (XT a0 a1.1) (fun r4=>
if ¬(r2.1.length:Int)=r4 then
some (false)
else if 0<=a1.2.2.1/\a1.2.2.1<(a0.2.2.length:Int) then
if ((gl ((0,0,0):A4) a0.2.2 a1.2.2.1.toNat).1)=a1.1 then
some (decide ((((gl ((0,0,0):A4) a0.2.2 a1.2.2.1.toNat).2).1)=(AG ((AG (a1.2.1*4294967296))+a1.1))))
else some (false)
else none))
else none))
@[reducible] def kX:FnI:={ ps:=[⟨CN,true,false,false⟩,⟨GX,true,false,false⟩],rs:=[⟨.bool,false,true,false⟩],os:=[],bk:=[],F:=fun x=>I_ x.1 x.2 }
def zL:Cx:={ nm:=[(2,(2,1)),(3,(3,1)),(7,(5,1)),(51,(4,1))],AL:=[],fns:=BA [(67,P5),(76,M9),(111,kV),(112,oL)],loops:=[],AO:=[],tb:=A8,exts:=[],lets:=[] }
theorem u5:CV 68 kX:=okW zL [.tmp 4] 114 4 (BB (.cons TK (.cons OY (.cons uZ (.cons zK AN.nil)))) A3.nil) Tryz.func68
def U1 (a0:CE) (a1:GC):Option Bool:=
Option.bind (HP a0) (fun r1=>
if (!r1)=true then
some (false)
else if (a1.length:Int)<1 then
some (false)
else if (a1.length:Int)>4 then
some (false)
else AM (σ:=(Int×(List (Int×Bool)))) (β:=Bool) (fun s1=>
if s1.1<(a1.length:Int) then
if 0<=s1.1/\s1.1<(a1.length:Int) then
AM (σ:=(Int×(List (Int×Bool)))) (β:=((Int×(List (Int×Bool))) ⊕ Bool)) (fun s2=>
if s2.1<((gl ([]:(List AE)) a1 s1.1.toNat).length:Int) then
if 0<=s2.1/\s2.1<((gl ([]:(List AE)) a1 s1.1.toNat).length:Int) then
if ¬(((gl ((0,0,0,0,0):AE) (gl ([]:(List AE)) a1 s1.1.toNat) s2.1.toNat).2).1)=s1.1 then
some (Sum.inr (Sum.inr (false)))
else if (((((gl ((0,0,0,0,0):AE) (gl ([]:(List AE)) a1 s1.1.toNat) s2.1.toNat).2).2).2).2)<1 then
some (Sum.inr (Sum.inr (false)))
else if s2.1>0 then
if 0<=(AG (s2.1-1))/\(AG (s2.1-1))<((gl ([]:(List AE)) a1 s1.1.toNat).length:Int) then
if ((gl ((0,0,0,0,0):AE) (gl ([]:(List AE)) a1 s1.1.toNat) ((AG (s2.1-1)).toNat)).1)≥((gl ((0,0,0,0,0):AE) (gl ([]:(List AE)) a1 s1.1.toNat) s2.1.toNat).1) then
some (Sum.inr (Sum.inr (false)))
else if ((K5 s2.2 ((gl ((0,0,0,0,0):AE) (gl ([]:(List AE)) a1 s1.1.toNat) s2.1.toNat).1)).getD false)=true then
some (Sum.inr (Sum.inr (false)))
else Option.bind (I_ a0 ((gl ((0,0,0,0,0):AE) (gl ([]:(List AE)) a1 s1.1.toNat) s2.1.toNat).1,((gl ((0,0,0,0,0):AE) (gl ([]:(List AE)) a1 s1.1.toNat) s2.1.toNat).2).1,(((gl ((0,0,0,0,0):AE) (gl ([]:(List AE)) a1 s1.1.toNat) s2.1.toNat).2).2).1,((((gl ((0,0,0,0,0):AE) (gl ([]:(List AE)) a1 s1.1.toNat) s2.1.toNat).2).2).2))) (fun r2=>
if (!r2)=true then
some (Sum.inr (Sum.inr (false)))
else some (Sum.inl ((AG (s2.1+1),VZ s2.2 ((gl ((0,0,0,0,0):AE) (gl ([]:(List AE)) a1 s1.1.toNat) s2.1.toNat).1) true))))
else none
else if ((K5 s2.2 ((gl ((0,0,0,0,0):AE) (gl ([]:(List AE)) a1 s1.1.toNat) s2.1.toNat).1)).getD false)=true then
some (Sum.inr (Sum.inr (false)))
else Option.bind (I_ a0 ((gl ((0,0,0,0,0):AE) (gl ([]:(List AE)) a1 s1.1.toNat) s2.1.toNat).1,((gl ((0,0,0,0,0):AE) (gl ([]:(List AE)) a1 s1.1.toNat) s2.1.toNat).2).1,(((gl ((0,0,0,0,0):AE) (gl ([]:(List AE)) a1 s1.1.toNat) s2.1.toNat).2).2).1,((((gl ((0,0,0,0,0):AE) (gl ([]:(List AE)) a1 s1.1.toNat) s2.1.toNat).2).2).2))) (fun r3=>
if (!r3)=true then
some (Sum.inr (Sum.inr (false)))
else some (Sum.inl ((AG (s2.1+1),VZ s2.2 ((gl ((0,0,0,0,0):AE) (gl ([]:(List AE)) a1 s1.1.toNat) s2.1.toNat).1) true))))
else none
else some (Sum.inr (Sum.inl ((AG (s1.1+1),s2.2))))) ((0,s1.2))
else none
else Option.map Sum.inr (AM (σ:=Int) (β:=Bool) (fun s3=>
if s3<(a0.2.2.length:Int) then
if 0<=s3/\s3<(a0.2.2.length:Int) then
if ¬((gl ((0,0,0):A4) a0.2.2 s3.toNat).1)=(-1) then
if (!((K5 s1.2 ((gl ((0,0,0):A4) a0.2.2 s3.toNat).1)).getD false))=true then
some (Sum.inr (false))
else some (Sum.inl (AG (s3+1)))
else some (Sum.inl (AG (s3+1)))
else none
else some (Sum.inr (true))) (0))) ((0,([]:List (Int×Bool)))))
@[reducible] def kY:FnI:={ ps:=[⟨CN,true,false,false⟩,⟨IY,false,false,false⟩],rs:=[⟨.bool,false,true,false⟩],os:=[],bk:=[],F:=fun x=>U1 x.1 x.2 }
def zM:Cx:={ nm:=[(2,(3,1)),(9,(6,1)),(11,(7,1)),(25,(4,1)),(32,(5,1))],AL:=[],fns:=BA [(67,P5),(68,kX)],loops:=[(0,{ live:=[(28,⟨(.int .i64),false,false,false⟩)],boxes:=[],rows:=[(4,.kv)],dead:=FU [(4,1),(6,4),(29,52)],lost:=[],base:=5 }),(2,{ live:=[(35,⟨(.int .i64),false,false,false⟩)],boxes:=[],rows:=[(4,.kv)],dead:=FU [(4,1),(8,2),(36,44)],lost:=[],base:=6 }),(4,{ live:=[(84,⟨(.int .i64),false,false,false⟩)],boxes:=[],rows:=[],dead:=FU [(4,1),(11,1),(85,14)],lost:=[],base:=7 })],AO:=[],tb:=A8,exts:=[],lets:=[] }
theorem u6:CV 32 kY:=okW zM [.tmp 4] 99 5 (BB (.cons TK (.cons u5 AN.nil)) A3.nil) Tryz.func32
def XU (a0:GC):Option (List AE):=
AM (σ:=((List AE)×Int)) (β:=(List AE)) (fun s1=>
if s1.2<(a0.length:Int) then
if 0<=s1.2/\s1.2<(a0.length:Int) then
if (s1.1.length+(gl ([]:(List AE)) a0 s1.2.toNat).length)*40<=140737488355328 then
some (Sum.inl ((s1.1++(gl ([]:(List AE)) a0 s1.2.toNat),AG (s1.2+1))))
else none
else none
else some (Sum.inr (s1.1))) (([],0))
@[reducible] def oM:FnI:={ ps:=[⟨IY,false,false,false⟩],rs:=[⟨LC,false,true,false⟩],os:=[],bk:=[],F:=fun x=>XU x }
def ACQ:Cx:={ nm:=[(11,(2,1)),(14,(3,1))],AL:=[14],fns:=BA [],loops:=[(0,{ live:=[(3,⟨LC,false,true,false⟩),(8,⟨(.int .i64),false,false,false⟩)],boxes:=[],rows:=[],dead:=FU [(5,1),(9,7)],lost:=[],base:=1 })],AO:=[],tb:=A8,exts:=[],lets:=[] }
theorem zN:CV 33 oM:=okW ACQ [.tmp 2] 17 3 (BB AN.nil A3.nil) Tryz.func33
def WO (a0:Nat):Option Nat:=
if a0<18446744073709551616 then
some (((BitVec.ofNat 64 a0) &&& ~~~(9223372036854775808#64)).toNat)
else none
@[reducible] def iW:FnI:={ ps:=[⟨.NC,false,false,false⟩],rs:=[⟨.NC,false,true,false⟩],os:=[],bk:=[],F:=fun x=>WO x }
def AFS:Cx:={ nm:=[],AL:=[],fns:=BA [],loops:=[],AO:=[],tb:=A8,exts:=[(81,.SU),(150,.jW)],lets:=[] }
theorem AT5:A3 Tryz.prog 150 .jW:=⟨Tryz.f150,Tryz.func150,by kernel_rfl,by kernel_rfl,by kernel_rfl,by kernel_rfl⟩
theorem oN:CV 158 iW:=okW AFS [.tmp 2] 7 0 (BB AN.nil (.cons AN3 (.cons AT5 A3.nil))) Tryz.func158
def cA (a0:Nat) (a1:Int):Option Bool:=
if a1=0 then
Option.bind (WO a0) (fun r1=>
some (decide (C4 r1 9218868437227405311=some .gt)))
else if a1<0 then
some (decide (C4 (AWA a0) 9218868437227405311=some .gt))
else some (decide (C4 a0 9218868437227405311=some .gt))
@[reducible] def kZ:FnI:={ ps:=[⟨.NC,false,false,false⟩,⟨(.int .i64),false,false,false⟩],rs:=[⟨.bool,false,true,false⟩],os:=[],bk:=[],F:=fun x=>cA x.1 x.2 }
def zO:Cx:={ nm:=[],AL:=[],fns:=BA [(158,iW)],loops:=[],AO:=[],tb:=A8,exts:=[],lets:=[] }
theorem u7:CV 147 kZ:=okW zO [.tmp 4] 15 0 (BB (.cons oN AN.nil) A3.nil) Tryz.func147
def cB (a0:Nat):Option Bool:=
some (decide (¬C4 a0 a0=some .eq))
@[reducible] def k8:FnI:={ ps:=[⟨.NC,false,false,false⟩],rs:=[⟨.bool,false,true,false⟩],os:=[],bk:=[],F:=fun x=>cB x }
def zP:Cx:={ nm:=[],AL:=[],fns:=BA [],loops:=[],AO:=[],tb:=A8,exts:=[],lets:=[] }
theorem u9:CV 148 k8:=okW zP [.tmp 2] 6 0 (BB AN.nil A3.nil) Tryz.func148
def RU (a0:Nat):Option (Nat×Int):=
Option.bind (WO a0) (fun r1=>
if C4 r1 4503599627370496=some .lt then
if (FI .mul a0 4841369599423283200).isSome=true then
some (((FI .mul a0 4841369599423283200).getD 0,(-52)))
else none
else some ((a0,0)))
@[reducible] def WQ:FnI:={ ps:=[⟨.NC,false,false,false⟩],rs:=[⟨.NC,false,true,false⟩,⟨(.int .i64),false,true,false⟩],os:=[],bk:=[],F:=fun x=>RU x }
def m5:Cx:={ nm:=[],AL:=[],fns:=BA [(158,iW)],loops:=[],AO:=[],tb:=A8,exts:=[],lets:=[] }
theorem k9:CV 149 WQ:=okW m5 [.tmp 2,.tmp 3] 10 0 (BB (.cons oN AN.nil) A3.nil) Tryz.func149
def cC (a0:Nat):Option (Nat×Int):=
if C4 a0 0=some .eq then
some ((a0,0))
else Option.bind (cA a0 0) (fun r1=>
if r1=true then
some ((a0,0))
else Option.bind (cB a0) (fun r2=>
if r2=true then
some ((a0,0))
else Option.bind (RU a0) (fun r3=>
if r3.1<18446744073709551616 then
if True then
some (((((BitVec.ofNat 64 r3.1) &&& ~~~(9218868437227405312#64))|||(4602678819172646912#64)).toNat,AG (r3.2+(AG ((AG ((AG (((((BitVec.ofNat 64 r3.1) >>> (52#64).toNat) &&& (2047#64)).toNat:Int)))-1023))+1)))))
else none
else none)))
@[reducible] def k_:FnI:={ ps:=[⟨.NC,false,false,false⟩],rs:=[⟨.NC,false,true,false⟩,⟨(.int .i64),false,true,false⟩],os:=[],bk:=[],F:=fun x=>cC x }
def zQ:Cx:={ nm:=[],AL:=[],fns:=BA [(147,kZ),(148,k8),(149,WQ)],loops:=[],AO:=[],tb:=A8,exts:=[(81,.SU),(150,.jW)],lets:=[] }
theorem u_:CV 136 k_:=okW zQ [.tmp 2,.tmp 3] 38 0 (BB (.cons u7 (.cons u9 (.cons k9 AN.nil))) (.cons AN3 (.cons AT5 A3.nil))) Tryz.func136
def U2 (a0:Nat):Option (Nat×Int):=
Option.bind (cC a0) (fun r1=>
some ((r1.1,r1.2)))
@[reducible] def lA:FnI:={ ps:=[⟨.NC,false,false,false⟩],rs:=[⟨.NC,false,true,false⟩,⟨(.int .i64),false,true,false⟩],os:=[],bk:=[],F:=fun x=>U2 x }
def zR:Cx:={ nm:=[],AL:=[],fns:=BA [(136,k_)],loops:=[],AO:=[],tb:=A8,exts:=[],lets:=[] }
theorem vA:CV 113 lA:=okW zR [.tmp 2,.tmp 3] 12 0 (BB (.cons u_ AN.nil) A3.nil) Tryz.func113
def M_ (a0:Nat) (a1:Int):Option (Int×Int):=
Option.bind (L9 a0) (fun r1=>
if (!r1)=true then
some ((0,6))
else if a1<1 then
some ((0,1))
else if a1>64 then
some ((0,1))
else if C4 a0 0=some .eq then
some ((0,0))
else Option.bind (U2 a0) (fun r2=>
if (FI .mul r2.1 4845873199050653696).isSome=true then
if fIn .u64 ((FI .mul r2.1 4845873199050653696).getD 0)=true then
if True then
some ((if (AG (((((BitVec.ofInt 64 ((WX ((FI .mul r2.1 4845873199050653696).getD 0)).getD 0))*(BitVec.ofInt 64 a1)) >>> (BitVec.ofInt 64 (AG ((53:Int)-r2.2))).toNat).toNat:Int)))>1 then AG (((((BitVec.ofInt 64 ((WX ((FI .mul r2.1 4845873199050653696).getD 0)).getD 0))*(BitVec.ofInt 64 a1)) >>> (BitVec.ofInt 64 (AG ((53:Int)-r2.2))).toNat).toNat:Int)) else 1,0))
else none
else none
else none))
@[reducible] def cD:FnI:={ ps:=[⟨.NC,false,false,false⟩,⟨(.int .i64),false,false,false⟩],rs:=[⟨(.int .i64),false,true,false⟩,⟨(.int .i64),false,true,false⟩],os:=[],bk:=[],F:=fun x=>M_ x.1 x.2 }
def tB:Cx:={ nm:=[],AL:=[],fns:=BA [(106,VI),(113,lA)],loops:=[],AO:=[],tb:=A8,exts:=[],lets:=[] }
theorem pM:CV 69 cD:=okW tB [.tmp 4,.tmp 5] 38 0 (BB (.cons b8 (.cons vA AN.nil)) A3.nil) Tryz.func69
def U3 (a0:J1) (a1:Int) (a2:Int):Option (Int×Int):=
Option.bind (H3 a0) (fun r1=>
if ¬r1=0 then
some ((0,1))
else if a1<0 then
some ((0,1))
else if a1≥(a0.2.1.length:Int) then
some ((0,1))
else if a2<1 then
some ((0,1))
else if a2>64 then
some ((0,1))
else if 0<=a1/\a1<(a0.2.1.length:Int) then
Option.bind (M_ ((gl ((0,0,0,0):AX) a0.2.1 a1.toNat).1) a2) (fun r2=>
some ((r2.1,r2.2)))
else none)
@[reducible] def lB:FnI:={ ps:=[⟨M4,true,false,false⟩,⟨(.int .i64),false,false,false⟩,⟨(.int .i64),false,false,false⟩],rs:=[⟨(.int .i64),false,true,false⟩,⟨(.int .i64),false,true,false⟩],os:=[],bk:=[],F:=fun x=>U3 x.1 x.2.1 x.2.2 }
def zS:Cx:={ nm:=[(3,(1,1))],AL:=[],fns:=BA [(31,OX),(69,cD)],loops:=[],AO:=[],tb:=A8,exts:=[],lets:=[] }
theorem vB:CV 34 lB:=okW zS [.tmp 6,.tmp 7] 40 1 (BB (.cons RT (.cons pM AN.nil)) A3.nil) Tryz.func34
def lC (a0:GC) (a1:Int):Option Bool:=
if a1≥0 then
some (decide (a1<(a0.length:Int)))
else some (false)
@[reducible] def w_:FnI:={ ps:=[⟨IY,false,false,false⟩,⟨(.int .i64),false,false,false⟩],rs:=[⟨.bool,false,true,false⟩],os:=[],bk:=[],F:=fun x=>lC x.1 x.2 }
def AK5:Cx:={ nm:=[],AL:=[],fns:=BA [],loops:=[],AO:=[],tb:=A8,exts:=[],lets:=[] }
theorem AFT:CV 70 w_:=okW AK5 [.tmp 4] 13 0 (BB AN.nil A3.nil) Tryz.func70
def LS (a0:GC) (a1:Int):Option (AE×Bool):=
Option.bind (lC a0 a1) (fun r1=>
if (!r1)=true then
some (((0,0,0,0,0),false))
else if 0<=a1/\a1<(a0.length:Int) then
if ((gl ([]:(List AE)) a0 a1.toNat).length:Int)=0 then
some (((0,0,0,0,0),false))
else if 0<=a1/\a1<(a0.length:Int) then
if 0<=a1/\a1<(a0.length:Int) then
if 0<=(AG (((gl ([]:(List AE)) a0 a1.toNat).length:Int)-1))/\(AG (((gl ([]:(List AE)) a0 a1.toNat).length:Int)-1))<((gl ([]:(List AE)) a0 a1.toNat).length:Int) then
some ((((gl ((0,0,0,0,0):AE) (gl ([]:(List AE)) a0 a1.toNat) ((AG (((gl ([]:(List AE)) a0 a1.toNat).length:Int)-1)).toNat)).1,((gl ((0,0,0,0,0):AE) (gl ([]:(List AE)) a0 a1.toNat) ((AG (((gl ([]:(List AE)) a0 a1.toNat).length:Int)-1)).toNat)).2).1,(((gl ((0,0,0,0,0):AE) (gl ([]:(List AE)) a0 a1.toNat) ((AG (((gl ([]:(List AE)) a0 a1.toNat).length:Int)-1)).toNat)).2).2).1,((((gl ((0,0,0,0,0):AE) (gl ([]:(List AE)) a0 a1.toNat) ((AG (((gl ([]:(List AE)) a0 a1.toNat).length:Int)-1)).toNat)).2).2).2)),true))
else none
else none
else none
else none)
@[reducible] def YJ:FnI:={ ps:=[⟨IY,false,false,false⟩,⟨(.int .i64),false,false,false⟩],rs:=[⟨GX,true,true,false⟩,⟨.bool,false,true,false⟩],os:=[],bk:=[],F:=fun x=>LS x.1 x.2 }
def pN:Cx:={ nm:=[(4,(1,1)),(14,(2,1)),(22,(3,1)),(26,(4,1))],AL:=[],fns:=BA [(70,w_)],loops:=[],AO:=[],tb:=A8,exts:=[],lets:=[] }
theorem m6:CV 35 YJ:=okW pN [.cell 4 57,.tmp 5] 31 4 (BB (.cons AFT AN.nil) A3.nil) Tryz.func35
def XV (a0:CE) (a1:AE) (a2:Int):Option Bool:=
if a2=0 then
some (true)
else Option.bind (UW a0) (fun r1=>
some (decide (a1.2.2.2.2<(AG (a2*r1)))))
@[reducible] def oO:FnI:={ ps:=[⟨CN,true,false,false⟩,⟨GX,true,false,false⟩,⟨(.int .i64),false,false,false⟩],rs:=[⟨.bool,false,true,false⟩],os:=[],bk:=[],F:=fun x=>XV x.1 x.2.1 x.2.2 }
def ACR:Cx:={ nm:=[(3,(2,1)),(4,(3,1))],AL:=[],fns:=BA [(71,kK)],loops:=[],AO:=[],tb:=A8,exts:=[],lets:=[] }
theorem zT:CV 36 oO:=okW ACR [.tmp 6] 18 2 (BB (.cons uU AN.nil) A3.nil) Tryz.func36
def U4 (a0:CE) (a1:AE) (a2:Int):Option Int:=
Option.bind (TY (AG (a1.2.2.2.2+a2)) a0.1) (fun r1=>
Option.bind (JV a0 a1) (fun r2=>
some (AG (r1-r2))))
@[reducible] def lD:FnI:={ ps:=[⟨CN,true,false,false⟩,⟨GX,true,false,false⟩,⟨(.int .i64),false,false,false⟩],rs:=[⟨(.int .i64),false,true,false⟩],os:=[],bk:=[],F:=fun x=>U4 x.1 x.2.1 x.2.2 }
def zU:Cx:={ nm:=[(3,(2,1)),(4,(3,1))],AL:=[],fns:=BA [(76,M9),(114,b_)],loops:=[],AO:=[],tb:=A8,exts:=[],lets:=[] }
theorem vC:CV 72 lD:=okW zU [.tmp 6] 18 2 (BB (.cons OY (.cons kW AN.nil)) A3.nil) Tryz.func72
def XW (a0:CE):Option (BitVec 64):=
AM (σ:=((BitVec 64)×Int)) (β:=(BitVec 64)) (fun s1=>
if s1.2<(a0.2.2.length:Int) then
if 0<=s1.2/\s1.2<(a0.2.2.length:Int) then
if ((gl ((0,0,0):A4) a0.2.2 s1.2.toNat).1)=(-1) then
if s1.2<64 then
if True then
some (Sum.inl ((s1.1|||((1#64) <<< (BitVec.ofInt 64 s1.2).toNat),AG (s1.2+1))))
else none
else some (Sum.inl ((s1.1,AG (s1.2+1))))
else some (Sum.inl ((s1.1,AG (s1.2+1))))
else none
else some (Sum.inr (s1.1))) ((0#64,0))
@[reducible] def oP:FnI:={ ps:=[⟨CN,true,false,false⟩],rs:=[⟨.u64,false,true,false⟩],os:=[],bk:=[],F:=fun x=>XW x }
def ACS:Cx:={ nm:=[(1,(2,1)),(5,(3,1))],AL:=[],fns:=BA [],loops:=[(0,{ live:=[(3,⟨.u64,false,false,false⟩),(9,⟨(.int .i64),false,false,false⟩)],boxes:=[],rows:=[],dead:=FU [(4,2),(10,17)],lost:=[],base:=3 })],AO:=[],tb:=A8,exts:=[],lets:=[] }
theorem zV:CV 116 oP:=okW ACS [.tmp 2] 28 2 (BB AN.nil A3.nil) Tryz.func116
def XX (a0:CE):Option Int:=
Option.bind (XW a0) (fun r1=>
Option.bind (GR r1) (fun r2=>
some (AG ((a0.2.2.length:Int)-r2))))
@[reducible] def oQ:FnI:={ ps:=[⟨CN,true,false,false⟩],rs:=[⟨(.int .i64),false,true,false⟩],os:=[],bk:=[],F:=fun x=>XX x }
def ACT:Cx:={ nm:=[(1,(2,1))],AL:=[],fns:=BA [(115,NU),(116,oP)],loops:=[],AO:=[],tb:=A8,exts:=[],lets:=[] }
theorem zW:CV 73 oQ:=okW ACT [.tmp 2] 10 1 (BB (.cons VC (.cons zV AN.nil)) A3.nil) Tryz.func73
def I1 (a0:J1):Option Bool:=
Option.bind (H3 a0) (fun r1=>
if r1=0 then
if 0<=(AG ((a0.2.1.length:Int)-1))/\(AG ((a0.2.1.length:Int)-1))<(a0.2.1.length:Int) then
some (decide (C4 ((gl ((0,0,0,0):AX) a0.2.1 ((AG ((a0.2.1.length:Int)-1)).toNat)).1) 0=some .eq))
else none
else some (false))
@[reducible] def U5:FnI:={ ps:=[⟨M4,true,false,false⟩],rs:=[⟨.bool,false,true,false⟩],os:=[],bk:=[],F:=fun x=>I1 x }
def lE:Cx:={ nm:=[(1,(1,1))],AL:=[],fns:=BA [(31,OX)],loops:=[],AO:=[],tb:=A8,exts:=[],lets:=[] }
theorem iX:CV 74 U5:=okW lE [.tmp 2] 18 1 (BB (.cons RT AN.nil) A3.nil) Tryz.func74
def P6 (a0:CE) (a1:GC):Option Int:=
AM (σ:=(Int×Int)) (β:=Int) (fun s1=>
if s1.2<(a1.length:Int) then
if 0<=s1.2/\s1.2<(a1.length:Int) then
AM (σ:=(Int×Int)) (β:=((Int×Int) ⊕ Int)) (fun s2=>
if s2.2<((gl ([]:(List AE)) a1 s1.2.toNat).length:Int) then
if 0<=s2.2/\s2.2<((gl ([]:(List AE)) a1 s1.2.toNat).length:Int) then
Option.bind (JV a0 ((gl ((0,0,0,0,0):AE) (gl ([]:(List AE)) a1 s1.2.toNat) s2.2.toNat).1,((gl ((0,0,0,0,0):AE) (gl ([]:(List AE)) a1 s1.2.toNat) s2.2.toNat).2).1,(((gl ((0,0,0,0,0):AE) (gl ([]:(List AE)) a1 s1.2.toNat) s2.2.toNat).2).2).1,((((gl ((0,0,0,0,0):AE) (gl ([]:(List AE)) a1 s1.2.toNat) s2.2.toNat).2).2).2))) (fun r1=>
some (Sum.inl ((if r1>s2.1 then r1 else s2.1,AG (s2.2+1)))))
else none
else some (Sum.inr (Sum.inl ((s2.1,AG (s1.2+1)))))) ((s1.1,0))
else none
else some (Sum.inr (s1.1))) ((0,0))
@[reducible] def cE:FnI:={ ps:=[⟨CN,true,false,false⟩,⟨IY,false,false,false⟩],rs:=[⟨(.int .i64),false,true,false⟩],os:=[],bk:=[],F:=fun x=>P6 x.1 x.2 }
def tC:Cx:={ nm:=[(2,(3,1)),(9,(5,1)),(15,(4,1))],AL:=[],fns:=BA [(76,M9)],loops:=[(0,{ live:=[(5,⟨(.int .i64),false,false,false⟩),(12,⟨(.int .i64),false,false,false⟩)],boxes:=[],rows:=[],dead:=FU [(7,1),(9,1),(13,16)],lost:=[],base:=4 }),(2,{ live:=[(5,⟨(.int .i64),false,false,false⟩),(18,⟨(.int .i64),false,false,false⟩)],boxes:=[],rows:=[],dead:=FU [(9,1),(19,9)],lost:=[],base:=5 })],AO:=[],tb:=A8,exts:=[],lets:=[] }
theorem pO:CV 75 cE:=okW tC [.tmp 4] 30 3 (BB (.cons OY AN.nil) A3.nil) Tryz.func75
def CZ (a0:J1) (a1:CE) (a2:GC) (a3:AE) (a4:Int):Option Bool:=
Option.bind (U4 a1 a3 a4) (fun r1=>
if r1=0 then
some (true)
else Option.bind (XX a1) (fun r2=>
Option.bind (I1 a0) (fun r3=>
if r3=true then
some (decide ((AG ((a1.2.2.length:Int)-(AG (r2+r1))))≥(AG (r2+r1))))
else if (AG ((a1.2.2.length:Int)-(AG (r2+r1))))≥0 then
Option.bind (P6 a1 a2) (fun r4=>
Option.bind (JV a1 a3) (fun r5=>
some (decide ((AG ((a1.2.2.length:Int)-(AG (r2+r1))))≥(if (AG (r5+r1))>r4 then AG (r5+r1) else r4)))))
else some (false))))
@[reducible] def WR:FnI:={ ps:=[⟨M4,true,false,false⟩,⟨CN,true,false,false⟩,⟨IY,false,false,false⟩,⟨GX,true,false,false⟩,⟨(.int .i64),false,false,false⟩],rs:=[⟨.bool,false,true,false⟩],os:=[],bk:=[],F:=fun x=>CZ x.1 x.2.1 x.2.2.1 x.2.2.2.1 x.2.2.2.2 }
def m7:Cx:={ nm:=[(5,(4,1)),(6,(5,1)),(8,(6,1))],AL:=[],fns:=BA [(72,lD),(73,oQ),(74,U5),(75,cE),(76,M9)],loops:=[],AO:=[],tb:=A8,exts:=[],lets:=[] }
theorem lF:CV 37 WR:=okW m7 [.tmp 10] 49 3 (BB (.cons vC (.cons zW (.cons iX (.cons pO (.cons OY AN.nil))))) A3.nil) Tryz.func37
def HG (a0:J1) (a1:CE) (a2:GC) (a3:Int) (a4:Int):Option AT3:=
Option.bind (H3 a0) (fun r1=>
if ¬r1=0 then
some ((0,(0,0,0,0,0),1))
else Option.bind (U1 a1 a2) (fun r2=>
if (!r2)=true then
some ((0,(0,0,0,0,0),1))
else if ¬(a2.length:Int)=(a0.2.1.length:Int) then
some ((0,(0,0,0,0,0),1))
else if a3<0 then
some ((0,(0,0,0,0,0),1))
else if a3>4294967295 then
some ((0,(0,0,0,0,0),1))
else if a4<1 then
some ((0,(0,0,0,0,0),1))
else if a4>48 then
some ((0,(0,0,0,0,0),1))
else Option.bind (XU a2) (fun r3=>
AM (σ:=Int) (β:=AT3) (fun s1=>
if s1<(r3.length:Int) then
if 0<=s1/\s1<(r3.length:Int) then
if ((gl ((0,0,0,0,0):AE) r3 s1.toNat).1)≥a3 then
some (Sum.inr ((0,(0,0,0,0,0),1)))
else some (Sum.inl (AG (s1+1)))
else none
else Option.map Sum.inr (Option.bind (U3 a0 0 (a1.2.2.length:Int)) (fun r4=>
if ¬r4.2=0 then
some ((0,(0,0,0,0,0),r4.2))
else Option.bind (LS a2 0) (fun r5=>
if r5.2=true then
Option.bind (XV a1 r5.1 r4.1) (fun r6=>
if r6=true then
Option.bind (CZ a0 a1 a2 r5.1 a4) (fun r7=>
if r7=true then
some ((1,r5.1,0))
else some ((3,(0,0,0,0,0),0)))
else if 0<=(0:Int)/\(0:Int)<(a0.2.1.length:Int) then
if ¬(((gl ((0,0,0,0):AX) a0.2.1 ((0:Int).toNat)).2).1)=0 then
if 0<=(0:Int)/\(0:Int)<(a2.length:Int) then
if 0<=(0:Int)/\(0:Int)<(a0.2.1.length:Int) then
if ((gl ([]:(List AE)) a2 ((0:Int).toNat)).length:Int)≥(((gl ((0,0,0,0):AX) a0.2.1 ((0:Int).toNat)).2).1) then
some ((3,(0,0,0,0,0),0))
else Option.bind (CZ a0 a1 a2 (a3,0,(-1),(-1),0) a4) (fun r8=>
if r8=true then
some ((2,(a3,0,(-1),(-1),0),0))
else some ((3,(0,0,0,0,0),0)))
else none
else none
else Option.bind (CZ a0 a1 a2 (a3,0,(-1),(-1),0) a4) (fun r9=>
if r9=true then
some ((2,(a3,0,(-1),(-1),0),0))
else some ((3,(0,0,0,0,0),0)))
else none)
else if 0<=(0:Int)/\(0:Int)<(a0.2.1.length:Int) then
if ¬(((gl ((0,0,0,0):AX) a0.2.1 ((0:Int).toNat)).2).1)=0 then
if 0<=(0:Int)/\(0:Int)<(a2.length:Int) then
if 0<=(0:Int)/\(0:Int)<(a0.2.1.length:Int) then
if ((gl ([]:(List AE)) a2 ((0:Int).toNat)).length:Int)≥(((gl ((0,0,0,0):AX) a0.2.1 ((0:Int).toNat)).2).1) then
some ((3,(0,0,0,0,0),0))
else Option.bind (CZ a0 a1 a2 (a3,0,(-1),(-1),0) a4) (fun LZ=>
if LZ=true then
some ((2,(a3,0,(-1),(-1),0),0))
else some ((3,(0,0,0,0,0),0)))
else none
else none
else Option.bind (CZ a0 a1 a2 (a3,0,(-1),(-1),0) a4) (fun VL=>
if VL=true then
some ((2,(a3,0,(-1),(-1),0),0))
else some ((3,(0,0,0,0,0),0)))
else none)))) (0))))
@[reducible] def WS:FnI:={ ps:=[⟨M4,true,false,false⟩,⟨CN,true,false,false⟩,⟨IY,false,false,false⟩,⟨(.int .i64),false,false,false⟩,⟨(.int .i64),false,false,false⟩],rs:=[⟨(.int .i64),false,true,false⟩,⟨GX,true,true,false⟩,⟨(.int .i64),false,true,false⟩],os:=[],bk:=[],F:=fun x=>HG x.1 x.2.1 x.2.2.1 x.2.2.2.1 x.2.2.2.2 }
def m8:Cx:={ nm:=[(5,(4,1)),(6,(5,1)),(11,(6,1)),(14,(8,1)),(17,(9,1)),(19,(11,1)),(55,(7,1)),(108,(10,1))],AL:=[],fns:=BA [(31,OX),(32,kY),(33,oM),(34,lB),(35,YJ),(36,oO),(37,WR)],loops:=[(0,{ live:=[(57,⟨(.int .i64),false,false,false⟩)],boxes:=[],rows:=[],dead:=[10,12,14,58,59,60,61,62,63,64,65,66],lost:=[],base:=8 })],AO:=[],tb:=A8,exts:=[],lets:=[] }
theorem lG:CV 15 WS:=okW m8 [.tmp 10,.cell 11 57,.tmp 12] 128 8 (BB (.cons RT (.cons u6 (.cons zN (.cons vB (.cons m6 (.cons zT (.cons lF AN.nil))))))) A3.nil) Tryz.func15
def GS (a0:(List Int)) (a1:Int):Option Bool:=
Option.bind (L5 a0) (fun r1=>
Option.bind (KW r1) (fun r2=>
Option.bind (IZ a1 48) (fun r3=>
Option.bind (HG r2.1.1 r2.1.2.1 r2.1.2.2.1 r2.1.2.2.2.1 (AG ((1:Int)+r3))) (fun r4=>
if ¬r4.2.2=0 then
some (false)
else Option.bind (BN r2.1.2.2.1 0) (fun r5=>
Option.bind (D_ r2.1.1 0 (r2.1.2.1.2.2.length:Int)) (fun r6=>
if r5.2=true then
Option.bind (FM r2.1.2.1 r5.1 r6.1) (fun r7=>
if r4.1=1 then
if r7=true then
if (gP [decide (r4.2.1.1=r5.1.1),decide (r4.2.1.2.1=r5.1.2.1),decide (r4.2.1.2.2.1=r5.1.2.2.1),decide (r4.2.1.2.2.2.1=r5.1.2.2.2.1),decide (r4.2.1.2.2.2.2=r5.1.2.2.2.2)])=true then
Option.bind (BT r2.1.1 r2.1.2.1 r2.1.2.2.1 r5.1 (AG ((1:Int)+r3))) (fun r8=>
some (r8))
else some (false)
else some (false)
else if r4.1=2 then
Option.bind (CY r2.1.2.1 r4.2.1 (AG ((1:Int)+r3))) (fun r9=>
if (!r7)=true then
if r4.2.1.2.2.2.2=0 then
if r4.2.1.1=r2.1.2.2.2.1 then
some (decide (r9.2.2.2=0))
else some (false)
else some (false)
else some (false))
else if r4.1=3 then
if (!r7)=true then
some (true)
else Option.bind (D6 r2.1.2.1 r5.1 (AG ((1:Int)+r3))) (fun LZ=>
some (decide (LZ>0)))
else some (false))
else if r4.1=1 then
some (false)
else if r4.1=2 then
Option.bind (CY r2.1.2.1 r4.2.1 (AG ((1:Int)+r3))) (fun VL=>
if r4.2.1.2.2.2.2=0 then
if r4.2.1.1=r2.1.2.2.2.1 then
some (decide (VL.2.2.2=0))
else some (false)
else some (false))
else if r4.1=3 then
some (true)
else some (false)))))))
@[reducible] def J3:FnI:={ ps:=[⟨H0,false,false,false⟩,⟨(.int .i64),false,false,false⟩],rs:=[⟨.bool,false,true,false⟩],os:=[],bk:=[],F:=fun x=>GS x.1 x.2 }
def RW:Cx:={ nm:=[(5,(14,1)),(6,(15,1)),(9,(16,1)),(11,(17,1)),(16,(20,1)),(17,(21,1)),(22,(1,2)),(23,(3,11)),(96,(18,2))],AL:=[],fns:=BA [(10,TX),(11,UT),(14,OG),(15,WS),(17,DK),(18,JH),(19,IG),(20,KF),(21,QS),(22,HN)],loops:=[],AO:=[],tb:=A8,exts:=[],lets:=[] }
theorem RF:CV 4 J3:=okW RW [.tmp 4] 131 21 (BB (.cons fR (.cons iD (.cons TI (.cons lG (.cons EG (.cons MI (.cons LJ (.cons OT (.cons YY (.cons KB AN.nil)))))))))) A3.nil) Tryz.func4
end
end Go.Proofs.YthmiilamegpllaaGreat
namespace Go.Proofs.YthmiilamegpllaaGreat
open Go Go.V3
theorem BO {P:Prop} (h:¬P):(false=true↔P):=⟨fun e=>absurd e (by decide),fun p=>absurd p h⟩
theorem map_inr {α β:Type} {x:Option β} {Q:β->Prop} (h:∃ b,x=some b/\Q b):∃ b,Option.map (Sum.inr (α:=α)) x=some (Sum.inr b)/\Q b:=by
 obtain⟨b,rfl,h⟩:=h;exact⟨b,rfl,h⟩
theorem if3 {α:Type} {a b c:Prop} [Decidable a] [Decidable b] [Decidable c] {x y:α}:(if a then (if b then (if c then x else y) else y) else y)=if a/\b/\c then x else y:=by
 by_cases ha:a <;> by_cases hb:b <;> by_cases hc:c <;> simp [ha,hb,hc]
theorem m9 (s:Int):E3 s=some (decide (3<=s/\s<=8)):=by
 unfold E3
 by_cases h:s≥3
 ·rw[AA h];congr 1;rw[gO,N2,N2];omega
 ·rw[AB h];congr 1;rw[gO,N2];simp;omega
theorem xA (s:Int):OI s=some (decide (3<=s/\s<=8)):=by
 unfold OI
 by_cases h:s≥3
 ·rw[AA h];congr 1;rw[gO,N2,N2];omega
 ·rw[AB h];congr 1;rw[gO,N2];simp;omega
theorem AFU (f:Fr):∃ b,DH f=some b/\(b=true↔Stamped f):=by
 unfold DH
 by_cases h0:f.1<0
 ·rw[AA h0];exact⟨_,rfl,BO fun h=>by have:=h.1;omega⟩
 rw[AB h0]
 by_cases h1:f.1>4294967295
 ·rw[AA h1];exact⟨_,rfl,BO fun h=>by have:=h.2.1;omega⟩
 rw[AB h1]
 refine AR (fun k s=>s=(k:Int)/\k<=4/\∀ b:Int,0<=b->b<k->f.2.1≠f.1+b*4294967296) _ 4 ?_ ?_ ⟨rfl,by omega,fun b h1 h2=>by omega⟩
 ·rintro k s hk ⟨rfl,_,hb⟩
  rw[AA (by omega),AD (e:=(k:Int)*4294967296) (by omega) (by omega),AD (e:=f.1+_) (by omega) (by omega)]
  by_cases he:f.2.1=f.1+k*4294967296
  ·rw[AA he]
   exact .inr ⟨_,rfl,YB rfl ⟨by omega,by omega,k,by omega,by omega,he⟩⟩
  ·rw[AB he,AD (by omega) (by omega)]
   refine .inl ⟨_,rfl,by omega,by omega,fun b h2 h3=> ?_⟩
   by_cases hbk:b=k
   ·subst hbk;exact he
   ·exact hb b h2 (by omega)
 ·rintro s ⟨rfl,_,hb⟩
  rw[AB (by omega)]
  refine⟨_,rfl,BO ?_⟩
  rintro⟨_,_,b,h2,h3,h4⟩
  exact hb b h2 h3 h4
theorem AK6 {s:Sp} (hs:3<=s.1/\s.1<=8) (hn:s.2.2.length<=64) (hw:(s.2.1.length:Int)=s.2.2.length*sz s.1) {i:Int} (h0:0<=i) (h1:i<s.2.2.length) {a b:Int} (ha:a=i*sz s.1) (hb:b=i*sz s.1+sz s.1)
  {β:Type} {x y:β} {f:Int->Option (Int ⊕ β)} (hf:∀ p:Int,a<=p->p<s.2.1.length->f p=if p<b then (if ¬gl 0#64 s.2.1 p.toNat=0#64 then some (.inr x) else some (.inl (p+1))) else some (.inr y)) (pA:f b=some (.inr y)):
  ∃ r,AM f a=some r/\((r=x/\¬Zero s i)\/(r=y/\Zero s i)):=by
 have hz:=LF hs
 have m3:=(aJ hs (show 0<=i+1 by omega) (show i+1<=s.2.2.length by omega)).2
 rw[H2] at m3
 have m0:=(aJ hs h0 (S9 i)).1
 refine AR (fun k p=>p=a+k/\∀ j:Nat,a<=j->(j:Int)<p->gl 0#64 s.2.1 j=0#64) _ (sz s.1).toNat ?_ ?_ ⟨by omega,fun j h2 h3=>by omega⟩
 ·rintro k p hk ⟨rfl,hj⟩
  rw[hf _ (by omega) (by omega),AA (by omega)]
  by_cases hg:gl 0#64 s.2.1 (a+k).toNat=0#64
  ·rw[AB (by simp [hg])]
   refine .inl ⟨_,rfl,by omega,fun j h2 h3=> ?_⟩
   by_cases gC:(j:Int)=a+k
   ·rw[<-hg];congr 1;omega
   ·exact hj j h2 (by omega)
  ·rw[AA hg]
   refine .inr ⟨_,rfl,.inl ⟨rfl,fun hz=>hg ?_⟩⟩
   exact hz (a+k).toNat (by omega) (by rw[H2];omega)
 ·rintro p ⟨rfl,hj⟩
  have e:a+((sz s.1).toNat:Int)=b:=by omega
  rw[e] at hj ⊢
  rw[pA]
  refine⟨_,rfl,.inr ⟨rfl,fun j h2 h3=>hj j (by omega) ?_⟩⟩
  rw[H2] at h3;omega
theorem AHN {xs:List Int} {j:Nat} {v:Int} (hj:j<xs.length) (k:Nat):gl 0 (xs.set j v) k=if k=j then v else gl 0 xs k:=D0 hj
structure gG (s:Sp) (k:Nat):Prop where
 fr:∀ i:Int,0<=i->i<k->AR1 s i
 inj:∀ i j:Int,0<=i->i<k->0<=j->j<k->nx s.2.2 i=nx s.2.2 j->nx s.2.2 i≠-1->i=j
theorem gG.free {s:Sp} {k:Nat} (h:gG s k) (hk:k<s.2.2.length) (hf:AR1 s k) (hn:nx s.2.2 k= -1):gG s (k+1):=by
 refine⟨fun i h0 h1=> ?_,fun i j h0 h1 h2 h3 he CJ=> ?_⟩
 ·by_cases hi:i=k
  ·subst hi;exact hf
  ·exact h.fr i h0 (by omega)
 ·by_cases hi:i=k
  ·subst hi;exact absurd hn CJ
  ·by_cases hj:j=k
   ·subst hj;rw[he] at CJ;exact absurd hn CJ
   ·exact h.inj i j h0 (by omega) h2 (by omega) he CJ
theorem gG.used {s:Sp} {k:Nat} (h:gG s k) (hk:k<s.2.2.length) (hf:AR1 s k) (hn:∀ i:Int,0<=i->i<k->nx s.2.2 i≠nx s.2.2 k):gG s (k+1):=by
 refine⟨fun i h0 h1=> ?_,fun i j h0 h1 h2 h3 he CJ=> ?_⟩
 ·by_cases hi:i=k
  ·subst hi;exact hf
  ·exact h.fr i h0 (by omega)
 ·by_cases hi:i=k
  ·subst hi
   by_cases hj:j=k
   ·omega
   ·exact absurd he.symm (hn j h2 (by omega))
  ·by_cases hj:j=k
   ·subst hj;exact absurd he (hn i h0 (by omega))
   ·exact h.inj i j h0 (by omega) h2 (by omega) he CJ
theorem gG.HJ {s:Sp} (h:gG s s.2.2.length):Rng s.2.2:=by
 intro i h0 h1
 rw[HL h0 h1]
 rcases h.fr i h0 h1 with ⟨hf,_⟩|hu
 ·rw[show (Go.V3.fr s.2.2 i).2.2= -1 from by rw[hf]];omega
 ·exact⟨hu.2.1,hu.2.2.1⟩
theorem xB (s:Sp):∃ b,GD s=some b/\(b=true↔VS s):=by
 unfold GD
 rw[m9]
 simp only[A9]
 by_cases hs:3<=s.1/\s.1<=8
 rotate_left
 ·rw[AA (by simp [hs])];exact⟨_,rfl,BO fun h=>hs h.sh⟩
 rw[AB (by simp [hs])]
 by_cases hn:(s.2.2.length:Int)<2
 ·rw[AA hn];exact⟨_,rfl,BO fun h=>by have:=h.n.1;omega⟩
 rw[AB hn]
 by_cases hn2:(s.2.2.length:Int)>64
 ·rw[AA hn2];exact⟨_,rfl,BO fun h=>by have:=h.n.2;omega⟩
 have z:=LF hs
 obtain⟨q1,q2⟩:=J7 hs (by omega:0<=(s.2.2.length:Int)) (show (s.2.2.length:Int)<=64 by omega)
 rw[AB hn2,AA trivial,OF hs,AD (by omega) (by omega)]
 by_cases hw:(s.2.1.length:Int)=s.2.2.length*sz s.1
 rotate_left
 ·rw[AA hw];exact⟨_,rfl,BO fun h=>hw h.w⟩
 rw[AB (by simp [hw])]
 refine AR (fun k st=>st.1=(k:Int)/\k<=s.2.2.length/\st.2.length=64/\gG s k/\∀ j:Int,0<=j->j<64->(gl 0 st.2 j.toNat=0/\∀ i:Int,0<=i->i<k->nx s.2.2 i≠j)\/(gl 0 st.2 j.toNat=1/\∃ i:Int,0<=i/\i<k/\nx s.2.2 i=j)) _ s.2.2.length ?_ ?_
  ⟨rfl,by omega,by simp,⟨fun i h0 h1=>by omega,fun i j h0 h1=>by omega⟩,fun j h0 h1=> .inl ⟨RS (by omega),fun i h2 h3=>by omega⟩⟩
 ·rintro k ⟨i,cs⟩ hk ⟨h1,h2,h3,h4,h5⟩
  simp only at h1 h2 h3 h4 h5 ⊢
  subst h1
  have ki:0<=(k:Int)/\(k:Int)<s.2.2.length:=⟨by omega,by omega⟩
  have i1:=(aJ hs ki.1 (show (k:Int)<=s.2.2.length by omega)).1
  have i2:=(aJ hs (show 0<=(k:Int)+1 by omega) (show (k:Int)+1<=s.2.2.length by omega)).2
  rw[H2] at i2
  rw[AA ki.2,AA ki,if3,AD (e:=(k:Int)+1) (by omega) (by omega),H2,AD (e:=(k:Int)*sz s.1) (by omega) (by omega),AD (e:=(k:Int)*sz s.1+sz s.1) (by omega) (by omega)]
  have NL:gl (0,0,0) s.2.2 (k:Int).toNat=fr s.2.2 k:=rfl
  simp only[NL]
  have UQ:=HL ki.1 ki.2
  by_cases hf:(fr s.2.2 k).1= -1/\(fr s.2.2 k).2.1= -1/\(fr s.2.2 k).2.2= -1
  ·rw[AA hf,AA trivial]
   have tD:AK4 (fr s.2.2 k):=by
    obtain⟨a,b,c⟩:=hf
    unfold AK4
    rw[<-Prod.eta (fr s.2.2 k),←Prod.eta (fr s.2.2 k).2,a,b,c]
   obtain⟨r,hr,hc⟩:=AK6 hs (by omega) hw ki.1 ki.2 rfl rfl (x:=Sum.inr false) (y:=Sum.inl ((k:Int)+1,cs)) (f:=fun s2=>if True then
     if s2<(k:Int)*sz s.1+sz s.1 then
     if 0<=s2/\s2<(s.2.1.length:Int) then
     if ¬(gl 0#64 s.2.1 s2.toNat)=(0#64) then
     some (Sum.inr (Sum.inr (false)))
     else some (Sum.inl (AG (s2+1)))
     else none
     else some (Sum.inr (Sum.inl (((k:Int)+1,cs))))
     else none) (fun p p0 p1=>by
      simp only[GA]
      by_cases hp:p<(k:Int)*sz s.1+sz s.1
      ·rw[AA hp,AA ⟨by omega,p1⟩,AA hp,AD (by omega) (by omega)]
      ·rw[AB hp,AB hp]) (by simp only[GA];rw[AB (by omega)])
   rw[hr]
   rcases hc with ⟨rfl,hc⟩|⟨rfl,hc⟩
   ·refine .inr ⟨_,rfl,BO fun h=> ?_⟩
    rcases h.fr k ki.1 ki.2 with h6|h6
    ·exact hc h6.2
    ·have:=h6.1.1;omega
   ·refine .inl ⟨_,rfl,rfl,by omega,h3,h4.free hk (.inl ⟨tD,hc⟩) (by rw[UQ,hf.2.2]),fun j j0 j1=> ?_⟩
    rcases h5 j j0 j1 with ⟨h6,h7⟩|⟨h6,i,h7,h8,h9⟩
    ·refine .inl ⟨h6,fun i h8 h9=> ?_⟩
     by_cases c_:i=k
     ·rw[c_,UQ,hf.2.2];omega
     ·exact h7 i h8 (by omega)
    ·exact .inr ⟨h6,i,h7,by omega,h9⟩
  ·rw[AB hf]
   obtain⟨b,hb,KZ⟩:=AFU (fr s.2.2 k)
   have LU:∀ h:VS s,XC s.2.2 k:=fun h=>by
    rcases h.fr k ki.1 ki.2 with h6|h6
    ·exfalso;apply hf;rw[h6.1];decide
    ·exact h6
   have he:DH ((fr s.2.2 k).1,(fr s.2.2 k).2)=some b:=hb
   rw[he]
   simp only[A9]
   by_cases RZ :b=true
   rotate_left
   ·rw[AA (by simpa using RZ)];exact .inr ⟨_,rfl,BO fun h=>RZ (KZ.2 (LU h).1)⟩
   rw[AB (by simp [RZ])]
   have hst:=KZ.1 RZ
   by_cases c1:(fr s.2.2 k).2.2< -1
   ·rw[AA c1];exact .inr ⟨_,rfl,BO fun h=>by have:=(LU h).2.1;omega⟩
   rw[AB c1]
   by_cases c2:(fr s.2.2 k).2.2≥s.2.2.length
   ·rw[AA c2];exact .inr ⟨_,rfl,BO fun h=>by have:=(LU h).2.2.1;omega⟩
   rw[AB c2]
   by_cases c3:(fr s.2.2 k).2.2=k
   ·rw[AA c3];exact .inr ⟨_,rfl,BO fun h=>(LU h).2.2.2.1 c3⟩
   rw[AB c3]
   by_cases c4:(fr s.2.2 k).2.2= -1
   ·rw[AA c4]
    refine .inl ⟨_,rfl,rfl,by omega,h3,h4.free hk (.inr ⟨hst,by omega,by omega,c3,fun h=>absurd c4 h⟩) (by rw[UQ,c4]),fun j j0 j1=> ?_⟩
    rcases h5 j j0 j1 with ⟨h6,h7⟩|⟨h6,i,h7,h8,h9⟩
    ·refine .inl ⟨h6,fun i h8 h9=> ?_⟩
     by_cases c_:i=k
     ·rw[c_,UQ,c4];omega
     ·exact h7 i h8 (by omega)
    ·exact .inr ⟨h6,i,h7,by omega,h9⟩
   rw[AB c4]
   have hn0:gl (0,0,0) s.2.2 ((fr s.2.2 k).2.2).toNat=fr s.2.2 (fr s.2.2 k).2.2:=rfl
   rw[hn0]
   generalize vS:(fr s.2.2 k).2.2=nn at*
   rw[AA ⟨by omega,by omega⟩,AA ⟨⟨by omega,by omega⟩,by omega⟩,AA ⟨⟨by omega,by omega⟩,by omega⟩]
   by_cases c5:(fr s.2.2 nn).1=(fr s.2.2 k).1
   rotate_left
   ·rw[AA c5];exact .inr ⟨_,rfl,BO fun h=>c5 (by have:=((LU h).2.2.2.2 (by omega)).1;rw[vS] at this;exact this)⟩
   rw[AB (by simp [c5])]
   by_cases c6:(fr s.2.2 nn).2.1=(fr s.2.2 k).2.1
   rotate_left
   ·rw[AA c6];exact .inr ⟨_,rfl,BO fun h=>c6 (by have:=((LU h).2.2.2.2 (by omega)).2;rw[vS] at this;exact this)⟩
   rw[AB (by simp [c6]),ER,AA ⟨⟨by omega,by omega⟩,by omega⟩,AHN (by omega),AA rfl]
   rcases h5 nn (by omega) (by omega) with ⟨h6,h7⟩|⟨h6,i,h7,h8,h9⟩
   ·rw[h6,AD (by omega) (by omega),AB (by omega)]
    refine .inl ⟨_,rfl,rfl,by omega,by simp [h3],h4.used hk (.inr ⟨hst,by omega,by omega,by omega,fun _=>by rw[vS];exact⟨c5,c6⟩⟩) (fun i h8 h9=>by rw[UQ];exact h7 i h8 h9),fun j j0 j1=> ?_⟩
    rw[AHN (by omega)]
    by_cases hj:j=nn
    ·subst hj
     rw[AA rfl]
     exact .inr ⟨by omega,k,by omega,by omega,by rw[UQ]⟩
    ·rw[AB (by omega)]
     rcases h5 j j0 j1 with ⟨uG,h11⟩|⟨uG,i,h11,h12,h13⟩
     ·refine .inl ⟨uG,fun i h8 h9=> ?_⟩
      by_cases c_:i=k
      ·rw[c_,UQ];omega
      ·exact h11 i h8 (by omega)
     ·exact .inr ⟨uG,i,h11,by omega,h13⟩
   ·rw[h6,AD (by omega) (by omega),AA (by omega)]
    refine .inr ⟨_,rfl,BO fun h=> ?_⟩
    have:=h.inj i k h7 (by omega) ki.1 ki.2 (by rw[h9,UQ]) (by rw[h9];omega)
    omega
 ·rintro⟨i,cs⟩ ⟨h1,h2,h3,h4,h5⟩
  simp only at h1 h2 h3 h4 h5 ⊢
  subst h1
  rw[AB (by omega)]
  have hr:=h4.HJ
  refine map_inr ?_
  refine AR (fun k i=>i=(k:Int)/\k<=s.2.2.length/\∀ j:Int,0<=j->j<k->∃ l,Pa s.2.2 j l) _ s.2.2.length ?_ ?_ ⟨rfl,by omega,fun j h0 h1=>by omega⟩
  ·rintro k i hk ⟨rfl,_,hp⟩
   rw[AA (by omega)]
   have hx:∃ b,AM (σ:=Int×Int) (β:=Int ⊕ Bool) (fun s4:Int×Int=>
     if s4.2<=(s.2.2.length:Int) then
     if ¬s4.1=(-1) then
     if 0<=s4.1/\s4.1<(s.2.2.length:Int) then
     some (Sum.inl ((((gl (0,0,0) s.2.2 s4.1.toNat).2).2,AG (s4.2+1))))
     else none
     else Option.map Sum.inr (if ¬s4.1=(-1) then
     some (Sum.inr (false))
     else some (Sum.inl (AG ((k:Int)+1))))
     else Option.map Sum.inr (if ¬s4.1=(-1) then
     some (Sum.inr (false))
     else some (Sum.inl (AG ((k:Int)+1))))) ((k:Int),0)=some b/\((b=Sum.inr false/\¬∃ l,Pa s.2.2 k l)\/(b=Sum.inl ((k:Int)+1)/\∃ l,Pa s.2.2 k l)):=by
    refine AR (fun m (st:Int×Int)=>st.2=(m:Int)/\st.1=mY s.2.2 m k∧-1<=st.1/\st.1<s.2.2.length) _ (s.2.2.length+1) ?_ ?_ ⟨rfl,rfl,by simp only;omega,by simp only;omega⟩
    ·rintro m ⟨f,q⟩ hm ⟨e1,e2,e3,e4⟩
     simp only at e1 e2 e3 e4 ⊢
     subst e1
     rw[AA (by omega)]
     by_cases hf:f= -1
     ·rw[AB (by simp [hf]),AB (by simp [hf]),AD (by omega) (by omega)]
      exact .inr ⟨_,rfl,.inr ⟨rfl,Pa.zF hr m k (by omega) (by omega) (by rw[<-e2,hf])⟩⟩
     ·rw[AA hf,AA ⟨by omega,e4⟩,AD (by omega) (by omega)]
      have:=hr f (by omega) e4
      have h0:(gl (0,0,0) s.2.2 f.toNat).2.2=nx s.2.2 f:=(HL (by omega) e4).symm
      rw[h0]
      exact .inl ⟨_,rfl,by simp only;omega,by rw[mY,←e2],this.1,this.2⟩
    ·rintro⟨f,q⟩ ⟨e1,e2,e3,e4⟩
     simp only at e1 e2 e3 e4 ⊢
     rw[AB (by omega)]
     by_cases hf:f= -1
     ·rw[AB (by simp [hf]),AD (by omega) (by omega)]
      exact⟨_,rfl,.inr ⟨rfl,Pa.zF hr _ k (by omega) (by omega) (by rw[<-e2,hf])⟩⟩
     ·rw[AA hf]
      refine⟨_,rfl,.inl ⟨rfl, ?_⟩⟩
      rintro⟨l,hl⟩
      exact hf (by rw[e2];exact hl.ends _ (by have:=hl.length;omega))
   obtain⟨b,hb,hc⟩:=hx
   rw[hb]
   rcases hc with ⟨rfl,hc⟩|⟨rfl,hc⟩
   ·exact .inr ⟨_,rfl,BO fun h=>hc (h.acy k (by omega) (by omega))⟩
   ·refine .inl ⟨_,rfl,by omega,by omega,fun j j0 j1=> ?_⟩
    by_cases gC:j=k
    ·subst gC;exact hc
    ·exact hp j j0 (by omega)
  ·rintro i ⟨rfl,_,hp⟩
   rw[AB (by omega)]
   exact⟨_,rfl,YB rfl ⟨hs,⟨by omega,by omega⟩,hw,h4.fr,h4.inj,hp⟩⟩
theorem AN4 (xs:List (BitVec 64)) (h:xs.length<=1000000):∃ b,UU xs=some b/\(b=true↔∀ j,j<xs.length->gl 0#64 xs j=0#64):=by
 unfold UU
 refine AR (fun k s=>s=(k:Int)/\k<=xs.length/\∀ j,j<k->gl 0#64 xs j=0#64) _ xs.length ?_ ?_ ⟨rfl,by omega,fun j h1=>by omega⟩
 ·rintro k s hk ⟨rfl,_,hj⟩
  rw[AA (by omega),AA (by omega),show (k:Int).toNat=k from rfl]
  by_cases h0:gl 0#64 xs k=0#64
  ·rw[AB (by simp [h0]),AD (by omega) (by omega)]
   refine .inl ⟨_,rfl,by omega,by omega,fun j yV=> ?_⟩
   by_cases gC:j=k
   ·subst gC;exact h0
   ·exact hj j (by omega)
  ·rw[AA h0]
   exact .inr ⟨_,rfl,BO fun hh=>h0 (hh k hk)⟩
 ·rintro s ⟨rfl,_,hj⟩
  rw[AB (by omega)]
  exact⟨_,rfl,YB rfl hj⟩
theorem ACU (s:Sp) (hr:Rng s.2.2) (hn:s.2.2.length<=64):∃ b,NF s=some b/\(b=true↔∀ i:Int,0<=i->i<s.2.2.length->∃ l,Pa s.2.2 i l):=by
 unfold NF
 refine AR (fun k i=>i=(k:Int)/\k<=s.2.2.length/\∀ i:Int,0<=i->i<k->∀ q:Nat,1<=q->q<=s.2.2.length->mY s.2.2 q i≠i) _ s.2.2.length ?_ ?_ ⟨rfl,by omega,fun j h0 h1=>by omega⟩
 ·rintro k i hk ⟨rfl,_,hp⟩
  rw[AA (by omega),AA (by omega)]
  have hx:∃ b,AM (σ:=(Int×Int)) (β:=(Int ⊕ Bool)) (fun s2=>
    if s2.1≥0 then
    if s2.2<(s.2.2.length:Int) then
    if s2.1=(k:Int) then
    some (Sum.inr (Sum.inr (false)))
    else if 0<=s2.1/\s2.1<(s.2.2.length:Int) then
    some (Sum.inl ((((gl ((0,0,0):(Int×Int×Int)) s.2.2 s2.1.toNat).2).2,AG (s2.2+1))))
    else none
    else some (Sum.inr (Sum.inl (AG ((k:Int)+1))))
    else some (Sum.inr (Sum.inl (AG ((k:Int)+1))))) ((((gl ((0,0,0):(Int×Int×Int)) s.2.2 (k:Int).toNat).2).2,0))=some b∧
     ((b=Sum.inr false/\∃ q:Nat,1<=q/\mY s.2.2 q k=k)\/(b=Sum.inl ((k:Int)+1)/\∀ q:Nat,1<=q->q<=s.2.2.length->mY s.2.2 q k≠k)):=by
   have h1:=hr k (by omega) (by omega)
   have h2:(gl ((0,0,0):(Int×Int×Int)) s.2.2 (k:Int).toNat).2.2=nx s.2.2 k:=(HL (by omega) (by omega)).symm
   rw[h2,AD (by omega) (by omega)]
   refine AR (fun m (st:Int×Int)=>st.2=(m:Int)/\m<=s.2.2.length/\st.1=mY s.2.2 (m+1) k∧-1<=st.1/\st.1<s.2.2.length/\∀ q:Nat,1<=q->q<=m->mY s.2.2 q k≠k) _ s.2.2.length ?_ ?_ ⟨rfl,by omega,rfl,h1.1,h1.2,fun q h1 h2=>by omega⟩
   ·rintro m ⟨f,q⟩ hm ⟨e1,e0,e2,e3,e4,e5⟩
    simp only at e1 e2 e3 e4 ⊢
    subst e1
    by_cases hf:f≥0
    ·rw[AA hf,AA (by omega)]
     by_cases hfk:f=k
     ·rw[AA hfk]
      exact .inr ⟨_,rfl,.inl ⟨rfl,m+1,by omega,by rw[<-e2,hfk]⟩⟩
     ·rw[AB hfk,AA ⟨hf,e4⟩,AD (by omega) (by omega)]
      have:=hr f hf e4
      have h0:(gl ((0,0,0):(Int×Int×Int)) s.2.2 f.toNat).2.2=nx s.2.2 f:=(HL hf e4).symm
      rw[h0]
      refine .inl ⟨_,rfl,by simp only;omega,by omega,by simp only;rw[e2];rfl,this.1,this.2,fun q q1 q2=> ?_⟩
      by_cases hq:q=m+1
      ·subst hq;rw[<-e2];exact hfk
      ·exact e5 q q1 (by omega)
    ·rw[AB hf]
     refine .inr ⟨_,rfl,.inr ⟨rfl,fun q q1 q2=> ?_⟩⟩
     by_cases hq:q<=m
     ·exact e5 q q1 hq
     ·obtain⟨d,rfl⟩:=Nat.exists_eq_add_of_le (show m+1<=q by omega)
      rw[qA,←e2,show f= -1 from by omega,zE]
      omega
   ·rintro⟨f,q⟩ ⟨e1,e0,e2,e3,e4,e5⟩
    simp only at e1 e2 e3 e4 ⊢
    subst e1
    rw[AB (by omega:¬((s.2.2.length:Int)<s.2.2.length))]
    have h6:(if f≥0 then some (Sum.inr (Sum.inl ((k:Int)+1))) else some (Sum.inr (Sum.inl ((k:Int)+1))))=some (Sum.inr (α:=Int×Int) (Sum.inl (β:=Bool) ((k:Int)+1))):=by split <;> rfl
    rw[h6]
    exact⟨_,rfl,.inr ⟨rfl,fun q q1 q2=>e5 q q1 q2⟩⟩
  obtain⟨b,hb,hc⟩:=hx
  rw[hb]
  rcases hc with ⟨rfl,q,q1,q2⟩|⟨rfl,hc⟩
  ·refine .inr ⟨_,rfl,BO fun h=> ?_⟩
   obtain⟨l,hl⟩:=h k (by omega) (by omega)
   exact hl.AN2 (by omega) q q1 q2
  ·refine .inl ⟨_,rfl,by omega,by omega,fun i i0 i1=> ?_⟩
   by_cases c_:i=k
   ·subst c_;exact hc
   ·exact hp i i0 (by omega)
 ·rintro i ⟨rfl,_,hp⟩
  rw[AB (by omega)]
  exact⟨_,rfl,YB rfl fun i i0 i1=>Pa.ACJ hr hp i i0 i1⟩
def StI (s:Sp):Prop:=∀ i:Int,0<=i->i<s.2.2.length->(fr s.2.2 i).2.1<=9223372036854775807
theorem xC (s:Sp) (hI:StI s):∃ b,HP s=some b/\(b=true↔VS s):=by
 unfold HP
 rw[xA]
 simp only[A9]
 by_cases hs:3<=s.1/\s.1<=8
 rotate_left
 ·rw[AA (by simp [hs])];exact⟨_,rfl,BO fun h=>hs h.sh⟩
 rw[AB (by simp [hs])]
 by_cases hn:(s.2.2.length:Int)<2
 ·rw[AA hn];exact⟨_,rfl,BO fun h=>by have:=h.n.1;omega⟩
 rw[AB hn]
 by_cases hn2:(s.2.2.length:Int)>64
 ·rw[AA hn2];exact⟨_,rfl,BO fun h=>by have:=h.n.2;omega⟩
 have z:=LF hs
 obtain⟨q1,q2⟩:=J7 hs (by omega:0<=(s.2.2.length:Int)) (show (s.2.2.length:Int)<=64 by omega)
 rw[AB hn2,AA trivial,OF hs,AD (by omega) (by omega)]
 by_cases hw:(s.2.1.length:Int)=s.2.2.length*sz s.1
 rotate_left
 ·rw[AA hw];exact⟨_,rfl,BO fun h=>hw h.w⟩
 rw[AB (by simp [hw])]
 refine AR (fun k (st:BitVec 64×Int)=>st.2=(k:Int)/\k<=s.2.2.length/\gG s k/\∀ j:Int,0<=j->j<64->(st.1.getLsbD j.toNat=true↔∃ i:Int,0<=i/\i<k/\nx s.2.2 i=j)) _ s.2.2.length ?_ ?_
  ⟨rfl,by omega,⟨fun i h0 h1=>by omega,fun i j h0 h1=>by omega⟩,fun j h0 h1=>⟨fun h=>by simp at h,fun ⟨i,h2,h3,_⟩=>by omega⟩⟩
 ·rintro k ⟨bs,i⟩ hk ⟨h1,h2,h4,h5⟩
  simp only at h1 h2 h4 h5 ⊢
  subst h1
  have ki:0<=(k:Int)/\(k:Int)<s.2.2.length:=⟨by omega,by omega⟩
  have i1:=(aJ hs ki.1 (show (k:Int)<=s.2.2.length by omega)).1
  have i2:=(aJ hs (show 0<=(k:Int)+1 by omega) (show (k:Int)+1<=s.2.2.length by omega)).2
  rw[H2] at i2
  rw[AA ki.2,AA ki,AD (e:=(k:Int)+1) (by omega) (by omega),H2,AD (e:=(k:Int)*sz s.1) (by omega) (by omega),AD (e:=(k:Int)*sz s.1+sz s.1) (by omega) (by omega)]
  have NL:gl (0,0,0) s.2.2 (k:Int).toNat=fr s.2.2 k:=rfl
  simp only[NL,GA]
  have UQ:=HL ki.1 ki.2
  have AL:∀ k' :Nat,k' =k+1->nx s.2.2 k= -1->∀ j:Int,0<=j->j<64->(bs.getLsbD j.toNat=true↔∃ i:Int,0<=i/\i<k' /\nx s.2.2 i=j):=by
   rintro k' rfl hm j j0 j1
   rw[h5 j j0 j1]
   constructor
   ·rintro⟨i,i0,i1,i2⟩;exact⟨i,i0,by omega,i2⟩
   ·rintro⟨i,i0,i1,i2⟩
    refine⟨i,i0, ?_,i2⟩
    by_cases c_:i=k
    ·rw[c_,hm] at i2;omega
    ·omega
  by_cases hf:(fr s.2.2 k).1= -1
  ·rw[AA hf]
   by_cases pA:(fr s.2.2 k).2.1= -1
   rotate_left
   ·rw[AA pA]
    refine .inr ⟨_,rfl,BO fun h=> ?_⟩
    rcases h.fr k ki.1 ki.2 with h6|h6
    ·rw[h6.1] at pA;simp at pA
    ·have:=h6.1.1;omega
   rw[AB (by simp [pA])]
   by_cases hf3:(fr s.2.2 k).2.2= -1
   rotate_left
   ·rw[AA hf3]
    refine .inr ⟨_,rfl,BO fun h=> ?_⟩
    rcases h.fr k ki.1 ki.2 with h6|h6
    ·rw[h6.1] at hf3;simp at hf3
    ·have:=h6.1.1;omega
   rw[AB (by simp [hf3])]
   have tD:AK4 (fr s.2.2 k):=by
    unfold AK4
    rw[<-Prod.eta (fr s.2.2 k),←Prod.eta (fr s.2.2 k).2,hf,pA,hf3]
   rw[AA ⟨⟨by omega,by omega⟩,by omega,by omega⟩]
   have hl:(BX s.2.1 ((k:Int)*sz s.1).toNat (((k:Int)*sz s.1+sz s.1).toNat-((k:Int)*sz s.1).toNat)).length=((k:Int)*sz s.1+sz s.1).toNat-((k:Int)*sz s.1).toNat:=ACL (by omega)
   obtain⟨b,hb,hc⟩:=AN4 (BX s.2.1 ((k:Int)*sz s.1).toNat (((k:Int)*sz s.1+sz s.1).toNat-((k:Int)*sz s.1).toNat)) (by omega)
   rw[hl] at hc
   have hz:(b=true↔Zero s k):=by
    rw[hc]
    constructor
    ·intro h a a0 a1
     rw[H2] at a1
     have:=h (a-((k:Int)*sz s.1).toNat) (by omega)
     rw[AHM (by omega)] at this
     rw[<-this];congr 1;omega
    ·intro h j hj
     rw[AHM hj]
     exact h _ (by omega) (by rw[H2];omega)
   rw[hb]
   simp only[A9]
   by_cases RZ :b=true
   ·rw[AB (by simp [RZ])]
    exact .inl ⟨_,rfl,rfl,by omega,h4.free hk (.inl ⟨tD,hz.1 RZ⟩) (by rw[UQ,hf3]),AL _ rfl (by rw[UQ,hf3])⟩
   ·rw[AA (by simpa using RZ)]
    refine .inr ⟨_,rfl,BO fun h=> ?_⟩
    rcases h.fr k ki.1 ki.2 with h6|h6
    ·exact RZ (hz.2 h6.2)
    ·have:=h6.1.1;omega
  ·rw[AB hf]
   have LU:∀ h:VS s,XC s.2.2 k:=fun h=>by
    rcases h.fr k ki.1 ki.2 with h6|h6
    ·exfalso;apply hf;rw[h6.1]
    ·exact h6
   by_cases d1:(fr s.2.2 k).1<0
   ·rw[AA d1];exact .inr ⟨_,rfl,BO fun h=>by have:=(LU h).1.1;omega⟩
   rw[AB d1]
   by_cases d2:(fr s.2.2 k).1>4294967295
   ·rw[AA d2];exact .inr ⟨_,rfl,BO fun h=>by have:=(LU h).1.2.1;omega⟩
   rw[AB d2]
   by_cases d3:(fr s.2.2 k).2.1<0
   ·rw[AA d3];exact .inr ⟨_,rfl,BO fun h=>by obtain⟨_,_,b,_,_,hb⟩:=(LU h).1;omega⟩
   rw[AB d3,AA (by omega),Int.tmod_eq_emod_of_nonneg (by omega),Int.tdiv_eq_ediv_of_nonneg (by omega)]
   by_cases d4:(fr s.2.2 k).2.1%4294967296=(fr s.2.2 k).1
   rotate_left
   ·rw[AA d4];exact .inr ⟨_,rfl,BO fun h=>by obtain⟨_,_,b,_,_,hb⟩:=(LU h).1;omega⟩
   rw[AB (by simp [d4]),AA (by decide:¬(4294967296:Int)=0)]
   by_cases d5:AG ((fr s.2.2 k).2.1 / 4294967296)≥4
   ·rw[AA d5]
    refine .inr ⟨_,rfl,BO fun h=> ?_⟩
    obtain⟨_,_,b,_,_,hb⟩:=(LU h).1
    rw[AD (by omega) (by omega)] at d5
    omega
   rw[AB d5]
   by_cases c1:(fr s.2.2 k).2.2< -1
   ·rw[AA c1];exact .inr ⟨_,rfl,BO fun h=>by have:=(LU h).2.1;omega⟩
   rw[AB c1]
   by_cases c2:(fr s.2.2 k).2.2≥s.2.2.length
   ·rw[AA c2];exact .inr ⟨_,rfl,BO fun h=>by have:=(LU h).2.2.1;omega⟩
   rw[AB c2]
   by_cases c3:(fr s.2.2 k).2.2=k
   ·rw[AA c3];exact .inr ⟨_,rfl,BO fun h=>(LU h).2.2.2.1 c3⟩
   rw[AB c3]
   have hI' :=hI k ki.1 ki.2
   rw[AD (by omega) (by omega)] at d5
   have hst:Stamped (fr s.2.2 k):=⟨by omega,by omega,(fr s.2.2 k).2.1 / 4294967296,by omega,by omega,by omega⟩
   by_cases c4:(fr s.2.2 k).2.2<0
   ·rw[AA c4]
    have c4' :(fr s.2.2 k).2.2= -1:=by omega
    exact .inl ⟨_,rfl,rfl,by omega,h4.free hk (.inr ⟨hst,by omega,by omega,c3,fun h=>absurd c4' h⟩) (by rw[UQ,c4']),AL _ rfl (by rw[UQ,c4'])⟩
   rw[AB c4]
   have hn0:gl (0,0,0) s.2.2 ((fr s.2.2 k).2.2).toNat=fr s.2.2 (fr s.2.2 k).2.2:=rfl
   rw[hn0]
   generalize vS:(fr s.2.2 k).2.2=nn at*
   rw[AA ⟨by omega,by omega⟩,w9 (by omega) (by omega)]
   by_cases c7:(bs >>> nn.toNat) &&& 1#64=1#64
   ·rw[AA c7]
    refine .inr ⟨_,rfl,BO fun h=> ?_⟩
    obtain⟨i,i0,i1,i2⟩:=(h5 nn (by omega) (by omega)).1 ((ACK _ _).1 c7)
    have:=h.inj i k i0 (by omega) ki.1 ki.2 (by rw[i2,UQ]) (by rw[i2];omega)
    omega
   rw[AB c7]
   rw[ACK,h5 nn (by omega) (by omega)] at c7
   by_cases c5:(fr s.2.2 nn).1=(fr s.2.2 k).1
   rotate_left
   ·rw[AA c5];exact .inr ⟨_,rfl,BO fun h=>c5 (by have:=((LU h).2.2.2.2 (by omega)).1;rw[vS] at this;exact this)⟩
   rw[AB (by simp [c5])]
   by_cases c6:(fr s.2.2 nn).2.1=(fr s.2.2 k).2.1
   rotate_left
   ·rw[AA c6];exact .inr ⟨_,rfl,BO fun h=>c6 (by have:=((LU h).2.2.2.2 (by omega)).2;rw[vS] at this;exact this)⟩
   rw[AB (by simp [c6])]
   refine .inl ⟨_,rfl,rfl,by omega,h4.used hk (.inr ⟨hst,by omega,by omega,by omega,fun _=>by rw[vS];exact⟨c5,c6⟩⟩) (fun i h8 h9 he=>c7 ⟨i,h8,h9,by rw[he,UQ]⟩),fun j j0 j1=> ?_⟩
   simp only
   rw[AHL _ _ (by omega),nS,h5 j j0 j1,N2]
   constructor
   ·rintro (⟨i,i0,i1,i2⟩|h6)
    ·exact⟨i,i0,by omega,i2⟩
    ·exact⟨k,by omega,by omega,by rw[UQ];omega⟩
   ·rintro⟨i,i0,i1,i2⟩
    by_cases c_:i=k
    ·right;rw[c_,UQ] at i2;omega
    ·left;exact⟨i,i0,by omega,i2⟩
 ·rintro⟨bs,i⟩ ⟨h1,h2,h4,h5⟩
  simp only at h1 h2 h4 h5 ⊢
  subst h1
  rw[AB (by omega)]
  refine map_inr ?_
  obtain⟨b,hb,hc⟩:=ACU s h4.HJ (by omega)
  rw[hb]
  exact⟨b,rfl,hc.trans ⟨fun h=>⟨hs,⟨by omega,by omega⟩,hw,h4.fr,h4.inj,h⟩,fun h=>h.acy⟩⟩
end Go.Proofs.YthmiilamegpllaaGreat
namespace Go.V3
open Go
theorem Pa.congr {fs p_ :List Fr} (hl:p_.length=fs.length) (hn:∀ i:Int,0<=i->i<fs.length->nx p_ i=nx fs i):∀ {l:List Int} {i:Int},Pa fs i l->Pa p_ i l
 | [],_,h=>h
 |a::r,i,h=>by
  obtain⟨rfl,h0,h1,h2⟩:=h
  exact⟨rfl,h0,by omega,by rw[hn i h0 h1];exact Pa.congr hl hn h2⟩
theorem Pa.iY {fs p_ :List Fr} (hl:p_.length=fs.length):∀ {l:List Int} {i:Int},(∀ i∈l,nx p_ i=nx fs i)->Pa fs i l->Pa p_ i l
 | [],_,_,h=>h
 |a::r,i,hn,h=>by
  obtain⟨rfl,h0,h1,h2⟩:=h
  exact⟨rfl,h0,by omega,by rw[hn i (by simp)];exact Pa.iY hl (fun j hj=>hn j (by simp [hj])) h2⟩
theorem Pa.link {fs p_ :List Fr} (hl:p_.length=fs.length) {last f:Int} {lf:List Int} (hn:∀ i:Int,0<=i->i<fs.length->i≠last->nx p_ i=nx fs i) (h0:nx fs last= -1) (h1:nx p_ last=f) (hf:Pa fs f lf) (hx:last∉lf):
  ∀ {l:List Int} {i:Int},Pa fs i l->Pa p_ i (if last∈l then l++lf else l):=by
 have hf' :Pa p_ f lf:=hf.iY hl fun i hi=>hn i (hf.mem hi).1 (hf.mem hi).2 (fun e=>hx (e ▸ hi))
 intro l
 induction l with
 |nil=>intro i h;rw[AB (by simp)];exact h
 |cons a r ih=>
  intro i h
  obtain⟨rfl,g0,g1,g2⟩:=h
  by_cases ha:i=last
  ·subst ha
   rw[h0] at g2
   have hr:r=[]:=by
    cases r with
    |nil=>rfl
    |cons b r=>obtain⟨e,g3,_⟩:=g2;omega
   subst hr
   rw[AA (by simp)]
   exact⟨rfl,g0,by omega,by rw[h1];exact hf'⟩
  ·have:=ih g2
   by_cases hm:last∈r
   ·rw[AA hm] at this
    rw[AA (by simp [hm])]
    exact⟨rfl,g0,by omega,by rw[hn i g0 g1 ha];exact this⟩
   ·rw[AB hm] at this
    rw[AB (by simp only[F7,not_or];exact⟨fun e=>ha e.symm,hm⟩)]
    exact⟨rfl,g0,by omega,by rw[hn i g0 g1 ha];exact this⟩
def F4 (n:Nat):List Int:=(List.range n).map fun k:Nat=>(k:Int)
theorem LV (n:Nat):F4 (n+1)=F4 n++ [(n:Int)]:=by simp [F4,List.range_succ]
theorem LW {n:Nat} {i:Int}:i∈F4 n↔0<=i/\i<n:=by
 simp only[F4,C0,l9]
 constructor
 ·rintro⟨k,hk,rfl⟩;omega
 ·rintro⟨h0,h1⟩;exact⟨i.toNat,by omega,by omega⟩
theorem H4 (n:Nat):(F4 n).length=n:=by simp [F4]
theorem m_ (n:Nat):(F4 n).Pairwise (·< ·):=by
 induction n with
 |zero=>simp [F4]
 |succ n ih=>
  rw[LV,qZ]
  refine⟨ih,by simp,fun a ha b hb=> ?_⟩
  have:=LW.1 ha
  simp at hb;omega
def owned (fs:List Fr) (q:Int):List Int:=(F4 fs.length).filter fun i=>decide ((fr fs i).1=q)
def DA (fs:List Fr):List Int:=owned fs (-1)
theorem B0 {fs:List Fr} {q i:Int}:i∈owned fs q↔(0<=i/\i<fs.length)/\(fr fs i).1=q:=by
 simp [owned,LW]
theorem RG (fs:List Fr) (q:Int):(owned fs q).Pairwise (·< ·):=(m_ _).filter _
theorem RH (fs:List Fr) (q:Int):(owned fs q).Nodup:=(RG fs q).imp fun h=>by omega
theorem S4 (fs:List Fr) (q:Int):(owned fs q).length<=fs.length:=by
 have:=oX (fun i=>decide ((fr fs i).1=q)) (F4 fs.length)
 rw[H4] at this
 exact this
theorem zX:∀ {l l' :List Int},l.Pairwise (·< ·)->l'.Pairwise (·< ·)->(∀ x,x∈l↔x∈l')->l=l'
 | [],[],_,_,_=>rfl
 | [],b::r',_,_,h=>absurd ((h b).2 (by simp)) (by simp)
 |a::r,[],_,_,h=>absurd ((h a).1 (by simp)) (by simp)
 |a::r,b::r',p,p',h=>by
  have wF:a=b:=by
   have h1:=(h a).1 (by simp)
   have h2:=(h b).2 (by simp)
   rcases F7.1 h1 with h3|h3
   ·exact h3
   ·rcases F7.1 h2 with h4|h4
    ·exact h4.symm
    ·have:=(ZR.1 p).1 b h4
     have:=(ZR.1 p').1 a h3
     omega
  subst wF
  rw[zX (ZR.1 p).2 (ZR.1 p').2 fun x=> ?_]
  have hx:=h x
  simp only[F7] at hx
  constructor
  ·intro hm
   rcases hx.1 (.inr hm) with rfl|h5
   ·exact absurd ((ZR.1 p).1 x hm) (by omega)
   ·exact h5
  ·intro hm
   rcases hx.2 (.inr hm) with rfl|h5
   ·exact absurd ((ZR.1 p').1 x hm) (by omega)
   ·exact h5
theorem iZ {fs:List Fr} {f:Int} {r:List Int} (h:DA fs=f::r):(0<=f/\f<fs.length)/\(fr fs f).1= -1/\∀ j:Int,0<=j->j<f->(fr fs j).1≠-1:=by
 have hm:f∈DA fs:=by rw[h];simp
 obtain⟨h1,h2⟩:=B0.1 hm
 refine⟨h1,h2,fun j h0 hj he=> ?_⟩
 have YQ :j∈DA fs:=B0.2 ⟨⟨h0,by omega⟩,he⟩
 have hp:=RG fs (-1)
 rw[h] at YQ
 rw[show owned fs (-1)=f::r from h] at hp
 rcases F7.1 YQ with h3|h3
 ·omega
 ·have:=(ZR.1 hp).1 j h3;omega
theorem AFV {fs:List Fr} {f o st:Int} {r:List Int} (h:DA fs=f::r) (ho:o≠-1):
  DA (fs.set f.toNat (o,st, -1))=r/\(owned (fs.set f.toNat (o,st, -1)) o).length=(owned fs o).length+1/\∀ q,q≠o->q≠-1->owned (fs.set f.toNat (o,st, -1)) q=owned fs q:=by
 obtain⟨⟨h0,h1⟩,h2,h3⟩:=iZ h
 have hm:∀ q i,i∈owned (fs.set f.toNat (o,st, -1)) q↔(0<=i/\i<fs.length)/\(if i=f then o else (fr fs i).1)=q:=by
  intro q i
  rw[B0,ER]
  refine and_congr_right fun hi=> ?_
  rw[XB h0 h1 hi.1]
  split <;> rfl
 have H8:=RG fs (-1)
 rw[show owned fs (-1)=f::r from h] at H8
 refine⟨zX (RG _ _) (ZR.1 H8).2 fun x=> ?_, ?_,fun q h4 h5=>zX (RG _ _) (RG _ _) fun x=> ?_⟩
 ·show x∈owned _ _↔_
  rw[hm]
  have hx:x∈owned fs (-1)↔_:=B0
  rw[show owned fs (-1)=f::r from h] at hx
  simp only[F7] at hx
  have C7:=(ZR.1 H8).1
  constructor
  ·rintro⟨h6,h7⟩
   by_cases hxf:x=f
   ·rw[AA hxf] at h7;exact absurd h7 ho
   ·rw[AB hxf] at h7
    rcases hx.2 ⟨h6,h7⟩ with h8|h8
    ·exact absurd h8 hxf
    ·exact h8
  ·intro h6
   have h7:=hx.1 (.inr h6)
   have:=C7 x h6
   exact⟨h7.1,by rw[AB (by omega)];exact h7.2⟩
 ·have hp:(owned (fs.set f.toNat (o,st, -1)) o).Perm (f::owned fs o):=by
   rw[List.perm_ext_iff_of_nodup (RH _ _) (T_.2 ⟨fun hf=>by have:=(B0.1 hf).2;omega,RH _ _⟩)]
   intro x
   rw[hm,F7,B0]
   by_cases hxf:x=f
   ·subst hxf;simp [h0,h1]
   ·simp [hxf]
  rw[hp.length_eq,N3]
 ·rw[hm,B0]
  refine and_congr_right fun hi=> ?_
  by_cases hxf:x=f
  ·rw[AA hxf,hxf,h2];constructor <;> intro h6 <;> omega
  ·rw[AB hxf]
theorem AFW {fs:List Fr} {a:Int} {x:Fr} (h0:0<=a) (h1:a<fs.length) (hx:x.1=(fr fs a).1) (q:Int):owned (fs.set a.toNat x) q=owned fs q:=by
 refine zX (RG _ _) (RG _ _) fun i=> ?_
 rw[B0,B0,ER]
 refine and_congr_right fun hi=> ?_
 rw[XB h0 h1 hi.1]
 split
 ·rename_i h;rw[h,hx]
 ·rfl
def DB (z:Int):List Int->Int->Option Int
 | [],_=>none
 |g::r,off=>if off<z then some (g*z+off) else DB z r (off-z)
theorem RI {z:Int} (hz:0<z):∀ {l:List Int} {off:Int},0<=off->off<l.length*z->∃ g,l[(off / z).toNat]? =some g/\DB z l off=some (g*z+off%z)
 | [],off,h0,h1=>by simp at h1;omega
 |g::r,off,h0,h1=>by
  rw[DB]
  by_cases h:off<z
  ·rw[AA h,Int.ediv_eq_zero_of_lt h0 h,Int.emod_eq_of_lt h0 h]
   exact⟨g,rfl,rfl⟩
  ·rw[AB h]
   have h2:off<((r.length:Int)+1)*z:=by simpa using h1
   rw[Int.add_mul,Int.one_mul] at h2
   obtain⟨g',h3,h4⟩:=RI hz (l:=r) (off:=off-z) (by omega) (by omega)
   have e:(off-z) / z=off / z-1:=by rw[Int.sub_ediv_of_dvd _ ⟨1,(Int.mul_one z).symm⟩,Int.ediv_self (by omega)]
   have e2:(off-z)%z=off%z:=by rw[Int.sub_emod,Int.emod_self,Int.sub_zero,Int.emod_emod]
   have hp:1<=off / z:=by rw[xX hz];omega
   rw[e] at h3
   rw[e2] at h4
   refine⟨g', ?_,h4⟩
   rw[show (off / z).toNat=(off / z-1).toNat+1 from by omega,uC]
   exact h3
theorem ACV {z:Int} (hz:0<z):∀ {l:List Int} {off:Int},0<=off->(l.length:Int)*z<=off->DB z l off=none
 | [],_,_,_=>rfl
 |g::r,off,h0,h1=>by
  have h2:((r.length:Int)+1)*z<=off:=by simpa using h1
  rw[Int.add_mul,Int.one_mul] at h2
  have h3:0<=(r.length:Int)*z:=Int.mul_nonneg (by omega) (by omega)
  rw[DB,AB (by omega)]
  exact ACV hz (by omega) (by omega)
theorem zY {z:Int} (hz:0<z) {l:List Int} {off a:Int} (h0:0<=off) (h:DB z l off=some a):off<l.length*z:=by
 rcases Int.lt_or_le off (l.length*z) with h1|h1
 ·exact h1
 ·rw[ACV hz h0 h1] at h;cases h
theorem CS {z:Int}:∀ {l l' :List Int} {off a:Int},DB z l off=some a->DB z (l++l') off=some a
 | [],_,_,_,h=>by cases h
 |g::r,l',off,a,h=>by
  rw[nQ]
  rw[DB] at h ⊢
  split
  ·rename_i h1;rw[AA h1] at h;exact h
  ·rename_i h1;rw[AB h1] at h;exact CS h
theorem PY {z:Int} (hz:0<z) {g o:Int} (h0:0<=o) (h1:o<z):(g*z+o) / z=g/\(g*z+o)%z=o:=by
 constructor
 ·rw[Int.add_comm,Int.add_mul_ediv_right _ _ (by omega),Int.ediv_eq_zero_of_lt h0 h1,Int.zero_add]
 ·rw[Int.add_comm,Int.add_mul_emod_self_right,Int.emod_eq_of_lt h0 h1]
theorem OZ {z:Int} (hz:0<z) {fs:List Fr}:∀ {l:List Int} {i off a k:Int},Pa fs i l->0<=off->DB z l off=some a->0<=k->∃ l',Pa fs (a / z) l' /\(0<=a / z/\a / z<fs.length/\a / z∈l)/\DB z l' (a%z+k)=DB z l (off+k)
 | [],_,_,_,_,_,_,h,_=>by cases h
 |g::r,i,off,a,k,hp,h0,h,hk=>by
  have hp' :=hp
  obtain⟨rfl,g0,g1,g2⟩:=hp
  rw[DB] at h
  by_cases h1:off<z
  ·rw[AA h1] at h
   simp only[AY] at h
   subst h
   obtain⟨e1,e2⟩:=PY hz (g:=i) h0 h1
   rw[e1,e2]
   exact⟨_,hp',⟨g0,g1,by simp⟩,rfl⟩
  ·rw[AB h1] at h
   obtain⟨l',h2,⟨h3,h4,h5⟩,h6⟩:=OZ hz g2 (by omega) h hk
   refine⟨l',h2,⟨h3,h4,by simp [h5]⟩, ?_⟩
   rw[h6,DB,AB (by omega)]
   congr 1;omega
theorem VS.HJ {s:Sp} (h:VS s):Rng s.2.2:=by
 intro i h0 h1
 rw[HL h0 h1]
 rcases h.fr i h0 h1 with ⟨hf,_⟩|hu
 ·rw[show (Go.V3.fr s.2.2 i).2.2= -1 from by rw[hf]];omega
 ·exact⟨hu.2.1,hu.2.2.1⟩
theorem VS.used {s:Sp} (h:VS s) {i:Int} (h0:0<=i) (h1:i<s.2.2.length) (hu:(Go.V3.fr s.2.2 i).1≠-1):XC s.2.2 i:=by
 rcases h.fr i h0 h1 with ⟨hf,_⟩|hu'
 ·exact absurd (by rw[hf]) hu
 ·exact hu'
theorem VS.free {s:Sp} (h:VS s) {i:Int} (h0:0<=i) (h1:i<s.2.2.length) (hu:(Go.V3.fr s.2.2 i).1= -1):AK4 (Go.V3.fr s.2.2 i)/\Zero s i:=by
 rcases h.fr i h0 h1 with hf|hu'
 ·exact hf
 ·have:=hu'.1.1;omega
theorem VS.stI {s:Sp} (h:VS s) (i:Int) (h0:0<=i) (h1:i<s.2.2.length):(Go.V3.fr s.2.2 i).2.1<=9223372036854775807:=by
 rcases h.fr i h0 h1 with ⟨hf,_⟩|hu'
 ·rw[hf];decide
 ·obtain⟨_,_,b,_,_,hb⟩:=hu'.1;omega
theorem VS.owner {s:Sp} (h:VS s):∀ {l:List Int} {i:Int},Pa s.2.2 i l->∀ x∈l,(Go.V3.fr s.2.2 x).1=(Go.V3.fr s.2.2 i).1/\(Go.V3.fr s.2.2 x).2.1=(Go.V3.fr s.2.2 i).2.1
 | [],_,_,x,hx=>by cases hx
 |a::r,i,hp,x,hx=>by
  obtain⟨rfl,g0,g1,g2⟩:=hp
  rcases F7.1 hx with rfl|hx
  ·exact⟨rfl,rfl⟩
  ·have h1:=h.owner g2 x hx
   have h2:=h.HJ i g0 g1
   have CJ:nx s.2.2 i≠-1:=by
    intro e
    cases r with
    |nil=>cases hx
    |cons b r=>obtain⟨e2,g3,_⟩:=g2;omega
   rw[HL g0 g1] at h1 CJ
   rcases h.fr i g0 g1 with ⟨hf,_⟩|hu
   ·rw[hf] at CJ;exact absurd rfl CJ
   ·have:=hu.2.2.2.2 CJ
    exact⟨h1.1.trans this.1,h1.2.trans this.2⟩
theorem Pa.last {fs:List Fr}:∀ {l:List Int} {i x:Int},Pa fs i l->l.getLast? =some x->nx fs x= -1/\x∈l
 | [],_,_,_,h=>by cases h
 | [a],i,x,hp,h=>by
  obtain⟨rfl,_,_,h2⟩:=hp
  simp only[List.getLast?_singleton,AY] at h
  subst h
  exact⟨h2,by simp⟩
 |a::b::r,i,x,hp,h=>by
  obtain⟨rfl,_,_,h2⟩:=hp
  rw[List.getLast?_cons_cons] at h
  obtain⟨h3,h4⟩:=h2.last h
  exact⟨h3,by simp [h4]⟩
theorem VS.take {s:Sp} (h:VS s) {f o b:Int} (h0:0<=f) (h1:f<s.2.2.length) (hf:(Go.V3.fr s.2.2 f).1= -1) (o0:0<=o) (o1:o<=4294967295) (b0:0<=b) (b1:b<4):
  VS (s.1,s.2.1,s.2.2.set f.toNat (o,b*4294967296+o, -1))/\∀ i:Int,0<=i->i<s.2.2.length->nx (s.2.2.set f.toNat (o,b*4294967296+o, -1)) i=nx s.2.2 i:=by
 have tD:=(h.free h0 h1 hf).1
 have NL:∀ i:Int,0<=i->Go.V3.fr (s.2.2.set f.toNat (o,b*4294967296+o, -1)) i=if i=f then (o,b*4294967296+o, -1) else Go.V3.fr s.2.2 i:=fun i hi=>XB h0 h1 hi
 have UQ:∀ i:Int,0<=i->i<s.2.2.length->nx (s.2.2.set f.toNat (o,b*4294967296+o, -1)) i=nx s.2.2 i:=by
  intro i i0 i1
  rw[HL i0 (by rw[ER];exact i1),HL i0 i1,NL i i0]
  by_cases hi:i=f
  ·rw[AA hi,hi,tD]
  ·rw[AB hi]
 refine⟨⟨h.sh,by simpa using h.n,by simpa using h.w, ?_, ?_, ?_⟩,UQ⟩
 ·intro i i0 i1
  simp only[ER] at i1
  by_cases hi:i=f
  ·subst hi
   right
   unfold XC
   simp only[NL i i0,GA,ER]
   exact⟨⟨by simpa using o0,by simpa using o1,b,b0,b1,by simp only;omega⟩,by omega,by omega,by omega,fun h=>absurd rfl h⟩
  ·rcases h.fr i i0 i1 with ⟨hf1,hz⟩|hu
   ·left
    simp only
    rw[NL i i0,AB hi]
    exact⟨hf1,hz⟩
   ·right
    unfold XC
    simp only[NL i i0,AB hi,ER]
    refine⟨hu.1,hu.2.1,hu.2.2.1,hu.2.2.2.1,fun CJ=> ?_⟩
    have:=hu.2.1
    have hnf:(Go.V3.fr s.2.2 i).2.2≠f:=by
     intro e
     have h2:=(hu.2.2.2.2 CJ).1
     rw[e,hf] at h2
     have:=hu.1.1;omega
    rw[NL _ (by omega),AB hnf]
    exact hu.2.2.2.2 CJ
 ·intro i j i0 i1 j0 j1 he CJ
  simp only[ER] at i1 j1 he CJ
  rw[UQ i i0 i1,UQ j j0 j1] at he
  rw[UQ i i0 i1] at CJ
  exact h.inj i j i0 i1 j0 j1 he CJ
 ·intro i i0 i1
  simp only[ER] at i1
  obtain⟨l,hl⟩:=h.acy i i0 i1
  exact⟨l,hl.congr (by simp) UQ⟩
theorem VS.link {s:Sp} (h:VS s) {a f:Int} (a0:0<=a) (a1:a<s.2.2.length) (f0:0<=f) (f1:f<s.2.2.length) (hau:(Go.V3.fr s.2.2 a).1≠-1) (hn:nx s.2.2 a= -1)
  (ho:(Go.V3.fr s.2.2 f).1=(Go.V3.fr s.2.2 a).1) (hst:(Go.V3.fr s.2.2 f).2.1=(Go.V3.fr s.2.2 a).2.1) (ND:∀ i:Int,0<=i->i<s.2.2.length->nx s.2.2 i≠f) {lf:List Int} (hlf:Pa s.2.2 f lf) (hx:a∉lf):
  VS (s.1,s.2.1,s.2.2.set a.toNat ((Go.V3.fr s.2.2 a).1,(Go.V3.fr s.2.2 a).2.1,f))∧
   (∀ (l:List Int) (i:Int),Pa s.2.2 i l->Pa (s.2.2.set a.toNat ((Go.V3.fr s.2.2 a).1,(Go.V3.fr s.2.2 a).2.1,f)) i (if a∈l then l++lf else l)):=by
 have hu:=h.used a0 a1 hau
 have haf:f≠a:=by
  rintro rfl
  cases lf with
  |nil=>rw[Pa] at hlf;omega
  |cons b r=>obtain⟨rfl,_⟩:=hlf;simp at hx
 have NL:∀ i:Int,0<=i->Go.V3.fr (s.2.2.set a.toNat ((Go.V3.fr s.2.2 a).1,(Go.V3.fr s.2.2 a).2.1,f)) i=if i=a then ((Go.V3.fr s.2.2 a).1,(Go.V3.fr s.2.2 a).2.1,f) else Go.V3.fr s.2.2 i:=fun i hi=>XB a0 a1 hi
 have UQ:∀ i:Int,0<=i->i<s.2.2.length->nx (s.2.2.set a.toNat ((Go.V3.fr s.2.2 a).1,(Go.V3.fr s.2.2 a).2.1,f)) i=if i=a then f else nx s.2.2 i:=by
  intro i i0 i1
  rw[HL i0 (by rw[ER];exact i1),HL i0 i1,NL i i0]
  by_cases hi:i=a
  ·rw[AA hi,AA hi]
  ·rw[AB hi,AB hi]
 have hpa:∀ (l:List Int) (i:Int),Pa s.2.2 i l->Pa (s.2.2.set a.toNat ((Go.V3.fr s.2.2 a).1,(Go.V3.fr s.2.2 a).2.1,f)) i (if a∈l then l++lf else l):=fun l i hl=>
  Pa.link (by simp) (fun i i0 i1 hi=>by rw[UQ i i0 i1,AB hi]) hn (by rw[UQ a a0 a1,AA rfl]) hlf hx hl
 have CO:∀ i:Int,0<=i->(Go.V3.fr (s.2.2.set a.toNat ((Go.V3.fr s.2.2 a).1,(Go.V3.fr s.2.2 a).2.1,f)) i).1=(Go.V3.fr s.2.2 i).1/\(Go.V3.fr (s.2.2.set a.toNat ((Go.V3.fr s.2.2 a).1,(Go.V3.fr s.2.2 a).2.1,f)) i).2.1=(Go.V3.fr s.2.2 i).2.1:=by
  intro i i0
  rw[NL i i0]
  by_cases hi:i=a
  ·rw[AA hi,hi];exact⟨rfl,rfl⟩
  ·rw[AB hi];exact⟨rfl,rfl⟩
 refine⟨⟨h.sh,by simpa using h.n,by simpa using h.w, ?_, ?_, ?_⟩,hpa⟩
 ·intro i i0 i1
  simp only[ER] at i1
  by_cases hi:i=a
  ·subst hi
   right
   unfold XC
   simp only[NL i i0,GA,ER]
   exact⟨hu.1,by omega,f1,haf,fun _=>by rw[(CO f f0).1,(CO f f0).2];exact⟨ho,hst⟩⟩
  ·rcases h.fr i i0 i1 with ⟨hf1,hz⟩|hu
   ·left
    simp only
    rw[NL i i0,AB hi]
    exact⟨hf1,hz⟩
   ·right
    unfold XC
    simp only[NL i i0,AB hi,ER]
    refine⟨hu.1,hu.2.1,hu.2.2.1,hu.2.2.2.1,fun CJ=> ?_⟩
    have:=hu.2.1
    rw[(CO _ (by omega)).1,(CO _ (by omega)).2]
    exact hu.2.2.2.2 CJ
 ·intro i j i0 i1 j0 j1 he CJ
  simp only[ER] at i1 j1 he CJ
  rw[UQ i i0 i1,UQ j j0 j1] at he
  rw[UQ i i0 i1] at CJ
  by_cases hi:i=a
  ·by_cases hj:j=a
   ·omega
   ·rw[AA hi,AB hj] at he
    exact absurd he.symm (ND j j0 j1)
  ·by_cases hj:j=a
   ·rw[AB hi,AA hj] at he
    exact absurd he (ND i i0 i1)
   ·rw[AB hi,AB hj] at he
    rw[AB hi] at CJ
    exact h.inj i j i0 i1 j0 j1 he CJ
 ·intro i i0 i1
  simp only[ER] at i1
  obtain⟨l,hl⟩:=h.acy i i0 i1
  exact⟨_,hpa l i hl⟩
theorem VS.word {s:Sp} (h:VS s) {x:Int} (x0:0<=x) (hu:(Go.V3.fr s.2.2 (x / sz s.1)).1≠-1) (v:BitVec 64):VS (s.1,s.2.1.set x.toNat v,s.2.2):=by
 refine⟨h.sh,h.n,by simpa using h.w, ?_,h.inj,h.acy⟩
 intro i i0 i1
 rcases h.fr i i0 i1 with ⟨hf,hz⟩|hus
 ·refine .inl ⟨hf,fun a a0 a1=> ?_⟩
  have hz' :=hz a a0 a1
  show gl 0#64 (s.2.1.set x.toNat v) a=0#64
  have hp:=CA s.1
  have hax:a≠x.toNat:=by
   intro e
   apply hu
   have:x / sz s.1=i:=by
    have e1:(a:Int)=x:=by omega
    rw[<-e1]
    apply Int.le_antisymm
    ·exact Int.lt_add_one_iff.1 ((AAS hp).2 a1)
    ·exact (xX hp).2 a0
   rw[this,hf]
  refine Eq.trans ?_ hz'
  unfold gl
  simp only[qP,List.getElem?_set_ne (fun e=>hax e.symm)]
 ·exact .inr hus
theorem VS.new {s n:Int} (hs:3<=s/\s<=8) (hn:2<=n/\n<=64):VS (s,List.replicate (n*sz s).toNat 0#64,List.replicate n.toNat (-1, -1, -1)):=by
 have hm:=(aJ hs (by omega:0<=n) (S9 n)).1
 have hp:=CA s
 have NL:∀ i:Int,0<=i->i<n.toNat->Go.V3.fr (List.replicate n.toNat (-1, -1, -1)) i=(-1, -1, -1):=fun i i0 i1=>RS (by omega)
 refine⟨hs,by simp;omega,by simp only[ZP];rw[qU hm,qU (by omega)], ?_, ?_, ?_⟩
 ·intro i i0 i1
  simp only[ZP] at i1
  refine .inl ⟨NL i i0 i1,fun a a0 a1=>RS ?_⟩
  simp only at a1
  have:(i+1)*sz s<=n*sz s:=AAO (by omega) (by omega)
  omega
 ·intro i j i0 i1 j0 j1 he CJ
  simp only[ZP] at i1
  rw[HL i0 (by simpa using i1),NL i i0 i1] at CJ
  exact absurd rfl CJ
 ·intro i i0 i1
  simp only[ZP] at i1
  refine⟨[i],rfl,i0,by simpa using i1, ?_⟩
  rw[HL i0 (by simpa using i1),NL i i0 i1]
  rfl
def ACW (w:BitVec 64):List Nat:=(List.range 64).filter fun i=>w.getLsbD i
def AFX (fs:List Fr) (w:BitVec 64):Prop:=∀ j,j<64->w.getLsbD j=decide (j<fs.length/\(fr fs j).1= -1)
theorem pP {p:Nat->Bool} {n m:Nat} (h:n<=m) (hp:∀ j,n<=j->p j=false):(List.range m).filter p=(List.range n).filter p:=by
 induction m with
 |zero=>have:n=0:=(by omega);subst this;rfl
 |succ m ih=>
  rcases GY m n with h' |h'
  ·have:n=m+1:=by omega
   subst this;rfl
  ·rw[List.range_succ,x7,ih h',qY,AB (by rw[hp m h'];decide)]
   simp
theorem AK7 {fs:List Fr} {w:BitVec 64} (hn:fs.length<=64) (h:AFX fs w):DA fs=(ACW w).map fun k:Nat=>(k:Int):=by
 unfold DA owned F4 ACW
 rw[List.filter_map]
 congr 1
 have e:(List.range 64).filter (fun i=>w.getLsbD i)=(List.range 64).filter (fun j=>decide (j<fs.length/\(fr fs j).1= -1)):=by
  apply nN
  intro j hj
  rw[h j (l9.1 hj)]
 rw[e,pP hn (fun j hj=>by simp;omega)]
 apply nN
 intro j hj
 have:=l9.1 hj
 simp [this]
def zr (ws:List (BitVec 64)) (a:Nat):Nat->List (BitVec 64)
 |0=>ws
 |n+1=>(zr ws a n).set (a+n) 0#64
theorem AFY (ws:List (BitVec 64)) (a:Nat):∀ n,(zr ws a n).length=ws.length
 |0=>rfl
 |n+1=>by rw[zr,ER,AFY ws a n]
theorem AR2 (ws:List (BitVec 64)) (k j:Nat):gl 0#64 (ws.set k 0#64) j=if j=k then 0#64 else gl 0#64 ws j:=by
 rcases GY k ws.length with h|h
 ·exact D0 h
 ·rw[List.set_eq_of_length_le h]
  split
  ·rename_i e;subst e;unfold gl;simp [h]
  ·rfl
theorem AT6 (ws:List (BitVec 64)) (a j:Nat):∀ n,gl 0#64 (zr ws a n) j=if a<=j/\j<a+n then 0#64 else gl 0#64 ws j
 |0=>by rw[zr,AB (by omega)]
 |n+1=>by
  rw[zr,AR2,AT6 ws a j n]
  by_cases h:j=a+n
  ·rw[AA h,AA (by omega)]
  ·rw[AB h]
   by_cases h2:a<=j/\j<a+n
   ·rw[AA h2,AA (by omega)]
   ·rw[AB h2,AB (by omega)]
def gvF (fs:List Fr) (o:Int):Nat->List Fr
 |0=>fs
 |k+1=>if (fr fs k).1=o then (gvF fs o k).set k (-1, -1, -1) else gvF fs o k
def gvN (fs:List Fr) (o:Int):Nat->Int
 |0=>0
 |k+1=>if (fr fs k).1=o then gvN fs o k+1 else gvN fs o k
def gvW (s:Sp) (o:Int):Nat->List (BitVec 64)
 |0=>s.2.1
 |k+1=>if (fr s.2.2 k).1=o then zr (gvW s o k) (k*(sz s.1).toNat) (sz s.1).toNat else gvW s o k
theorem lH (fs:List Fr) (o:Int):∀ k,(gvF fs o k).length=fs.length
 |0=>rfl
 |k+1=>by rw[gvF];split <;> simp [lH fs o k]
theorem zZ (s:Sp) (o:Int):∀ k,(gvW s o k).length=s.2.1.length
 |0=>rfl
 |k+1=>by rw[gvW];split <;> simp [AFY,zZ s o k]
theorem AFZ (fs:List Fr) (o:Int):∀ k,0<=gvN fs o k/\gvN fs o k<=k
 |0=>by simp [gvN]
 |k+1=>by have:=AFZ fs o k;rw[gvN];split <;> omega
theorem AN5 (fs:List Fr) (o:Int):∀ k,gvN fs o k=((F4 k).filter fun i=>decide ((fr fs i).1=o)).length
 |0=>rfl
 |k+1=>by
  rw[gvN,LV,x7,I5,AN5 fs o k]
  by_cases h:(fr fs k).1=o
  ·rw[AA h];simp [h]
  ·rw[AB h];simp [h]
theorem AG0 (fs:List Fr) (o:Int):∀ (k:Nat),k<=fs.length->∀ j:Int,0<=j->fr (gvF fs o k) j=if j<k/\(fr fs j).1=o then (-1, -1, -1) else fr fs j
 |0,_,j,h0=>by rw[gvF,AB (by omega)]
 |k+1,hk,j,h0=>by
  have ih:=AG0 fs o k (by omega) j h0
  rw[gvF]
  by_cases h:(fr fs k).1=o
  ·rw[AA h]
   have:=XB (fs:=gvF fs o k) (i:=j) (j:=(k:Int)) (x:=(-1, -1, -1)) (by omega) (by rw[lH];omega) h0
   rw[I3] at this
   rw[this,ih]
   by_cases e:j=k
   ·rw[AA e,AA ⟨by omega,by rw[e];exact h⟩]
   ·rw[AB e]
    by_cases h2:j<k/\(fr fs j).1=o
    ·rw[AA h2,AA ⟨by omega,h2.2⟩]
    ·rw[AB h2,AB (fun h3=>h2 ⟨by omega,h3.2⟩)]
  ·rw[AB h,ih]
   by_cases h2:j<k/\(fr fs j).1=o
   ·rw[AA h2,AA ⟨by omega,h2.2⟩]
   ·rw[AB h2,AB (fun h3=>h2 ⟨by
     have:j≠k:=fun e=>h (by rw[<-e];exact h3.2)
     omega,h3.2⟩)]
theorem AG1 (s:Sp) (o:Int) (a:Nat):∀ k:Nat,gl 0#64 (gvW s o k) a=if (a:Int) / sz s.1<k/\(fr s.2.2 ((a:Int) / sz s.1)).1=o then 0#64 else gl 0#64 s.2.1 a
 |0=>by
  have:=Int.ediv_nonneg (a:=(a:Int)) (b:=sz s.1) (by omega) (Int.le_of_lt (CA s.1))
  rw[gvW,AB (by omega)]
 |k+1=>by
  have hz:=CA s.1
  have ih:=AG1 s o a k
  have hd:(k*(sz s.1).toNat<=a/\a<k*(sz s.1).toNat+(sz s.1).toNat)↔(a:Int) / sz s.1=k:=by
   have hzn:((sz s.1).toNat:Int)=sz s.1:=qU (by omega)
   have h1:((k*(sz s.1).toNat:Nat):Int)=k*sz s.1:=by rw[Int.natCast_mul,hzn]
   have e1:=Int.ediv_mul_add_emod (a:Int) (sz s.1)
   have e2:=jL (a:Int) (Int.ne_of_gt hz)
   have e3:=nM (a:Int) hz
   constructor
   ·rintro⟨h2,h3⟩
    have h2' :(k:Int)*sz s.1<=a:=by omega
    have h3' :(a:Int)<(k+1)*sz s.1:=by rw[Int.add_mul];omega
    have q1:=(xX hz).2 h2'
    have q2:=(AAS hz).2 h3'
    omega
   ·intro h
    rw[h] at e1
    omega
  rw[gvW]
  by_cases h:(fr s.2.2 k).1=o
  ·rw[AA h,AT6,ih]
   by_cases e:(a:Int) / sz s.1=k
   ·rw[AA (hd.2 e),AA ⟨by omega,by rw[e];exact h⟩]
   ·rw[AB (fun q=>e (hd.1 q))]
    by_cases h2:(a:Int) / sz s.1<k/\(fr s.2.2 ((a:Int) / sz s.1)).1=o
    ·rw[AA h2,AA ⟨by omega,h2.2⟩]
    ·rw[AB h2,AB (fun h3=>h2 ⟨by omega,h3.2⟩)]
  ·rw[AB h,ih]
   by_cases h2:(a:Int) / sz s.1<k/\(fr s.2.2 ((a:Int) / sz s.1)).1=o
   ·rw[AA h2,AA ⟨by omega,h2.2⟩]
   ·rw[AB h2,AB (fun h3=>h2 ⟨by
     have:(a:Int) / sz s.1≠k:=fun e=>h (by rw[<-e];exact h3.2)
     omega,h3.2⟩)]
def gv (s:Sp) (o:Int):Sp:=(s.1,gvW s o s.2.2.length,gvF s.2.2 o s.2.2.length)
theorem AN6 {s:Sp} {o j:Int} (h0:0<=j) (h1:j<s.2.2.length):fr (gv s o).2.2 j=if (fr s.2.2 j).1=o then (-1, -1, -1) else fr s.2.2 j:=by
 show fr (gvF s.2.2 o s.2.2.length) j=_
 rw[AG0 _ _ _ (ED _) j h0]
 by_cases h:(fr s.2.2 j).1=o
 ·rw[AA ⟨h1,h⟩,AA h]
 ·rw[AB (fun q=>h q.2),AB h]
theorem AN7 (s:Sp) (o:Int):(gv s o).2.2.length=s.2.2.length:=lH _ _ _
theorem AHO (s:Sp) (o:Int):(gv s o).2.1.length=s.2.1.length:=zZ _ _ _
theorem AY6 {s:Sp} (h:VS s) {o:Int} {a:Nat} (ha:a<s.2.1.length):gl 0#64 (gv s o).2.1 a=if (fr s.2.2 ((a:Int) / sz s.1)).1=o then 0#64 else gl 0#64 s.2.1 a:=by
 show gl 0#64 (gvW s o s.2.2.length) a=_
 rw[AG1]
 have:(a:Int) / sz s.1<s.2.2.length:=(AAS (CA s.1)).2 (by have:=h.w;omega)
 by_cases h:(fr s.2.2 ((a:Int) / sz s.1)).1=o
 ·rw[AA ⟨this,h⟩,AA h]
 ·rw[AB (fun q=>h q.2),AB h]
theorem VS.A0G {s:Sp} (h:VS s) {o:Int} (o0:0<=o):VS (gv s o):=by
 have hz:=CA s.1
 have hl:=AN7 s o
 have hf:∀ j:Int,0<=j->j<s.2.2.length->Go.V3.fr (gv s o).2.2 j=if (Go.V3.fr s.2.2 j).1=o then (-1, -1, -1) else Go.V3.fr s.2.2 j:=fun j h0 h1=>AN6 h0 h1
 have hn:∀ j:Int,0<=j->j<s.2.2.length->nx (gv s o).2.2 j=if (Go.V3.fr s.2.2 j).1=o then -1 else nx s.2.2 j:=by
  intro j h0 h1
  rw[HL h0 (by rw[hl];exact h1),HL h0 h1,hf j h0 h1]
  split <;> rfl
 refine⟨h.sh,by rw[hl];exact h.n,by rw[AHO,hl];exact h.w, ?_, ?_, ?_⟩
 ·intro i i0 i1
  rw[hl] at i1
  have hzero:(Zero s i\/(Go.V3.fr s.2.2 i).1=o)->Zero (gv s o) i:=by
   intro hc a a1 a2
   have ae:(a:Int) / sz s.1=i:=by
    have q1:=(xX hz).2 a1
    have q2:=(AAS hz).2 a2
    omega
   show gl 0#64 (gvW s o s.2.2.length) a=0#64
   rw[AG1,ae]
   rcases hc with hc|hc
   ·split
    ·rfl
    ·exact hc a a1 a2
   ·rw[AA ⟨i1,hc⟩]
  by_cases ho:(Go.V3.fr s.2.2 i).1=o
  ·left
   rw[hf i i0 i1,AA ho]
   exact⟨rfl,hzero (.inr ho)⟩
  ·rcases h.fr i i0 i1 with ⟨h1,h2⟩|hu
   ·left
    rw[hf i i0 i1,AB ho]
    exact⟨h1,hzero (.inl h2)⟩
   ·right
    unfold XC
    rw[hf i i0 i1,AB ho,hl]
    refine⟨hu.1,hu.2.1,hu.2.2.1,hu.2.2.2.1,fun CJ=> ?_⟩
    have:=hu.2.1
    obtain⟨q1,q2⟩:=hu.2.2.2.2 CJ
    rw[hf _ (by omega) hu.2.2.1,AB (by rw[q1];exact ho)]
    exact⟨q1,q2⟩
 ·intro i j i0 i1 j0 j1 he CJ
  rw[hl] at i1 j1
  rw[hn i i0 i1] at he CJ
  rw[hn j j0 j1] at he
  by_cases hi:(Go.V3.fr s.2.2 i).1=o
  ·rw[AA hi] at CJ;exact absurd rfl CJ
  ·rw[AB hi] at he CJ
   by_cases hj:(Go.V3.fr s.2.2 j).1=o
   ·rw[AA hj] at he;exact absurd he CJ
   ·rw[AB hj] at he
    exact h.inj i j i0 i1 j0 j1 he CJ
 ·intro i i0 i1
  rw[hl] at i1
  by_cases ho:(Go.V3.fr s.2.2 i).1=o
  ·refine⟨[i],rfl,i0,by rw[hl];exact i1, ?_⟩
   rw[Pa,hn i i0 i1,AA ho]
  ·obtain⟨l,hp⟩:=h.acy i i0 i1
   refine⟨l,hp.iY hl fun x hx=> ?_⟩
   obtain⟨x0,x1⟩:=hp.mem hx
   have:=(VS.owner h hp x hx).1
   rw[hn x x0 x1,AB (by rw[this];exact ho)]
end Go.V3
