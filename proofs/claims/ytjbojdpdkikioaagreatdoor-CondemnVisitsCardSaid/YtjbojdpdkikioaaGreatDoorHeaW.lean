import Derived.Test.YtjbojdpdkikioaaGreatDoorV3P
set_option linter.unusedVariables false
set_option linter.unusedSimpArgs false
set_option maxRecDepth 100000
namespace Go.Proofs.YtjbojdpdkikioaaGreatDoor
open Go Go.V3
noncomputable section
def KT (s:ByteArray):Option Bool:=
if (s.size:Int)<1 then
some (false)
else if (s.size:Int)>16 then
some (false)
else if 0<=(0:Int)/\(0:Int)<(s.size:Int) then
if (KH s ((0:Int).toNat))<97 then
some (false)
else if 0<=(0:Int)/\(0:Int)<(s.size:Int) then
if (KH s ((0:Int).toNat))>122 then
some (false)
else AJ (σ:=Nat) (β:=Bool) (fun p=>
cond (decide (p<s.size)) (if ((Utf8.decode s p).1:Int)<97 then
if ((Utf8.decode s p).1:Int)<48 then
if ¬((Utf8.decode s p).1:Int)=45 then
some (Sum.inr (false))
else some (Sum.inl (p+(Utf8.decode s p).2))
else if ((Utf8.decode s p).1:Int)>57 then
if ¬((Utf8.decode s p).1:Int)=45 then
some (Sum.inr (false))
else some (Sum.inl (p+(Utf8.decode s p).2))
else some (Sum.inl (p+(Utf8.decode s p).2))
else if ((Utf8.decode s p).1:Int)>122 then
if ((Utf8.decode s p).1:Int)<48 then
if ¬((Utf8.decode s p).1:Int)=45 then
some (Sum.inr (false))
else some (Sum.inl (p+(Utf8.decode s p).2))
else if ((Utf8.decode s p).1:Int)>57 then
if ¬((Utf8.decode s p).1:Int)=45 then
some (Sum.inr (false))
else some (Sum.inl (p+(Utf8.decode s p).2))
else some (Sum.inl (p+(Utf8.decode s p).2))
else some (Sum.inl (p+(Utf8.decode s p).2)))
(some (Sum.inr (true)))) 0
else none
else none
@[reducible] def cL:FnI:=BX [AYF] [lV] fun x=>KT x
def O5:Cx:=BL [] [] [] [] []
theorem uX:(fun s=>KT s)=fun s=>rk Tryz.prog O5 (sq1 (Tryz.f50.body.getD .skip)) Bool 1000000 (fun e fr L=>match e with
 | .normal=>rk Tryz.prog O5 (sq1 (pW (Tryz.f50.body.getD .skip))) Bool 1000000 (fun e fr _=>match e with
  | .normal=>AK3 Tryz.prog O5 (pW (lpC (AU7 (pW (sq1 (pW (pW (Tryz.f50.body.getD .skip)))))))) (pW (pW (pW (Tryz.f50.body.getD .skip)))) [2,4,24,25,26,27,28,29,30,31,32,33,34,35,36,37,38,39,40,41,42,43,44,45] 0 (fr.set 23 (.str s)) s
  | .ret=>AEJ fr
  |_=>none) fr L
 |_=>none) (.str s::List.replicate (46-1) AV) []:=by kernel_rfl
theorem rC:CallsV Tryz.prog oB 50 cL:=
 AHP (cx:=O5) (BG AM.nil BD.nil) (fn:=Tryz.f50) (r0:=(sq1 (Tryz.f50.body.getD .skip))) (pre:=(sq1 (pW (Tryz.f50.body.getD .skip)))) (rest:=(pW (lpC (AU7 (pW (sq1 (pW (pW (Tryz.f50.body.getD .skip))))))))) (tail:=(pW (pW (pW (Tryz.f50.body.getD .skip))))) (i3:=3) (i4:=4) (K_:=0) (n:=46) (o1:=AU8 (sq1 (sq1 (pW (pW (Tryz.f50.body.getD .skip))))) 0) (o2:=AU8 (sq1 (sq1 (pW (pW (Tryz.f50.body.getD .skip))))) 1) (o3:=AU8 (sq1 (lpC (AU7 (pW (sq1 (pW (pW (Tryz.f50.body.getD .skip)))))))) 0) (o4:=AU8 (sq1 (lpC (AU7 (pW (sq1 (pW (pW (Tryz.f50.body.getD .skip)))))))) 1) (t:=9) (W:=[2,4,24,25,26,27,28,29,30,31,32,33,34,35,36,37,38,39,40,41,42,43,44,45]) (F:=KT)
  Tryz.func50 (by kernel_rfl) (by kernel_rfl) rfl (by decide) (by kernel_rfl) ⟨by kernel_rfl,by kernel_rfl,by kernel_rfl⟩ ⟨by kernel_rfl,by kernel_rfl,by kernel_rfl⟩ (by kernel_rfl) ⟨by kernel_rfl,by kernel_rfl,by kernel_rfl⟩ ⟨by kernel_rfl,by kernel_rfl,by kernel_rfl⟩ (by kernel_rfl) (by kernel_rfl) (fun s=>congrFun uX s)
def FD (a0:(BitVec 64)):Option Int:=
if a0=(0#64) then
some (64)
else AGR ((a0 &&& (0#64-a0))*(285870213051353865#64)) (fun (v1:BitVec 64)=>
if True then
if 0<=((v1 >>> (58#64).toNat).toNat:Int)/\((v1 >>> (58#64).toNat).toNat:Int)<((64:Nat):Int) then
if 0+((v1 >>> (58#64).toNat).toNat:Int).toNat<AQB.size then
AGR (AG (ATJ AQB (0+((v1 >>> (58#64).toNat).toNat:Int).toNat))) (fun (v2:Int)=>
some (v2))
else none
else none
else none)
@[reducible] def LC:FnI:=BX [oC] [DF] fun x=>FD x
def UD:Cx:={ nm:=[],CG:=[],fns:=AEG [],loops:=[],bN:=[],tb:=oB,exts:=[],lets:=[9,13] }
theorem S2:CV 57 LC:=okW UD [.tmp 2] 14 0 (BG AM.nil BD.nil) Tryz.func57
def I3 (a0:ByteArray):Option Bool:=
AJ (σ:=Int) (β:=Bool) (fun s1=>
if s1<(a0.size:Int) then
if 0<=s1/\s1<(a0.size:Int) then
if (KH a0 s1.toNat)≥97 then
if ¬((KH a0 s1.toNat)<=122) then
if s1=0 then
some (Sum.inr (false))
else if ¬(KH a0 s1.toNat)=45 then
if (KH a0 s1.toNat)<48 then
some (Sum.inr (false))
else if (KH a0 s1.toNat)>57 then
some (Sum.inr (false))
else some (Sum.inl (AG (s1+1)))
else some (Sum.inl (AG (s1+1)))
else some (Sum.inl (AG (s1+1)))
else if s1=0 then
some (Sum.inr (false))
else if ¬(KH a0 s1.toNat)=45 then
if (KH a0 s1.toNat)<48 then
some (Sum.inr (false))
else if (KH a0 s1.toNat)>57 then
some (Sum.inr (false))
else some (Sum.inl (AG (s1+1)))
else some (Sum.inl (AG (s1+1)))
else none
else Option.map Sum.inr (if (a0.size:Int)≥1 then
some (decide ((a0.size:Int)<=16))
else some (false))) (0)
@[reducible] def RJ:FnI:=BX [AYF] [GX] fun x=>I3 x
def cM:Cx:=BL [] [] [] [(0,B3 [(3,AQ)] [] [] (FA [(2,1),(4,35)]) [] 0)] []
theorem Z1:CV 59 RJ:=okW cM [.tmp 2] 47 0 (BG AM.nil BD.nil) Tryz.func59
def I4 (a0:Nat):Option Bool:=
if a0<18446744073709551616 then
if (BitVec.ofNat 64 a0)=(0#64) then
some (true)
else if D5 a0 0=some .gt then
some (decide (D5 a0 4607182418800017408=some .lt\/D5 a0 4607182418800017408=some .eq))
else some (false)
else none
@[reducible] def L8:FnI:=BX [AYE] [GX] fun x=>I4 x
def cN:Cx:={ nm:=[],CG:=[],fns:=AEG [],loops:=[],bN:=[],tb:=oB,exts:=[(93,.YD)],lets:=[] }
theorem AYJ:BD Tryz.prog 93 .YD:=⟨Tryz.f93,Tryz.func93,by kernel_rfl,by kernel_rfl,by kernel_rfl,by kernel_rfl⟩
theorem PY:CV 60 L8:=okW cN [.tmp 2] 14 0 (BG AM.nil (.cons AYJ BD.nil)) Tryz.func60
def C_ (a0:GP):Option Int:=
Option.bind (I3 a0.1) (fun r1=>
if (!r1)=true then
some (7)
else if (a0.2.1.length:Int)<1 then
some (8)
else if (a0.2.1.length:Int)>4 then
some (8)
else if (List.replicate 4 (false:Bool)).length=4 then
AJ (σ:=(Int×(List Bool))) (β:=Int) (fun s1=>
if s1.1<(a0.2.1.length:Int) then
if 0<=s1.1/\s1.1<(a0.2.1.length:Int) then
Option.bind (I4 ((gl ((0,0,0,0):AU) a0.2.1 s1.1.toNat).1)) (fun r2=>
if (!r2)=true then
some (Sum.inr (6))
else if (((gl ((0,0,0,0):AU) a0.2.1 s1.1.toNat).2).1)<0 then
some (Sum.inr (9))
else if (((gl ((0,0,0,0):AU) a0.2.1 s1.1.toNat).2).1)>64 then
some (Sum.inr (9))
else if ((((gl ((0,0,0,0):AU) a0.2.1 s1.1.toNat).2).2).1)<0 then
some (Sum.inr (9))
else if ((((gl ((0,0,0,0):AU) a0.2.1 s1.1.toNat).2).2).1)>64 then
some (Sum.inr (9))
else if s1.1=(AG ((a0.2.1.length:Int)-1)) then
if ¬(((gl ((0,0,0,0):AU) a0.2.1 s1.1.toNat).2).1)=0 then
some (Sum.inr (9))
else if s1.1=(AG ((a0.2.1.length:Int)-1)) then
if ¬((((gl ((0,0,0,0):AU) a0.2.1 s1.1.toNat).2).2).2)=s1.1 then
some (Sum.inr (10))
else if ¬(s1.1=(AG ((a0.2.1.length:Int)-1))) then
if ((((gl ((0,0,0,0):AU) a0.2.1 s1.1.toNat).2).2).2)<=s1.1 then
some (Sum.inr (10))
else if ((((gl ((0,0,0,0):AU) a0.2.1 s1.1.toNat).2).2).2)≥(a0.2.1.length:Int) then
some (Sum.inr (10))
else if ¬(s1.1=(AG ((a0.2.1.length:Int)-1))) then
if (0<=((((gl ((0,0,0,0):AU) a0.2.1 s1.1.toNat).2).2).2)/\((((gl ((0,0,0,0):AU) a0.2.1 s1.1.toNat).2).2).2)<((4:Nat):Int))/\((((gl ((0,0,0,0):AU) a0.2.1 s1.1.toNat).2).2).2)<(s1.2.length:Int) then
some (Sum.inl ((AG (s1.1+1),s1.2.set (((((gl ((0,0,0,0):AU) a0.2.1 s1.1.toNat).2).2).2).toNat) true)))
else none
else some (Sum.inl ((AG (s1.1+1),s1.2)))
else if ¬(s1.1=(AG ((a0.2.1.length:Int)-1))) then
if (0<=((((gl ((0,0,0,0):AU) a0.2.1 s1.1.toNat).2).2).2)/\((((gl ((0,0,0,0):AU) a0.2.1 s1.1.toNat).2).2).2)<((4:Nat):Int))/\((((gl ((0,0,0,0):AU) a0.2.1 s1.1.toNat).2).2).2)<(s1.2.length:Int) then
some (Sum.inl ((AG (s1.1+1),s1.2.set (((((gl ((0,0,0,0):AU) a0.2.1 s1.1.toNat).2).2).2).toNat) true)))
else none
else some (Sum.inl ((AG (s1.1+1),s1.2)))
else if ¬(s1.1=(AG ((a0.2.1.length:Int)-1))) then
if ((((gl ((0,0,0,0):AU) a0.2.1 s1.1.toNat).2).2).2)<=s1.1 then
some (Sum.inr (10))
else if ((((gl ((0,0,0,0):AU) a0.2.1 s1.1.toNat).2).2).2)≥(a0.2.1.length:Int) then
some (Sum.inr (10))
else if ¬(s1.1=(AG ((a0.2.1.length:Int)-1))) then
if (0<=((((gl ((0,0,0,0):AU) a0.2.1 s1.1.toNat).2).2).2)/\((((gl ((0,0,0,0):AU) a0.2.1 s1.1.toNat).2).2).2)<((4:Nat):Int))/\((((gl ((0,0,0,0):AU) a0.2.1 s1.1.toNat).2).2).2)<(s1.2.length:Int) then
some (Sum.inl ((AG (s1.1+1),s1.2.set (((((gl ((0,0,0,0):AU) a0.2.1 s1.1.toNat).2).2).2).toNat) true)))
else none
else some (Sum.inl ((AG (s1.1+1),s1.2)))
else if ¬(s1.1=(AG ((a0.2.1.length:Int)-1))) then
if (0<=((((gl ((0,0,0,0):AU) a0.2.1 s1.1.toNat).2).2).2)/\((((gl ((0,0,0,0):AU) a0.2.1 s1.1.toNat).2).2).2)<((4:Nat):Int))/\((((gl ((0,0,0,0):AU) a0.2.1 s1.1.toNat).2).2).2)<(s1.2.length:Int) then
some (Sum.inl ((AG (s1.1+1),s1.2.set (((((gl ((0,0,0,0):AU) a0.2.1 s1.1.toNat).2).2).2).toNat) true)))
else none
else some (Sum.inl ((AG (s1.1+1),s1.2)))
else if s1.1=(AG ((a0.2.1.length:Int)-1)) then
if ¬((((gl ((0,0,0,0):AU) a0.2.1 s1.1.toNat).2).2).2)=s1.1 then
some (Sum.inr (10))
else if ¬(s1.1=(AG ((a0.2.1.length:Int)-1))) then
if ((((gl ((0,0,0,0):AU) a0.2.1 s1.1.toNat).2).2).2)<=s1.1 then
some (Sum.inr (10))
else if ((((gl ((0,0,0,0):AU) a0.2.1 s1.1.toNat).2).2).2)≥(a0.2.1.length:Int) then
some (Sum.inr (10))
else if ¬(s1.1=(AG ((a0.2.1.length:Int)-1))) then
if (0<=((((gl ((0,0,0,0):AU) a0.2.1 s1.1.toNat).2).2).2)/\((((gl ((0,0,0,0):AU) a0.2.1 s1.1.toNat).2).2).2)<((4:Nat):Int))/\((((gl ((0,0,0,0):AU) a0.2.1 s1.1.toNat).2).2).2)<(s1.2.length:Int) then
some (Sum.inl ((AG (s1.1+1),s1.2.set (((((gl ((0,0,0,0):AU) a0.2.1 s1.1.toNat).2).2).2).toNat) true)))
else none
else some (Sum.inl ((AG (s1.1+1),s1.2)))
else if ¬(s1.1=(AG ((a0.2.1.length:Int)-1))) then
if (0<=((((gl ((0,0,0,0):AU) a0.2.1 s1.1.toNat).2).2).2)/\((((gl ((0,0,0,0):AU) a0.2.1 s1.1.toNat).2).2).2)<((4:Nat):Int))/\((((gl ((0,0,0,0):AU) a0.2.1 s1.1.toNat).2).2).2)<(s1.2.length:Int) then
some (Sum.inl ((AG (s1.1+1),s1.2.set (((((gl ((0,0,0,0):AU) a0.2.1 s1.1.toNat).2).2).2).toNat) true)))
else none
else some (Sum.inl ((AG (s1.1+1),s1.2)))
else if ¬(s1.1=(AG ((a0.2.1.length:Int)-1))) then
if ((((gl ((0,0,0,0):AU) a0.2.1 s1.1.toNat).2).2).2)<=s1.1 then
some (Sum.inr (10))
else if ((((gl ((0,0,0,0):AU) a0.2.1 s1.1.toNat).2).2).2)≥(a0.2.1.length:Int) then
some (Sum.inr (10))
else if ¬(s1.1=(AG ((a0.2.1.length:Int)-1))) then
if (0<=((((gl ((0,0,0,0):AU) a0.2.1 s1.1.toNat).2).2).2)/\((((gl ((0,0,0,0):AU) a0.2.1 s1.1.toNat).2).2).2)<((4:Nat):Int))/\((((gl ((0,0,0,0):AU) a0.2.1 s1.1.toNat).2).2).2)<(s1.2.length:Int) then
some (Sum.inl ((AG (s1.1+1),s1.2.set (((((gl ((0,0,0,0):AU) a0.2.1 s1.1.toNat).2).2).2).toNat) true)))
else none
else some (Sum.inl ((AG (s1.1+1),s1.2)))
else if ¬(s1.1=(AG ((a0.2.1.length:Int)-1))) then
if (0<=((((gl ((0,0,0,0):AU) a0.2.1 s1.1.toNat).2).2).2)/\((((gl ((0,0,0,0):AU) a0.2.1 s1.1.toNat).2).2).2)<((4:Nat):Int))/\((((gl ((0,0,0,0):AU) a0.2.1 s1.1.toNat).2).2).2)<(s1.2.length:Int) then
some (Sum.inl ((AG (s1.1+1),s1.2.set (((((gl ((0,0,0,0):AU) a0.2.1 s1.1.toNat).2).2).2).toNat) true)))
else none
else some (Sum.inl ((AG (s1.1+1),s1.2))))
else none
else Option.map Sum.inr (AJ (σ:=Int) (β:=Int) (fun s2=>
if s2<(a0.2.1.length:Int) then
if (0<=s2/\s2<((4:Nat):Int))/\s2<(s1.2.length:Int) then
if (!(gl (false:Bool) s1.2 s2.toNat))=true then
some (Sum.inr (10))
else some (Sum.inl (AG (s2+1)))
else none
else Option.map Sum.inr (if 0<=(AG ((a0.2.1.length:Int)-1))/\(AG ((a0.2.1.length:Int)-1))<(a0.2.1.length:Int) then
if D5 ((gl ((0,0,0,0):AU) a0.2.1 ((AG ((a0.2.1.length:Int)-1)).toNat)).1) 0=some .eq then
if a0.2.2<1 then
some (9)
else if a0.2.2>64 then
some (9)
else if ¬(D5 ((gl ((0,0,0,0):AU) a0.2.1 ((AG ((a0.2.1.length:Int)-1)).toNat)).1) 0=some .eq) then
if ¬a0.2.2=0 then
some (9)
else some (0)
else some (0)
else if ¬(D5 ((gl ((0,0,0,0):AU) a0.2.1 ((AG ((a0.2.1.length:Int)-1)).toNat)).1) 0=some .eq) then
if ¬a0.2.2=0 then
some (9)
else some (0)
else some (0)
else none)) (0))) ((0,([true,false,false,false]:List Bool)))
else none)
@[reducible] def E3:FnI:=BX [UX] [DF] fun x=>C_ x
def cO:Cx:=BL [(1,(1,1)),(4,(2,1)),(6,(3,1))] [4] [(59,RJ),(60,L8)] [(0,B3 [(27,AQ)] [] [(2,.bool)] (FA [(2,1),(5,3),(28,70)]) [] 3),(3,B3 [(8,AQ)] [] [] (FA [(2,1),(98,9)]) [] 4)] []
theorem FZ:CV 30 E3:=okW cO [.tmp 2] 135 3 (BG (.cons Z1 (.cons PY AM.nil)) BD.nil) Tryz.func30
def O6 :Option XH:=
if 0<=(32:Int)/\(32:Int)<=(32:Int)/\(32:Int)*((1:Nat):Int)<=140737488355328 then
if 0<=(32:Int)/\(32:Int)<=(32:Int)/\(32:Int)*((8:Nat):Int)<=140737488355328 then
some ((List.replicate (32:Int).toNat (false:Bool),List.replicate (32:Int).toNat (0#64:(BitVec 64))))
else none
else none
@[reducible] def U1:FnI:=BX [] [AK9] fun x=>O6 
def jU:Cx:=BL [(0,(0,1)),(1,(1,1)),(2,(2,1))] [1,2] [] [] []
theorem gA:CV 39 U1:=okW jU [.cell 0 39] 4 3 (BG AM.nil BD.nil) Tryz.func39
def IG (a0:GP) (a1:Int) (a2:Int):Option (C7×Int):=
Option.bind (C_ a0) (fun r1=>
if ¬r1=0 then
some (((((⟨#[]⟩:ByteArray),[],0),(0,[],[]),[],0,[],([],[]),0,(0,0,0,0,0,0,0,0,0),false),r1))
else Option.bind (LB a1 a2) (fun r2=>
if ¬r2.2=0 then
some (((((⟨#[]⟩:ByteArray),[],0),(0,[],[]),[],0,[],([],[]),0,(0,0,0,0,0,0,0,0,0),false),r2.2))
else if (([]:List AU).length+a0.2.1.length)*32<=140737488355328 then
if 0<=((([]:List AU)++a0.2.1).length:Int)/\((([]:List AU)++a0.2.1).length:Int)<=((([]:List AU)++a0.2.1).length:Int)/\((([]:List AU)++a0.2.1).length:Int)*((24:Nat):Int)<=140737488355328 then
Option.bind (O6) (fun r3=>
some ((((a0.1,([]:List AU)++a0.2.1,a0.2.2),r2.1,List.replicate ((([]:List AU)++a0.2.1).length:Int).toNat ([]:(List AA)),0,[],r3,0,(0,0,0,0,0,0,0,0,0),false),0)))
else none
else none))
@[reducible] def N3:FnI:=BX [UX,AQ,AQ] [WA,DF] fun x=>IG x.1 x.2.1 x.2.2
def jV:Cx:=BL [(3,(1,1)),(6,(2,1)),(9,(5,1)),(20,(3,2)),(29,(6,1)),(36,(7,1)),(37,(8,2))] [29,36] [(30,E3),(38,UZ),(39,U1)] [] []
theorem TI:CV 21 N3:=okW jV [.cell 6 43,.tmp 7] 39 9 (BG (.cons FZ (.cons fO (.cons gA AM.nil))) BD.nil) Tryz.func21
def DG (a0:B1) (a1:(List AA)) (a2:(BitVec 64)):Option Bool:=
if a2=(0#64) then
some (false)
else if a2.toNat>(BitVec.ofInt 64 (a0.2.1.length:Int)).toNat then
some (false)
else if True then
if 0<=((AG (((a2-(1#64)).toNat:Int))) / 2 ^ min (BitVec.ofInt 64 a0.1).toNat 64)/\((AG (((a2-(1#64)).toNat:Int))) / 2 ^ min (BitVec.ofInt 64 a0.1).toNat 64)<(a0.2.2.length:Int) then
AJ (σ:=Int) (β:=Bool) (fun s1=>
if s1<(a1.length:Int) then
if 0<=s1/\s1<(a1.length:Int) then
if ((gl ((0,0,0):AY) a0.2.2 (((AG (((a2-(1#64)).toNat:Int))) / 2 ^ min (BitVec.ofInt 64 a0.1).toNat 64).toNat)).1)=((gl ((0,0,0,0,0):AA) a1 s1.toNat).1) then
some (Sum.inr (true))
else some (Sum.inl (AG (s1+1)))
else none
else some (Sum.inr (false))) (0)
else none
else none
@[reducible] def H3:FnI:=BX [DX,lW,oC] [GX] fun x=>DG x.1 x.2.1 x.2.2
def Z2:Cx:=BL [(3,(3,1)),(7,(4,1)),(9,(5,1))] [] [] [(0,B3 [(33,AQ)] [] [] (FA [(6,1),(9,1),(34,9)]) [] 5)] []
theorem J3:CV 150 H3:=okW Z2 [.tmp 6] 43 3 (BG AM.nil BD.nil) Tryz.func150
def DZ (a0:(BitVec 64)):Option (Int×Int×Int×Bool×Int):=
if ¬(2#64)=0#64 then
if (a0%(2#64))=(1#64) then
if ¬(2#64)=0#64 then
if (a0 / (2#64)).toNat≥(16384#64).toNat then
some ((0,0,0,false,12))
else if ¬(2#64)=0#64 then
some ((0,0,AG (((a0 / (2#64)).toNat:Int)),true,0))
else none
else none
else if ¬(256#64)=0#64 then
if ¬(2#64)=0#64 then
if ¬(256#64)=0#64 then
if (a0 / (256#64)).toNat>(48#64).toNat then
some ((0,0,0,false,12))
else if (AG ((((a0%(256#64)) / (2#64)).toNat:Int)))>15 then
some ((0,0,0,false,12))
else if (AG (((a0 / (256#64)).toNat:Int)))<(AG ((1:Int)+(AG ((((a0%(256#64)) / (2#64)).toNat:Int))))) then
some ((0,0,0,false,12))
else if (AG ((AG ((AG (((a0 / (256#64)).toNat:Int)))-1))-(AG ((((a0%(256#64)) / (2#64)).toNat:Int)))))>32 then
some ((0,0,0,false,12))
else some ((AG ((((a0%(256#64)) / (2#64)).toNat:Int)),AG ((AG ((AG (((a0 / (256#64)).toNat:Int)))-1))-(AG ((((a0%(256#64)) / (2#64)).toNat:Int)))),0,false,0))
else none
else none
else none
else none
@[reducible] def KY:FnI:=BX [oC] [DF,DF,DF,GX,DF] fun x=>DZ x
def Z3:Cx:=BL [] [] [] [] []
theorem O7:CV 106 KY:=okW Z3 [.tmp 2,.tmp 3,.tmp 4,.tmp 5,.tmp 6] 51 0 (BG AM.nil BD.nil) Tryz.func106
def BQ (a0:B1) (a1:Int):Option AY:=
Option.bind (A_ a0 a1 0) (fun r1=>
if ¬r1.2=0 then
some ((0,0,r1.2))
else if 0<=a1/\a1<(a0.2.1.length:Int) then
Option.bind (DZ (gl (0#64:(BitVec 64)) a0.2.1 a1.toNat)) (fun r2=>
if ¬r2.2.2.2.2=0 then
some ((0,0,12))
else if r2.2.2.2.1=true then
some ((0,0,12))
else Option.bind (A_ a0 a1 (AG (r2.1+r2.2.1))) (fun r3=>
if ¬r3.2=0 then
some ((0,0,2))
else some ((r2.1,r2.2.1,0))))
else none)
@[reducible] def FN:FnI:=BX [DX,AQ] [DF,DF,DF] fun x=>BQ x.1 x.2
def gB:Cx:=BL [(2,(2,1))] [] [(105,EE),(106,KY)] [] []
theorem GJ:CV 78 FN:=okW gB [.tmp 4,.tmp 5,.tmp 6] 55 1 (BG (.cons ES (.cons O7 AM.nil)) BD.nil) Tryz.func78
def EG (a0:Int):Option ((BitVec 64)×Int):=
if a0<0 then
some ((0#64,2))
else if a0≥16384 then
some ((0#64,2))
else some ((BitVec.ofInt 64 (AG ((AG ((2:Int)*a0))+1)),0))
@[reducible] def O8:FnI:=BX [AQ] [zH,DF] fun x=>EG x
def YM:Cx:=BL [] [] [] [] []
theorem XN:CV 157 O8:=okW YM [.tmp 2,.tmp 3] 14 0 (BG AM.nil BD.nil) Tryz.func157
def CB (a0:pY) (a1:(BitVec 64)):Option ((BitVec 64)×pY):=
if ¬a0.2.2.2.2=0 then
some ((a1,a0))
else Option.bind (DG a0.1 a0.2.1 a1) (fun r1=>
if (!r1)=true then
some ((a1,a0))
else if 0<=(AG (((a1-(1#64)).toNat:Int)))/\(AG (((a1-(1#64)).toNat:Int)))<(a0.1.2.1.length:Int) then
Option.bind (DZ (gl (0#64:(BitVec 64)) a0.1.2.1 ((AG (((a1-(1#64)).toNat:Int))).toNat))) (fun r2=>
if r2.2.2.2.2=0 then
if r2.2.2.2.1=true then
some ((BitVec.ofInt 64 (AG (r2.2.2.1+1)),a0))
else Option.bind (BQ a0.1 (AG (((a1-(1#64)).toNat:Int)))) (fun r3=>
if ¬r3.2.2=0 then
some ((a1,(a0.1,a0.2.1,a0.2.2.1,a0.2.2.2.1,12)))
else Option.bind (DY a0.1 a0.2.2.1 (AG ((AG ((1:Int)+r3.1))+r3.2.1))) (fun r4=>
if ¬r4.2.2.1=0 then
some ((a1,((a0.1.1,r4.2.2.2),a0.2.1,a0.2.2.1,a0.2.2.2.1,r4.2.2.1)))
else AJ (σ:=(Int×NP)) (β:=((BitVec 64)×pY)) (fun s1=>
if s1.1<=(AG (r3.1+r3.2.1)) then
Option.bind (A_ (a0.1.1,s1.2,r4.2.2.2.2) (AG (((a1-(1#64)).toNat:Int))) s1.1) (fun r5=>
Option.bind (A_ (a0.1.1,s1.2,r4.2.2.2.2) r4.2.1 s1.1) (fun r6=>
if 0<=r5.1/\r5.1<(s1.2.length:Int) then
if 0<=r6.1/\r6.1<(s1.2.length:Int) then
some (Sum.inl ((AG (s1.1+1),s1.2.set r6.1.toNat (gl (0#64:(BitVec 64)) s1.2 r5.1.toNat))))
else none
else none))
else Option.map Sum.inr (Option.bind (EG r4.2.1) (fun r7=>
if 0<=(AG (((a1-(1#64)).toNat:Int)))/\(AG (((a1-(1#64)).toNat:Int)))<(s1.2.length:Int) then
if (a0.2.2.2.1.length+([(AG (((a1-(1#64)).toNat:Int)),r4.2.1)]:List (Int×Int)).length)*16<=140737488355328 then
some ((BitVec.ofInt 64 (AG (r4.2.1+1)),((a0.1.1,s1.2.set ((AG (((a1-(1#64)).toNat:Int))).toNat) r7.1,r4.2.2.2.2),a0.2.1,r4.1,a0.2.2.2.1++([(AG (((a1-(1#64)).toNat:Int)),r4.2.1)]:List (Int×Int)),a0.2.2.2.2)))
else none
else none))) ((0,r4.2.2.2.1))))
else Option.bind (BQ a0.1 (AG (((a1-(1#64)).toNat:Int)))) (fun r8=>
if ¬r8.2.2=0 then
some ((a1,(a0.1,a0.2.1,a0.2.2.1,a0.2.2.2.1,12)))
else Option.bind (DY a0.1 a0.2.2.1 (AG ((AG ((1:Int)+r8.1))+r8.2.1))) (fun r9=>
if ¬r9.2.2.1=0 then
some ((a1,((a0.1.1,r9.2.2.2),a0.2.1,a0.2.2.1,a0.2.2.2.1,r9.2.2.1)))
else AJ (σ:=(Int×NP)) (β:=((BitVec 64)×pY)) (fun s2=>
if s2.1<=(AG (r8.1+r8.2.1)) then
Option.bind (A_ (a0.1.1,s2.2,r9.2.2.2.2) (AG (((a1-(1#64)).toNat:Int))) s2.1) (fun JQ=>
Option.bind (A_ (a0.1.1,s2.2,r9.2.2.2.2) r9.2.1 s2.1) (fun U2=>
if 0<=JQ.1/\JQ.1<(s2.2.length:Int) then
if 0<=U2.1/\U2.1<(s2.2.length:Int) then
some (Sum.inl ((AG (s2.1+1),s2.2.set U2.1.toNat (gl (0#64:(BitVec 64)) s2.2 JQ.1.toNat))))
else none
else none))
else Option.map Sum.inr (Option.bind (EG r9.2.1) (fun NX=>
if 0<=(AG (((a1-(1#64)).toNat:Int)))/\(AG (((a1-(1#64)).toNat:Int)))<(s2.2.length:Int) then
if (a0.2.2.2.1.length+([(AG (((a1-(1#64)).toNat:Int)),r9.2.1)]:List (Int×Int)).length)*16<=140737488355328 then
some ((BitVec.ofInt 64 (AG (r9.2.1+1)),((a0.1.1,s2.2.set ((AG (((a1-(1#64)).toNat:Int))).toNat) NX.1,r9.2.2.2.2),a0.2.1,r9.1,a0.2.2.2.1++([(AG (((a1-(1#64)).toNat:Int)),r9.2.1)]:List (Int×Int)),a0.2.2.2.2)))
else none
else none))) ((0,r9.2.2.2.1)))))
else none)
@[reducible] def NQ:FnI:={ ps:=[A1R,oC],rs:=[zH],os:=[A1R],bk:=[0],pin:=[(1,0,1,0),(2,1,2,0),(3,2,3,0)],F:=fun x=>CB x.1 x.2 }
def WN:Cx:=BL [(14,(5,1)),(172,(6,1)),(173,(7,1))] [173] [(78,FN),(105,EE),(106,KY),(117,M1),(150,H3),(157,O8)] [(0,B3 [(16,AQ)] [] [(1,.u64)] (FA [(17,4),(110,42)]) [] 6)] []
theorem VT:CV 153 NQ:=okW WN [.tmp 4] 179 3 (BG (.cons GJ (.cons ES (.cons O7 (.cons RG (.cons J3 (.cons XN AM.nil)))))) BD.nil) Tryz.func153
def CL (a0:B1) (a1:Int):Option FV:=
Option.bind (BQ a0 a1) (fun r1=>
if ¬r1.2.2=0 then
some (([],r1.2.2))
else AJ (σ:=FV) (β:=FV) (fun s1=>
if s1.2<r1.1 then
Option.bind (A_ a0 a1 (AG ((1:Int)+s1.2))) (fun r2=>
if (s1.1.length+([r2.1]:List Int).length)*8<=140737488355328 then
some (Sum.inl ((s1.1++([r2.1]:List Int),AG (s1.2+1))))
else none)
else some (Sum.inr ((s1.1,0)))) (([],0)))
@[reducible] def KZ:FnI:=BX [DX,AQ] [IB,DF] fun x=>CL x.1 x.2
def Z4:Cx:=BL [(2,(2,1)),(38,(4,1)),(39,(5,1))] [39] [(78,FN),(105,EE)] [(0,B3 [(9,IB),(10,AQ)] [] [] (FA [(11,2),(23,17)]) [] 3)] []
theorem O9:CV 154 KZ:=okW Z4 [.tmp 4,.tmp 5] 41 4 (BG (.cons GJ (.cons ES AM.nil)) BD.nil) Tryz.func154
def LD (a0:B1) (a1:(List AA)) (a2:AA) (a3:NP):Option AK7:=
AJ (σ:=(NP×Int×pY)) (β:=AK7) (fun s1=>
if s1.2.1<(a3.length:Int) then
if 0<=s1.2.1/\s1.2.1<(a3.length:Int) then
Option.bind (CB s1.2.2 (gl (0#64:(BitVec 64)) a3 s1.2.1.toNat)) (fun r1=>
if (s1.1.length+([r1.1]:List (BitVec 64)).length)*8<=140737488355328 then
some (Sum.inl ((s1.1++([r1.1]:List (BitVec 64)),AG (s1.2.1+1),r1.2)))
else none)
else none
else Option.map Sum.inr (AJ (σ:=(Int×pY)) (β:=AK7) (fun s2=>
if s2.1<(s2.2.2.2.2.1.length:Int) then
if s2.2.2.2.2.2=0 then
if 0<=s2.1/\s2.1<(s2.2.2.2.2.1.length:Int) then
Option.bind (CL (a0.1,s2.2.1.2) ((gl ((0,0):(Int×Int)) s2.2.2.2.2.1 s2.1.toNat).2)) (fun r2=>
AJ (σ:=(Int×pY)) (β:=((Int×pY) ⊕ AK7)) (fun s3=>
if s3.1<(r2.1.length:Int) then
if 0<=s3.1/\s3.1<(r2.1.length:Int) then
if 0<=(gl (0:Int) r2.1 s3.1.toNat)/\(gl (0:Int) r2.1 s3.1.toNat)<(s3.2.1.2.1.length:Int) then
Option.bind (CB s3.2 (gl (0#64:(BitVec 64)) s3.2.1.2.1 ((gl (0:Int) r2.1 s3.1.toNat).toNat))) (fun r3=>
if 0<=(gl (0:Int) r2.1 s3.1.toNat)/\(gl (0:Int) r2.1 s3.1.toNat)<(r3.2.1.2.1.length:Int) then
some (Sum.inl ((AG (s3.1+1),((r3.2.1.1,r3.2.1.2.1.set ((gl (0:Int) r2.1 s3.1.toNat).toNat) r3.1,r3.2.1.2.2),r3.2.2))))
else none)
else none
else none
else some (Sum.inr (Sum.inl ((AG (s2.1+1),s3.2))))) ((0,s2.2)))
else none
else some (Sum.inr ((s2.2.2.2.1,s2.2.2.2.2.1,s1.1,s2.2.2.2.2.2,s2.2.1.2.1,s2.2.1.2.2,s2.2.2.1)))
else some (Sum.inr ((s2.2.2.2.1,s2.2.2.2.2.1,s1.1,s2.2.2.2.2.2,s2.2.1.2.1,s2.2.1.2.2,s2.2.2.1)))) ((0,s1.2.2)))) (([],0,(a0,a1,a2,[],0)))
@[reducible] def U3:FnI:={ ps:=[ZL,bZ,S_,AQH],rs:=[uV,⟨(.slice AK5),false,true,false⟩,ZK,DF],os:=[ZK,uT,bZ],bk:=[0,1,2],F:=fun x=>LD x.1 x.2.1 x.2.2.1 x.2.2.2 }
def jW:Cx:=BL [(4,(4,1)),(6,(5,1)),(8,(6,1)),(25,(7,1)),(35,(9,4)),(36,(13,1)),(37,(14,1)),(65,(20,1)),(83,(21,4))] [37] [(153,NQ),(154,KZ)] [(0,{ live:=[(13,ZK),(28,AQ)],boxes:=[(7,AYD)],rows:=[],dead:=FA [(15,1),(29,10)],lost:=[0,1,2],base:=15,pins:=[(16,0,7),(17,1,7),(18,2,7)] }),(2,{ live:=[(16,AQ)],boxes:=[(7,AYD)],rows:=[],dead:=FA [(17,2),(20,1),(39,47)],lost:=[0,1,2,19],base:=29,pins:=[(29,0,7),(30,1,7),(31,2,7)] }),(4,{ live:=[(70,AQ)],boxes:=[(7,AYD)],rows:=[],dead:=FA [(20,1),(71,15)],lost:=[0,1,2,19,32],base:=25,pins:=[(25,0,7),(26,1,7),(27,2,7)] })] []
theorem gC:CV 145 U3:=okW jW [.cell 8 66,.tmp 9,.tmp 10,.tmp 11] 99 29 (BG (.cons VT (.cons O9 AM.nil)) BD.nil) Tryz.func145
def EU (a0:ED) (a1:Int):Option (AA×Bool):=
AJ (σ:=Int) (β:=(AA×Bool)) (fun s1=>
if s1<(a0.length:Int) then
if 0<=s1/\s1<(a0.length:Int) then
AJ (σ:=Int) (β:=(Int ⊕ (AA×Bool))) (fun s2=>
if s2<((gl ([]:(List AA)) a0 s1.toNat).length:Int) then
if 0<=s2/\s2<((gl ([]:(List AA)) a0 s1.toNat).length:Int) then
if ((gl ((0,0,0,0,0):AA) (gl ([]:(List AA)) a0 s1.toNat) s2.toNat).1)=a1 then
some (Sum.inr (Sum.inr ((((gl ((0,0,0,0,0):AA) (gl ([]:(List AA)) a0 s1.toNat) s2.toNat).1,((gl ((0,0,0,0,0):AA) (gl ([]:(List AA)) a0 s1.toNat) s2.toNat).2).1,(((gl ((0,0,0,0,0):AA) (gl ([]:(List AA)) a0 s1.toNat) s2.toNat).2).2).1,((((gl ((0,0,0,0,0):AA) (gl ([]:(List AA)) a0 s1.toNat) s2.toNat).2).2).2)),true))))
else some (Sum.inl (AG (s2+1)))
else none
else some (Sum.inr (Sum.inl (AG (s1+1))))) (0)
else none
else some (Sum.inr (((0,0,0,0,0),false)))) (0)
@[reducible] def M3:FnI:=BX [KL,AQ] [uV,GX] fun x=>EU x.1 x.2
def gD:Cx:=BL [(4,(1,1)),(9,(3,1)),(15,(2,1))] [] [] [(0,B3 [(12,AQ)] [] [] (FA [(5,1),(7,1),(9,1),(13,16)]) [] 2),(2,B3 [(18,AQ)] [] [] (FA [(5,1),(9,1),(19,9)]) [] 3)] []
theorem RK:CV 134 M3:=okW gD [.cell 4 66,.tmp 5] 30 3 (BG AM.nil BD.nil) Tryz.func134
def IH (a0:ED):Option (List AA):=
AJ (σ:=((List AA)×Int)) (β:=(List AA)) (fun s1=>
if s1.2<(a0.length:Int) then
if 0<=s1.2/\s1.2<(a0.length:Int) then
if (s1.1.length+(gl ([]:(List AA)) a0 s1.2.toNat).length)*40<=140737488355328 then
some (Sum.inl ((s1.1++(gl ([]:(List AA)) a0 s1.2.toNat),AG (s1.2+1))))
else none
else none
else some (Sum.inr (s1.1))) (([],0))
@[reducible] def N4:FnI:=BX [KL] [bZ] fun x=>IH x
def jX:Cx:=BL [(11,(2,1)),(14,(3,1))] [14] [] [(0,B3 [(3,bZ),(8,AQ)] [] [] (FA [(5,1),(9,7)]) [] 1)] []
theorem TJ:CV 15 N4:=okW jX [.tmp 2] 17 3 (BG AM.nil BD.nil) Tryz.func15
def II (a0:ED) (a1:(List Int)):Option Bool:=
Option.bind (IH a0) (fun r1=>
if (a1.length:Int)>(r1.length:Int) then
some (false)
else AJ (σ:=Int) (β:=Bool) (fun s1=>
if s1<(a1.length:Int) then
if 0<=s1/\s1<(a1.length:Int) then
AJ (σ:=Int) (β:=(Int ⊕ Bool)) (fun s2=>
if s2<s1 then
if 0<=s2/\s2<(a1.length:Int) then
if (gl (0:Int) a1 s2.toNat)=(gl (0:Int) a1 s1.toNat) then
some (Sum.inr (Sum.inr (false)))
else some (Sum.inl (AG (s2+1)))
else none
else Option.map Sum.inr (if Bd none (some (a1.length:Int)) ((a1.length:Int).toNat) r1.length then
AJ (σ:=(Bool×Int)) (β:=(Int ⊕ Bool)) (fun s3=>
if s3.2<((((a1.length:Int).toNat)-0:Nat):Int) then
if 0<=s3.2/\s3.2<((((a1.length:Int).toNat)-0:Nat):Int) then
if s3.1=true then
some (Sum.inl ((true,AG (s3.2+1))))
else some (Sum.inl ((decide (((gl ((0,0,0,0,0):AA) r1 (0+s3.2.toNat)).1)=(gl (0:Int) a1 s1.toNat)),AG (s3.2+1))))
else none
else Option.map Sum.inr (if (!s3.1)=true then
some (Sum.inr (false))
else some (Sum.inl (AG (s1+1))))) ((false,0))
else none)) (0)
else none
else Option.map Sum.inr (if Bd none (some (a1.length:Int)) ((a1.length:Int).toNat) r1.length then
AJ (σ:=Int) (β:=Bool) (fun s4=>
if s4<((((a1.length:Int).toNat)-0:Nat):Int) then
if 0<=s4/\s4<((((a1.length:Int).toNat)-0:Nat):Int) then
AJ (σ:=(Bool×Int)) (β:=(Int ⊕ Bool)) (fun s5=>
if s5.2<(a1.length:Int) then
if 0<=s5.2/\s5.2<(a1.length:Int) then
if s5.1=true then
some (Sum.inl ((true,AG (s5.2+1))))
else some (Sum.inl ((decide (((gl ((0,0,0,0,0):AA) r1 (0+s4.toNat)).1)=(gl (0:Int) a1 s5.2.toNat)),AG (s5.2+1))))
else none
else Option.map Sum.inr (if (!s5.1)=true then
some (Sum.inr (false))
else some (Sum.inl (AG (s4+1))))) ((false,0))
else none
else some (Sum.inr (true))) (0)
else none)) (0))
@[reducible] def PZ:FnI:=BX [KL,XJ] [GX] fun x=>II x.1 x.2
def Z5:Cx:=BL [(11,(3,1)),(13,(4,1)),(18,(2,1))] [] [(15,N4)] [(0,B3 [(26,AQ)] [] [] (FA [(4,1),(6,4),(11,1),(27,35)]) [] 3),(2,B3 [(8,AQ)] [] [] (FA [(4,1),(31,11)]) [] 3),(4,B3 [(9,lV),(47,AQ)] [] [] (FA [(11,1),(48,11)]) [] 3),(6,B3 [(67,AQ)] [] [] (FA [(4,1),(13,2),(16,1),(68,20)]) [] 4),(8,B3 [(14,lV),(73,AQ)] [] [] (FA [(16,1),(74,11)]) [] 5)] []
theorem YN:CV 149 PZ:=okW Z5 [.tmp 4] 88 3 (BG (.cons TJ AM.nil) BD.nil) Tryz.func149
def E5 (a0:Nat) (a1:Int):Option (Int×Int):=
Option.bind (I4 a0) (fun r1=>
if (!r1)=true then
some ((0,6))
else if a1<1 then
some ((0,1))
else if a1>64 then
some ((0,1))
else if D5 a0 0=some .eq then
some ((0,0))
else if a0<18446744073709551616 then
if True then
if (AG (((((BitVec.ofNat 64 a0) >>> (52#64).toNat) &&& (2047#64)).toNat:Int)))>0 then
if (AG ((1075:Int)-(AG (((((BitVec.ofNat 64 a0) >>> (52#64).toNat) &&& (2047#64)).toNat:Int)))))<64 then
if True then
some ((if (AG (((((((BitVec.ofNat 64 a0) &&& (4503599627370495#64))|||(4503599627370496#64))*(BitVec.ofInt 64 a1)) >>> (BitVec.ofInt 64 (AG ((1075:Int)-(AG (((((BitVec.ofNat 64 a0) >>> (52#64).toNat) &&& (2047#64)).toNat:Int)))))).toNat).toNat:Int)))>1 then AG (((((((BitVec.ofNat 64 a0) &&& (4503599627370495#64))|||(4503599627370496#64))*(BitVec.ofInt 64 a1)) >>> (BitVec.ofInt 64 (AG ((1075:Int)-(AG (((((BitVec.ofNat 64 a0) >>> (52#64).toNat) &&& (2047#64)).toNat:Int)))))).toNat).toNat:Int)) else 1,0))
else none
else some ((if (AG (((0#64).toNat:Int)))>1 then AG (((0#64).toNat:Int)) else 1,0))
else if (1074:Int)<64 then
if True then
some ((if (AG ((((((BitVec.ofNat 64 a0) &&& (4503599627370495#64))*(BitVec.ofInt 64 a1)) >>> (BitVec.ofInt 64 1074).toNat).toNat:Int)))>1 then AG ((((((BitVec.ofNat 64 a0) &&& (4503599627370495#64))*(BitVec.ofInt 64 a1)) >>> (BitVec.ofInt 64 1074).toNat).toNat:Int)) else 1,0))
else none
else some ((if (AG (((0#64).toNat:Int)))>1 then AG (((0#64).toNat:Int)) else 1,0))
else none
else none)
@[reducible] def P0:FnI:=BX [AYE,AQ] [DF,DF] fun x=>E5 x.1 x.2
def Z6:Cx:={ nm:=[],CG:=[],fns:=AEG [(60,L8)],loops:=[],bN:=[],tb:=oB,exts:=[(93,.YD)],lets:=[] }
theorem YO:CV 138 P0:=okW Z6 [.tmp 4,.tmp 5] 48 0 (BG (.cons PY AM.nil) (.cons AYJ BD.nil)) Tryz.func138
def FE (a0:GP) (a1:Int) (a2:Int):Option (Int×Int):=
Option.bind (C_ a0) (fun r1=>
if ¬r1=0 then
some ((0,1))
else if a1<0 then
some ((0,1))
else if a1≥(a0.2.1.length:Int) then
some ((0,1))
else if a2<1 then
some ((0,1))
else if a2>64 then
some ((0,1))
else if 0<=a1/\a1<(a0.2.1.length:Int) then
Option.bind (E5 ((gl ((0,0,0,0):AU) a0.2.1 a1.toNat).1) a2) (fun r2=>
some ((r2.1,r2.2)))
else none)
@[reducible] def N5:FnI:=BX [UX,AQ,AQ] [DF,DF] fun x=>FE x.1 x.2.1 x.2.2
def jY:Cx:=BL [(3,(1,1))] [] [(30,E3),(138,P0)] [] []
theorem TK:CV 126 N5:=okW jY [.tmp 6,.tmp 7] 40 1 (BG (.cons FZ (.cons YO AM.nil)) BD.nil) Tryz.func126
def B0 (a0:ED) (a1:Int):Option (AA×Bool):=
if a1<0 then
some (((0,0,0,0,0),false))
else if a1≥(a0.length:Int) then
some (((0,0,0,0,0),false))
else if 0<=a1/\a1<(a0.length:Int) then
if ((gl ([]:(List AA)) a0 a1.toNat).length:Int)=0 then
some (((0,0,0,0,0),false))
else if 0<=a1/\a1<(a0.length:Int) then
if 0<=a1/\a1<(a0.length:Int) then
if 0<=(AG (((gl ([]:(List AA)) a0 a1.toNat).length:Int)-1))/\(AG (((gl ([]:(List AA)) a0 a1.toNat).length:Int)-1))<((gl ([]:(List AA)) a0 a1.toNat).length:Int) then
some ((((gl ((0,0,0,0,0):AA) (gl ([]:(List AA)) a0 a1.toNat) ((AG (((gl ([]:(List AA)) a0 a1.toNat).length:Int)-1)).toNat)).1,((gl ((0,0,0,0,0):AA) (gl ([]:(List AA)) a0 a1.toNat) ((AG (((gl ([]:(List AA)) a0 a1.toNat).length:Int)-1)).toNat)).2).1,(((gl ((0,0,0,0,0):AA) (gl ([]:(List AA)) a0 a1.toNat) ((AG (((gl ([]:(List AA)) a0 a1.toNat).length:Int)-1)).toNat)).2).2).1,((((gl ((0,0,0,0,0):AA) (gl ([]:(List AA)) a0 a1.toNat) ((AG (((gl ([]:(List AA)) a0 a1.toNat).length:Int)-1)).toNat)).2).2).2)),true))
else none
else none
else none
else none
@[reducible] def E8:FnI:=BX [KL,AQ] [uV,GX] fun x=>B0 x.1 x.2
def XO:Cx:=BL [(4,(1,1)),(18,(2,1)),(26,(3,1)),(30,(4,1))] [] [] [] []
theorem GF:CV 63 E8:=okW XO [.cell 4 66,.tmp 5] 35 4 (BG AM.nil BD.nil) Tryz.func63
def J4 (a0:B1):Option Int:=
Option.bind (FK a0.1) (fun r1=>
if (!r1)=true then
some (0)
else if True then
some (AG ((1:Int)*2 ^ min (BitVec.ofInt 64 a0.1).toNat 64))
else none)
@[reducible] def TL:FnI:=BX [DX] [DF] fun x=>J4 x
def gE:Cx:=BL [(1,(2,1))] [] [(66,ID)] [] []
theorem cP:CV 139 TL:=okW gE [.tmp 2] 11 1 (BG (.cons KW AM.nil) BD.nil) Tryz.func139
def H0 (a0:B1) (a1:AA) (a2:Int):Option Bool:=
if a2=0 then
some (true)
else Option.bind (J4 a0) (fun r1=>
some (decide (a1.2.2.2.2<(AG (a2*r1)))))
@[reducible] def M4:FnI:=BX [DX,S_,AQ] [GX] fun x=>H0 x.1 x.2.1 x.2.2
def gF:Cx:=BL [(3,(2,1)),(4,(3,1))] [] [(139,TL)] [] []
theorem RL:CV 127 M4:=okW gF [.tmp 6] 18 2 (BG (.cons cP AM.nil) BD.nil) Tryz.func127
def GK (a0:C7) (a1:(List AA)):Option (AA×Int):=
AJ (σ:=FV) (β:=(AA×Int)) (fun s1=>
if s1.2<(a1.length:Int) then
if 0<=s1.2/\s1.2<(a1.length:Int) then
Option.bind (EU a0.2.2.1 ((gl ((0,0,0,0,0):AA) a1 s1.2.toNat).1)) (fun r1=>
if (!r1.2)=true then
some (Sum.inr (((0,0,0,0,0),1)))
else if (!(WI [decide (r1.1.1=((gl ((0,0,0,0,0):AA) a1 s1.2.toNat).1)),decide (r1.1.2.1=(((gl ((0,0,0,0,0):AA) a1 s1.2.toNat).2).1)),decide (r1.1.2.2.1=((((gl ((0,0,0,0,0):AA) a1 s1.2.toNat).2).2).1)),decide (r1.1.2.2.2.1=(((((gl ((0,0,0,0,0):AA) a1 s1.2.toNat).2).2).2).1)),decide (r1.1.2.2.2.2=(((((gl ((0,0,0,0,0):AA) a1 s1.2.toNat).2).2).2).2))]))=true then
some (Sum.inr (((0,0,0,0,0),1)))
else if 0<=(0:Int)/\(0:Int)<(a1.length:Int) then
if ¬(((gl ((0,0,0,0,0):AA) a1 s1.2.toNat).2).1)=(((gl ((0,0,0,0,0):AA) a1 ((0:Int).toNat)).2).1) then
some (Sum.inr (((0,0,0,0,0),1)))
else if (s1.1.length+([(gl ((0,0,0,0,0):AA) a1 s1.2.toNat).1]:List Int).length)*8<=140737488355328 then
some (Sum.inl ((s1.1++([(gl ((0,0,0,0,0):AA) a1 s1.2.toNat).1]:List Int),AG (s1.2+1))))
else none
else none)
else none
else Option.map Sum.inr (if (a1.length:Int)=0 then
some (((0,0,0,0,0),1))
else Option.bind (II a0.2.2.1 s1.1) (fun r2=>
if (!r2)=true then
some (((0,0,0,0,0),1))
else if 0<=(0:Int)/\(0:Int)<(a1.length:Int) then
if 0<=(((gl ((0,0,0,0,0):AA) a1 ((0:Int).toNat)).2).1)/\(((gl ((0,0,0,0,0):AA) a1 ((0:Int).toNat)).2).1)<(a0.1.2.1.length:Int) then
Option.bind (FE a0.1 ((((gl ((0,0,0,0):AU) a0.1.2.1 ((((gl ((0,0,0,0,0):AA) a1 ((0:Int).toNat)).2).1).toNat)).2).2).2) (a0.2.1.2.2.length:Int)) (fun r3=>
Option.bind (B0 a0.2.2.1 ((((gl ((0,0,0,0):AU) a0.1.2.1 ((((gl ((0,0,0,0,0):AA) a1 ((0:Int).toNat)).2).1).toNat)).2).2).2)) (fun r4=>
AJ (σ:=(Bool×Int)) (β:=(AA×Int)) (fun s2=>
if s2.2<(a1.length:Int) then
if 0<=s2.2/\s2.2<(a1.length:Int) then
if s2.1=true then
some (Sum.inl ((decide (¬((gl ((0,0,0,0,0):AA) a1 s2.2.toNat).1)=r4.1.1),AG (s2.2+1))))
else some (Sum.inl ((false,AG (s2.2+1))))
else none
else Option.map Sum.inr (if s2.1=true then
Option.bind (H0 a0.2.1 r4.1 r3.1) (fun r5=>
if r5=true then
some ((r4.1,0))
else some (((a0.2.2.2.1,(((gl ((0,0,0,0):AU) a0.1.2.1 ((((gl ((0,0,0,0,0):AA) a1 ((0:Int).toNat)).2).1).toNat)).2).2).2,(-1),(-1),0),0)))
else some (((a0.2.2.2.1,(((gl ((0,0,0,0):AU) a0.1.2.1 ((((gl ((0,0,0,0,0):AA) a1 ((0:Int).toNat)).2).1).toNat)).2).2).2,(-1),(-1),0),0)))) ((r4.2,0))))
else none
else none))) (([],0))
@[reducible] def P1:FnI:=BX [HW,lW] [uV,DF] fun x=>GK x.1 x.2
def Z7:Cx:=BL [(2,(8,1)),(4,(9,1)),(8,(11,1)),(9,(12,1)),(14,(15,1)),(17,(16,1)),(52,(13,1)),(53,(14,1))] [53] [(63,E8),(126,N5),(127,M4),(134,M3),(149,PZ)] [(0,B3 [(6,IB),(20,AQ)] [] [] (FA [(5,1),(8,3),(21,34)]) [] 10),(2,B3 [(15,lV),(96,AQ)] [] [] (FA [(17,1),(97,12)]) [] 16)] []
theorem YP:CV 142 P1:=okW Z7 [.cell 4 66,.tmp 5] 122 9 (BG (.cons GF (.cons TK (.cons RL (.cons RK (.cons YN AM.nil))))) BD.nil) Tryz.func142
def D0 (a0:ED):Option ED:=
AJ (σ:=(ED×Int)) (β:=ED) (fun s1=>
if s1.2<(a0.length:Int) then
if 0<=s1.2/\s1.2<(a0.length:Int) then
if (([]:List AA).length+(gl ([]:(List AA)) a0 s1.2.toNat).length)*40<=140737488355328 then
if (s1.1.length+([([]:List AA)++(gl ([]:(List AA)) a0 s1.2.toNat)]:List (List AA)).length)*24<=140737488355328 then
some (Sum.inl ((s1.1++([([]:List AA)++(gl ([]:(List AA)) a0 s1.2.toNat)]:List (List AA)),AG (s1.2+1))))
else none
else none
else none
else some (Sum.inr (s1.1))) (([],0))
@[reducible] def G8:FnI:=BX [KL] [AEO] fun x=>D0 x
def gG:Cx:=BL [(11,(2,1)),(14,(3,1)),(15,(4,1)),(16,(5,1))] [14,15,16] [] [(0,B3 [(3,AEO),(8,AQ)] [] [] (FA [(5,1),(9,9)]) [] 1)] []
theorem IJ:CV 34 G8:=okW gG [.tmp 2] 19 5 (BG AM.nil BD.nil) Tryz.func34
def D1 (a0:(List BZ)):Option (List BZ):=
AJ (σ:=((List BZ)×Int)) (β:=(List BZ)) (fun s1=>
if s1.2<(a0.length:Int) then
if 0<=s1.2/\s1.2<(a0.length:Int) then
if (([]:List Int).length+(((gl ((0,0,[]):BZ) a0 s1.2.toNat).2).2).length)*8<=140737488355328 then
if (s1.1.length+([((gl ((0,0,[]):BZ) a0 s1.2.toNat).1,((gl ((0,0,[]):BZ) a0 s1.2.toNat).2).1,([]:List Int)++(((gl ((0,0,[]):BZ) a0 s1.2.toNat).2).2))]:List BZ).length)*40<=140737488355328 then
some (Sum.inl ((s1.1++([((gl ((0,0,[]):BZ) a0 s1.2.toNat).1,((gl ((0,0,[]):BZ) a0 s1.2.toNat).2).1,([]:List Int)++(((gl ((0,0,[]):BZ) a0 s1.2.toNat).2).2))]:List BZ),AG (s1.2+1))))
else none
else none
else none
else some (Sum.inr (s1.1))) (([],0))
@[reducible] def I5:FnI:=BX [zI] [bY] fun x=>D1 x
def gH:Cx:=BL [(5,(3,1)),(11,(2,1)),(19,(4,1)),(21,(5,1)),(22,(6,1))] [22] [] [(0,B3 [(3,bY),(8,AQ)] [] [] (FA [(5,1),(9,15)]) [] 1)] []
theorem L9:CV 102 I5:=okW gH [.tmp 2] 25 6 (BG AM.nil BD.nil) Tryz.func102
def F8 (a0:XH):Option XH:=
if (([]:List Bool).length+a0.1.length)*1<=140737488355328 then
if (([]:List (BitVec 64)).length+a0.2.length)*8<=140737488355328 then
some ((([]:List Bool)++a0.1,([]:List (BitVec 64))++a0.2))
else none
else none
@[reducible] def I6:FnI:=BX [uU] [AK9] fun x=>F8 x
def gI:Cx:=BL [(1,(2,1)),(2,(3,1)),(5,(4,1)),(8,(5,1))] [5,8] [] [] []
theorem MA:CV 103 I6:=okW gI [.cell 2 39] 10 4 (BG AM.nil BD.nil) Tryz.func103
def BR (a0:C7):Option C7:=
if (([]:List AU).length+a0.1.2.1.length)*32<=140737488355328 then
Option.bind (ET a0.2.1) (fun r1=>
Option.bind (D0 a0.2.2.1) (fun r2=>
Option.bind (D1 a0.2.2.2.2.1) (fun r3=>
Option.bind (F8 a0.2.2.2.2.2.1) (fun r4=>
some (((a0.1.1,([]:List AU)++a0.1.2.1,a0.1.2.2),r1,r2,a0.2.2.2.1,r3,r4,a0.2.2.2.2.2.2))))))
else none
@[reducible] def DQ:FnI:=BX [HW] [WA] fun x=>BR x
def gJ:Cx:=BL [(1,(7,1)),(2,(8,1)),(3,(9,1)),(8,(10,1)),(13,(11,2)),(17,(13,1)),(21,(14,1)),(25,(15,2))] [8] [(24,I1),(34,G8),(102,I5),(103,I6)] [] []
theorem D2:CV 76 DQ:=okW gJ [.cell 2 43] 28 10 (BG (.cons L4 (.cons IJ (.cons L9 (.cons MA AM.nil)))) BD.nil) Tryz.func76
def F9 (a0:XH):Option (List Int):=
AJ (σ:=FV) (β:=(List Int)) (fun s1=>
if s1.2<(a0.1.length:Int) then
if 0<=s1.2/\s1.2<(a0.1.length:Int) then
if (gl (false:Bool) a0.1 s1.2.toNat)=true then
if (s1.1.length+([AG (s1.2+1)]:List Int).length)*8<=140737488355328 then
some (Sum.inl ((s1.1++([AG (s1.2+1)]:List Int),AG (s1.2+1))))
else none
else some (Sum.inl ((s1.1,AG (s1.2+1))))
else none
else some (Sum.inr (s1.1))) (([],0))
@[reducible] def I7:FnI:=BX [uU] [IB] fun x=>F9 x
def gK:Cx:=BL [(1,(2,1)),(18,(4,1)),(19,(5,1))] [19] [] [(0,B3 [(3,IB),(9,AQ)] [] [] (FA [(4,2),(10,11)]) [] 3)] []
theorem MB:CV 113 I7:=okW gK [.tmp 2] 22 4 (BG AM.nil BD.nil) Tryz.func113
def H4 (a0:B1) (a1:XH) (a2:(List AA)):Option (List Int):=
Option.bind (F9 a1) (fun r1=>
AJ (σ:=FV) (β:=(List Int)) (fun s1=>
if s1.2<(r1.length:Int) then
if 0<=s1.2/\s1.2<(r1.length:Int) then
if 0<=(AG ((gl (0:Int) r1 s1.2.toNat)-1))/\(AG ((gl (0:Int) r1 s1.2.toNat)-1))<(a1.2.length:Int) then
Option.bind (DG a0 a2 (gl (0#64:(BitVec 64)) a1.2 ((AG ((gl (0:Int) r1 s1.2.toNat)-1)).toNat))) (fun r2=>
if r2=true then
if (s1.1.length+([gl (0:Int) r1 s1.2.toNat]:List Int).length)*8<=140737488355328 then
some (Sum.inl ((s1.1++([gl (0:Int) r1 s1.2.toNat]:List Int),AG (s1.2+1))))
else none
else some (Sum.inl ((s1.1,AG (s1.2+1)))))
else none
else none
else some (Sum.inr (s1.1))) (([],0)))
@[reducible] def O_:FnI:=BX [DX,uU,lW] [IB] fun x=>H4 x.1 x.2.1 x.2.2
def YQ:Cx:=BL [(3,(5,1)),(4,(6,1)),(11,(7,1)),(28,(9,1)),(29,(10,1))] [29] [(113,I7),(150,H3)] [(0,B3 [(7,IB),(13,AQ)] [] [] (FA [(9,1),(14,17)]) [] 8)] []
theorem XP:CV 143 O_:=okW YQ [.tmp 6] 32 6 (BG (.cons MB (.cons J3 AM.nil)) BD.nil) Tryz.func143
def GL (a0:B1) (a1:(List AA)):Option (List Int):=
AJ (σ:=FV) (β:=(List Int)) (fun s1=>
if s1.2<(a0.2.2.length:Int) then
if 0<=s1.2/\s1.2<(a0.2.2.length:Int) then
AJ (σ:=FV) (β:=(FV ⊕ (List Int))) (fun s2=>
if s2.2<(a1.length:Int) then
if 0<=s2.2/\s2.2<(a1.length:Int) then
if ((gl ((0,0,0):AY) a0.2.2 s1.2.toNat).1)=((gl ((0,0,0,0,0):AA) a1 s2.2.toNat).1) then
if (s2.1.length+([s1.2]:List Int).length)*8<=140737488355328 then
some (Sum.inr (Sum.inl ((s2.1++([s1.2]:List Int),AG (s1.2+1)))))
else none
else some (Sum.inl ((s2.1,AG (s2.2+1))))
else none
else some (Sum.inr (Sum.inl ((s2.1,AG (s1.2+1)))))) ((s1.1,0))
else none
else some (Sum.inr (s1.1))) (([],0))
@[reducible] def K0:FnI:=BX [DX,lW] [IB] fun x=>GL x.1 x.2
def Z8:Cx:=BL [(2,(3,1)),(7,(5,1)),(9,(7,1)),(31,(8,1)),(32,(9,1))] [32] [] [(0,B3 [(5,IB),(13,AQ)] [] [] (FA [(6,2),(9,1),(14,21)]) [] 4),(2,B3 [(5,IB),(20,AQ)] [] [] (FA [(9,1),(21,13)]) [4] 6)] []
theorem PA:CV 152 K0:=okW Z8 [.tmp 4] 36 7 (BG AM.nil BD.nil) Tryz.func152
def D9 (a0:(List Int)) (a1:Int):Option Bool:=
AJ (σ:=Int) (β:=Bool) (fun s1=>
if s1<(a0.length:Int) then
if 0<=s1/\s1<(a0.length:Int) then
if (gl (0:Int) a0 s1.toNat)=a1 then
some (Sum.inr (true))
else some (Sum.inl (AG (s1+1)))
else none
else some (Sum.inr (false))) (0)
@[reducible] def PB:FnI:=BX [XJ,AQ] [GX] fun x=>D9 x.1 x.2
def l6:Cx:=BL [] [] [] [(0,B3 [(9,AQ)] [] [] [4,6,10,11,12,13,14,15,16] [] 1)] []
theorem U4:CV 156 PB:=okW l6 [.tmp 4] 17 0 (BG AM.nil BD.nil) Tryz.func156
def D3 (a0:(List Int)) (a1:Int):Option (List Int):=
AJ (σ:=Int) (β:=(List Int)) (fun s1=>
if s1<(a0.length:Int) then
if 0<=s1/\s1<(a0.length:Int) then
if (gl (0:Int) a0 s1.toNat)<a1 then
some (Sum.inl (AG (s1+1)))
else Option.map Sum.inr (if s1<(a0.length:Int) then
if 0<=s1/\s1<(a0.length:Int) then
if (gl (0:Int) a0 s1.toNat)=a1 then
some (a0)
else if Bd none (some s1) s1.toNat a0.length then
if (([]:List Int).length+(B5 a0 0 (s1.toNat-0)).length)*8<=140737488355328 then
if ((([]:List Int)++(B5 a0 0 (s1.toNat-0))).length+([a1]:List Int).length)*8<=140737488355328 then
if Bd (some s1) none a0.length a0.length then
if (((([]:List Int)++(B5 a0 0 (s1.toNat-0)))++([a1]:List Int)).length+(B5 a0 s1.toNat (a0.length-s1.toNat)).length)*8<=140737488355328 then
some (((([]:List Int)++(B5 a0 0 (s1.toNat-0)))++([a1]:List Int))++(B5 a0 s1.toNat (a0.length-s1.toNat)))
else none
else none
else none
else none
else none
else none
else if Bd none (some s1) s1.toNat a0.length then
if (([]:List Int).length+(B5 a0 0 (s1.toNat-0)).length)*8<=140737488355328 then
if ((([]:List Int)++(B5 a0 0 (s1.toNat-0))).length+([a1]:List Int).length)*8<=140737488355328 then
if Bd (some s1) none a0.length a0.length then
if (((([]:List Int)++(B5 a0 0 (s1.toNat-0)))++([a1]:List Int)).length+(B5 a0 s1.toNat (a0.length-s1.toNat)).length)*8<=140737488355328 then
some (((([]:List Int)++(B5 a0 0 (s1.toNat-0)))++([a1]:List Int))++(B5 a0 s1.toNat (a0.length-s1.toNat)))
else none
else none
else none
else none
else none)
else none
else Option.map Sum.inr (if s1<(a0.length:Int) then
if 0<=s1/\s1<(a0.length:Int) then
if (gl (0:Int) a0 s1.toNat)=a1 then
some (a0)
else if Bd none (some s1) s1.toNat a0.length then
if (([]:List Int).length+(B5 a0 0 (s1.toNat-0)).length)*8<=140737488355328 then
if ((([]:List Int)++(B5 a0 0 (s1.toNat-0))).length+([a1]:List Int).length)*8<=140737488355328 then
if Bd (some s1) none a0.length a0.length then
if (((([]:List Int)++(B5 a0 0 (s1.toNat-0)))++([a1]:List Int)).length+(B5 a0 s1.toNat (a0.length-s1.toNat)).length)*8<=140737488355328 then
some (((([]:List Int)++(B5 a0 0 (s1.toNat-0)))++([a1]:List Int))++(B5 a0 s1.toNat (a0.length-s1.toNat)))
else none
else none
else none
else none
else none
else none
else if Bd none (some s1) s1.toNat a0.length then
if (([]:List Int).length+(B5 a0 0 (s1.toNat-0)).length)*8<=140737488355328 then
if ((([]:List Int)++(B5 a0 0 (s1.toNat-0))).length+([a1]:List Int).length)*8<=140737488355328 then
if Bd (some s1) none a0.length a0.length then
if (((([]:List Int)++(B5 a0 0 (s1.toNat-0)))++([a1]:List Int)).length+(B5 a0 s1.toNat (a0.length-s1.toNat)).length)*8<=140737488355328 then
some (((([]:List Int)++(B5 a0 0 (s1.toNat-0)))++([a1]:List Int))++(B5 a0 s1.toNat (a0.length-s1.toNat)))
else none
else none
else none
else none
else none)) (0)
@[reducible] def M5:FnI:=BX [XJ,AQ] [XJ] fun x=>D3 x.1 x.2
def gL:Cx:=BL [(36,(1,1)),(37,(2,1)),(40,(3,1)),(41,(4,1)),(44,(5,1)),(45,(6,1))] [37,41] [] [(0,B3 [(5,AQ)] [] [] (FA [(7,14)]) [] 1)] []
theorem RM:CV 148 M5:=okW gL [.tmp 4] 46 6 (BG AM.nil BD.nil) Tryz.func148
def J5 (a0:(List BZ)) (a1:(List Int)):Option FV:=
AJ (σ:=((List Int)×Int×Int)) (β:=FV) (fun s1=>
if s1.2.2<(a0.length:Int) then
if 0<=s1.2.2/\s1.2.2<(a0.length:Int) then
Option.bind (D9 a1 (((gl ((0,0,[]):BZ) a0 s1.2.2.toNat).2).1)) (fun r1=>
if r1=true then
Option.bind (D9 a1 ((gl ((0,0,[]):BZ) a0 s1.2.2.toNat).1)) (fun r2=>
if (!r2)=true then
AJ (σ:=FV) (β:=(((List Int)×Int×Int) ⊕ FV)) (fun s2=>
if s2.2<((((gl ((0,0,[]):BZ) a0 s1.2.2.toNat).2).2).length:Int) then
if 0<=s2.2/\s2.2<((((gl ((0,0,[]):BZ) a0 s1.2.2.toNat).2).2).length:Int) then
Option.bind (D3 s2.1 (gl (0:Int) (((gl ((0,0,[]):BZ) a0 s1.2.2.toNat).2).2) s2.2.toNat)) (fun r3=>
some (Sum.inl ((r3,AG (s2.2+1)))))
else none
else some (Sum.inr (Sum.inl ((s2.1,AG (s1.2.1+((((gl ((0,0,[]):BZ) a0 s1.2.2.toNat).2).2).length:Int)),AG (s1.2.2+1)))))) ((s1.1,0))
else some (Sum.inl ((s1.1,s1.2.1,AG (s1.2.2+1)))))
else some (Sum.inl ((s1.1,s1.2.1,AG (s1.2.2+1)))))
else none
else some (Sum.inr ((s1.1,s1.2.1)))) (([],0,0))
@[reducible] def TM:FnI:=BX [zI,XJ] [XJ,AQ] fun x=>J5 x.1 x.2
def gM:Cx:=BL [(9,(4,1)),(17,(3,1)),(43,(6,1))] [] [(148,M5),(156,PB)] [(0,B3 [(6,XJ),(7,AQ),(14,AQ)] [] [] (FA [(9,1),(11,1),(15,31)]) [] 2),(2,B3 [(6,XJ),(37,AQ)] [] [] (FA [(11,1),(38,7)]) [] 5)] []
theorem cQ:CV 151 TM:=okW gM [.tmp 4,.tmp 5] 48 5 (BG (.cons RM (.cons U4 AM.nil)) BD.nil) Tryz.func151
def H5 (a0:B1) (a1:(List BZ)) (a2:(List AA)):Option FV:=
Option.bind (GL a0 a2) (fun r1=>
Option.bind (J5 a1 r1) (fun r2=>
AJ (σ:=FV) (β:=FV) (fun s1=>
if s1.2<(r2.1.length:Int) then
if 0<=s1.2/\s1.2<(r2.1.length:Int) then
if (gl (0:Int) r2.1 s1.2.toNat)<(a0.2.1.length:Int) then
if 0<=(gl (0:Int) r2.1 s1.2.toNat)/\(gl (0:Int) r2.1 s1.2.toNat)<(a0.2.1.length:Int) then
Option.bind (DG a0 a2 (gl (0#64:(BitVec 64)) a0.2.1 ((gl (0:Int) r2.1 s1.2.toNat).toNat))) (fun r3=>
if r3=true then
if (s1.1.length+([gl (0:Int) r2.1 s1.2.toNat]:List Int).length)*8<=140737488355328 then
some (Sum.inl ((s1.1++([gl (0:Int) r2.1 s1.2.toNat]:List Int),AG (s1.2+1))))
else none
else some (Sum.inl ((s1.1,AG (s1.2+1)))))
else none
else some (Sum.inl ((s1.1,AG (s1.2+1))))
else none
else some (Sum.inr ((s1.1,r2.2)))) (([],0))))
@[reducible] def PC:FnI:=BX [DX,zI,lW] [IB,DF] fun x=>H5 x.1 x.2.1 x.2.2
def YR:Cx:=BL [(3,(4,1)),(17,(5,1)),(18,(6,1)),(44,(8,1)),(45,(9,1))] [45] [(150,H3),(151,TM),(152,K0)] [(0,B3 [(10,IB),(23,AQ)] [] [] (FA [(12,1),(24,23)]) [] 7)] []
theorem XQ:CV 144 PC:=okW YR [.tmp 6,.tmp 7] 49 6 (BG (.cons J3 (.cons cQ (.cons PA AM.nil))) BD.nil) Tryz.func144
def J6 (a0:(List BZ)) (a1:(List Int)):Option (List BZ):=
Option.bind (D1 a0) (fun r1=>
AJ (σ:=((List BZ)×Int)) (β:=(List BZ)) (fun s1=>
if s1.2<(r1.length:Int) then
if 0<=s1.2/\s1.2<(r1.length:Int) then
Option.bind (D9 a1 ((gl ((0,0,[]):BZ) r1 s1.2.toNat).1)) (fun r2=>
if (!r2)=true then
Option.bind (D9 a1 (((gl ((0,0,[]):BZ) r1 s1.2.toNat).2).1)) (fun r3=>
if (!r3)=true then
if (s1.1.length+([((gl ((0,0,[]):BZ) r1 s1.2.toNat).1,((gl ((0,0,[]):BZ) r1 s1.2.toNat).2))]:List BZ).length)*40<=140737488355328 then
some (Sum.inl ((s1.1++([((gl ((0,0,[]):BZ) r1 s1.2.toNat).1,((gl ((0,0,[]):BZ) r1 s1.2.toNat).2))]:List BZ),AG (s1.2+1))))
else none
else some (Sum.inl ((s1.1,AG (s1.2+1)))))
else some (Sum.inl ((s1.1,AG (s1.2+1)))))
else none
else some (Sum.inr (s1.1))) (([],0)))
@[reducible] def TN:FnI:=BX [zI,XJ] [bY] fun x=>J6 x.1 x.2
def gN:Cx:=BL [(7,(5,1)),(9,(2,1)),(14,(4,1)),(29,(6,1)),(30,(7,1))] [30] [(102,I5),(156,PB)] [(0,B3 [(5,bY),(11,AQ)] [] [] (FA [(7,1),(12,20)]) [] 3)] []
theorem cR:CV 155 TN:=okW gN [.tmp 4] 33 6 (BG (.cons L9 (.cons U4 AM.nil)) BD.nil) Tryz.func155
def J7 (a0:B1) (a1:Int) (a2:(BitVec 64)):Option (Int×Int×Bool):=
if a2=(0#64) then
some ((0,0,false))
else if a2.toNat>(BitVec.ofInt 64 (a0.2.1.length:Int)).toNat then
some ((0,0,false))
else if a1<0 then
some ((0,0,false))
else if a1≥(a0.2.1.length:Int) then
some ((0,0,false))
else if True then
if True then
if 0<=(a1 / 2 ^ min (BitVec.ofInt 64 a0.1).toNat 64)/\(a1 / 2 ^ min (BitVec.ofInt 64 a0.1).toNat 64)<(a0.2.2.length:Int) then
if 0<=((AG (((a2-(1#64)).toNat:Int))) / 2 ^ min (BitVec.ofInt 64 a0.1).toNat 64)/\((AG (((a2-(1#64)).toNat:Int))) / 2 ^ min (BitVec.ofInt 64 a0.1).toNat 64)<(a0.2.2.length:Int) then
if ¬((gl ((0,0,0):AY) a0.2.2 ((a1 / 2 ^ min (BitVec.ofInt 64 a0.1).toNat 64).toNat)).1)=(-1) then
if ¬((gl ((0,0,0):AY) a0.2.2 (((AG (((a2-(1#64)).toNat:Int))) / 2 ^ min (BitVec.ofInt 64 a0.1).toNat 64).toNat)).1)=(-1) then
some ((a1 / 2 ^ min (BitVec.ofInt 64 a0.1).toNat 64,(AG (((a2-(1#64)).toNat:Int))) / 2 ^ min (BitVec.ofInt 64 a0.1).toNat 64,decide ((((gl ((0,0,0):AY) a0.2.2 ((a1 / 2 ^ min (BitVec.ofInt 64 a0.1).toNat 64).toNat)).2).1)>(((gl ((0,0,0):AY) a0.2.2 (((AG (((a2-(1#64)).toNat:Int))) / 2 ^ min (BitVec.ofInt 64 a0.1).toNat 64).toNat)).2).1))))
else some ((a1 / 2 ^ min (BitVec.ofInt 64 a0.1).toNat 64,(AG (((a2-(1#64)).toNat:Int))) / 2 ^ min (BitVec.ofInt 64 a0.1).toNat 64,false))
else some ((a1 / 2 ^ min (BitVec.ofInt 64 a0.1).toNat 64,(AG (((a2-(1#64)).toNat:Int))) / 2 ^ min (BitVec.ofInt 64 a0.1).toNat 64,false))
else none
else none
else none
else none
@[reducible] def TO:FnI:=BX [DX,AQ,oC] [DF,DF,GX] fun x=>J7 x.1 x.2.1 x.2.2
def gO:Cx:=BL [(3,(2,1)),(11,(3,1)),(12,(4,1))] [] [] [] []
theorem cS:CV 136 TO:=okW gO [.tmp 6,.tmp 7,.tmp 8] 73 3 (BG AM.nil BD.nil) Tryz.func136
def E9 (a0:BZ) (a1:BZ):Option Bool:=
if a0.1<a1.1 then
some (true)
else if a0.1=a1.1 then
some (decide (a0.2.1<a1.2.1))
else some (false)
@[reducible] def P2:FnI:=BX [⟨AQD,true,false,false⟩,⟨AQD,true,false,false⟩] [GX] fun x=>E9 x.1 x.2
def Z9:Cx:=BL [(2,(2,1)),(3,(3,1))] [] [] [] []
theorem YS:CV 147 P2:=okW Z9 [.tmp 4] 24 2 (BG AM.nil BD.nil) Tryz.func147
def IK (a0:(List BZ)) (a1:Int) (a2:Int) (a3:Int):Option (List BZ):=
AJ (σ:=Int) (β:=(List BZ)) (fun s1=>
if s1<(a0.length:Int) then
if 0<=s1/\s1<(a0.length:Int) then
Option.bind (E9 ((gl ((0,0,[]):BZ) a0 s1.toNat).1,((gl ((0,0,[]):BZ) a0 s1.toNat).2)) (a1,a2,[])) (fun r1=>
if r1=true then
some (Sum.inl (AG (s1+1)))
else Option.map Sum.inr (Option.bind (D1 a0) (fun r2=>
if s1<(a0.length:Int) then
if 0<=s1/\s1<(a0.length:Int) then
Option.bind (E9 (a1,a2,[]) ((gl ((0,0,[]):BZ) a0 s1.toNat).1,((gl ((0,0,[]):BZ) a0 s1.toNat).2))) (fun r3=>
if (!r3)=true then
if 0<=s1/\s1<(a0.length:Int) then
Option.bind (D3 (((gl ((0,0,[]):BZ) a0 s1.toNat).2).2) a3) (fun r4=>
if 0<=s1/\s1<(r2.length:Int) then
some (r2.set s1.toNat ((gl ((0,0,[]):BZ) r2 s1.toNat).1,((gl ((0,0,[]):BZ) r2 s1.toNat).2).1,r4))
else none)
else none
else if Bd (some s1) none r2.length r2.length then
if (([]:List BZ).length+(B5 r2 s1.toNat (r2.length-s1.toNat)).length)*40<=140737488355328 then
if Bd none (some s1) s1.toNat r2.length then
if ((B5 r2 0 (s1.toNat-0)).length+([(a1,a2,([a3]:List Int))]:List BZ).length)*40<=140737488355328 then
if (((B5 r2 0 (s1.toNat-0))++([(a1,a2,([a3]:List Int))]:List BZ)).length+(([]:List BZ)++(B5 r2 s1.toNat (r2.length-s1.toNat))).length)*40<=140737488355328 then
some (((B5 r2 0 (s1.toNat-0))++([(a1,a2,([a3]:List Int))]:List BZ))++(([]:List BZ)++(B5 r2 s1.toNat (r2.length-s1.toNat))))
else none
else none
else none
else none
else none)
else none
else if Bd (some s1) none r2.length r2.length then
if (([]:List BZ).length+(B5 r2 s1.toNat (r2.length-s1.toNat)).length)*40<=140737488355328 then
if Bd none (some s1) s1.toNat r2.length then
if ((B5 r2 0 (s1.toNat-0)).length+([(a1,a2,([a3]:List Int))]:List BZ).length)*40<=140737488355328 then
if (((B5 r2 0 (s1.toNat-0))++([(a1,a2,([a3]:List Int))]:List BZ)).length+(([]:List BZ)++(B5 r2 s1.toNat (r2.length-s1.toNat))).length)*40<=140737488355328 then
some (((B5 r2 0 (s1.toNat-0))++([(a1,a2,([a3]:List Int))]:List BZ))++(([]:List BZ)++(B5 r2 s1.toNat (r2.length-s1.toNat))))
else none
else none
else none
else none
else none)))
else none
else Option.map Sum.inr (Option.bind (D1 a0) (fun r5=>
if s1<(a0.length:Int) then
if 0<=s1/\s1<(a0.length:Int) then
Option.bind (E9 (a1,a2,[]) ((gl ((0,0,[]):BZ) a0 s1.toNat).1,((gl ((0,0,[]):BZ) a0 s1.toNat).2))) (fun r6=>
if (!r6)=true then
if 0<=s1/\s1<(a0.length:Int) then
Option.bind (D3 (((gl ((0,0,[]):BZ) a0 s1.toNat).2).2) a3) (fun r7=>
if 0<=s1/\s1<(r5.length:Int) then
some (r5.set s1.toNat ((gl ((0,0,[]):BZ) r5 s1.toNat).1,((gl ((0,0,[]):BZ) r5 s1.toNat).2).1,r7))
else none)
else none
else if Bd (some s1) none r5.length r5.length then
if (([]:List BZ).length+(B5 r5 s1.toNat (r5.length-s1.toNat)).length)*40<=140737488355328 then
if Bd none (some s1) s1.toNat r5.length then
if ((B5 r5 0 (s1.toNat-0)).length+([(a1,a2,([a3]:List Int))]:List BZ).length)*40<=140737488355328 then
if (((B5 r5 0 (s1.toNat-0))++([(a1,a2,([a3]:List Int))]:List BZ)).length+(([]:List BZ)++(B5 r5 s1.toNat (r5.length-s1.toNat))).length)*40<=140737488355328 then
some (((B5 r5 0 (s1.toNat-0))++([(a1,a2,([a3]:List Int))]:List BZ))++(([]:List BZ)++(B5 r5 s1.toNat (r5.length-s1.toNat))))
else none
else none
else none
else none
else none)
else none
else if Bd (some s1) none r5.length r5.length then
if (([]:List BZ).length+(B5 r5 s1.toNat (r5.length-s1.toNat)).length)*40<=140737488355328 then
if Bd none (some s1) s1.toNat r5.length then
if ((B5 r5 0 (s1.toNat-0)).length+([(a1,a2,([a3]:List Int))]:List BZ).length)*40<=140737488355328 then
if (((B5 r5 0 (s1.toNat-0))++([(a1,a2,([a3]:List Int))]:List BZ)).length+(([]:List BZ)++(B5 r5 s1.toNat (r5.length-s1.toNat))).length)*40<=140737488355328 then
some (((B5 r5 0 (s1.toNat-0))++([(a1,a2,([a3]:List Int))]:List BZ))++(([]:List BZ)++(B5 r5 s1.toNat (r5.length-s1.toNat))))
else none
else none
else none
else none
else none))) (0)
@[reducible] def U5:FnI:=BX [zI,AQ,AQ,AQ] [bY] fun x=>IK x.1 x.2.1 x.2.2.1 x.2.2.2
def jZ:Cx:=BL [(9,(1,1)),(24,(2,1)),(31,(3,1)),(41,(4,1)),(51,(5,1)),(53,(6,1)),(58,(7,1)),(63,(8,1)),(68,(9,1)),(69,(10,1)),(71,(11,1))] [69,71] [(102,I5),(147,P2),(148,M5)] [(0,B3 [(10,AQ)] [] [] (FA [(16,14)]) [] 2)] []
theorem gP:CV 137 U5:=okW jZ [.tmp 8] 72 11 (BG (.cons L9 (.cons YS (.cons RM AM.nil))) BD.nil) Tryz.func137
def CR (a0:B1) (a1:(List BZ)) (a2:Int) (a3:(BitVec 64)):Option ((List BZ)×NP×(List AY)):=
Option.bind (J7 a0 a2 a3) (fun r1=>
if (!r1.2.2)=true then
some ((a1,a0.2.1,a0.2.2))
else Option.bind (IK a1 r1.1 r1.2.1 a2) (fun r2=>
some ((r2,a0.2.1,a0.2.2))))
@[reducible] def M6:FnI:={ ps:=[ZL,bY,AQ,oC],rs:=[bY],os:=[ZK,uT],bk:=[0,1],F:=fun x=>CR x.1 x.2.1 x.2.2.1 x.2.2.2 }
def gQ:Cx:=BL [(4,(3,1)),(27,(4,1))] [] [(136,TO),(137,U5)] [] []
theorem RN:CV 125 M6:=okW gQ [.tmp 8] 28 2 (BG (.cons cS (.cons gP AM.nil)) BD.nil) Tryz.func125
def G9 (a0:B1) (a1:(List BZ)) (a2:(List AA)) (a3:(List Int)) (a4:(List (Int×Int))):Option ((List BZ)×NP×(List AY)):=
Option.bind (GL a0 a2) (fun r1=>
Option.bind (J6 a1 r1) (fun r2=>
AJ (σ:=((List BZ)×Int×NP×(List AY))) (β:=((List BZ)×NP×(List AY))) (fun s1=>
if s1.2.1<(a3.length:Int) then
if 0<=s1.2.1/\s1.2.1<(a3.length:Int) then
if 0<=(gl (0:Int) a3 s1.2.1.toNat)/\(gl (0:Int) a3 s1.2.1.toNat)<(s1.2.2.1.length:Int) then
Option.bind (CR (a0.1,s1.2.2) s1.1 (gl (0:Int) a3 s1.2.1.toNat) (gl (0#64:(BitVec 64)) s1.2.2.1 ((gl (0:Int) a3 s1.2.1.toNat).toNat))) (fun r3=>
some (Sum.inl ((r3.1,AG (s1.2.1+1),r3.2.1,r3.2.2))))
else none
else none
else Option.map Sum.inr (AJ (σ:=((List BZ)×Int×NP×(List AY))) (β:=((List BZ)×NP×(List AY))) (fun s2=>
if s2.2.1<(a4.length:Int) then
if 0<=s2.2.1/\s2.2.1<(a4.length:Int) then
Option.bind (CL (a0.1,s2.2.2) ((gl ((0,0):(Int×Int)) a4 s2.2.1.toNat).2)) (fun r4=>
AJ (σ:=((List BZ)×Int×NP×(List AY))) (β:=(((List BZ)×Int×NP×(List AY)) ⊕ ((List BZ)×NP×(List AY)))) (fun s3=>
if s3.2.1<(r4.1.length:Int) then
if 0<=s3.2.1/\s3.2.1<(r4.1.length:Int) then
if 0<=(gl (0:Int) r4.1 s3.2.1.toNat)/\(gl (0:Int) r4.1 s3.2.1.toNat)<(s3.2.2.1.length:Int) then
Option.bind (CR (a0.1,s3.2.2) s3.1 (gl (0:Int) r4.1 s3.2.1.toNat) (gl (0#64:(BitVec 64)) s3.2.2.1 ((gl (0:Int) r4.1 s3.2.1.toNat).toNat))) (fun r5=>
some (Sum.inl ((r5.1,AG (s3.2.1+1),r5.2.1,r5.2.2))))
else none
else none
else some (Sum.inr (Sum.inl ((s3.1,AG (s2.2.1+1),s3.2.2.1,s3.2.2.2))))) ((s2.1,0,s2.2.2.1,s2.2.2.2)))
else none
else some (Sum.inr ((s2.1,s2.2.2.1,s2.2.2.2)))) ((s1.1,0,s1.2.2.1,s1.2.2.2)))) ((r2,0,a0.2.1,a0.2.2))))
@[reducible] def RO:FnI:={ ps:=[ZL,zI,lW,XJ,⟨(.slice AK5),false,false,false⟩],rs:=[bY],os:=[ZK,uT],bk:=[0,1],F:=fun x=>G9 x.1 x.2.1 x.2.2.1 x.2.2.2.1 x.2.2.2.2 }
def cT:Cx:=BL [(5,(6,1)),(15,(12,1)),(23,(7,1)),(24,(8,1)),(39,(10,1)),(51,(13,1)),(68,(15,1))] [] [(125,M6),(152,K0),(154,KZ),(155,TN)] [(0,B3 [(11,bY),(27,AQ)] [] [(0,.u64),(1,iN)] (FA [(13,1),(28,13)]) [8] 9),(2,B3 [(11,bY),(43,AQ)] [] [(0,.u64),(1,iN)] (FA [(15,3),(19,1),(44,27)]) [9] 11),(4,B3 [(11,bY),(56,AQ)] [] [(0,.u64),(1,iN)] (FA [(19,1),(57,13)]) [11] 14)] []
theorem Z_:CV 146 RO:=okW cT [.tmp 10] 72 10 (BG (.cons RN (.cons PA (.cons O9 (.cons cR AM.nil)))) BD.nil) Tryz.func146
def C1 (a0:ED) (a1:Int):Option (ED×Int):=
Option.bind (D0 a0) (fun r1=>
AJ (σ:=(Int×ED)) (β:=(ED×Int)) (fun s1=>
if s1.1<(r1.length:Int) then
if 0<=s1.1/\s1.1<(s1.2.length:Int) then
AJ (σ:=Int) (β:=((Int×ED) ⊕ (ED×Int))) (fun s2=>
if s2<((s1.2.getD s1.1.toNat []).length:Int) then
if 0<=s2/\s2<((s1.2.getD s1.1.toNat []).length:Int) then
if ((gl ((0,0,0,0,0):AA) (s1.2.getD s1.1.toNat []) s2.toNat).1)=a1 then
if Bd none (some s2) s2.toNat ((s1.2.getD s1.1.toNat []).length) then
if Bd (some (AG (s2+1))) none ((s1.2.getD s1.1.toNat []).length) ((s1.2.getD s1.1.toNat []).length) then
if ((B5 (s1.2.getD s1.1.toNat []) 0 (s2.toNat-0)).length+(B5 (s1.2.getD s1.1.toNat []) ((AG (s2+1)).toNat) (((s1.2.getD s1.1.toNat []).length)-((AG (s2+1)).toNat))).length)*40<=140737488355328 then
if 0<=s1.1/\s1.1<(s1.2.length:Int) then
if s1.1.toNat=s1.1.toNat then
some (Sum.inr (Sum.inr ((s1.2.set s1.1.toNat ((B5 (s1.2.getD s1.1.toNat []) 0 (s2.toNat-0))++(B5 (s1.2.getD s1.1.toNat []) ((AG (s2+1)).toNat) (((s1.2.getD s1.1.toNat []).length)-((AG (s2+1)).toNat)))),0))))
else none
else none
else none
else none
else none
else some (Sum.inl (AG (s2+1)))
else none
else some (Sum.inr (Sum.inl ((AG (s1.1+1),s1.2.set s1.1.toNat (s1.2.getD s1.1.toNat [])))))) (0)
else none
else some (Sum.inr (([],5)))) ((0,r1)))
@[reducible] def K1:FnI:=BX [KL,AQ] [AEO,DF] fun x=>C1 x.1 x.2
def aA:Cx:=BL [(10,(3,1)),(12,(1,1)),(19,(2,1)),(40,(4,1))] [40] [(34,G8)] [(0,B3 [(15,AQ)] [] [(1,zG)] (FA [(4,2),(7,4),(16,29)]) [] 2),(2,B3 [(22,AQ)] [] [] (FA [(4,2),(9,2),(23,21)]) [] 3)] []
theorem PD:CV 18 K1:=okW aA [.tmp 4,.tmp 5] 45 4 (BG (.cons IJ AM.nil) BD.nil) Tryz.func18
def C9 (a0:ED) (a1:AA):Option (ED×Int):=
if a1.2.1<0 then
some (([],1))
else if a1.2.1≥(a0.length:Int) then
some (([],1))
else Option.bind (D0 a0) (fun r1=>
if 0<=a1.2.1/\a1.2.1<(r1.length:Int) then
AJ (σ:=Int) (β:=(ED×Int)) (fun s1=>
if s1<((r1.getD a1.2.1.toNat []).length:Int) then
if 0<=s1/\s1<((r1.getD a1.2.1.toNat []).length:Int) then
if ((gl ((0,0,0,0,0):AA) (r1.getD a1.2.1.toNat []) s1.toNat).1)=a1.1 then
if 0<=a1.2.1/\a1.2.1<(r1.length:Int) then
if a1.2.1.toNat=a1.2.1.toNat then
if 0<=s1/\s1<((r1.getD a1.2.1.toNat []).length:Int) then
some (Sum.inr ((r1.set a1.2.1.toNat ((r1.getD a1.2.1.toNat []).set s1.toNat a1),0)))
else none
else none
else none
else some (Sum.inl (AG (s1+1)))
else none
else some (Sum.inr (([],5)))) (0)
else none)
@[reducible] def J8:FnI:={ ps:=[KL,S_],rs:=[AEO,DF],os:=[],bk:=[],cl:=[(2,zF)],F:=fun x=>C9 x.1 x.2 }
def YT:Cx:=BL [(3,(1,1)),(8,(4,1)),(20,(2,1)),(25,(3,1))] [] [(34,G8)] [(0,B3 [(27,AQ)] [] [] (FA [(4,2),(7,2),(28,19)]) [] 4)] []
theorem OH:CV 120 J8:=okW YT [.tmp 4,.tmp 5] 47 4 (BG (.cons IJ AM.nil) BD.nil) Tryz.func120
def FF (a0:ED) (a1:AA):Option (ED×Int):=
if a1.2.1<0 then
some (([],1))
else if a1.2.1≥(a0.length:Int) then
some (([],1))
else Option.bind (B0 a0 a1.2.1) (fun r1=>
if r1.2=true then
if r1.1.1≥a1.1 then
some (([],5))
else Option.bind (D0 a0) (fun r2=>
if 0<=a1.2.1/\a1.2.1<(r2.length:Int) then
if ((r2.getD a1.2.1.toNat []).length+([a1]:List AA).length)*40<=140737488355328 then
if 0<=a1.2.1/\a1.2.1<(r2.length:Int) then
if a1.2.1.toNat=a1.2.1.toNat then
some ((r2.set a1.2.1.toNat ((r2.getD a1.2.1.toNat [])++([a1]:List AA)),0))
else none
else none
else none
else none)
else Option.bind (D0 a0) (fun r3=>
if 0<=a1.2.1/\a1.2.1<(r3.length:Int) then
if ((r3.getD a1.2.1.toNat []).length+([a1]:List AA).length)*40<=140737488355328 then
if 0<=a1.2.1/\a1.2.1<(r3.length:Int) then
if a1.2.1.toNat=a1.2.1.toNat then
some ((r3.set a1.2.1.toNat ((r3.getD a1.2.1.toNat [])++([a1]:List AA)),0))
else none
else none
else none
else none))
@[reducible] def N6:FnI:=BX [KL,S_] [AEO,DF] fun x=>FF x.1 x.2
def j6:Cx:=BL [(3,(1,1)),(6,(2,1)),(35,(3,1)),(43,(4,1)),(45,(5,1)),(46,(6,1))] [46] [(34,G8),(63,E8)] [] []
theorem TP:CV 119 N6:=okW j6 [.tmp 4,.tmp 5] 49 6 (BG (.cons IJ (.cons GF AM.nil)) BD.nil) Tryz.func119
def CC (a0:C7) (a1:(List AA)):Option (C7×PV×Int):=
Option.bind (GK a0 a1) (fun r1=>
if ¬r1.2=0 then
some (((((⟨#[]⟩:ByteArray),[],0),(0,[],[]),[],0,[],([],[]),0,(0,0,0,0,0,0,0,0,0),false),(0,0,0,0),r1.2))
else AJ (σ:=(Int×Int×PV)) (β:=(C7×PV×Int)) (fun s1=>
if s1.2.1<(a1.length:Int) then
if 0<=s1.2.1/\s1.2.1<(a1.length:Int) then
Option.bind (BH a0.2.1 ((gl ((0,0,0,0,0):AA) a1 s1.2.1.toNat).1,((gl ((0,0,0,0,0):AA) a1 s1.2.1.toNat).2).1,(((gl ((0,0,0,0,0):AA) a1 s1.2.1.toNat).2).2).1,((((gl ((0,0,0,0,0):AA) a1 s1.2.1.toNat).2).2).2))) (fun r2=>
some (Sum.inl ((AG (s1.1+r2),AG (s1.2.1+1),(AG (s1.2.2.1+(((((gl ((0,0,0,0,0):AA) a1 s1.2.1.toNat).2).2).2).2)),s1.2.2.2)))))
else none
else Option.map Sum.inr (Option.bind (C4 a0.2.1) (fun r3=>
if s1.1>(r3.length:Int) then
some (((((⟨#[]⟩:ByteArray),[],0),(0,[],[]),[],0,[],([],[]),0,(0,0,0,0,0,0,0,0,0),false),(0,0,0,0),4))
else Option.bind (BR a0) (fun r4=>
Option.bind (H4 a0.2.1 a0.2.2.2.2.2.1 a1) (fun r5=>
Option.bind (H5 a0.2.1 a0.2.2.2.2.1 a1) (fun r6=>
AJ (σ:=(NP×Int)) (β:=(C7×PV×Int)) (fun s2=>
if s2.2<(r5.length:Int) then
if 0<=s2.2/\s2.2<(r5.length:Int) then
if 0<=(AG ((gl (0:Int) r5 s2.2.toNat)-1))/\(AG ((gl (0:Int) r5 s2.2.toNat)-1))<(a0.2.2.2.2.2.1.2.length:Int) then
if (s2.1.length+([gl (0#64:(BitVec 64)) a0.2.2.2.2.2.1.2 ((AG ((gl (0:Int) r5 s2.2.toNat)-1)).toNat)]:List (BitVec 64)).length)*8<=140737488355328 then
some (Sum.inl ((s2.1++([gl (0#64:(BitVec 64)) a0.2.2.2.2.2.1.2 ((AG ((gl (0:Int) r5 s2.2.toNat)-1)).toNat)]:List (BitVec 64)),AG (s2.2+1))))
else none
else none
else none
else Option.map Sum.inr (AJ (σ:=(NP×Int)) (β:=(C7×PV×Int)) (fun s3=>
if s3.2<(r6.1.length:Int) then
if 0<=s3.2/\s3.2<(r6.1.length:Int) then
if 0<=(gl (0:Int) r6.1 s3.2.toNat)/\(gl (0:Int) r6.1 s3.2.toNat)<(a0.2.1.2.1.length:Int) then
if (s3.1.length+([gl (0#64:(BitVec 64)) a0.2.1.2.1 ((gl (0:Int) r6.1 s3.2.toNat).toNat)]:List (BitVec 64)).length)*8<=140737488355328 then
some (Sum.inl ((s3.1++([gl (0#64:(BitVec 64)) a0.2.1.2.1 ((gl (0:Int) r6.1 s3.2.toNat).toNat)]:List (BitVec 64)),AG (s3.2+1))))
else none
else none
else none
else Option.map Sum.inr (Option.bind (LD r4.2.1 a1 r1.1 s3.1) (fun r7=>
if ¬r7.2.2.2.1=0 then
some (((((⟨#[]⟩:ByteArray),[],0),(0,[],[]),[],0,[],([],[]),0,(0,0,0,0,0,0,0,0,0),false),(0,0,0,0),r7.2.2.2.1))
else AJ (σ:=(Int×NP)) (β:=(C7×PV×Int)) (fun s4=>
if s4.1<(r5.length:Int) then
if 0<=s4.1/\s4.1<(r5.length:Int) then
if 0<=s4.1/\s4.1<(r7.2.2.1.length:Int) then
if 0<=(AG ((gl (0:Int) r5 s4.1.toNat)-1))/\(AG ((gl (0:Int) r5 s4.1.toNat)-1))<(s4.2.length:Int) then
some (Sum.inl ((AG (s4.1+1),s4.2.set ((AG ((gl (0:Int) r5 s4.1.toNat)-1)).toNat) (gl (0#64:(BitVec 64)) r7.2.2.1 s4.1.toNat))))
else none
else none
else none
else Option.map Sum.inr (AJ (σ:=(Int×NP)) (β:=(C7×PV×Int)) (fun s5=>
if s5.1<(r6.1.length:Int) then
if 0<=s5.1/\s5.1<(r6.1.length:Int) then
if 0<=(AG ((r5.length:Int)+s5.1))/\(AG ((r5.length:Int)+s5.1))<(r7.2.2.1.length:Int) then
if 0<=(gl (0:Int) r6.1 s5.1.toNat)/\(gl (0:Int) r6.1 s5.1.toNat)<(s5.2.length:Int) then
some (Sum.inl ((AG (s5.1+1),s5.2.set ((gl (0:Int) r6.1 s5.1.toNat).toNat) (gl (0#64:(BitVec 64)) r7.2.2.1 ((AG ((r5.length:Int)+s5.1)).toNat)))))
else none
else none
else none
else Option.map Sum.inr (Option.bind (G9 (r4.2.1.1,s5.2,r7.2.2.2.2.2.1) r4.2.2.2.2.1 r7.2.2.2.2.2.2 r6.1 r7.2.1) (fun r8=>
AJ (σ:=(Int×C7)) (β:=(C7×PV×Int)) (fun s6=>
if s6.1<(r7.2.2.2.2.2.2.length:Int) then
if 0<=s6.1/\s6.1<(r7.2.2.2.2.2.2.length:Int) then
Option.bind (C1 s6.2.2.2.1 ((gl ((0,0,0,0,0):AA) r7.2.2.2.2.2.2 s6.1.toNat).1)) (fun r9=>
Option.bind (FM s6.2.2.1 ((gl ((0,0,0,0,0):AA) r7.2.2.2.2.2.2 s6.1.toNat).1)) (fun JQ=>
some (Sum.inl ((AG (s6.1+1),(s6.2.1,(s6.2.2.1.1,JQ.2),r9.1,s6.2.2.2.2))))))
else none
else Option.map Sum.inr (Option.bind (α:=C7 ⊕ (C7×PV×Int)) (if r1.1.2.2.2.2>0 then
Option.bind (C9 s6.2.2.2.1 r7.1) (fun U2=>
some (Sum.inl ((s6.2.1,s6.2.2.1,U2.1,s6.2.2.2.2))))
else if r7.1.2.2.2.2>0 then
Option.bind (FF s6.2.2.2.1 r7.1) (fun NX=>
some (Sum.inl ((s6.2.1,s6.2.2.1,NX.1,AG (s6.2.2.2.2.1+1),s6.2.2.2.2.2))))
else some (Sum.inl (s6.2))) (fun q=>match q with
|Sum.inl j1=>(Option.bind (F9 a0.2.2.2.2.2.1) (fun QV=>
some (((j1.1,j1.2.1,j1.2.2.1,j1.2.2.2.1,j1.2.2.2.2.1,j1.2.2.2.2.2.1,j1.2.2.2.2.2.2.1,(j1.2.2.2.2.2.2.2.1.1,j1.2.2.2.2.2.2.2.1.2.1,j1.2.2.2.2.2.2.2.1.2.2.1,AG (j1.2.2.2.2.2.2.2.1.2.2.2.1+1),j1.2.2.2.2.2.2.2.1.2.2.2.2.1,AG (j1.2.2.2.2.2.2.2.1.2.2.2.2.2.1+s1.2.2.1),AG (j1.2.2.2.2.2.2.2.1.2.2.2.2.2.2.1+(AG (r7.1.2.2.2.2-r1.1.2.2.2.2))),AG (j1.2.2.2.2.2.2.2.1.2.2.2.2.2.2.2.1+r6.2),AG (j1.2.2.2.2.2.2.2.1.2.2.2.2.2.2.2.2+(AG ((AG ((QV.length:Int)+r6.2))+(AG ((2:Int)*(AG (r7.1.2.2.2.2-r1.1.2.2.2.2)))))))),j1.2.2.2.2.2.2.2.2),(s1.2.2.1,AG (r7.1.2.2.2.2-r1.1.2.2.2.2),r6.2,AG ((AG ((QV.length:Int)+r6.2))+(AG ((2:Int)*(AG (r7.1.2.2.2.2-r1.1.2.2.2.2)))))),0))))
|Sum.inr b1=>some b1))) ((0,(r4.1,(r4.2.1.1,r8.2),r4.2.2.1,r4.2.2.2.1,r8.1,(r4.2.2.2.2.2.1.1,s4.2),r4.2.2.2.2.2.2)))))) ((0,r7.2.2.2.2.1)))) ((0,r4.2.2.2.2.2.1.2))))) ((s2.1,0)))) (([],0)))))))) ((0,0,(0,0,0,0))))
@[reducible] def CQ:FnI:=BX [HW,bZ] [WA,⟨AK6,true,true,false⟩,DF] fun x=>CC x.1 x.2
def l7:Cx:=BL [(2,(8,1)),(4,(9,1)),(5,(10,1)),(7,(11,1)),(10,(12,1)),(12,(13,1)),(13,(22,1)),(22,(33,1)),(29,(35,1)),(63,(14,1)),(69,(15,7)),(75,(23,1)),(82,(24,1)),(99,(26,1)),(100,(27,1)),(115,(29,1)),(116,(30,1)),(124,(31,2)),(179,(34,1)),(192,(36,1)),(209,(44,1)),(220,(45,1)),(238,(53,1))] [100,116] [(16,CU),(17,FL),(18,K1),(65,L5),(76,DQ),(113,I7),(119,N6),(120,J8),(142,P1),(143,O_),(144,PC),(145,U3),(146,RO)] [(0,B3 [(9,AQ),(43,AQ)] [(12,zJ)] [] (FA [(12,1),(44,16)]) [] 13),(2,B3 [(17,ZK),(87,AQ)] [] [] (FA [(19,1),(88,14)]) [] 25),(4,B3 [(17,ZK),(104,AQ)] [] [] (FA [(21,1),(105,13)]) [25] 28),(6,B3 [(136,AQ)] [] [(21,.u64)] (FA [(24,2),(137,15)]) [] 34),(8,B3 [(154,AQ)] [] [(16,.u64)] (FA [(26,2),(155,17)]) [] 34),(10,{ live:=[(183,AQ)],boxes:=[(22,WA)],rows:=[],dead:=FA [(29,1),(184,18)],lost:=[15,16,17,18,34,20,21],base:=37,pins:=[(37,15,22),(38,16,22),(39,17,22),(41,34,22),(42,20,22),(43,21,22)] })] [(53,{ live:=[],boxes:=[(22,WA)],rows:=[],dead:=FA [(202,26)],lost:=[40,15,16,17,34,20,21],base:=46,pins:=[(46,15,22),(47,16,22),(48,17,22),(50,34,22),(51,20,22),(52,21,22)] })]
theorem j7:CV 133 CQ:=okW l7 [.cell 4 43,.cell 5 204,.tmp 6] 287 46 (BG (.cons C0 (.cons GI (.cons PD (.cons PX (.cons D2 (.cons MB (.cons TP (.cons OH (.cons YP (.cons XP (.cons XQ (.cons gC (.cons Z_ AM.nil))))))))))))) BD.nil) Tryz.func133
def CJ (a0:GP):Option Bool:=
Option.bind (C_ a0) (fun r1=>
if r1=0 then
if 0<=(AG ((a0.2.1.length:Int)-1))/\(AG ((a0.2.1.length:Int)-1))<(a0.2.1.length:Int) then
some (decide (D5 ((gl ((0,0,0,0):AU) a0.2.1 ((AG ((a0.2.1.length:Int)-1)).toNat)).1) 0=some .eq))
else none
else some (false))
@[reducible] def JP:FnI:=BX [UX] [GX] fun x=>CJ x
def XR:Cx:=BL [(1,(1,1))] [] [(30,E3)] [] []
theorem NR:CV 115 JP:=okW XR [.tmp 2] 18 1 (BG (.cons FZ AM.nil) BD.nil) Tryz.func115
def F3 (a0:B1) (a1:ED):Option Int:=
AJ (σ:=(Int×Int)) (β:=Int) (fun s1=>
if s1.2<(a1.length:Int) then
if 0<=s1.2/\s1.2<(a1.length:Int) then
AJ (σ:=(Int×Int)) (β:=((Int×Int) ⊕ Int)) (fun s2=>
if s2.2<((gl ([]:(List AA)) a1 s1.2.toNat).length:Int) then
if 0<=s2.2/\s2.2<((gl ([]:(List AA)) a1 s1.2.toNat).length:Int) then
Option.bind (BH a0 ((gl ((0,0,0,0,0):AA) (gl ([]:(List AA)) a1 s1.2.toNat) s2.2.toNat).1,((gl ((0,0,0,0,0):AA) (gl ([]:(List AA)) a1 s1.2.toNat) s2.2.toNat).2).1,(((gl ((0,0,0,0,0):AA) (gl ([]:(List AA)) a1 s1.2.toNat) s2.2.toNat).2).2).1,((((gl ((0,0,0,0,0):AA) (gl ([]:(List AA)) a1 s1.2.toNat) s2.2.toNat).2).2).2))) (fun r1=>
some (Sum.inl ((if r1>s2.1 then r1 else s2.1,AG (s2.2+1)))))
else none
else some (Sum.inr (Sum.inl ((s2.1,AG (s1.2+1)))))) ((s1.1,0))
else none
else some (Sum.inr (s1.1))) ((0,0))
@[reducible] def PE:FnI:=BX [DX,KL] [DF] fun x=>F3 x.1 x.2
def YU:Cx:=BL [(2,(3,1)),(9,(5,1)),(15,(4,1))] [] [(16,CU)] [(0,B3 [(5,AQ),(12,AQ)] [] [] (FA [(7,1),(9,1),(13,16)]) [] 4),(2,B3 [(5,AQ),(18,AQ)] [] [] (FA [(9,1),(19,9)]) [] 5)] []
theorem XS:CV 141 PE:=okW YU [.tmp 4] 30 3 (BG (.cons C0 AM.nil) BD.nil) Tryz.func141
def B4 (a0:GP) (a1:B1) (a2:ED) (a3:AA) (a4:Int):Option Bool:=
Option.bind (G6 a1 a3 a4) (fun r1=>
if r1=0 then
some (true)
else Option.bind (J1 a1) (fun r2=>
if (AG (r2+r1))>(a1.2.2.length:Int) then
some (false)
else Option.bind (CJ a0) (fun r3=>
if r3=true then
some (decide ((AG ((2:Int)*(AG (r2+r1))))<=(a1.2.2.length:Int)))
else Option.bind (F3 a1 a2) (fun r4=>
Option.bind (BH a1 a3) (fun r5=>
some (decide ((AG ((a1.2.2.length:Int)-(AG (r2+r1))))≥(if (AG (r5+r1))>r4 then AG (r5+r1) else r4))))))))
@[reducible] def P3:FnI:=BX [UX,DX,KL,S_,AQ] [GX] fun x=>B4 x.1 x.2.1 x.2.2.1 x.2.2.2.1 x.2.2.2.2
def aB:Cx:=BL [(5,(4,1)),(6,(5,1)),(8,(6,1))] [] [(16,CU),(115,JP),(130,L3),(140,TF),(141,PE)] [] []
theorem YV:CV 128 P3:=okW aB [.tmp 10] 49 3 (BG (.cons C0 (.cons NR (.cons PW (.cons cG (.cons XS AM.nil))))) BD.nil) Tryz.func128
def B2 (a0:GP) (a1:B1) (a2:ED) (a3:Int) (a4:Int):Option (Int×AA):=
Option.bind (FE a0 0 (a1.2.2.length:Int)) (fun r1=>
Option.bind (B0 a2 0) (fun r2=>
if r2.2=true then
Option.bind (H0 a1 r2.1 r1.1) (fun r3=>
if r3=true then
Option.bind (B4 a0 a1 a2 r2.1 a4) (fun r4=>
if (!r4)=true then
some ((3,(0,0,0,0,0)))
else some ((1,r2.1)))
else if 0<=(0:Int)/\(0:Int)<(a0.2.1.length:Int) then
if ¬(((gl ((0,0,0,0):AU) a0.2.1 ((0:Int).toNat)).2).1)=0 then
if 0<=(0:Int)/\(0:Int)<(a2.length:Int) then
if ((gl ([]:(List AA)) a2 ((0:Int).toNat)).length:Int)≥(((gl ((0,0,0,0):AU) a0.2.1 ((0:Int).toNat)).2).1) then
some ((3,(0,0,0,0,0)))
else Option.bind (B4 a0 a1 a2 (a3,0,(-1),(-1),0) a4) (fun r5=>
if (!r5)=true then
some ((3,(0,0,0,0,0)))
else some ((2,(a3,0,(-1),(-1),0))))
else none
else Option.bind (B4 a0 a1 a2 (a3,0,(-1),(-1),0) a4) (fun r6=>
if (!r6)=true then
some ((3,(0,0,0,0,0)))
else some ((2,(a3,0,(-1),(-1),0))))
else none)
else if 0<=(0:Int)/\(0:Int)<(a0.2.1.length:Int) then
if ¬(((gl ((0,0,0,0):AU) a0.2.1 ((0:Int).toNat)).2).1)=0 then
if 0<=(0:Int)/\(0:Int)<(a2.length:Int) then
if ((gl ([]:(List AA)) a2 ((0:Int).toNat)).length:Int)≥(((gl ((0,0,0,0):AU) a0.2.1 ((0:Int).toNat)).2).1) then
some ((3,(0,0,0,0,0)))
else Option.bind (B4 a0 a1 a2 (a3,0,(-1),(-1),0) a4) (fun r7=>
if (!r7)=true then
some ((3,(0,0,0,0,0)))
else some ((2,(a3,0,(-1),(-1),0))))
else none
else Option.bind (B4 a0 a1 a2 (a3,0,(-1),(-1),0) a4) (fun r8=>
if (!r8)=true then
some ((3,(0,0,0,0,0)))
else some ((2,(a3,0,(-1),(-1),0))))
else none))
@[reducible] def M7:FnI:=BX [UX,DX,KL,AQ,AQ] [DF,uV] fun x=>B2 x.1 x.2.1 x.2.2.1 x.2.2.2.1 x.2.2.2.2
def gR:Cx:=BL [(5,(4,1)),(6,(5,1)),(11,(6,1)),(15,(7,1)),(16,(8,1)),(52,(9,1))] [] [(63,E8),(126,N5),(127,M4),(128,P3)] [] []
theorem RP:CV 114 M7:=okW gR [.tmp 10,.cell 11 66] 68 6 (BG (.cons GF (.cons TK (.cons RL (.cons YV AM.nil)))) BD.nil) Tryz.func114
def EB (a0:C7) (a1:Int):Option Bool:=
Option.bind (B2 a0.1 a0.2.1 a0.2.2.1 a0.2.2.2.1 a1) (fun r1=>
some (decide (r1.1=3)))
@[reducible] def MC:FnI:=BX [HW,AQ] [GX] fun x=>EB x.1 x.2
def cU:Cx:=BL [(2,(7,1)),(6,(8,1))] [] [(114,M7)] [] []
theorem P4:CV 129 MC:=okW cU [.tmp 4] 22 2 (BG (.cons RP AM.nil) BD.nil) Tryz.func129
def F_ (a0:GP) (a1:ED):Option (List Int):=
Option.bind (C_ a0) (fun r1=>
if ¬r1=0 then
some ([])
else if ¬(a1.length:Int)=(a0.2.1.length:Int) then
some ([])
else AJ (σ:=FV) (β:=(List Int)) (fun s1=>
if s1.2<(a1.length:Int) then
if 0<=s1.2/\s1.2<(a1.length:Int) then
if 0<=s1.2/\s1.2<(a0.2.1.length:Int) then
if ¬(((gl ((0,0,0,0):AU) a0.2.1 s1.2.toNat).2).1)=0 then
if ((gl ([]:(List AA)) a1 s1.2.toNat).length:Int)>(((gl ((0,0,0,0):AU) a0.2.1 s1.2.toNat).2).1) then
if (s1.1.length+([s1.2]:List Int).length)*8<=140737488355328 then
some (Sum.inl ((s1.1++([s1.2]:List Int),AG (s1.2+1))))
else none
else some (Sum.inl ((s1.1,AG (s1.2+1))))
else some (Sum.inl ((s1.1,AG (s1.2+1))))
else none
else none
else some (Sum.inr (s1.1))) (([],0)))
@[reducible] def TQ:FnI:=BX [UX,KL] [IB] fun x=>F_ x.1 x.2
def gS:Cx:=BL [(2,(2,1)),(26,(4,1)),(43,(5,1)),(44,(6,1))] [44] [(30,E3)] [(0,B3 [(5,IB),(22,AQ)] [] [] (FA [(6,3),(23,23)]) [] 3)] []
theorem cV:CV 132 TQ:=okW gS [.tmp 4] 47 5 (BG (.cons FZ AM.nil) BD.nil) Tryz.func132
def CM (a0:GP) (a1:B1) (a2:ED) (a3:S0):Option pX:=
AJ (σ:=S0) (β:=pX) (fun s1=>
if s1.1<(AG ((a2.length:Int)-1)) then
if 0<=s1.1/\s1.1<(a2.length:Int) then
if ((gl ([]:(List AA)) a2 s1.1.toNat).length:Int)=0 then
some (Sum.inl ((AG (s1.1+1),false,0)))
else Option.map Sum.inr (Option.bind (α:=S0 ⊕ pX) (if s1.1=(AG ((a2.length:Int)-1)) then
if (!s1.2.1)=true then
Option.bind (B0 a2 (AG ((a2.length:Int)-1))) (fun r1=>
if r1.2=true then
some (Sum.inl ((s1.1,true,r1.1.1)))
else some (Sum.inl ((s1.1,true,(-1)))))
else some (Sum.inl (s1))
else some (Sum.inl (s1))) (fun q=>match q with
|Sum.inl j1=>(if 0<=j1.1/\j1.1<(a2.length:Int) then
AJ (σ:=((List AA)×Int)) (β:=pX) (fun s2=>
if s2.2<((gl ([]:(List AA)) a2 j1.1.toNat).length:Int) then
if 0<=s2.2/\s2.2<((gl ([]:(List AA)) a2 j1.1.toNat).length:Int) then
if j1.1<(AG ((a2.length:Int)-1)) then
if (s2.1.length+([((gl ((0,0,0,0,0):AA) (gl ([]:(List AA)) a2 j1.1.toNat) s2.2.toNat).1,((gl ((0,0,0,0,0):AA) (gl ([]:(List AA)) a2 j1.1.toNat) s2.2.toNat).2).1,(((gl ((0,0,0,0,0):AA) (gl ([]:(List AA)) a2 j1.1.toNat) s2.2.toNat).2).2).1,((((gl ((0,0,0,0,0):AA) (gl ([]:(List AA)) a2 j1.1.toNat) s2.2.toNat).2).2).2))]:List AA).length)*40<=140737488355328 then
some (Sum.inl ((s2.1++([((gl ((0,0,0,0,0):AA) (gl ([]:(List AA)) a2 j1.1.toNat) s2.2.toNat).1,((gl ((0,0,0,0,0):AA) (gl ([]:(List AA)) a2 j1.1.toNat) s2.2.toNat).2).1,(((gl ((0,0,0,0,0):AA) (gl ([]:(List AA)) a2 j1.1.toNat) s2.2.toNat).2).2).1,((((gl ((0,0,0,0,0):AA) (gl ([]:(List AA)) a2 j1.1.toNat) s2.2.toNat).2).2).2))]:List AA),AG (s2.2+1))))
else none
else if ((gl ((0,0,0,0,0):AA) (gl ([]:(List AA)) a2 j1.1.toNat) s2.2.toNat).1)<=j1.2.2 then
if (s2.1.length+([((gl ((0,0,0,0,0):AA) (gl ([]:(List AA)) a2 j1.1.toNat) s2.2.toNat).1,((gl ((0,0,0,0,0):AA) (gl ([]:(List AA)) a2 j1.1.toNat) s2.2.toNat).2).1,(((gl ((0,0,0,0,0):AA) (gl ([]:(List AA)) a2 j1.1.toNat) s2.2.toNat).2).2).1,((((gl ((0,0,0,0,0):AA) (gl ([]:(List AA)) a2 j1.1.toNat) s2.2.toNat).2).2).2))]:List AA).length)*40<=140737488355328 then
some (Sum.inl ((s2.1++([((gl ((0,0,0,0,0):AA) (gl ([]:(List AA)) a2 j1.1.toNat) s2.2.toNat).1,((gl ((0,0,0,0,0):AA) (gl ([]:(List AA)) a2 j1.1.toNat) s2.2.toNat).2).1,(((gl ((0,0,0,0,0):AA) (gl ([]:(List AA)) a2 j1.1.toNat) s2.2.toNat).2).2).1,((((gl ((0,0,0,0,0):AA) (gl ([]:(List AA)) a2 j1.1.toNat) s2.2.toNat).2).2).2))]:List AA),AG (s2.2+1))))
else none
else some (Sum.inl ((s2.1,AG (s2.2+1))))
else none
else Option.map Sum.inr (if (s2.1.length:Int)=0 then
some (([],j1,true))
else Option.bind (C4 a1) (fun r2=>
if 0<=j1.1/\j1.1<(a0.2.1.length:Int) then
AJ (σ:=((List AA)×Int×Int)) (β:=pX) (fun s3=>
if s3.2.2<(s2.1.length:Int) then
if 0<=s3.2.2/\s3.2.2<(s2.1.length:Int) then
Option.bind (BH a1 ((gl ((0,0,0,0,0):AA) s2.1 s3.2.2.toNat).1,((gl ((0,0,0,0,0):AA) s2.1 s3.2.2.toNat).2).1,(((gl ((0,0,0,0,0):AA) s2.1 s3.2.2.toNat).2).2).1,((((gl ((0,0,0,0,0):AA) s2.1 s3.2.2.toNat).2).2).2))) (fun r3=>
if (AG (s3.2.1-r3))<0 then
some (Sum.inr ((s3.1,j1,false)))
else if ¬((((gl ((0,0,0,0):AU) a0.2.1 j1.1.toNat).2).2).1)=0 then
if (s3.1.length:Int)=((((gl ((0,0,0,0):AU) a0.2.1 j1.1.toNat).2).2).1) then
some (Sum.inr ((s3.1,j1,false)))
else if (s3.1.length+([((gl ((0,0,0,0,0):AA) s2.1 s3.2.2.toNat).1,((gl ((0,0,0,0,0):AA) s2.1 s3.2.2.toNat).2).1,(((gl ((0,0,0,0,0):AA) s2.1 s3.2.2.toNat).2).2).1,((((gl ((0,0,0,0,0):AA) s2.1 s3.2.2.toNat).2).2).2))]:List AA).length)*40<=140737488355328 then
some (Sum.inl ((s3.1++([((gl ((0,0,0,0,0):AA) s2.1 s3.2.2.toNat).1,((gl ((0,0,0,0,0):AA) s2.1 s3.2.2.toNat).2).1,(((gl ((0,0,0,0,0):AA) s2.1 s3.2.2.toNat).2).2).1,((((gl ((0,0,0,0,0):AA) s2.1 s3.2.2.toNat).2).2).2))]:List AA),AG (s3.2.1-r3),AG (s3.2.2+1))))
else none
else if (s3.1.length+([((gl ((0,0,0,0,0):AA) s2.1 s3.2.2.toNat).1,((gl ((0,0,0,0,0):AA) s2.1 s3.2.2.toNat).2).1,(((gl ((0,0,0,0,0):AA) s2.1 s3.2.2.toNat).2).2).1,((((gl ((0,0,0,0,0):AA) s2.1 s3.2.2.toNat).2).2).2))]:List AA).length)*40<=140737488355328 then
some (Sum.inl ((s3.1++([((gl ((0,0,0,0,0):AA) s2.1 s3.2.2.toNat).1,((gl ((0,0,0,0,0):AA) s2.1 s3.2.2.toNat).2).1,(((gl ((0,0,0,0,0):AA) s2.1 s3.2.2.toNat).2).2).1,((((gl ((0,0,0,0,0):AA) s2.1 s3.2.2.toNat).2).2).2))]:List AA),AG (s3.2.1-r3),AG (s3.2.2+1))))
else none)
else none
else some (Sum.inr ((s3.1,j1,false)))) (([],(r2.length:Int),0))
else none))) (([],0))
else none)
|Sum.inr b1=>some b1))
else none
else Option.map Sum.inr (Option.bind (α:=S0 ⊕ pX) (if s1.1=(AG ((a2.length:Int)-1)) then
if (!s1.2.1)=true then
Option.bind (B0 a2 (AG ((a2.length:Int)-1))) (fun r4=>
if r4.2=true then
some (Sum.inl ((s1.1,true,r4.1.1)))
else some (Sum.inl ((s1.1,true,(-1)))))
else some (Sum.inl (s1))
else some (Sum.inl (s1))) (fun q=>match q with
|Sum.inl j2=>(if 0<=j2.1/\j2.1<(a2.length:Int) then
AJ (σ:=((List AA)×Int)) (β:=pX) (fun s4=>
if s4.2<((gl ([]:(List AA)) a2 j2.1.toNat).length:Int) then
if 0<=s4.2/\s4.2<((gl ([]:(List AA)) a2 j2.1.toNat).length:Int) then
if j2.1<(AG ((a2.length:Int)-1)) then
if (s4.1.length+([((gl ((0,0,0,0,0):AA) (gl ([]:(List AA)) a2 j2.1.toNat) s4.2.toNat).1,((gl ((0,0,0,0,0):AA) (gl ([]:(List AA)) a2 j2.1.toNat) s4.2.toNat).2).1,(((gl ((0,0,0,0,0):AA) (gl ([]:(List AA)) a2 j2.1.toNat) s4.2.toNat).2).2).1,((((gl ((0,0,0,0,0):AA) (gl ([]:(List AA)) a2 j2.1.toNat) s4.2.toNat).2).2).2))]:List AA).length)*40<=140737488355328 then
some (Sum.inl ((s4.1++([((gl ((0,0,0,0,0):AA) (gl ([]:(List AA)) a2 j2.1.toNat) s4.2.toNat).1,((gl ((0,0,0,0,0):AA) (gl ([]:(List AA)) a2 j2.1.toNat) s4.2.toNat).2).1,(((gl ((0,0,0,0,0):AA) (gl ([]:(List AA)) a2 j2.1.toNat) s4.2.toNat).2).2).1,((((gl ((0,0,0,0,0):AA) (gl ([]:(List AA)) a2 j2.1.toNat) s4.2.toNat).2).2).2))]:List AA),AG (s4.2+1))))
else none
else if ((gl ((0,0,0,0,0):AA) (gl ([]:(List AA)) a2 j2.1.toNat) s4.2.toNat).1)<=j2.2.2 then
if (s4.1.length+([((gl ((0,0,0,0,0):AA) (gl ([]:(List AA)) a2 j2.1.toNat) s4.2.toNat).1,((gl ((0,0,0,0,0):AA) (gl ([]:(List AA)) a2 j2.1.toNat) s4.2.toNat).2).1,(((gl ((0,0,0,0,0):AA) (gl ([]:(List AA)) a2 j2.1.toNat) s4.2.toNat).2).2).1,((((gl ((0,0,0,0,0):AA) (gl ([]:(List AA)) a2 j2.1.toNat) s4.2.toNat).2).2).2))]:List AA).length)*40<=140737488355328 then
some (Sum.inl ((s4.1++([((gl ((0,0,0,0,0):AA) (gl ([]:(List AA)) a2 j2.1.toNat) s4.2.toNat).1,((gl ((0,0,0,0,0):AA) (gl ([]:(List AA)) a2 j2.1.toNat) s4.2.toNat).2).1,(((gl ((0,0,0,0,0):AA) (gl ([]:(List AA)) a2 j2.1.toNat) s4.2.toNat).2).2).1,((((gl ((0,0,0,0,0):AA) (gl ([]:(List AA)) a2 j2.1.toNat) s4.2.toNat).2).2).2))]:List AA),AG (s4.2+1))))
else none
else some (Sum.inl ((s4.1,AG (s4.2+1))))
else none
else Option.map Sum.inr (if (s4.1.length:Int)=0 then
some (([],j2,true))
else Option.bind (C4 a1) (fun r5=>
if 0<=j2.1/\j2.1<(a0.2.1.length:Int) then
AJ (σ:=((List AA)×Int×Int)) (β:=pX) (fun s5=>
if s5.2.2<(s4.1.length:Int) then
if 0<=s5.2.2/\s5.2.2<(s4.1.length:Int) then
Option.bind (BH a1 ((gl ((0,0,0,0,0):AA) s4.1 s5.2.2.toNat).1,((gl ((0,0,0,0,0):AA) s4.1 s5.2.2.toNat).2).1,(((gl ((0,0,0,0,0):AA) s4.1 s5.2.2.toNat).2).2).1,((((gl ((0,0,0,0,0):AA) s4.1 s5.2.2.toNat).2).2).2))) (fun r6=>
if (AG (s5.2.1-r6))<0 then
some (Sum.inr ((s5.1,j2,false)))
else if ¬((((gl ((0,0,0,0):AU) a0.2.1 j2.1.toNat).2).2).1)=0 then
if (s5.1.length:Int)=((((gl ((0,0,0,0):AU) a0.2.1 j2.1.toNat).2).2).1) then
some (Sum.inr ((s5.1,j2,false)))
else if (s5.1.length+([((gl ((0,0,0,0,0):AA) s4.1 s5.2.2.toNat).1,((gl ((0,0,0,0,0):AA) s4.1 s5.2.2.toNat).2).1,(((gl ((0,0,0,0,0):AA) s4.1 s5.2.2.toNat).2).2).1,((((gl ((0,0,0,0,0):AA) s4.1 s5.2.2.toNat).2).2).2))]:List AA).length)*40<=140737488355328 then
some (Sum.inl ((s5.1++([((gl ((0,0,0,0,0):AA) s4.1 s5.2.2.toNat).1,((gl ((0,0,0,0,0):AA) s4.1 s5.2.2.toNat).2).1,(((gl ((0,0,0,0,0):AA) s4.1 s5.2.2.toNat).2).2).1,((((gl ((0,0,0,0,0):AA) s4.1 s5.2.2.toNat).2).2).2))]:List AA),AG (s5.2.1-r6),AG (s5.2.2+1))))
else none
else if (s5.1.length+([((gl ((0,0,0,0,0):AA) s4.1 s5.2.2.toNat).1,((gl ((0,0,0,0,0):AA) s4.1 s5.2.2.toNat).2).1,(((gl ((0,0,0,0,0):AA) s4.1 s5.2.2.toNat).2).2).1,((((gl ((0,0,0,0,0):AA) s4.1 s5.2.2.toNat).2).2).2))]:List AA).length)*40<=140737488355328 then
some (Sum.inl ((s5.1++([((gl ((0,0,0,0,0):AA) s4.1 s5.2.2.toNat).1,((gl ((0,0,0,0,0):AA) s4.1 s5.2.2.toNat).2).1,(((gl ((0,0,0,0,0):AA) s4.1 s5.2.2.toNat).2).2).1,((((gl ((0,0,0,0,0):AA) s4.1 s5.2.2.toNat).2).2).2))]:List AA),AG (s5.2.1-r6),AG (s5.2.2+1))))
else none)
else none
else some (Sum.inr ((s5.1,j2,false)))) (([],(r5.length:Int),0))
else none))) (([],0))
else none)
|Sum.inr b2=>some b2))) (a3)
@[reducible] def K2:FnI:=BX [UX,DX,KL,iO] [bZ,AQI,GX] fun x=>CM x.1 x.2.1 x.2.2.1 x.2.2.2
def aC:Cx:=BL [(4,(4,1)),(5,(5,1)),(7,(6,1)),(9,(7,1)),(12,(9,1)),(16,(12,1)),(21,(17,1)),(34,(8,1)),(67,(10,1)),(86,(13,1)),(87,(14,1)),(94,(15,1)),(128,(18,1)),(129,(19,1))] [87,129] [(16,CU),(17,FL),(63,E8)] [(0,B3 [] [(6,iO)] [] (FA [(25,17)]) [] 8),(2,B3 [(14,bZ),(69,AQ)] [] [] (FA [(16,1),(70,19)]) [] 11),(4,B3 [(17,bZ),(18,AQ),(105,AQ)] [] [] (FA [(21,1),(106,25)]) [] 16)] [(9,B3 [] [(6,iO)] [] (FA [(12,2),(42,21)]) [] 10)]
theorem PF:CV 32 K2:=okW aC [.tmp 8,.cell 9 32,.tmp 10] 133 16 (BG (.cons C0 (.cons GI (.cons GF AM.nil))) BD.nil) Tryz.func32
def FO (a0:C7) (a1:Int):Option (C7×Bool):=
Option.bind (BR a0) (fun r1=>
AJ (σ:=(C7×S0)) (β:=(C7×Bool)) (fun s1=>
if a1>0 then
Option.bind (EB s1.1 a1) (fun r2=>
if (!r2)=true then
Option.bind (F_ s1.1.1 s1.1.2.2.1) (fun r3=>
if (r3.length:Int)=0 then
some (Sum.inr ((s1.1,false)))
else Option.bind (CM s1.1.1 s1.1.2.1 s1.1.2.2.1 s1.2) (fun r4=>
if r4.2.2=true then
some (Sum.inr (((s1.1.1,s1.1.2.1,s1.1.2.2.1,s1.1.2.2.2.1,s1.1.2.2.2.2.1,s1.1.2.2.2.2.2.1,0,(s1.1.2.2.2.2.2.2.2.1.1,s1.1.2.2.2.2.2.2.2.1.2.1,s1.1.2.2.2.2.2.2.2.1.2.2.1,s1.1.2.2.2.2.2.2.2.1.2.2.2.1,AG (s1.1.2.2.2.2.2.2.2.1.2.2.2.2.1+1),s1.1.2.2.2.2.2.2.2.1.2.2.2.2.2),s1.1.2.2.2.2.2.2.2.2),true)))
else if (r4.1.length:Int)=0 then
some (Sum.inr ((s1.1,false)))
else Option.bind (CC s1.1 r4.1) (fun r5=>
bif ZF (CQ.rs++CQ.os) r5 then if ¬r5.2.2=0 then
some (Sum.inr ((s1.1,false)))
else some (Sum.inl ((r5.1,r4.2.1))) else Option.bind (CC s1.1 r4.1) (fun r6=>
if ¬r6.2.2=0 then
Option.map Sum.inr (none)
else some (Sum.inl ((r6.1,r4.2.1)))))))
else Option.bind (CM s1.1.1 s1.1.2.1 s1.1.2.2.1 s1.2) (fun r7=>
if r7.2.2=true then
some (Sum.inr (((s1.1.1,s1.1.2.1,s1.1.2.2.1,s1.1.2.2.2.1,s1.1.2.2.2.2.1,s1.1.2.2.2.2.2.1,0,(s1.1.2.2.2.2.2.2.2.1.1,s1.1.2.2.2.2.2.2.2.1.2.1,s1.1.2.2.2.2.2.2.2.1.2.2.1,s1.1.2.2.2.2.2.2.2.1.2.2.2.1,AG (s1.1.2.2.2.2.2.2.2.1.2.2.2.2.1+1),s1.1.2.2.2.2.2.2.2.1.2.2.2.2.2),s1.1.2.2.2.2.2.2.2.2),true)))
else if (r7.1.length:Int)=0 then
some (Sum.inr ((s1.1,false)))
else Option.bind (CC s1.1 r7.1) (fun r8=>
bif ZF (CQ.rs++CQ.os) r8 then if ¬r8.2.2=0 then
some (Sum.inr ((s1.1,false)))
else some (Sum.inl ((r8.1,r7.2.1))) else Option.bind (CC s1.1 r7.1) (fun r9=>
if ¬r9.2.2=0 then
Option.map Sum.inr (none)
else some (Sum.inl ((r9.1,r7.2.1)))))))
else Option.bind (CM s1.1.1 s1.1.2.1 s1.1.2.2.1 s1.2) (fun JQ=>
if JQ.2.2=true then
some (Sum.inr (((s1.1.1,s1.1.2.1,s1.1.2.2.1,s1.1.2.2.2.1,s1.1.2.2.2.2.1,s1.1.2.2.2.2.2.1,0,(s1.1.2.2.2.2.2.2.2.1.1,s1.1.2.2.2.2.2.2.2.1.2.1,s1.1.2.2.2.2.2.2.2.1.2.2.1,s1.1.2.2.2.2.2.2.2.1.2.2.2.1,AG (s1.1.2.2.2.2.2.2.2.1.2.2.2.2.1+1),s1.1.2.2.2.2.2.2.2.1.2.2.2.2.2),s1.1.2.2.2.2.2.2.2.2),true)))
else if (JQ.1.length:Int)=0 then
some (Sum.inr ((s1.1,false)))
else Option.bind (CC s1.1 JQ.1) (fun U2=>
bif ZF (CQ.rs++CQ.os) U2 then if ¬U2.2.2=0 then
some (Sum.inr ((s1.1,false)))
else some (Sum.inl ((U2.1,JQ.2.1))) else Option.bind (CC s1.1 JQ.1) (fun NX=>
if ¬NX.2.2=0 then
Option.map Sum.inr (none)
else some (Sum.inl ((NX.1,JQ.2.1))))))) ((r1,(0,false,0))))
@[reducible] def MD:FnI:=BX [HW,AQ] [WA,GX] fun x=>FO x.1 x.2
def cW:Cx:={ nm:=[(2,(7,1)),(4,(8,1)),(6,(16,1)),(8,(19,1)),(10,(27,1)),(11,(28,1)),(14,(9,7)),(28,(17,1)),(41,(18,1)),(62,(20,7))],CG:=[],fns:=AEG [(32,K2),(76,DQ),(129,MC),(132,TQ),(133,CQ)],loops:=[(0,B3 [] [(7,WA),(16,iO)] [] (FA [(5,1),(7,6),(15,55)]) [9,10,11,12,13,14,15] 29)],bN:=[],tb:=oB,exts:=[],lets:=[],dyns:=[62] }
theorem P5:CV 122 MD:=okW cW [.cell 4 43,.tmp 5] 70 29 (BG (.cons PF (.cons D2 (.cons P4 (.cons cV (.cons j7 AM.nil))))) BD.nil) Tryz.func122
def GA (a0:C7):Option (C7×Bool):=
Option.bind (FO a0 0) (fun r1=>
some ((r1.1,r1.2)))
@[reducible] def M8:FnI:=BX [HW] [WA,GX] fun x=>GA x
def gT:Cx:=BL [(1,(7,1)),(2,(8,1)),(5,(9,7))] [] [(122,MD)] [] []
theorem RQ:CV 100 M8:=okW gT [.cell 2 43,.tmp 3] 8 9 (BG (.cons P5 AM.nil) BD.nil) Tryz.func100
def EF (a0:C7) (a1:Int):Option (C7×Bool):=
Option.bind (FO a0 a1) (fun r1=>
Option.bind (EB r1.1 a1) (fun r2=>
some ((r1.1, !r2))))
@[reducible] def U6:FnI:=BX [HW,AQ] [WA,GX] fun x=>EF x.1 x.2
def j8:Cx:=BL [(2,(7,1)),(4,(8,1)),(6,(16,1)),(11,(9,7))] [] [(122,MD),(129,MC)] [] []
theorem gU:CV 116 U6:=okW j8 [.cell 4 43,.tmp 5] 19 10 (BG (.cons P5 (.cons P4 AM.nil)) BD.nil) Tryz.func116
def BA (a0:C7) (a1:Int):Option (C7×(Int×(BitVec 64))):=
some ((a0,(a1,0#64)))
@[reducible] def LF:FnI:=BX [HW,AQ] [HW,AHR] fun x=>BA x.1 x.2
def l8:Cx:=BL [(2,(7,1)),(4,(8,1)),(5,(9,1))] [] [] [] []
theorem N7:CV 68 LF:=okW l8 [.cell 4 43,.cell 5 110] 9 3 (BG AM.nil BD.nil) Tryz.func68
def EV (a0:C7):Option Bool:=
Option.bind (F9 a0.2.2.2.2.2.1) (fun r1=>
some (decide ((r1.length:Int)=32)))
@[reducible] def M9:FnI:=BX [HW] [GX] fun x=>EV x
def gV:Cx:=BL [(1,(7,1)),(5,(8,1))] [] [(113,I7)] [] []
theorem RR:CV 97 M9:=okW gV [.tmp 2] 8 2 (BG (.cons MB AM.nil) BD.nil) Tryz.func97
def I8 (a0:C7) (a1:Int) (a2:Int):Option (C7×Int×Int):=
if a0.2.2.2.2.2.2.2.2=true then
some (((((⟨#[]⟩:ByteArray),[],0),(0,[],[]),[],0,[],([],[]),0,(0,0,0,0,0,0,0,0,0),false),0,19))
else Option.bind (DI a1 a2) (fun r1=>
if ¬r1.2=0 then
some (((((⟨#[]⟩:ByteArray),[],0),(0,[],[]),[],0,[],([],[]),0,(0,0,0,0,0,0,0,0,0),false),0,r1.2))
else Option.bind (BR a0) (fun r2=>
Option.bind (B2 r2.1 r2.2.1 r2.2.2.1 r2.2.2.2.1 (AG ((AG ((1:Int)+a1))+a2))) (fun r3=>
Option.bind (α:=(Int×C7×AA) ⊕ (C7×Int×Int)) (if r3.1=3 then
Option.bind (α:=C7 ⊕ ((Int×C7×AA) ⊕ (C7×Int×Int))) (Option.bind (CJ r2.1) (fun r4=>
if r4=true then
some (Sum.inl ((r2.1,r2.2.1,r2.2.2.1,r2.2.2.2.1,r2.2.2.2.2.1,r2.2.2.2.2.2.1,AG (r2.2.2.2.2.2.2.1+1),(r2.2.2.2.2.2.2.2.1.1,r2.2.2.2.2.2.2.2.1.2.1,AG (r2.2.2.2.2.2.2.2.1.2.2.1+1),r2.2.2.2.2.2.2.2.1.2.2.2),r2.2.2.2.2.2.2.2.2)))
else some (Sum.inl ((r2.1,r2.2.1,r2.2.2.1,r2.2.2.2.1,r2.2.2.2.2.1,r2.2.2.2.2.2.1,r2.2.2.2.2.2.2.1,(r2.2.2.2.2.2.2.2.1.1,r2.2.2.2.2.2.2.2.1.2.1,AG (r2.2.2.2.2.2.2.2.1.2.2.1+1),r2.2.2.2.2.2.2.2.1.2.2.2),r2.2.2.2.2.2.2.2.2))))) (fun q=>match q with
|Sum.inl j2=>(Option.bind (CJ j2.1) (fun r5=>
if r5=true then
if j2.2.2.2.2.2.2.1≥j2.1.2.2 then
Option.bind (GA j2) (fun r6=>
Option.bind (B2 r6.1.1 r6.1.2.1 r6.1.2.2.1 r6.1.2.2.2.1 (AG ((AG ((1:Int)+a1))+a2))) (fun r7=>
if r7.1=3 then
some (Sum.inr (((r6.1.1,r6.1.2.1,r6.1.2.2.1,r6.1.2.2.2.1,r6.1.2.2.2.2.1,r6.1.2.2.2.2.2.1,r6.1.2.2.2.2.2.2.1,r6.1.2.2.2.2.2.2.2.1,true),0,18)))
else some (Sum.inl ((r7.1,r6.1,r7.2)))))
else Option.bind (EF j2 (AG ((AG ((1:Int)+a1))+a2))) (fun r8=>
Option.bind (B2 r8.1.1 r8.1.2.1 r8.1.2.2.1 r8.1.2.2.2.1 (AG ((AG ((1:Int)+a1))+a2))) (fun r9=>
if r9.1=3 then
some (Sum.inr (((r8.1.1,r8.1.2.1,r8.1.2.2.1,r8.1.2.2.2.1,r8.1.2.2.2.2.1,r8.1.2.2.2.2.2.1,r8.1.2.2.2.2.2.2.1,r8.1.2.2.2.2.2.2.2.1,true),0,18)))
else some (Sum.inl ((r9.1,r8.1,r9.2)))))
else Option.bind (EF j2 (AG ((AG ((1:Int)+a1))+a2))) (fun JQ=>
Option.bind (B2 JQ.1.1 JQ.1.2.1 JQ.1.2.2.1 JQ.1.2.2.2.1 (AG ((AG ((1:Int)+a1))+a2))) (fun U2=>
if U2.1=3 then
some (Sum.inr (((JQ.1.1,JQ.1.2.1,JQ.1.2.2.1,JQ.1.2.2.2.1,JQ.1.2.2.2.2.1,JQ.1.2.2.2.2.2.1,JQ.1.2.2.2.2.2.2.1,JQ.1.2.2.2.2.2.2.2.1,true),0,18)))
else some (Sum.inl ((U2.1,JQ.1,U2.2)))))))
|Sum.inr b1=>some b1)
else some (Sum.inl ((r3.1,r2,r3.2)))) (fun q=>match q with
|Sum.inl j1=>(Option.bind (DY j1.2.1.2.1 j1.2.2 (AG ((AG ((1:Int)+a1))+a2))) (fun NX=>
if ¬NX.2.2.1=0 then
some (((j1.2.1.1,(j1.2.1.2.1.1,NX.2.2.2),j1.2.1.2.2.1,j1.2.1.2.2.2.1,j1.2.1.2.2.2.2.1,j1.2.1.2.2.2.2.2.1,j1.2.1.2.2.2.2.2.2.1,j1.2.1.2.2.2.2.2.2.2.1,true),0,18))
else Option.bind (F7 (j1.2.1.2.1.1,NX.2.2.2) NX.2.1 a1 a2) (fun QV=>
if j1.1=2 then
Option.bind (FF j1.2.1.2.2.1 NX.1) (fun nH=>
some (((j1.2.1.1,(j1.2.1.2.1.1,QV.2),nH.1,AG (j1.2.1.2.2.2.1+1),j1.2.1.2.2.2.2.1,j1.2.1.2.2.2.2.2.1,j1.2.1.2.2.2.2.2.2.1,(AG (j1.2.1.2.2.2.2.2.2.2.1.1+(AG ((AG ((1:Int)+a1))+a2))),AG (j1.2.1.2.2.2.2.2.2.2.1.2.1+1),j1.2.1.2.2.2.2.2.2.2.1.2.2),j1.2.1.2.2.2.2.2.2.2.2),NX.2.1,0)))
else Option.bind (C9 j1.2.1.2.2.1 NX.1) (fun oF=>
some (((j1.2.1.1,(j1.2.1.2.1.1,QV.2),oF.1,j1.2.1.2.2.2.1,j1.2.1.2.2.2.2.1,j1.2.1.2.2.2.2.2.1,j1.2.1.2.2.2.2.2.2.1,(AG (j1.2.1.2.2.2.2.2.2.2.1.1+(AG ((AG ((1:Int)+a1))+a2))),AG (j1.2.1.2.2.2.2.2.2.2.1.2.1+1),j1.2.1.2.2.2.2.2.2.2.1.2.2),j1.2.1.2.2.2.2.2.2.2.2),NX.2.1,0))))))
|Sum.inr b2=>some b2))))
@[reducible] def RS:FnI:=BX [HW,AQ,AQ] [WA,DF,DF] fun x=>I8 x.1 x.2.1 x.2.2
def cX:Cx:=BL [(3,(7,1)),(6,(8,1)),(12,(16,1)),(14,(17,1)),(15,(46,1)),(36,(9,7)),(78,(25,7)),(84,(32,7)),(129,(47,1)),(141,(48,1))] [] [(76,DQ),(96,I2),(100,M8),(114,M7),(115,JP),(116,U6),(117,M1),(118,TG),(119,N6),(120,J8)] [] [(13,B3 [] [(16,HW)] [] (FA [(58,7)]) [9,10,11,12,13,14,15] 18),(20,B3 [(13,AQ)] [(16,WA),(17,S_)] [] (FA [(7,2),(50,54)]) [9,10,11,12,13,14,15] 39)]
theorem aD:CV 98 RS:=okW cX [.cell 6 43,.tmp 7,.tmp 8] 160 42 (BG (.cons D2 (.cons L7 (.cons RQ (.cons RP (.cons NR (.cons gU (.cons RG (.cons cH (.cons TP (.cons OH AM.nil)))))))))) BD.nil) Tryz.func98
def G_ (a0:XH):Option Bool:=
if ¬(a0.1.length:Int)=32 then
some (false)
else if ¬(a0.2.length:Int)=32 then
some (false)
else AJ (σ:=Int) (β:=Bool) (fun s1=>
if s1<(a0.1.length:Int) then
if 0<=s1/\s1<(a0.1.length:Int) then
if (!(gl (false:Bool) a0.1 s1.toNat))=true then
if 0<=s1/\s1<(a0.2.length:Int) then
if ¬(gl (0#64:(BitVec 64)) a0.2 s1.toNat)=(0#64) then
some (Sum.inr (false))
else some (Sum.inl (AG (s1+1)))
else none
else some (Sum.inl (AG (s1+1)))
else none
else some (Sum.inr (true))) (0)
@[reducible] def ME:FnI:=BX [uU] [GX] fun x=>G_ x
def cY:Cx:=BL [(1,(2,1))] [] [] [(0,B3 [(18,AQ)] [] [] (FA [(2,3),(19,15)]) [] 3)] []
theorem P6:CV 121 ME:=okW cY [.tmp 2] 34 1 (BG AM.nil BD.nil) Tryz.func121
def DJ (a0:XH) (a1:(BitVec 64)):Option (XH×Int×Int):=
Option.bind (G_ a0) (fun r1=>
if (!r1)=true then
some ((([],[]),0,1))
else AJ (σ:=Int) (β:=(XH×Int×Int)) (fun s1=>
if s1<(a0.1.length:Int) then
if 0<=s1/\s1<(a0.1.length:Int) then
if (!(gl (false:Bool) a0.1 s1.toNat))=true then
Option.bind (F8 a0) (fun r2=>
if 0<=s1/\s1<(r2.1.length:Int) then
if 0<=s1/\s1<(r2.2.length:Int) then
some (Sum.inr (((r2.1.set s1.toNat true,r2.2.set s1.toNat a1),AG (s1+1),0)))
else none
else none)
else some (Sum.inl (AG (s1+1)))
else none
else some (Sum.inr ((([],[]),0,15)))) (0))
@[reducible] def M_:FnI:=BX [uU,oC] [AK9,DF,DF] fun x=>DJ x.1 x.2
def gW:Cx:=BL [(2,(2,1)),(4,(3,1)),(9,(6,1)),(25,(4,2))] [] [(103,I6),(121,ME)] [(0,B3 [(17,AQ)] [] [] (FA [(5,5),(18,21)]) [] 4)] []
theorem RT:CV 99 M_:=okW gW [.cell 4 39,.tmp 5,.tmp 6] 40 5 (BG (.cons MA (.cons P6 AM.nil)) BD.nil) Tryz.func99
def BB (a0:C7) (a1:(BitVec 64)):Option (C7×(Int×(BitVec 64))):=
some ((a0,(0,a1)))
@[reducible] def LG:FnI:=BX [HW,oC] [HW,AHR] fun x=>BB x.1 x.2
def l9:Cx:=BL [(2,(7,1)),(4,(8,1)),(5,(9,1))] [] [] [] []
theorem N8:CV 71 LG:=okW l9 [.cell 4 43,.cell 5 110] 9 3 (BG AM.nil BD.nil) Tryz.func71
def NA (a0:C7) (a1:PV):Option (C7×(Int×(BitVec 64))):=
Option.bind (DI a1.2.1 a1.2.2.1) (fun r1=>
if ¬r1.2=0 then
Option.bind (BA a0 r1.2) (fun r2=>
some ((r2.1,r2.2)))
else Option.bind (EV a0) (fun r3=>
if r3=true then
Option.bind (BA a0 15) (fun r4=>
some ((r4.1,r4.2)))
else Option.bind (I8 a0 a1.2.1 a1.2.2.1) (fun r5=>
if ¬r5.2.2=0 then
Option.bind (BA r5.1 r5.2.2) (fun r6=>
some ((r6.1,r6.2)))
else Option.bind (DJ r5.1.2.2.2.2.2.1 (BitVec.ofInt 64 (AG (r5.2.1+1)))) (fun r7=>
Option.bind (BB (r5.1.1,r5.1.2.1,r5.1.2.2.1,r5.1.2.2.2.1,r5.1.2.2.2.2.1,r7.1,r5.1.2.2.2.2.2.2) (BitVec.ofInt 64 r7.2.1)) (fun r8=>
some ((r8.1,r8.2)))))))
@[reducible] def RU:FnI:=BX [HW,zJ] [HW,AHR] fun x=>NA x.1 x.2
def cZ:Cx:=BL [(2,(7,1)),(3,(8,1)),(4,(9,1)),(5,(10,1)),(8,(32,1)),(24,(11,7)),(30,(18,7)),(39,(25,7)),(47,(33,7)),(56,(40,2)),(64,(42,7))] [] [(68,LF),(71,LG),(96,I2),(97,M9),(98,RS),(99,M_)] [] []
theorem aE:CV 69 RU:=okW cZ [.cell 4 43,.cell 5 110] 67 42 (BG (.cons N7 (.cons N8 (.cons L7 (.cons RR (.cons aD (.cons RT AM.nil)))))) BD.nil) Tryz.func69
def K3 (a0:C7):Option (C7×Bool×Int):=
if a0.2.2.2.2.2.2.2.2=true then
some (((((⟨#[]⟩:ByteArray),[],0),(0,[],[]),[],0,[],([],[]),0,(0,0,0,0,0,0,0,0,0),false),false,19))
else Option.bind (GA (a0.1,a0.2.1,a0.2.2.1,a0.2.2.2.1,a0.2.2.2.2.1,a0.2.2.2.2.2.1,a0.2.2.2.2.2.2.1,(a0.2.2.2.2.2.2.2.1.1,a0.2.2.2.2.2.2.2.1.2.1,AG (a0.2.2.2.2.2.2.2.1.2.2.1+1),a0.2.2.2.2.2.2.2.1.2.2.2),a0.2.2.2.2.2.2.2.2)) (fun r1=>
some ((r1.1,r1.2,0)))
@[reducible] def PG:FnI:=BX [HW] [WA,GX,DF] fun x=>K3 x
def YW:Cx:=BL [(1,(7,1)),(2,(8,1)),(5,(16,1)),(18,(9,7))] [] [(100,M8)] [] []
theorem XT:CV 70 PG:=okW YW [.cell 2 43,.tmp 3,.tmp 4] 23 10 (BG (.cons RQ AM.nil) BD.nil) Tryz.func70
def I9 (a0:ED):Option Int:=
AJ (σ:=(Int×Int)) (β:=Int) (fun s1=>
if s1.2<(a0.length:Int) then
if 0<=s1.2/\s1.2<(a0.length:Int) then
AJ (σ:=(Int×Int)) (β:=((Int×Int) ⊕ Int)) (fun s2=>
if s2.2<((gl ([]:(List AA)) a0 s1.2.toNat).length:Int) then
if 0<=s2.2/\s2.2<((gl ([]:(List AA)) a0 s1.2.toNat).length:Int) then
some (Sum.inl ((AG (s2.1+(((((gl ((0,0,0,0,0):AA) (gl ([]:(List AA)) a0 s1.2.toNat) s2.2.toNat).2).2).2).2)),AG (s2.2+1))))
else none
else some (Sum.inr (Sum.inl ((s2.1,AG (s1.2+1)))))) ((s1.1,0))
else none
else some (Sum.inr (s1.1))) ((0,0))
@[reducible] def RW:FnI:=BX [KL] [DF] fun x=>I9 x
def c_:Cx:=BL [(7,(2,1)),(13,(1,1))] [] [] [(0,B3 [(3,AQ),(10,AQ)] [] [] (FA [(5,1),(7,1),(11,15)]) [] 1),(2,B3 [(3,AQ),(16,AQ)] [] [] (FA [(7,1),(17,8)]) [] 2)] []
theorem aF:CV 101 RW:=okW c_ [.tmp 2] 27 2 (BG AM.nil BD.nil) Tryz.func101
def J9 (a0:C7):Option Int:=
Option.bind (I9 a0.2.2.1) (fun r1=>
some (r1))
@[reducible] def OI:FnI:=BX [HW] [DF] fun x=>J9 x
def XU:Cx:=BL [(1,(7,1))] [] [(101,RW)] [] []
theorem WO:CV 72 OI:=okW XU [.tmp 2] 6 1 (BG (.cons aF AM.nil) BD.nil) Tryz.func72
def C2 (a0:C7) (a1:Int) (a2:Bool):Option Int:=
if a1=0 then
if a2=true then
some (16)
else if a1=0 then
some (0)
else if a1<0 then
some (14)
else if a1>32 then
some (14)
else if 0<=(AG (a1-1))/\(AG (a1-1))<(a0.2.2.2.2.2.1.1.length:Int) then
if (!(gl (false:Bool) a0.2.2.2.2.2.1.1 ((AG (a1-1)).toNat)))=true then
some (14)
else some (0)
else none
else if a1=0 then
some (0)
else if a1<0 then
some (14)
else if a1>32 then
some (14)
else if 0<=(AG (a1-1))/\(AG (a1-1))<(a0.2.2.2.2.2.1.1.length:Int) then
if (!(gl (false:Bool) a0.2.2.2.2.2.1.1 ((AG (a1-1)).toNat)))=true then
some (14)
else some (0)
else none
@[reducible] def K4:FnI:=BX [HW,AQ,lV] [DF] fun x=>C2 x.1 x.2.1 x.2.2
def aG:Cx:=BL [(3,(7,1))] [] [] [] []
theorem PH:CV 73 K4:=okW aG [.tmp 6] 33 1 (BG AM.nil BD.nil) Tryz.func73
def BJ (a0:C7) (a1:Int):Option (BitVec 64):=
if a1=0 then
some (0#64)
else if 0<=(AG (a1-1))/\(AG (a1-1))<(a0.2.2.2.2.2.1.2.length:Int) then
some (gl (0#64:(BitVec 64)) a0.2.2.2.2.2.1.2 ((AG (a1-1)).toNat))
else none
@[reducible] def NB:FnI:=BX [HW,AQ] [zH] fun x=>BJ x.1 x.2
def gX:Cx:=BL [(2,(7,1))] [] [] [] []
theorem RX:CV 75 NB:=okW gX [.tmp 4] 14 1 (BG AM.nil BD.nil) Tryz.func75
def NC (a0:Bool):Option (BitVec 64):=
if a0=true then
some (1#64)
else some (0#64)
@[reducible] def RY:FnI:=BX [lV] [zH] fun x=>NC x
def dA:Cx:=BL [] [] [] [] []
theorem aH:CV 74 RY:=okW dA [.tmp 2] 4 0 (BG AM.nil BD.nil) Tryz.func74
def ND (a0:XH) (a1:Int):Option Int:=
Option.bind (G_ a0) (fun r1=>
if (!r1)=true then
some (1)
else if a1<1 then
some (14)
else if a1>32 then
some (14)
else if 0<=(AG (a1-1))/\(AG (a1-1))<(a0.1.length:Int) then
if (!(gl (false:Bool) a0.1 ((AG (a1-1)).toNat)))=true then
some (14)
else some (0)
else none)
@[reducible] def RZ:FnI:=BX [uU,AQ] [DF] fun x=>ND x.1 x.2
def dB:Cx:=BL [(2,(2,1))] [] [(121,ME)] [] []
theorem aI:CV 104 RZ:=okW dB [.tmp 4] 23 1 (BG (.cons P6 AM.nil) BD.nil) Tryz.func104
def J_ (a0:XH) (a1:Int):Option (XH×Int):=
Option.bind (ND a0 a1) (fun r1=>
if ¬r1=0 then
some ((([],[]),r1))
else Option.bind (F8 a0) (fun r2=>
if 0<=(AG (a1-1))/\(AG (a1-1))<(r2.1.length:Int) then
if 0<=(AG (a1-1))/\(AG (a1-1))<(r2.2.length:Int) then
some (((r2.1.set ((AG (a1-1)).toNat) false,r2.2.set ((AG (a1-1)).toNat) (0#64)),0))
else none
else none))
@[reducible] def TR:FnI:=BX [uU,AQ] [AK9,DF] fun x=>J_ x.1 x.2
def gY:Cx:=BL [(2,(2,1)),(4,(3,1)),(7,(6,1)),(16,(4,2))] [] [(103,I6),(104,RZ)] [] []
theorem dC:CV 77 TR:=okW gY [.cell 4 39,.tmp 5] 28 5 (BG (.cons MA (.cons aI AM.nil)) BD.nil) Tryz.func77
def CH (a0:B1) (a1:Int) (a2:Int) (a3:Bool):Option (Int×Int):=
Option.bind (BQ a0 a1) (fun r1=>
if ¬r1.2.2=0 then
some ((0,r1.2.2))
else if a3=true then
if a2<0 then
some ((0,17))
else if a2≥r1.1 then
some ((0,17))
else Option.bind (A_ a0 a1 (AG ((1:Int)+a2))) (fun r2=>
some ((r2.1,r2.2)))
else if a2<0 then
some ((0,17))
else if a2≥r1.2.1 then
some ((0,17))
else Option.bind (A_ a0 a1 (AG ((AG ((1:Int)+r1.1))+a2))) (fun r3=>
some ((r3.1,r3.2))))
@[reducible] def MF:FnI:=BX [DX,AQ,AQ,lV] [DF,DF] fun x=>CH x.1 x.2.1 x.2.2.1 x.2.2.2
def dD:Cx:=BL [(4,(2,1))] [] [(78,FN),(105,EE)] [] []
theorem P7:CV 107 MF:=okW dD [.tmp 8,.tmp 9] 45 1 (BG (.cons GJ (.cons ES AM.nil)) BD.nil) Tryz.func107
def IL (a0:B1) (a1:AA):Option FV:=
AJ (σ:=FV) (β:=FV) (fun s1=>
if s1.2<a1.2.2.2.2 then
if True then
Option.bind (A_ a0 (AG (a1.2.2.1*2 ^ min (BitVec.ofInt 64 a0.1).toNat 64)) s1.2) (fun r1=>
Option.bind (BQ a0 r1.1) (fun r2=>
if ¬r2.2.2=0 then
some (Sum.inr (([],12)))
else if (AG ((AG ((AG (s1.2+1))+r2.1))+r2.2.1))>a1.2.2.2.2 then
some (Sum.inr (([],12)))
else if (s1.1.length+([r1.1]:List Int).length)*8<=140737488355328 then
some (Sum.inl ((s1.1++([r1.1]:List Int),AG (s1.2+(AG ((AG ((1:Int)+r2.1))+r2.2.1))))))
else none))
else none
else some (Sum.inr ((s1.1,0)))) (([],0))
@[reducible] def U7:FnI:=BX [DX,S_] [IB,DF] fun x=>IL x.1 x.2
def j9:Cx:=BL [(2,(2,1)),(3,(3,1)),(51,(5,1)),(52,(6,1))] [52] [(78,FN),(105,EE)] [(0,B3 [(6,IB),(7,AQ)] [] [] (FA [(4,2),(8,51)]) [] 4)] []
theorem gZ:CV 135 U7:=okW j9 [.tmp 4,.tmp 5] 60 5 (BG (.cons GJ (.cons ES AM.nil)) BD.nil) Tryz.func135
def GB (a0:C7) (a1:Int):Option Bool:=
if a1<0 then
some (false)
else if a1≥(a0.2.1.2.1.length:Int) then
some (false)
else if True then
if 0<=(a1 / 2 ^ min (BitVec.ofInt 64 a0.2.1.1).toNat 64)/\(a1 / 2 ^ min (BitVec.ofInt 64 a0.2.1.1).toNat 64)<(a0.2.1.2.2.length:Int) then
Option.bind (EU a0.2.2.1 ((gl ((0,0,0):AY) a0.2.1.2.2 ((a1 / 2 ^ min (BitVec.ofInt 64 a0.2.1.1).toNat 64).toNat)).1)) (fun r1=>
if (!r1.2)=true then
some (false)
else Option.bind (IL a0.2.1 r1.1) (fun r2=>
AJ (σ:=Int) (β:=Bool) (fun s1=>
if s1<(r2.1.length:Int) then
if 0<=s1/\s1<(r2.1.length:Int) then
if (gl (0:Int) r2.1 s1.toNat)=a1 then
some (Sum.inr (true))
else some (Sum.inl (AG (s1+1)))
else none
else some (Sum.inr (false))) (0)))
else none
else none
@[reducible] def PI:FnI:=BX [HW,AQ] [GX] fun x=>GB x.1 x.2
def l_:Cx:=BL [(2,(7,1)),(5,(8,1)),(45,(9,1))] [] [(134,M3),(135,U7)] [(0,B3 [(50,AQ)] [] [] [4,10,51,52,53,54,55,56,57] [] 10)] []
theorem U8:CV 124 PI:=okW l_ [.tmp 4] 58 3 (BG (.cons RK (.cons gZ AM.nil)) BD.nil) Tryz.func124
def HA (a0:C7) (a1:Int) (a2:Int) (a3:Bool):Option (Int×Int):=
if a0.2.2.2.2.2.2.2.2=true then
some ((0,19))
else Option.bind (GB a0 a1) (fun r1=>
if (!r1)=true then
some ((0,1))
else Option.bind (CH a0.2.1 a1 a2 a3) (fun r2=>
some ((r2.1,r2.2))))
@[reducible] def MG:FnI:=BX [HW,AQ,AQ,lV] [DF,DF] fun x=>HA x.1 x.2.1 x.2.2.1 x.2.2.2
def dE:Cx:=BL [(4,(7,1))] [] [(107,MF),(124,PI)] [] []
theorem P8:CV 123 MG:=okW dE [.tmp 8,.tmp 9] 24 1 (BG (.cons P7 (.cons U8 AM.nil)) BD.nil) Tryz.func123
def D_ (a0:C7) (a1:Int) (a2:Int) (a3:(BitVec 64)):Option (C7×Int):=
Option.bind (HA a0 a1 a2 true) (fun r1=>
if r1.2=19 then
some (((((⟨#[]⟩:ByteArray),[],0),(0,[],[]),[],0,[],([],[]),0,(0,0,0,0,0,0,0,0,0),false),r1.2))
else if ¬a3=(0#64) then
if a3.toNat>(BitVec.ofInt 64 (a0.2.1.2.1.length:Int)).toNat then
if ¬(1:Int)=0 then
some (((((⟨#[]⟩:ByteArray),[],0),(0,[],[]),[],0,[],([],[]),0,(0,0,0,0,0,0,0,0,0),false),1))
else Option.bind (BR a0) (fun r2=>
if 0<=r1.1/\r1.1<(r2.2.1.2.1.length:Int) then
Option.bind (CR (r2.2.1.1,r2.2.1.2.1.set r1.1.toNat a3,r2.2.1.2.2) r2.2.2.2.2.1 r1.1 a3) (fun r3=>
some (((r2.1,(r2.2.1.1,r3.2),r2.2.2.1,r2.2.2.2.1,r3.1,r2.2.2.2.2.2),0)))
else none)
else Option.bind (GB a0 (AG (((a3-(1#64)).toNat:Int)))) (fun r4=>
if (!r4)=true then
if ¬(1:Int)=0 then
some (((((⟨#[]⟩:ByteArray),[],0),(0,[],[]),[],0,[],([],[]),0,(0,0,0,0,0,0,0,0,0),false),1))
else Option.bind (BR a0) (fun r5=>
if 0<=r1.1/\r1.1<(r5.2.1.2.1.length:Int) then
Option.bind (CR (r5.2.1.1,r5.2.1.2.1.set r1.1.toNat a3,r5.2.1.2.2) r5.2.2.2.2.1 r1.1 a3) (fun r6=>
some (((r5.1,(r5.2.1.1,r6.2),r5.2.2.1,r5.2.2.2.1,r6.1,r5.2.2.2.2.2),0)))
else none)
else if ¬r1.2=0 then
some (((((⟨#[]⟩:ByteArray),[],0),(0,[],[]),[],0,[],([],[]),0,(0,0,0,0,0,0,0,0,0),false),r1.2))
else Option.bind (BR a0) (fun r7=>
if 0<=r1.1/\r1.1<(r7.2.1.2.1.length:Int) then
Option.bind (CR (r7.2.1.1,r7.2.1.2.1.set r1.1.toNat a3,r7.2.1.2.2) r7.2.2.2.2.1 r1.1 a3) (fun r8=>
some (((r7.1,(r7.2.1.1,r8.2),r7.2.2.1,r7.2.2.2.1,r8.1,r7.2.2.2.2.2),0)))
else none))
else if ¬r1.2=0 then
some (((((⟨#[]⟩:ByteArray),[],0),(0,[],[]),[],0,[],([],[]),0,(0,0,0,0,0,0,0,0,0),false),r1.2))
else Option.bind (BR a0) (fun r9=>
if 0<=r1.1/\r1.1<(r9.2.1.2.1.length:Int) then
Option.bind (CR (r9.2.1.1,r9.2.1.2.1.set r1.1.toNat a3,r9.2.1.2.2) r9.2.2.2.2.1 r1.1 a3) (fun JQ=>
some (((r9.1,(r9.2.1.1,JQ.2),r9.2.2.1,r9.2.2.2.1,JQ.1,r9.2.2.2.2.2),0)))
else none))
@[reducible] def OJ:FnI:=BX [HW,AQ,AQ,oC] [WA,DF] fun x=>D_ x.1 x.2.1 x.2.2.1 x.2.2.2
def XV:Cx:=BL [(4,(7,1)),(8,(8,1)),(12,(16,1)),(48,(9,7)),(61,(17,1))] [] [(76,DQ),(123,MG),(124,PI),(125,M6)] [] []
theorem WQ:CV 108 OJ:=okW XV [.cell 8 43,.tmp 9] 64 11 (BG (.cons D2 (.cons P8 (.cons U8 (.cons RN AM.nil)))) BD.nil) Tryz.func108
def DU (a0:C7) (a1:Int) (a2:Int) (a3:(BitVec 64)):Option (C7×Int):=
Option.bind (HA a0 a1 a2 false) (fun r1=>
if ¬r1.2=0 then
some (((((⟨#[]⟩:ByteArray),[],0),(0,[],[]),[],0,[],([],[]),0,(0,0,0,0,0,0,0,0,0),false),r1.2))
else Option.bind (BR a0) (fun r2=>
if 0<=r1.1/\r1.1<(r2.2.1.2.1.length:Int) then
some (((r2.1,(r2.2.1.1,r2.2.1.2.1.set r1.1.toNat a3,r2.2.1.2.2),r2.2.2),0))
else none))
@[reducible] def NS:FnI:=BX [HW,AQ,AQ,oC] [WA,DF] fun x=>DU x.1 x.2.1 x.2.2.1 x.2.2.2
def WR:Cx:=BL [(4,(7,1)),(8,(8,1)),(12,(16,1)),(25,(9,7))] [] [(76,DQ),(123,MG)] [] []
theorem VU:CV 109 NS:=okW WR [.cell 8 43,.tmp 9] 33 10 (BG (.cons D2 (.cons P8 AM.nil)) BD.nil) Tryz.func109
def FP (a0:C7) (a1:PV):Option (C7×(Int×(BitVec 64))):=
if a1.1=2 then
Option.bind (BJ a0 a1.2.1) (fun r1=>
Option.bind (CH a0.2.1 (AG ((AG ((r1.toNat:Int)))-1)) a1.2.2.1 true) (fun r2=>
if ¬r2.2=0 then
Option.bind (BA a0 r2.2) (fun r3=>
some ((r3.1,r3.2)))
else if 0<=r2.1/\r2.1<(a0.2.1.2.1.length:Int) then
if a1.1=4 then
Option.bind (BB a0 (gl (0#64:(BitVec 64)) a0.2.1.2.1 r2.1.toNat)) (fun r4=>
some ((r4.1,r4.2)))
else if a1.1=2 then
if (gl (0#64:(BitVec 64)) a0.2.1.2.1 r2.1.toNat)=(0#64) then
Option.bind (BB a0 (0#64)) (fun r5=>
some ((r5.1,r5.2)))
else Option.bind (EV a0) (fun r6=>
if r6=true then
Option.bind (BA a0 15) (fun r7=>
some ((r7.1,r7.2)))
else Option.bind (BR a0) (fun r8=>
Option.bind (DJ r8.2.2.2.2.2.1 (gl (0#64:(BitVec 64)) a0.2.1.2.1 r2.1.toNat)) (fun r9=>
Option.bind (BB (r8.1,r8.2.1,r8.2.2.1,r8.2.2.2.1,r8.2.2.2.2.1,r9.1,r8.2.2.2.2.2.2) (BitVec.ofInt 64 r9.2.1)) (fun JQ=>
some ((JQ.1,JQ.2))))))
else if a1.1=3 then
Option.bind (C2 a0 a1.2.2.2 false) (fun U2=>
if ¬U2=0 then
Option.bind (BA a0 U2) (fun NX=>
some ((NX.1,NX.2)))
else Option.bind (BJ a0 a1.2.1) (fun QV=>
Option.bind (BJ a0 a1.2.2.2) (fun nH=>
Option.bind (D_ a0 (AG ((AG ((QV.toNat:Int)))-1)) a1.2.2.1 nH) (fun oF=>
Option.bind (BB oF.1 (0#64)) (fun pZ=>
some ((pZ.1,pZ.2)))))))
else Option.bind (BJ a0 a1.2.1) (fun r17=>
Option.bind (DU a0 (AG ((AG ((r17.toNat:Int)))-1)) a1.2.2.1 (BitVec.ofInt 64 a1.2.2.2)) (fun r18=>
Option.bind (BB r18.1 (0#64)) (fun r19=>
some ((r19.1,r19.2)))))
else none))
else Option.bind (BJ a0 a1.2.1) (fun r20=>
Option.bind (CH a0.2.1 (AG ((AG ((r20.toNat:Int)))-1)) a1.2.2.1 (decide (a1.1=3))) (fun rV=>
if ¬rV.2=0 then
Option.bind (BA a0 rV.2) (fun r22=>
some ((r22.1,r22.2)))
else if 0<=rV.1/\rV.1<(a0.2.1.2.1.length:Int) then
if a1.1=4 then
Option.bind (BB a0 (gl (0#64:(BitVec 64)) a0.2.1.2.1 rV.1.toNat)) (fun YX=>
some ((YX.1,YX.2)))
else if a1.1=2 then
if (gl (0#64:(BitVec 64)) a0.2.1.2.1 rV.1.toNat)=(0#64) then
Option.bind (BB a0 (0#64)) (fun r24=>
some ((r24.1,r24.2)))
else Option.bind (EV a0) (fun r25=>
if r25=true then
Option.bind (BA a0 15) (fun wP=>
some ((wP.1,wP.2)))
else Option.bind (BR a0) (fun rW=>
Option.bind (DJ rW.2.2.2.2.2.1 (gl (0#64:(BitVec 64)) a0.2.1.2.1 rV.1.toNat)) (fun r28=>
Option.bind (BB (rW.1,rW.2.1,rW.2.2.1,rW.2.2.2.1,rW.2.2.2.2.1,r28.1,rW.2.2.2.2.2.2) (BitVec.ofInt 64 r28.2.1)) (fun vS=>
some ((vS.1,vS.2))))))
else if a1.1=3 then
Option.bind (C2 a0 a1.2.2.2 false) (fun r30=>
if ¬r30=0 then
Option.bind (BA a0 r30) (fun uY=>
some ((uY.1,uY.2)))
else Option.bind (BJ a0 a1.2.1) (fun r32=>
Option.bind (BJ a0 a1.2.2.2) (fun r33=>
Option.bind (D_ a0 (AG ((AG ((r32.toNat:Int)))-1)) a1.2.2.1 r33) (fun r34=>
Option.bind (BB r34.1 (0#64)) (fun r35=>
some ((r35.1,r35.2)))))))
else Option.bind (BJ a0 a1.2.1) (fun r36=>
Option.bind (DU a0 (AG ((AG ((r36.toNat:Int)))-1)) a1.2.2.1 (BitVec.ofInt 64 a1.2.2.2)) (fun r37=>
Option.bind (BB r37.1 (0#64)) (fun r38=>
some ((r38.1,r38.2)))))
else none))
@[reducible] def R_:FnI:=BX [HW,zJ] [HW,AHR] fun x=>FP x.1 x.2
def dF:Cx:=BL [(2,(7,1)),(3,(8,1)),(4,(9,1)),(5,(10,1)),(10,(46,1)),(13,(70,1)),(15,(85,1)),(44,(11,7)),(59,(18,7)),(67,(25,7)),(73,(32,7)),(77,(39,7)),(82,(47,2)),(90,(49,7)),(103,(56,7)),(120,(63,7)),(124,(71,7)),(140,(78,7)),(144,(86,7))] [] [(68,LF),(71,LG),(73,K4),(75,NB),(76,DQ),(97,M9),(99,M_),(107,MF),(108,OJ),(109,NS)] [] []
theorem aJ:CV 79 R_:=okW dF [.cell 4 43,.cell 5 110] 147 86 (BG (.cons N7 (.cons N8 (.cons PH (.cons RX (.cons D2 (.cons RR (.cons RT (.cons P7 (.cons WQ (.cons VU AM.nil)))))))))) BD.nil) Tryz.func79
def MP (a0:C7) (a1:PV):Option (C7×(Int×(BitVec 64))):=
if a1.1<1 then
if a0.2.2.2.2.2.2.2.2=true then
if ¬a1.1=0 then
Option.bind (BA a0 19) (fun r1=>
some ((r1.1,r1.2)))
else Option.bind (BA a0 20) (fun r2=>
some ((r2.1,r2.2)))
else Option.bind (BA a0 20) (fun r3=>
some ((r3.1,r3.2)))
else if a1.1>10 then
if a0.2.2.2.2.2.2.2.2=true then
if ¬a1.1=0 then
Option.bind (BA a0 19) (fun r4=>
some ((r4.1,r4.2)))
else Option.bind (BA a0 20) (fun r5=>
some ((r5.1,r5.2)))
else Option.bind (BA a0 20) (fun r6=>
some ((r6.1,r6.2)))
else if a0.2.2.2.2.2.2.2.2=true then
Option.bind (BA a0 19) (fun r7=>
some ((r7.1,r7.2)))
else if a1.1=1 then
Option.bind (NA a0 a1) (fun r8=>
some ((r8.1,r8.2)))
else if a1.1=8 then
Option.bind (K3 a0) (fun r9=>
Option.bind (BB r9.1 (0#64)) (fun JQ=>
some ((JQ.1,JQ.2))))
else if a1.1=10 then
Option.bind (J9 a0) (fun U2=>
Option.bind (BB a0 (BitVec.ofInt 64 U2)) (fun NX=>
some ((NX.1,NX.2))))
else if a1.1=6 then
Option.bind (C2 a0 a1.2.1 false) (fun QV=>
if ¬QV=0 then
Option.bind (BA a0 QV) (fun nH=>
some ((nH.1,nH.2)))
else Option.bind (C2 a0 a1.2.2.1 false) (fun oF=>
if ¬oF=0 then
Option.bind (BA a0 oF) (fun pZ=>
some ((pZ.1,pZ.2)))
else Option.bind (BJ a0 a1.2.1) (fun r17=>
Option.bind (BJ a0 a1.2.2.1) (fun r18=>
Option.bind (NC (decide (r17=r18))) (fun r19=>
Option.bind (BB a0 r19) (fun r20=>
some ((r20.1,r20.2))))))))
else Option.bind (C2 a0 a1.2.1 true) (fun rV=>
if ¬rV=0 then
Option.bind (BA a0 rV) (fun r22=>
some ((r22.1,r22.2)))
else if a1.1=7 then
Option.bind (BR a0) (fun YX=>
Option.bind (J_ YX.2.2.2.2.2.1 a1.2.1) (fun r24=>
Option.bind (BB (YX.1,YX.2.1,YX.2.2.1,YX.2.2.2.1,YX.2.2.2.2.1,r24.1,YX.2.2.2.2.2.2) (0#64)) (fun r25=>
some ((r25.1,r25.2)))))
else if a1.1=9 then
Option.bind (BJ a0 a1.2.1) (fun wP=>
Option.bind (BQ a0.2.1 (AG ((AG ((wP.toNat:Int)))-1))) (fun rW=>
Option.bind (BB a0 (BitVec.ofInt 64 (AG ((AG ((256:Int)*rW.1))+rW.2.1)))) (fun r28=>
some ((r28.1,r28.2)))))
else Option.bind (FP a0 a1) (fun vS=>
some ((vS.1,vS.2))))
@[reducible] def WC:FnI:=BX [HW,zJ] [HW,AHR] fun x=>MP x.1 x.2
def mA:Cx:=BL [(2,(7,1)),(3,(8,1)),(4,(9,1)),(5,(10,1)),(6,(46,1)),(12,(96,1)),(32,(11,7)),(36,(18,7)),(42,(25,7)),(51,(32,7)),(58,(39,7)),(63,(47,7)),(72,(54,7)),(85,(61,7)),(96,(68,7)),(110,(75,7)),(121,(82,7)),(129,(89,7)),(135,(97,2)),(140,(99,7)),(164,(106,7)),(169,(113,7))] [] [(68,LF),(69,RU),(70,PG),(71,LG),(72,OI),(73,K4),(74,RY),(75,NB),(76,DQ),(77,TR),(78,FN),(79,R_)] [] []
theorem j_:CV 45 WC:=okW mA [.cell 4 43,.cell 5 110] 172 113 (BG (.cons N7 (.cons aE (.cons XT (.cons N8 (.cons WO (.cons PH (.cons aH (.cons RX (.cons D2 (.cons dC (.cons GJ (.cons aJ AM.nil)))))))))))) BD.nil) Tryz.func45
def KA (a0:LZ):Option LZ:=
if (([]:List Bool).length+a0.2.1.length)*1<=140737488355328 then
if (([]:List Int).length+a0.2.2.length)*8<=140737488355328 then
AJ (σ:=(Int×LZ)) (β:=LZ) (fun s1=>
if s1.1<(a0.1.length:Int) then
if 0<=s1.1/\s1.1<(a0.1.length:Int) then
if (([]:List Int).length+((gl (([],[]):JR) a0.1 s1.1.toNat).1).length)*8<=140737488355328 then
if (([]:List (BitVec 64)).length+((gl (([],[]):JR) a0.1 s1.1.toNat).2).length)*8<=140737488355328 then
if (s1.2.1.length+([(([]:List Int)++((gl (([],[]):JR) a0.1 s1.1.toNat).1),([]:List (BitVec 64))++((gl (([],[]):JR) a0.1 s1.1.toNat).2))]:List JR).length)*48<=140737488355328 then
some (Sum.inl ((AG (s1.1+1),(s1.2.1++([(([]:List Int)++((gl (([],[]):JR) a0.1 s1.1.toNat).1),([]:List (BitVec 64))++((gl (([],[]):JR) a0.1 s1.1.toNat).2))]:List JR),s1.2.2))))
else none
else none
else none
else none
else some (Sum.inr (s1.2))) ((0,([],([]:List Bool)++a0.2.1,([]:List Int)++a0.2.2)))
else none
else none
@[reducible] def TS:FnI:=BX [V_] [AQJ] fun x=>KA x
def g_:Cx:=BL [(1,(3,1)),(2,(4,1)),(3,(7,1)),(5,(10,1)),(8,(5,1)),(11,(6,1)),(19,(8,2)),(24,(11,1)),(27,(12,1)),(29,(13,1)),(30,(14,1))] [8,11,24,27,29,30] [] [(0,{ live:=[(16,AQ)],boxes:=[(7,AQJ)],rows:=[],dead:=FA [(5,1),(17,16)],lost:=[5,6],base:=15,pins:=[(16,5,7),(17,6,7)] })] []
theorem dG:CV 80 TS:=okW g_ [.cell 2 46] 34 15 (BG AM.nil BD.nil) Tryz.func80
def AT (a0:LZ) (a1:Int):Option (LZ×(Int×(BitVec 64))):=
some ((a0,(a1,0#64)))
@[reducible] def TT:FnI:=BX [V_,AQ] [V_,AHR] fun x=>AT x.1 x.2
def hD:Cx:=BL [(2,(3,1)),(4,(4,1)),(5,(5,1))] [] [] [] []
theorem dH:CV 81 TT:=okW hD [.cell 4 46,.cell 5 110] 9 3 (BG AM.nil BD.nil) Tryz.func81
def EW (a0:LZ):Option Int:=
AJ (σ:=Int) (β:=Int) (fun s1=>
if s1<(a0.2.1.length:Int) then
if 0<=s1/\s1<(a0.2.1.length:Int) then
if (!(gl (false:Bool) a0.2.1 s1.toNat))=true then
some (Sum.inr (AG (s1+1)))
else some (Sum.inl (AG (s1+1)))
else none
else some (Sum.inr (0))) (0)
@[reducible] def TU:FnI:=BX [V_] [DF] fun x=>EW x
def hO:Cx:=BL [(1,(3,1))] [] [] [(0,B3 [(8,AQ)] [] [] (FA [(2,3),(9,9)]) [] 4)] []
theorem dI:CV 82 TU:=okW hO [.tmp 2] 18 1 (BG AM.nil BD.nil) Tryz.func82
def I_ (a0:LZ):Option (List Int):=
if 0<=(a0.1.length:Int)/\(a0.1.length:Int)<=(a0.1.length:Int)/\(a0.1.length:Int)*((1:Nat):Int)<=140737488355328 then
AJ (σ:=(Int×(List Bool))) (β:=(List Int)) (fun s1=>
if s1.1<(a0.2.1.length:Int) then
if 0<=s1.1/\s1.1<(a0.2.1.length:Int) then
if (gl (false:Bool) a0.2.1 s1.1.toNat)=true then
if 0<=s1.1/\s1.1<(a0.2.2.length:Int) then
if 0<=(gl (0:Int) a0.2.2 s1.1.toNat)/\(gl (0:Int) a0.2.2 s1.1.toNat)<(s1.2.length:Int) then
some (Sum.inl ((AG (s1.1+1),s1.2.set ((gl (0:Int) a0.2.2 s1.1.toNat).toNat) true)))
else none
else none
else some (Sum.inl ((AG (s1.1+1),s1.2)))
else none
else Option.map Sum.inr (AJ (σ:=(Bool×(List Bool))) (β:=(List Int)) (fun s2=>
if s2.1=true then
AJ (σ:=(Bool×Int×(List Bool))) (β:=((Bool×(List Bool)) ⊕ (List Int))) (fun s3=>
if s3.2.1<(a0.1.length:Int) then
if 0<=s3.2.1/\s3.2.1<(a0.1.length:Int) then
AJ (σ:=(Bool×Int×(List Bool))) (β:=((Bool×Int×(List Bool)) ⊕ ((Bool×(List Bool)) ⊕ (List Int)))) (fun s4=>
if s4.2.1<(((gl (([],[]):JR) a0.1 s3.2.1.toNat).1).length:Int) then
if 0<=s4.2.1/\s4.2.1<(((gl (([],[]):JR) a0.1 s3.2.1.toNat).1).length:Int) then
if 0<=s3.2.1/\s3.2.1<(s4.2.2.length:Int) then
if (gl (false:Bool) s4.2.2 s3.2.1.toNat)=true then
if (gl (0:Int) ((gl (([],[]):JR) a0.1 s3.2.1.toNat).1) s4.2.1.toNat)≥0 then
if 0<=(gl (0:Int) ((gl (([],[]):JR) a0.1 s3.2.1.toNat).1) s4.2.1.toNat)/\(gl (0:Int) ((gl (([],[]):JR) a0.1 s3.2.1.toNat).1) s4.2.1.toNat)<(s4.2.2.length:Int) then
if (!(gl (false:Bool) s4.2.2 ((gl (0:Int) ((gl (([],[]):JR) a0.1 s3.2.1.toNat).1) s4.2.1.toNat).toNat)))=true then
if 0<=(gl (0:Int) ((gl (([],[]):JR) a0.1 s3.2.1.toNat).1) s4.2.1.toNat)/\(gl (0:Int) ((gl (([],[]):JR) a0.1 s3.2.1.toNat).1) s4.2.1.toNat)<(s4.2.2.length:Int) then
some (Sum.inl ((true,AG (s4.2.1+1),s4.2.2.set ((gl (0:Int) ((gl (([],[]):JR) a0.1 s3.2.1.toNat).1) s4.2.1.toNat).toNat) true)))
else none
else some (Sum.inl ((s4.1,AG (s4.2.1+1),s4.2.2)))
else none
else some (Sum.inl ((s4.1,AG (s4.2.1+1),s4.2.2)))
else some (Sum.inl ((s4.1,AG (s4.2.1+1),s4.2.2)))
else none
else none
else some (Sum.inr (Sum.inl ((s4.1,AG (s3.2.1+1),s4.2.2))))) ((s3.1,0,s3.2.2))
else none
else some (Sum.inr (Sum.inl ((s3.1,s3.2.2))))) ((false,0,s2.2))
else Option.map Sum.inr (AJ (σ:=FV) (β:=(List Int)) (fun s5=>
if s5.2<(s2.2.length:Int) then
if 0<=s5.2/\s5.2<(s2.2.length:Int) then
if (gl (false:Bool) s2.2 s5.2.toNat)=true then
if (s5.1.length+([s5.2]:List Int).length)*8<=140737488355328 then
some (Sum.inl ((s5.1++([s5.2]:List Int),AG (s5.2+1))))
else none
else some (Sum.inl ((s5.1,AG (s5.2+1))))
else none
else some (Sum.inr (s5.1))) (([],0)))) ((true,s1.2)))) ((0,List.replicate (a0.1.length:Int).toNat (false:Bool)))
else none
@[reducible] def SA:FnI:=BX [V_] [IB] fun x=>I_ x
def dJ:Cx:=BL [(1,(3,1)),(8,(7,1)),(17,(4,1)),(43,(5,2)),(81,(9,1)),(82,(10,1))] [17,82] [] [(0,B3 [(21,AQ)] [] [(4,.bool)] (FA [(4,2),(22,13)]) [] 5),(2,B3 [(6,lV)] [] [(4,.bool)] (FA [(7,2),(10,1),(35,36)]) [] 5),(4,B3 [(6,lV),(39,AQ)] [] [(4,.bool)] (FA [(7,2),(10,1),(40,31)]) [] 5),(6,B3 [(6,lV),(47,AQ)] [] [(4,.bool)] (FA [(10,1),(48,22)]) [] 8),(8,B3 [(11,IB),(73,AQ)] [] [] (FA [(12,2),(74,10)]) [] 8)] []
theorem aK:CV 110 SA:=okW dJ [.tmp 2] 85 8 (BG AM.nil BD.nil) Tryz.func110
def KB (a0:LZ):Option Int:=
Option.bind (I_ a0) (fun r1=>
AJ (σ:=(Int×Int)) (β:=Int) (fun s1=>
if s1.2<(r1.length:Int) then
if 0<=s1.2/\s1.2<(r1.length:Int) then
if 0<=(gl (0:Int) r1 s1.2.toNat)/\(gl (0:Int) r1 s1.2.toNat)<(a0.1.length:Int) then
if 0<=(gl (0:Int) r1 s1.2.toNat)/\(gl (0:Int) r1 s1.2.toNat)<(a0.1.length:Int) then
some (Sum.inl ((AG (s1.1+(AG ((AG ((1:Int)+(((gl (([],[]):JR) a0.1 ((gl (0:Int) r1 s1.2.toNat).toNat)).1).length:Int)))+(((gl (([],[]):JR) a0.1 ((gl (0:Int) r1 s1.2.toNat).toNat)).2).length:Int)))),AG (s1.2+1))))
else none
else none
else none
else some (Sum.inr (s1.1))) ((0,0)))
@[reducible] def TV:FnI:=BX [V_] [DF] fun x=>KB x
def hP:Cx:=BL [(1,(3,1)),(7,(4,1)),(19,(5,2)),(27,(7,2))] [] [(110,SA)] [(0,B3 [(3,AQ),(9,AQ)] [] [] (FA [(5,1),(10,22)]) [] 5)] []
theorem dK:CV 83 TV:=okW hP [.tmp 2] 33 6 (BG (.cons aK AM.nil) BD.nil) Tryz.func83
def C3 (a0:LZ) (a1:Int) (a2:Bool):Option Int:=
if a1=0 then
if a2=true then
some (16)
else if a1=0 then
some (0)
else if a1<0 then
some (14)
else if a1>32 then
some (14)
else if 0<=(AG (a1-1))/\(AG (a1-1))<(a0.2.1.length:Int) then
if (!(gl (false:Bool) a0.2.1 ((AG (a1-1)).toNat)))=true then
some (14)
else some (0)
else none
else if a1=0 then
some (0)
else if a1<0 then
some (14)
else if a1>32 then
some (14)
else if 0<=(AG (a1-1))/\(AG (a1-1))<(a0.2.1.length:Int) then
if (!(gl (false:Bool) a0.2.1 ((AG (a1-1)).toNat)))=true then
some (14)
else some (0)
else none
@[reducible] def P9:FnI:=BX [V_,AQ,lV] [DF] fun x=>C3 x.1 x.2.1 x.2.2
def aL:Cx:=BL [(3,(3,1))] [] [] [] []
theorem YY:CV 84 P9:=okW aL [.tmp 6] 32 1 (BG AM.nil BD.nil) Tryz.func84
def B7 (a0:LZ) (a1:Int):Option Int:=
if a1=0 then
some ((-1))
else if 0<=(AG (a1-1))/\(AG (a1-1))<(a0.2.2.length:Int) then
some (gl (0:Int) a0.2.2 ((AG (a1-1)).toNat))
else none
@[reducible] def TW:FnI:=BX [V_,AQ] [DF] fun x=>B7 x.1 x.2
def hU:Cx:=BL [(2,(3,1))] [] [] [] []
theorem dL:CV 85 TW:=okW hU [.tmp 4] 13 1 (BG AM.nil BD.nil) Tryz.func85
def MQ (a0:LZ) (a1:PV):Option (LZ×(Int×(BitVec 64))):=
Option.bind (KA a0) (fun r1=>
Option.bind (α:=Unit ⊕ (LZ×(Int×(BitVec 64)))) (if a1.1=1 then
if a1.2.1<0 then
Option.bind (AT a0 13) (fun r2=>
some (Sum.inr ((r2.1,r2.2))))
else if a1.2.1>15 then
Option.bind (AT a0 13) (fun r3=>
some (Sum.inr ((r3.1,r3.2))))
else if a1.2.2.1<0 then
Option.bind (AT a0 13) (fun r4=>
some (Sum.inr ((r4.1,r4.2))))
else if a1.2.2.1>32 then
Option.bind (AT a0 13) (fun r5=>
some (Sum.inr ((r5.1,r5.2))))
else Option.bind (EW a0) (fun r6=>
if r6=0 then
Option.bind (AT a0 15) (fun r7=>
some (Sum.inr ((r7.1,r7.2))))
else if 0<=a1.2.2.1/\a1.2.2.1<=a1.2.2.1/\a1.2.2.1*((8:Nat):Int)<=140737488355328 then
AJ (σ:=(Int×JR)) (β:=(Unit ⊕ (LZ×(Int×(BitVec 64))))) (fun s1=>
if s1.1<a1.2.1 then
if (s1.2.1.length+([(-1)]:List Int).length)*8<=140737488355328 then
some (Sum.inl ((AG (s1.1+1),(s1.2.1++([(-1)]:List Int),s1.2.2))))
else none
else Option.map Sum.inr (if (r1.1.length+([(s1.2.1,s1.2.2)]:List JR).length)*48<=140737488355328 then
if 0<=(AG (r6-1))/\(AG (r6-1))<(r1.2.1.length:Int) then
if 0<=(AG (r6-1))/\(AG (r6-1))<(r1.2.2.length:Int) then
some (Sum.inr (((r1.1++([(s1.2.1,s1.2.2)]:List JR),r1.2.1.set ((AG (r6-1)).toNat) true,r1.2.2.set ((AG (r6-1)).toNat) (AG (((r1.1++([(s1.2.1,s1.2.2)]:List JR)).length:Int)-1))),(0,BitVec.ofInt 64 r6))))
else none
else none
else none)) ((0,([],List.replicate a1.2.2.1.toNat (0#64:(BitVec 64)))))
else none)
else if a1.1=8 then
some (Sum.inr ((r1,(0,0#64))))
else if a1.1=10 then
Option.bind (KB a0) (fun r8=>
some (Sum.inr ((r1,(0,BitVec.ofInt 64 r8)))))
else if a1.1=6 then
Option.bind (C3 a0 a1.2.1 false) (fun r9=>
if ¬r9=0 then
Option.bind (AT a0 r9) (fun JQ=>
some (Sum.inr ((JQ.1,JQ.2))))
else Option.bind (C3 a0 a1.2.2.1 false) (fun U2=>
if ¬U2=0 then
Option.bind (AT a0 U2) (fun NX=>
some (Sum.inr ((NX.1,NX.2))))
else Option.bind (B7 a0 a1.2.1) (fun QV=>
Option.bind (B7 a0 a1.2.2.1) (fun nH=>
if QV=nH then
some (Sum.inr ((r1,(0,1#64))))
else some (Sum.inr ((r1,(0,0#64))))))))
else if a1.1=7 then
if a1.1=7 then
some (Sum.inl (()))
else Option.bind (AT a0 20) (fun oF=>
some (Sum.inr ((oF.1,oF.2))))
else if a1.1=9 then
if a1.1=9 then
some (Sum.inl (()))
else Option.bind (AT a0 20) (fun pZ=>
some (Sum.inr ((pZ.1,pZ.2))))
else if a1.1=2 then
if a1.1=2 then
some (Sum.inl (()))
else Option.bind (AT a0 20) (fun r17=>
some (Sum.inr ((r17.1,r17.2))))
else if a1.1=3 then
if a1.1=3 then
some (Sum.inl (()))
else Option.bind (AT a0 20) (fun r18=>
some (Sum.inr ((r18.1,r18.2))))
else if a1.1=4 then
if a1.1=4 then
some (Sum.inl (()))
else Option.bind (AT a0 20) (fun r19=>
some (Sum.inr ((r19.1,r19.2))))
else if a1.1=5 then
some (Sum.inl (()))
else Option.bind (AT a0 20) (fun r20=>
some (Sum.inr ((r20.1,r20.2))))) (fun q=>match q with
|Sum.inl j1=>(Option.bind (C3 a0 a1.2.1 true) (fun rV=>
if ¬rV=0 then
Option.bind (AT a0 rV) (fun r22=>
some ((r22.1,r22.2)))
else Option.bind (B7 a0 a1.2.1) (fun YX=>
if 0<=YX/\YX<(a0.1.length:Int) then
if a1.1=7 then
if 0<=(AG (a1.2.1-1))/\(AG (a1.2.1-1))<(r1.2.1.length:Int) then
if 0<=(AG (a1.2.1-1))/\(AG (a1.2.1-1))<(r1.2.2.length:Int) then
some (((r1.1,r1.2.1.set ((AG (a1.2.1-1)).toNat) false,r1.2.2.set ((AG (a1.2.1-1)).toNat) (-1)),(0,0#64)))
else none
else none
else if a1.1=9 then
some ((r1,(0,BitVec.ofInt 64 (AG ((AG ((256:Int)*(((gl (([],[]):JR) a0.1 YX.toNat).1).length:Int)))+(((gl (([],[]):JR) a0.1 YX.toNat).2).length:Int))))))
else Option.bind (α:=Int ⊕ (LZ×(Int×(BitVec 64)))) (if a1.1=2 then
some (Sum.inl ((((gl (([],[]):JR) a0.1 YX.toNat).1).length:Int)))
else if a1.1=3 then
some (Sum.inl ((((gl (([],[]):JR) a0.1 YX.toNat).1).length:Int)))
else some (Sum.inl ((((gl (([],[]):JR) a0.1 YX.toNat).2).length:Int)))) (fun q=>match q with
|Sum.inl j2=>(if a1.2.2.1<0 then
Option.bind (AT a0 17) (fun r24=>
some ((r24.1,r24.2)))
else if a1.2.2.1≥j2 then
Option.bind (AT a0 17) (fun r25=>
some ((r25.1,r25.2)))
else if a1.1=4 then
if 0<=a1.2.2.1/\a1.2.2.1<(((gl (([],[]):JR) a0.1 YX.toNat).2).length:Int) then
some ((r1,(0,gl (0#64:(BitVec 64)) ((gl (([],[]):JR) a0.1 YX.toNat).2) a1.2.2.1.toNat)))
else none
else if a1.1=5 then
Option.bind (B7 a0 a1.2.1) (fun wP=>
if 0<=wP/\wP<(r1.1.length:Int) then
if 0<=a1.2.2.1/\a1.2.2.1<(((gl (([],[]):JR) r1.1 wP.toNat).2).length:Int) then
some (((r1.1.set wP.toNat ((gl (([],[]):JR) r1.1 wP.toNat).1,(gl (([],[]):JR) r1.1 wP.toNat).2.set a1.2.2.1.toNat (BitVec.ofInt 64 a1.2.2.2)),r1.2),(0,0#64)))
else none
else none)
else if a1.1=3 then
Option.bind (C3 a0 a1.2.2.2 false) (fun rW=>
if ¬rW=0 then
Option.bind (AT a0 rW) (fun r28=>
some ((r28.1,r28.2)))
else Option.bind (B7 a0 a1.2.1) (fun vS=>
if 0<=vS/\vS<(r1.1.length:Int) then
Option.bind (B7 a0 a1.2.2.2) (fun r30=>
if 0<=a1.2.2.1/\a1.2.2.1<(((gl (([],[]):JR) r1.1 vS.toNat).1).length:Int) then
some (((r1.1.set vS.toNat ((gl (([],[]):JR) r1.1 vS.toNat).1.set a1.2.2.1.toNat r30,(gl (([],[]):JR) r1.1 vS.toNat).2),r1.2),(0,0#64)))
else none)
else none))
else if 0<=a1.2.2.1/\a1.2.2.1<(((gl (([],[]):JR) a0.1 YX.toNat).1).length:Int) then
if (gl (0:Int) ((gl (([],[]):JR) a0.1 YX.toNat).1) a1.2.2.1.toNat)=(-1) then
some ((r1,(0,0#64)))
else Option.bind (EW a0) (fun uY=>
if uY=0 then
Option.bind (AT a0 15) (fun r32=>
some ((r32.1,r32.2)))
else if 0<=(AG (uY-1))/\(AG (uY-1))<(r1.2.1.length:Int) then
if 0<=(AG (uY-1))/\(AG (uY-1))<(r1.2.2.length:Int) then
some (((r1.1,r1.2.1.set ((AG (uY-1)).toNat) true,r1.2.2.set ((AG (uY-1)).toNat) (gl (0:Int) ((gl (([],[]):JR) a0.1 YX.toNat).1) a1.2.2.1.toNat)),(0,BitVec.ofInt 64 uY)))
else none
else none)
else none)
|Sum.inr b1=>some b1)
else none)))
|Sum.inr b2=>some b2))
@[reducible] def WD:FnI:=BX [V_,zJ] [V_,AHR] fun x=>MQ x.1 x.2
def mB:Cx:=BL [(2,(3,1)),(3,(4,1)),(4,(5,1)),(5,(6,1)),(6,(10,1)),(8,(18,1)),(13,(39,1)),(19,(7,3)),(23,(31,3)),(47,(11,3)),(55,(14,3)),(60,(17,1)),(70,(19,1)),(71,(20,1)),(76,(23,1)),(77,(24,1)),(118,(25,3)),(129,(28,3)),(160,(34,3)),(170,(37,2)),(226,(40,3)),(270,(43,3)),(306,(46,3))] [60,71,76,77] [(80,TS),(81,TT),(82,TU),(83,TV),(84,P9),(85,TW)] [(1,{ live:=[(9,AQ)],boxes:=[(18,⟨A18,true,true,false⟩)],rows:=[],dead:=FA [(62,11)],lost:=[17],base:=21,pins:=[(22,17,18)] })] [(38,B3 [] [] [] (FA [(7,5),(20,132)]) [] 34),(51,B3 [(14,AQ)] [] [] (FA [(205,11)]) [] 40)]
theorem kA:CV 46 WD:=okW mB [.cell 4 46,.cell 5 110] 324 46 (BG (.cons dG (.cons dH (.cons dI (.cons dK (.cons YY (.cons dL AM.nil)))))) BD.nil) Tryz.func46
def BK (a0:(List Int)) (a1:FV):Option (Int×(List Int)×FV):=
if (a0.length:Int)=0 then
Option.bind (AF a1 35) (fun r1=>
some ((r1.1,a0,r1.2)))
else Option.bind (AF a1 12) (fun r2=>
if r2.1=0 then
Option.bind (AF r2.2 35) (fun r3=>
some ((r3.1,a0,r3.2)))
else Option.bind (AF r2.2 (a0.length:Int)) (fun r4=>
if 0<=r4.1/\r4.1<(a0.length:Int) then
some ((gl (0:Int) a0 r4.1.toNat,a0,r4.2))
else none))
@[reducible] def U9:FnI:={ ps:=[⟨AEM,false,false,true⟩,O2],rs:=[DF],os:=[⟨AEM,false,false,true⟩,O2],bk:=[0,2],sh:=[.one,.pp 4],nR:=[(4,2)],F:=fun x=>BK x.1 x.2 }
def kB:Cx:=BL [(8,(6,1)),(12,(5,1)),(17,(7,1))] [] [(42,DA)] [] []
theorem hZ:CV 67 U9:=okW kB [.tmp 2] 20 4 (BG (.cons DN AM.nil) BD.nil) Tryz.func67
def KM (a0:FV) (a1:LZ):Option (PV×FV):=
AJ (σ:=(Int×(List Int))) (β:=(PV×FV)) (fun s1=>
if s1.1<(a1.2.1.length:Int) then
if 0<=s1.1/\s1.1<(a1.2.1.length:Int) then
if (gl (false:Bool) a1.2.1 s1.1.toNat)=true then
if (s1.2.length+([AG (s1.1+1)]:List Int).length)*8<=140737488355328 then
some (Sum.inl ((AG (s1.1+1),s1.2++([AG (s1.1+1)]:List Int))))
else none
else some (Sum.inl ((AG (s1.1+1),s1.2)))
else none
else Option.map Sum.inr (Option.bind (AF a0 20) (fun r1=>
if 0<=r1.1/\r1.1<(([1,1,1,1,2,2,3,3,3,3,4,5,6,7,7,7,8,9,10,0]:List Int).length:Int) then
Option.bind (α:=PV ⊕ (PV×FV)) (if (s1.2.length:Int)>20 then
if (gl (0:Int) ([1,1,1,1,2,2,3,3,3,3,4,5,6,7,7,7,8,9,10,0]:List Int) r1.1.toNat)=1 then
some (Sum.inl ((7,0,0,0)))
else some (Sum.inl ((gl (0:Int) ([1,1,1,1,2,2,3,3,3,3,4,5,6,7,7,7,8,9,10,0]:List Int) r1.1.toNat,0,0,0)))
else some (Sum.inl ((gl (0:Int) ([1,1,1,1,2,2,3,3,3,3,4,5,6,7,7,7,8,9,10,0]:List Int) r1.1.toNat,0,0,0)))) (fun q=>match q with
|Sum.inl j1=>(if j1.1=1 then
Option.bind (AF r1.2 4) (fun r2=>
Option.bind (AF r2.2 4) (fun r3=>
if 0<=r3.1/\r3.1<(([3,3,8,17]:List Int).length:Int) then
Option.bind (AF r3.2 (gl (0:Int) ([3,3,8,17]:List Int) r3.1.toNat)) (fun r4=>
some (((j1.1,r2.1,r4.1,j1.2.2.2),r4.2)))
else none))
else Option.bind (α:=Bool ⊕ (PV×FV)) (if j1.1=2 then
some (Sum.inl (decide (j1.1=2)))
else some (Sum.inl (decide (j1.1=4)))) (fun q=>match q with
|Sum.inl j2=>(if j2=true then
Option.bind (BK s1.2 r1.2) (fun r5=>
Option.bind (AF r5.2.2 3) (fun r6=>
some (((j1.1,r5.1,r6.1,j1.2.2.2),r6.2))))
else if j1.1=3 then
Option.bind (BK s1.2 r1.2) (fun r7=>
Option.bind (AF r7.2.2 3) (fun r8=>
Option.bind (BK r7.2.1 r8.2) (fun r9=>
some (((j1.1,r7.1,r8.1,r9.1),r9.2.2)))))
else if j1.1=5 then
Option.bind (BK s1.2 r1.2) (fun JQ=>
Option.bind (AF JQ.2.2 3) (fun U2=>
Option.bind (AF U2.2 256) (fun NX=>
some (((j1.1,JQ.1,U2.1,NX.1),NX.2)))))
else if j1.1=6 then
Option.bind (BK s1.2 r1.2) (fun QV=>
Option.bind (BK QV.2.1 QV.2.2) (fun nH=>
some (((j1.1,QV.1,nH.1,j1.2.2.2),nH.2.2))))
else if j1.1=7 then
if j1.1=7 then
Option.bind (BK s1.2 r1.2) (fun oF=>
some (((j1.1,oF.1,j1.2.2),oF.2.2)))
else some ((j1,r1.2))
else if j1.1=9 then
Option.bind (BK s1.2 r1.2) (fun pZ=>
some (((j1.1,pZ.1,j1.2.2),pZ.2.2)))
else some ((j1,r1.2)))
|Sum.inr b1=>some b1))
|Sum.inr b2=>some b2)
else none))) ((0,[]))
@[reducible] def XW:FnI:={ ps:=[O2,V_],rs:=[⟨AK6,true,true,false⟩],os:=[O2],bk:=[0],F:=fun x=>KM x.1 x.2 }
def oG:Cx:=BL [(2,(5,1)),(3,(6,1)),(4,(7,1)),(5,(8,1)),(9,(14,1)),(22,(9,1)),(23,(10,1)),(26,(12,1)),(28,(13,1)),(46,(15,1)),(48,(16,1)),(50,(17,1)),(53,(18,1)),(60,(19,2)),(62,(21,1)),(68,(22,2)),(70,(24,1)),(72,(25,2)),(79,(27,2)),(81,(29,1)),(83,(30,1)),(90,(31,2)),(92,(33,2)),(99,(35,2))] [23] [(42,DA),(67,U9)] [(0,B3 [(13,AQ)] [(8,IB)] [] (FA [(6,2),(14,11)]) [] 11)] [(12,B3 [] [(14,zJ)] [] (FA [(32,9)]) [] 15),(17,B3 [(56,lV)] [] [] [57,58] [] 19)]
theorem mC:CV 44 XW:=okW oG [.cell 4 107] 102 32 (BG (.cons DN (.cons hZ AM.nil)) BD.nil) Tryz.func44
def NF :Option (List ByteArray):=
some (([(⟨#[115,101,109,105,115,112,97,99,101]⟩:ByteArray),(⟨#[97,112,112,101,108]⟩:ByteArray),(⟨#[102,105,120,101,100]⟩:ByteArray),(⟨#[111,108,100,101,114,45,102,105,114,115,116]⟩:ByteArray),(⟨#[120,120]⟩:ByteArray),(⟨#[120,120,49,48,48]⟩:ByteArray)]:List ByteArray))
@[reducible] def SB:FnI:=BX [] [⟨(.slice .str),false,true,false⟩] fun x=>NF 
def dM:Cx:=BL [(1,(0,1))] [1] [] [] []
theorem aM:CV 47 SB:=okW dM [.tmp 0] 2 1 (BG AM.nil BD.nil) Tryz.func47
def F4 (a0:Int):Option (Nat×Int):=
if a0<0 then
some ((0,1))
else if a0>100 then
some ((0,1))
else if (JW .quo (bC a0) 4636737291354636288).isSome=true then
some (((JW .quo (bC a0) 4636737291354636288).getD 0,0))
else none
@[reducible] def KC:FnI:=BX [AQ] [⟨.QP,false,true,false⟩,DF] fun x=>F4 x
def YZ:Cx:=BL [] [] [] [] []
theorem OK:CV 37 KC:=okW YZ [.tmp 2,.tmp 3] 13 0 (BG AM.nil BD.nil) Tryz.func37
def FG (a0:ByteArray) (a1:Int):Option (GP×Int):=
Option.bind (F4 a1) (fun r1=>
if ¬r1.2=0 then
if a0=(⟨#[115,101,109,105,115,112,97,99,101]⟩:ByteArray) then
some ((((⟨#[]⟩:ByteArray),[],0),6))
else if a0=(⟨#[97,112,112,101,108]⟩:ByteArray) then
some ((((⟨#[]⟩:ByteArray),[],0),6))
else if a0=(⟨#[102,105,120,101,100]⟩:ByteArray) then
some ((((⟨#[]⟩:ByteArray),[],0),6))
else if a0=(⟨#[111,108,100,101,114,45,102,105,114,115,116]⟩:ByteArray) then
some ((((⟨#[]⟩:ByteArray),[],0),6))
else if a0=(⟨#[120,120]⟩:ByteArray) then
some ((((⟨#[]⟩:ByteArray),[],0),6))
else if a0=(⟨#[120,120,49,48,48]⟩:ByteArray) then
some ((((⟨#[]⟩:ByteArray),[],0),6))
else some ((((⟨#[]⟩:ByteArray),[],0),7))
else if a0=(⟨#[115,101,109,105,115,112,97,99,101]⟩:ByteArray) then
if a1<1 then
some ((((⟨#[]⟩:ByteArray),[],0),6))
else some (((a0,([(0,0,0,0)]:List AU),1),0))
else if a0=(⟨#[97,112,112,101,108]⟩:ByteArray) then
if a1<1 then
some ((((⟨#[]⟩:ByteArray),[],0),6))
else some (((a0,([(0,0,0,1),(0,0,0,1)]:List AU),8),0))
else if a0=(⟨#[102,105,120,101,100]⟩:ByteArray) then
if a1<1 then
some ((((⟨#[]⟩:ByteArray),[],0),6))
else some (((a0,([(r1.1,1,0,1),(0,0,0,1)]:List AU),8),0))
else if a0=(⟨#[111,108,100,101,114,45,102,105,114,115,116]⟩:ByteArray) then
if a1<1 then
some ((((⟨#[]⟩:ByteArray),[],0),6))
else some (((a0,([(r1.1,0,1,0)]:List AU),0),0))
else if a0=(⟨#[120,120]⟩:ByteArray) then
if a1<1 then
some ((((⟨#[]⟩:ByteArray),[],0),6))
else some (((a0,([(r1.1,0,1,1),(r1.1,0,1,1)]:List AU),0),0))
else if a0=(⟨#[120,120,49,48,48]⟩:ByteArray) then
if a1<1 then
some ((((⟨#[]⟩:ByteArray),[],0),6))
else some (((a0,([(r1.1,0,1,1),(r1.1,0,1,2),(0,0,0,2)]:List AU),8),0))
else some ((((⟨#[]⟩:ByteArray),[],0),7)))
@[reducible] def N9:FnI:=BX [AYF,AQ] [AKA,DF] fun x=>FG x.1 x.2
def kC:Cx:=BL [(4,(0,1)),(9,(1,1)),(28,(2,1)),(35,(3,1)),(42,(4,1)),(48,(5,1)),(57,(6,1)),(67,(7,1))] [28,35,42,48,57,67] [(37,KC)] [] []
theorem TX:CV 20 N9:=okW kC [.cell 4 24,.tmp 5] 72 8 (BG (.cons OK AM.nil) BD.nil) Tryz.func20
def KD (a0:FV):Option (Nat×FV):=
Option.bind (AF a0 4) (fun r1=>
if r1.1=0 then
Option.bind (AF r1.2 5) (fun r2=>
if 0<=r2.1/\r2.1<(([4602678819172646912,4593671619917905920,4607182418800017408,4599676419421066581,4562254508917369340]:List Nat).length:Int) then
some ((gl (0:Nat) ([4602678819172646912,4593671619917905920,4607182418800017408,4599676419421066581,4562254508917369340]:List Nat) r2.1.toNat,r2.2))
else none)
else Option.bind (AF r1.2 100) (fun r3=>
Option.bind (F4 (AG ((1:Int)+r3.1))) (fun r4=>
some ((r4.1,r3.2)))))
@[reducible] def TY:FnI:={ ps:=[O2],rs:=[⟨.QP,false,true,false⟩],os:=[O2],bk:=[0],F:=fun x=>KD x }
def h_:Cx:=BL [(6,(2,1)),(8,(3,1)),(10,(4,1)),(15,(5,1))] [] [(37,KC),(42,DA)] [] []
theorem dN:CV 48 TY:=okW h_ [.tmp 2] 21 4 (BG (.cons OK (.cons DN AM.nil)) BD.nil) Tryz.func48
def JA (a0:FV):Option (GP×FV):=
Option.bind (AF a0 3) (fun r1=>
if r1.1>0 then
Option.bind (NF) (fun r2=>
Option.bind (AF r1.2 6) (fun r3=>
if 0<=r3.1/\r3.1<(r2.length:Int) then
Option.bind (AF r3.2 100) (fun r4=>
Option.bind (AF r4.2 6) (fun r5=>
if 0<=r5.1/\r5.1<(([10,15,25,30,50,AG ((1:Int)+r4.1)]:List Int).length:Int) then
Option.bind (FG (gl (⟨#[]⟩:ByteArray) r2 r3.1.toNat) (gl (0:Int) ([10,15,25,30,50,AG ((1:Int)+r4.1)]:List Int) r5.1.toNat)) (fun r6=>
Option.bind (α:=(FV×GP) ⊕ (GP×FV)) (if r6.1.2.2>0 then
Option.bind (AF r5.2 5) (fun r7=>
some (Sum.inl ((r7.2,(r6.1.1,r6.1.2.1,AG ((1:Int)+r7.1))))))
else some (Sum.inl ((r5.2,r6.1)))) (fun q=>match q with
|Sum.inl j1=>(some ((j1.2,j1.1)))
|Sum.inr b1=>some b1))
else none))
else none))
else Option.bind (AF r1.2 4) (fun r8=>
AJ (σ:=(Int×FV×GP)) (β:=(GP×FV)) (fun s1=>
if s1.1<(AG ((1:Int)+r8.1)) then
Option.bind (AF s1.2.1 3) (fun r9=>
Option.bind (α:=(FV×AU) ⊕ ((Int×FV×GP) ⊕ (GP×FV))) (Option.bind (AF r9.2 3) (fun JQ=>
if JQ.1>0 then
Option.bind (KD JQ.2) (fun U2=>
some (Sum.inl ((U2.2,(U2.1,0,r9.1,AG (s1.1+1))))))
else some (Sum.inl ((JQ.2,(0,0,r9.1,AG (s1.1+1))))))) (fun q=>match q with
|Sum.inl j2=>(if s1.1<(AG ((AG ((1:Int)+r8.1))-1)) then
Option.bind (AF j2.1 3) (fun NX=>
if NX.1=0 then
Option.bind (AF NX.2 2) (fun QV=>
if s1.1=(AG ((AG ((1:Int)+r8.1))-1)) then
if D5 j2.2.1 0=some .eq then
Option.bind (AF QV.2 6) (fun nH=>
if (s1.2.2.2.1.length+([(j2.2.1,AG ((1:Int)+QV.1),j2.2.2.2.1,s1.1)]:List AU).length)*32<=140737488355328 then
some (Sum.inl ((AG (s1.1+1),nH.2,(s1.2.2.1,s1.2.2.2.1++([(j2.2.1,AG ((1:Int)+QV.1),j2.2.2.2.1,s1.1)]:List AU),AG ((1:Int)+nH.1)))))
else none)
else if (s1.2.2.2.1.length+([(j2.2.1,AG ((1:Int)+QV.1),j2.2.2.2.1,s1.1)]:List AU).length)*32<=140737488355328 then
some (Sum.inl ((AG (s1.1+1),QV.2,(s1.2.2.1,s1.2.2.2.1++([(j2.2.1,AG ((1:Int)+QV.1),j2.2.2.2.1,s1.1)]:List AU),s1.2.2.2.2))))
else none
else if (s1.2.2.2.1.length+([(j2.2.1,AG ((1:Int)+QV.1),j2.2.2.2)]:List AU).length)*32<=140737488355328 then
some (Sum.inl ((AG (s1.1+1),QV.2,(s1.2.2.1,s1.2.2.2.1++([(j2.2.1,AG ((1:Int)+QV.1),j2.2.2.2)]:List AU),s1.2.2.2.2))))
else none)
else if s1.1=(AG ((AG ((1:Int)+r8.1))-1)) then
if D5 j2.2.1 0=some .eq then
Option.bind (AF NX.2 6) (fun oF=>
if (s1.2.2.2.1.length+([(j2.2.1,j2.2.2.1,j2.2.2.2.1,s1.1)]:List AU).length)*32<=140737488355328 then
some (Sum.inl ((AG (s1.1+1),oF.2,(s1.2.2.1,s1.2.2.2.1++([(j2.2.1,j2.2.2.1,j2.2.2.2.1,s1.1)]:List AU),AG ((1:Int)+oF.1)))))
else none)
else if (s1.2.2.2.1.length+([(j2.2.1,j2.2.2.1,j2.2.2.2.1,s1.1)]:List AU).length)*32<=140737488355328 then
some (Sum.inl ((AG (s1.1+1),NX.2,(s1.2.2.1,s1.2.2.2.1++([(j2.2.1,j2.2.2.1,j2.2.2.2.1,s1.1)]:List AU),s1.2.2.2.2))))
else none
else if (s1.2.2.2.1.length+([j2.2]:List AU).length)*32<=140737488355328 then
some (Sum.inl ((AG (s1.1+1),NX.2,(s1.2.2.1,s1.2.2.2.1++([j2.2]:List AU),s1.2.2.2.2))))
else none)
else if s1.1=(AG ((AG ((1:Int)+r8.1))-1)) then
if D5 j2.2.1 0=some .eq then
Option.bind (AF j2.1 6) (fun pZ=>
if (s1.2.2.2.1.length+([(j2.2.1,j2.2.2.1,j2.2.2.2.1,s1.1)]:List AU).length)*32<=140737488355328 then
some (Sum.inl ((AG (s1.1+1),pZ.2,(s1.2.2.1,s1.2.2.2.1++([(j2.2.1,j2.2.2.1,j2.2.2.2.1,s1.1)]:List AU),AG ((1:Int)+pZ.1)))))
else none)
else if (s1.2.2.2.1.length+([(j2.2.1,j2.2.2.1,j2.2.2.2.1,s1.1)]:List AU).length)*32<=140737488355328 then
some (Sum.inl ((AG (s1.1+1),j2.1,(s1.2.2.1,s1.2.2.2.1++([(j2.2.1,j2.2.2.1,j2.2.2.2.1,s1.1)]:List AU),s1.2.2.2.2))))
else none
else if (s1.2.2.2.1.length+([j2.2]:List AU).length)*32<=140737488355328 then
some (Sum.inl ((AG (s1.1+1),j2.1,(s1.2.2.1,s1.2.2.2.1++([j2.2]:List AU),s1.2.2.2.2))))
else none)
|Sum.inr b2=>some b2))
else some (Sum.inr ((s1.2.2,s1.2.1)))) ((0,r8.2,((⟨#[111,119,110]⟩:ByteArray),[],0)))))
@[reducible] def SC:FnI:={ ps:=[O2],rs:=[AKA],os:=[O2],bk:=[0],F:=fun x=>JA x }
def dO:Cx:=BL [(2,(2,1)),(3,(10,1)),(6,(15,1)),(8,(17,1)),(10,(3,1)),(13,(4,1)),(15,(5,1)),(19,(6,1)),(21,(7,1)),(23,(8,1)),(26,(9,1)),(33,(11,1)),(38,(14,1)),(47,(16,1)),(52,(18,1)),(55,(19,1)),(63,(21,1)),(67,(22,1)),(80,(23,1)),(86,(24,1)),(87,(25,1))] [87] [(20,N9),(42,DA),(47,SB),(48,TY)] [(0,B3 [(7,AQ)] [(0,AK8),(15,AKA)] [] (FA [(8,1),(41,48)]) [] 27)] [(5,{ live:=[],boxes:=[(0,AK8),(10,AKA)],rows:=[],dead:=FA [(29,7)],lost:=[9],base:=12,pins:=[(13,9,10)] }),(14,B3 [] [(0,AK8),(17,⟨AWB,true,false,false⟩)] [] (FA [(51,6)]) [] 20)]
theorem aN:CV 23 SC:=okW dO [.cell 2 24] 90 27 (BG (.cons TX (.cons DN (.cons aM (.cons dN AM.nil)))) BD.nil) Tryz.func23
def N_ (a0:FV):Option (Int×Int×FV):=
Option.bind (AF a0 2) (fun r1=>
Option.bind (AF r1.2 15) (fun r2=>
some ((AG ((3:Int)+r1.1),AG ((6:Int)+r2.1),r2.2))))
@[reducible] def TZ:FnI:={ ps:=[O2],rs:=[DF,DF],os:=[O2],bk:=[0],F:=fun x=>N_ x }
def iA:Cx:=BL [(5,(2,1)),(8,(3,1))] [] [(42,DA)] [] []
theorem dP:CV 40 TZ:=okW iA [.tmp 2,.tmp 3] 10 2 (BG (.cons DN AM.nil) BD.nil) Tryz.func40
def LH :Option LZ:=
if 0<=(32:Int)/\(32:Int)<=(32:Int)/\(32:Int)*((1:Nat):Int)<=140737488355328 then
if 0<=(32:Int)/\(32:Int)<=(32:Int)/\(32:Int)*((8:Nat):Int)<=140737488355328 then
AJ (σ:=(Int×(List Int))) (β:=LZ) (fun s1=>
if s1.1<((List.replicate (32:Int).toNat (0:Int)).length:Int) then
if 0<=s1.1/\s1.1<(s1.2.length:Int) then
some (Sum.inl ((AG (s1.1+1),s1.2.set s1.1.toNat (-1))))
else none
else some (Sum.inr (([],List.replicate (32:Int).toNat (false:Bool),s1.2)))) ((0,List.replicate (32:Int).toNat (0:Int)))
else none
else none
@[reducible] def U_:FnI:=BX [] [AQJ] fun x=>LH 
def kD:Cx:=BL [(0,(0,1)),(1,(3,1)),(3,(1,1)),(4,(2,1))] [3,4] [] [(0,B3 [(9,AQ)] [] [(2,(.int .i64))] (FA [(2,1),(10,7)]) [] 4)] []
theorem iB:CV 41 U_:=okW kD [.cell 0 46] 18 4 (BG AM.nil BD.nil) Tryz.func41
def KE (a0:FV):Option (Bool×FV):=
some ((decide (a0.2<(a0.1.length:Int)),a0))
@[reducible] def OL:FnI:={ ps:=[O2],rs:=[GX],os:=[O2],bk:=[0],F:=fun x=>KE x }
def XX:Cx:=BL [] [] [] [] []
theorem WS:CV 43 OL:=okW XX [.tmp 2] 13 0 (BG AM.nil BD.nil) Tryz.func43
def HC (a0:FV) (a1:GP):Option (C7×LZ×FV):=
Option.bind (N_ a0) (fun r1=>
Option.bind (IG a1 r1.1 r1.2.1) (fun r2=>
Option.bind (LH) (fun r3=>
Option.bind (AF r1.2.2 50) (fun r4=>
AJ (σ:=(Int×FV×C7×LZ)) (β:=(C7×LZ×FV)) (fun s1=>
if s1.1>0 then
Option.bind (KE s1.2.1) (fun r5=>
if r5.1=true then
Option.bind (KM r5.2 s1.2.2.2) (fun r6=>
Option.bind (MP s1.2.2.1 r6.1) (fun r7=>
if r7.2.1=18 then
some (Sum.inl ((AG (s1.1-1),r6.2,s1.2.2.1,s1.2.2.2)))
else Option.bind (MQ s1.2.2.2 r6.1) (fun r8=>
some (Sum.inl ((AG (s1.1-1),r6.2,r7.1,r8.1))))))
else some (Sum.inr ((s1.2.2.1,s1.2.2.2,r5.2))))
else some (Sum.inr ((s1.2.2.1,s1.2.2.2,s1.2.1)))) ((AG ((6:Int)+r4.1),r4.2,r2.1,r3))))))
@[reducible] def SD:FnI:={ ps:=[O2,UX],rs:=[HW,V_],os:=[O2],bk:=[0],F:=fun x=>HC x.1 x.2 }
def dQ:Cx:=BL [(3,(3,1)),(4,(4,1)),(5,(5,1)),(8,(14,1)),(10,(18,1)),(12,(22,1)),(13,(30,1)),(14,(31,1)),(17,(6,1)),(24,(7,7)),(27,(15,3)),(29,(19,1)),(35,(20,1)),(41,(21,1)),(45,(23,7)),(55,(52,3))] [] [(21,N3),(40,TZ),(41,U_),(42,DA),(43,OL),(44,XW),(45,WC),(46,WD)] [(0,B3 [(11,AQ)] [(0,AK8),(14,HW),(18,V_)] [] (FA [(12,3),(31,27)]) [7,8,9,10,11,12,13,15,16,17] 41)] []
theorem aO:CV 22 SD:=okW dQ [.cell 4 43,.cell 5 46] 60 52 (BG (.cons TI (.cons dP (.cons iB (.cons DN (.cons WS (.cons mC (.cons j_ (.cons kA AM.nil)))))))) BD.nil) Tryz.func22
def IM (a0:FV):Option (C7×LZ×FV):=
Option.bind (JA a0) (fun r1=>
Option.bind (HC r1.2 r1.1) (fun r2=>
some ((r2.1,r2.2.1,r2.2.2))))
@[reducible] def OA:FnI:={ ps:=[O2],rs:=[HW,V_],os:=[O2],bk:=[0],F:=fun x=>IM x }
def kE:Cx:=BL [(2,(2,1)),(3,(3,1)),(6,(4,2)),(7,(6,11))] [] [(22,SD),(23,SC)] [] []
theorem T0:CV 8 OA:=okW kE [.cell 2 43,.cell 3 46] 10 15 (BG (.cons aO (.cons aN AM.nil)) BD.nil) Tryz.func8
end
noncomputable section
def JB (a0:ED):Option Bool:=
AJ (σ:=(Int×Int)) (β:=Bool) (fun s1=>
if s1.2<(a0.length:Int) then
if 0<=s1.2/\s1.2<(a0.length:Int) then
some (Sum.inl ((AG (s1.1+((gl ([]:(List AA)) a0 s1.2.toNat).length:Int)),AG (s1.2+1))))
else none
else Option.map Sum.inr (if (a0.length:Int)<=8 then
some (decide (s1.1<=40))
else some (false))) ((0,0))
@[reducible] def SE:FnI:=BX [KL] [GX] fun x=>JB x
def dR:Cx:=BL [(11,(1,1))] [] [] [(0,B3 [(3,AQ),(8,AQ)] [] [] (FA [(5,1),(9,8)]) [] 1)] []
theorem aP:CV 6 SE:=okW dR [.tmp 2] 24 1 (BG AM.nil BD.nil) Tryz.func6
def PJ (a0:Nat):Option Bool:=
if a0<18446744073709551616 then
if (BitVec.ofNat 64 a0)=(0#64) then
some (true)
else if D5 a0 0=some .gt then
some (decide (D5 a0 4607182418800017408=some .lt\/D5 a0 4607182418800017408=some .eq))
else some (false)
else none
@[reducible] def iQ:FnI:=BX [AYE] [GX] fun x=>PJ x
def wQ:Cx:={ nm:=[],CG:=[],fns:=AEG [],loops:=[],bN:=[],tb:=oB,exts:=[(93,.YD)],lets:=[] }
theorem uZ:CV 86 iQ:=okW wQ [.tmp 2] 14 0 (BG AM.nil (.cons AYJ BD.nil)) Tryz.func86
def NT (a0:Int):Option Bool:=
if a0≥0 then
some (decide (a0<=64))
else some (false)
@[reducible] def dS:FnI:=BX [AQ] [GX] fun x=>NT x
def u4:Cx:=BL [] [] [] [] []
theorem rD:CV 87 dS:=okW u4 [.tmp 2] 9 0 (BG AM.nil BD.nil) Tryz.func87
def UE (a0:GP) (a1:Int):Option Int:=
if 0<=a1/\a1<(a0.2.1.length:Int) then
Option.bind (PJ ((gl ((0,0,0,0):AU) a0.2.1 a1.toNat).1)) (fun r1=>
if (!r1)=true then
some (6)
else Option.bind (NT (((gl ((0,0,0,0):AU) a0.2.1 a1.toNat).2).1)) (fun r2=>
if (!r2)=true then
some (9)
else Option.bind (NT ((((gl ((0,0,0,0):AU) a0.2.1 a1.toNat).2).2).1)) (fun r3=>
if (!r3)=true then
some (9)
else if a1=(AG ((a0.2.1.length:Int)-1)) then
if ¬(((gl ((0,0,0,0):AU) a0.2.1 a1.toNat).2).1)=0 then
some (9)
else if a1=(AG ((a0.2.1.length:Int)-1)) then
if ¬((((gl ((0,0,0,0):AU) a0.2.1 a1.toNat).2).2).2)=a1 then
some (10)
else if a1<(AG ((a0.2.1.length:Int)-1)) then
if ((((gl ((0,0,0,0):AU) a0.2.1 a1.toNat).2).2).2)<=a1 then
some (10)
else if ((((gl ((0,0,0,0):AU) a0.2.1 a1.toNat).2).2).2)>(AG ((a0.2.1.length:Int)-1)) then
some (10)
else some (0)
else some (0)
else if a1<(AG ((a0.2.1.length:Int)-1)) then
if ((((gl ((0,0,0,0):AU) a0.2.1 a1.toNat).2).2).2)<=a1 then
some (10)
else if ((((gl ((0,0,0,0):AU) a0.2.1 a1.toNat).2).2).2)>(AG ((a0.2.1.length:Int)-1)) then
some (10)
else some (0)
else some (0)
else if a1=(AG ((a0.2.1.length:Int)-1)) then
if ¬((((gl ((0,0,0,0):AU) a0.2.1 a1.toNat).2).2).2)=a1 then
some (10)
else if a1<(AG ((a0.2.1.length:Int)-1)) then
if ((((gl ((0,0,0,0):AU) a0.2.1 a1.toNat).2).2).2)<=a1 then
some (10)
else if ((((gl ((0,0,0,0):AU) a0.2.1 a1.toNat).2).2).2)>(AG ((a0.2.1.length:Int)-1)) then
some (10)
else some (0)
else some (0)
else if a1<(AG ((a0.2.1.length:Int)-1)) then
if ((((gl ((0,0,0,0):AU) a0.2.1 a1.toNat).2).2).2)<=a1 then
some (10)
else if ((((gl ((0,0,0,0):AU) a0.2.1 a1.toNat).2).2).2)>(AG ((a0.2.1.length:Int)-1)) then
some (10)
else some (0)
else some (0))))
else none
@[reducible] def iR:FnI:=BX [UX,AQ] [DF] fun x=>UE x.1 x.2
def wR:Cx:=BL [(2,(1,1)),(5,(2,1))] [] [(86,iQ),(87,dS)] [] []
theorem u5:CV 51 iR:=okW wR [.tmp 4] 69 2 (BG (.cons uZ (.cons rD AM.nil)) BD.nil) Tryz.func51
def MR (a0:GP) (a1:Int):Option Bool:=
AJ (σ:=Int) (β:=Bool) (fun s1=>
if s1<(a0.2.1.length:Int) then
if 0<=s1/\s1<(a0.2.1.length:Int) then
if ¬s1=a1 then
if ((((gl ((0,0,0,0):AU) a0.2.1 s1.toNat).2).2).2)=a1 then
some (Sum.inr (true))
else some (Sum.inl (AG (s1+1)))
else some (Sum.inl (AG (s1+1)))
else none
else some (Sum.inr (false))) (0)
@[reducible] def WE:FnI:=BX [UX,AQ] [GX] fun x=>MR x.1 x.2
def mD:Cx:=BL [(2,(1,1)),(6,(2,1))] [] [] [(0,B3 [(10,AQ)] [] [] (FA [(4,3),(11,14)]) [] 2)] []
theorem kF:CV 52 WE:=okW mD [.tmp 4] 25 2 (BG AM.nil BD.nil) Tryz.func52
def NU (a0:GP):Option Int:=
Option.bind (KT a0.1) (fun r1=>
if (!r1)=true then
some (7)
else if (a0.2.1.length:Int)<1 then
some (8)
else if (a0.2.1.length:Int)>4 then
some (8)
else AJ (σ:=Int) (β:=Int) (fun s1=>
if s1<(a0.2.1.length:Int) then
Option.bind (UE a0 s1) (fun r2=>
if ¬r2=0 then
some (Sum.inr (r2))
else some (Sum.inl (AG (s1+1))))
else Option.map Sum.inr (AJ (σ:=Int) (β:=Int) (fun s2=>
if s2<(a0.2.1.length:Int) then
Option.bind (MR a0 s2) (fun r3=>
if (!r3)=true then
some (Sum.inr (10))
else some (Sum.inl (AG (s2+1))))
else Option.map Sum.inr (if 0<=(AG ((a0.2.1.length:Int)-1))/\(AG ((a0.2.1.length:Int)-1))<(a0.2.1.length:Int) then
if D5 ((gl ((0,0,0,0):AU) a0.2.1 ((AG ((a0.2.1.length:Int)-1)).toNat)).1) 0=some .eq then
if a0.2.2<1 then
some (9)
else if a0.2.2>64 then
if a0.2.2>64 then
some (9)
else some (0)
else if ¬(D5 ((gl ((0,0,0,0):AU) a0.2.1 ((AG ((a0.2.1.length:Int)-1)).toNat)).1) 0=some .eq) then
if ¬a0.2.2=0 then
some (9)
else some (0)
else some (0)
else if ¬(D5 ((gl ((0,0,0,0):AU) a0.2.1 ((AG ((a0.2.1.length:Int)-1)).toNat)).1) 0=some .eq) then
if ¬a0.2.2=0 then
some (9)
else some (0)
else some (0)
else none)) (1))) (0))
@[reducible] def dT:FnI:=BX [UX] [DF] fun x=>NU x
def u6:Cx:=BL [(1,(1,1))] [] [(50,cL),(51,iR),(52,WE)] [(1,B3 [(26,AQ)] [] [] (FA [(2,3),(27,9)]) [] 2),(3,B3 [(5,AQ)] [] [] (FA [(2,1),(36,11)]) [] 2)] []
theorem rE:CV 25 dT:=okW u6 [.tmp 2] 76 1 (BG (.cons rC (.cons u5 (.cons kF AM.nil))) BD.nil) Tryz.func25
def fA (a0:B1) (a1:Int):Option Bool:=
if a1≥0 then
some (decide (a1<(a0.2.2.length:Int)))
else some (false)
@[reducible] def u7:FnI:=BX [DX,AQ] [GX] fun x=>fA x.1 x.2
def AHS:Cx:=BL [(2,(2,1))] [] [] [] []
theorem AES:CV 111 u7:=okW AHS [.tmp 4] 14 1 (BG AM.nil BD.nil) Tryz.func111
def WG (a0:B1) (a1:Int):Option Bool:=
if 0<=a1/\a1<(a0.2.2.length:Int) then
some (decide (((gl ((0,0,0):AY) a0.2.2 a1.toNat).1)=(-1)))
else none
@[reducible] def mE:FnI:=BX [DX,AQ] [GX] fun x=>WG x.1 x.2
def ABA:Cx:=BL [(2,(2,1))] [] [] [] []
theorem wU:CV 112 mE:=okW ABA [.tmp 4] 12 1 (BG AM.nil BD.nil) Tryz.func112
def OM (a0:B1) (a1:Int):Option FV:=
Option.bind (IF a0) (fun r1=>
if (!r1)=true then
some (([],1))
else Option.bind (fA a0 a1) (fun r2=>
if (!r2)=true then
some (([],2))
else Option.bind (WG a0 a1) (fun r3=>
if r3=true then
some (([],5))
else AJ (σ:=FV) (β:=FV) (fun s1=>
if s1.2≥0 then
if (s1.1.length+([s1.2]:List Int).length)*8<=140737488355328 then
if 0<=s1.2/\s1.2<(a0.2.2.length:Int) then
some (Sum.inl ((s1.1++([s1.2]:List Int),((gl ((0,0,0):AY) a0.2.2 s1.2.toNat).2).2)))
else none
else none
else some (Sum.inr ((s1.1,0)))) (([],a1)))))
@[reducible] def mF:FnI:=BX [DX,AQ] [IB,DF] fun x=>OM x.1 x.2
def ABB:Cx:=BL [(2,(2,1)),(29,(4,1)),(30,(5,1))] [30] [(53,QU),(111,u7),(112,mE)] [(0,B3 [(6,IB),(7,AQ)] [] [] (FA [(19,12)]) [] 3)] []
theorem wV:CV 91 mF:=okW ABB [.tmp 4,.tmp 5] 32 4 (BG (.cons U0 (.cons AES (.cons wU AM.nil))) BD.nil) Tryz.func91
def Y0 (a0:Int) (a1:Int):Option Int:=
if a0<0 then
some (0)
else if a0>1099511627776 then
some (0)
else if a1<0 then
some (0)
else if a1>20 then
some (0)
else if True then
if True then
some ((AG ((AG (a0+(AG ((1:Int)*2 ^ min (BitVec.ofInt 64 a1).toNat 64))))-1)) / 2 ^ min (BitVec.ofInt 64 a1).toNat 64)
else none
else none
@[reducible] def p_:FnI:=BX [AQ,AQ] [DF] fun x=>Y0 x.1 x.2
def AET:Cx:=BL [] [] [] [] []
theorem ABC:CV 58 p_:=okW AET [.tmp 4] 28 0 (BG AM.nil BD.nil) Tryz.func58
def FH (a0:B1) (a1:AA):Option Int:=
Option.bind (Y0 a1.2.2.2.2 a0.1) (fun r1=>
some (r1))
@[reducible] def WT:FnI:=BX [DX,S_] [DF] fun x=>FH x.1 x.2
def wW:Cx:=BL [(2,(2,1)),(3,(3,1))] [] [(58,p_)] [] []
theorem dU:CV 29 WT:=okW wW [.tmp 4] 10 2 (BG (.cons ABC AM.nil) BD.nil) Tryz.func29
def Y1 (a0:B1) (a1:Int):Option Int:=
AJ (σ:=(Int×Int)) (β:=Int) (fun s1=>
if s1.2<(a0.2.2.length:Int) then
if 0<=s1.2/\s1.2<(a0.2.2.length:Int) then
if ((gl ((0,0,0):AY) a0.2.2 s1.2.toNat).1)=a1 then
some (Sum.inl ((AG (s1.1+1),AG (s1.2+1))))
else some (Sum.inl ((s1.1,AG (s1.2+1))))
else none
else some (Sum.inr (s1.1))) ((0,0))
@[reducible] def qA:FnI:=BX [DX,AQ] [DF] fun x=>Y1 x.1 x.2
def AEU:Cx:=BL [(2,(2,1)),(7,(3,1))] [] [] [(0,B3 [(5,AQ),(11,AQ)] [] [] (FA [(7,1),(12,10)]) [] 3)] []
theorem ABD:CV 92 qA:=okW AEU [.tmp 4] 23 2 (BG AM.nil BD.nil) Tryz.func92
def JS (a0:B1) (a1:AA):Option Bool:=
Option.bind (IF a0) (fun r1=>
if (!r1)=true then
some (false)
else if a1.1<0 then
some (false)
else if a1.1>4294967295 then
some (false)
else if a1.2.1<0 then
some (false)
else if a1.2.1≥4 then
some (false)
else if a1.2.2.2.2<0 then
some (false)
else if a1.2.2.2.2=0 then
if a1.2.2.1=(-1) then
some (decide (a1.2.2.2.1=(-1)))
else some (false)
else Option.bind (OM a0 a1.2.2.1) (fun r2=>
if ¬r2.2=0 then
some (false)
else if a1.2.2.2.2>(a0.2.1.length:Int) then
some (false)
else if 0<=(AG ((r2.1.length:Int)-1))/\(AG ((r2.1.length:Int)-1))<(r2.1.length:Int) then
if ¬(gl (0:Int) r2.1 ((AG ((r2.1.length:Int)-1)).toNat))=a1.2.2.2.1 then
some (false)
else Option.bind (FH a0 a1) (fun r3=>
if ¬(r2.1.length:Int)=r3 then
some (false)
else Option.bind (Y1 a0 a1.1) (fun r4=>
if ¬(r2.1.length:Int)=r4 then
some (false)
else if 0<=a1.2.2.1/\a1.2.2.1<(a0.2.2.length:Int) then
if ((gl ((0,0,0):AY) a0.2.2 a1.2.2.1.toNat).1)=a1.1 then
some (decide ((((gl ((0,0,0):AY) a0.2.2 a1.2.2.1.toNat).2).1)=(AG ((AG (a1.2.1*4294967296))+a1.1))))
else some (false)
else none))
else none))
@[reducible] def mG:FnI:=BX [DX,S_] [GX] fun x=>JS x.1 x.2
def ABE:Cx:=BL [(2,(2,1)),(3,(3,1)),(7,(5,1)),(51,(4,1))] [] [(29,WT),(53,QU),(91,mF),(92,qA)] [] []
theorem wX:CV 54 mG:=okW ABE [.tmp 4] 114 4 (BG (.cons dU (.cons U0 (.cons wV (.cons ABD AM.nil)))) BD.nil) Tryz.func54
def SF (a0:B1) (a1:ED):Option Bool:=
Option.bind (IF a0) (fun r1=>
if (!r1)=true then
some (false)
else if (a1.length:Int)<1 then
some (false)
else if (a1.length:Int)>4 then
some (false)
else AJ (σ:=(Int×(List (Int×Bool)))) (β:=Bool) (fun s1=>
if s1.1<(a1.length:Int) then
if 0<=s1.1/\s1.1<(a1.length:Int) then
AJ (σ:=(Int×(List (Int×Bool)))) (β:=((Int×(List (Int×Bool))) ⊕ Bool)) (fun s2=>
if s2.1<((gl ([]:(List AA)) a1 s1.1.toNat).length:Int) then
if 0<=s2.1/\s2.1<((gl ([]:(List AA)) a1 s1.1.toNat).length:Int) then
if ¬(((gl ((0,0,0,0,0):AA) (gl ([]:(List AA)) a1 s1.1.toNat) s2.1.toNat).2).1)=s1.1 then
some (Sum.inr (Sum.inr (false)))
else if (((((gl ((0,0,0,0,0):AA) (gl ([]:(List AA)) a1 s1.1.toNat) s2.1.toNat).2).2).2).2)<1 then
some (Sum.inr (Sum.inr (false)))
else if s2.1>0 then
if 0<=(AG (s2.1-1))/\(AG (s2.1-1))<((gl ([]:(List AA)) a1 s1.1.toNat).length:Int) then
if ((gl ((0,0,0,0,0):AA) (gl ([]:(List AA)) a1 s1.1.toNat) ((AG (s2.1-1)).toNat)).1)≥((gl ((0,0,0,0,0):AA) (gl ([]:(List AA)) a1 s1.1.toNat) s2.1.toNat).1) then
some (Sum.inr (Sum.inr (false)))
else if ((LR s2.2 ((gl ((0,0,0,0,0):AA) (gl ([]:(List AA)) a1 s1.1.toNat) s2.1.toNat).1)).getD false)=true then
some (Sum.inr (Sum.inr (false)))
else Option.bind (JS a0 ((gl ((0,0,0,0,0):AA) (gl ([]:(List AA)) a1 s1.1.toNat) s2.1.toNat).1,((gl ((0,0,0,0,0):AA) (gl ([]:(List AA)) a1 s1.1.toNat) s2.1.toNat).2).1,(((gl ((0,0,0,0,0):AA) (gl ([]:(List AA)) a1 s1.1.toNat) s2.1.toNat).2).2).1,((((gl ((0,0,0,0,0):AA) (gl ([]:(List AA)) a1 s1.1.toNat) s2.1.toNat).2).2).2))) (fun r2=>
if (!r2)=true then
some (Sum.inr (Sum.inr (false)))
else some (Sum.inl ((AG (s2.1+1),W9 s2.2 ((gl ((0,0,0,0,0):AA) (gl ([]:(List AA)) a1 s1.1.toNat) s2.1.toNat).1) true))))
else none
else if ((LR s2.2 ((gl ((0,0,0,0,0):AA) (gl ([]:(List AA)) a1 s1.1.toNat) s2.1.toNat).1)).getD false)=true then
some (Sum.inr (Sum.inr (false)))
else Option.bind (JS a0 ((gl ((0,0,0,0,0):AA) (gl ([]:(List AA)) a1 s1.1.toNat) s2.1.toNat).1,((gl ((0,0,0,0,0):AA) (gl ([]:(List AA)) a1 s1.1.toNat) s2.1.toNat).2).1,(((gl ((0,0,0,0,0):AA) (gl ([]:(List AA)) a1 s1.1.toNat) s2.1.toNat).2).2).1,((((gl ((0,0,0,0,0):AA) (gl ([]:(List AA)) a1 s1.1.toNat) s2.1.toNat).2).2).2))) (fun r3=>
if (!r3)=true then
some (Sum.inr (Sum.inr (false)))
else some (Sum.inl ((AG (s2.1+1),W9 s2.2 ((gl ((0,0,0,0,0):AA) (gl ([]:(List AA)) a1 s1.1.toNat) s2.1.toNat).1) true))))
else none
else some (Sum.inr (Sum.inl ((AG (s1.1+1),s2.2))))) ((0,s1.2))
else none
else Option.map Sum.inr (AJ (σ:=Int) (β:=Bool) (fun s3=>
if s3<(a0.2.2.length:Int) then
if 0<=s3/\s3<(a0.2.2.length:Int) then
if ¬((gl ((0,0,0):AY) a0.2.2 s3.toNat).1)=(-1) then
if (!((LR s1.2 ((gl ((0,0,0):AY) a0.2.2 s3.toNat).1)).getD false))=true then
some (Sum.inr (false))
else some (Sum.inl (AG (s3+1)))
else some (Sum.inl (AG (s3+1)))
else none
else some (Sum.inr (true))) (0))) ((0,([]:List (Int×Bool)))))
@[reducible] def mH:FnI:=BX [DX,KL] [GX] fun x=>SF x.1 x.2
def ABF:Cx:=BL [(2,(3,1)),(9,(6,1)),(11,(7,1)),(25,(4,1)),(32,(5,1))] [] [(53,QU),(54,mG)] [(0,B3 [(28,AQ)] [] [(4,.kv)] (FA [(4,1),(6,4),(29,52)]) [] 5),(2,B3 [(35,AQ)] [] [(4,.kv)] (FA [(4,1),(8,2),(36,44)]) [] 6),(4,B3 [(84,AQ)] [] [] (FA [(4,1),(11,1),(85,14)]) [] 7)] []
theorem wY:CV 26 mH:=okW ABF [.tmp 4] 99 5 (BG (.cons U0 (.cons wX AM.nil)) BD.nil) Tryz.func26
def mI (a0:ED) (a1:Int):Option Bool:=
if a1≥0 then
some (decide (a1<(a0.length:Int)))
else some (false)
@[reducible] def zM:FnI:=BX [KL,AQ] [GX] fun x=>mI x.1 x.2
def AMS:Cx:=BL [] [] [] [] []
theorem AHT:CV 55 zM:=okW AMS [.tmp 4] 13 0 (BG AM.nil BD.nil) Tryz.func55
def GM (a0:ED) (a1:Int):Option (AA×Bool):=
Option.bind (mI a0 a1) (fun r1=>
if (!r1)=true then
some (((0,0,0,0,0),false))
else if 0<=a1/\a1<(a0.length:Int) then
if ((gl ([]:(List AA)) a0 a1.toNat).length:Int)=0 then
some (((0,0,0,0,0),false))
else if 0<=a1/\a1<(a0.length:Int) then
if 0<=a1/\a1<(a0.length:Int) then
if 0<=(AG (((gl ([]:(List AA)) a0 a1.toNat).length:Int)-1))/\(AG (((gl ([]:(List AA)) a0 a1.toNat).length:Int)-1))<((gl ([]:(List AA)) a0 a1.toNat).length:Int) then
some ((((gl ((0,0,0,0,0):AA) (gl ([]:(List AA)) a0 a1.toNat) ((AG (((gl ([]:(List AA)) a0 a1.toNat).length:Int)-1)).toNat)).1,((gl ((0,0,0,0,0):AA) (gl ([]:(List AA)) a0 a1.toNat) ((AG (((gl ([]:(List AA)) a0 a1.toNat).length:Int)-1)).toNat)).2).1,(((gl ((0,0,0,0,0):AA) (gl ([]:(List AA)) a0 a1.toNat) ((AG (((gl ([]:(List AA)) a0 a1.toNat).length:Int)-1)).toNat)).2).2).1,((((gl ((0,0,0,0,0):AA) (gl ([]:(List AA)) a0 a1.toNat) ((AG (((gl ([]:(List AA)) a0 a1.toNat).length:Int)-1)).toNat)).2).2).2)),true))
else none
else none
else none
else none)
@[reducible] def ZM:FnI:=BX [KL,AQ] [uV,GX] fun x=>GM x.1 x.2
def rF:Cx:=BL [(4,(1,1)),(14,(2,1)),(22,(3,1)),(26,(4,1))] [] [(55,zM)] [] []
theorem oH:CV 27 ZM:=okW rF [.cell 4 66,.tmp 5] 31 4 (BG (.cons AHT AM.nil) BD.nil) Tryz.func27
def Y2 (a0:B1):Option (BitVec 64):=
AJ (σ:=((BitVec 64)×Int)) (β:=(BitVec 64)) (fun s1=>
if s1.2<(a0.2.2.length:Int) then
if 0<=s1.2/\s1.2<(a0.2.2.length:Int) then
if ((gl ((0,0,0):AY) a0.2.2 s1.2.toNat).1)=(-1) then
if s1.2<64 then
if True then
some (Sum.inl ((s1.1|||((1#64) <<< (BitVec.ofInt 64 s1.2).toNat),AG (s1.2+1))))
else none
else some (Sum.inl ((s1.1,AG (s1.2+1))))
else some (Sum.inl ((s1.1,AG (s1.2+1))))
else none
else some (Sum.inr (s1.1))) ((0#64,0))
@[reducible] def qB:FnI:=BX [DX] [zH] fun x=>Y2 x
def AEV:Cx:=BL [(1,(2,1)),(5,(3,1))] [] [] [(0,B3 [(3,oC),(9,AQ)] [] [] (FA [(4,2),(10,17)]) [] 3)] []
theorem ABG:CV 56 qB:=okW AEV [.tmp 2] 28 2 (BG AM.nil BD.nil) Tryz.func56
def IT (a0:B1):Option (List Int):=
Option.bind (Y2 a0) (fun r1=>
AJ (σ:=((List Int)×(BitVec 64))) (β:=(List Int)) (fun s1=>
if ¬s1.2=(0#64) then
Option.bind (FD s1.2) (fun r2=>
if (s1.1.length+([r2]:List Int).length)*8<=140737488355328 then
some (Sum.inl ((s1.1++([r2]:List Int),s1.2 &&& (s1.2-(1#64)))))
else none)
else some (Sum.inr (s1.1))) (([],r1)))
@[reducible] def qC:FnI:=BX [DX] [IB] fun x=>IT x
def AEW:Cx:=BL [(1,(2,1)),(16,(4,1)),(17,(5,1))] [17] [(56,qB),(57,LC)] [(0,B3 [(3,IB),(4,oC)] [] [] (FA [(7,11)]) [] 3)] []
theorem ABH:CV 28 qC:=okW AEW [.tmp 2] 19 4 (BG (.cons ABG (.cons S2 AM.nil)) BD.nil) Tryz.func28
def EK (a0:GP) (a1:B1) (a2:ED) (a3:S0):Option XI:=
Option.bind (NU a0) (fun r1=>
if ¬r1=0 then
some (([],(0,false,0),false,1))
else Option.bind (SF a1 a2) (fun r2=>
if (!r2)=true then
some (([],(0,false,0),false,1))
else if ¬(a2.length:Int)=(a0.2.1.length:Int) then
some (([],(0,false,0),false,1))
else if a3.1<0 then
some (([],(0,false,0),false,1))
else if a3.1>(AG ((a2.length:Int)-1)) then
some (([],(0,false,0),false,1))
else AJ (σ:=S0) (β:=XI) (fun s1=>
if s1.1<(AG ((a2.length:Int)-1)) then
if 0<=s1.1/\s1.1<(a2.length:Int) then
if ((gl ([]:(List AA)) a2 s1.1.toNat).length:Int)=0 then
some (Sum.inl ((AG (s1.1+1),false,0)))
else Option.map Sum.inr (Option.bind (α:=S0 ⊕ XI) (if s1.1=(AG ((a2.length:Int)-1)) then
if (!s1.2.1)=true then
Option.bind (GM a2 (AG ((a2.length:Int)-1))) (fun r3=>
if r3.2=true then
some (Sum.inl ((s1.1,true,r3.1.1)))
else some (Sum.inl ((s1.1,true,(-1)))))
else some (Sum.inl (s1))
else some (Sum.inl (s1))) (fun q=>match q with
|Sum.inl j1=>(if 0<=j1.1/\j1.1<(a2.length:Int) then
AJ (σ:=(List AA)) (β:=XI) (fun s2=>
if j1.1=(AG ((a2.length:Int)-1)) then
if (s2.length:Int)>0 then
if 0<=(AG ((s2.length:Int)-1))/\(AG ((s2.length:Int)-1))<(s2.length:Int) then
if ((gl ((0,0,0,0,0):AA) s2 ((AG ((s2.length:Int)-1)).toNat)).1)>j1.2.2 then
if Bd none (some (AG ((s2.length:Int)-1))) ((AG ((s2.length:Int)-1)).toNat) s2.length then
some (Sum.inl (B5 s2 0 (((AG ((s2.length:Int)-1)).toNat)-0)))
else none
else Option.map Sum.inr (if (s2.length:Int)=0 then
some (([],j1,true,0))
else Option.bind (IT a1) (fun r4=>
AJ (σ:=((List AA)×Int×Int)) (β:=XI) (fun s3=>
if s3.2.2<(s2.length:Int) then
if 0<=s3.2.2/\s3.2.2<(s2.length:Int) then
Option.bind (FH a1 ((gl ((0,0,0,0,0):AA) s2 s3.2.2.toNat).1,((gl ((0,0,0,0,0):AA) s2 s3.2.2.toNat).2).1,(((gl ((0,0,0,0,0):AA) s2 s3.2.2.toNat).2).2).1,((((gl ((0,0,0,0,0):AA) s2 s3.2.2.toNat).2).2).2))) (fun r5=>
if 0<=j1.1/\j1.1<(a0.2.1.length:Int) then
if (AG (s3.2.1-r5))<0 then
some (Sum.inr ((s3.1,j1,false,0)))
else if ((((gl ((0,0,0,0):AU) a0.2.1 j1.1.toNat).2).2).1)>0 then
if (s3.1.length:Int)≥((((gl ((0,0,0,0):AU) a0.2.1 j1.1.toNat).2).2).1) then
some (Sum.inr ((s3.1,j1,false,0)))
else if (s3.1.length+([((gl ((0,0,0,0,0):AA) s2 s3.2.2.toNat).1,((gl ((0,0,0,0,0):AA) s2 s3.2.2.toNat).2).1,(((gl ((0,0,0,0,0):AA) s2 s3.2.2.toNat).2).2).1,((((gl ((0,0,0,0,0):AA) s2 s3.2.2.toNat).2).2).2))]:List AA).length)*40<=140737488355328 then
some (Sum.inl ((s3.1++([((gl ((0,0,0,0,0):AA) s2 s3.2.2.toNat).1,((gl ((0,0,0,0,0):AA) s2 s3.2.2.toNat).2).1,(((gl ((0,0,0,0,0):AA) s2 s3.2.2.toNat).2).2).1,((((gl ((0,0,0,0,0):AA) s2 s3.2.2.toNat).2).2).2))]:List AA),AG (s3.2.1-r5),AG (s3.2.2+1))))
else none
else if (s3.1.length+([((gl ((0,0,0,0,0):AA) s2 s3.2.2.toNat).1,((gl ((0,0,0,0,0):AA) s2 s3.2.2.toNat).2).1,(((gl ((0,0,0,0,0):AA) s2 s3.2.2.toNat).2).2).1,((((gl ((0,0,0,0,0):AA) s2 s3.2.2.toNat).2).2).2))]:List AA).length)*40<=140737488355328 then
some (Sum.inl ((s3.1++([((gl ((0,0,0,0,0):AA) s2 s3.2.2.toNat).1,((gl ((0,0,0,0,0):AA) s2 s3.2.2.toNat).2).1,(((gl ((0,0,0,0,0):AA) s2 s3.2.2.toNat).2).2).1,((((gl ((0,0,0,0,0):AA) s2 s3.2.2.toNat).2).2).2))]:List AA),AG (s3.2.1-r5),AG (s3.2.2+1))))
else none
else none)
else none
else some (Sum.inr ((s3.1,j1,false,0)))) (([],(r4.length:Int),0))))
else none
else Option.map Sum.inr (if (s2.length:Int)=0 then
some (([],j1,true,0))
else Option.bind (IT a1) (fun r6=>
AJ (σ:=((List AA)×Int×Int)) (β:=XI) (fun s4=>
if s4.2.2<(s2.length:Int) then
if 0<=s4.2.2/\s4.2.2<(s2.length:Int) then
Option.bind (FH a1 ((gl ((0,0,0,0,0):AA) s2 s4.2.2.toNat).1,((gl ((0,0,0,0,0):AA) s2 s4.2.2.toNat).2).1,(((gl ((0,0,0,0,0):AA) s2 s4.2.2.toNat).2).2).1,((((gl ((0,0,0,0,0):AA) s2 s4.2.2.toNat).2).2).2))) (fun r7=>
if 0<=j1.1/\j1.1<(a0.2.1.length:Int) then
if (AG (s4.2.1-r7))<0 then
some (Sum.inr ((s4.1,j1,false,0)))
else if ((((gl ((0,0,0,0):AU) a0.2.1 j1.1.toNat).2).2).1)>0 then
if (s4.1.length:Int)≥((((gl ((0,0,0,0):AU) a0.2.1 j1.1.toNat).2).2).1) then
some (Sum.inr ((s4.1,j1,false,0)))
else if (s4.1.length+([((gl ((0,0,0,0,0):AA) s2 s4.2.2.toNat).1,((gl ((0,0,0,0,0):AA) s2 s4.2.2.toNat).2).1,(((gl ((0,0,0,0,0):AA) s2 s4.2.2.toNat).2).2).1,((((gl ((0,0,0,0,0):AA) s2 s4.2.2.toNat).2).2).2))]:List AA).length)*40<=140737488355328 then
some (Sum.inl ((s4.1++([((gl ((0,0,0,0,0):AA) s2 s4.2.2.toNat).1,((gl ((0,0,0,0,0):AA) s2 s4.2.2.toNat).2).1,(((gl ((0,0,0,0,0):AA) s2 s4.2.2.toNat).2).2).1,((((gl ((0,0,0,0,0):AA) s2 s4.2.2.toNat).2).2).2))]:List AA),AG (s4.2.1-r7),AG (s4.2.2+1))))
else none
else if (s4.1.length+([((gl ((0,0,0,0,0):AA) s2 s4.2.2.toNat).1,((gl ((0,0,0,0,0):AA) s2 s4.2.2.toNat).2).1,(((gl ((0,0,0,0,0):AA) s2 s4.2.2.toNat).2).2).1,((((gl ((0,0,0,0,0):AA) s2 s4.2.2.toNat).2).2).2))]:List AA).length)*40<=140737488355328 then
some (Sum.inl ((s4.1++([((gl ((0,0,0,0,0):AA) s2 s4.2.2.toNat).1,((gl ((0,0,0,0,0):AA) s2 s4.2.2.toNat).2).1,(((gl ((0,0,0,0,0):AA) s2 s4.2.2.toNat).2).2).1,((((gl ((0,0,0,0,0):AA) s2 s4.2.2.toNat).2).2).2))]:List AA),AG (s4.2.1-r7),AG (s4.2.2+1))))
else none
else none)
else none
else some (Sum.inr ((s4.1,j1,false,0)))) (([],(r6.length:Int),0))))
else Option.map Sum.inr (if (s2.length:Int)=0 then
some (([],j1,true,0))
else Option.bind (IT a1) (fun r8=>
AJ (σ:=((List AA)×Int×Int)) (β:=XI) (fun s5=>
if s5.2.2<(s2.length:Int) then
if 0<=s5.2.2/\s5.2.2<(s2.length:Int) then
Option.bind (FH a1 ((gl ((0,0,0,0,0):AA) s2 s5.2.2.toNat).1,((gl ((0,0,0,0,0):AA) s2 s5.2.2.toNat).2).1,(((gl ((0,0,0,0,0):AA) s2 s5.2.2.toNat).2).2).1,((((gl ((0,0,0,0,0):AA) s2 s5.2.2.toNat).2).2).2))) (fun r9=>
if 0<=j1.1/\j1.1<(a0.2.1.length:Int) then
if (AG (s5.2.1-r9))<0 then
some (Sum.inr ((s5.1,j1,false,0)))
else if ((((gl ((0,0,0,0):AU) a0.2.1 j1.1.toNat).2).2).1)>0 then
if (s5.1.length:Int)≥((((gl ((0,0,0,0):AU) a0.2.1 j1.1.toNat).2).2).1) then
some (Sum.inr ((s5.1,j1,false,0)))
else if (s5.1.length+([((gl ((0,0,0,0,0):AA) s2 s5.2.2.toNat).1,((gl ((0,0,0,0,0):AA) s2 s5.2.2.toNat).2).1,(((gl ((0,0,0,0,0):AA) s2 s5.2.2.toNat).2).2).1,((((gl ((0,0,0,0,0):AA) s2 s5.2.2.toNat).2).2).2))]:List AA).length)*40<=140737488355328 then
some (Sum.inl ((s5.1++([((gl ((0,0,0,0,0):AA) s2 s5.2.2.toNat).1,((gl ((0,0,0,0,0):AA) s2 s5.2.2.toNat).2).1,(((gl ((0,0,0,0,0):AA) s2 s5.2.2.toNat).2).2).1,((((gl ((0,0,0,0,0):AA) s2 s5.2.2.toNat).2).2).2))]:List AA),AG (s5.2.1-r9),AG (s5.2.2+1))))
else none
else if (s5.1.length+([((gl ((0,0,0,0,0):AA) s2 s5.2.2.toNat).1,((gl ((0,0,0,0,0):AA) s2 s5.2.2.toNat).2).1,(((gl ((0,0,0,0,0):AA) s2 s5.2.2.toNat).2).2).1,((((gl ((0,0,0,0,0):AA) s2 s5.2.2.toNat).2).2).2))]:List AA).length)*40<=140737488355328 then
some (Sum.inl ((s5.1++([((gl ((0,0,0,0,0):AA) s2 s5.2.2.toNat).1,((gl ((0,0,0,0,0):AA) s2 s5.2.2.toNat).2).1,(((gl ((0,0,0,0,0):AA) s2 s5.2.2.toNat).2).2).1,((((gl ((0,0,0,0,0):AA) s2 s5.2.2.toNat).2).2).2))]:List AA),AG (s5.2.1-r9),AG (s5.2.2+1))))
else none
else none)
else none
else some (Sum.inr ((s5.1,j1,false,0)))) (([],(r8.length:Int),0))))) (gl ([]:(List AA)) a2 j1.1.toNat)
else none)
|Sum.inr b1=>some b1))
else none
else Option.map Sum.inr (Option.bind (α:=S0 ⊕ XI) (if s1.1=(AG ((a2.length:Int)-1)) then
if (!s1.2.1)=true then
Option.bind (GM a2 (AG ((a2.length:Int)-1))) (fun JQ=>
if JQ.2=true then
some (Sum.inl ((s1.1,true,JQ.1.1)))
else some (Sum.inl ((s1.1,true,(-1)))))
else some (Sum.inl (s1))
else some (Sum.inl (s1))) (fun q=>match q with
|Sum.inl j2=>(if 0<=j2.1/\j2.1<(a2.length:Int) then
AJ (σ:=(List AA)) (β:=XI) (fun s6=>
if j2.1=(AG ((a2.length:Int)-1)) then
if (s6.length:Int)>0 then
if 0<=(AG ((s6.length:Int)-1))/\(AG ((s6.length:Int)-1))<(s6.length:Int) then
if ((gl ((0,0,0,0,0):AA) s6 ((AG ((s6.length:Int)-1)).toNat)).1)>j2.2.2 then
if Bd none (some (AG ((s6.length:Int)-1))) ((AG ((s6.length:Int)-1)).toNat) s6.length then
some (Sum.inl (B5 s6 0 (((AG ((s6.length:Int)-1)).toNat)-0)))
else none
else Option.map Sum.inr (if (s6.length:Int)=0 then
some (([],j2,true,0))
else Option.bind (IT a1) (fun U2=>
AJ (σ:=((List AA)×Int×Int)) (β:=XI) (fun s7=>
if s7.2.2<(s6.length:Int) then
if 0<=s7.2.2/\s7.2.2<(s6.length:Int) then
Option.bind (FH a1 ((gl ((0,0,0,0,0):AA) s6 s7.2.2.toNat).1,((gl ((0,0,0,0,0):AA) s6 s7.2.2.toNat).2).1,(((gl ((0,0,0,0,0):AA) s6 s7.2.2.toNat).2).2).1,((((gl ((0,0,0,0,0):AA) s6 s7.2.2.toNat).2).2).2))) (fun NX=>
if 0<=j2.1/\j2.1<(a0.2.1.length:Int) then
if (AG (s7.2.1-NX))<0 then
some (Sum.inr ((s7.1,j2,false,0)))
else if ((((gl ((0,0,0,0):AU) a0.2.1 j2.1.toNat).2).2).1)>0 then
if (s7.1.length:Int)≥((((gl ((0,0,0,0):AU) a0.2.1 j2.1.toNat).2).2).1) then
some (Sum.inr ((s7.1,j2,false,0)))
else if (s7.1.length+([((gl ((0,0,0,0,0):AA) s6 s7.2.2.toNat).1,((gl ((0,0,0,0,0):AA) s6 s7.2.2.toNat).2).1,(((gl ((0,0,0,0,0):AA) s6 s7.2.2.toNat).2).2).1,((((gl ((0,0,0,0,0):AA) s6 s7.2.2.toNat).2).2).2))]:List AA).length)*40<=140737488355328 then
some (Sum.inl ((s7.1++([((gl ((0,0,0,0,0):AA) s6 s7.2.2.toNat).1,((gl ((0,0,0,0,0):AA) s6 s7.2.2.toNat).2).1,(((gl ((0,0,0,0,0):AA) s6 s7.2.2.toNat).2).2).1,((((gl ((0,0,0,0,0):AA) s6 s7.2.2.toNat).2).2).2))]:List AA),AG (s7.2.1-NX),AG (s7.2.2+1))))
else none
else if (s7.1.length+([((gl ((0,0,0,0,0):AA) s6 s7.2.2.toNat).1,((gl ((0,0,0,0,0):AA) s6 s7.2.2.toNat).2).1,(((gl ((0,0,0,0,0):AA) s6 s7.2.2.toNat).2).2).1,((((gl ((0,0,0,0,0):AA) s6 s7.2.2.toNat).2).2).2))]:List AA).length)*40<=140737488355328 then
some (Sum.inl ((s7.1++([((gl ((0,0,0,0,0):AA) s6 s7.2.2.toNat).1,((gl ((0,0,0,0,0):AA) s6 s7.2.2.toNat).2).1,(((gl ((0,0,0,0,0):AA) s6 s7.2.2.toNat).2).2).1,((((gl ((0,0,0,0,0):AA) s6 s7.2.2.toNat).2).2).2))]:List AA),AG (s7.2.1-NX),AG (s7.2.2+1))))
else none
else none)
else none
else some (Sum.inr ((s7.1,j2,false,0)))) (([],(U2.length:Int),0))))
else none
else Option.map Sum.inr (if (s6.length:Int)=0 then
some (([],j2,true,0))
else Option.bind (IT a1) (fun QV=>
AJ (σ:=((List AA)×Int×Int)) (β:=XI) (fun s8=>
if s8.2.2<(s6.length:Int) then
if 0<=s8.2.2/\s8.2.2<(s6.length:Int) then
Option.bind (FH a1 ((gl ((0,0,0,0,0):AA) s6 s8.2.2.toNat).1,((gl ((0,0,0,0,0):AA) s6 s8.2.2.toNat).2).1,(((gl ((0,0,0,0,0):AA) s6 s8.2.2.toNat).2).2).1,((((gl ((0,0,0,0,0):AA) s6 s8.2.2.toNat).2).2).2))) (fun nH=>
if 0<=j2.1/\j2.1<(a0.2.1.length:Int) then
if (AG (s8.2.1-nH))<0 then
some (Sum.inr ((s8.1,j2,false,0)))
else if ((((gl ((0,0,0,0):AU) a0.2.1 j2.1.toNat).2).2).1)>0 then
if (s8.1.length:Int)≥((((gl ((0,0,0,0):AU) a0.2.1 j2.1.toNat).2).2).1) then
some (Sum.inr ((s8.1,j2,false,0)))
else if (s8.1.length+([((gl ((0,0,0,0,0):AA) s6 s8.2.2.toNat).1,((gl ((0,0,0,0,0):AA) s6 s8.2.2.toNat).2).1,(((gl ((0,0,0,0,0):AA) s6 s8.2.2.toNat).2).2).1,((((gl ((0,0,0,0,0):AA) s6 s8.2.2.toNat).2).2).2))]:List AA).length)*40<=140737488355328 then
some (Sum.inl ((s8.1++([((gl ((0,0,0,0,0):AA) s6 s8.2.2.toNat).1,((gl ((0,0,0,0,0):AA) s6 s8.2.2.toNat).2).1,(((gl ((0,0,0,0,0):AA) s6 s8.2.2.toNat).2).2).1,((((gl ((0,0,0,0,0):AA) s6 s8.2.2.toNat).2).2).2))]:List AA),AG (s8.2.1-nH),AG (s8.2.2+1))))
else none
else if (s8.1.length+([((gl ((0,0,0,0,0):AA) s6 s8.2.2.toNat).1,((gl ((0,0,0,0,0):AA) s6 s8.2.2.toNat).2).1,(((gl ((0,0,0,0,0):AA) s6 s8.2.2.toNat).2).2).1,((((gl ((0,0,0,0,0):AA) s6 s8.2.2.toNat).2).2).2))]:List AA).length)*40<=140737488355328 then
some (Sum.inl ((s8.1++([((gl ((0,0,0,0,0):AA) s6 s8.2.2.toNat).1,((gl ((0,0,0,0,0):AA) s6 s8.2.2.toNat).2).1,(((gl ((0,0,0,0,0):AA) s6 s8.2.2.toNat).2).2).1,((((gl ((0,0,0,0,0):AA) s6 s8.2.2.toNat).2).2).2))]:List AA),AG (s8.2.1-nH),AG (s8.2.2+1))))
else none
else none)
else none
else some (Sum.inr ((s8.1,j2,false,0)))) (([],(QV.length:Int),0))))
else Option.map Sum.inr (if (s6.length:Int)=0 then
some (([],j2,true,0))
else Option.bind (IT a1) (fun oF=>
AJ (σ:=((List AA)×Int×Int)) (β:=XI) (fun s9=>
if s9.2.2<(s6.length:Int) then
if 0<=s9.2.2/\s9.2.2<(s6.length:Int) then
Option.bind (FH a1 ((gl ((0,0,0,0,0):AA) s6 s9.2.2.toNat).1,((gl ((0,0,0,0,0):AA) s6 s9.2.2.toNat).2).1,(((gl ((0,0,0,0,0):AA) s6 s9.2.2.toNat).2).2).1,((((gl ((0,0,0,0,0):AA) s6 s9.2.2.toNat).2).2).2))) (fun pZ=>
if 0<=j2.1/\j2.1<(a0.2.1.length:Int) then
if (AG (s9.2.1-pZ))<0 then
some (Sum.inr ((s9.1,j2,false,0)))
else if ((((gl ((0,0,0,0):AU) a0.2.1 j2.1.toNat).2).2).1)>0 then
if (s9.1.length:Int)≥((((gl ((0,0,0,0):AU) a0.2.1 j2.1.toNat).2).2).1) then
some (Sum.inr ((s9.1,j2,false,0)))
else if (s9.1.length+([((gl ((0,0,0,0,0):AA) s6 s9.2.2.toNat).1,((gl ((0,0,0,0,0):AA) s6 s9.2.2.toNat).2).1,(((gl ((0,0,0,0,0):AA) s6 s9.2.2.toNat).2).2).1,((((gl ((0,0,0,0,0):AA) s6 s9.2.2.toNat).2).2).2))]:List AA).length)*40<=140737488355328 then
some (Sum.inl ((s9.1++([((gl ((0,0,0,0,0):AA) s6 s9.2.2.toNat).1,((gl ((0,0,0,0,0):AA) s6 s9.2.2.toNat).2).1,(((gl ((0,0,0,0,0):AA) s6 s9.2.2.toNat).2).2).1,((((gl ((0,0,0,0,0):AA) s6 s9.2.2.toNat).2).2).2))]:List AA),AG (s9.2.1-pZ),AG (s9.2.2+1))))
else none
else if (s9.1.length+([((gl ((0,0,0,0,0):AA) s6 s9.2.2.toNat).1,((gl ((0,0,0,0,0):AA) s6 s9.2.2.toNat).2).1,(((gl ((0,0,0,0,0):AA) s6 s9.2.2.toNat).2).2).1,((((gl ((0,0,0,0,0):AA) s6 s9.2.2.toNat).2).2).2))]:List AA).length)*40<=140737488355328 then
some (Sum.inl ((s9.1++([((gl ((0,0,0,0,0):AA) s6 s9.2.2.toNat).1,((gl ((0,0,0,0,0):AA) s6 s9.2.2.toNat).2).1,(((gl ((0,0,0,0,0):AA) s6 s9.2.2.toNat).2).2).1,((((gl ((0,0,0,0,0):AA) s6 s9.2.2.toNat).2).2).2))]:List AA),AG (s9.2.1-pZ),AG (s9.2.2+1))))
else none
else none)
else none
else some (Sum.inr ((s9.1,j2,false,0)))) (([],(oF.length:Int),0))))) (gl ([]:(List AA)) a2 j2.1.toNat)
else none)
|Sum.inr b2=>some b2))) (a3)))
@[reducible] def PK:FnI:=BX [UX,DX,KL,iO] [bZ,AQI,GX,DF] fun x=>EK x.1 x.2.1 x.2.2.1 x.2.2.2
def u9:Cx:=BL [(4,(4,1)),(5,(5,1)),(7,(6,1)),(9,(7,1)),(13,(9,1)),(19,(15,1)),(62,(8,1)),(95,(10,1)),(121,(12,1)),(127,(13,1)),(161,(16,1)),(162,(17,1))] [162] [(25,dT),(26,mH),(27,ZM),(28,qC),(29,WT)] [(0,B3 [] [(6,iO)] [] (FA [(53,17)]) [] 8),(2,B3 [(15,lW)] [] [] (FA [(96,26)]) [] 11),(4,B3 [(16,bZ),(17,AQ),(131,AQ)] [] [] (FA [(19,2),(132,32)]) [] 14)] [(11,B3 [] [(6,iO)] [] (FA [(13,2),(70,21)]) [] 10)]
theorem S3:CV 12 PK:=okW u9 [.tmp 8,.cell 9 32,.tmp 10,.tmp 11] 166 14 (BG (.cons rE (.cons wY (.cons oH (.cons ABH (.cons dU AM.nil))))) BD.nil) Tryz.func12
def CW :Option Bool:=
Option.bind (FG (⟨#[120,120]⟩:ByteArray) 25) (fun r1=>
Option.bind (IG r1.1 3 8) (fun r2=>
Option.bind (EK r1.1 r2.1.2.1 r2.1.2.2.1 (0,false,0)) (fun r3=>
if r3.2.2.2=0 then
if r3.2.2.1=true then
if (r3.1.length:Int)=0 then
if r3.2.1.1=1 then
if r3.2.1.2.1=true then
some (decide (r3.2.1.2.2=(-1)))
else some (false)
else some (false)
else some (false)
else some (false)
else some (false))))
@[reducible] def MH:FnI:=BX [] [GX] fun x=>CW 
def dV:Cx:=BL [(1,(1,1)),(3,(9,1)),(6,(11,1)),(10,(0,1)),(15,(2,7)),(25,(10,1))] [] [(12,PK),(20,N9),(21,N3)] [] []
theorem P_:CV 7 MH:=okW dV [.tmp 0] 54 12 (BG (.cons S3 (.cons TX (.cons TI AM.nil))) BD.nil) Tryz.func7
def JC (a0:B1) (a1:ED):Option Bool:=
if (a1.length:Int)<1 then
some (false)
else if (a1.length:Int)>4 then
some (false)
else AJ (σ:=(Int×(List Int)×Int)) (β:=Bool) (fun s1=>
if s1.2.2<(a1.length:Int) then
if 0<=s1.2.2/\s1.2.2<(a1.length:Int) then
AJ (σ:=(Int×(List Int)×Int)) (β:=((Int×(List Int)×Int) ⊕ Bool)) (fun s2=>
if s2.2.2<((gl ([]:(List AA)) a1 s1.2.2.toNat).length:Int) then
if 0<=s2.2.2/\s2.2.2<((gl ([]:(List AA)) a1 s1.2.2.toNat).length:Int) then
if ¬(((gl ((0,0,0,0,0):AA) (gl ([]:(List AA)) a1 s1.2.2.toNat) s2.2.2.toNat).2).1)=s1.2.2 then
some (Sum.inr (Sum.inr (false)))
else if (((((gl ((0,0,0,0,0):AA) (gl ([]:(List AA)) a1 s1.2.2.toNat) s2.2.2.toNat).2).2).2).2)<1 then
some (Sum.inr (Sum.inr (false)))
else Option.bind (HY a0 ((gl ((0,0,0,0,0):AA) (gl ([]:(List AA)) a1 s1.2.2.toNat) s2.2.2.toNat).1,((gl ((0,0,0,0,0):AA) (gl ([]:(List AA)) a1 s1.2.2.toNat) s2.2.2.toNat).2).1,(((gl ((0,0,0,0,0):AA) (gl ([]:(List AA)) a1 s1.2.2.toNat) s2.2.2.toNat).2).2).1,((((gl ((0,0,0,0,0):AA) (gl ([]:(List AA)) a1 s1.2.2.toNat) s2.2.2.toNat).2).2).2))) (fun r1=>
if (!r1)=true then
some (Sum.inr (Sum.inr (false)))
else if s2.2.2>0 then
if 0<=(AG (s2.2.2-1))/\(AG (s2.2.2-1))<((gl ([]:(List AA)) a1 s1.2.2.toNat).length:Int) then
if ((gl ((0,0,0,0,0):AA) (gl ([]:(List AA)) a1 s1.2.2.toNat) ((AG (s2.2.2-1)).toNat)).1)≥((gl ((0,0,0,0,0):AA) (gl ([]:(List AA)) a1 s1.2.2.toNat) s2.2.2.toNat).1) then
some (Sum.inr (Sum.inr (false)))
else AJ (σ:=Int) (β:=((Int×(List Int)×Int) ⊕ ((Int×(List Int)×Int) ⊕ Bool))) (fun s3=>
if s3<(s2.2.1.length:Int) then
if 0<=s3/\s3<(s2.2.1.length:Int) then
if (gl (0:Int) s2.2.1 s3.toNat)=((gl ((0,0,0,0,0):AA) (gl ([]:(List AA)) a1 s1.2.2.toNat) s2.2.2.toNat).1) then
some (Sum.inr (Sum.inr (Sum.inr (false))))
else some (Sum.inl (AG (s3+1)))
else none
else Option.map Sum.inr (if (s2.2.1.length+([(gl ((0,0,0,0,0):AA) (gl ([]:(List AA)) a1 s1.2.2.toNat) s2.2.2.toNat).1]:List Int).length)*8<=140737488355328 then
Option.bind (BH a0 ((gl ((0,0,0,0,0):AA) (gl ([]:(List AA)) a1 s1.2.2.toNat) s2.2.2.toNat).1,((gl ((0,0,0,0,0):AA) (gl ([]:(List AA)) a1 s1.2.2.toNat) s2.2.2.toNat).2).1,(((gl ((0,0,0,0,0):AA) (gl ([]:(List AA)) a1 s1.2.2.toNat) s2.2.2.toNat).2).2).1,((((gl ((0,0,0,0,0):AA) (gl ([]:(List AA)) a1 s1.2.2.toNat) s2.2.2.toNat).2).2).2))) (fun r2=>
some (Sum.inl ((AG (s2.1+r2),s2.2.1++([(gl ((0,0,0,0,0):AA) (gl ([]:(List AA)) a1 s1.2.2.toNat) s2.2.2.toNat).1]:List Int),AG (s2.2.2+1)))))
else none)) (0)
else none
else AJ (σ:=Int) (β:=((Int×(List Int)×Int) ⊕ ((Int×(List Int)×Int) ⊕ Bool))) (fun s4=>
if s4<(s2.2.1.length:Int) then
if 0<=s4/\s4<(s2.2.1.length:Int) then
if (gl (0:Int) s2.2.1 s4.toNat)=((gl ((0,0,0,0,0):AA) (gl ([]:(List AA)) a1 s1.2.2.toNat) s2.2.2.toNat).1) then
some (Sum.inr (Sum.inr (Sum.inr (false))))
else some (Sum.inl (AG (s4+1)))
else none
else Option.map Sum.inr (if (s2.2.1.length+([(gl ((0,0,0,0,0):AA) (gl ([]:(List AA)) a1 s1.2.2.toNat) s2.2.2.toNat).1]:List Int).length)*8<=140737488355328 then
Option.bind (BH a0 ((gl ((0,0,0,0,0):AA) (gl ([]:(List AA)) a1 s1.2.2.toNat) s2.2.2.toNat).1,((gl ((0,0,0,0,0):AA) (gl ([]:(List AA)) a1 s1.2.2.toNat) s2.2.2.toNat).2).1,(((gl ((0,0,0,0,0):AA) (gl ([]:(List AA)) a1 s1.2.2.toNat) s2.2.2.toNat).2).2).1,((((gl ((0,0,0,0,0):AA) (gl ([]:(List AA)) a1 s1.2.2.toNat) s2.2.2.toNat).2).2).2))) (fun r3=>
some (Sum.inl ((AG (s2.1+r3),s2.2.1++([(gl ((0,0,0,0,0):AA) (gl ([]:(List AA)) a1 s1.2.2.toNat) s2.2.2.toNat).1]:List Int),AG (s2.2.2+1)))))
else none)) (0))
else none
else some (Sum.inr (Sum.inl ((s2.1,s2.2.1,AG (s1.2.2+1)))))) ((s1.1,s1.2.1,0))
else none
else Option.map Sum.inr (AJ (σ:=(Int×Int)) (β:=Bool) (fun s5=>
if s5.2<(a0.2.2.length:Int) then
if 0<=s5.2/\s5.2<(a0.2.2.length:Int) then
if ¬((gl ((0,0,0):AY) a0.2.2 s5.2.toNat).1)=(-1) then
some (Sum.inl ((AG (s5.1+1),AG (s5.2+1))))
else some (Sum.inl ((s5.1,AG (s5.2+1))))
else none
else some (Sum.inr (decide (s5.1=s1.1)))) ((0,0)))) ((0,[],0))
@[reducible] def SG:FnI:=BX [DX,KL] [GX] fun x=>JC x.1 x.2
def dW:Cx:=BL [(2,(3,1)),(10,(7,1)),(15,(10,1)),(30,(5,1)),(82,(8,1)),(83,(9,1))] [83] [(16,CU),(64,M0)] [(0,B3 [(5,AQ),(6,IB),(26,AQ)] [] [] (FA [(4,1),(7,4),(12,1),(27,64)]) [] 4),(2,B3 [(5,AQ),(6,IB),(33,AQ)] [] [] (FA [(4,1),(9,2),(12,1),(34,56)]) [4] 6),(4,B3 [(70,AQ)] [] [] (FA [(4,1),(12,1),(71,8)]) [] 8),(6,B3 [(13,AQ),(94,AQ)] [] [] (FA [(15,1),(95,9)]) [] 10)] []
theorem aQ:CV 62 SG:=okW dW [.tmp 4] 107 8 (BG (.cons C0 (.cons RE AM.nil)) BD.nil) Tryz.func62
def JD (a0:B1) (a1:ED):Option Bool:=
Option.bind (DO a0) (fun r1=>
if r1=true then
Option.bind (JC a0 a1) (fun r2=>
some (r2))
else some (false))
@[reducible] def SH:FnI:=BX [DX,KL] [GX] fun x=>JD x.1 x.2
def dX:Cx:=BL [(2,(3,1))] [] [(61,IE),(62,SG)] [] []
theorem aR:CV 31 SH:=okW dX [.tmp 4] 12 1 (BG (.cons KX (.cons aQ AM.nil)) BD.nil) Tryz.func31
def GC (a0:GP) (a1:B1) (a2:ED) (a3:S0):Option XI:=
Option.bind (C_ a0) (fun r1=>
if ¬r1=0 then
some (([],(0,false,0),false,1))
else Option.bind (JD a1 a2) (fun r2=>
if (!r2)=true then
some (([],(0,false,0),false,1))
else if ¬(a2.length:Int)=(a0.2.1.length:Int) then
some (([],(0,false,0),false,1))
else if a3.1<0 then
some (([],(0,false,0),false,1))
else if a3.1≥(a2.length:Int) then
some (([],(0,false,0),false,1))
else Option.bind (CM a0 a1 a2 a3) (fun r3=>
some ((r3.1,r3.2.1,r3.2.2,0)))))
@[reducible] def T1:FnI:=BX [UX,DX,KL,iO] [bZ,AQI,GX,DF] fun x=>GC x.1 x.2.1 x.2.2.1 x.2.2.2
def iC:Cx:=BL [(4,(4,1)),(5,(5,1)),(7,(6,1)),(9,(7,1)),(49,(8,1))] [] [(30,E3),(31,SH),(32,K2)] [] []
theorem dY:CV 13 T1:=okW iC [.tmp 8,.cell 9 32,.tmp 10,.tmp 11] 56 5 (BG (.cons FZ (.cons aR (.cons PF AM.nil))) BD.nil) Tryz.func13
def HK (a0:(List AA)) (a1:(List AA)):Option Bool:=
if ¬(a0.length:Int)=(a1.length:Int) then
some (false)
else AJ (σ:=Int) (β:=Bool) (fun s1=>
if s1<(a0.length:Int) then
if 0<=s1/\s1<(a0.length:Int) then
if 0<=s1/\s1<(a1.length:Int) then
if (!(WI [decide (((gl ((0,0,0,0,0):AA) a0 s1.toNat).1)=((gl ((0,0,0,0,0):AA) a1 s1.toNat).1)),decide ((((gl ((0,0,0,0,0):AA) a0 s1.toNat).2).1)=(((gl ((0,0,0,0,0):AA) a1 s1.toNat).2).1)),decide (((((gl ((0,0,0,0,0):AA) a0 s1.toNat).2).2).1)=((((gl ((0,0,0,0,0):AA) a1 s1.toNat).2).2).1)),decide ((((((gl ((0,0,0,0,0):AA) a0 s1.toNat).2).2).2).1)=(((((gl ((0,0,0,0,0):AA) a1 s1.toNat).2).2).2).1)),decide ((((((gl ((0,0,0,0,0):AA) a0 s1.toNat).2).2).2).2)=(((((gl ((0,0,0,0,0):AA) a1 s1.toNat).2).2).2).2))]))=true then
some (Sum.inr (false))
else some (Sum.inl (AG (s1+1)))
else none
else none
else some (Sum.inr (true))) (0)
@[reducible] def ON:FnI:=BX [lW,lW] [GX] fun x=>HK x.1 x.2
def XY:Cx:=BL [] [] [] [(0,B3 [(13,AQ)] [] [] (FA [(4,2),(14,12)]) [] 2)] []
theorem WU:CV 14 ON:=okW XY [.tmp 4] 26 0 (BG AM.nil BD.nil) Tryz.func14
def GY (a0:GP) (a1:B1) (a2:ED) (a3:(List Int)) (a4:S0) (a5:Int) (a6:Int) (a7:Bool) (a8:Int) (a9:Int) (a10:Int):Option Bool:=
Option.bind (J2 a1) (fun r1=>
if (!r1)=true then
Option.bind (CW) (fun r2=>
some (r2))
else Option.bind (JB a2) (fun r3=>
if (!r3)=true then
Option.bind (CW) (fun r4=>
some (r4))
else if (a0.2.1.length:Int)>20 then
Option.bind (CW) (fun r5=>
some (r5))
else if (a0.1.size:Int)>300 then
Option.bind (CW) (fun r6=>
some (r6))
else Option.bind (JO a3) (fun r7=>
Option.bind (IM r7) (fun r8=>
Option.bind (CN a5 (AG ((r8.1.2.2.1.length:Int)+1))) (fun r9=>
Option.bind (CN a6 (AG (r8.1.2.2.2.1+2))) (fun JQ=>
AJ (σ:=Int) (β:=Bool) (fun s1=>
if s1<(([(0,false,0),a4,(r9,a7,AG (JQ-1))]:List S0).length:Int) then
if 0<=s1/\s1<(([(0,false,0),a4,(r9,a7,AG (JQ-1))]:List S0).length:Int) then
Option.bind (G7 r8.1.2.1 a8 a9 a10) (fun U2=>
AJ (σ:=Int) (β:=(Int ⊕ Bool)) (fun s2=>
if s2<(([r8.1.2.1,a1,U2]:List B1).length:Int) then
if 0<=s2/\s2<(([r8.1.2.1,a1,U2]:List B1).length:Int) then
AJ (σ:=Int) (β:=(Int ⊕ (Int ⊕ Bool))) (fun s3=>
if s3<(([r8.1.2.2.1,a2]:List ED).length:Int) then
if 0<=s3/\s3<(([r8.1.2.2.1,a2]:List ED).length:Int) then
AJ (σ:=Int) (β:=(Int ⊕ (Int ⊕ (Int ⊕ Bool)))) (fun s4=>
if s4<(([r8.1.1,a0]:List GP).length:Int) then
if 0<=s4/\s4<(([r8.1.1,a0]:List GP).length:Int) then
Option.bind (EK ((gl ((⟨#[]⟩,[],0):GP) ([r8.1.1,a0]:List GP) s4.toNat).1,((gl ((⟨#[]⟩,[],0):GP) ([r8.1.1,a0]:List GP) s4.toNat).2)) ((gl ((0,[],[]):B1) ([r8.1.2.1,a1,U2]:List B1) s2.toNat).1,((gl ((0,[],[]):B1) ([r8.1.2.1,a1,U2]:List B1) s2.toNat).2)) (gl ([]:ED) ([r8.1.2.2.1,a2]:List ED) s3.toNat) ((gl ((0,false,0):S0) ([(0,false,0),a4,(r9,a7,AG (JQ-1))]:List S0) s1.toNat).1,((gl ((0,false,0):S0) ([(0,false,0),a4,(r9,a7,AG (JQ-1))]:List S0) s1.toNat).2))) (fun NX=>
Option.bind (GC ((gl ((⟨#[]⟩,[],0):GP) ([r8.1.1,a0]:List GP) s4.toNat).1,((gl ((⟨#[]⟩,[],0):GP) ([r8.1.1,a0]:List GP) s4.toNat).2)) ((gl ((0,[],[]):B1) ([r8.1.2.1,a1,U2]:List B1) s2.toNat).1,((gl ((0,[],[]):B1) ([r8.1.2.1,a1,U2]:List B1) s2.toNat).2)) (gl ([]:ED) ([r8.1.2.2.1,a2]:List ED) s3.toNat) ((gl ((0,false,0):S0) ([(0,false,0),a4,(r9,a7,AG (JQ-1))]:List S0) s1.toNat).1,((gl ((0,false,0):S0) ([(0,false,0),a4,(r9,a7,AG (JQ-1))]:List S0) s1.toNat).2))) (fun QV=>
if (!(WI [decide (NX.2.1.1=QV.2.1.1),(NX.2.1.2.1==QV.2.1.2.1),decide (NX.2.1.2.2=QV.2.1.2.2)]))=true then
some (Sum.inr (Sum.inr (Sum.inr (Sum.inr (false)))))
else if ¬NX.2.2.1=QV.2.2.1 then
some (Sum.inr (Sum.inr (Sum.inr (Sum.inr (false)))))
else if ¬NX.2.2.2=QV.2.2.2 then
some (Sum.inr (Sum.inr (Sum.inr (Sum.inr (false)))))
else Option.bind (HK NX.1 QV.1) (fun nH=>
if (!nH)=true then
some (Sum.inr (Sum.inr (Sum.inr (Sum.inr (false)))))
else some (Sum.inl (AG (s4+1))))))
else none
else some (Sum.inr (Sum.inl (AG (s3+1))))) (0)
else none
else some (Sum.inr (Sum.inl (AG (s2+1))))) (0)
else none
else some (Sum.inr (Sum.inl (AG (s1+1))))) (0))
else none
else Option.map Sum.inr (Option.bind (CW) (fun oF=>
some (oF)))) (0)))))))
@[reducible] def JT:FnI:=BX [UX,DX,KL,XJ,iO,AQ,AQ,lV,AQ,AQ,AQ] [GX] fun x=>GY x.1 x.2.1 x.2.2.1 x.2.2.2.1 x.2.2.2.2.1 x.2.2.2.2.2.1 x.2.2.2.2.2.2.1 x.2.2.2.2.2.2.2.1 x.2.2.2.2.2.2.2.2.1 x.2.2.2.2.2.2.2.2.2.1 x.2.2.2.2.2.2.2.2.2.2
def SI:Cx:=BL [(11,(5,1)),(12,(6,1)),(15,(7,1)),(23,(21,1)),(24,(22,1)),(26,(24,1)),(28,(30,1)),(32,(35,1)),(34,(37,1)),(38,(39,1)),(64,(8,2)),(65,(10,11)),(84,(23,1)),(98,(25,2)),(99,(27,1)),(104,(28,2)),(108,(31,1)),(113,(32,1)),(117,(33,1)),(122,(34,1)),(128,(36,1)),(138,(38,1))] [] [(5,TH),(6,SE),(7,MH),(8,OA),(9,O3),(10,LA),(11,RI),(12,PK),(13,T1),(14,ON)] [(0,B3 [(86,AQ)] [] [] (FA [(22,1),(26,1),(28,1),(30,1),(32,9),(87,79)]) [] 24),(2,B3 [(101,AQ)] [] [] (FA [(22,1),(28,1),(30,1),(32,9),(102,63)]) [] 28),(4,B3 [(110,AQ)] [] [] (FA [(22,1),(30,1),(32,9),(111,53)]) [] 32),(6,B3 [(119,AQ)] [] [] (FA [(22,1),(32,9),(120,43)]) [] 34)] []
theorem QM:CV 3 JT:=okW SI [.tmp 22] 167 35 (BG (.cons cI (.cons aP (.cons P_ (.cons T0 (.cons UY (.cons N2 (.cons Z0 (.cons S3 (.cons dY (.cons WU AM.nil)))))))))) BD.nil) Tryz.func3
def HL (a0:(List Int)):Option Bool:=
Option.bind (JO a0) (fun r1=>
Option.bind (IM r1) (fun r2=>
Option.bind (IH r2.1.2.2.1) (fun r3=>
AJ (σ:=(ED×Int×Int×B1×S0)) (β:=Bool) (fun s1=>
if s1.2.2.1<=(r3.length:Int) then
Option.bind (EK r2.1.1 s1.2.2.2.1 s1.1 s1.2.2.2.2) (fun r4=>
if ¬r4.2.2.2=0 then
some (Sum.inr (false))
else if r4.2.2.1=true then
if s1.2.1=(r3.length:Int) then
Option.bind (CW) (fun r5=>
some (Sum.inr (r5)))
else some (Sum.inr (false))
else if (r4.1.length:Int)=0 then
if s1.2.1<(r3.length:Int) then
if 0<=s1.2.1/\s1.2.1<(r3.length:Int) then
Option.bind (BH s1.2.2.2.1 ((gl ((0,0,0,0,0):AA) r3 s1.2.1.toNat).1,((gl ((0,0,0,0,0):AA) r3 s1.2.1.toNat).2).1,(((gl ((0,0,0,0,0):AA) r3 s1.2.1.toNat).2).2).1,((((gl ((0,0,0,0,0):AA) r3 s1.2.1.toNat).2).2).2))) (fun r6=>
Option.bind (C4 s1.2.2.2.1) (fun r7=>
if r6>(r7.length:Int) then
Option.bind (CW) (fun r8=>
some (Sum.inr (r8)))
else some (Sum.inr (false))))
else none
else some (Sum.inr (false))
else AJ (σ:=(ED×Int×Int×B1)) (β:=((ED×Int×Int×B1×S0) ⊕ Bool)) (fun s2=>
if s2.2.2.1<(r4.1.length:Int) then
if 0<=s2.2.2.1/\s2.2.2.1<(r4.1.length:Int) then
if s2.2.1≥(r3.length:Int) then
some (Sum.inr (Sum.inr (false)))
else if 0<=s2.2.1/\s2.2.1<(r3.length:Int) then
if (!(WI [decide (((gl ((0,0,0,0,0):AA) r4.1 s2.2.2.1.toNat).1)=((gl ((0,0,0,0,0):AA) r3 s2.2.1.toNat).1)),decide ((((gl ((0,0,0,0,0):AA) r4.1 s2.2.2.1.toNat).2).1)=(((gl ((0,0,0,0,0):AA) r3 s2.2.1.toNat).2).1)),decide (((((gl ((0,0,0,0,0):AA) r4.1 s2.2.2.1.toNat).2).2).1)=((((gl ((0,0,0,0,0):AA) r3 s2.2.1.toNat).2).2).1)),decide ((((((gl ((0,0,0,0,0):AA) r4.1 s2.2.2.1.toNat).2).2).2).1)=(((((gl ((0,0,0,0,0):AA) r3 s2.2.1.toNat).2).2).2).1)),decide ((((((gl ((0,0,0,0,0):AA) r4.1 s2.2.2.1.toNat).2).2).2).2)=(((((gl ((0,0,0,0,0):AA) r3 s2.2.1.toNat).2).2).2).2))]))=true then
some (Sum.inr (Sum.inr (false)))
else Option.bind (C1 s2.1 ((gl ((0,0,0,0,0):AA) r4.1 s2.2.2.1.toNat).1)) (fun r9=>
Option.bind (F6 s2.2.2.2 ((gl ((0,0,0,0,0):AA) r4.1 s2.2.2.1.toNat).1,((gl ((0,0,0,0,0):AA) r4.1 s2.2.2.1.toNat).2).1,(((gl ((0,0,0,0,0):AA) r4.1 s2.2.2.1.toNat).2).2).1,((((gl ((0,0,0,0,0):AA) r4.1 s2.2.2.1.toNat).2).2).2))) (fun JQ=>
some (Sum.inl ((r9.1,AG (s2.2.1+1),AG (s2.2.2.1+1),JQ.1)))))
else none
else none
else some (Sum.inr (Sum.inl ((s2.1,s2.2.1,AG (s1.2.2.1+1),s2.2.2.2,r4.2.1))))) ((s1.1,s1.2.1,0,s1.2.2.2.1)))
else some (Sum.inr (false))) ((r2.1.2.2.1,0,0,r2.1.2.1,(0,false,0))))))
@[reducible] def KN:FnI:=BX [XJ] [GX] fun x=>HL x
def S4:Cx:={ nm:=[(3,(14,1)),(4,(15,1)),(6,(17,1)),(8,(18,1)),(12,(21,1)),(16,(24,1)),(19,(1,2)),(20,(3,11)),(25,(16,1)),(42,(20,1)),(72,(22,1)),(103,(25,1)),(109,(26,2))],CG:=[],fns:=AEG [(7,MH),(8,OA),(9,O3),(12,PK),(15,N4),(16,CU),(17,FL),(18,K1),(19,TE)],loops:=[(0,B3 [(7,KL),(9,AQ),(10,AQ)] [(17,DX),(18,iO)] [] (FA [(2,1),(11,4),(16,1),(30,84)]) [] 31),(2,B3 [(7,KL),(9,AQ),(81,AQ)] [(17,DX)] [] (FA [(2,1),(16,1),(82,31)]) [] 28)],bN:=[],tb:=oB,exts:=[],lets:=[],AXI:=[7] }
theorem SJ:CV 4 KN:=okW S4 [.tmp 2] 114 33 (BG (.cons P_ (.cons T0 (.cons UY (.cons S3 (.cons TJ (.cons C0 (.cons GI (.cons PD (.cons cF AM.nil))))))))) BD.nil) Tryz.func4
end
end Go.Proofs.YtjbojdpdkikioaaGreatDoor
namespace Go.Proofs.YtjbojdpdkikioaaGreatDoor
open Go Go.V3
theorem BT {P:Prop} (h:¬P):(false=true↔P):=⟨fun e=>absurd e (by decide),fun p=>absurd p h⟩
theorem map_inr {α β:Type} {x:Option β} {Q:β->Prop} (h:∃ b,x=some b/\Q b):∃ b,Option.map (Sum.inr (α:=α)) x=some (Sum.inr b)/\Q b:=by
 obtain⟨b,rfl,h⟩:=h;exact⟨b,rfl,h⟩
theorem if3 {α:Type} {a b c:Prop} [Decidable a] [Decidable b] [Decidable c] {x y:α}:(if a then (if b then (if c then x else y) else y) else y)=if a/\b/\c then x else y:=by
 by_cases ha:a <;> by_cases hb:b <;> by_cases hc:c <;> simp [ha,hb,hc]
theorem oI (s:Int):FK s=some (decide (3<=s/\s<=8)):=by
 unfold FK
 by_cases h:s≥3
 ·rw[AB h];congr 1;rw[ZP,NI,NI];omega
 ·rw[AD h];congr 1;rw[ZP,NI];simp;omega
theorem AMT (s:Int):UC s=some (decide (3<=s/\s<=8)):=by
 unfold UC
 by_cases h:s≥3
 ·rw[AB h];congr 1;rw[ZP,NI,NI];omega
 ·rw[AD h];congr 1;rw[ZP,NI];simp;omega
theorem AHU (f:Fr):∃ b,DS f=some b/\(b=true↔Stamped f):=by
 unfold DS
 by_cases h0:f.1<0
 ·rw[AB h0];exact⟨_,rfl,BT fun h=>by have:=h.1;omega⟩
 rw[AD h0]
 by_cases h1:f.1>4294967295
 ·rw[AB h1];exact⟨_,rfl,BT fun h=>by have:=h.2.1;omega⟩
 rw[AD h1]
 refine AN (fun k s=>s=(k:Int)/\k<=4/\∀ b:Int,0<=b->b<k->f.2.1≠f.1+b*4294967296) _ 4 ?_ ?_ ⟨rfl,by omega,fun b h1 h2=>by omega⟩
 ·rintro k s hk ⟨rfl,_,hb⟩
  rw[AB (by omega),AE (e:=(k:Int)*4294967296) (by omega) (by omega),AE (e:=f.1+_) (by omega) (by omega)]
  by_cases he:f.2.1=f.1+k*4294967296
  ·rw[AB he]
   exact .inr ⟨_,rfl,iG rfl ⟨by omega,by omega,k,by omega,by omega,he⟩⟩
  ·rw[AD he,AE (by omega) (by omega)]
   refine .inl ⟨_,rfl,by omega,by omega,fun b h2 h3=> ?_⟩
   by_cases hbk:b=k
   ·subst hbk;exact he
   ·exact hb b h2 (by omega)
 ·rintro s ⟨rfl,_,hb⟩
  rw[AD (by omega)]
  refine⟨_,rfl,BT ?_⟩
  rintro⟨_,_,b,h2,h3,h4⟩
  exact hb b h2 h3 h4
theorem AMU {s:Sp} (hs:3<=s.1/\s.1<=8) (hn:s.2.2.length<=64) (hw:(s.2.1.length:Int)=s.2.2.length*sz s.1) {i:Int} (h0:0<=i) (h1:i<s.2.2.length) {a b:Int} (ha:a=i*sz s.1) (hb:b=i*sz s.1+sz s.1)
  {β:Type} {x y:β} {f:Int->Option (Int ⊕ β)} (hf:∀ p:Int,a<=p->p<s.2.1.length->f p=if p<b then (if ¬gl 0#64 s.2.1 p.toNat=0#64 then some (.inr x) else some (.inl (p+1))) else some (.inr y)) (qS:f b=some (.inr y)):
  ∃ r,AJ f a=some r/\((r=x/\¬Zero s i)\/(r=y/\Zero s i)):=by
 have hz:=OG hs
 have m3:=(b6 hs (show 0<=i+1 by omega) (show i+1<=s.2.2.length by omega)).2
 rw[IS] at m3
 have m0:=(b6 hs h0 (S7 i)).1
 refine AN (fun k p=>p=a+k/\∀ j:Nat,a<=j->(j:Int)<p->gl 0#64 s.2.1 j=0#64) _ (sz s.1).toNat ?_ ?_ ⟨by omega,fun j h2 h3=>by omega⟩
 ·rintro k p hk ⟨rfl,hj⟩
  rw[hf _ (by omega) (by omega),AB (by omega)]
  by_cases hg:gl 0#64 s.2.1 (a+k).toNat=0#64
  ·rw[AD (by simp [hg])]
   refine .inl ⟨_,rfl,by omega,fun j h2 h3=> ?_⟩
   by_cases kP:(j:Int)=a+k
   ·rw[<-hg];congr 1;omega
   ·exact hj j h2 (by omega)
  ·rw[AB hg]
   refine .inr ⟨_,rfl,.inl ⟨rfl,fun hz=>hg ?_⟩⟩
   exact hz (a+k).toNat (by omega) (by rw[IS];omega)
 ·rintro p ⟨rfl,hj⟩
  have e:a+((sz s.1).toNat:Int)=b:=by omega
  rw[e] at hj ⊢
  rw[qS]
  refine⟨_,rfl,.inr ⟨rfl,fun j h2 h3=>hj j (by omega) ?_⟩⟩
  rw[IS] at h3;omega
theorem AKD {xs:List Int} {j:Nat} {v:Int} (hj:j<xs.length) (k:Nat):gl 0 (xs.set j v) k=if k=j then v else gl 0 xs k:=D8 hj
structure iS (s:Sp) (k:Nat):Prop where
 fr:∀ i:Int,0<=i->i<k->AUC s i
 inj:∀ i j:Int,0<=i->i<k->0<=j->j<k->nx s.2.2 i=nx s.2.2 j->nx s.2.2 i≠-1->i=j
theorem iS.free {s:Sp} {k:Nat} (h:iS s k) (hk:k<s.2.2.length) (hf:AUC s k) (hn:nx s.2.2 k= -1):iS s (k+1):=by
 refine⟨fun i h0 h1=> ?_,fun i j h0 h1 h2 h3 he CO=> ?_⟩
 ·by_cases hi:i=k
  ·subst hi;exact hf
  ·exact h.fr i h0 (by omega)
 ·by_cases hi:i=k
  ·subst hi;exact absurd hn CO
  ·by_cases hj:j=k
   ·subst hj;rw[he] at CO;exact absurd hn CO
   ·exact h.inj i j h0 (by omega) h2 (by omega) he CO
theorem iS.used {s:Sp} {k:Nat} (h:iS s k) (hk:k<s.2.2.length) (hf:AUC s k) (hn:∀ i:Int,0<=i->i<k->nx s.2.2 i≠nx s.2.2 k):iS s (k+1):=by
 refine⟨fun i h0 h1=> ?_,fun i j h0 h1 h2 h3 he CO=> ?_⟩
 ·by_cases hi:i=k
  ·subst hi;exact hf
  ·exact h.fr i h0 (by omega)
 ·by_cases hi:i=k
  ·subst hi
   by_cases hj:j=k
   ·omega
   ·exact absurd he.symm (hn j h2 (by omega))
  ·by_cases hj:j=k
   ·subst hj;exact absurd he (hn i h0 (by omega))
   ·exact h.inj i j h0 (by omega) h2 (by omega) he CO
theorem iS.IA {s:Sp} (h:iS s s.2.2.length):Rng s.2.2:=by
 intro i h0 h1
 rw[IC h0 h1]
 rcases h.fr i h0 h1 with ⟨hf,_⟩|hu
 ·rw[show (Go.V3.fr s.2.2 i).2.2= -1 from by rw[hf]];omega
 ·exact⟨hu.2.1,hu.2.2.1⟩
theorem fB (s:Sp):∃ b,DO s=some b/\(b=true↔VS s):=by
 unfold DO
 rw[oI]
 simp only[BC]
 by_cases hs:3<=s.1/\s.1<=8
 rotate_left
 ·rw[AB (by simp [hs])];exact⟨_,rfl,BT fun h=>hs h.sh⟩
 rw[AD (by simp [hs])]
 by_cases hn:(s.2.2.length:Int)<2
 ·rw[AB hn];exact⟨_,rfl,BT fun h=>by have:=h.n.1;omega⟩
 rw[AD hn]
 by_cases hn2:(s.2.2.length:Int)>64
 ·rw[AB hn2];exact⟨_,rfl,BT fun h=>by have:=h.n.2;omega⟩
 have z:=OG hs
 obtain⟨q1,q2⟩:=MO hs (by omega:0<=(s.2.2.length:Int)) (show (s.2.2.length:Int)<=64 by omega)
 rw[AD hn2,AB trivial,QL hs,AE (by omega) (by omega)]
 by_cases hw:(s.2.1.length:Int)=s.2.2.length*sz s.1
 rotate_left
 ·rw[AB hw];exact⟨_,rfl,BT fun h=>hw h.w⟩
 rw[AD (by simp [hw])]
 refine AN (fun k st=>st.1=(k:Int)/\k<=s.2.2.length/\st.2.length=64/\iS s k/\∀ j:Int,0<=j->j<64->(gl 0 st.2 j.toNat=0/\∀ i:Int,0<=i->i<k->nx s.2.2 i≠j)\/(gl 0 st.2 j.toNat=1/\∃ i:Int,0<=i/\i<k/\nx s.2.2 i=j)) _ s.2.2.length ?_ ?_
  ⟨rfl,by omega,by simp,⟨fun i h0 h1=>by omega,fun i j h0 h1=>by omega⟩,fun j h0 h1=> .inl ⟨S1 (by omega),fun i h2 h3=>by omega⟩⟩
 ·rintro k ⟨i,cs⟩ hk ⟨h1,h2,h3,h4,h5⟩
  simp only at h1 h2 h3 h4 h5 ⊢
  subst h1
  have ki:0<=(k:Int)/\(k:Int)<s.2.2.length:=⟨by omega,by omega⟩
  have i1:=(b6 hs ki.1 (show (k:Int)<=s.2.2.length by omega)).1
  have i2:=(b6 hs (show 0<=(k:Int)+1 by omega) (show (k:Int)+1<=s.2.2.length by omega)).2
  rw[IS] at i2
  rw[AB ki.2,AB ki,if3,AE (e:=(k:Int)+1) (by omega) (by omega),IS,AE (e:=(k:Int)*sz s.1) (by omega) (by omega),AE (e:=(k:Int)*sz s.1+sz s.1) (by omega) (by omega)]
  have LY:gl (0,0,0) s.2.2 (k:Int).toNat=fr s.2.2 k:=rfl
  simp only[LY]
  have UU:=IC ki.1 ki.2
  by_cases hf:(fr s.2.2 k).1= -1/\(fr s.2.2 k).2.1= -1/\(fr s.2.2 k).2.2= -1
  ·rw[AB hf,AB trivial]
   have u_:AMR (fr s.2.2 k):=by
    obtain⟨a,b,c⟩:=hf
    unfold AMR
    rw[<-Prod.eta (fr s.2.2 k),←Prod.eta (fr s.2.2 k).2,a,b,c]
   obtain⟨r,hr,hc⟩:=AMU hs (by omega) hw ki.1 ki.2 rfl rfl (x:=Sum.inr false) (y:=Sum.inl ((k:Int)+1,cs)) (f:=fun s2=>if True then
     if s2<(k:Int)*sz s.1+sz s.1 then
     if 0<=s2/\s2<(s.2.1.length:Int) then
     if ¬(gl 0#64 s.2.1 s2.toNat)=(0#64) then
     some (Sum.inr (Sum.inr (false)))
     else some (Sum.inl (AG (s2+1)))
     else none
     else some (Sum.inr (Sum.inl (((k:Int)+1,cs))))
     else none) (fun p p0 p1=>by
      simp only[G4]
      by_cases hp:p<(k:Int)*sz s.1+sz s.1
      ·rw[AB hp,AB ⟨by omega,p1⟩,AB hp,AE (by omega) (by omega)]
      ·rw[AD hp,AD hp]) (by simp only[G4];rw[AD (by omega)])
   rw[hr]
   rcases hc with ⟨rfl,hc⟩|⟨rfl,hc⟩
   ·refine .inr ⟨_,rfl,BT fun h=> ?_⟩
    rcases h.fr k ki.1 ki.2 with h6|h6
    ·exact hc h6.2
    ·have:=h6.1.1;omega
   ·refine .inl ⟨_,rfl,rfl,by omega,h3,h4.free hk (.inl ⟨u_,hc⟩) (by rw[UU,hf.2.2]),fun j j0 j1=> ?_⟩
    rcases h5 j j0 j1 with ⟨h6,h7⟩|⟨h6,i,h7,h8,h9⟩
    ·refine .inl ⟨h6,fun i h8 h9=> ?_⟩
     by_cases eS:i=k
     ·rw[eS,UU,hf.2.2];omega
     ·exact h7 i h8 (by omega)
    ·exact .inr ⟨h6,i,h7,by omega,h9⟩
  ·rw[AD hf]
   obtain⟨b,hb,LL⟩:=AHU (fr s.2.2 k)
   have MI:∀ h:VS s,YK s.2.2 k:=fun h=>by
    rcases h.fr k ki.1 ki.2 with h6|h6
    ·exfalso;apply hf;rw[h6.1];decide
    ·exact h6
   have he:DS ((fr s.2.2 k).1,(fr s.2.2 k).2)=some b:=hb
   rw[he]
   simp only[BC]
   by_cases SQ :b=true
   rotate_left
   ·rw[AB (by simpa using SQ)];exact .inr ⟨_,rfl,BT fun h=>SQ (LL.2 (MI h).1)⟩
   rw[AD (by simp [SQ])]
   have hst:=LL.1 SQ
   by_cases c1:(fr s.2.2 k).2.2< -1
   ·rw[AB c1];exact .inr ⟨_,rfl,BT fun h=>by have:=(MI h).2.1;omega⟩
   rw[AD c1]
   by_cases c2:(fr s.2.2 k).2.2≥s.2.2.length
   ·rw[AB c2];exact .inr ⟨_,rfl,BT fun h=>by have:=(MI h).2.2.1;omega⟩
   rw[AD c2]
   by_cases c3:(fr s.2.2 k).2.2=k
   ·rw[AB c3];exact .inr ⟨_,rfl,BT fun h=>(MI h).2.2.2.1 c3⟩
   rw[AD c3]
   by_cases c4:(fr s.2.2 k).2.2= -1
   ·rw[AB c4]
    refine .inl ⟨_,rfl,rfl,by omega,h3,h4.free hk (.inr ⟨hst,by omega,by omega,c3,fun h=>absurd c4 h⟩) (by rw[UU,c4]),fun j j0 j1=> ?_⟩
    rcases h5 j j0 j1 with ⟨h6,h7⟩|⟨h6,i,h7,h8,h9⟩
    ·refine .inl ⟨h6,fun i h8 h9=> ?_⟩
     by_cases eS:i=k
     ·rw[eS,UU,c4];omega
     ·exact h7 i h8 (by omega)
    ·exact .inr ⟨h6,i,h7,by omega,h9⟩
   rw[AD c4]
   have hn0:gl (0,0,0) s.2.2 ((fr s.2.2 k).2.2).toNat=fr s.2.2 (fr s.2.2 k).2.2:=rfl
   rw[hn0]
   generalize x6:(fr s.2.2 k).2.2=nn at*
   rw[AB ⟨by omega,by omega⟩,AB ⟨⟨by omega,by omega⟩,by omega⟩,AB ⟨⟨by omega,by omega⟩,by omega⟩]
   by_cases c5:(fr s.2.2 nn).1=(fr s.2.2 k).1
   rotate_left
   ·rw[AB c5];exact .inr ⟨_,rfl,BT fun h=>c5 (by have:=((MI h).2.2.2.2 (by omega)).1;rw[x6] at this;exact this)⟩
   rw[AD (by simp [c5])]
   by_cases c6:(fr s.2.2 nn).2.1=(fr s.2.2 k).2.1
   rotate_left
   ·rw[AB c6];exact .inr ⟨_,rfl,BT fun h=>c6 (by have:=((MI h).2.2.2.2 (by omega)).2;rw[x6] at this;exact this)⟩
   rw[AD (by simp [c6]),EP,AB ⟨⟨by omega,by omega⟩,by omega⟩,AKD (by omega),AB rfl]
   rcases h5 nn (by omega) (by omega) with ⟨h6,h7⟩|⟨h6,i,h7,h8,h9⟩
   ·rw[h6,AE (by omega) (by omega),AD (by omega)]
    refine .inl ⟨_,rfl,rfl,by omega,by simp [h3],h4.used hk (.inr ⟨hst,by omega,by omega,by omega,fun _=>by rw[x6];exact⟨c5,c6⟩⟩) (fun i h8 h9=>by rw[UU];exact h7 i h8 h9),fun j j0 j1=> ?_⟩
    rw[AKD (by omega)]
    by_cases hj:j=nn
    ·subst hj
     rw[AB rfl]
     exact .inr ⟨by omega,k,by omega,by omega,by rw[UU]⟩
    ·rw[AD (by omega)]
     rcases h5 j j0 j1 with ⟨tC,h11⟩|⟨tC,i,h11,h12,h13⟩
     ·refine .inl ⟨tC,fun i h8 h9=> ?_⟩
      by_cases eS:i=k
      ·rw[eS,UU];omega
      ·exact h11 i h8 (by omega)
     ·exact .inr ⟨tC,i,h11,by omega,h13⟩
   ·rw[h6,AE (by omega) (by omega),AB (by omega)]
    refine .inr ⟨_,rfl,BT fun h=> ?_⟩
    have:=h.inj i k h7 (by omega) ki.1 ki.2 (by rw[h9,UU]) (by rw[h9];omega)
    omega
 ·rintro⟨i,cs⟩ ⟨h1,h2,h3,h4,h5⟩
  simp only at h1 h2 h3 h4 h5 ⊢
  subst h1
  rw[AD (by omega)]
  have hr:=h4.IA
  refine map_inr ?_
  refine AN (fun k i=>i=(k:Int)/\k<=s.2.2.length/\∀ j:Int,0<=j->j<k->∃ l,Pa s.2.2 j l) _ s.2.2.length ?_ ?_ ⟨rfl,by omega,fun j h0 h1=>by omega⟩
  ·rintro k i hk ⟨rfl,_,hp⟩
   rw[AB (by omega)]
   have hx:∃ b,AJ (σ:=Int×Int) (β:=Int ⊕ Bool) (fun s4:Int×Int=>
     if s4.2<=(s.2.2.length:Int) then
     if ¬s4.1=(-1) then
     if 0<=s4.1/\s4.1<(s.2.2.length:Int) then
     some (Sum.inl ((((gl (0,0,0) s.2.2 s4.1.toNat).2).2,AG (s4.2+1))))
     else none
     else Option.map Sum.inr (if ¬s4.1=(-1) then
     some (Sum.inr (false))
     else some (Sum.inl (AG ((k:Int)+1))))
     else Option.map Sum.inr (if ¬s4.1=(-1) then
     some (Sum.inr (false))
     else some (Sum.inl (AG ((k:Int)+1))))) ((k:Int),0)=some b/\((b=Sum.inr false/\¬∃ l,Pa s.2.2 k l)\/(b=Sum.inl ((k:Int)+1)/\∃ l,Pa s.2.2 k l)):=by
    refine AN (fun m (st:Int×Int)=>st.2=(m:Int)/\st.1=oD s.2.2 m k∧-1<=st.1/\st.1<s.2.2.length) _ (s.2.2.length+1) ?_ ?_ ⟨rfl,rfl,by simp only;omega,by simp only;omega⟩
    ·rintro m ⟨f,q⟩ hm ⟨e1,e2,e3,e4⟩
     simp only at e1 e2 e3 e4 ⊢
     subst e1
     rw[AB (by omega)]
     by_cases hf:f= -1
     ·rw[AD (by simp [hf]),AD (by simp [hf]),AE (by omega) (by omega)]
      exact .inr ⟨_,rfl,.inr ⟨rfl,Pa.AB8 hr m k (by omega) (by omega) (by rw[<-e2,hf])⟩⟩
     ·rw[AB hf,AB ⟨by omega,e4⟩,AE (by omega) (by omega)]
      have:=hr f (by omega) e4
      have h0:(gl (0,0,0) s.2.2 f.toNat).2.2=nx s.2.2 f:=(IC (by omega) e4).symm
      rw[h0]
      exact .inl ⟨_,rfl,by simp only;omega,by rw[oD,←e2],this.1,this.2⟩
    ·rintro⟨f,q⟩ ⟨e1,e2,e3,e4⟩
     simp only at e1 e2 e3 e4 ⊢
     rw[AD (by omega)]
     by_cases hf:f= -1
     ·rw[AD (by simp [hf]),AE (by omega) (by omega)]
      exact⟨_,rfl,.inr ⟨rfl,Pa.AB8 hr _ k (by omega) (by omega) (by rw[<-e2,hf])⟩⟩
     ·rw[AB hf]
      refine⟨_,rfl,.inl ⟨rfl, ?_⟩⟩
      rintro⟨l,hl⟩
      exact hf (by rw[e2];exact hl.ends _ (by have:=hl.length;omega))
   obtain⟨b,hb,hc⟩:=hx
   rw[hb]
   rcases hc with ⟨rfl,hc⟩|⟨rfl,hc⟩
   ·exact .inr ⟨_,rfl,BT fun h=>hc (h.acy k (by omega) (by omega))⟩
   ·refine .inl ⟨_,rfl,by omega,by omega,fun j j0 j1=> ?_⟩
    by_cases kP:j=k
    ·subst kP;exact hc
    ·exact hp j j0 (by omega)
  ·rintro i ⟨rfl,_,hp⟩
   rw[AD (by omega)]
   exact⟨_,rfl,iG rfl ⟨hs,⟨by omega,by omega⟩,hw,h4.fr,h4.inj,hp⟩⟩
theorem AQM (xs:List (BitVec 64)) (h:xs.length<=1000000):∃ b,WB xs=some b/\(b=true↔∀ j,j<xs.length->gl 0#64 xs j=0#64):=by
 unfold WB
 refine AN (fun k s=>s=(k:Int)/\k<=xs.length/\∀ j,j<k->gl 0#64 xs j=0#64) _ xs.length ?_ ?_ ⟨rfl,by omega,fun j h1=>by omega⟩
 ·rintro k s hk ⟨rfl,_,hj⟩
  rw[AB (by omega),AB (by omega),show (k:Int).toNat=k from rfl]
  by_cases h0:gl 0#64 xs k=0#64
  ·rw[AD (by simp [h0]),AE (by omega) (by omega)]
   refine .inl ⟨_,rfl,by omega,by omega,fun j hj1=> ?_⟩
   by_cases kP:j=k
   ·subst kP;exact h0
   ·exact hj j (by omega)
  ·rw[AB h0]
   exact .inr ⟨_,rfl,BT fun hh=>h0 (hh k hk)⟩
 ·rintro s ⟨rfl,_,hj⟩
  rw[AD (by omega)]
  exact⟨_,rfl,iG rfl hj⟩
theorem AEX (s:Sp) (hr:Rng s.2.2) (hn:s.2.2.length<=64):∃ b,NW s=some b/\(b=true↔∀ i:Int,0<=i->i<s.2.2.length->∃ l,Pa s.2.2 i l):=by
 unfold NW
 refine AN (fun k i=>i=(k:Int)/\k<=s.2.2.length/\∀ i:Int,0<=i->i<k->∀ q:Nat,1<=q->q<=s.2.2.length->oD s.2.2 q i≠i) _ s.2.2.length ?_ ?_ ⟨rfl,by omega,fun j h0 h1=>by omega⟩
 ·rintro k i hk ⟨rfl,_,hp⟩
  rw[AB (by omega),AB (by omega)]
  have hx:∃ b,AJ (σ:=(Int×Int)) (β:=(Int ⊕ Bool)) (fun s2=>
    if s2.1≥0 then
    if s2.2<(s.2.2.length:Int) then
    if s2.1=(k:Int) then
    some (Sum.inr (Sum.inr (false)))
    else if 0<=s2.1/\s2.1<(s.2.2.length:Int) then
    some (Sum.inl ((((gl ((0,0,0):(Int×Int×Int)) s.2.2 s2.1.toNat).2).2,AG (s2.2+1))))
    else none
    else some (Sum.inr (Sum.inl (AG ((k:Int)+1))))
    else some (Sum.inr (Sum.inl (AG ((k:Int)+1))))) ((((gl ((0,0,0):(Int×Int×Int)) s.2.2 (k:Int).toNat).2).2,0))=some b∧
     ((b=Sum.inr false/\∃ q:Nat,1<=q/\oD s.2.2 q k=k)\/(b=Sum.inl ((k:Int)+1)/\∀ q:Nat,1<=q->q<=s.2.2.length->oD s.2.2 q k≠k)):=by
   have h1:=hr k (by omega) (by omega)
   have h2:(gl ((0,0,0):(Int×Int×Int)) s.2.2 (k:Int).toNat).2.2=nx s.2.2 k:=(IC (by omega) (by omega)).symm
   rw[h2,AE (by omega) (by omega)]
   refine AN (fun m (st:Int×Int)=>st.2=(m:Int)/\m<=s.2.2.length/\st.1=oD s.2.2 (m+1) k∧-1<=st.1/\st.1<s.2.2.length/\∀ q:Nat,1<=q->q<=m->oD s.2.2 q k≠k) _ s.2.2.length ?_ ?_ ⟨rfl,by omega,rfl,h1.1,h1.2,fun q h1 h2=>by omega⟩
   ·rintro m ⟨f,q⟩ hm ⟨e1,e0,e2,e3,e4,e5⟩
    simp only at e1 e2 e3 e4 ⊢
    subst e1
    by_cases hf:f≥0
    ·rw[AB hf,AB (by omega)]
     by_cases hfk:f=k
     ·rw[AB hfk]
      exact .inr ⟨_,rfl,.inl ⟨rfl,m+1,by omega,by rw[<-e2,hfk]⟩⟩
     ·rw[AD hfk,AB ⟨hf,e4⟩,AE (by omega) (by omega)]
      have:=hr f hf e4
      have h0:(gl ((0,0,0):(Int×Int×Int)) s.2.2 f.toNat).2.2=nx s.2.2 f:=(IC hf e4).symm
      rw[h0]
      refine .inl ⟨_,rfl,by simp only;omega,by omega,by simp only;rw[e2];rfl,this.1,this.2,fun q q1 q2=> ?_⟩
      by_cases hq:q=m+1
      ·subst hq;rw[<-e2];exact hfk
      ·exact e5 q q1 (by omega)
    ·rw[AD hf]
     refine .inr ⟨_,rfl,.inr ⟨rfl,fun q q1 q2=> ?_⟩⟩
     by_cases hq:q<=m
     ·exact e5 q q1 hq
     ·obtain⟨d,rfl⟩:=AIM (show m+1<=q by omega)
      rw[rU,←e2,show f= -1 from by omega,AB7]
      omega
   ·rintro⟨f,q⟩ ⟨e1,e0,e2,e3,e4,e5⟩
    simp only at e1 e2 e3 e4 ⊢
    subst e1
    rw[AD (by omega:¬((s.2.2.length:Int)<s.2.2.length))]
    have h6:(if f≥0 then some (Sum.inr (Sum.inl ((k:Int)+1))) else some (Sum.inr (Sum.inl ((k:Int)+1))))=some (Sum.inr (α:=Int×Int) (Sum.inl (β:=Bool) ((k:Int)+1))):=by split <;> rfl
    rw[h6]
    exact⟨_,rfl,.inr ⟨rfl,fun q q1 q2=>e5 q q1 q2⟩⟩
  obtain⟨b,hb,hc⟩:=hx
  rw[hb]
  rcases hc with ⟨rfl,q,q1,q2⟩|⟨rfl,hc⟩
  ·refine .inr ⟨_,rfl,BT fun h=> ?_⟩
   obtain⟨l,hl⟩:=h k (by omega) (by omega)
   exact hl.AQL (by omega) q q1 q2
  ·refine .inl ⟨_,rfl,by omega,by omega,fun i i0 i1=> ?_⟩
   by_cases eS:i=k
   ·subst eS;exact hc
   ·exact hp i i0 (by omega)
 ·rintro i ⟨rfl,_,hp⟩
  rw[AD (by omega)]
  exact⟨_,rfl,iG rfl fun i i0 i1=>Pa.AEP hr hp i i0 i1⟩
def StI (s:Sp):Prop:=∀ i:Int,0<=i->i<s.2.2.length->(fr s.2.2 i).2.1<=9223372036854775807
theorem zN (s:Sp) (hI:StI s):∃ b,IF s=some b/\(b=true↔VS s):=by
 unfold IF
 rw[AMT]
 simp only[BC]
 by_cases hs:3<=s.1/\s.1<=8
 rotate_left
 ·rw[AB (by simp [hs])];exact⟨_,rfl,BT fun h=>hs h.sh⟩
 rw[AD (by simp [hs])]
 by_cases hn:(s.2.2.length:Int)<2
 ·rw[AB hn];exact⟨_,rfl,BT fun h=>by have:=h.n.1;omega⟩
 rw[AD hn]
 by_cases hn2:(s.2.2.length:Int)>64
 ·rw[AB hn2];exact⟨_,rfl,BT fun h=>by have:=h.n.2;omega⟩
 have z:=OG hs
 obtain⟨q1,q2⟩:=MO hs (by omega:0<=(s.2.2.length:Int)) (show (s.2.2.length:Int)<=64 by omega)
 rw[AD hn2,AB trivial,QL hs,AE (by omega) (by omega)]
 by_cases hw:(s.2.1.length:Int)=s.2.2.length*sz s.1
 rotate_left
 ·rw[AB hw];exact⟨_,rfl,BT fun h=>hw h.w⟩
 rw[AD (by simp [hw])]
 refine AN (fun k (st:BitVec 64×Int)=>st.2=(k:Int)/\k<=s.2.2.length/\iS s k/\∀ j:Int,0<=j->j<64->(st.1.getLsbD j.toNat=true↔∃ i:Int,0<=i/\i<k/\nx s.2.2 i=j)) _ s.2.2.length ?_ ?_
  ⟨rfl,by omega,⟨fun i h0 h1=>by omega,fun i j h0 h1=>by omega⟩,fun j h0 h1=>⟨fun h=>by simp at h,fun ⟨i,h2,h3,_⟩=>by omega⟩⟩
 ·rintro k ⟨bs,i⟩ hk ⟨h1,h2,h4,h5⟩
  simp only at h1 h2 h4 h5 ⊢
  subst h1
  have ki:0<=(k:Int)/\(k:Int)<s.2.2.length:=⟨by omega,by omega⟩
  have i1:=(b6 hs ki.1 (show (k:Int)<=s.2.2.length by omega)).1
  have i2:=(b6 hs (show 0<=(k:Int)+1 by omega) (show (k:Int)+1<=s.2.2.length by omega)).2
  rw[IS] at i2
  rw[AB ki.2,AB ki,AE (e:=(k:Int)+1) (by omega) (by omega),IS,AE (e:=(k:Int)*sz s.1) (by omega) (by omega),AE (e:=(k:Int)*sz s.1+sz s.1) (by omega) (by omega)]
  have LY:gl (0,0,0) s.2.2 (k:Int).toNat=fr s.2.2 k:=rfl
  simp only[LY,G4]
  have UU:=IC ki.1 ki.2
  have CG:∀ k' :Nat,k' =k+1->nx s.2.2 k= -1->∀ j:Int,0<=j->j<64->(bs.getLsbD j.toNat=true↔∃ i:Int,0<=i/\i<k' /\nx s.2.2 i=j):=by
   rintro k' rfl hm j j0 j1
   rw[h5 j j0 j1]
   constructor
   ·rintro⟨i,i0,i1,i2⟩;exact⟨i,i0,by omega,i2⟩
   ·rintro⟨i,i0,i1,i2⟩
    refine⟨i,i0, ?_,i2⟩
    by_cases eS:i=k
    ·rw[eS,hm] at i2;omega
    ·omega
  by_cases hf:(fr s.2.2 k).1= -1
  ·rw[AB hf]
   by_cases qS:(fr s.2.2 k).2.1= -1
   rotate_left
   ·rw[AB qS]
    refine .inr ⟨_,rfl,BT fun h=> ?_⟩
    rcases h.fr k ki.1 ki.2 with h6|h6
    ·rw[h6.1] at qS;simp at qS
    ·have:=h6.1.1;omega
   rw[AD (by simp [qS])]
   by_cases hf3:(fr s.2.2 k).2.2= -1
   rotate_left
   ·rw[AB hf3]
    refine .inr ⟨_,rfl,BT fun h=> ?_⟩
    rcases h.fr k ki.1 ki.2 with h6|h6
    ·rw[h6.1] at hf3;simp at hf3
    ·have:=h6.1.1;omega
   rw[AD (by simp [hf3])]
   have u_:AMR (fr s.2.2 k):=by
    unfold AMR
    rw[<-Prod.eta (fr s.2.2 k),←Prod.eta (fr s.2.2 k).2,hf,qS,hf3]
   rw[AB ⟨⟨by omega,by omega⟩,by omega,by omega⟩]
   have hl:(B5 s.2.1 ((k:Int)*sz s.1).toNat (((k:Int)*sz s.1+sz s.1).toNat-((k:Int)*sz s.1).toNat)).length=((k:Int)*sz s.1+sz s.1).toNat-((k:Int)*sz s.1).toNat:=AER (by omega)
   obtain⟨b,hb,hc⟩:=AQM (B5 s.2.1 ((k:Int)*sz s.1).toNat (((k:Int)*sz s.1+sz s.1).toNat-((k:Int)*sz s.1).toNat)) (by omega)
   rw[hl] at hc
   have hz:(b=true↔Zero s k):=by
    rw[hc]
    constructor
    ·intro h a a0 a1
     rw[IS] at a1
     have:=h (a-((k:Int)*sz s.1).toNat) (by omega)
     rw[AKC (by omega)] at this
     rw[<-this];congr 1;omega
    ·intro h j hj
     rw[AKC hj]
     exact h _ (by omega) (by rw[IS];omega)
   rw[hb]
   simp only[BC]
   by_cases SQ :b=true
   ·rw[AD (by simp [SQ])]
    exact .inl ⟨_,rfl,rfl,by omega,h4.free hk (.inl ⟨u_,hz.1 SQ⟩) (by rw[UU,hf3]),CG _ rfl (by rw[UU,hf3])⟩
   ·rw[AB (by simpa using SQ)]
    refine .inr ⟨_,rfl,BT fun h=> ?_⟩
    rcases h.fr k ki.1 ki.2 with h6|h6
    ·exact SQ (hz.2 h6.2)
    ·have:=h6.1.1;omega
  ·rw[AD hf]
   have MI:∀ h:VS s,YK s.2.2 k:=fun h=>by
    rcases h.fr k ki.1 ki.2 with h6|h6
    ·exfalso;apply hf;rw[h6.1]
    ·exact h6
   by_cases d1:(fr s.2.2 k).1<0
   ·rw[AB d1];exact .inr ⟨_,rfl,BT fun h=>by have:=(MI h).1.1;omega⟩
   rw[AD d1]
   by_cases d2:(fr s.2.2 k).1>4294967295
   ·rw[AB d2];exact .inr ⟨_,rfl,BT fun h=>by have:=(MI h).1.2.1;omega⟩
   rw[AD d2]
   by_cases d3:(fr s.2.2 k).2.1<0
   ·rw[AB d3];exact .inr ⟨_,rfl,BT fun h=>by obtain⟨_,_,b,_,_,hb⟩:=(MI h).1;omega⟩
   rw[AD d3,AB (by omega),Int.tmod_eq_emod_of_nonneg (by omega),Int.tdiv_eq_ediv_of_nonneg (by omega)]
   by_cases d4:(fr s.2.2 k).2.1%4294967296=(fr s.2.2 k).1
   rotate_left
   ·rw[AB d4];exact .inr ⟨_,rfl,BT fun h=>by obtain⟨_,_,b,_,_,hb⟩:=(MI h).1;omega⟩
   rw[AD (by simp [d4]),AB (by decide:¬(4294967296:Int)=0)]
   by_cases d5:AG ((fr s.2.2 k).2.1 / 4294967296)≥4
   ·rw[AB d5]
    refine .inr ⟨_,rfl,BT fun h=> ?_⟩
    obtain⟨_,_,b,_,_,hb⟩:=(MI h).1
    rw[AE (by omega) (by omega)] at d5
    omega
   rw[AD d5]
   by_cases c1:(fr s.2.2 k).2.2< -1
   ·rw[AB c1];exact .inr ⟨_,rfl,BT fun h=>by have:=(MI h).2.1;omega⟩
   rw[AD c1]
   by_cases c2:(fr s.2.2 k).2.2≥s.2.2.length
   ·rw[AB c2];exact .inr ⟨_,rfl,BT fun h=>by have:=(MI h).2.2.1;omega⟩
   rw[AD c2]
   by_cases c3:(fr s.2.2 k).2.2=k
   ·rw[AB c3];exact .inr ⟨_,rfl,BT fun h=>(MI h).2.2.2.1 c3⟩
   rw[AD c3]
   have hI' :=hI k ki.1 ki.2
   rw[AE (by omega) (by omega)] at d5
   have hst:Stamped (fr s.2.2 k):=⟨by omega,by omega,(fr s.2.2 k).2.1 / 4294967296,by omega,by omega,by omega⟩
   by_cases c4:(fr s.2.2 k).2.2<0
   ·rw[AB c4]
    have c4' :(fr s.2.2 k).2.2= -1:=by omega
    exact .inl ⟨_,rfl,rfl,by omega,h4.free hk (.inr ⟨hst,by omega,by omega,c3,fun h=>absurd c4' h⟩) (by rw[UU,c4']),CG _ rfl (by rw[UU,c4'])⟩
   rw[AD c4]
   have hn0:gl (0,0,0) s.2.2 ((fr s.2.2 k).2.2).toNat=fr s.2.2 (fr s.2.2 k).2.2:=rfl
   rw[hn0]
   generalize x6:(fr s.2.2 k).2.2=nn at*
   rw[AB ⟨by omega,by omega⟩,zL (by omega) (by omega)]
   by_cases c7:(bs >>> nn.toNat) &&& 1#64=1#64
   ·rw[AB c7]
    refine .inr ⟨_,rfl,BT fun h=> ?_⟩
    obtain⟨i,i0,i1,i2⟩:=(h5 nn (by omega) (by omega)).1 ((AEQ _ _).1 c7)
    have:=h.inj i k i0 (by omega) ki.1 ki.2 (by rw[i2,UU]) (by rw[i2];omega)
    omega
   rw[AD c7]
   rw[AEQ,h5 nn (by omega) (by omega)] at c7
   by_cases c5:(fr s.2.2 nn).1=(fr s.2.2 k).1
   rotate_left
   ·rw[AB c5];exact .inr ⟨_,rfl,BT fun h=>c5 (by have:=((MI h).2.2.2.2 (by omega)).1;rw[x6] at this;exact this)⟩
   rw[AD (by simp [c5])]
   by_cases c6:(fr s.2.2 nn).2.1=(fr s.2.2 k).2.1
   rotate_left
   ·rw[AB c6];exact .inr ⟨_,rfl,BT fun h=>c6 (by have:=((MI h).2.2.2.2 (by omega)).2;rw[x6] at this;exact this)⟩
   rw[AD (by simp [c6])]
   refine .inl ⟨_,rfl,rfl,by omega,h4.used hk (.inr ⟨hst,by omega,by omega,by omega,fun _=>by rw[x6];exact⟨c5,c6⟩⟩) (fun i h8 h9 he=>c7 ⟨i,h8,h9,by rw[he,UU]⟩),fun j j0 j1=> ?_⟩
   simp only
   rw[AKB _ _ (by omega),o9,h5 j j0 j1,NI]
   constructor
   ·rintro (⟨i,i0,i1,i2⟩|h6)
    ·exact⟨i,i0,by omega,i2⟩
    ·exact⟨k,by omega,by omega,by rw[UU];omega⟩
   ·rintro⟨i,i0,i1,i2⟩
    by_cases eS:i=k
    ·right;rw[eS,UU] at i2;omega
    ·left;exact⟨i,i0,by omega,i2⟩
 ·rintro⟨bs,i⟩ ⟨h1,h2,h4,h5⟩
  simp only at h1 h2 h4 h5 ⊢
  subst h1
  rw[AD (by omega)]
  refine map_inr ?_
  obtain⟨b,hb,hc⟩:=AEX s h4.IA (by omega)
  rw[hb]
  exact⟨b,rfl,hc.trans ⟨fun h=>⟨hs,⟨by omega,by omega⟩,hw,h4.fr,h4.inj,h⟩,fun h=>h.acy⟩⟩
end Go.Proofs.YtjbojdpdkikioaaGreatDoor
namespace Go.V3
open Go
theorem Pa.congr {fs rT :List Fr} (hl:rT.length=fs.length) (hn:∀ i:Int,0<=i->i<fs.length->nx rT i=nx fs i):∀ {l:List Int} {i:Int},Pa fs i l->Pa rT i l
 | [],_,h=>h
 |a::r,i,h=>by
  obtain⟨rfl,h0,h1,h2⟩:=h
  exact⟨rfl,h0,by omega,by rw[hn i h0 h1];exact Pa.congr hl hn h2⟩
theorem Pa.kG {fs rT :List Fr} (hl:rT.length=fs.length):∀ {l:List Int} {i:Int},(∀ i∈l,nx rT i=nx fs i)->Pa fs i l->Pa rT i l
 | [],_,_,h=>h
 |a::r,i,hn,h=>by
  obtain⟨rfl,h0,h1,h2⟩:=h
  exact⟨rfl,h0,by omega,by rw[hn i (by simp)];exact Pa.kG hl (fun j hj=>hn j (by simp [hj])) h2⟩
theorem Pa.link {fs rT :List Fr} (hl:rT.length=fs.length) {last f:Int} {lf:List Int} (hn:∀ i:Int,0<=i->i<fs.length->i≠last->nx rT i=nx fs i) (h0:nx fs last= -1) (h1:nx rT last=f) (hf:Pa fs f lf) (hx:last∉lf):
  ∀ {l:List Int} {i:Int},Pa fs i l->Pa rT i (if last∈l then l++lf else l):=by
 have hf' :Pa rT f lf:=hf.kG hl fun i hi=>hn i (hf.mem hi).1 (hf.mem hi).2 (fun e=>hx (e ▸ hi))
 intro l
 induction l with
 |nil=>intro i h;rw[AD (by simp)];exact h
 |cons a r ih=>
  intro i h
  obtain⟨rfl,g0,g1,g2⟩:=h
  by_cases ha:i=last
  ·subst ha
   rw[h0] at g2
   have hr:r=[]:=by
    cases r with
    |nil=>rfl
    |cons b r=>obtain⟨e,g3,_⟩:=g2;omega
   subst hr
   rw[AB (by simp)]
   exact⟨rfl,g0,by omega,by rw[h1];exact hf'⟩
  ·have:=ih g2
   by_cases hm:last∈r
   ·rw[AB hm] at this
    rw[AB (by simp [hm])]
    exact⟨rfl,g0,by omega,by rw[hn i g0 g1 ha];exact this⟩
   ·rw[AD hm] at this
    rw[AD (by simp only[GD,not_or];exact⟨fun e=>ha e.symm,hm⟩)]
    exact⟨rfl,g0,by omega,by rw[hn i g0 g1 ha];exact this⟩
def EX (n:Nat):List Int:=(List.range n).map fun k:Nat=>(k:Int)
theorem JU (n:Nat):EX (n+1)=EX n++ [(n:Int)]:=by simp [EX,List.range_succ]
theorem MJ {n:Nat} {i:Int}:i∈EX n↔0<=i/\i<n:=by
 simp only[EX,C6,i_]
 constructor
 ·rintro⟨k,hk,rfl⟩;omega
 ·rintro⟨h0,h1⟩;exact⟨i.toNat,by omega,by omega⟩
theorem HO (n:Nat):(EX n).length=n:=by simp [EX]
theorem oJ (n:Nat):(EX n).Pairwise (·< ·):=by
 induction n with
 |zero=>simp [EX]
 |succ n ih=>
  rw[JU,sM]
  refine⟨ih,by simp,fun a ha b hb=> ?_⟩
  have:=MJ.1 ha
  simp at hb;omega
def owned (fs:List Fr) (q:Int):List Int:=(EX fs.length).filter fun i=>decide ((fr fs i).1=q)
def DH (fs:List Fr):List Int:=owned fs (-1)
theorem CD {fs:List Fr} {q i:Int}:i∈owned fs q↔(0<=i/\i<fs.length)/\(fr fs i).1=q:=by
 simp [owned,MJ]
theorem SK (fs:List Fr) (q:Int):(owned fs q).Pairwise (·< ·):=(oJ _).filter _
theorem SL (fs:List Fr) (q:Int):(owned fs q).Nodup:=(SK fs q).imp fun h=>by omega
theorem UK (fs:List Fr) (q:Int):(owned fs q).length<=fs.length:=by
 have:=iY (fun i=>decide ((fr fs i).1=q)) (EX fs.length)
 rw[HO] at this
 exact this
theorem ABI:∀ {l l' :List Int},l.Pairwise (·< ·)->l'.Pairwise (·< ·)->(∀ x,x∈l↔x∈l')->l=l'
 | [],[],_,_,_=>rfl
 | [],b::r',_,_,h=>absurd ((h b).2 (by simp)) (by simp)
 |a::r,[],_,_,h=>absurd ((h a).1 (by simp)) (by simp)
 |a::r,b::r',p,p',h=>by
  have yJ:a=b:=by
   have h1:=(h a).1 (by simp)
   have h2:=(h b).2 (by simp)
   rcases GD.1 h1 with h3|h3
   ·exact h3
   ·rcases GD.1 h2 with h4|h4
    ·exact h4.symm
    ·have:=(aY.1 p).1 b h4
     have:=(aY.1 p').1 a h3
     omega
  subst yJ
  rw[ABI (aY.1 p).2 (aY.1 p').2 fun x=> ?_]
  have hx:=h x
  simp only[GD] at hx
  constructor
  ·intro hm
   rcases hx.1 (.inr hm) with rfl|h5
   ·exact absurd ((aY.1 p).1 x hm) (by omega)
   ·exact h5
  ·intro hm
   rcases hx.2 (.inr hm) with rfl|h5
   ·exact absurd ((aY.1 p').1 x hm) (by omega)
   ·exact h5
theorem kH {fs:List Fr} {f:Int} {r:List Int} (h:DH fs=f::r):(0<=f/\f<fs.length)/\(fr fs f).1= -1/\∀ j:Int,0<=j->j<f->(fr fs j).1≠-1:=by
 have hm:f∈DH fs:=by rw[h];simp
 obtain⟨h1,h2⟩:=CD.1 hm
 refine⟨h1,h2,fun j h0 hj he=> ?_⟩
 have eX :j∈DH fs:=CD.2 ⟨⟨h0,by omega⟩,he⟩
 have hp:=SK fs (-1)
 rw[h] at eX
 rw[show owned fs (-1)=f::r from h] at hp
 rcases GD.1 eX with h3|h3
 ·omega
 ·have:=(aY.1 hp).1 j h3;omega
theorem AHV {fs:List Fr} {f o st:Int} {r:List Int} (h:DH fs=f::r) (ho:o≠-1):
  DH (fs.set f.toNat (o,st, -1))=r/\(owned (fs.set f.toNat (o,st, -1)) o).length=(owned fs o).length+1/\∀ q,q≠o->q≠-1->owned (fs.set f.toNat (o,st, -1)) q=owned fs q:=by
 obtain⟨⟨h0,h1⟩,h2,h3⟩:=kH h
 have hm:∀ q i,i∈owned (fs.set f.toNat (o,st, -1)) q↔(0<=i/\i<fs.length)/\(if i=f then o else (fr fs i).1)=q:=by
  intro q i
  rw[CD,EP]
  refine and_congr_right fun hi=> ?_
  rw[WM h0 h1 hi.1]
  split <;> rfl
 have H9:=SK fs (-1)
 rw[show owned fs (-1)=f::r from h] at H9
 refine⟨ABI (SK _ _) (aY.1 H9).2 fun x=> ?_, ?_,fun q h4 h5=>ABI (SK _ _) (SK _ _) fun x=> ?_⟩
 ·show x∈owned _ _↔_
  rw[hm]
  have hx:x∈owned fs (-1)↔_:=CD
  rw[show owned fs (-1)=f::r from h] at hx
  simp only[GD] at hx
  have DM:=(aY.1 H9).1
  constructor
  ·rintro⟨h6,h7⟩
   by_cases hxf:x=f
   ·rw[AB hxf] at h7;exact absurd h7 ho
   ·rw[AD hxf] at h7
    rcases hx.2 ⟨h6,h7⟩ with h8|h8
    ·exact absurd h8 hxf
    ·exact h8
  ·intro h6
   have h7:=hx.1 (.inr h6)
   have:=DM x h6
   exact⟨h7.1,by rw[AD (by omega)];exact h7.2⟩
 ·have hp:(owned (fs.set f.toNat (o,st, -1)) o).Perm (f::owned fs o):=by
   rw[List.perm_ext_iff_of_nodup (SL _ _) (UM.2 ⟨fun hf=>by have:=(CD.1 hf).2;omega,SL _ _⟩)]
   intro x
   rw[hm,GD,CD]
   by_cases hxf:x=f
   ·subst hxf;simp [h0,h1]
   ·simp [hxf]
  rw[hp.length_eq,NZ]
 ·rw[hm,CD]
  refine and_congr_right fun hi=> ?_
  by_cases hxf:x=f
  ·rw[AB hxf,hxf,h2];constructor <;> intro h6 <;> omega
  ·rw[AD hxf]
theorem AHW {fs:List Fr} {a:Int} {x:Fr} (h0:0<=a) (h1:a<fs.length) (hx:x.1=(fr fs a).1) (q:Int):owned (fs.set a.toNat x) q=owned fs q:=by
 refine ABI (SK _ _) (SK _ _) fun i=> ?_
 rw[CD,CD,EP]
 refine and_congr_right fun hi=> ?_
 rw[WM h0 h1 hi.1]
 split
 ·rename_i h;rw[h,hx]
 ·rfl
def DK (z:Int):List Int->Int->Option Int
 | [],_=>none
 |g::r,off=>if off<z then some (g*z+off) else DK z r (off-z)
theorem SM {z:Int} (hz:0<z):∀ {l:List Int} {off:Int},0<=off->off<l.length*z->∃ g,l[(off / z).toNat]? =some g/\DK z l off=some (g*z+off%z)
 | [],off,h0,h1=>by simp at h1;omega
 |g::r,off,h0,h1=>by
  rw[DK]
  by_cases h:off<z
  ·rw[AB h,AO2 h0 h,AIX h0 h]
   exact⟨g,rfl,rfl⟩
  ·rw[AD h]
   have h2:off<((r.length:Int)+1)*z:=by simpa using h1
   rw[sV,sW] at h2
   obtain⟨g',h3,h4⟩:=SM hz (l:=r) (off:=off-z) (by omega) (by omega)
   have e:(off-z) / z=off / z-1:=by rw[Int.sub_ediv_of_dvd _ ⟨1,(Int.mul_one z).symm⟩,Int.ediv_self (by omega)]
   have e2:(off-z)%z=off%z:=by rw[Int.sub_emod,Int.emod_self,Int.sub_zero,Int.emod_emod]
   have hp:1<=off / z:=by rw[AA6 hz];omega
   rw[e] at h3
   rw[e2] at h4
   refine⟨g', ?_,h4⟩
   rw[show (off / z).toNat=(off / z-1).toNat+1 from by omega,vW]
   exact h3
theorem AEY {z:Int} (hz:0<z):∀ {l:List Int} {off:Int},0<=off->(l.length:Int)*z<=off->DK z l off=none
 | [],_,_,_=>rfl
 |g::r,off,h0,h1=>by
  have h2:((r.length:Int)+1)*z<=off:=by simpa using h1
  rw[sV,sW] at h2
  have h3:0<=(r.length:Int)*z:=ACX (by omega) (by omega)
  rw[DK,AD (by omega)]
  exact AEY hz (by omega) (by omega)
theorem ABJ {z:Int} (hz:0<z) {l:List Int} {off a:Int} (h0:0<=off) (h:DK z l off=some a):off<l.length*z:=by
 rcases Int.lt_or_le off (l.length*z) with h1|h1
 ·exact h1
 ·rw[AEY hz h0 h1] at h;cases h
theorem C5 {z:Int}:∀ {l l' :List Int} {off a:Int},DK z l off=some a->DK z (l++l') off=some a
 | [],_,_,_,h=>by cases h
 |g::r,l',off,a,h=>by
  rw[sR]
  rw[DK] at h ⊢
  split
  ·rename_i h1;rw[AB h1] at h;exact h
  ·rename_i h1;rw[AD h1] at h;exact C5 h
theorem QN {z:Int} (hz:0<z) {g o:Int} (h0:0<=o) (h1:o<z):(g*z+o) / z=g/\(g*z+o)%z=o:=by
 constructor
 ·rw[Int.add_comm,Int.add_mul_ediv_right _ _ (by omega),AO2 h0 h1,Int.zero_add]
 ·rw[Int.add_comm,Int.add_mul_emod_self_right,AIX h0 h1]
theorem PL {z:Int} (hz:0<z) {fs:List Fr}:∀ {l:List Int} {i off a k:Int},Pa fs i l->0<=off->DK z l off=some a->0<=k->∃ l',Pa fs (a / z) l' /\(0<=a / z/\a / z<fs.length/\a / z∈l)/\DK z l' (a%z+k)=DK z l (off+k)
 | [],_,_,_,_,_,_,h,_=>by cases h
 |g::r,i,off,a,k,hp,h0,h,hk=>by
  have hp' :=hp
  obtain⟨rfl,g0,g1,g2⟩:=hp
  rw[DK] at h
  by_cases h1:off<z
  ·rw[AB h1] at h
   simp only[AX] at h
   subst h
   obtain⟨e1,e2⟩:=QN hz (g:=i) h0 h1
   rw[e1,e2]
   exact⟨_,hp',⟨g0,g1,by simp⟩,rfl⟩
  ·rw[AD h1] at h
   obtain⟨l',h2,⟨h3,h4,h5⟩,h6⟩:=PL hz g2 (by omega) h hk
   refine⟨l',h2,⟨h3,h4,by simp [h5]⟩, ?_⟩
   rw[h6,DK,AD (by omega)]
   congr 1;omega
theorem VS.IA {s:Sp} (h:VS s):Rng s.2.2:=by
 intro i h0 h1
 rw[IC h0 h1]
 rcases h.fr i h0 h1 with ⟨hf,_⟩|hu
 ·rw[show (Go.V3.fr s.2.2 i).2.2= -1 from by rw[hf]];omega
 ·exact⟨hu.2.1,hu.2.2.1⟩
theorem VS.used {s:Sp} (h:VS s) {i:Int} (h0:0<=i) (h1:i<s.2.2.length) (hu:(Go.V3.fr s.2.2 i).1≠-1):YK s.2.2 i:=by
 rcases h.fr i h0 h1 with ⟨hf,_⟩|hu'
 ·exact absurd (by rw[hf]) hu
 ·exact hu'
theorem VS.free {s:Sp} (h:VS s) {i:Int} (h0:0<=i) (h1:i<s.2.2.length) (hu:(Go.V3.fr s.2.2 i).1= -1):AMR (Go.V3.fr s.2.2 i)/\Zero s i:=by
 rcases h.fr i h0 h1 with hf|hu'
 ·exact hf
 ·have:=hu'.1.1;omega
theorem VS.stI {s:Sp} (h:VS s) (i:Int) (h0:0<=i) (h1:i<s.2.2.length):(Go.V3.fr s.2.2 i).2.1<=9223372036854775807:=by
 rcases h.fr i h0 h1 with ⟨hf,_⟩|hu'
 ·rw[hf];decide
 ·obtain⟨_,_,b,_,_,hb⟩:=hu'.1;omega
theorem VS.owner {s:Sp} (h:VS s):∀ {l:List Int} {i:Int},Pa s.2.2 i l->∀ x∈l,(Go.V3.fr s.2.2 x).1=(Go.V3.fr s.2.2 i).1/\(Go.V3.fr s.2.2 x).2.1=(Go.V3.fr s.2.2 i).2.1
 | [],_,_,x,hx=>by cases hx
 |a::r,i,hp,x,hx=>by
  obtain⟨rfl,g0,g1,g2⟩:=hp
  rcases GD.1 hx with rfl|hx
  ·exact⟨rfl,rfl⟩
  ·have h1:=h.owner g2 x hx
   have h2:=h.IA i g0 g1
   have CO:nx s.2.2 i≠-1:=by
    intro e
    cases r with
    |nil=>cases hx
    |cons b r=>obtain⟨e2,g3,_⟩:=g2;omega
   rw[IC g0 g1] at h1 CO
   rcases h.fr i g0 g1 with ⟨hf,_⟩|hu
   ·rw[hf] at CO;exact absurd rfl CO
   ·have:=hu.2.2.2.2 CO
    exact⟨h1.1.trans this.1,h1.2.trans this.2⟩
theorem Pa.last {fs:List Fr}:∀ {l:List Int} {i x:Int},Pa fs i l->l.getLast? =some x->nx fs x= -1/\x∈l
 | [],_,_,_,h=>by cases h
 | [a],i,x,hp,h=>by
  obtain⟨rfl,_,_,h2⟩:=hp
  simp only[List.getLast?_singleton,AX] at h
  subst h
  exact⟨h2,by simp⟩
 |a::b::r,i,x,hp,h=>by
  obtain⟨rfl,_,_,h2⟩:=hp
  rw[List.getLast?_cons_cons] at h
  obtain⟨h3,h4⟩:=h2.last h
  exact⟨h3,by simp [h4]⟩
theorem VS.take {s:Sp} (h:VS s) {f o b:Int} (h0:0<=f) (h1:f<s.2.2.length) (hf:(Go.V3.fr s.2.2 f).1= -1) (o0:0<=o) (o1:o<=4294967295) (b0:0<=b) (b1:b<4):
  VS (s.1,s.2.1,s.2.2.set f.toNat (o,b*4294967296+o, -1))/\∀ i:Int,0<=i->i<s.2.2.length->nx (s.2.2.set f.toNat (o,b*4294967296+o, -1)) i=nx s.2.2 i:=by
 have u_:=(h.free h0 h1 hf).1
 have LY:∀ i:Int,0<=i->Go.V3.fr (s.2.2.set f.toNat (o,b*4294967296+o, -1)) i=if i=f then (o,b*4294967296+o, -1) else Go.V3.fr s.2.2 i:=fun i hi=>WM h0 h1 hi
 have UU:∀ i:Int,0<=i->i<s.2.2.length->nx (s.2.2.set f.toNat (o,b*4294967296+o, -1)) i=nx s.2.2 i:=by
  intro i i0 i1
  rw[IC i0 (by rw[EP];exact i1),IC i0 i1,LY i i0]
  by_cases hi:i=f
  ·rw[AB hi,hi,u_]
  ·rw[AD hi]
 refine⟨⟨h.sh,by simpa using h.n,by simpa using h.w, ?_, ?_, ?_⟩,UU⟩
 ·intro i i0 i1
  simp only[EP] at i1
  by_cases hi:i=f
  ·subst hi
   right
   unfold YK
   simp only[LY i i0,G4,EP]
   exact⟨⟨by simpa using o0,by simpa using o1,b,b0,b1,by simp only;omega⟩,by omega,by omega,by omega,fun h=>absurd rfl h⟩
  ·rcases h.fr i i0 i1 with ⟨hf1,hz⟩|hu
   ·left
    simp only
    rw[LY i i0,AD hi]
    exact⟨hf1,hz⟩
   ·right
    unfold YK
    simp only[LY i i0,AD hi,EP]
    refine⟨hu.1,hu.2.1,hu.2.2.1,hu.2.2.2.1,fun CO=> ?_⟩
    have:=hu.2.1
    have hnf:(Go.V3.fr s.2.2 i).2.2≠f:=by
     intro e
     have h2:=(hu.2.2.2.2 CO).1
     rw[e,hf] at h2
     have:=hu.1.1;omega
    rw[LY _ (by omega),AD hnf]
    exact hu.2.2.2.2 CO
 ·intro i j i0 i1 j0 j1 he CO
  simp only[EP] at i1 j1 he CO
  rw[UU i i0 i1,UU j j0 j1] at he
  rw[UU i i0 i1] at CO
  exact h.inj i j i0 i1 j0 j1 he CO
 ·intro i i0 i1
  simp only[EP] at i1
  obtain⟨l,hl⟩:=h.acy i i0 i1
  exact⟨l,hl.congr (by simp) UU⟩
theorem VS.link {s:Sp} (h:VS s) {a f:Int} (a0:0<=a) (a1:a<s.2.2.length) (f0:0<=f) (f1:f<s.2.2.length) (hau:(Go.V3.fr s.2.2 a).1≠-1) (hn:nx s.2.2 a= -1)
  (ho:(Go.V3.fr s.2.2 f).1=(Go.V3.fr s.2.2 a).1) (hst:(Go.V3.fr s.2.2 f).2.1=(Go.V3.fr s.2.2 a).2.1) (OE:∀ i:Int,0<=i->i<s.2.2.length->nx s.2.2 i≠f) {lf:List Int} (hlf:Pa s.2.2 f lf) (hx:a∉lf):
  VS (s.1,s.2.1,s.2.2.set a.toNat ((Go.V3.fr s.2.2 a).1,(Go.V3.fr s.2.2 a).2.1,f))∧
   (∀ (l:List Int) (i:Int),Pa s.2.2 i l->Pa (s.2.2.set a.toNat ((Go.V3.fr s.2.2 a).1,(Go.V3.fr s.2.2 a).2.1,f)) i (if a∈l then l++lf else l)):=by
 have hu:=h.used a0 a1 hau
 have haf:f≠a:=by
  rintro rfl
  cases lf with
  |nil=>rw[Pa] at hlf;omega
  |cons b r=>obtain⟨rfl,_⟩:=hlf;simp at hx
 have LY:∀ i:Int,0<=i->Go.V3.fr (s.2.2.set a.toNat ((Go.V3.fr s.2.2 a).1,(Go.V3.fr s.2.2 a).2.1,f)) i=if i=a then ((Go.V3.fr s.2.2 a).1,(Go.V3.fr s.2.2 a).2.1,f) else Go.V3.fr s.2.2 i:=fun i hi=>WM a0 a1 hi
 have UU:∀ i:Int,0<=i->i<s.2.2.length->nx (s.2.2.set a.toNat ((Go.V3.fr s.2.2 a).1,(Go.V3.fr s.2.2 a).2.1,f)) i=if i=a then f else nx s.2.2 i:=by
  intro i i0 i1
  rw[IC i0 (by rw[EP];exact i1),IC i0 i1,LY i i0]
  by_cases hi:i=a
  ·rw[AB hi,AB hi]
  ·rw[AD hi,AD hi]
 have hpa:∀ (l:List Int) (i:Int),Pa s.2.2 i l->Pa (s.2.2.set a.toNat ((Go.V3.fr s.2.2 a).1,(Go.V3.fr s.2.2 a).2.1,f)) i (if a∈l then l++lf else l):=fun l i hl=>
  Pa.link (by simp) (fun i i0 i1 hi=>by rw[UU i i0 i1,AD hi]) hn (by rw[UU a a0 a1,AB rfl]) hlf hx hl
 have DC:∀ i:Int,0<=i->(Go.V3.fr (s.2.2.set a.toNat ((Go.V3.fr s.2.2 a).1,(Go.V3.fr s.2.2 a).2.1,f)) i).1=(Go.V3.fr s.2.2 i).1/\(Go.V3.fr (s.2.2.set a.toNat ((Go.V3.fr s.2.2 a).1,(Go.V3.fr s.2.2 a).2.1,f)) i).2.1=(Go.V3.fr s.2.2 i).2.1:=by
  intro i i0
  rw[LY i i0]
  by_cases hi:i=a
  ·rw[AB hi,hi];exact⟨rfl,rfl⟩
  ·rw[AD hi];exact⟨rfl,rfl⟩
 refine⟨⟨h.sh,by simpa using h.n,by simpa using h.w, ?_, ?_, ?_⟩,hpa⟩
 ·intro i i0 i1
  simp only[EP] at i1
  by_cases hi:i=a
  ·subst hi
   right
   unfold YK
   simp only[LY i i0,G4,EP]
   exact⟨hu.1,by omega,f1,haf,fun _=>by rw[(DC f f0).1,(DC f f0).2];exact⟨ho,hst⟩⟩
  ·rcases h.fr i i0 i1 with ⟨hf1,hz⟩|hu
   ·left
    simp only
    rw[LY i i0,AD hi]
    exact⟨hf1,hz⟩
   ·right
    unfold YK
    simp only[LY i i0,AD hi,EP]
    refine⟨hu.1,hu.2.1,hu.2.2.1,hu.2.2.2.1,fun CO=> ?_⟩
    have:=hu.2.1
    rw[(DC _ (by omega)).1,(DC _ (by omega)).2]
    exact hu.2.2.2.2 CO
 ·intro i j i0 i1 j0 j1 he CO
  simp only[EP] at i1 j1 he CO
  rw[UU i i0 i1,UU j j0 j1] at he
  rw[UU i i0 i1] at CO
  by_cases hi:i=a
  ·by_cases hj:j=a
   ·omega
   ·rw[AB hi,AD hj] at he
    exact absurd he.symm (OE j j0 j1)
  ·by_cases hj:j=a
   ·rw[AD hi,AB hj] at he
    exact absurd he (OE i i0 i1)
   ·rw[AD hi,AD hj] at he
    rw[AD hi] at CO
    exact h.inj i j i0 i1 j0 j1 he CO
 ·intro i i0 i1
  simp only[EP] at i1
  obtain⟨l,hl⟩:=h.acy i i0 i1
  exact⟨_,hpa l i hl⟩
theorem VS.word {s:Sp} (h:VS s) {x:Int} (x0:0<=x) (hu:(Go.V3.fr s.2.2 (x / sz s.1)).1≠-1) (v:BitVec 64):VS (s.1,s.2.1.set x.toNat v,s.2.2):=by
 refine⟨h.sh,h.n,by simpa using h.w, ?_,h.inj,h.acy⟩
 intro i i0 i1
 rcases h.fr i i0 i1 with ⟨hf,hz⟩|hus
 ·refine .inl ⟨hf,fun a a0 a1=> ?_⟩
  have hz' :=hz a a0 a1
  show gl 0#64 (s.2.1.set x.toNat v) a=0#64
  have hp:=CF s.1
  have hax:a≠x.toNat:=by
   intro e
   apply hu
   have:x / sz s.1=i:=by
    have e1:(a:Int)=x:=by omega
    rw[<-e1]
    apply Int.le_antisymm
    ·exact Int.lt_add_one_iff.1 ((ACI hp).2 a1)
    ·exact (AA6 hp).2 a0
   rw[this,hf]
  refine Eq.trans ?_ hz'
  unfold gl
  simp only[sC,AIU (fun e=>hax e.symm)]
 ·exact .inr hus
theorem VS.new {s n:Int} (hs:3<=s/\s<=8) (hn:2<=n/\n<=64):VS (s,List.replicate (n*sz s).toNat 0#64,List.replicate n.toNat (-1, -1, -1)):=by
 have hm:=(b6 hs (by omega:0<=n) (S7 n)).1
 have hp:=CF s
 have LY:∀ i:Int,0<=i->i<n.toNat->Go.V3.fr (List.replicate n.toNat (-1, -1, -1)) i=(-1, -1, -1):=fun i i0 i1=>S1 (by omega)
 refine⟨hs,by simp;omega,by simp only[aW];rw[sF hm,sF (by omega)], ?_, ?_, ?_⟩
 ·intro i i0 i1
  simp only[aW] at i1
  refine .inl ⟨LY i i0 i1,fun a a0 a1=>S1 ?_⟩
  simp only at a1
  have:(i+1)*sz s<=n*sz s:=ACE (by omega) (by omega)
  omega
 ·intro i j i0 i1 j0 j1 he CO
  simp only[aW] at i1
  rw[IC i0 (by simpa using i1),LY i i0 i1] at CO
  exact absurd rfl CO
 ·intro i i0 i1
  simp only[aW] at i1
  refine⟨[i],rfl,i0,by simpa using i1, ?_⟩
  rw[IC i0 (by simpa using i1),LY i i0 i1]
  rfl
def VA (w:BitVec 64):List Nat:=(List.range 64).filter fun i=>w.getLsbD i
theorem AQN {p:Nat->Bool}:∀ (n:Nat),(∃ i,i<n/\p i=true)->∃ k,k<n/\p k=true/\∀ j,j<k->p j=false:=by
 intro n
 induction n with
 |zero=>rintro⟨i,h,_⟩;omega
 |succ n ih=>
  rintro⟨i,hi,hp⟩
  by_cases h:∃ j,j<n/\p j=true
  ·obtain⟨k,hk,h1,h2⟩:=ih h
   exact⟨k,by omega,h1,h2⟩
  ·refine⟨n,by omega, ?_,fun j hj=> ?_⟩
   ·have:i=n:=by
     rcases GS i n with h' |h'
     ·exact absurd ⟨i,h',hp⟩ h
     ·omega
    rw[<-this];exact hp
   ·cases hq:p j with
    |false=>rfl
    |true=>exact absurd ⟨j,hj,hq⟩ h
theorem AEZ (k n:Nat) (h:k<n):List.range n=List.range k++k::List.range' (k+1) (n-k-1):=by
 have h1:n=k+(n-k):=by omega
 have h2:n-k=(n-k-1)+1:=by omega
 rw[h1,AO8,AO8,←List.range'_append_1,h2,List.range'_succ]
 simp
theorem AQO {w:BitVec 64}:VA w=[]↔w=0#64:=by
 unfold VA
 constructor
 ·intro h
  rw[xG] at h
  apply AIN
  intro i hi
  have:=h i (i_.2 hi)
  simpa using this
 ·rintro rfl
  simp
theorem AUD (w:BitVec 64) {k:Nat} (hk:k<64) (h1:w.getLsbD k=true) (h2:∀ j,j<k->w.getLsbD j=false):w &&& -w=BitVec.twoPow 64 k:=by
 apply AIN
 intro i hi
 rw[AOF,BitVec.getLsbD_neg,BitVec.getLsbD_twoPow]
 by_cases e:i=k
 ·subst e
  have:¬∃ j,j<i/\w.getLsbD j=true:=by rintro⟨j,hj,hb⟩;rw[h2 j hj] at hb;cases hb
  simp [h1,this,hi]
 ·have e' :¬k=i:=fun h=>e h.symm
  rcases GS i k with h|h
  ·simp [h2 i h,e']
  ·have:∃ j,j<i/\w.getLsbD j=true:=⟨k,by omega,h1⟩
   cases hb:w.getLsbD i <;> simp [this,hi,e']
theorem vA (w:BitVec 64) {k:Nat} (hk:k<64) (h1:w.getLsbD k=true) (h2:∀ j,j<k->w.getLsbD j=false) (i:Nat):(w &&& (w-1#64)).getLsbD i=(w.getLsbD i && decide (i≠k)):=by
 have e:w-1#64= ~~~(-w):=by rw[BitVec.not_eq_neg_add,BitVec.neg_neg]
 rw[e,AOF,BitVec.getLsbD_not,BitVec.getLsbD_neg]
 rcases GS i 64 with hi|hi
 ·by_cases e:i=k
  ·subst e
   have:¬∃ j,j<i/\w.getLsbD j=true:=by rintro⟨j,hj,hb⟩;rw[h2 j hj] at hb;cases hb
   simp [this,hi]
  ·rcases GS i k with h|h
   ·simp [h2 i h]
   ·have:∃ j,j<i/\w.getLsbD j=true:=⟨k,by omega,h1⟩
    cases hb:w.getLsbD i <;> simp [this,hi,e]
 ·simp [BitVec.getLsbD_of_ge w i hi]
theorem AMV {w:BitVec 64} (hw:w≠0#64):∃ k,k<64/\VA w=k::VA (w &&& (w-1#64))/\w &&& -w=BitVec.twoPow 64 k:=by
 have:∃ i,i<64/\w.getLsbD i=true:=by
  by_cases h:∃ i,i<64/\w.getLsbD i=true
  ·exact h
  ·exfalso;apply hw;apply AIN
   intro i hi
   cases hb:w.getLsbD i with
   |false=>simp
   |true=>exact absurd ⟨i,hi,hb⟩ h
 obtain⟨k,hk,h1,h2⟩:=AQN 64 this
 refine⟨k,hk, ?_,AUD w hk h1 h2⟩
 unfold VA
 rw[AEZ k 64 hk,qO,qO,kR,kR]
 have z1:List.filter (fun i=>w.getLsbD i) (List.range k)=[]:=by
  rw[xG];intro j hj;rw[h2 j (i_.1 hj)];decide
 have z2:List.filter (fun i=>(w &&& (w-1#64)).getLsbD i) (List.range k)=[]:=by
  rw[xG];intro j hj;rw[vA w hk h1 h2,h2 j (i_.1 hj)];simp
 have z3:List.filter (fun i=>(w &&& (w-1#64)).getLsbD i) (List.range' (k+1) (64-k-1))=List.filter (fun i=>w.getLsbD i) (List.range' (k+1) (64-k-1)):=by
  apply sP
  intro j hj
  rw[vA w hk h1 h2]
  have:=List.mem_range'_1.1 hj
  have:j≠k:=by omega
  simp [this]
 rw[z1,z2,z3,AB h1,AD (by rw[vA w hk h1 h2];simp)]
 rfl
def AHX (fs:List Fr) (w:BitVec 64):Prop:=∀ j,j<64->w.getLsbD j=decide (j<fs.length/\(fr fs j).1= -1)
theorem rG {p:Nat->Bool} {n m:Nat} (h:n<=m) (hp:∀ j,n<=j->p j=false):(List.range m).filter p=(List.range n).filter p:=by
 induction m with
 |zero=>have:n=0:=(by omega);subst this;rfl
 |succ m ih=>
  rcases GS m n with h' |h'
  ·have:n=m+1:=by omega
   subst this;rfl
  ·rw[List.range_succ,qO,ih h',kR,AD (by rw[hp m h'];decide)]
   simp
theorem AMW {fs:List Fr} {w:BitVec 64} (hn:fs.length<=64) (h:AHX fs w):DH fs=(VA w).map fun k:Nat=>(k:Int):=by
 unfold DH owned EX VA
 rw[List.filter_map]
 congr 1
 have e:(List.range 64).filter (fun i=>w.getLsbD i)=(List.range 64).filter (fun j=>decide (j<fs.length/\(fr fs j).1= -1)):=by
  apply sP
  intro j hj
  rw[h j (i_.1 hj)]
 rw[e,rG hn (fun j hj=>by simp;omega)]
 apply sP
 intro j hj
 have:=i_.1 hj
 simp [this]
def zr (ws:List (BitVec 64)) (a:Nat):Nat->List (BitVec 64)
 |0=>ws
 |n+1=>(zr ws a n).set (a+n) 0#64
theorem AHY (ws:List (BitVec 64)) (a:Nat):∀ n,(zr ws a n).length=ws.length
 |0=>rfl
 |n+1=>by rw[zr,EP,AHY ws a n]
theorem AUE (ws:List (BitVec 64)) (k j:Nat):gl 0#64 (ws.set k 0#64) j=if j=k then 0#64 else gl 0#64 ws j:=by
 rcases GS k ws.length with h|h
 ·exact D8 h
 ·rw[AIL h]
  split
  ·rename_i e;subst e;unfold gl;simp [h]
  ·rfl
theorem AWE (ws:List (BitVec 64)) (a j:Nat):∀ n,gl 0#64 (zr ws a n) j=if a<=j/\j<a+n then 0#64 else gl 0#64 ws j
 |0=>by rw[zr,AD (by omega)]
 |n+1=>by
  rw[zr,AUE,AWE ws a j n]
  by_cases h:j=a+n
  ·rw[AB h,AB (by omega)]
  ·rw[AD h]
   by_cases h2:a<=j/\j<a+n
   ·rw[AB h2,AB (by omega)]
   ·rw[AD h2,AD (by omega)]
def gvF (fs:List Fr) (o:Int):Nat->List Fr
 |0=>fs
 |k+1=>if (fr fs k).1=o then (gvF fs o k).set k (-1, -1, -1) else gvF fs o k
def wZ (fs:List Fr) (o:Int):Nat->Int
 |0=>0
 |k+1=>if (fr fs k).1=o then wZ fs o k+1 else wZ fs o k
def gvW (s:Sp) (o:Int):Nat->List (BitVec 64)
 |0=>s.2.1
 |k+1=>if (fr s.2.2 k).1=o then zr (gvW s o k) (k*(sz s.1).toNat) (sz s.1).toNat else gvW s o k
theorem mJ (fs:List Fr) (o:Int):∀ k,(gvF fs o k).length=fs.length
 |0=>rfl
 |k+1=>by rw[gvF];split <;> simp [mJ fs o k]
theorem ABK (s:Sp) (o:Int):∀ k,(gvW s o k).length=s.2.1.length
 |0=>rfl
 |k+1=>by rw[gvW];split <;> simp [AHY,ABK s o k]
theorem AHZ (fs:List Fr) (o:Int):∀ k,0<=wZ fs o k/\wZ fs o k<=k
 |0=>by simp [wZ]
 |k+1=>by have:=AHZ fs o k;rw[wZ];split <;> omega
theorem AI0 (fs:List Fr) (o:Int):∀ k,wZ fs o k=((EX k).filter fun i=>decide ((fr fs i).1=o)).length
 |0=>rfl
 |k+1=>by
  rw[wZ,JU,qO,JG,AI0 fs o k]
  by_cases h:(fr fs k).1=o
  ·rw[AB h];simp [h]
  ·rw[AD h];simp [h]
theorem AI1 (fs:List Fr) (o:Int):∀ (k:Nat),k<=fs.length->∀ j:Int,0<=j->fr (gvF fs o k) j=if j<k/\(fr fs j).1=o then (-1, -1, -1) else fr fs j
 |0,_,j,h0=>by rw[gvF,AD (by omega)]
 |k+1,hk,j,h0=>by
  have ih:=AI1 fs o k (by omega) j h0
  rw[gvF]
  by_cases h:(fr fs k).1=o
  ·rw[AB h]
   have:=WM (fs:=gvF fs o k) (i:=j) (j:=(k:Int)) (x:=(-1, -1, -1)) (by omega) (by rw[mJ];omega) h0
   rw[H6] at this
   rw[this,ih]
   by_cases e:j=k
   ·rw[AB e,AB ⟨by omega,by rw[e];exact h⟩]
   ·rw[AD e]
    by_cases h2:j<k/\(fr fs j).1=o
    ·rw[AB h2,AB ⟨by omega,h2.2⟩]
    ·rw[AD h2,AD (fun h3=>h2 ⟨by omega,h3.2⟩)]
  ·rw[AD h,ih]
   by_cases h2:j<k/\(fr fs j).1=o
   ·rw[AB h2,AB ⟨by omega,h2.2⟩]
   ·rw[AD h2,AD (fun h3=>h2 ⟨by
     have:j≠k:=fun e=>h (by rw[<-e];exact h3.2)
     omega,h3.2⟩)]
theorem AI2 (s:Sp) (o:Int) (a:Nat):∀ k:Nat,gl 0#64 (gvW s o k) a=if (a:Int) / sz s.1<k/\(fr s.2.2 ((a:Int) / sz s.1)).1=o then 0#64 else gl 0#64 s.2.1 a
 |0=>by
  have:=Int.ediv_nonneg (a:=(a:Int)) (b:=sz s.1) (by omega) (Int.le_of_lt (CF s.1))
  rw[gvW,AD (by omega)]
 |k+1=>by
  have hz:=CF s.1
  have ih:=AI2 s o a k
  have hd:(k*(sz s.1).toNat<=a/\a<k*(sz s.1).toNat+(sz s.1).toNat)↔(a:Int) / sz s.1=k:=by
   have hzn:((sz s.1).toNat:Int)=sz s.1:=sF (by omega)
   have h1:((k*(sz s.1).toNat:Nat):Int)=k*sz s.1:=by rw[AJ1,hzn]
   have e1:=Int.ediv_mul_add_emod (a:Int) (sz s.1)
   have e2:=kV (a:Int) (Int.ne_of_gt hz)
   have e3:=oX (a:Int) hz
   constructor
   ·rintro⟨h2,h3⟩
    have h2' :(k:Int)*sz s.1<=a:=by omega
    have h3' :(a:Int)<(k+1)*sz s.1:=by rw[sV];omega
    have q1:=(AA6 hz).2 h2'
    have q2:=(ACI hz).2 h3'
    omega
   ·intro h
    rw[h] at e1
    omega
  rw[gvW]
  by_cases h:(fr s.2.2 k).1=o
  ·rw[AB h,AWE,ih]
   by_cases e:(a:Int) / sz s.1=k
   ·rw[AB (hd.2 e),AB ⟨by omega,by rw[e];exact h⟩]
   ·rw[AD (fun q=>e (hd.1 q))]
    by_cases h2:(a:Int) / sz s.1<k/\(fr s.2.2 ((a:Int) / sz s.1)).1=o
    ·rw[AB h2,AB ⟨by omega,h2.2⟩]
    ·rw[AD h2,AD (fun h3=>h2 ⟨by omega,h3.2⟩)]
  ·rw[AD h,ih]
   by_cases h2:(a:Int) / sz s.1<k/\(fr s.2.2 ((a:Int) / sz s.1)).1=o
   ·rw[AB h2,AB ⟨by omega,h2.2⟩]
   ·rw[AD h2,AD (fun h3=>h2 ⟨by
     have:(a:Int) / sz s.1≠k:=fun e=>h (by rw[<-e];exact h3.2)
     omega,h3.2⟩)]
def gv (s:Sp) (o:Int):Sp:=(s.1,gvW s o s.2.2.length,gvF s.2.2 o s.2.2.length)
theorem AF0 {s:Sp} {o j:Int} (h0:0<=j) (h1:j<s.2.2.length):fr (gv s o).2.2 j=if (fr s.2.2 j).1=o then (-1, -1, -1) else fr s.2.2 j:=by
 show fr (gvF s.2.2 o s.2.2.length) j=_
 rw[AI1 _ _ _ (EL _) j h0]
 by_cases h:(fr s.2.2 j).1=o
 ·rw[AB ⟨h1,h⟩,AB h]
 ·rw[AD (fun q=>h q.2),AD h]
theorem ABL (s:Sp) (o:Int):(gv s o).2.2.length=s.2.2.length:=mJ _ _ _
theorem ABM (s:Sp) (o:Int):(gv s o).2.1.length=s.2.1.length:=ABK _ _ _
theorem A1S {s:Sp} (h:VS s) {o:Int} {a:Nat} (ha:a<s.2.1.length):gl 0#64 (gv s o).2.1 a=if (fr s.2.2 ((a:Int) / sz s.1)).1=o then 0#64 else gl 0#64 s.2.1 a:=by
 show gl 0#64 (gvW s o s.2.2.length) a=_
 rw[AI2]
 have:(a:Int) / sz s.1<s.2.2.length:=(ACI (CF s.1)).2 (by have:=h.w;omega)
 by_cases h:(fr s.2.2 ((a:Int) / sz s.1)).1=o
 ·rw[AB ⟨this,h⟩,AB h]
 ·rw[AD (fun q=>h q.2),AD h]
theorem VS.A1T {s:Sp} (h:VS s) {o:Int} (o0:0<=o):VS (gv s o):=by
 have hz:=CF s.1
 have hl:=ABL s o
 have hf:∀ j:Int,0<=j->j<s.2.2.length->Go.V3.fr (gv s o).2.2 j=if (Go.V3.fr s.2.2 j).1=o then (-1, -1, -1) else Go.V3.fr s.2.2 j:=fun j h0 h1=>AF0 h0 h1
 have hn:∀ j:Int,0<=j->j<s.2.2.length->nx (gv s o).2.2 j=if (Go.V3.fr s.2.2 j).1=o then -1 else nx s.2.2 j:=by
  intro j h0 h1
  rw[IC h0 (by rw[hl];exact h1),IC h0 h1,hf j h0 h1]
  split <;> rfl
 refine⟨h.sh,by rw[hl];exact h.n,by rw[ABM,hl];exact h.w, ?_, ?_, ?_⟩
 ·intro i i0 i1
  rw[hl] at i1
  have hzero:(Zero s i\/(Go.V3.fr s.2.2 i).1=o)->Zero (gv s o) i:=by
   intro hc a a1 a2
   have ae:(a:Int) / sz s.1=i:=by
    have q1:=(AA6 hz).2 a1
    have q2:=(ACI hz).2 a2
    omega
   show gl 0#64 (gvW s o s.2.2.length) a=0#64
   rw[AI2,ae]
   rcases hc with hc|hc
   ·split
    ·rfl
    ·exact hc a a1 a2
   ·rw[AB ⟨i1,hc⟩]
  by_cases ho:(Go.V3.fr s.2.2 i).1=o
  ·left
   rw[hf i i0 i1,AB ho]
   exact⟨rfl,hzero (.inr ho)⟩
  ·rcases h.fr i i0 i1 with ⟨h1,h2⟩|hu
   ·left
    rw[hf i i0 i1,AD ho]
    exact⟨h1,hzero (.inl h2)⟩
   ·right
    unfold YK
    rw[hf i i0 i1,AD ho,hl]
    refine⟨hu.1,hu.2.1,hu.2.2.1,hu.2.2.2.1,fun CO=> ?_⟩
    have:=hu.2.1
    obtain⟨q1,q2⟩:=hu.2.2.2.2 CO
    rw[hf _ (by omega) hu.2.2.1,AD (by rw[q1];exact ho)]
    exact⟨q1,q2⟩
 ·intro i j i0 i1 j0 j1 he CO
  rw[hl] at i1 j1
  rw[hn i i0 i1] at he CO
  rw[hn j j0 j1] at he
  by_cases hi:(Go.V3.fr s.2.2 i).1=o
  ·rw[AB hi] at CO;exact absurd rfl CO
  ·rw[AD hi] at he CO
   by_cases hj:(Go.V3.fr s.2.2 j).1=o
   ·rw[AB hj] at he;exact absurd he CO
   ·rw[AD hj] at he
    exact h.inj i j i0 i1 j0 j1 he CO
 ·intro i i0 i1
  rw[hl] at i1
  by_cases ho:(Go.V3.fr s.2.2 i).1=o
  ·refine⟨[i],rfl,i0,by rw[hl];exact i1, ?_⟩
   rw[Pa,hn i i0 i1,AB ho]
  ·obtain⟨l,hp⟩:=h.acy i i0 i1
   refine⟨l,hp.kG hl fun x hx=> ?_⟩
   obtain⟨x0,x1⟩:=hp.mem hx
   have:=(VS.owner h hp x hx).1
   rw[hn x x0 x1,AD (by rw[this];exact ho)]
end Go.V3
namespace Go.Proofs.YtjbojdpdkikioaaGreatDoor
open Go Go.V3
theorem WV (a:Int) {m:Int} (h0:0<m) (h1:m<=4611686018427387904):∃ r,CN a m=some r/\0<=r/\r<m/\r=a%m:=by
 have u:=Int.tmod_lt_of_pos a h0
 have l:=Int.lt_tmod_of_pos a h0
 have e:Int.tmod a m=if 0<=a\/m ∣ a then a%m else a%m-m:=by
  rw[Int.tmod_eq_emod]
  split <;> omega
 have p0:=kV a (show m≠0 by omega)
 have p1:=oX a h0
 unfold CN
 rw[AB (by omega)]
 by_cases hn:a.tmod m<0
 ·rw[AB hn]
  rw[AE (by omega) (by omega)]
  exact⟨_,rfl,by omega,by omega,by split at e <;> omega⟩
 ·rw[AD hn]
  exact⟨_,rfl,by omega,u,by split at e <;> omega⟩
def SN (d:List Int×Int):Prop:=0<=d.2/\(d.1.length:Int)<=9223372036854775807
theorem FI {d:List Int×Int} (h:SN d) {n:Int} (h0:0<n) (h1:n<=4611686018427387904):∃ r d',AF d n=some (r,d')/\0<=r/\r<n/\SN d' :=by
 unfold AF
 obtain⟨h2,h3⟩:=h
 by_cases hc:d.2≥d.1.length
 ·rw[AB hc];exact⟨_,_,rfl,by omega,h0,h2,h3⟩
 ·rw[AD hc,AE (e:=d.2+1) (by omega) (by omega),show d.2+1-1=d.2 from by omega,AE (by omega) (by omega),AB (by omega)]
  obtain⟨r,h4,h5,h6,_⟩:=WV (gl (0:Int) d.1 d.2.toNat) h0 h1
  rw[h4]
  exact⟨_,_,rfl,h5,h6,by show (0:Int)<=d.2+1;omega,h3⟩
theorem AQP {ws:List (BitVec 64)} (h:ws.length<=1000000):I0 ws=some ws:=by
 unfold I0
 rw[AB (by simp;omega)];rfl
theorem AKE {s:Sp} (h:s.2.1.length<=1000000) (h2:s.2.2.length<=1000000):ET s=some s:=by
 unfold ET
 rw[AQP h]
 simp only[BC]
 rw[AB (by simp;omega)];rfl
theorem VS.PN {s:Sp} (h:VS s):s.2.1.length<=16384:=by
 have:=(MO h.sh (by omega:0<=(s.2.2.length:Int)) (show (s.2.2.length:Int)<=64 by have:=h.n.2;omega)).2
 have:=h.w
 omega
theorem VS.copy {s:Sp} (h:VS s):ET s=some s:=AKE (by have:=VS.PN h;omega) (by have:=h.n.2;omega)
theorem VS.valid {s:Sp} (h:VS s):DO s=some true:=by
 obtain⟨b,h1,h2⟩:=fB s
 rw[h1,h2.2 h]
theorem AUF {s n:Int} (hs:3<=s/\s<=8) (hn:2<=n/\n<=64):
  LB s n=some ((s,List.replicate (n*sz s).toNat 0#64,List.replicate n.toNat (-1, -1, -1)),0):=by
 obtain⟨q1,q2⟩:=MO hs (by omega:0<=n) hn.2
 unfold LB
 rw[oI]
 simp only[BC]
 rw[AD (by simp [hs]),AD (by omega),AD (by omega),AB trivial,QL hs,AE (by omega) (by omega),AB (by omega),AB (by omega)]
 refine KK (fun k st=>st.1=n-k/\(k:Int)<=n/\st.2.length=n.toNat/\∀ j,j<st.1.toNat->st.2[j]? =some (-1, -1, -1)) (n:=n.toNat) ?_ ⟨by omega,by omega,by simp,fun j hj=>by simp at hj⟩
 rintro k ⟨i,xs⟩ ⟨h1,h2,h3,h4⟩
 simp only at h1 h2 h3 h4 ⊢
 rw[aW]
 by_cases hk:k=0
 ·left
  rw[AD (by omega)]
  have:i.toNat=n.toNat:=by omega
  rw[this] at h4
  rw[wK h3 h4]
 ·right
  refine⟨k-1,_,by omega,by rw[AB (by omega),AB (by omega)], ?_,by omega, ?_, ?_⟩
  ·simp only;rw[AE (by omega) (by omega)];omega
  ·simp [h3]
  ·simp only
   rw[AE (by omega) (by omega)]
   intro j hj
   rw[sH]
   split
   ·rw[AB (by omega)]
   ·exact h4 j (by omega)
theorem mK {s:Sp} (hn:s.2.2.length<=64):C4 s=some (DH s.2.2):=by
 unfold C4
 refine (AN (fun k (st:List Int×Int)=>st.2=(k:Int)/\k<=s.2.2.length/\st.1=(EX k).filter fun i=>decide ((fr s.2.2 i).1= -1)) (fun b=>b=DH s.2.2) s.2.2.length ?_ ?_ ⟨rfl,by omega,rfl⟩).elim fun b h=>by rw[h.1,h.2]
 ·rintro k ⟨acc,i⟩ hk ⟨h1,_,h2⟩
  simp only at h1 h2 ⊢
  subst h1
  have hl:acc.length<=k:=by
   have:=iY (fun i=>decide ((fr s.2.2 i).1= -1)) (EX k)
   rw[HO] at this;rw[h2];exact this
  have LY:gl (0,0,0) s.2.2 (k:Int).toNat=fr s.2.2 k:=rfl
  rw[AB (by omega),AB (by omega),LY,AE (by omega) (by omega),JU,qO]
  by_cases hf:(fr s.2.2 k).1= -1
  ·rw[AB hf,AB (by simp;omega)]
   exact .inl ⟨_,rfl,by simp only;omega,by omega,by simp [h2,hf]⟩
  ·rw[AD hf]
   exact .inl ⟨_,rfl,by simp only;omega,by omega,by simp [h2,hf]⟩
 ·rintro⟨acc,i⟩ ⟨h1,_,h2⟩
  simp only at h1 h2 ⊢
  rw[AD (by omega)]
  exact⟨_,rfl,h2⟩
theorem AUG {s:Sp} (hn:s.2.2.length<=64) {f:Int} {r:List Int} (hf:DH s.2.2=f::r) {o b:Int} (o0:0<=o) (o1:o<=4294967295) (b0:0<=b) (b1:b<4):
  HZ s o b=some (f,s.2.1,s.2.2.set f.toNat (o,b*4294967296+o, -1)):=by
 obtain⟨⟨h0,h1⟩,h2,h3⟩:=kH hf
 unfold HZ
 refine KK (fun k (i:Int)=>i=f-k/\(k:Int)<=f) (n:=f.toNat) ?_ ⟨by omega,by omega⟩
 rintro k i ⟨hi,hk⟩
 have LY:gl (0,0,0) s.2.2 i.toNat=fr s.2.2 i:=rfl
 rw[AB (by omega),AB (by omega),LY]
 by_cases h0:k=0
 ·left
  have:i=f:=by omega
  subst this
  rw[AB h2,AB (by omega),AE (e:=b*4294967296) (by omega) (by omega),AE (by omega) (by omega)]
 ·right
  rw[AD (h3 i (by omega) (by omega)),AE (by omega) (by omega)]
  exact⟨k-1,_,by omega,rfl,by omega,by omega⟩
theorem AQQ {s:Sp} (hn:s.2.2.length<=64) {i:Int} {l:List Int} (hp:Pa s.2.2 i l):IY s i=some l:=by
 unfold IY
 have hl:=hp.length
 refine KK (fun k (st:List Int×Int)=>∃ l2,l=st.1++l2/\Pa s.2.2 st.2 l2/\l2.length=k) (n:=l.length) ?_ ⟨l,rfl,hp,rfl⟩
 rintro k ⟨acc,f⟩ ⟨l2,h1,h2,h3⟩
 simp only at h1 h2 ⊢
 cases l2 with
 |nil=>
  left
  rw[Pa] at h2
  rw[AD (by simp [h2]),h1,GG]
 |cons a r=>
  right
  obtain⟨rfl,g0,g1,g2⟩:=h2
  have:=MS List.length h1
  simp at this h3
  have LY:(gl (0,0,0) s.2.2 f.toNat).2.2=nx s.2.2 f:=(IC g0 g1).symm
  rw[AB (by omega),AB (by simp;omega),AB ⟨g0,g1⟩,LY]
  exact⟨k-1,_,by omega,rfl,r,by simp [h1],g2,by omega⟩
def cl (z n:Int):Int:=(n+z-1) / z
theorem AKF {n s:Int} (hs:3<=s/\s<=8) (h0:0<=n) (h1:n<=1000000):HX n s=some (cl (sz s) n):=by
 obtain⟨z1,z2⟩:=OG hs
 unfold HX
 rw[AD (by omega),AD (by omega),AD (by omega),AD (by omega),AB trivial,AB trivial,QL hs,sW,AE (e:=sz s) (by omega) (by omega),AE (e:=n+sz s) (by omega) (by omega),AE (by omega) (by omega)]
 rfl
theorem AWF {z n m:Int} (hz:0<z) (h:n<=m):cl z n<=cl z m:=Int.ediv_le_ediv hz (by omega)
theorem AKG {z:Int} (hz:0<z):cl z 0=0:=AO2 (by omega) (by omega)
theorem NY {z n:Int} (hz:0<z):n<=cl z n*z/\cl z n*z<n+z:=by
 have h1:=AIS (n+z-1) z
 have h2:=kV (n+z-1) (show z≠0 by omega)
 have h3:=oX (n+z-1) hz
 unfold cl
 rw[xU] at h1
 omega
theorem ABN {z n:Int} (hz:0<z) (h:0<n):0<cl z n:=by
 obtain⟨h1,h2⟩:=NY (n:=n) hz
 apply vV
 intro hc
 have:cl z n*z<=0*z:=ACE (by omega) (by omega)
 omega
theorem XZ {z n:Int} (hz:0<z) (h:0<=n):0<=cl z n:=Int.ediv_nonneg (by omega) (by omega)
def EA (s:Sp) (i:AH):Prop:=
 (0<=i.1/\i.1<=4294967295/\0<=i.2.1/\i.2.1<4/\0<=i.2.2.2.2/\i.2.2.2.2<=s.2.1.length)∧
 ((i.2.2.2.2=0/\i.2.2.1= -1/\i.2.2.2.1= -1)∨
  (i.2.2.2.2≠0/\(0<=i.2.2.1/\i.2.2.1<s.2.2.length)/\(fr s.2.2 i.2.2.1).1=i.1/\(fr s.2.2 i.2.2.1).2.1=i.2.1*4294967296+i.1∧
  ∃ l,Pa s.2.2 i.2.2.1 l/\(l.length:Int)=cl (sz s.1) i.2.2.2.2/\l.length=(owned s.2.2 i.1).length/\l.getLast? =some i.2.2.2.1))
theorem OO {s:Sp} (h:VS s) {i:AH} (h0:0<=i.2.2.2.2) (h1:i.2.2.2.2<=1000000):BH s i=some (cl (sz s.1) i.2.2.2.2):=by
 unfold BH
 rw[AKF h.sh h0 h1];rfl
theorem AKH {l:List Int} (h:0<l.length):some (gl 0 l (l.length-1))=l.getLast? :=by
 rw[List.getLast?_eq_getElem?,AUB (d:=0) (by omega)]
theorem ABO {s:Sp} (h:VS s) (i:AH):∃ b,HY s i=some b/\(b=true↔EA s i):=by
 have n8:=VS.PN h
 have hn:=h.n.2
 unfold HY
 by_cases c1:i.1<0
 ·rw[AB c1];exact⟨_,rfl,BT fun h=>by have:=h.1.1;omega⟩
 rw[AD c1]
 by_cases c2:i.1>4294967295
 ·rw[AB c2];exact⟨_,rfl,BT fun h=>by have:=h.1.2.1;omega⟩
 rw[AD c2]
 by_cases c3:i.2.1<0
 ·rw[AB c3];exact⟨_,rfl,BT fun h=>by have:=h.1.2.2.1;omega⟩
 rw[AD c3]
 by_cases c4:i.2.1≥4
 ·rw[AB c4];exact⟨_,rfl,BT fun h=>by have:=h.1.2.2.2.1;omega⟩
 rw[AD c4]
 by_cases c5:i.2.2.2.2<0
 ·rw[AB c5];exact⟨_,rfl,BT fun h=>by have:=h.1.2.2.2.2.1;omega⟩
 rw[AD c5]
 by_cases c6:i.2.2.2.2>s.2.1.length
 ·rw[AB c6];exact⟨_,rfl,BT fun h=>by have:=h.1.2.2.2.2.2;omega⟩
 rw[AD c6]
 have hr:0<=i.1/\i.1<=4294967295/\0<=i.2.1/\i.2.1<4/\0<=i.2.2.2.2/\i.2.2.2.2<=s.2.1.length:=⟨by omega,by omega,by omega,by omega,by omega,by omega⟩
 by_cases c7:i.2.2.2.2=0
 ·rw[AB c7]
  by_cases c8:i.2.2.1= -1
  ·rw[AB c8]
   refine⟨_,rfl, ?_⟩
   rw[NI]
   exact⟨fun hh=>⟨hr,.inl ⟨c7,c8,hh⟩⟩,fun hh=>by rcases hh.2 with h1|h1;exact h1.2.2;exact absurd c7 h1.1⟩
  ·rw[AD c8]
   exact⟨_,rfl,BT fun hh=>by rcases hh.2 with h1|h1;exact c8 h1.2.1;exact h1.1 c7⟩
 rw[AD c7]
 have only:EA s i->(0<=i.2.2.1/\i.2.2.1<s.2.2.length)/\(fr s.2.2 i.2.2.1).1=i.1/\(fr s.2.2 i.2.2.1).2.1=i.2.1*4294967296+i.1∧
   ∃ l,Pa s.2.2 i.2.2.1 l/\(l.length:Int)=cl (sz s.1) i.2.2.2.2/\l.length=(owned s.2.2 i.1).length/\l.getLast? =some i.2.2.2.1:=fun hh=>by
  rcases hh.2 with h1|h1
  ·exact absurd h1.1 c7
  ·exact h1.2
 by_cases c8:i.2.2.1<0
 ·rw[AB c8];exact⟨_,rfl,BT fun hh=>by have:=(only hh).1.1;omega⟩
 rw[AD c8]
 by_cases c9:i.2.2.1≥s.2.2.length
 ·rw[AB c9];exact⟨_,rfl,BT fun hh=>by have:=(only hh).1.2;omega⟩
 have LY:gl (0,0,0) s.2.2 i.2.2.1.toNat=fr s.2.2 i.2.2.1:=rfl
 rw[AD c9,AB (by omega),LY,AE (e:=i.2.1*4294967296) (by omega) (by omega),AE (e:=i.2.1*4294967296+i.1) (by omega) (by omega)]
 by_cases d1:(fr s.2.2 i.2.2.1).1=i.1
 rotate_left
 ·rw[AB d1];exact⟨_,rfl,BT fun hh=>d1 (only hh).2.1⟩
 rw[AD (by simp [d1])]
 by_cases d2:(fr s.2.2 i.2.2.1).2.1=i.2.1*4294967296+i.1
 rotate_left
 ·rw[AB d2];exact⟨_,rfl,BT fun hh=>d2 (only hh).2.2.1⟩
 rw[AD (by simp [d2])]
 obtain⟨l,hl⟩:=h.acy i.2.2.1 (by omega) (by omega)
 have zO:=hl.length
 rw[AQQ hn hl,OO h (by omega) (by omega)]
 simp only[BC]
 refine AN (fun k (st:Int×Int)=>st.2=(k:Int)/\k<=s.2.2.length/\0<=st.1/\st.1<=k/\st.1=(((EX k).filter fun j=>decide ((fr s.2.2 j).1=i.1)).length:Nat)) _ s.2.2.length ?_ ?_ ⟨rfl,by omega,by simp,by simp,rfl⟩
 ·rintro k ⟨c,j⟩ hk ⟨h1,_,h2,h3,h4⟩
  simp only at h1 h2 h3 h4 ⊢
  subst h1
  have hfk:gl (0,0,0) s.2.2 (k:Int).toNat=fr s.2.2 k:=rfl
  rw[AB (by omega),AB (by omega),hfk,AE (e:=(k:Int)+1) (by omega) (by omega),AE (e:=c+1) (by omega) (by omega),JU,qO]
  by_cases hf:(fr s.2.2 k).1=i.1
  ·rw[AB hf]
   exact .inl ⟨_,rfl,by simp only;omega,by omega,by simp only;omega,by simp only;omega,by simp [h4,hf]⟩
  ·rw[AD hf]
   exact .inl ⟨_,rfl,by simp only;omega,by omega,by simp only;omega,by simp only;omega,by simp [h4,hf]⟩
 ·rintro⟨c,j⟩ ⟨h1,_,h2,h3,h4⟩
  simp only at h1 h2 h3 h4 ⊢
  have h5:c=((owned s.2.2 i.1).length:Int):=h4
  rw[AD (by omega)]
  refine map_inr ?_
  by_cases e1:(l.length:Int)=cl (sz s.1) i.2.2.2.2
  rotate_left
  ·rw[AD e1]
   exact⟨_,rfl,BT fun hh=>by obtain⟨l',p1,p2,_⟩:=(only hh).2.2.2;rw[hl.fn p1] at e1;exact e1 p2⟩
  rw[AB e1]
  by_cases e2:(l.length:Int)=c
  rotate_left
  ·rw[AD e2]
   exact⟨_,rfl,BT fun hh=>by obtain⟨l',p1,_,p2,_⟩:=(only hh).2.2.2;rw[hl.fn p1] at e2;exact e2 (by omega)⟩
  have hp:=ABN (CF s.1) (show 0<i.2.2.2.2 by omega)
  rw[AB e2,AE (by omega) (by omega),AB (by omega)]
  refine⟨_,rfl, ?_⟩
  rw[NI,show ((l.length:Int)-1).toNat=l.length-1 from by omega]
  have hg:=AKH (l:=l) (by omega)
  constructor
  ·intro he
   exact⟨hr,.inr ⟨c7,by omega,d1,d2,l,hl,e1,by omega,by rw[<-hg,he]⟩⟩
  ·intro hh
   obtain⟨l',p1,_,_,p2⟩:=(only hh).2.2.2
   rw[<-hl.fn p1,←hg] at p2
   simpa using p2
theorem ABP (s:Sp) (i:AH):∃ b,IZ s i=some b/\(b=true↔VS s/\EA s i):=by
 unfold IZ
 obtain⟨b,h1,h2⟩:=fB s
 rw[h1]
 simp only[BC]
 by_cases hb:b=true
 ·rw[AB hb]
  obtain⟨c,h3,h4⟩:=ABO (h2.1 hb) i
  rw[h3]
  exact⟨c,rfl,h4.trans ⟨fun h=>⟨h2.1 hb,h⟩,fun h=>h.2⟩⟩
 ·rw[AD hb]
  exact⟨_,rfl,BT fun h=>hb (h2.2 h.1)⟩
theorem HD {s:Sp} (h:VS s) {a:Int} (h0:0<=a) (h1:a<s.2.1.length):0<=a / sz s.1/\a / sz s.1<s.2.2.length:=
 ⟨Int.ediv_nonneg h0 (by have:=CF s.1;omega),(ACI (CF s.1)).2 (by rw[<-h.w];exact h1)⟩
theorem AYK {s a:Int} (hs:3<=s/\s<=8) (h0:0<=a) (h1:a<=9223372036854775807):ACZ .and a (sz s-1)=a%sz s:=AHQ s.toNat (by omega) h0 h1
def aS:Option Int->Int×Int
 |some a=>(a,0)
 |none=>(0,2)
theorem iT {s:Sp} (h:VS s) {a k:Int} (h0:0<=a) (h1:a<s.2.1.length) (hu:(fr s.2.2 (a / sz s.1)).1≠-1) (k0:0<=k) (k1:k<=9223372036854775807) {l:List Int} (hl:Pa s.2.2 (a / sz s.1) l):
  A_ s a k=some (aS (DK (sz s.1) l (a%sz s.1+k))):=by
 have n8:=VS.PN h
 have hn:=h.n.2
 obtain⟨z1,z2⟩:=OG h.sh
 obtain⟨f0,f1⟩:=HD h h0 h1
 have m0:=kV a (show sz s.1≠0 by omega)
 have m1:=oX a (show 0<sz s.1 by omega)
 have LY:gl (0,0,0) s.2.2 (a / sz s.1).toNat=fr s.2.2 (a / sz s.1):=rfl
 unfold A_
 rw[AD (by omega),AD (by omega),AD (by omega),AB trivial,AB trivial,QL h.sh,AB ⟨f0,f1⟩,LY,AD hu,sW,AE (e:=sz s.1) (by omega) (by omega),AE (e:=sz s.1-1) (by omega) (by omega),AYK h.sh h0 (by omega)]
 refine KK (fun m (st:Int×Int×Int)=>(0<=st.1/\st.1<=k)/\0<=st.2.2/\st.2.2<sz s.1/\∃ l2,l2.length=m/\l2≠[]/\Pa s.2.2 st.2.1 l2/\DK (sz s.1) l2 (st.2.2+st.1)=DK (sz s.1) l (a%sz s.1+k)) (n:=l.length) ?_ ⟨⟨k0,S7 _⟩,m0,m1,l,rfl, ?_,hl,rfl⟩
 ·rintro m ⟨k',f,at'⟩ ⟨⟨g0,g7⟩,g1,g2,l2,g3,g6,g4,g5⟩
  simp only at g0 g7 g1 g2 g4 g5 ⊢
  rw[AE (e:=sz s.1-at') (by omega) (by omega),G4]
  cases l2 with
  |nil=>exact absurd rfl g6
  |cons b r=>
   obtain⟨rfl,i0,i1,i2⟩:=g4
   have UU:(gl (0,0,0) s.2.2 f.toNat).2.2=nx s.2.2 f:=(IC i0 i1).symm
   have fm:=MO h.sh i0 (show f<=64 by omega)
   rw[DK] at g5
   by_cases hk:k' ≥sz s.1-at'
   ·rw[AB hk,AB trivial,AB ⟨i0,i1⟩,UU,AE (by omega) (by omega)]
    rw[AD (by omega)] at g5
    by_cases hx:nx s.2.2 f= -1
    ·rw[AB hx]
     left
     rw[hx] at i2
     have:r=[]:=i2.fn (show Pa s.2.2 (-1) [] from rfl)
     subst this
     rw[<-g5]
     rfl
    ·rw[AD hx]
     right
     refine⟨m-1,_,by simp at g3;omega,rfl,⟨by simp only;omega,by simp only;omega⟩,by simp only;omega,by simp only;omega,r,by simp at g3;omega, ?_,i2, ?_⟩
     ·rintro rfl;rw[Pa] at i2;exact hx i2
     ·simp only;rw[<-g5];congr 1;omega
   ·rw[AD hk,AB trivial,AE (e:=f*sz s.1) (by omega) (by omega),AE (e:=f*sz s.1+at') (by omega) (by omega),AE (by omega) (by omega)]
    rw[AB (by omega)] at g5
    left
    rw[<-g5]
    show some _=some _
    congr 2
    show _=(_,_)
    congr 1;omega
 ·rintro rfl;rw[Pa] at hl;omega
end Go.Proofs.YtjbojdpdkikioaaGreatDoor
