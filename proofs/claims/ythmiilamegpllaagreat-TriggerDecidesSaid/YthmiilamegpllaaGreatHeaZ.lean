import Derived.Test.YthmiilamegpllaaGreatHeaD
import Derived.Test.YthmiilamegpllaaGreatSpE
import Derived.Test.YthmiilamegpllaaGreatRows
set_option linter.unusedVariables false
set_option linter.unusedSimpArgs false
namespace Go.Proofs.YthmiilamegpllaaGreat
open Go Go.V3
theorem AVF {M:Nat} {g:Gh} (v:GV M g) (hM:M<=1000):K4 g=some g:=by
 have hul:=v.ul
 have hrl:=v.rl
 have hnn:=v.nn
 unfold K4
 rw[AA (by simp only[VG];omega),AA (by simp only[VG];omega)]
 refine (AO (fun k (st:Int×Gh)=>st=((k:Int),(g.1.take k,g.2.1,g.2.2))) (fun b=>b=g) g.1.length ?_ ?_ (s:=(0,([],([]:List Bool)++g.2.1,([]:List Int)++g.2.2))) (by simp)).elim fun b hb=>by rw[hb.1,hb.2]
 ·rintro k st hk rfl
  left
  have hv:=v.nd k (by omega) (by omega)
  have e1:gl (([],[]):Nd) g.1 k=nd g (k:Int):=rfl
  simp only[HX]
  rw[AA (by omega),AA (by omega),e1,AA (by simp only[VG];omega),AA (by simp only[VG];omega),AA (by simp only[rV,IC];omega),AE (e:=(k:Int)+1) (by omega) (by omega)]
  refine⟨_,rfl, ?_⟩
  rw[FZ (d:=(([],[]):Nd)) g.1 k hk,e1]
  rfl
 ·rintro st rfl
  simp only
  rw[AD (by omega),SD]
  exact⟨_,rfl,rfl⟩
theorem aF {M:Nat} {g:Gh} (v:GV M g) (x:Int) (need:Bool):C4 g x need=some (PL g.2.1 x need):=by
 have h1:=v.ul
 unfold C4 PL
 by_cases c0:x=0
 ·simp only[AA c0]
  cases need <;> rfl
 simp only[AD c0]
 by_cases c1:x<0
 ·rw[AA c1,AA (.inl c1)]
 by_cases c2:x>32
 ·rw[AD c1,AA c2,AA (.inr (.inl c2))]
 rw[AD c1,AD c2,AE (e:=x-1) (by omega) (by omega),AA (by omega)]
 cases hu:gl false g.2.1 (x-1).toNat with
 |true=>rw[AD (by decide),AD (fun hh=>by rcases hh with hh|hh|hh;omega;omega;cases hh)]
 |false=>rw[AA (by decide),AA (.inr (.inr rfl))]
def EK (g:Gh) (x:Int):Int:=if x=0 then -1 else gl 0 g.2.2 (x-1).toNat
theorem pI {M:Nat} {g:Gh} (v:GV M g) {x:Int} (x0:0<=x) (x1:x<=32):CA g x=some (EK g x):=by
 have h1:=v.rl
 unfold CA EK
 by_cases c0:x=0
 ·rw[AA c0,AA c0]
 ·rw[AD c0,AD c0,AE (e:=x-1) (by omega) (by omega),AA (by omega)]
theorem AIR {M:Nat} {g:Gh} (v:GV M g):
  (∃ i:Nat,i<32/\gl false g.2.1 i=false/\(∀ j:Nat,j<i->gl false g.2.1 j=true)/\FF g=some ((i:Int)+1))\/(UW g.2.1/\FF g=some 0):=by
 have h1:=v.ul
 unfold FF
 refine (AO (fun k (st:Int)=>st=(k:Int)/\∀ j:Nat,j<k->gl false g.2.1 j=true) (fun b=>(∃ i:Nat,i<32/\gl false g.2.1 i=false/\(∀ j:Nat,j<i->gl false g.2.1 j=true)/\b=(i:Int)+1)\/(UW g.2.1/\b=0)) g.2.1.length ?_ ?_ (s:=0) ⟨rfl,fun j hj=>by omega⟩).elim fun b hb=>by
  rcases hb.2 with ⟨i,a1,a2,a3,a4⟩|⟨a1,a2⟩
  ·exact .inl ⟨i,a1,a2,a3,by rw[hb.1,a4]⟩
  ·exact .inr ⟨a1,by rw[hb.1,a2]⟩
 ·rintro k st hk ⟨rfl,hj⟩
  rw[AA (by omega),AA (by omega),AE (by omega) (by omega)]
  simp only[HX]
  by_cases hu:gl false g.2.1 k=true
  ·rw[AD (by rw[hu];decide)]
   refine .inl ⟨_,rfl,rfl,fun j bH => ?_⟩
   by_cases kL:j=k
   ·rw[kL];exact hu
   ·exact hj j (by omega)
  ·have hu' :gl false g.2.1 k=false:=by simpa using hu
   rw[AA (by rw[hu'];decide)]
   exact .inr ⟨_,rfl,.inl ⟨k,by omega,hu',hj,rfl⟩⟩
 ·rintro st ⟨rfl,hj⟩
  rw[AD (by omega)]
  exact⟨_,rfl,.inr ⟨fun i hi=>hj i (by omega),rfl⟩⟩
inductive tE (g:Gh) (o:Op):Gh->An->Prop
 |bad (c:¬(1<=o.1/\o.1<=10)):tE g o g (20,0#64)
 |size (c:o.1=1) (hs:¬AA5 o.2.1 o.2.2.1):tE g o g (13,0#64)
 |AVC (c:o.1=1) (hs:AA5 o.2.1 o.2.2.1) (hf:UW g.2.1):tE g o g (15,0#64)
 |all (c:o.1=1) (hs:AA5 o.2.1 o.2.2.1) (i:Nat) (hi:i<32) (hu:gl false g.2.1 i=false) (hj:∀ j:Nat,j<i->gl false g.2.1 j=true):
   tE g o (g.1++ [(List.replicate o.2.1.toNat (-1),List.replicate o.2.2.1.toNat 0#64)],g.2.1.set i true,g.2.2.set i (g.1.length:Int)) (0,BitVec.ofInt 64 ((i:Int)+1))
 |col (c:o.1=8):tE g o g (0,0#64)
 |sta (c:o.1=10) (l:List Int) (hl:l.Pairwise (·< ·)) (hm:∀ x,x∈l↔GRe g x):tE g o g (0,BitVec.ofInt 64 (AIQ g l))
 |eqa (c:o.1=6) (e:PL g.2.1 o.2.1 false≠0):tE g o g (PL g.2.1 o.2.1 false,0#64)
 |eqb (c:o.1=6) (e:PL g.2.1 o.2.1 false=0) (f:PL g.2.1 o.2.2.1 false≠0):tE g o g (PL g.2.1 o.2.2.1 false,0#64)
 |equ (c:o.1=6) (e:PL g.2.1 o.2.1 false=0) (f:PL g.2.1 o.2.2.1 false=0):tE g o g (0,if EK g o.2.1=EK g o.2.2.1 then 1#64 else 0#64)
 |rJ (c:(2<=o.1/\o.1<=5)\/o.1=7\/o.1=9) (e:PL g.2.1 o.2.1 true≠0):tE g o g (PL g.2.1 o.2.1 true,0#64)
 |drp (c:o.1=7) (e:PL g.2.1 o.2.1 true=0):tE g o (g.1,g.2.1.set (o.2.1-1).toNat false,g.2.2.set (o.2.1-1).toNat (-1)) (0,0#64)
 |shp (c:o.1=9) (e:PL g.2.1 o.2.1 true=0):tE g o g (0,BitVec.ofInt 64 (256*((nd g (EK g o.2.1)).1.length:Int)+((nd g (EK g o.2.1)).2.length:Int)))
 |idx (c:2<=o.1/\o.1<=5) (e:PL g.2.1 o.2.1 true=0) (hk:¬(0<=o.2.2.1/\o.2.2.1<(if o.1=2\/o.1=3 then ((nd g (EK g o.2.1)).1.length:Int) else ((nd g (EK g o.2.1)).2.length:Int)))):tE g o g (17,0#64)
 |rd (c:o.1=4) (e:PL g.2.1 o.2.1 true=0) (k0:0<=o.2.2.1) (k1:o.2.2.1<(nd g (EK g o.2.1)).2.length):tE g o g (0,gl 0#64 (nd g (EK g o.2.1)).2 o.2.2.1.toNat)
 |rr0 (c:o.1=2) (e:PL g.2.1 o.2.1 true=0) (k0:0<=o.2.2.1) (k1:o.2.2.1<(nd g (EK g o.2.1)).1.length) (hw:gl 0 (nd g (EK g o.2.1)).1 o.2.2.1.toNat= -1):tE g o g (0,0#64)
 |rrf (c:o.1=2) (e:PL g.2.1 o.2.1 true=0) (k0:0<=o.2.2.1) (k1:o.2.2.1<(nd g (EK g o.2.1)).1.length) (hw:gl 0 (nd g (EK g o.2.1)).1 o.2.2.1.toNat≠-1) (hf:UW g.2.1):tE g o g (15,0#64)
 |rr (c:o.1=2) (e:PL g.2.1 o.2.1 true=0) (k0:0<=o.2.2.1) (k1:o.2.2.1<(nd g (EK g o.2.1)).1.length) (hw:gl 0 (nd g (EK g o.2.1)).1 o.2.2.1.toNat≠-1) (i:Nat) (hi:i<32) (hu:gl false g.2.1 i=false) (hj:∀ j:Nat,j<i->gl false g.2.1 j=true):
   tE g o (g.1,g.2.1.set i true,g.2.2.set i (gl 0 (nd g (EK g o.2.1)).1 o.2.2.1.toNat)) (0,BitVec.ofInt 64 ((i:Int)+1))
 |wrh (c:o.1=3) (e:PL g.2.1 o.2.1 true=0) (k0:0<=o.2.2.1) (k1:o.2.2.1<(nd g (EK g o.2.1)).1.length) (hh:PL g.2.1 o.2.2.2 false≠0):tE g o g (PL g.2.1 o.2.2.2 false,0#64)
 |wr (c:o.1=3) (e:PL g.2.1 o.2.1 true=0) (k0:0<=o.2.2.1) (k1:o.2.2.1<(nd g (EK g o.2.1)).1.length) (hh:PL g.2.1 o.2.2.2 false=0):
   tE g o (g.1.set (EK g o.2.1).toNat ((nd g (EK g o.2.1)).1.set o.2.2.1.toNat (EK g o.2.2.2),(nd g (EK g o.2.1)).2),g.2) (0,0#64)
 |wd (c:o.1=5) (e:PL g.2.1 o.2.1 true=0) (k0:0<=o.2.2.1) (k1:o.2.2.1<(nd g (EK g o.2.1)).2.length):
   tE g o (g.1.set (EK g o.2.1).toNat ((nd g (EK g o.2.1)).1,(nd g (EK g o.2.1)).2.set o.2.2.1.toNat (BitVec.ofInt 64 o.2.2.2)),g.2) (0,0#64)
theorem iE {M:Nat} {g:Gh} (v:GV M g) {x:Int} (hx:PL g.2.1 x true=0):0<=EK g x/\EK g x<g.1.length:=by
 obtain⟨x0,x1,hu⟩:=gE hx
 unfold EK
 rw[AD (by omega)]
 exact v.rt _ (by omega) hu
theorem aG {M:Nat} {g:Gh} (v:GV M g) {x:Int} (hx:PL g.2.1 x false=0):(-1<=EK g x/\EK g x<g.1.length)/\0<=x/\x<=32:=by
 rcases ANX hx with rfl|⟨x0,x1,hu⟩
 ·exact⟨by unfold EK;rw[AA rfl];omega,by omega,by omega⟩
 ·unfold EK
  rw[AD (by omega)]
  have:=v.rt _ (by omega:(x-1).toNat<32) hu
  omega
theorem A2B {M:Nat} {g:Gh} (v:GV M g) (hM:M<=1000) (o:Op):∃ g' an,NS g o=some (g',an)/\tE g o g' an:=by
 have hul:=v.ul
 have hrl:=v.rl
 have hnn:=v.nn
 unfold NS
 rw[AVF v hM,AZ]
 by_cases c1:o.1=1
 ·rw[AA c1]
  by_cases h1:o.2.1<0
  ·rw[AA h1];exact⟨_,_,rfl,.size c1 fun hh=>by have:=hh.1.1;omega⟩
  by_cases h2:o.2.1>15
  ·rw[AD h1,AA h2];exact⟨_,_,rfl,.size c1 fun hh=>by have:=hh.1.2;omega⟩
  by_cases h3:o.2.2.1<0
  ·rw[AD h1,AD h2,AA h3];exact⟨_,_,rfl,.size c1 fun hh=>by have:=hh.2.1;omega⟩
  by_cases h4:o.2.2.1>32
  ·rw[AD h1,AD h2,AD h3,AA h4];exact⟨_,_,rfl,.size c1 fun hh=>by have:=hh.2.2;omega⟩
  have hs:AA5 o.2.1 o.2.2.1:=⟨by omega,by omega⟩
  rw[AD h1,AD h2,AD h3,AD h4]
  rcases AIR v with ⟨i,hi,hu,hj,hf⟩|⟨hf,tM⟩
  ·rw[hf,AZ,AD (by omega),AA (by omega)]
   have key:=AO (β:=Unit ⊕ (Gh×An)) (f:=fun s1:Int×Nd=>
    if s1.1<o.2.1 then
    if (s1.2.1.length+([(-1)]:List Int).length)*8<=140737488355328 then
    some (Sum.inl ((AG (s1.1+1),(s1.2.1++([(-1)]:List Int),s1.2.2))))
    else none
    else Option.map Sum.inr (if (g.1.length+([s1.2]:List ((List Int)×(List (BitVec 64)))).length)*48<=140737488355328 then
    if 0<=(AG ((i:Int)+1-1))/\(AG ((i:Int)+1-1))<(g.2.1.length:Int) then
    if 0<=(AG ((i:Int)+1-1))/\(AG ((i:Int)+1-1))<(g.2.2.length:Int) then
    some (Sum.inr (((g.1++([s1.2]:List ((List Int)×(List (BitVec 64)))),g.2.1.set ((AG ((i:Int)+1-1)).toNat) true,g.2.2.set ((AG ((i:Int)+1-1)).toNat) (AG (((g.1++([s1.2]:List ((List Int)×(List (BitVec 64))))).length:Int)-1))),(0,BitVec.ofInt 64 ((i:Int)+1)))))
    else none
    else none
    else none))
    (fun k (st:Int×Nd)=>st=((k:Int),(List.replicate k (-1),List.replicate o.2.2.1.toNat 0#64)))
    (fun b=>b=Sum.inr ((g.1++ [(List.replicate o.2.1.toNat (-1),List.replicate o.2.2.1.toNat 0#64)],g.2.1.set i true,g.2.2.set i (g.1.length:Int)),(0,BitVec.ofInt 64 ((i:Int)+1)))) o.2.1.toNat ?_ ?_ (s:=(0,([],List.replicate o.2.2.1.toNat 0#64))) rfl
   ·obtain⟨b,hb,rfl⟩:=key
    rw[hb]
    exact⟨_,_,rfl,.all c1 hs i hi hu hj⟩
   ·rintro k st hk rfl
    left
    simp only
    rw[AA (by omega),AA (by simp only[XV,IC];omega),AE (e:=(k:Int)+1) (by omega) (by omega)]
    refine⟨_,rfl, ?_⟩
    rw[List.replicate_succ'];rfl
   ·rintro st rfl
    simp only
    rw[AD (by omega),AA (by simp only[IC];omega),AE (e:=(i:Int)+1-1) (by omega) (by omega),AA (by omega),AA (by omega),AE (e:=_ - 1) (by simp only[JK,IC];omega) (by simp only[JK,IC];omega)]
    refine⟨_,rfl, ?_⟩
    simp only[JK,IC]
    rw[show ((i:Int)+1-1).toNat=i from by omega,show ((g.1.length+1:Nat):Int)-1=(g.1.length:Int) from by omega]
  ·rw[tM,AZ,AA rfl]
   exact⟨_,_,rfl,.AVC c1 hs hf⟩
 rw[AD c1]
 by_cases c8:o.1=8
 ·rw[AA c8];exact⟨_,_,rfl,.col c8⟩
 rw[AD c8]
 by_cases c10:o.1=10
 ·obtain⟨l,h1,h2,h3⟩:=AVE v hM
  rw[AA c10,h1];exact⟨_,_,rfl,.sta c10 l h2 h3⟩
 rw[AD c10]
 by_cases c6:o.1=6
 ·rw[AA c6,aF v,AZ]
  by_cases h1:PL g.2.1 o.2.1 false=0
  rotate_left
  ·rw[AA h1];exact⟨_,_,rfl,.eqa c6 h1⟩
  rw[AD (H_ h1),aF v,AZ]
  by_cases h2:PL g.2.1 o.2.2.1 false=0
  rotate_left
  ·rw[AA h2];exact⟨_,_,rfl,.eqb c6 h1 h2⟩
  obtain⟨_,x0,x1⟩:=aG v h1
  obtain⟨_,y0,y1⟩:=aG v h2
  rw[AD (H_ h2),pI v x0 x1,AZ,pI v y0 y1,AZ]
  have:=tE.equ c6 h1 h2
  refine⟨_,_, ?_,this⟩
  by_cases h3:EK g o.2.1=EK g o.2.2.1
  ·rw[AA h3,AA h3];rfl
  ·rw[AD h3,AD h3];rfl
 rw[AD c6]
 have tail:∀ (hc:(2<=o.1/\o.1<=5)\/o.1=7\/o.1=9),∃ g' an,(Option.bind (C4 g o.2.1 true) (fun uT=>
   if ¬uT=0 then
   Option.bind (AV g uT) (fun r22=>
   some ((r22.1,r22.2)))
   else Option.bind (CA g o.2.1) (fun ZY=>
   if 0<=ZY/\ZY<(g.1.length:Int) then
   if o.1=7 then
   if 0<=(AG (o.2.1-1))/\(AG (o.2.1-1))<(g.2.1.length:Int) then
   if 0<=(AG (o.2.1-1))/\(AG (o.2.1-1))<(g.2.2.length:Int) then
   some (((g.1,g.2.1.set ((AG (o.2.1-1)).toNat) false,g.2.2.set ((AG (o.2.1-1)).toNat) (-1)),((0:Int),0#64)))
   else none
   else none
   else if o.1=9 then
   some ((g,(0,BitVec.ofInt 64 (AG ((AG ((256:Int)*(((gl (([],[]):((List Int)×(List (BitVec 64)))) g.1 ZY.toNat).1).length:Int)))+(((gl (([],[]):((List Int)×(List (BitVec 64)))) g.1 ZY.toNat).2).length:Int))))))
   else Option.bind (α:=Int ⊕ (Gh×An)) (if o.1=2 then
   some (Sum.inl ((((gl (([],[]):((List Int)×(List (BitVec 64)))) g.1 ZY.toNat).1).length:Int)))
   else if o.1=3 then
   some (Sum.inl ((((gl (([],[]):((List Int)×(List (BitVec 64)))) g.1 ZY.toNat).1).length:Int)))
   else some (Sum.inl ((((gl (([],[]):((List Int)×(List (BitVec 64)))) g.1 ZY.toNat).2).length:Int)))) (fun q=>match q with
   |Sum.inl j2=>(if o.2.2.1<0 then
   Option.bind (AV g 17) (fun r24=>
   some ((r24.1,r24.2)))
   else if o.2.2.1≥j2 then
   Option.bind (AV g 17) (fun r25=>
   some ((r25.1,r25.2)))
   else if o.1=4 then
   if 0<=o.2.2.1/\o.2.2.1<(((gl (([],[]):((List Int)×(List (BitVec 64)))) g.1 ZY.toNat).2).length:Int) then
   some ((g,(0,gl (0#64:(BitVec 64)) ((gl (([],[]):((List Int)×(List (BitVec 64)))) g.1 ZY.toNat).2) o.2.2.1.toNat)))
   else none
   else if o.1=5 then
   Option.bind (CA g o.2.1) (fun zW=>
   if 0<=zW/\zW<(g.1.length:Int) then
   if 0<=o.2.2.1/\o.2.2.1<(((gl (([],[]):((List Int)×(List (BitVec 64)))) g.1 zW.toNat).2).length:Int) then
   some (((g.1.set zW.toNat ((gl (([],[]):((List Int)×(List (BitVec 64)))) g.1 zW.toNat).1,(gl (([],[]):((List Int)×(List (BitVec 64)))) g.1 zW.toNat).2.set o.2.2.1.toNat (BitVec.ofInt 64 o.2.2.2)),g.2),(0,0#64)))
   else none
   else none)
   else if o.1=3 then
   Option.bind (C4 g o.2.2.2 false) (fun uU=>
   if ¬uU=0 then
   Option.bind (AV g uU) (fun r28=>
   some ((r28.1,r28.2)))
   else Option.bind (CA g o.2.1) (fun y_=>
   if 0<=y_/\y_<(g.1.length:Int) then
   Option.bind (CA g o.2.2.2) (fun r30=>
   if 0<=o.2.2.1/\o.2.2.1<(((gl (([],[]):((List Int)×(List (BitVec 64)))) g.1 y_.toNat).1).length:Int) then
   some (((g.1.set y_.toNat ((gl (([],[]):((List Int)×(List (BitVec 64)))) g.1 y_.toNat).1.set o.2.2.1.toNat r30,(gl (([],[]):((List Int)×(List (BitVec 64)))) g.1 y_.toNat).2),g.2),(0,0#64)))
   else none)
   else none))
   else if 0<=o.2.2.1/\o.2.2.1<(((gl (([],[]):((List Int)×(List (BitVec 64)))) g.1 ZY.toNat).1).length:Int) then
   if (gl (0:Int) ((gl (([],[]):((List Int)×(List (BitVec 64)))) g.1 ZY.toNat).1) o.2.2.1.toNat)=(-1) then
   some ((g,(0,0#64)))
   else Option.bind (FF g) (fun x6=>
   if x6=0 then
   Option.bind (AV g 15) (fun r32=>
   some ((r32.1,r32.2)))
   else if 0<=(AG (x6-1))/\(AG (x6-1))<(g.2.1.length:Int) then
   if 0<=(AG (x6-1))/\(AG (x6-1))<(g.2.2.length:Int) then
   some (((g.1,g.2.1.set ((AG (x6-1)).toNat) true,g.2.2.set ((AG (x6-1)).toNat) (gl (0:Int) ((gl (([],[]):((List Int)×(List (BitVec 64)))) g.1 ZY.toNat).1) o.2.2.1.toNat)),(0,BitVec.ofInt 64 x6)))
   else none
   else none)
   else none)
   |Sum.inr b1=>some b1)
   else none)))=some (g',an)/\tE g o g' an:=by
  intro hc
  rw[aF v,AZ]
  by_cases e:PL g.2.1 o.2.1 true=0
  rotate_left
  ·rw[AA e];exact⟨_,_,rfl,.rJ hc e⟩
  obtain⟨x0,x1,hu⟩:=gE e
  have hr:=iE v e
  have JE:=v.nd _ hr.1 hr.2
  have e1:gl (([],[]):((List Int)×(List (BitVec 64)))) g.1 (EK g o.2.1).toNat=nd g (EK g o.2.1):=rfl
  rw[AD (H_ e),pI v (by omega) x1,AZ,AA hr,e1]
  by_cases c7:o.1=7
  ·rw[AA c7,AE (e:=o.2.1-1) (by omega) (by omega),AA (by omega),AA (by omega)]
   exact⟨_,_,rfl,.drp c7 e⟩
  rw[AD c7]
  by_cases c9:o.1=9
  ·rw[AA c9,AE (e:=(256:Int)*((nd g (EK g o.2.1)).1.length:Int)) (by omega) (by omega),AE (by omega) (by omega)]
   exact⟨_,_,rfl,.shp c9 e⟩
  rw[AD c9]
  have hc' :2<=o.1/\o.1<=5:=by omega
  have A7J:(if o.1=2 then
    (some (Sum.inl (((nd g (EK g o.2.1)).1.length:Int))):Option (Int ⊕ (Gh×An)))
    else if o.1=3 then
    some (Sum.inl (((nd g (EK g o.2.1)).1.length:Int)))
    else some (Sum.inl (((nd g (EK g o.2.1)).2.length:Int))))=some (Sum.inl (if o.1=2\/o.1=3 then ((nd g (EK g o.2.1)).1.length:Int) else ((nd g (EK g o.2.1)).2.length:Int))):=by
   by_cases d2:o.1=2
   ·rw[AA d2,AA (.inl d2)]
   by_cases d3:o.1=3
   ·rw[AD d2,AA d3,AA (.inr d3)]
   ·rw[AD d2,AD d3,AD (by omega)]
  rw[A7J,AZ]
  simp only
  by_cases h1:o.2.2.1<0
  ·rw[AA h1];exact⟨_,_,rfl,.idx hc' e (by omega)⟩
  rw[AD h1]
  by_cases h2:o.2.2.1≥(if o.1=2\/o.1=3 then ((nd g (EK g o.2.1)).1.length:Int) else ((nd g (EK g o.2.1)).2.length:Int))
  ·rw[AA h2];exact⟨_,_,rfl,.idx hc' e (by omega)⟩
  rw[AD h2]
  by_cases d4:o.1=4
  ·rw[AD (by omega)] at h2
   rw[AA d4,AA (by omega)]
   exact⟨_,_,rfl,.rd d4 e (by omega) (by omega)⟩
  rw[AD d4]
  by_cases d5:o.1=5
  ·rw[AD (by omega)] at h2
   rw[AA d5,AZ,AA hr,e1,AA (by omega)]
   exact⟨_,_,rfl,.wd d5 e (by omega) (by omega)⟩
  rw[AD d5]
  rw[AA (by omega)] at h2
  by_cases d3:o.1=3
  ·rw[AA d3,aF v,AZ]
   by_cases hh:PL g.2.1 o.2.2.2 false=0
   rotate_left
   ·rw[AA hh];exact⟨_,_,rfl,.wrh d3 e (by omega) (by omega) hh⟩
   obtain⟨_,y0,y1⟩:=aG v hh
   rw[AD (H_ hh),AZ,AA hr,pI v y0 y1,AZ,e1,AA (by omega)]
   exact⟨_,_,rfl,.wr d3 e (by omega) (by omega) hh⟩
  have d2:o.1=2:=by omega
  rw[AD d3,AA (by omega)]
  by_cases hw:gl 0 (nd g (EK g o.2.1)).1 o.2.2.1.toNat= -1
  ·rw[AA hw];exact⟨_,_,rfl,.rr0 d2 e (by omega) (by omega) hw⟩
  rw[AD hw]
  rcases AIR v with ⟨i,hi,hu,hj,hf⟩|⟨hf,tM⟩
  ·rw[hf,AZ,AD (by omega),AE (e:=(i:Int)+1-1) (by omega) (by omega),AA (by omega),AA (by omega),show ((i:Int)+1-1).toNat=i from by omega]
   exact⟨_,_,rfl,.rr d2 e (by omega) (by omega) hw i hi hu hj⟩
  ·rw[tM,AZ,AA rfl]
   exact⟨_,_,rfl,.rrf d2 e (by omega) (by omega) hw hf⟩
 by_cases c7:o.1=7
 ·rw[AA c7,AA c7,AZ];exact tail (by omega)
 rw[AD c7]
 by_cases c9:o.1=9
 ·rw[AA c9,AA c9,AZ];exact tail (by omega)
 rw[AD c9]
 by_cases c2:o.1=2
 ·rw[AA c2,AA c2,AZ];exact tail (by omega)
 rw[AD c2]
 by_cases c3:o.1=3
 ·rw[AA c3,AA c3,AZ];exact tail (by omega)
 rw[AD c3]
 by_cases c4:o.1=4
 ·rw[AA c4,AA c4,AZ];exact tail (by omega)
 rw[AD c4]
 by_cases c5:o.1=5
 ·rw[AA c5,AZ];exact tail (by omega)
 rw[AD c5]
 exact⟨_,_,rfl,.bad (by omega)⟩
theorem tE.gv {M:Nat} {g:Gh} (v:GV M g) {o:Op} {g' :Gh} {an:An} (d:tE g o g' an):GV (M+1) g' :=by
 have hul:=v.ul
 have hrl:=v.rl
 have hnn:=v.nn
 have same:GV (M+1) g:=⟨v.ul,v.rl,by omega,v.nd,v.rt,v.un⟩
 have put:∀ {i:Nat} {x:Int},i<32->0<=x->x<g.1.length->GV (M+1) (g.1,g.2.1.set i true,g.2.2.set i x):=by
  intro i x hi x0 x1
  refine⟨by simp only[EW];exact hul,by simp only[EW];exact hrl,by simp only;omega,v.nd,fun j hj hu=> ?_,fun j hj hu=> ?_⟩
  ·simp only at hu ⊢
   rw[D5 (by omega)] at hu ⊢
   split
   ·exact⟨x0,x1⟩
   ·rename_i hn;rw[AD hn] at hu;exact v.rt j hj hu
  ·simp only at hu ⊢
   rw[D5 (by omega)] at hu ⊢
   split at hu
   ·cases hu
   ·rename_i hn;rw[AD hn];exact v.un j hj hu
 have AZQ:∀ {k:Int} {y:Nd},0<=k->k<g.1.length->(y.1.length<=15/\y.2.length<=32/\∀ j:Nat,j<y.1.length→-1<=gl 0 y.1 j/\gl 0 y.1 j<g.1.length)->GV (M+1) (g.1.set k.toNat y,g.2):=by
  intro k y k0 k1 hy
  refine⟨hul,hrl,by simp only[EW];omega,fun i i0 i1=> ?_,fun i hi hu=>by simp only[EW];exact v.rt i hi hu,v.un⟩
  simp only[EW] at i1
  have e:nd (g.1.set k.toNat y,g.2) i=if i=k then y else nd g i:=by
   unfold nd
   simp only
   rw[D5 (by omega)]
   by_cases gS:i=k
   ·rw[AA gS,AA (by rw[gS])]
   ·rw[AD gS,AD (by omega)]
  rw[e]
  simp only[EW]
  split
  ·exact hy
  ·exact v.nd i i0 i1
 cases d with
 |bad c=>exact same
 |size c hs=>exact same
 |AVC c hs hf=>exact same
 |all c hs i hi hu hj=>
  refine⟨by simp only[EW];exact hul,by simp only[EW];exact hrl,by simp only[JK,IC];omega,fun k k0 k1=> ?_,fun j hj hu=> ?_,fun j hj hu=> ?_⟩
  ·simp only[JK,IC] at k1 ⊢
   by_cases hk:k=g.1.length
   ·have e:nd (g.1++ [(List.replicate o.2.1.toNat (-1),List.replicate o.2.2.1.toNat 0#64)],g.2.1.set i true,g.2.2.set i (g.1.length:Int)) k=(List.replicate o.2.1.toNat (-1),List.replicate o.2.2.1.toNat 0#64):=by
     unfold nd
     simp only
     rw[hk,D8 (by rw[JK,IC];omega),AA7 (by omega)]
     simp
    rw[e]
    simp only[XV]
    have:=hs.1
    have:=hs.2
    refine⟨by omega,by omega,fun j hj=> ?_⟩
    rw[O4 hj];omega
   ·have e:nd (g.1++ [(List.replicate o.2.1.toNat (-1),List.replicate o.2.2.1.toNat 0#64)],g.2.1.set i true,g.2.2.set i (g.1.length:Int)) k=nd g k:=by
     unfold nd
     simp only
     rw[ZJ (by omega)]
    rw[e]
    have:=v.nd k k0 (by omega)
    exact⟨this.1,this.2.1,fun j hj=>by have:=this.2.2 j hj;omega⟩
  ·simp only[JK,IC] at hu ⊢
   rw[D5 (by omega)] at hu ⊢
   split
   ·omega
   ·rename_i hn;rw[AD hn] at hu;have:=v.rt j hj hu;omega
  ·simp only at hu ⊢
   rw[D5 (by omega)] at hu ⊢
   split at hu
   ·cases hu
   ·rename_i hn;rw[AD hn];exact v.un j hj hu
 |col c=>exact same
 |sta c l hl hm=>exact same
 |eqa c e=>exact same
 |eqb c e f=>exact same
 |equ c e f=>exact same
 |rJ c e=>exact same
 |drp c e=>
  obtain⟨x0,x1,hu⟩:=gE e
  refine⟨by simp only[EW];exact hul,by simp only[EW];exact hrl,by simp only;omega,v.nd,fun j hj hu=> ?_,fun j hj hu=> ?_⟩
  ·simp only at hu ⊢
   rw[D5 (by omega)] at hu ⊢
   split at hu
   ·cases hu
   ·rename_i hn;rw[AD hn];exact v.rt j hj hu
  ·simp only at hu ⊢
   rw[D5 (by omega)] at hu ⊢
   split
   ·rfl
   ·rename_i hn;rw[AD hn] at hu;exact v.un j hj hu
 |shp c e=>exact same
 |idx c e hk=>exact same
 |rd c e k0 k1=>exact same
 |rr0 c e k0 k1 hw=>exact same
 |rrf c e k0 k1 hw hf=>exact same
 |rr c e k0 k1 hw i hi hu hj=>
  have hr:=iE v e
  have:=(v.nd _ hr.1 hr.2).2.2 o.2.2.1.toNat (by omega)
  exact put hi (by omega) (by omega)
 |wrh c e k0 k1 hh=>exact same
 |wr c e k0 k1 hh=>
  have hr:=iE v e
  have hn:=v.nd _ hr.1 hr.2
  have hc:=(aG v hh).1
  refine AZQ hr.1 hr.2 ⟨by simp only[EW];exact hn.1,hn.2.1,fun j hj=> ?_⟩
  simp only[EW] at hj ⊢
  rw[D5 (by omega)]
  split
  ·exact hc
  ·exact hn.2.2 j hj
 |wd c e k0 k1=>
  have hr:=iE v e
  have hn:=v.nd _ hr.1 hr.2
  exact AZQ hr.1 hr.2 ⟨hn.1,by simp only[EW];exact hn.2.1,hn.2.2⟩
theorem AY9:MI=some (([],List.replicate 32 false,List.replicate 32 (-1)):Gh):=by
 unfold MI
 rw[AA (by omega),AA (by omega)]
 refine (AO (fun k (st:Int×List Int)=>st=((k:Int),List.replicate k (-1)++List.replicate (32-k) 0)) (fun b=>b=(([],List.replicate 32 false,List.replicate 32 (-1)):Gh)) 32 ?_ ?_ (s:=(0,List.replicate (32:Int).toNat (0:Int))) rfl).elim fun b hb=>by rw[hb.1,hb.2]
 ·rintro k st hk rfl
  left
  simp only[XV,JK,HX]
  rw[AA (by omega),AA (by omega),AE (e:=(k:Int)+1) (by omega) (by omega)]
  refine⟨_,rfl, ?_⟩
  rw[List.set_append_right _ _ (by rw[XV];exact EY _),XV,mX,show 32-k=(32-(k+1))+1 from by omega,List.replicate_succ,AR2,List.replicate_succ',J_]
  rfl
 ·rintro st rfl
  simp only[XV]
  rw[AD (by omega)]
  exact⟨_,rfl,rfl⟩
theorem GV.new:GV 0 (([],List.replicate 32 false,List.replicate 32 (-1)):Gh):=by
 refine⟨by simp,by simp,EY _,fun k k0 k1=>by simp at k1;omega,fun i hi hu=> ?_,fun i hi _=>O4 hi⟩
 simp only at hu
 rw[O4 hi] at hu
 cases hu
abbrev WM (c:Cf) (s n:Int):Hs:=(c,(s,List.replicate (n*sz s).toNat 0#64,List.replicate n.toNat (-1, -1, -1)),List.replicate c.2.1.length [],0,[],(List.replicate 32 false,List.replicate 32 0#64),0,(0,0,0,0,0,0,0,0,0),false)
theorem pJ {c:Cf} (g:Good c) {s n:Int} (hs:3<=s/\s<=8) (hn:2<=n/\n<=64):HV 0 (WM c s n):=by
 have hg:=g.n
 have tP:(List.replicate c.2.1.length ([]:List AH)).flatten=[]:=by simp
 have MY:∀ x:Int,0<=x->x<n->fr (List.replicate n.toNat ((-1, -1, -1):Fr)) x=(-1, -1, -1):=by
  intro x x0 x1
  unfold fr
  exact O4 (by omega)
 have hN:OkN (List.replicate c.2.1.length ([]:List AH)):=by
  refine⟨fun k hk=> ?_,fun k hk i hi=> ?_,by rw[tP];exact iF⟩
  ·rw[XV] at hk
   rw[O4 hk];exact List.Pairwise.nil
  ·rw[XV] at hk
   rw[O4 hk] at hi;cases hi
 have XU:∀ {i:AH},i∉(List.replicate c.2.1.length ([]:List AH)).flatten:=by intro i hi;rw[tP] at hi;cases hi
 have QO:∀ y,¬Slot (s,List.replicate (n*sz s).toNat 0#64,List.replicate n.toNat (-1, -1, -1)) (List.replicate c.2.1.length ([]:List AH)) y:=by
  rintro y ⟨i,hi,_⟩;exact XU hi
 refine⟨g, ?_,by simp,bC _⟩
 refine { hb:=⟨⟨VS.new hs hn,by simp only[XV];exact hg,F_.2 ⟨hN,fun i hi=>absurd hi XU⟩,fun x x0 x1 hx=> ?_⟩,fun i hi=>absurd hi XU⟩,seq:=fun i hi=>absurd hi XU,n0:=bC _,ref:=fun y hy=>absurd hy (QO y),ro:=⟨by simp,by simp,fun i hi _=>O4 hi⟩,root:=fun i hi hu=> ?_,rv:=⟨List.Pairwise.nil,fun x hx=>by cases hx⟩,ins:=fun f g y hi=> ?_,rem:=fun y hy=>absurd hy (QO y) }
 ·simp only[XV] at x1
  simp only at hx
  rw[MY x x0 (by omega)] at hx
  exact absurd rfl hx
 ·simp only at hu
  rw[O4 hi] at hu;cases hu
 ·obtain⟨x,hx,_⟩:=hi;cases hx
theorem pK {c:Cf} (g:Good c) {s n:Int} (hs:3<=s/\s<=8) (hn:2<=n/\n<=64):FT c s n=some (WM c s n,0):=by
 have hg:=g.n
 unfold FT
 rw[u9 g,AZ,AD (H_ rfl),AX4 hs hn,AZ]
 simp only
 rw[AD (H_ trivial),AA (by simp only[VG];omega),AA (by simp only[tJ];omega)]
 unfold P8
 rw[AA (by omega),AA (by omega)]
 rfl
theorem AL4 {u:List Int} (hu:u.length<=32) {d:List Int×Int} (hd:TS d):∃ r d',BP u d=some (r,u,d')/\TS d' :=by
 unfold BP
 by_cases c1:(u.length:Int)=0
 ·obtain⟨r,d1,e1,_,_,k1⟩:=FW hd (n:=35) (by omega) (by omega)
  rw[AA c1,e1]
  exact⟨_,_,rfl,k1⟩
 ·obtain⟨r,d1,e1,_,_,k1⟩:=FW hd (n:=12) (by omega) (by omega)
  rw[AD c1,e1,AZ]
  by_cases c2:r=0
  ·obtain⟨r2,d2,e2,_,_,k2⟩:=FW k1 (n:=35) (by omega) (by omega)
   rw[AA c2,e2]
   exact⟨_,_,rfl,k2⟩
  ·obtain⟨r2,d2,e2,r0,r1,k2⟩:=FW k1 (n:=(u.length:Int)) (by omega) (by omega)
   rw[AD c2,e2,AZ,AA ⟨r0,r1⟩]
   exact⟨_,_,rfl,k2⟩
theorem AYA {g:Gh} (hg:g.2.1.length=32) {d:List Int×Int} (hd:TS d):∃ o d',LG d g=some (o,d')/\TS d' :=by
 suffices hh:∃ b,LG d g=some b/\TS b.2 by
  obtain⟨b,h1,h2⟩:=hh;exact⟨b.1,b.2,h1,h2⟩
 unfold LG
 refine AO (fun k (st:Int×List Int)=>st.1=(k:Int)/\st.2.length<=k) _ 32 ?_ ?_ ⟨rfl,EY _⟩
 ·rintro k ⟨kk,u⟩ hk ⟨I0,hl⟩
  simp only at I0 hl
  subst I0
  left
  simp only[HX]
  rw[AA (by omega),AA (by omega),AE (e:=(k:Int)+1) (by omega) (by omega)]
  split
  ·rw[AA (by simp only[IC];omega)]
   exact⟨_,rfl,rfl,by simp only[JK,IC];omega⟩
  ·exact⟨_,rfl,rfl,by simp only;omega⟩
 ·rintro⟨kk,u⟩ ⟨I0,hl⟩
  simp only at I0 hl
  subst I0
  simp only
  rw[AD (by omega)]
  refine Y1 ?_
  obtain⟨r,d1,e1,r0,r1,k1⟩:=FW hd (n:=20) (by omega) (by omega)
  rw[e1,AZ,AA (by simp only[O0,VG];omega)]
  have nx:∀ {dd:List Int×Int},TS dd->∀ (n:Int),0<n->n<=300->∃ r d',AF dd n=some (r,d')/\0<=r/\r<n/\TS d' :=fun h n h0 h1=>FW h h0 (by omega)
  have tail:∀ (j1:Op),∃ x,(if j1.1=1 then
    Option.bind (AF d1 4) (fun r2=>
    Option.bind (AF r2.2 4) (fun r3=>
    if 0<=r3.1/\r3.1<(([3,3,8,17]:List Int).length:Int) then
    Option.bind (AF r3.2 (gl (0:Int) ([3,3,8,17]:List Int) r3.1.toNat)) (fun r4=>
    some (((j1.1,r2.1,r4.1,j1.2.2.2),r4.2)))
    else none))
    else Option.bind (α:=Bool ⊕ (Op×((List Int)×Int))) (if j1.1=2 then
    some (Sum.inl (decide (j1.1=2)))
    else some (Sum.inl (decide (j1.1=4)))) (fun q=>match q with
    |Sum.inl j2=>(if j2=true then
    Option.bind (BP u d1) (fun r5=>
    Option.bind (AF r5.2.2 3) (fun r6=>
    some (((j1.1,r5.1,r6.1,j1.2.2.2),r6.2))))
    else if j1.1=3 then
    Option.bind (BP u d1) (fun r7=>
    Option.bind (AF r7.2.2 3) (fun r8=>
    Option.bind (BP r7.2.1 r8.2) (fun r9=>
    some (((j1.1,r7.1,r8.1,r9.1),r9.2.2)))))
    else if j1.1=5 then
    Option.bind (BP u d1) (fun JJ=>
    Option.bind (AF JJ.2.2 3) (fun QR=>
    Option.bind (AF QR.2 256) (fun OF=>
    some (((j1.1,JJ.1,QR.1,OF.1),OF.2)))))
    else if j1.1=6 then
    Option.bind (BP u d1) (fun Q6=>
    Option.bind (BP Q6.2.1 Q6.2.2) (fun mN=>
    some (((j1.1,Q6.1,mN.1,j1.2.2.2),mN.2.2))))
    else if j1.1=7 then
    if j1.1=7 then
    Option.bind (BP u d1) (fun l4=>
    some (((j1.1,l4.1,j1.2.2),l4.2.2)))
    else some ((j1,d1))
    else if j1.1=9 then
    Option.bind (BP u d1) (fun uS=>
    some (((j1.1,uS.1,j1.2.2),uS.2.2)))
    else some ((j1,d1)))
    |Sum.inr b1=>some b1))=some x/\TS x.2:=by
   intro j1
   by_cases c1:j1.1=1
   ·rw[AA c1]
    obtain⟨a2,d2,e2,_,_,k2⟩:=nx k1 4 (by omega) (by omega)
    rw[e2,AZ]
    obtain⟨a3,d3,e3,a30,a31,k3⟩:=nx k2 4 (by omega) (by omega)
    rw[e3,AZ,AA (by simp only[O0,VG];omega)]
    have hq:3<=gl (0:Int) [3,3,8,17] a3.toNat/\gl (0:Int) [3,3,8,17] a3.toNat<=17:=by
     have:a3=0\/a3=1\/a3=2\/a3=3:=by omega
     rcases this with rfl|rfl|rfl|rfl <;> simp [gl]
    obtain⟨a4,d4,e4,_,_,k4⟩:=nx k3 (gl (0:Int) [3,3,8,17] a3.toNat) (by omega) (by omega)
    simp only
    rw[e4]
    exact⟨_,rfl,k4⟩
   rw[AD c1]
   have e0:(if j1.1=2 then
    (some (Sum.inl (decide (j1.1=2))):Option (Bool ⊕ (Op×((List Int)×Int))))
    else some (Sum.inl (decide (j1.1=4))))=some (Sum.inl (decide (j1.1=2\/j1.1=4))):=by
    by_cases c2:j1.1=2
    ·rw[AA c2,IV c2,IV (show j1.1=2\/j1.1=4 from .inl c2)]
    ·rw[AD c2]
     have:decide (j1.1=4)=decide (j1.1=2\/j1.1=4):=by rw[tI];omega
     rw[this]
   rw[e0,AZ]
   simp only
   obtain⟨a5,d5,e5,k5⟩:=AL4 (u:=u) (by omega) k1
   by_cases c2:j1.1=2\/j1.1=4
   ·rw[IV c2,AA rfl,e5,AZ]
    obtain⟨a6,d6,e6,_,_,k6⟩:=nx k5 3 (by omega) (by omega)
    simp only
    rw[e6]
    exact⟨_,rfl,k6⟩
   rw[NZ c2,AD (by decide),e5]
   simp only[AZ]
   obtain⟨a6,d6,e6,_,_,k6⟩:=nx k5 3 (by omega) (by omega)
   by_cases c3:j1.1=3
   ·obtain⟨a7,d7,e7,k7⟩:=AL4 (u:=u) (by omega) k6
    rw[AA c3,e6,AZ,e7]
    exact⟨_,rfl,k7⟩
   rw[AD c3]
   by_cases c5:j1.1=5
   ·obtain⟨a7,d7,e7,_,_,k7⟩:=nx k6 256 (by omega) (by omega)
    rw[AA c5,e6,AZ,e7]
    exact⟨_,rfl,k7⟩
   rw[AD c5]
   by_cases c6:j1.1=6
   ·obtain⟨a7,d7,e7,k7⟩:=AL4 (u:=u) (by omega) k5
    rw[AA c6,e7]
    exact⟨_,rfl,k7⟩
   rw[AD c6]
   by_cases c7:j1.1=7
   ·rw[AA c7,AA c7]
    exact⟨_,rfl,k5⟩
   rw[AD c7]
   by_cases c9:j1.1=9
   ·rw[AA c9]
    exact⟨_,rfl,k5⟩
   rw[AD c9]
   exact⟨_,rfl,k1⟩
  split
  ·split
   ·rw[AZ];exact tail _
   ·rw[AZ];exact tail _
  ·rw[AZ];exact tail _
inductive Hst (h0:Hs) (g0:Gh):Nat->Hs->Gh->Prop
 |z:Hst h0 g0 0 h0 g0
 |s {m:Nat} {h:Hs} {g:Gh} {o:Op} {h' :Hs} {an:An} {g' :Gh} {an' :An} (a:Hst h0 g0 m h g) (d:DoR h o h' an) (e:an.1≠18) (gd:tE g o g' an'):Hst h0 g0 (m+1) h' g'
abbrev A58:Gh:=([],List.replicate 32 false,List.replicate 32 (-1))
theorem Hst.ok {h0:Hs} {g0:Gh} (v:HV 0 h0) (w:GV 0 g0) {m:Nat} {h:Hs} {g:Gh} (a:Hst h0 g0 m h g):HV (257*m) h/\GV m g/\h.1=h0.1/\h.2.2.2.2.2.2.2.2=h0.2.2.2.2.2.2.2.2/\h.2.1.1=h0.2.1.1/\h.2.1.2.2.length=h0.2.1.2.2.length:=by
 induction a with
 |z=>exact⟨v,w,rfl,rfl,rfl,rfl⟩
 |s a d e gd ih=>
  obtain⟨i1,i2,i3,i4,i5,i6⟩:=ih
  obtain⟨j1,j2,j3,j4,j5⟩:=d.hv i1
  exact⟨j1.mono (by omega),gd.gv i2,by rw[j3,i3],by rw[j2 e,i4],by rw[j4,i5],by rw[j5,i6]⟩
def Hp (c:Cf) (h:Hs) (g:Gh):Prop:=Good c/\∃ (s n:Int) (m:Nat),(3<=s/\s<=4)/\(6<=n/\n<=20)/\m<=56/\Hst (WM c s n) A58 m h g
theorem Hp.ok {c:Cf} {h:Hs} {g:Gh} (p:Hp c h g):HV 20000 h/\GV 56 g/\h.1=c/\h.2.2.2.2.2.2.2.2=false/\(3<=h.2.1.1/\h.2.1.1<=4)/\(6<=h.2.1.2.2.length/\h.2.1.2.2.length<=20):=by
 obtain⟨hc,s,n,m,hs,hn,hm,st⟩:=p
 obtain⟨g1,g2,g3,g4,g5,g6⟩:=st.ok (pJ hc (by omega) (by omega)) GV.new
 refine⟨g1.mono (by omega),⟨g2.ul,g2.rl,by have:=g2.nn;omega,g2.nd,g2.rt,g2.un⟩,g3,g4,by rw[g5];exact hs, ?_⟩
 rw[g6]
 simp only[XV]
 omega
theorem AQI {c:Cf} (hc:Good c) {d:List Int×Int} (hd:TS d):∃ h g d',HS d c=some (h,g,d')/\Hp c h g/\TS d' :=by
 suffices hh:∃ b,HS d c=some b/\Hp c b.1 b.2.1/\TS b.2.2 by
  obtain⟨b,h1,h2⟩:=hh;exact⟨b.1,b.2.1,b.2.2,h1,h2⟩
 unfold HS O8
 obtain⟨r1,d1,e1,a0,a1,k1⟩:=FW hd (n:=2) (by omega) (by omega)
 obtain⟨r2,d2,e2,b0,b1,k2⟩:=FW k1 (n:=15) (by omega) (by omega)
 rw[e1,AZ,e2,AZ,AZ]
 simp only
 rw[AE (e:=(3:Int)+r1) (by omega) (by omega),AE (e:=(6:Int)+r2) (by omega) (by omega),pK hc (by omega) (by omega),AZ,AY9,AZ]
 obtain⟨r3,d3,e3,c0,c1,k3⟩:=FW k2 (n:=50) (by omega) (by omega)
 rw[e3,AZ]
 simp only
 rw[AE (e:=(6:Int)+r3) (by omega) (by omega)]
 have hv0:=pJ hc (s:=3+r1) (n:=6+r2) (by omega) (by omega)
 refine AO (fun k (st:Int×(List Int×Int)×Hs×Gh)=>st.1=(6+r3)-(k:Int)/\TS st.2.1/\∃ m,m<=k/\Hst (WM c (3+r1) (6+r2)) A58 m st.2.2.1 st.2.2.2) _ (6+r3).toNat ?_ ?_ ⟨by simp,k3,0,EY _,.z⟩
 ·rintro k ⟨kk,dd,h,g⟩ hk ⟨I0,hdd,m,hm,st⟩
  simp only at I0 hdd st
  obtain⟨g1,g2,g3,g4, -⟩:=st.ok hv0 GV.new
  simp only
  rw[AA (by omega)]
  unfold K8
  rw[AZ]
  simp only
  by_cases cl:dd.2<(dd.1.length:Int)
  ·left
   obtain⟨o,d4,e4,k4⟩:=AYA g2.ul hdd
   obtain⟨h',an,e5,do5⟩:=A57 g1 (by omega) g4 o
   rw[IV cl,AA rfl,e4,AZ,e5,AZ]
   simp only
   rw[AE (e:=kk-1) (by omega) (by omega)]
   by_cases c18:an.1=18
   ·rw[AA c18]
    exact⟨_,rfl,by simp only;omega,k4,m,by omega,st⟩
   ·obtain⟨g',an',e6,do6⟩:=A2B g2 (by omega) o
    rw[AD c18,e6]
    exact⟨_,rfl,by simp only;omega,k4,m+1,by omega,.s st do5 c18 do6⟩
  ·right
   rw[NZ cl,AD (by decide)]
   exact⟨_,rfl,⟨hc,3+r1,6+r2,m,by omega,by omega,by omega,st⟩,hdd⟩
 ·rintro⟨kk,dd,h,g⟩ ⟨I0,hdd,m,hm,st⟩
  simp only at I0 hdd st
  simp only
  rw[AD (by omega)]
  exact⟨_,rfl,⟨hc,3+r1,6+r2,m,by omega,by omega,by omega,st⟩,hdd⟩
theorem vB {d:List Int×Int} (hd:TS d):∃ c h g d',FV d=some (h,g,d')/\Hp c h g/\TS d' :=by
 obtain⟨c,d1,e1,g1,k1⟩:=APU hd
 obtain⟨h,g,d2,e2,g2,k2⟩:=AQI g1 k1
 unfold FV
 rw[e1,AZ]
 simp only
 rw[e2]
 exact⟨c,h,g,d2,rfl,g2,k2⟩
def gF (g:Nat->Nat):Nat->Nat->Nat
 |0,_=>0
 |k+1,n=>g (n%256)+256*gF g k (n / 256)
def RU (m:Nat):Nat->Nat
 |0=>0
 |k+1=>m+256*RU m k
theorem rN (a b:Nat):a &&& b=((a%256) &&& (b%256))+256*((a / 256) &&& (b / 256)):=by
 have h1:=Nat.and_mod_two_pow (a:=a) (b:=b) (n:=8)
 have h2:=Nat.and_div_two_pow (a:=a) (b:=b) (n:=8)
 have h3:=Nat.mod_add_div (a &&& b) 256
 rw[show (256:Nat)=2 ^ 8 from rfl]
 rw[<-h1,←h2,←show (256:Nat)=2 ^ 8 from rfl]
 exact h3.symm
theorem AES {m:Nat} (hm:m<256):∀ (k n:Nat),n &&& RU m k=gF (fun b=>b &&& m) k n
 |0,n=>Nat.and_zero n
 |k+1,n=>by
  rw[rN,RU,gF,←AES hm k (n / 256)]
  rw[AF3,a9 hm,AF8 _ _ (by decide),kC hm,KK]
theorem AL5 {m s:Nat} (hm:m<256) (hs:∀ r,((r / s)%256) &&& m=((r%256) / s) &&& m):∀ (k n:Nat),(n / s) &&& RU m k=gF (fun b=>(b / s) &&& m) k n
 |0,n=>Nat.and_zero _
 |k+1,n=>by
  rw[rN,RU,gF,←AL5 hm hs k (n / 256)]
  rw[AF3,a9 hm,AF8 _ _ (by decide),kC hm,KK,hs,vO,vO,kG s 256]
theorem AET (f g:Nat->Nat):∀ (k n:Nat),gF f k n+gF g k n=gF (fun b=>f b+g b) k n
 |0,_=>rfl
 |k+1,n=>by
  rw[gF,gF,gF,←AET f g k (n / 256)];omega
theorem yS {f g:Nat->Nat} (hg:∀ b,b<256->g b<256):∀ (k n:Nat),gF f k (gF g k n)=gF (fun b=>f (g b)) k n
 |0,_=>rfl
 |k+1,n=>by
  have h:=hg (n%256) (SE _ (by decide))
  rw[gF,gF,gF,AF3,a9 h,AF8 _ _ (by decide),kC h,KK,yS hg k]
theorem AC8 {f g:Nat->Nat} (h:∀ b,b<256->f b=g b):∀ (k n:Nat),gF f k n=gF g k n
 |0,_=>rfl
 |k+1,n=>by
  rw[gF,gF,h _ (SE _ (by decide)),AC8 h k]
theorem AVG {f:Nat->Nat} (h:∀ b,b<256->f b<256):∀ (k n:Nat),gF f k n<256 ^ k
 |0,_=>by simp [gF]
 |k+1,n=>by
  have h1:=h (n%256) (SE _ (by decide))
  have h2:=AVG h k (n / 256)
  rw[gF,AFK];omega
def AYB:Nat->Nat->Prop
 |0,n=>n=0
 |k+1,n=>(n%256)%16<=4/\(n%256) / 16<=4/\AYB k (n / 256)
theorem AIS:∀ (k n:Nat),AYB k n->(n / 16+n) &&& RU 15 k=gF (fun b=>(b / 16+b)%16) k n
 |0,n,_=>Nat.and_zero _
 |k+1,n,h=>by
  obtain⟨h1,h2,h3⟩:=h
  have h4:(n / 256)%16<=4:=by
   cases k with
   |zero=>have:n / 256=0:=h3;omega
   |succ k=>have:=h3.1;omega
  have e1:(n / 16+n) / 256=(n / 256) / 16+n / 256:=by omega
  have e2:(n / 16+n)%256%16=((n%256) / 16+n%256)%16:=by omega
  have e3:∀ x:Nat,x &&& 15=x%16:=fun x=>AO6 x 4
  rw[rN,RU,gF,←AIS k (n / 256) h3]
  rw[AF3,AF8 _ _ (by decide),e1,show 15%256=15 from rfl,show 15 / 256=0 from rfl,KK,e3,e2]
theorem AO0 {f:Nat->Nat} (h:∀ b,b<256->f b<256/\(f b)%16<=4/\(f b) / 16<=4):∀ (k n:Nat),AYB k (gF f k n)
 |0,_=>rfl
 |k+1,n=>by
  obtain⟨h1,h2,h3⟩:=h (n%256) (SE _ (by decide))
  rw[gF,AYB,AF3,a9 h1,AF8 _ _ (by decide),kC h1,KK]
  exact⟨h2,h3,AO0 h k _⟩
def RW (n k:Nat):Nat:=((List.range k).filter fun i=>n.testBit i).length
theorem AVH (n k:Nat):RW n (8+k)=RW (n%256) 8+RW (n / 256) k:=by
 unfold RW
 rw[List.range_add,tH,JK]
 congr 1
 ·congr 1
  refine rR fun i hi=> ?_
  rw[show (256:Nat)=2 ^ 8 from rfl,Nat.testBit_mod_two_pow]
  simp [pV.1 hi]
 ·rw[List.filter_map,RG]
  congr 1
  refine rR fun i hi=> ?_
  simp only[ALN]
  rw[show (256:Nat)=2 ^ 8 from rfl,Nat.testBit_div_two_pow,AFJ]
def pcA (b:Nat):Nat:=((b / 2) &&& 85)+(b &&& 85)
def pcB (b:Nat):Nat:=((b / 4) &&& 51)+(b &&& 51)
def pcC (b:Nat):Nat:=(b / 16+b)%16
theorem pL:∀ b:Fin 256,pcA b.1<256/\pcB (pcA b.1)<256/\(pcB (pcA b.1))%16<=4/\(pcB (pcA b.1)) / 16<=4/\pcC (pcB (pcA b.1))=RW b.1 8/\RW b.1 8<=8:=by decide+kernel
theorem A2C:∀ r:Fin 512,((r.1 / 2)%256) &&& 85=((r.1%256) / 2) &&& 85:=by decide+kernel
theorem A2D:∀ r:Fin 1024,((r.1 / 4)%256) &&& 51=((r.1%256) / 4) &&& 51:=by decide+kernel
theorem A59 (r:Nat):((r / 2)%256) &&& 85=((r%256) / 2) &&& 85:=by
 have h:=A2C ⟨r%512,SE _ (by decide)⟩
 simp only at h
 rw[show (r%512 / 2)%256=(r / 2)%256 from by omega,show r%512%256=r%256 from by omega] at h
 exact h
theorem A5A (r:Nat):((r / 4)%256) &&& 51=((r%256) / 4) &&& 51:=by
 have h:=A2D ⟨r%1024,SE _ (by decide)⟩
 simp only at h
 rw[show (r%1024 / 4)%256=(r / 4)%256 from by omega,show r%1024%256=r%256 from by omega] at h
 exact h
theorem A5B (n:Nat):
  let y:=((n / 2) &&& RU 85 8)+(n &&& RU 85 8)
  let z:=((y / 4) &&& RU 51 8)+(y &&& RU 51 8)
  y=gF pcA 8 n/\z=gF (fun b=>pcB (pcA b)) 8 n/\(z / 16+z) &&& RU 15 8=gF (fun b=>RW b 8) 8 n:=by
 intro y z
 have hy:y=gF pcA 8 n:=by
  show ((n / 2) &&& RU 85 8)+(n &&& RU 85 8)=_
  rw[AL5 (by decide) A59,AES (by decide),AET];rfl
 have hz:z=gF (fun b=>pcB (pcA b)) 8 n:=by
  show ((y / 4) &&& RU 51 8)+(y &&& RU 51 8)=_
  rw[AL5 (by decide) A5A,AES (by decide),AET,hy]
  exact yS (f:=pcB) (fun b hb=>(pL ⟨b,hb⟩).1) 8 n
 refine⟨hy,hz, ?_⟩
 rw[hz,AIS 8 _ (AO0 (fun b hb=>⟨(pL ⟨b,hb⟩).2.1,(pL ⟨b,hb⟩).2.2.1,(pL ⟨b,hb⟩).2.2.2.1⟩) 8 n)]
 rw[yS (f:=fun b=>(b / 16+b)%16) (fun b hb=>(pL ⟨b,hb⟩).2.1) 8 n]
 exact AC8 (fun b hb=>(pL ⟨b,hb⟩).2.2.2.2.1) 8 n
theorem AYC (n:Nat):RW n 64=RW (n%256) 8+(RW (n / 256%256) 8+(RW (n / 256 / 256%256) 8+(RW (n / 256 / 256 / 256%256) 8+(RW (n / 256 / 256 / 256 / 256%256) 8+(RW (n / 256 / 256 / 256 / 256 / 256%256) 8+(RW (n / 256 / 256 / 256 / 256 / 256 / 256%256) 8+RW (n / 256 / 256 / 256 / 256 / 256 / 256 / 256%256) 8)))))):=by
 rw[show 64=8+(8+(8+(8+(8+(8+(8+(8+0))))))) from rfl]
 simp only[AVH]
 simp [RW]
def pT:List Nat->Nat
 | []=>0
 |d::r=>d+256*pT r
def AVI:List Nat->List Nat->List Nat
 | [],y=>y
 |x,[]=>x
 |a::x,b::y=>(a+b)::AVI x y
theorem vC:∀ (x y:List Nat),pT x+pT y=pT (AVI x y)
 | [],y=>by rw[AVI,pT,KK]
 |a::x,[]=>by simp [AVI,pT]
 |a::x,b::y=>by
  have:=vC x y
  rw[AVI,pT,pT,pT,←this];omega
theorem aH {d:Nat} {r:List Nat} (h:d<256):pT (d::r) / 256=pT r:=by
 rw[pT];omega
theorem AYD {d:Nat} {r:List Nat} (h:d<128):pT (d::r)%128=d:=by
 rw[pT];omega
theorem AVJ:∀ {l:List Nat},(∀ d∈l,d<256)->pT l<256 ^ l.length
 | [],_=>by simp [pT]
 |d::r,h=>by
  have h1:=h d (by simp)
  have h2:=AVJ (l:=r) fun x hx=>h x (UY _ hx)
  rw[pT,O0,AFK];omega
theorem AO1 {c:Nat} (hc:c<128):∀ {l:List Nat},(∀ d∈l,d<256)->pT (l++ [c])<256 ^ l.length*128
 | [],_=>by simp [pT];omega
 |d::r,h=>by
  have h1:=h d (by simp)
  have h2:=AO1 hc (l:=r) fun x hx=>h x (UY _ hx)
  rw[rU,pT,O0,AFK];omega
theorem AYE {p0 p1 p2 p3 p4 p5 p6 p7:Nat} (h0:p0<=8) (h1:p1<=8) (h2:p2<=8) (h3:p3<=8) (h4:p4<=8) (h5:p5<=8) (h6:p6<=8) (h7:p7<=8) {v s t:Nat} (hv:v=pT [p0,p1,p2,p3,p4,p5,p6,p7])
  (hs:s=v+v / 256) (ht:t=s+s / 65536):
  s<18446744073709551616/\t<18446744073709551616/\t+t / 4294967296<9223372036854775808/\(t+t / 4294967296)%128=p0+(p1+(p2+(p3+(p4+(p5+(p6+p7)))))):=by
 have es:s=pT [p0+p1,p1+p2,p2+p3,p3+p4,p4+p5,p5+p6,p6+p7,p7]:=by
  rw[hs,hv,aH (by omega),vC];rfl
 have e2:s / 65536=pT [p2+p3,p3+p4,p4+p5,p5+p6,p6+p7,p7]:=by
  rw[show 65536=256*256 from rfl,←vO,es,aH (by omega),aH (by omega)]
 have et:t=pT [p0+p1+(p2+p3),p1+p2+(p3+p4),p2+p3+(p4+p5),p3+p4+(p5+p6),p4+p5+(p6+p7),p5+p6+p7,p6+p7,p7]:=by
  rw[ht,e2,es,vC];rfl
 have e3:t / 4294967296=pT [p4+p5+(p6+p7),p5+p6+p7,p6+p7,p7]:=by
  rw[show 4294967296=256*256*256*256 from rfl,←vO,←vO,←vO,et,aH (by omega),aH (by omega),aH (by omega),aH (by omega)]
 have e4:t+t / 4294967296=pT [p0+p1+(p2+p3)+(p4+p5+(p6+p7)),p1+p2+(p3+p4)+(p5+p6+p7),p2+p3+(p4+p5)+(p6+p7),p3+p4+(p5+p6)+p7,p4+p5+(p6+p7),p5+p6+p7,p6+p7,p7]:=by
  rw[e3,et,vC];rfl
 have lt8:∀ {l:List Nat},l.length=8->(∀ d∈l,d<256)->pT l<18446744073709551616:=by
  intro l hl hd
  have:=AVJ hd
  rw[hl] at this;exact this
 refine⟨?_, ?_, ?_, ?_⟩
 ·rw[es]
  refine lt8 rfl fun d hd=> ?_
  simp only[GA,pU,cT] at hd
  rcases hd with rfl|rfl|rfl|rfl|rfl|rfl|rfl|rfl <;> omega
 ·rw[et]
  refine lt8 rfl fun d hd=> ?_
  simp only[GA,pU,cT] at hd
  rcases hd with rfl|rfl|rfl|rfl|rfl|rfl|rfl|rfl <;> omega
 ·rw[e4]
  refine Nat.lt_of_lt_of_eq (m:=256 ^ 7*128) (AO1 (c:=p7) (by omega) (l:=[p0+p1+(p2+p3)+(p4+p5+(p6+p7)),p1+p2+(p3+p4)+(p5+p6+p7),p2+p3+(p4+p5)+(p6+p7),p3+p4+(p5+p6)+p7,p4+p5+(p6+p7),p5+p6+p7,p6+p7]) fun d hd=> ?_) (by decide)
  simp only[GA,pU,cT] at hd
  rcases hd with rfl|rfl|rfl|rfl|rfl|rfl|rfl <;> omega
 ·rw[e4,AYD (by omega)];omega
theorem AO2 {f:Nat->Nat} {c:Nat} (h:∀ b,b<256->f b<=c):∀ (k n:Nat),gF f k n<=RU c k
 |0,_=>EY _
 |k+1,n=>by
  have h1:=h (n%256) (SE _ (by decide))
  have h2:=AO2 h k (n / 256)
  rw[gF,RU];omega
theorem U8 {α β:Type} {x y:β} {K:β->Option α} {r:Option α} (h:x=y) (hk:K y=r):qF x K=r:=by
 subst h;exact hk
theorem AIT {x m:BitVec 64} {n s d M:Nat} (hx:x.toNat=n) (hs:2 ^ s=d) (hm:m.toNat=M):(x >>> s) &&& m=BitVec.ofNat 64 ((n / d) &&& M):=by
 apply ACB
 have DO:=m.isLt
 rw[hm] at DO
 rw[vT,AF4,tF,hx,hm,AF2,hs,a9 (Nat.and_lt_two_pow _ DO)]
theorem bv_and {x m:BitVec 64} {n M:Nat} (hx:x.toNat=n) (hm:m.toNat=M):x &&& m=BitVec.ofNat 64 (n &&& M):=by
 apply ACB
 have DO:=m.isLt
 rw[hm] at DO
 rw[vT,tF,hx,hm,a9 (Nat.and_lt_two_pow _ DO)]
theorem bv_add {x y:BitVec 64} {a b:Nat} (hx:x.toNat=a) (hy:y.toNat=b) (h:a+b<18446744073709551616):(x+y).toNat=a+b:=by
 rw[BitVec.toNat_add,hx,hy,a9 h]
theorem V5 {a:Nat} (h:a<18446744073709551616):(BitVec.ofNat 64 a).toNat=a:=by
 rw[tF,a9 h]
theorem AO3 {x:BitVec 64} {n s d:Nat} (hx:x.toNat=n) (hs:2 ^ s=d):(x >>> s).toNat=n / d:=by
 rw[AF4,hx,AF2,hs]
theorem AQJ (w:BitVec 64):(AHJ w).length=RW w.toNat 64:=rfl
theorem A7K (w:BitVec 64):H2 w=some ((AHJ w).length:Int):=by
 have hn:=w.isLt
 rw[AQJ,AYC]
 obtain⟨l1,l2,l3⟩:=A5B w.toNat
 generalize hA1:(w.toNat / 2) &&& RU 85 8=A1 at l1 l2 l3
 generalize hA2:w.toNat &&& RU 85 8=A2 at l1 l2 l3
 have hYl:A1+A2<18446744073709551616:=by
  rw[l1];exact AVG (fun b hb=>(pL ⟨b,hb⟩).1) 8 _
 generalize hB1:((A1+A2) / 4) &&& RU 51 8=B1 at l2 l3
 generalize hB2:(A1+A2) &&& RU 51 8=B2 at l2 l3
 have hZ:B1+B2<=4919131752989213764:=by
  rw[l2]
  exact AO2 (c:=68) (fun b hb=>by have:=(pL ⟨b,hb⟩).2.2;simp only at this;omega) 8 _
 have hV:((B1+B2) / 16+(B1+B2)) &&& RU 15 8=pT [RW (w.toNat%256) 8,RW (w.toNat / 256%256) 8,RW (w.toNat / 256 / 256%256) 8,RW (w.toNat / 256 / 256 / 256%256) 8,RW (w.toNat / 256 / 256 / 256 / 256%256) 8,RW (w.toNat / 256 / 256 / 256 / 256 / 256%256) 8,RW (w.toNat / 256 / 256 / 256 / 256 / 256 / 256%256) 8,RW (w.toNat / 256 / 256 / 256 / 256 / 256 / 256 / 256%256) 8]:=by
  rw[l3];rfl
 have c8:∀ m,RW (m%256) 8<=8:=fun m=>(pL ⟨m%256,SE _ (by decide)⟩).2.2.2.2.2
 generalize hv:((B1+B2) / 16+(B1+B2)) &&& RU 15 8=V at hV
 obtain⟨f1,f2,f3,f4⟩:=AYE (c8 _) (c8 _) (c8 _) (c8 _) (c8 _) (c8 _) (c8 _) (c8 _) hV rfl rfl
 rw[<-f4]
 have hVl:V<18446744073709551616:=by omega
 generalize hs:V+V / 256=S at f1 f2 f3 f4
 generalize ht:S / 65536=T2 at f2 f3 f4
 clear l1 l2 l3 hV f4 c8
 have e15:RU 15 8=1085102592571150095:=by decide
 have e51:RU 51 8=3689348814741910323:=by decide
 have e85:RU 85 8=6148914691236517205:=by decide
 rw[e85] at hA1 hA2
 rw[e51] at hB1 hB2
 rw[e15] at hv
 unfold H2
 rw[AA trivial]
 refine U8 (AIT (n:=w.toNat) (d:=2) (M:=6148914691236517205) rfl (by decide) (by decide)) ?_
 rw[hA1]
 refine U8 (bv_and (n:=w.toNat) (M:=6148914691236517205) rfl (by decide)) ?_
 rw[hA2,AA trivial]
 have a12:=bv_add (V5 (a:=A1) (by omega)) (V5 (a:=A2) (by omega)) hYl
 refine U8 (AIT (n:=A1+A2) (d:=4) (M:=3689348814741910323) a12 (by decide) (by decide)) ?_
 rw[hB1]
 refine U8 (bv_and (n:=A1+A2) (M:=3689348814741910323) a12 (by decide)) ?_
 rw[hB2,AA trivial]
 have b12:=bv_add (V5 (a:=B1) (by omega)) (V5 (a:=B2) (by omega)) (by omega)
 have b16:=AO3 (s:=(4#64).toNat) b12 (show 2 ^ (4#64).toNat=16 by decide)
 refine U8 (y:=BitVec.ofNat 64 ((B1+B2) / 16+(B1+B2))) (ACB (by rw[bv_add b16 b12 (by omega),V5 (by omega)])) ?_
 refine U8 (bv_and (n:=(B1+B2) / 16+(B1+B2)) (M:=1085102592571150095) (V5 (by omega)) (by decide)) ?_
 rw[hv,AA trivial,AA trivial]
 have v0:=V5 hVl
 have v8:=AO3 (s:=(8#64).toNat) v0 (show 2 ^ (8#64).toNat=256 by decide)
 have vs:=bv_add v0 v8 (by omega)
 rw[hs] at vs
 refine U8 (y:=BitVec.ofNat 64 T2) (ACB (by rw[AO3 (s:=(16#64).toNat) vs (show 2 ^ (16#64).toNat=65536 by decide),ht,V5 (by omega)])) ?_
 refine U8 (y:=BitVec.ofNat 64 (S+T2)) (ACB (by rw[bv_add vs (V5 (by omega)) f2,V5 (by omega)])) ?_
 rw[AA trivial]
 have t0:=V5 f2
 have t32:=AO3 (s:=(32#64).toNat) t0 (show 2 ^ (32#64).toNat=4294967296 by decide)
 have tt:=bv_add t0 t32 (by omega)
 refine U8 (y:=((S+T2+(S+T2) / 4294967296:Nat):Int)) (by rw[tt,AE (by omega) (by omega)]) ?_
 have:=xX 7 (by decide) (a:=((S+T2+(S+T2) / 4294967296:Nat):Int)) (by omega) (by omega)
 rw[show ((2:Int) ^ 7-1)=127 from rfl,show ((2:Int) ^ 7)=128 from rfl] at this
 rw[this,show (128:Int)=((128:Nat):Int) from rfl,←Int.natCast_emod]
theorem AYF {s:Sp} (hn:s.2.2.length<=64):Z5 s=some ((s.2.2.length:Int)-(DX s.2.2).length):=by
 obtain⟨w,h1,h2⟩:=ATH (s:=s) (by omega)
 unfold Z5
 rw[h1,APM (by omega) h2]
 have:=APP w
 simp only[AZ]
 rw[A7K]
 simp only[AZ,RG]
 rw[AE (by omega) (by omega)]
theorem AO4 {c:Cf} (h:UZ c=0):Good c:=by
 unfold UZ at h
 by_cases h1:mG c.1
 rotate_left
 ·rw[AA h1] at h;omega
 rw[AD (H_ h1)] at h
 by_cases h2:1<=c.2.1.length/\c.2.1.length<=4
 rotate_left
 ·rw[AA h2] at h;omega
 rw[AD (H_ h2)] at h
 by_cases h3:fe c c.2.1.length 0=0
 rotate_left
 ·rw[AA h3] at h;exact absurd h h3
 rw[AD (H_ h3)] at h
 by_cases h4:∀ b:Int,1<=b->b<c.2.1.length->Aim c b
 rotate_left
 ·rw[AA h4] at h;omega
 rw[AD (H_ h4)] at h
 by_cases h5:Z8 c
 ·rw[AA h5] at h;omega
 refine⟨h1,h2,fun b b0 b1=> ?_,h4,h5⟩
 have h6:=AEA c _ _ h3 b b0 (by omega)
 unfold Z7 at h6
 by_cases h7:VV (ru c b).1
 rotate_left
 ·rw[AA h7] at h6;omega
 rw[AD (H_ h7)] at h6
 by_cases h8:FX (ru c b) b ((c.2.1.length:Int)-1)
 ·rw[AA h8] at h6;omega
 rw[AD h8] at h6
 by_cases h9:FY (ru c b) b ((c.2.1.length:Int)-1)
 ·rw[AA h9] at h6;omega
 exact⟨h7,h8,h9⟩
theorem AIU {c:Cf} (g:Good c):KI c=some (cmp c):=by
 have hn:=g.n
 unfold KI
 rw[g.check,AZ,AA rfl,AE (e:=(c.2.1.length:Int)-1) (by omega) (by omega),AA (by omega)]
 have hr:gl (0,0,0,0) c.2.1 ((c.2.1.length:Int)-1).toNat=ru c ((c.2.1.length:Int)-1):=rfl
 rw[hr]
 unfold cmp
 congr 1
 rw[tI]
 exact AII (g.ru _ (by omega) (by omega)).1
theorem AYG {c:Cf} (g:Good c) {b n:Int} (b0:0<=b) (b1:b<c.2.1.length) (n0:1<=n) (n1:n<=64):XA c b n=some (Y2 c b n,0):=by
 have hn:=g.n.2
 have hr:gl (0,0,0,0) c.2.1 b.toNat=ru c b:=rfl
 have hv:=(g.ru b b0 b1).1
 unfold XA Y2
 rw[g.check,AZ,AD (by simp),AD (by omega),AD (by omega),AD (by omega),AD (by omega),AA (by omega),hr]
 generalize (ru c b).1=x at hv
 rcases hv with rfl|⟨h0,h1⟩
 ·unfold OR
  rw[RT (by omega)]
  simp only[AZ]
  rw[AD (by decide),AD (by omega),AD (by omega),AA (by decide),AA trivial]
  rfl
 ·rw[AKT h0 h1 n0 n1,AD (by omega)]
  rfl
theorem yU {c:Cf} {v:Bool} (hr:KI c=some v) {s:Sp} {q:Rows} (h:Qq s q) {i:AH} {n:Int} (w0:0<=i.2.2.2.2) (w1:i.2.2.2.2<=16384) (n0:1<=n) (n1:n<=48):
  DC c s q i n=some (decide (pR v s q i n)):=by
 suffices hh:∃ b,DC c s q i n=some b/\(b=true↔GrF v s.2.2.length (used s) (lrg (sz s.1) q.flatten) (QN s i n) (cl (sz s.1) i.2.2.2.2)) by
  obtain⟨b,h1,h2⟩:=hh
  rw[h1]
  congr 1
  by_cases hG:pR v s q i n
  ·rw[IV hG];exact h2.2 hG
  ·rw[NZ hG]
   cases b with
   |true=>exact absurd (h2.1 rfl) hG
   |false=>rfl
 have hn:=h.vs.n.2
 obtain⟨z1,z2⟩:=LF h.vs.sh
 have c1:=QM z1 (show 0<=i.2.2.2.2+n by omega)
 have c2:=QM z1 w0
 have c3:=AN9 (z:=sz s.1) (by omega) (show i.2.2.2.2<=i.2.2.2.2+n by omega)
 obtain⟨l0,l1⟩:=h.lrg
 have u0:=AED s
 have tP:(DX s.2.2).length<=s.2.2.length:=VD s.2.2 (-1)
 have hu:(s.2.2.length:Int)-(DX s.2.2).length=used s:=rfl
 have h1:q.length<=1000000:=by have:=h.len;omega
 have h2:∀ x∈q,x.length<=1000000:=fun x hx=>by have:=h.AY1 x hx;omega
 have h3:∀ i∈q.flatten,0<=i.2.2.2.2/\i.2.2.2.2<=1000000:=fun i hi=>by have:=h.w i hi;omega
 unfold DC
 rw[APR h.vs w0 w1 (by omega) (by omega),AZ]
 have hk:cl (sz s.1) (i.2.2.2.2+n)-cl (sz s.1) i.2.2.2.2=QN s i n:=rfl
 rw[hk]
 have hk0:0<=QN s i n:=by omega
 have hk1:QN s i n<=20000:=by omega
 generalize QN s i n=k at hk hk0 hk1 ⊢
 by_cases e:k=0
 ·rw[AA e];exact⟨_,rfl,aL rfl (.inl e)⟩
 rw[AD e,AYF hn,hr,AHR h.vs h1 h2 h3,Z6 h.vs w0 (by omega)]
 simp only[AZ]
 rw[hu]
 have hub:used s<=64:=by omega
 generalize used s=u at hu u0 hub ⊢
 generalize Go.Proofs.YthmiilamegpllaaGreat.lrg (sz s.1) q.flatten=L at l0 l1 ⊢
 generalize hF:cl (sz s.1) i.2.2.2.2=f at c2 ⊢
 rw[AE (e:=u+k) (by omega) (by omega),AE (e:=(s.2.2.length:Int)-(u+k)) (by omega) (by omega),AE (e:=f+k) (by omega) (by omega)]
 generalize (s.2.2.length:Int)=F at hu hn ⊢
 unfold GrF
 cases v with
 |true=>
  rw[AA rfl]
  refine⟨_,rfl, ?_⟩
  rw[NO]
  constructor
  ·intro h;exact .inr (.inl ⟨rfl,by omega⟩)
  ·rintro (h|⟨_,h⟩|⟨h,_⟩)
   ·exact absurd h e
   ·omega
   ·cases h
 |false=>
  rw[AD (show ¬false=true by decide)]
  by_cases g0:F-(u+k)≥0
  ·rw[AA g0]
   refine⟨_,rfl, ?_⟩
   rw[NO]
   constructor
   ·intro h;refine .inr (.inr ⟨rfl, ?_, ?_⟩) <;> split at h <;> omega
   ·rintro (h|⟨h,_⟩|⟨_,h1,h2⟩)
    ·exact absurd h e
    ·cases h
    ·split <;> omega
  ·rw[AD g0]
   refine⟨_,rfl,aK (by decide) ?_⟩
   rintro (h|⟨h,_⟩|⟨_,h1,h2⟩)
   ·exact absurd h e
   ·cases h
   ·omega
def yV (c:Cf) (s:Sp) (q:Rows) (n k:Int):Prop:=Good c/\BV s q/\q.length=c.2.1.length/\(0<=n/\n<=4294967295)/\(1<=k/\k<=48)/\∀ i∈q.flatten,i.1<n
theorem BV.qq {s:Sp} {q:Rows} (h:BV s q):Qq s q:=by
 have hc:=count_le h.vs h.ok.fit h.ok.nodup
 have pQ:=VS.PO h.vs
 refine⟨h.vs,by have:=h.n;omega,fun x hx=>by have:=pD hc x hx;omega,fun i hi=> ?_⟩
 have:=(h.ok.fit i hi).1.1
 omega
theorem AYH {q:Rows} (hq:q.length<=1000000) (hx:q.flatten.length<=1000000):Z2 q=some q.flatten:=by
 unfold Z2
 refine (AO (fun k (st:List AH×Int)=>st=((q.take k).flatten,(k:Int))) (fun b=>b=q.flatten) q.length ?_ ?_ (s:=([],0)) (by simp)).elim fun b hb=>by rw[hb.1,hb.2]
 ·rintro k st hk rfl
  left
  have hs:=HF q k hk
  have hl:(q.take k).flatten.length+(gl [] q k).length<=q.flatten.length:=by
   rw[hs,JK,JK];omega
  simp only[HX]
  rw[AA (by omega),AA (by omega),AA (by omega),AE (by omega) (by omega)]
  refine⟨_,rfl, ?_⟩
  rw[FZ (d:=[]) q k hk,ALL]
  simp
 ·rintro st rfl
  simp only
  rw[AD (by omega),SD]
  exact⟨_,rfl,rfl⟩
structure Ca (c:Cf):Prop where
 n:c.2.1.length<=1000
 sz:c.1.size<=1000000
 sh:Sh c
theorem yW {c:Cf} (ca:Ca c) {s:Sp} (hI:StI s) {q:Rows} (hq:q.length<=1000000) (QQ:∀ x∈q,x.length<=9223372036854775807) (n k:Int):
  (yV c s q n k/\C0 c s q n k=some ((F3 c s q n k).1,(F3 c s q n k).2,0))\/(¬yV c s q n k/\C0 c s q n k=some (0,(0,0,0,0,0),1)):=by
 unfold C0
 rw[yI ca.n ca.sh,AZ]
 by_cases c1:UZ c=0
 rotate_left
 ·rw[AA c1];exact .inr ⟨fun h=>c1 h.1.UZ,rfl⟩
 have g:=AO4 c1
 rw[AD (H_ c1)]
 obtain⟨b,WU,uJ⟩:=AQ0 hI (q:=q) QQ
 rw[WU,AZ]
 by_cases c2:BV s q
 rotate_left
 ·have:b=false:=by
   cases b with
   |true=>exact absurd (uJ.1 rfl) c2
   |false=>rfl
  rw[AA (by rw[this];decide)];exact .inr ⟨fun h=>c2 h.2.1,rfl⟩
 have hbt:=uJ.2 c2
 have hx:q.flatten.length<=1000000:=by
  have:=count_le c2.vs c2.ok.fit c2.ok.nodup
  omega
 rw[AD (by rw[hbt];decide)]
 by_cases c3:(q.length:Int)=(c.2.1.length:Int)
 rotate_left
 ·rw[AA c3];exact .inr ⟨fun h=>c3 (by have:=h.2.2.1;omega),rfl⟩
 rw[AD (H_ c3)]
 by_cases c4:n<0
 ·rw[AA c4];exact .inr ⟨fun h=>by have:=h.2.2.2.1;omega,rfl⟩
 rw[AD c4]
 by_cases c5:n>4294967295
 ·rw[AA c5];exact .inr ⟨fun h=>by have:=h.2.2.2.1;omega,rfl⟩
 rw[AD c5]
 by_cases c6:k<1
 ·rw[AA c6];exact .inr ⟨fun h=>by have:=h.2.2.2.2.1;omega,rfl⟩
 rw[AD c6]
 by_cases c7:k>48
 ·rw[AA c7];exact .inr ⟨fun h=>by have:=h.2.2.2.2.1;omega,rfl⟩
 rw[AD c7,AYH hq hx,AZ]
 suffices hh:∃ x,AI (σ:=Int) (β:=Int×AH×Int) _ 0=some x/\((yV c s q n k/\x=((F3 c s q n k).1,(F3 c s q n k).2,0))\/(¬yV c s q n k/\x=(0,(0,0,0,0,0),1))) by
  obtain⟨x,h1,h2⟩:=hh
  rcases h2 with ⟨h2,rfl⟩|⟨h2,rfl⟩
  ·exact .inl ⟨h2,h1⟩
  ·exact .inr ⟨h2,h1⟩
 refine AO (fun m (st:Int)=>st=(m:Int)/\∀ j:Nat,j<m->(gl ((0,0,0,0,0):AH) q.flatten j).1<n) _ q.flatten.length ?_ ?_ (s:=0) ⟨rfl,fun j hj=>by omega⟩
 ·rintro m st hm ⟨rfl,hj⟩
  rw[AA (by omega),AA (by omega)]
  simp only[HX]
  by_cases c8:(gl ((0,0,0,0,0):AH) q.flatten m).1≥n
  ·rw[AA c8]
   refine .inr ⟨_,rfl,.inr ⟨fun h=> ?_,rfl⟩⟩
   have:=h.2.2.2.2.2 _ (BN (d:=((0,0,0,0,0):AH)) hm);omega
  ·rw[AD c8,AE (by omega) (by omega)]
   refine .inl ⟨_,rfl,rfl,fun j bH => ?_⟩
   by_cases hjm:j=m
   ·subst hjm;omega
   ·exact hj j (by omega)
 ·rintro st ⟨rfl,hj⟩
  rw[AD (by omega)]
  have QV:yV c s q n k:=⟨g,c2,by omega,by omega,by omega,fun i hi=>by
   obtain⟨j,bH,rfl⟩:=HD (d:=((0,0,0,0,0):AH)) hi
   exact hj j bH⟩
  refine Y1 ⟨_, ?_,.inl ⟨QV,rfl⟩⟩
  have h:=c2.qq
  have hn:=h.vs.n
  have hg:=g.n
  have hx6:∀ x∈q,x.length<=1000000:=fun x hx=>by have:=h.AY1 x hx;omega
  have bF:=u_ g (b:=0) (n:=s.2.2.length) (by omega) (by omega) (by omega) (by omega)
  unfold F3
  rw[AYG g (b:=0) (n:=s.2.2.length) (by omega) (by omega) (by omega) (by omega),AZ]
  simp only[show (0:Int).toNat=0 from rfl]
  rw[AD (H_ trivial),show NH q 0=_ from AEF hx6 (b:=0) (by omega),AZ]
  have hr:gl (0,0,0,0) c.2.1 0=ru c 0:=rfl
  rw[hr]
  have DZ:Option.bind (DC c s q (n,0, -1, -1,0) k) (fun r5=>if r5=true then some ((2,(n,0, -1, -1,0),0):Int×AH×Int) else some ((3,(0,0,0,0,0),0):Int×AH×Int))=some ((if pR (cmp c) s q (n,0, -1, -1,0) k then (2,(n,0, -1, -1,0)) else ((3,(0,0,0,0,0)):Int×AH)).1,(if pR (cmp c) s q (n,0, -1, -1,0) k then (2,(n,0, -1, -1,0)) else ((3,(0,0,0,0,0)):Int×AH)).2,0):=by
   rw[yU (AIU g) h (i:=(n,0, -1, -1,0)) (by simp) (by simp) (by omega) (by omega),AZ]
   by_cases hG:pR (cmp c) s q (n,0, -1, -1,0) k
   ·rw[IV hG,AA hG];rfl
   ·rw[NZ hG,AD hG];rfl
  have AIJ:(if 0<=(0:Int)/\(0:Int)<(c.2.1.length:Int) then
    if ¬(ru c 0).2.1=0 then
    if 0<=(0:Int)/\(0:Int)<(q.length:Int) then
    if 0<=(0:Int)/\(0:Int)<(c.2.1.length:Int) then
    if ((gl ([]:List AH) q 0).length:Int)≥(ru c 0).2.1 then
    some ((3,(0,0,0,0,0),0):Int×AH×Int)
    else Option.bind (DC c s q (n,0,(-1),(-1),0) k) (fun r5=>
    if r5=true then
    some ((2,(n,0,(-1),(-1),0),0):Int×AH×Int)
    else some ((3,(0,0,0,0,0),0)))
    else none
    else none
    else Option.bind (DC c s q (n,0,(-1),(-1),0) k) (fun r6=>
    if r6=true then
    some ((2,(n,0,(-1),(-1),0),0):Int×AH×Int)
    else some ((3,(0,0,0,0,0),0)))
    else none)=some ((if (ru c 0).2.1≠0/\(ru c 0).2.1<=(gl [] q 0).length then (3,(0,0,0,0,0))
    else if pR (cmp c) s q (n,0, -1, -1,0) k then (2,(n,0, -1, -1,0)) else ((3,(0,0,0,0,0)):Int×AH)).1,(if (ru c 0).2.1≠0/\(ru c 0).2.1<=(gl [] q 0).length then (3,(0,0,0,0,0))
    else if pR (cmp c) s q (n,0, -1, -1,0) k then (2,(n,0, -1, -1,0)) else ((3,(0,0,0,0,0)):Int×AH)).2,0):=by
   rw[AA (by omega),DZ]
   by_cases c1:(ru c 0).2.1=0
   ·have e:¬((ru c 0).2.1≠0/\(ru c 0).2.1<=(gl [] q 0).length):=fun h=>h.1 c1
    rw[AD (H_ c1),AD e]
   ·rw[AA c1,AA (by omega),AA (by omega)]
    by_cases c2:((gl ([]:List AH) q 0).length:Int)≥(ru c 0).2.1
    ·rw[AA c2,AA ⟨c1,c2⟩]
    ·have e:¬((ru c 0).2.1≠0/\(ru c 0).2.1<=(gl [] q 0).length):=fun h=>c2 h.2
     rw[AD c2,AD e]
  by_cases h0:gl [] q 0=[]
  ·have EP:¬opn c s q:=fun hh=>hh.1 h0
   have e1:(if gl ([]:List AH) q 0=[] then (((0,0,0,0,0):AH),false) else (gl ((0,0,0,0,0):AH) (gl [] q 0) ((gl [] q 0).length-1),true))=(((0,0,0,0,0):AH),false):=AA h0
   rw[e1,AD (show ¬((((0,0,0,0,0):AH),false):AH×Bool).2=true by decide),AD EP]
   exact AIJ
  ·have e1:(if gl ([]:List AH) q 0=[] then (((0,0,0,0,0):AH),false) else (gl ((0,0,0,0,0):AH) (gl [] q 0) ((gl [] q 0).length-1),true))=(pS q,true):=AD h0
   have hlp:=mQ.2 h0
   have hy:pS q∈q.flatten:=mU.2 ⟨gl [] q 0,BN (by omega),BN (by omega)⟩
   have hyw:=h.w _ hy
   rw[e1,AA rfl,AU5 h.vs.sh _ bF.1 (by omega),AZ]
   by_cases c1:Y2 c 0 s.2.2.length=0\/(pS q).2.2.2.2<Y2 c 0 s.2.2.length*sz s.1
   ·have EP:opn c s q:=⟨h0,c1⟩
    rw[IV c1,AA rfl,AA EP,yU (AIU g) h (i:=pS q) hyw.1 hyw.2 (by omega) (by omega),AZ]
    by_cases hG:pR (cmp c) s q (pS q) k
    ·rw[IV hG,AA hG];rfl
    ·rw[NZ hG,AD hG];rfl
   ·have EP:¬opn c s q:=fun hh=>c1 hh.2
    rw[NZ c1,AD (by decide),AD EP]
    exact AIJ
theorem Good.ca {c:Cf} (g:Good c):Ca c:=⟨by have:=g.n;omega,by have:=g.nm.2.1;omega,g.sh⟩
theorem rO {N:Int} {h:Hs} (v:HV N h) (hN:N<=4294967295) {c:Cf} (g:Good c) (hc:h.2.2.1.length=c.2.1.length) {k:Int} (k0:1<=k) (k1:k<=48):C0 c h.2.1 h.2.2.1 h.2.2.2.1 k=some ((F3 c h.2.1 h.2.2.1 h.2.2.2.1 k).1,(F3 c h.2.1 h.2.2.1 h.2.2.2.1 k).2,0):=by
 obtain⟨l1,l2,l3⟩:=v.hi.hb.lens
 have hn0:=v.hi.n0
 have hn1:=v.n1
 rcases yW g.ca v.vs.stI (q:=h.2.2.1) (by omega) (fun x hx=>by have:=l3 x hx;omega) h.2.2.2.1 k with ⟨_,h1⟩|⟨h1,_⟩
 ·exact h1
 ·exact absurd ⟨g,v.hi.hb.bv,hc,by omega,⟨k0,k1⟩,v.hi.seq⟩ h1
end Go.Proofs.YthmiilamegpllaaGreat
