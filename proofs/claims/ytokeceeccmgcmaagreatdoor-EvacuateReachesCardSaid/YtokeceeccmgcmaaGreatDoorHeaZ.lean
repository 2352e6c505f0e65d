import Derived.Test.YtokeceeccmgcmaaGreatDoorHeaE
import Derived.Test.YtokeceeccmgcmaaGreatDoorRows
import Derived.Test.YtokeceeccmgcmaaGreatDoorTie
import Derived.Test.YtokeceeccmgcmaaGreatDoorCards
import Derived.SevenTiedAt
set_option linter.unusedVariables false
set_option linter.unusedSimpArgs false
namespace Go.Proofs.YtokeceeccmgcmaaGreatDoor
open Go Go.V3
variable {g:Gh} {M:Nat}
theorem AVI (v:GV M g) (hM:M<=1000):K4 g=some g:=by
 have hul:=v.ul
 have hrl:=v.rl
 have hnn:=v.nn
 unfold K4 zaC
 rw[AA (by simp only[SK];omega),AA (by simp only[SK];omega)]
 refine (AK (fun k (st:Int×Gh)=>st=((k:Int),(g.1.take k,g.2.1,g.2.2))) (fun b=>b=g) g.1.length ?_ ?_ (s:=(0,([],([]:List Bool)++g.2.1,([]:List Int)++g.2.2))) (by simp)).elim fun b hb=>by rw[hb.1,hb.2]
 ·rintro k st hk rfl
  left
  have hv:=v.nd k (by omega) (by omega)
  have e1:gl (([],[]):Nd) g.1 k=nd g (k:Int):=rfl
  simp only[HM]
  rw[ab,ab,e1,AA (by simp only[SK];omega),AA (by simp only[SK];omega),AA (by simp only[jM,Q5];omega),ah (e:=(k:Int)+1)]
  refine⟨_,rfl, ?_⟩
  rw[IY (d:=(([],[]):Nd)) g.1 k hk,e1]
  rfl
 ·rintro st rfl
  simp only
  rw[af,VD]
  exact⟨_,rfl,rfl⟩
theorem bI (v:GV M g) (x:Int) (need:Bool):DE g x need=some (N3 g.2.1 x need):=by
 have h1:=v.ul
 unfold DE zae zaG N3
 by_cases c0:x=0
 ·simp only[AA c0]
  cases need <;> rfl
 simp only[AE c0]
 by_cases c1:x<0
 ·rw[AA c1,AA (.inl c1)]
 by_cases c2:x>32
 ·rw[AE c1,AA c2,AA (.inr (.inl c2))]
 rw[AE c1,AE c2,ah (e:=x-1),ab]
 cases hu:gl false g.2.1 (x-1).toNat with
 |true=>rw[AE (by decide),AE (fun hh=>by rcases hh with hh|hh|hh;omega;omega;cases hh)]
 |false=>rw[AA (by decide),AA (.inr (.inr rfl))]
def ER (g:Gh) (x:Int):Int:=if x=0 then -1 else gl 0 g.2.2 (x-1).toNat
theorem qY (v:GV M g) {x:Int} (x0:0<=x) (x1:x<=32):CJ g x=some (ER g x):=by
 have h1:=v.rl
 unfold CJ zaG ER
 by_cases c0:x=0
 ·rw[AA c0,AA c0]
 ·rw[AE c0,AE c0,ah (e:=x-1),ab]
theorem AJ1 (v:GV M g):
  (∃ i:Nat,i<32/\gl false g.2.1 i=false/\(∀ j:Nat,j<i->gl false g.2.1 j=true)/\FO g=some ((i:Int)+1))\/(U_ g.2.1/\FO g=some 0):=by
 have h1:=v.ul
 unfold FO
 refine (AK (fun k (st:Int)=>st=(k:Int)/\∀ j:Nat,j<k->gl false g.2.1 j=true) (fun b=>(∃ i:Nat,i<32/\gl false g.2.1 i=false/\(∀ j:Nat,j<i->gl false g.2.1 j=true)/\b=(i:Int)+1)\/(U_ g.2.1/\b=0)) g.2.1.length ?_ ?_ (s:=0) ⟨rfl,fun j hj=>by omega⟩).elim fun b hb=>by
  rcases hb.2 with ⟨i,a1,a2,a3,a4⟩|⟨a1,a2⟩
  ·exact .inl ⟨i,a1,a2,a3,by rw[hb.1,a4]⟩
  ·exact .inr ⟨a1,by rw[hb.1,a2]⟩
 ·rintro k st hk ⟨rfl,hj⟩
  rw[ab,ab,ah]
  simp only[HM]
  by_cases hu:gl false g.2.1 k=true
  ·rw[AE (by rw[hu];decide)]
   refine .inl ⟨_,rfl,rfl,fun j bQ => ?_⟩
   by_cases WC:j=k
   ·rw[WC];exact hu
   ·exact hj j (by omega)
  ·have hu' :gl false g.2.1 k=false:=by simpa using hu
   rw[AA (by rw[hu'];decide)]
   exact .inr ⟨_,rfl,.inl ⟨k,by omega,hu',hj,rfl⟩⟩
 ·rintro st ⟨rfl,hj⟩
  rw[af]
  exact⟨_,rfl,.inr ⟨fun i hi=>hj i (by omega),rfl⟩⟩
inductive uX (g:Gh) (o:Op):Gh->An->Prop
 |bad (c:¬(1<=o.1/\o.1<=10)):uX g o g (20,0#64)
 |size (c:o.1=1) (hs:¬AB6 o.2.1 o.2.2.1):uX g o g (13,0#64)
 |AVF (c:o.1=1) (hs:AB6 o.2.1 o.2.2.1) (hf:U_ g.2.1):uX g o g (15,0#64)
 |all (c:o.1=1) (hs:AB6 o.2.1 o.2.2.1) (i:Nat) (hi:i<32) (hu:gl false g.2.1 i=false) (hj:∀ j:Nat,j<i->gl false g.2.1 j=true):
   uX g o (g.1++ [(List.replicate o.2.1.toNat (-1),List.replicate o.2.2.1.toNat 0#64)],g.2.1.set i true,g.2.2.set i (g.1.length:Int)) (0,BitVec.ofInt 64 ((i:Int)+1))
 |col (c:o.1=8):uX g o g (0,0#64)
 |sta (c:o.1=10) (l:List Int) (hl:l.Pairwise (·< ·)) (hm:∀ x,x∈l↔GRe g x):uX g o g (0,BitVec.ofInt 64 (AJ0 g l))
 |eqa (c:o.1=6) (e:N3 g.2.1 o.2.1 false≠0):uX g o g (N3 g.2.1 o.2.1 false,0#64)
 |eqb (c:o.1=6) (e:N3 g.2.1 o.2.1 false=0) (f:N3 g.2.1 o.2.2.1 false≠0):uX g o g (N3 g.2.1 o.2.2.1 false,0#64)
 |equ (c:o.1=6) (e:N3 g.2.1 o.2.1 false=0) (f:N3 g.2.1 o.2.2.1 false=0):uX g o g (0,if ER g o.2.1=ER g o.2.2.1 then 1#64 else 0#64)
 |dH (c:(2<=o.1/\o.1<=5)\/o.1=7\/o.1=9) (e:N3 g.2.1 o.2.1 true≠0):uX g o g (N3 g.2.1 o.2.1 true,0#64)
 |drp (c:o.1=7) (e:N3 g.2.1 o.2.1 true=0):uX g o (g.1,g.2.1.set (o.2.1-1).toNat false,g.2.2.set (o.2.1-1).toNat (-1)) (0,0#64)
 |shp (c:o.1=9) (e:N3 g.2.1 o.2.1 true=0):uX g o g (0,BitVec.ofInt 64 (256*((nd g (ER g o.2.1)).1.length:Int)+((nd g (ER g o.2.1)).2.length:Int)))
 |idx (c:2<=o.1/\o.1<=5) (e:N3 g.2.1 o.2.1 true=0) (hk:¬(0<=o.2.2.1/\o.2.2.1<(if o.1=2\/o.1=3 then ((nd g (ER g o.2.1)).1.length:Int) else ((nd g (ER g o.2.1)).2.length:Int)))):uX g o g (17,0#64)
 |rd (c:o.1=4) (e:N3 g.2.1 o.2.1 true=0) (k0:0<=o.2.2.1) (k1:o.2.2.1<(nd g (ER g o.2.1)).2.length):uX g o g (0,gl 0#64 (nd g (ER g o.2.1)).2 o.2.2.1.toNat)
 |rr0 (c:o.1=2) (e:N3 g.2.1 o.2.1 true=0) (k0:0<=o.2.2.1) (k1:o.2.2.1<(nd g (ER g o.2.1)).1.length) (hw:gl 0 (nd g (ER g o.2.1)).1 o.2.2.1.toNat= -1):uX g o g (0,0#64)
 |rrf (c:o.1=2) (e:N3 g.2.1 o.2.1 true=0) (k0:0<=o.2.2.1) (k1:o.2.2.1<(nd g (ER g o.2.1)).1.length) (hw:gl 0 (nd g (ER g o.2.1)).1 o.2.2.1.toNat≠-1) (hf:U_ g.2.1):uX g o g (15,0#64)
 |rr (c:o.1=2) (e:N3 g.2.1 o.2.1 true=0) (k0:0<=o.2.2.1) (k1:o.2.2.1<(nd g (ER g o.2.1)).1.length) (hw:gl 0 (nd g (ER g o.2.1)).1 o.2.2.1.toNat≠-1) (i:Nat) (hi:i<32) (hu:gl false g.2.1 i=false) (hj:∀ j:Nat,j<i->gl false g.2.1 j=true):
   uX g o (g.1,g.2.1.set i true,g.2.2.set i (gl 0 (nd g (ER g o.2.1)).1 o.2.2.1.toNat)) (0,BitVec.ofInt 64 ((i:Int)+1))
 |wrh (c:o.1=3) (e:N3 g.2.1 o.2.1 true=0) (k0:0<=o.2.2.1) (k1:o.2.2.1<(nd g (ER g o.2.1)).1.length) (hh:N3 g.2.1 o.2.2.2 false≠0):uX g o g (N3 g.2.1 o.2.2.2 false,0#64)
 |wr (c:o.1=3) (e:N3 g.2.1 o.2.1 true=0) (k0:0<=o.2.2.1) (k1:o.2.2.1<(nd g (ER g o.2.1)).1.length) (hh:N3 g.2.1 o.2.2.2 false=0):
   uX g o (g.1.set (ER g o.2.1).toNat ((nd g (ER g o.2.1)).1.set o.2.2.1.toNat (ER g o.2.2.2),(nd g (ER g o.2.1)).2),g.2) (0,0#64)
 |wd (c:o.1=5) (e:N3 g.2.1 o.2.1 true=0) (k0:0<=o.2.2.1) (k1:o.2.2.1<(nd g (ER g o.2.1)).2.length):
   uX g o (g.1.set (ER g o.2.1).toNat ((nd g (ER g o.2.1)).1,(nd g (ER g o.2.1)).2.set o.2.2.1.toNat (BitVec.ofInt 64 o.2.2.2)),g.2) (0,0#64)
theorem jI (v:GV M g) {x:Int} (hx:N3 g.2.1 x true=0):0<=ER g x/\ER g x<g.1.length:=by
 obtain⟨x0,x1,hu⟩:=h_ hx
 unfold ER
 rw[af]
 exact v.rt _ (by omega) hu
theorem bJ (v:GV M g) {x:Int} (hx:N3 g.2.1 x false=0):(-1<=ER g x/\ER g x<g.1.length)/\0<=x/\x<=32:=by
 rcases AOE hx with rfl|⟨x0,x1,hu⟩
 ·exact⟨by unfold ER;rw[AA rfl];omega,by omega,by omega⟩
 ·unfold ER
  rw[af]
  have:=v.rt _ (by omega:(x-1).toNat<32) hu
  omega
theorem A2N (v:GV M g) (hM:M<=1000) (o:Op):∃ g' an,N0 g o=some (g',an)/\uX g o g' an:=by
 have hul:=v.ul
 have hrl:=v.rl
 have hnn:=v.nn
 unfold N0 zx zy zaG zaq
 rw[AVI v hM,AW]
 by_cases c1:o.1=1
 ·rw[AA c1]
  by_cases h1:o.2.1<0
  ·rw[AA h1];exact⟨_,_,rfl,.size c1 fun hh=>by have:=hh.1.1;omega⟩
  by_cases h2:o.2.1>15
  ·rw[AE h1,AA h2];exact⟨_,_,rfl,.size c1 fun hh=>by have:=hh.1.2;omega⟩
  by_cases h3:o.2.2.1<0
  ·rw[AE h1,AE h2,AA h3];exact⟨_,_,rfl,.size c1 fun hh=>by have:=hh.2.1;omega⟩
  by_cases h4:o.2.2.1>32
  ·rw[AE h1,AE h2,AE h3,AA h4];exact⟨_,_,rfl,.size c1 fun hh=>by have:=hh.2.2;omega⟩
  have hs:AB6 o.2.1 o.2.2.1:=⟨by omega,by omega⟩
  rw[AE h1,AE h2,AE h3,AE h4]
  rcases AJ1 v with ⟨i,hi,hu,hj,hf⟩|⟨hf,n6⟩
  ·rw[hf,AW,af,ab]
   have key:=AK (β:=Unit ⊕ (Gh×An)) (f:=fun s1:Int×Nd=>
    if s1.1<o.2.1 then
    if (s1.2.1.length+([(-1)]:List Int).length)*8<=140737488355328 then
    some (Sum.inl ((AG (s1.1+1),(s1.2.1++([(-1)]:List Int),s1.2.2))))
    else none
    else Option.map Sum.inr (if (g.1.length+([s1.2]:List ((List Int)×(List (BitVec 64)))).length)*48<=140737488355328 then
    if 0<=(AG ((i:Int)+1-1))/\(AG ((i:Int)+1-1))<(g.2.1.length:Int) then
    if 0<=(AG ((i:Int)+1-1))/\(AG ((i:Int)+1-1))<(g.2.2.length:Int) then
    some (Sum.inr (((g.1++([s1.2]:List ((List Int)×(List (BitVec 64)))),g.2.1.set ((AG ((i:Int)+1-1)).toNat) true,g.2.2.set ((AG ((i:Int)+1-1)).toNat) (AG (((g.1++([s1.2]:List ((List Int)×(List (BitVec 64))))).length:Int)-1))),(0,BitVec.ofInt 64 ((i:Int)+1)))))
    else none
    else none
    else none))
    (fun k (st:Int×Nd)=>st=((k:Int),(List.replicate k (-1),List.replicate o.2.2.1.toNat 0#64)))
    (fun b=>b=Sum.inr ((g.1++ [(List.replicate o.2.1.toNat (-1),List.replicate o.2.2.1.toNat 0#64)],g.2.1.set i true,g.2.2.set i (g.1.length:Int)),(0,BitVec.ofInt 64 ((i:Int)+1)))) o.2.1.toNat ?_ ?_ (s:=(0,([],List.replicate o.2.2.1.toNat 0#64))) rfl
   ·obtain⟨b,hb,rfl⟩:=key
    rw[hb]
    exact⟨_,_,rfl,.all c1 hs i hi hu hj⟩
   ·rintro k st hk rfl
    left
    simp only
    rw[ab,AA (by simp only[V5,Q5];omega),ah (e:=(k:Int)+1)]
    refine⟨_,rfl, ?_⟩
    rw[List.replicate_succ'];rfl
   ·rintro st rfl
    simp only
    rw[af,AA (by simp only[Q5];omega),ah (e:=(i:Int)+1-1),ab,ab,AB (e:=_ - 1) (by simp only[PQ,Q5];omega) (by simp only[PQ,Q5];omega)]
    refine⟨_,rfl, ?_⟩
    simp only[PQ,Q5]
    rw[show ((i:Int)+1-1).toNat=i from by omega,show ((g.1.length+1:Nat):Int)-1=(g.1.length:Int) from by omega]
  ·rw[n6,AW,AA rfl]
   exact⟨_,_,rfl,.AVF c1 hs hf⟩
 rw[AE c1]
 by_cases c8:o.1=8
 ·rw[AA c8];exact⟨_,_,rfl,.col c8⟩
 rw[AE c8]
 by_cases c10:o.1=10
 ·obtain⟨l,h1,h2,h3⟩:=AVH v hM
  rw[AA c10,h1];exact⟨_,_,rfl,.sta c10 l h2 h3⟩
 rw[AE c10]
 by_cases c6:o.1=6
 ·rw[AA c6,bI v,AW]
  by_cases h1:N3 g.2.1 o.2.1 false=0
  rotate_left
  ·rw[AA h1];exact⟨_,_,rfl,.eqa c6 h1⟩
  rw[AE (DQ h1),bI v,AW]
  by_cases h2:N3 g.2.1 o.2.2.1 false=0
  rotate_left
  ·rw[AA h2];exact⟨_,_,rfl,.eqb c6 h1 h2⟩
  obtain⟨_,x0,x1⟩:=bJ v h1
  obtain⟨_,y0,y1⟩:=bJ v h2
  rw[AE (DQ h2),qY v x0 x1,AW,qY v y0 y1,AW]
  have:=uX.equ c6 h1 h2
  refine⟨_,_, ?_,this⟩
  by_cases h3:ER g o.2.1=ER g o.2.2.1
  ·rw[AA h3,AA h3];rfl
  ·rw[AE h3,AE h3];rfl
 rw[AE c6]
 have tail:∀ (hc:(2<=o.1/\o.1<=5)\/o.1=7\/o.1=9),∃ g' an,((DE g o.2.1 true).bind (fun nM=>
   if ¬nM=0 then
   (AY g nM).bind (fun r22=>
   some ((r22.1,r22.2)))
   else (CJ g o.2.1).bind (fun ZO=>
   if 0<=ZO/\ZO<(g.1.length:Int) then
   if o.1=7 then
   if 0<=(AG (o.2.1-1))/\(AG (o.2.1-1))<(g.2.1.length:Int) then
   if 0<=(AG (o.2.1-1))/\(AG (o.2.1-1))<(g.2.2.length:Int) then
   some (((g.1,g.2.1.set ((AG (o.2.1-1)).toNat) false,g.2.2.set ((AG (o.2.1-1)).toNat) (-1)),((0:Int),0#64)))
   else none
   else none
   else if o.1=9 then
   some ((g,(0,BitVec.ofInt 64 (AG ((AG ((256:Int)*(((gl (([],[]):((List Int)×(List (BitVec 64)))) g.1 ZO.toNat).1).length:Int)))+(((gl (([],[]):((List Int)×(List (BitVec 64)))) g.1 ZO.toNat).2).length:Int))))))
   else Option.bind (α:=Int ⊕ (Gh×An)) (if o.1=2 then
   some (Sum.inl ((((gl (([],[]):((List Int)×(List (BitVec 64)))) g.1 ZO.toNat).1).length:Int)))
   else if o.1=3 then
   some (Sum.inl ((((gl (([],[]):((List Int)×(List (BitVec 64)))) g.1 ZO.toNat).1).length:Int)))
   else some (Sum.inl ((((gl (([],[]):((List Int)×(List (BitVec 64)))) g.1 ZO.toNat).2).length:Int)))) (fun q=>match q with
   |Sum.inl j2=>(if o.2.2.1<0 then
   (AY g 17).bind (fun r24=>
   some ((r24.1,r24.2)))
   else if o.2.2.1≥j2 then
   (AY g 17).bind (fun r25=>
   some ((r25.1,r25.2)))
   else if o.1=4 then
   if 0<=o.2.2.1/\o.2.2.1<(((gl (([],[]):((List Int)×(List (BitVec 64)))) g.1 ZO.toNat).2).length:Int) then
   some ((g,(0,gl (0#64:(BitVec 64)) ((gl (([],[]):((List Int)×(List (BitVec 64)))) g.1 ZO.toNat).2) o.2.2.1.toNat)))
   else none
   else if o.1=5 then
   (CJ g o.2.1).bind (fun wB=>
   if 0<=wB/\wB<(g.1.length:Int) then
   if 0<=o.2.2.1/\o.2.2.1<(((gl (([],[]):((List Int)×(List (BitVec 64)))) g.1 wB.toNat).2).length:Int) then
   some (((g.1.set wB.toNat ((gl (([],[]):((List Int)×(List (BitVec 64)))) g.1 wB.toNat).1,(gl (([],[]):((List Int)×(List (BitVec 64)))) g.1 wB.toNat).2.set o.2.2.1.toNat (BitVec.ofInt 64 o.2.2.2)),g.2),(0,0#64)))
   else none
   else none)
   else if o.1=3 then
   (DE g o.2.2.2 false).bind (fun nN=>
   if ¬nN=0 then
   (AY g nN).bind (fun r28=>
   some ((r28.1,r28.2)))
   else (CJ g o.2.1).bind (fun r29=>
   if 0<=r29/\r29<(g.1.length:Int) then
   (CJ g o.2.2.2).bind (fun r30=>
   if 0<=o.2.2.1/\o.2.2.1<(((gl (([],[]):((List Int)×(List (BitVec 64)))) g.1 r29.toNat).1).length:Int) then
   some (((g.1.set r29.toNat ((gl (([],[]):((List Int)×(List (BitVec 64)))) g.1 r29.toNat).1.set o.2.2.1.toNat r30,(gl (([],[]):((List Int)×(List (BitVec 64)))) g.1 r29.toNat).2),g.2),(0,0#64)))
   else none)
   else none))
   else if 0<=o.2.2.1/\o.2.2.1<(((gl (([],[]):((List Int)×(List (BitVec 64)))) g.1 ZO.toNat).1).length:Int) then
   if (gl (0:Int) ((gl (([],[]):((List Int)×(List (BitVec 64)))) g.1 ZO.toNat).1) o.2.2.1.toNat)=(-1) then
   some ((g,(0,0#64)))
   else (FO g).bind (fun wC=>
   if wC=0 then
   (AY g 15).bind (fun r32=>
   some ((r32.1,r32.2)))
   else if 0<=(AG (wC-1))/\(AG (wC-1))<(g.2.1.length:Int) then
   if 0<=(AG (wC-1))/\(AG (wC-1))<(g.2.2.length:Int) then
   some (((g.1,g.2.1.set ((AG (wC-1)).toNat) true,g.2.2.set ((AG (wC-1)).toNat) (gl (0:Int) ((gl (([],[]):((List Int)×(List (BitVec 64)))) g.1 ZO.toNat).1) o.2.2.1.toNat)),(0,BitVec.ofInt 64 wC)))
   else none
   else none)
   else none)
   |Sum.inr b1=>some b1)
   else none)))=some (g',an)/\uX g o g' an:=by
  intro hc
  rw[bI v,AW]
  by_cases e:N3 g.2.1 o.2.1 true=0
  rotate_left
  ·rw[AA e];exact⟨_,_,rfl,.dH hc e⟩
  obtain⟨x0,x1,hu⟩:=h_ e
  have hr:=jI v e
  have HN:=v.nd _ hr.1 hr.2
  have e1:gl (([],[]):((List Int)×(List (BitVec 64)))) g.1 (ER g o.2.1).toNat=nd g (ER g o.2.1):=rfl
  rw[AE (DQ e),qY v (by omega) x1,AW,AA hr,e1]
  by_cases c7:o.1=7
  ·rw[AA c7,ah (e:=o.2.1-1),ab,ab]
   exact⟨_,_,rfl,.drp c7 e⟩
  rw[AE c7]
  by_cases c9:o.1=9
  ·rw[AA c9,ah (e:=(256:Int)*((nd g (ER g o.2.1)).1.length:Int)),ah]
   exact⟨_,_,rfl,.shp c9 e⟩
  rw[AE c9]
  have hc' :2<=o.1/\o.1<=5:=by omega
  have A7V:(if o.1=2 then
    (some (Sum.inl (((nd g (ER g o.2.1)).1.length:Int))):Option (Int ⊕ (Gh×An)))
    else if o.1=3 then
    some (Sum.inl (((nd g (ER g o.2.1)).1.length:Int)))
    else some (Sum.inl (((nd g (ER g o.2.1)).2.length:Int))))=some (Sum.inl (if o.1=2\/o.1=3 then ((nd g (ER g o.2.1)).1.length:Int) else ((nd g (ER g o.2.1)).2.length:Int))):=by
   by_cases d2:o.1=2
   ·rw[AA d2,AA (.inl d2)]
   by_cases d3:o.1=3
   ·rw[AE d2,AA d3,AA (.inr d3)]
   ·rw[AE d2,AE d3,af]
  rw[A7V,AW]
  simp only
  by_cases h1:o.2.2.1<0
  ·rw[AA h1];exact⟨_,_,rfl,.idx hc' e (by omega)⟩
  rw[AE h1]
  by_cases h2:o.2.2.1≥(if o.1=2\/o.1=3 then ((nd g (ER g o.2.1)).1.length:Int) else ((nd g (ER g o.2.1)).2.length:Int))
  ·rw[AA h2];exact⟨_,_,rfl,.idx hc' e (by omega)⟩
  rw[AE h2]
  by_cases d4:o.1=4
  ·rw[af] at h2
   rw[AA d4,ab]
   exact⟨_,_,rfl,.rd d4 e (by omega) (by omega)⟩
  rw[AE d4]
  by_cases d5:o.1=5
  ·rw[af] at h2
   rw[AA d5,AW,AA hr,e1,ab]
   exact⟨_,_,rfl,.wd d5 e (by omega) (by omega)⟩
  rw[AE d5]
  rw[ab] at h2
  by_cases d3:o.1=3
  ·rw[AA d3,bI v,AW]
   by_cases hh:N3 g.2.1 o.2.2.2 false=0
   rotate_left
   ·rw[AA hh];exact⟨_,_,rfl,.wrh d3 e (by omega) (by omega) hh⟩
   obtain⟨_,y0,y1⟩:=bJ v hh
   rw[AE (DQ hh),AW,AA hr,qY v y0 y1,AW,e1,ab]
   exact⟨_,_,rfl,.wr d3 e (by omega) (by omega) hh⟩
  have d2:o.1=2:=by omega
  rw[AE d3,ab]
  by_cases hw:gl 0 (nd g (ER g o.2.1)).1 o.2.2.1.toNat= -1
  ·rw[AA hw];exact⟨_,_,rfl,.rr0 d2 e (by omega) (by omega) hw⟩
  rw[AE hw]
  rcases AJ1 v with ⟨i,hi,hu,hj,hf⟩|⟨hf,n6⟩
  ·rw[hf,AW,af,ah (e:=(i:Int)+1-1),ab,ab,show ((i:Int)+1-1).toNat=i from by omega]
   exact⟨_,_,rfl,.rr d2 e (by omega) (by omega) hw i hi hu hj⟩
  ·rw[n6,AW,AA rfl]
   exact⟨_,_,rfl,.rrf d2 e (by omega) (by omega) hw hf⟩
 by_cases c7:o.1=7
 ·rw[AA c7,AA c7,AW];exact tail (by omega)
 rw[AE c7]
 by_cases c9:o.1=9
 ·rw[AA c9,AA c9,AW];exact tail (by omega)
 rw[AE c9]
 by_cases c2:o.1=2
 ·rw[AA c2,AA c2,AW];exact tail (by omega)
 rw[AE c2]
 by_cases c3:o.1=3
 ·rw[AA c3,AA c3,AW];exact tail (by omega)
 rw[AE c3]
 by_cases c4:o.1=4
 ·rw[AA c4,AA c4,AW];exact tail (by omega)
 rw[AE c4]
 by_cases c5:o.1=5
 ·rw[AA c5,AW];exact tail (by omega)
 rw[AE c5]
 exact⟨_,_,rfl,.bad (by omega)⟩
theorem uX.gv (v:GV M g) {o:Op} {g' :Gh} {an:An} (d:uX g o g' an):GV (M+1) g' :=by
 have hul:=v.ul
 have hrl:=v.rl
 have hnn:=v.nn
 have same:GV (M+1) g:=⟨v.ul,v.rl,by omega,v.nd,v.rt,v.un⟩
 have put:∀ {i:Nat} {x:Int},i<32->0<=x->x<g.1.length->GV (M+1) (g.1,g.2.1.set i true,g.2.2.set i x):=by
  intro i x hi x0 x1
  refine⟨by simp only[EG];exact hul,by simp only[EG];exact hrl,by simp only;omega,v.nd,fun j hj hu=> ?_,fun j hj hu=> ?_⟩
  ·simp only at hu ⊢
   rw[DS (by omega)] at hu ⊢
   split
   ·exact⟨x0,x1⟩
   ·rename_i hn;rw[AE hn] at hu;exact v.rt j hj hu
  ·simp only at hu ⊢
   rw[DS (by omega)] at hu ⊢
   split at hu
   ·cases hu
   ·rename_i hn;rw[AE hn];exact v.un j hj hu
 have A01:∀ {k:Int} {y:Nd},0<=k->k<g.1.length->(y.1.length<=15/\y.2.length<=32/\∀ j:Nat,j<y.1.length→-1<=gl 0 y.1 j/\gl 0 y.1 j<g.1.length)->GV (M+1) (g.1.set k.toNat y,g.2):=by
  intro k y k0 k1 hy
  refine⟨hul,hrl,by simp only[EG];omega,fun i i0 i1=> ?_,fun i hi hu=>by simp only[EG];exact v.rt i hi hu,v.un⟩
  simp only[EG] at i1
  have e:nd (g.1.set k.toNat y,g.2) i=if i=k then y else nd g i:=by
   unfold nd
   simp only
   rw[DS (by omega)]
   by_cases iO:i=k
   ·rw[AA iO,AA (by rw[iO])]
   ·rw[AE iO,af]
  rw[e]
  simp only[EG]
  split
  ·exact hy
  ·exact v.nd i i0 i1
 cases d with
 |bad c=>exact same
 |size c hs=>exact same
 |AVF c hs hf=>exact same
 |all c hs i hi hu hj=>
  refine⟨by simp only[EG];exact hul,by simp only[EG];exact hrl,by simp only[PQ,Q5];omega,fun k k0 k1=> ?_,fun j hj hu=> ?_,fun j hj hu=> ?_⟩
  ·simp only[PQ,Q5] at k1 ⊢
   by_cases hk:k=g.1.length
   ·have e:nd (g.1++ [(List.replicate o.2.1.toNat (-1),List.replicate o.2.2.1.toNat 0#64)],g.2.1.set i true,g.2.2.set i (g.1.length:Int)) k=(List.replicate o.2.1.toNat (-1),List.replicate o.2.2.1.toNat 0#64):=by
     unfold nd
     simp only
     rw[hk,DJ (by rw[PQ,Q5];omega),AD7 (by omega)]
     simp
    rw[e]
    simp only[V5]
    have:=hs.1
    have:=hs.2
    refine⟨by omega,by omega,fun j hj=> ?_⟩
    rw[NB hj];omega
   ·have e:nd (g.1++ [(List.replicate o.2.1.toNat (-1),List.replicate o.2.2.1.toNat 0#64)],g.2.1.set i true,g.2.2.set i (g.1.length:Int)) k=nd g k:=by
     unfold nd
     simp only
     rw[JM (by omega)]
    rw[e]
    have:=v.nd k k0 (by omega)
    exact⟨this.1,this.2.1,fun j hj=>by have:=this.2.2 j hj;omega⟩
  ·simp only[PQ,Q5] at hu ⊢
   rw[DS (by omega)] at hu ⊢
   split
   ·omega
   ·rename_i hn;rw[AE hn] at hu;have:=v.rt j hj hu;omega
  ·simp only at hu ⊢
   rw[DS (by omega)] at hu ⊢
   split at hu
   ·cases hu
   ·rename_i hn;rw[AE hn];exact v.un j hj hu
 |col c=>exact same
 |sta c l hl hm=>exact same
 |eqa c e=>exact same
 |eqb c e f=>exact same
 |equ c e f=>exact same
 |dH c e=>exact same
 |drp c e=>
  obtain⟨x0,x1,hu⟩:=h_ e
  refine⟨by simp only[EG];exact hul,by simp only[EG];exact hrl,by simp only;omega,v.nd,fun j hj hu=> ?_,fun j hj hu=> ?_⟩
  ·simp only at hu ⊢
   rw[DS (by omega)] at hu ⊢
   split at hu
   ·cases hu
   ·rename_i hn;rw[AE hn];exact v.rt j hj hu
  ·simp only at hu ⊢
   rw[DS (by omega)] at hu ⊢
   split
   ·rfl
   ·rename_i hn;rw[AE hn] at hu;exact v.un j hj hu
 |shp c e=>exact same
 |idx c e hk=>exact same
 |rd c e k0 k1=>exact same
 |rr0 c e k0 k1 hw=>exact same
 |rrf c e k0 k1 hw hf=>exact same
 |rr c e k0 k1 hw i hi hu hj=>
  have hr:=jI v e
  have:=(v.nd _ hr.1 hr.2).2.2 o.2.2.1.toNat (by omega)
  exact put hi (by omega) (by omega)
 |wrh c e k0 k1 hh=>exact same
 |wr c e k0 k1 hh=>
  have hr:=jI v e
  have hn:=v.nd _ hr.1 hr.2
  have hc:=(bJ v hh).1
  refine A01 hr.1 hr.2 ⟨by simp only[EG];exact hn.1,hn.2.1,fun j hj=> ?_⟩
  simp only[EG] at hj ⊢
  rw[DS (by omega)]
  split
  ·exact hc
  ·exact hn.2.2 j hj
 |wd c e k0 k1=>
  have hr:=jI v e
  have hn:=v.nd _ hr.1 hr.2
  exact A01 hr.1 hr.2 ⟨hn.1,by simp only[EG];exact hn.2.1,hn.2.2⟩
theorem AYG:MM=some (([],List.replicate 32 false,List.replicate 32 (-1)):Gh):=by
 unfold MM
 rw[ab,ab]
 refine (AK (fun k (st:Int×List Int)=>st=((k:Int),List.replicate k (-1)++List.replicate (32-k) 0)) (fun b=>b=(([],List.replicate 32 false,List.replicate 32 (-1)):Gh)) 32 ?_ ?_ (s:=(0,List.replicate (32:Int).toNat (0:Int))) rfl).elim fun b hb=>by rw[hb.1,hb.2]
 ·rintro k st hk rfl
  left
  simp only[V5,PQ,HM]
  rw[ab,ab,ah (e:=(k:Int)+1)]
  refine⟨_,rfl, ?_⟩
  rw[ARA _ _ (by rw[V5];exact EH _),V5,bL,show 32-k=(32-(k+1))+1 from by omega,List.replicate_succ,AM1,List.replicate_succ',I0]
  rfl
 ·rintro st rfl
  simp only[V5]
  rw[af]
  exact⟨_,rfl,rfl⟩
theorem GV.new:GV 0 (([],List.replicate 32 false,List.replicate 32 (-1)):Gh):=by
 refine⟨by simp,by simp,EH _,fun k k0 k1=>by simp at k1;omega,fun i hi hu=> ?_,fun i hi _=>NB hi⟩
 simp only at hu
 rw[NB hi] at hu
 cases hu
abbrev AYH (c:Cf) (s n:Int):Hs:=(c,(s,List.replicate (n*sz s).toNat 0#64,List.replicate n.toNat (-1, -1, -1)),List.replicate c.2.1.length [],0,[],(List.replicate 32 false,List.replicate 32 0#64),0,(0,0,0,0,0,0,0,0,0),false)
variable {n:Int}
theorem AOH {c:Cf} (g:Good c) {s:Int} (hs:3<=s/\s<=8) (hn:2<=n/\n<=64):HV 0 (AYH c s n):=by
 have hg:=g.n
 have uC:(List.replicate c.2.1.length ([]:List AI)).flatten=[]:=by simp
 have MO:∀ x:Int,0<=x->x<n->fr (List.replicate n.toNat ((-1, -1, -1):Fr)) x=(-1, -1, -1):=by
  intro x x0 x1
  unfold fr
  exact NB (by omega)
 have hN:OkN (List.replicate c.2.1.length ([]:List AI)):=by
  refine⟨fun k hk=> ?_,fun k hk i hi=> ?_,by rw[uC];exact dP⟩
  ·rw[V5] at hk
   rw[NB hk];exact List.Pairwise.nil
  ·rw[V5] at hk
   rw[NB hk] at hi;cases hi
 have XS:∀ {i:AI},i∉(List.replicate c.2.1.length ([]:List AI)).flatten:=by intro i hi;rw[uC] at hi;cases hi
 have Q8:∀ y,¬Slot (s,List.replicate (n*sz s).toNat 0#64,List.replicate n.toNat (-1, -1, -1)) (List.replicate c.2.1.length ([]:List AI)) y:=by
  rintro y ⟨i,hi,_⟩;exact XS hi
 refine⟨g, ?_,by simp,YT _⟩
 refine { hb:=⟨⟨VS.new hs hn,by simp only[V5];exact hg,GF.2 ⟨hN,fun i hi=>absurd hi XS⟩,fun x x0 x1 hx=> ?_⟩,fun i hi=>absurd hi XS⟩,seq:=fun i hi=>absurd hi XS,n0:=YT _,ref:=fun y hy=>absurd hy (Q8 y),ro:=⟨by simp,by simp,fun i hi _=>NB hi⟩,root:=fun i hi hu=> ?_,rv:=⟨List.Pairwise.nil,fun x hx=>by cases hx⟩,ins:=fun f g y hi=> ?_,rem:=fun y hy=>absurd hy (Q8 y) }
 ·simp only[V5] at x1
  simp only at hx
  rw[MO x x0 (by omega)] at hx
  exact absurd rfl hx
 ·simp only at hu
  rw[NB hi] at hu;cases hu
 ·obtain⟨x,hx,_⟩:=hi;cases hx
theorem AVJ {c:Cf} (g:Good c) {s:Int} (hs:3<=s/\s<=8) (hn:2<=n/\n<=64):MI c s n=some (AYH c s n,0):=by
 have hg:=g.n
 unfold MI
 rw[wL g,AW,AE (DQ rfl),ANL hs hn,AW]
 simp only
 rw[AE (DQ trivial),AA (by simp only[SK];omega),AA (by simp only[dR];omega)]
 unfold QO
 rw[ab,ab]
 rfl
variable {d:List Int×Int}
theorem ALG {u:List Int} (hu:u.length<=32) (hd:OR d):∃ r d',BR u d=some (r,u,d')/\OR d' :=by
 unfold BR
 by_cases c1:(u.length:Int)=0
 ·obtain⟨r,d1,e1,_,_,k1⟩:=ED hd (n:=35) (by omega) (by omega)
  rw[AA c1,e1]
  exact⟨_,_,rfl,k1⟩
 ·obtain⟨r,d1,e1,_,_,k1⟩:=ED hd (n:=12) (by omega) (by omega)
  rw[AE c1,e1,AW]
  by_cases c2:r=0
  ·obtain⟨r2,d2,e2,_,_,k2⟩:=ED k1 (n:=35) (by omega) (by omega)
   rw[AA c2,e2]
   exact⟨_,_,rfl,k2⟩
  ·obtain⟨r2,d2,e2,r0,r1,k2⟩:=ED k1 (n:=(u.length:Int)) (by omega) (by omega)
   rw[AE c2,e2,AW,AA ⟨r0,r1⟩]
   exact⟨_,_,rfl,k2⟩
theorem AYI (hg:g.2.1.length=32) (hd:OR d):∃ o d',LK d g=some (o,d')/\OR d' :=by
 suffices hh:∃ b,LK d g=some b/\OR b.2 by
  obtain⟨b,h1,h2⟩:=hh;exact⟨b.1,b.2,h1,h2⟩
 unfold LK
 refine AK (fun k (st:Int×List Int)=>st.1=(k:Int)/\st.2.length<=k) _ 32 ?_ ?_ ⟨rfl,EH _⟩
 ·rintro k ⟨kk,u⟩ hk ⟨HR,hl⟩
  simp only at HR hl
  subst HR
  left
  simp only[HM]
  rw[ab,ab,ah (e:=(k:Int)+1)]
  split
  ·rw[AA (by simp only[Q5];omega)]
   exact⟨_,rfl,rfl,by simp only[PQ,Q5];omega⟩
  ·exact⟨_,rfl,rfl,by simp only;omega⟩
 ·rintro⟨kk,u⟩ ⟨HR,hl⟩
  simp only at HR hl
  subst HR
  simp only
  rw[af]
  refine bY ?_
  obtain⟨r,d1,e1,r0,r1,k1⟩:=ED hd (n:=20) (by omega) (by omega)
  rw[e1,AW,AA (by simp only[NU,SK];omega)]
  have nx:∀ {dd:List Int×Int},OR dd->∀ (n:Int),0<n->n<=300->∃ r d',AF dd n=some (r,d')/\0<=r/\r<n/\OR d' :=fun h n h0 h1=>ED h h0 (by omega)
  have tail:∀ (j1:Op),∃ x,(if j1.1=1 then
    (AF d1 4).bind (fun r2=>
    (AF r2.2 4).bind (fun r3=>
    if 0<=r3.1/\r3.1<(([3,3,8,17]:List Int).length:Int) then
    (AF r3.2 (gl (0:Int) ([3,3,8,17]:List Int) r3.1.toNat)).bind (fun r4=>
    some (((j1.1,r2.1,r4.1,j1.2.2.2),r4.2)))
    else none))
    else Option.bind (α:=Bool ⊕ (Op×((List Int)×Int))) (if j1.1=2 then
    some (Sum.inl (decide (j1.1=2)))
    else some (Sum.inl (decide (j1.1=4)))) (fun q=>match q with
    |Sum.inl j2=>(if j2=true then
    (BR u d1).bind (fun r5=>
    (AF r5.2.2 3).bind (fun r6=>
    some (((j1.1,r5.1,r6.1,j1.2.2.2),r6.2))))
    else if j1.1=3 then
    (BR u d1).bind (fun r7=>
    (AF r7.2.2 3).bind (fun r8=>
    (BR r7.2.1 r8.2).bind (fun r9=>
    some (((j1.1,r7.1,r8.1,r9.1),r9.2.2)))))
    else if j1.1=5 then
    (BR u d1).bind (fun ID=>
    (AF ID.2.2 3).bind (fun OC=>
    (AF OC.2 256).bind (fun O8=>
    some (((j1.1,ID.1,OC.1,O8.1),O8.2)))))
    else if j1.1=6 then
    (BR u d1).bind (fun UZ=>
    (BR UZ.2.1 UZ.2.2).bind (fun pN=>
    some (((j1.1,UZ.1,pN.1,j1.2.2.2),pN.2.2))))
    else if j1.1=7 then
    if j1.1=7 then
    (BR u d1).bind (fun sI=>
    some (((j1.1,sI.1,j1.2.2),sI.2.2)))
    else some ((j1,d1))
    else if j1.1=9 then
    (BR u d1).bind (fun wA=>
    some (((j1.1,wA.1,j1.2.2),wA.2.2)))
    else some ((j1,d1)))
    |Sum.inr b1=>some b1))=some x/\OR x.2:=by
   intro j1
   by_cases c1:j1.1=1
   ·rw[AA c1]
    obtain⟨a2,d2,e2,_,_,k2⟩:=nx k1 4 (by omega) (by omega)
    rw[e2,AW]
    obtain⟨a3,d3,e3,a30,a31,k3⟩:=nx k2 4 (by omega) (by omega)
    rw[e3,AW,AA (by simp only[NU,SK];omega)]
    have hq:3<=gl (0:Int) [3,3,8,17] a3.toNat/\gl (0:Int) [3,3,8,17] a3.toNat<=17:=by
     have:a3=0\/a3=1\/a3=2\/a3=3:=by omega
     rcases this with rfl|rfl|rfl|rfl <;> simp [gl]
    obtain⟨a4,d4,e4,_,_,k4⟩:=nx k3 (gl (0:Int) [3,3,8,17] a3.toNat) (by omega) (by omega)
    simp only
    rw[e4]
    exact⟨_,rfl,k4⟩
   rw[AE c1]
   have e0:(if j1.1=2 then
    (some (Sum.inl (decide (j1.1=2))):Option (Bool ⊕ (Op×((List Int)×Int))))
    else some (Sum.inl (decide (j1.1=4))))=some (Sum.inl (decide (j1.1=2\/j1.1=4))):=by
    by_cases c2:j1.1=2
    ·rw[AA c2,JR c2,JR (show j1.1=2\/j1.1=4 from .inl c2)]
    ·rw[AE c2]
     have:decide (j1.1=4)=decide (j1.1=2\/j1.1=4):=by rw[jL];omega
     rw[this]
   rw[e0,AW]
   simp only
   obtain⟨a5,d5,e5,k5⟩:=ALG (u:=u) (by omega) k1
   by_cases c2:j1.1=2\/j1.1=4
   ·rw[JR c2,AA rfl,e5,AW]
    obtain⟨a6,d6,e6,_,_,k6⟩:=nx k5 3 (by omega) (by omega)
    simp only
    rw[e6]
    exact⟨_,rfl,k6⟩
   rw[P_ c2,AE (by decide),e5]
   simp only[AW]
   obtain⟨a6,d6,e6,_,_,k6⟩:=nx k5 3 (by omega) (by omega)
   by_cases c3:j1.1=3
   ·obtain⟨a7,d7,e7,k7⟩:=ALG (u:=u) (by omega) k6
    rw[AA c3,e6,AW,e7]
    exact⟨_,rfl,k7⟩
   rw[AE c3]
   by_cases c5:j1.1=5
   ·obtain⟨a7,d7,e7,_,_,k7⟩:=nx k6 256 (by omega) (by omega)
    rw[AA c5,e6,AW,e7]
    exact⟨_,rfl,k7⟩
   rw[AE c5]
   by_cases c6:j1.1=6
   ·obtain⟨a7,d7,e7,k7⟩:=ALG (u:=u) (by omega) k5
    rw[AA c6,e7]
    exact⟨_,rfl,k7⟩
   rw[AE c6]
   by_cases c7:j1.1=7
   ·rw[AA c7,AA c7]
    exact⟨_,rfl,k5⟩
   rw[AE c7]
   by_cases c9:j1.1=9
   ·rw[AA c9]
    exact⟨_,rfl,k5⟩
   rw[AE c9]
   exact⟨_,rfl,k1⟩
  split
  ·split
   ·rw[AW];exact tail _
   ·rw[AW];exact tail _
  ·rw[AW];exact tail _
inductive Hst (h0:Hs) (g0:Gh):Nat->Hs->Gh->Prop
 |z:Hst h0 g0 0 h0 g0
 |s {m:Nat} {h:Hs} {g:Gh} {o:Op} {h' :Hs} {an:An} {g' :Gh} {an' :An} (a:Hst h0 g0 m h g) (d:DoR h o h' an) (e:an.1≠18) (gd:uX g o g' an'):Hst h0 g0 (m+1) h' g'
abbrev A5I:Gh:=([],List.replicate 32 false,List.replicate 32 (-1))
theorem Hst.ok {h0:Hs} {g0:Gh} (v:HV 0 h0) (w:GV 0 g0) {m:Nat} {h:Hs} (a:Hst h0 g0 m h g):HV (257*m) h/\GV m g/\h.1=h0.1/\h.2.2.2.2.2.2.2.2=h0.2.2.2.2.2.2.2.2/\h.2.1.1=h0.2.1.1/\h.2.1.2.2.length=h0.2.1.2.2.length:=by
 induction a with
 |z=>exact⟨v,w,rfl,rfl,rfl,rfl⟩
 |s a d e gd ih=>
  obtain⟨i1,i2,i3,i4,i5,i6⟩:=ih
  obtain⟨j1,j2,j3,j4,j5⟩:=d.hv i1
  exact⟨j1.mono (by omega),gd.gv i2,by rw[j3,i3],by rw[j2 e,i4],by rw[j4,i5],by rw[j5,i6]⟩
def Hp (c:Cf) (h:Hs) (g:Gh):Prop:=Good c/\∃ (s n:Int) (m:Nat),(3<=s/\s<=4)/\(6<=n/\n<=20)/\m<=56/\Hst (AYH c s n) A5I m h g
theorem Hp.ok {c:Cf} {h:Hs} {g:Gh} (p:Hp c h g):HV 20000 h/\GV 56 g/\h.1=c/\h.2.2.2.2.2.2.2.2=false/\(3<=h.2.1.1/\h.2.1.1<=4)/\(6<=h.2.1.2.2.length/\h.2.1.2.2.length<=20):=by
 obtain⟨hc,s,n,m,hs,hn,hm,st⟩:=p
 obtain⟨g1,g2,g3,g4,g5,g6⟩:=st.ok (AOH hc (by omega) (by omega)) GV.new
 refine⟨g1.mono (by omega),⟨g2.ul,g2.rl,by have:=g2.nn;omega,g2.nd,g2.rt,g2.un⟩,g3,g4,by rw[g5];exact hs, ?_⟩
 rw[g6]
 simp only[V5]
 omega
theorem AQO {c:Cf} (hc:Good c) (hd:OR d):∃ h g d',H3 d c=some (h,g,d')/\Hp c h g/\OR d' :=by
 suffices hh:∃ b,H3 d c=some b/\Hp c b.1 b.2.1/\OR b.2.2 by
  obtain⟨b,h1,h2⟩:=hh;exact⟨b.1,b.2.1,b.2.2,h1,h2⟩
 unfold H3 PL
 obtain⟨r1,d1,e1,a0,a1,k1⟩:=ED hd (n:=2) (by omega) (by omega)
 obtain⟨r2,d2,e2,b0,b1,k2⟩:=ED k1 (n:=15) (by omega) (by omega)
 rw[e1,AW,e2,AW,AW]
 simp only
 rw[ah (e:=(3:Int)+r1),ah (e:=(6:Int)+r2),AVJ hc (by omega) (by omega),AW,AYG,AW]
 obtain⟨r3,d3,e3,c0,c1,k3⟩:=ED k2 (n:=50) (by omega) (by omega)
 rw[e3,AW]
 simp only
 rw[ah (e:=(6:Int)+r3)]
 have hv0:=AOH hc (s:=3+r1) (n:=6+r2) (by omega) (by omega)
 refine AK (fun k (st:Int×(List Int×Int)×Hs×Gh)=>st.1=(6+r3)-(k:Int)/\OR st.2.1/\∃ m,m<=k/\Hst (AYH c (3+r1) (6+r2)) A5I m st.2.2.1 st.2.2.2) _ (6+r3).toNat ?_ ?_ ⟨by simp,k3,0,EH _,.z⟩
 ·rintro k ⟨kk,dd,h,g⟩ hk ⟨HR,hdd,m,hm,st⟩
  simp only at HR hdd st
  obtain⟨g1,g2,g3,g4, -⟩:=st.ok hv0 GV.new
  simp only
  rw[ab]
  unfold K8
  rw[AW]
  simp only
  by_cases cl:dd.2<(dd.1.length:Int)
  ·left
   obtain⟨o,d4,e4,k4⟩:=AYI g2.ul hdd
   obtain⟨h',an,e5,do5⟩:=A5H g1 (by omega) g4 o
   rw[JR cl,AA rfl,e4,AW,e5,AW]
   simp only
   rw[ah (e:=kk-1)]
   by_cases c18:an.1=18
   ·rw[AA c18]
    exact⟨_,rfl,by simp only;omega,k4,m,by omega,st⟩
   ·obtain⟨g',an',e6,do6⟩:=A2N g2 (by omega) o
    rw[AE c18,e6]
    exact⟨_,rfl,by simp only;omega,k4,m+1,by omega,.s st do5 c18 do6⟩
  ·right
   rw[P_ cl,AE (by decide)]
   exact⟨_,rfl,⟨hc,3+r1,6+r2,m,by omega,by omega,by omega,st⟩,hdd⟩
 ·rintro⟨kk,dd,h,g⟩ ⟨HR,hdd,m,hm,st⟩
  simp only at HR hdd st
  simp only
  rw[af]
  exact⟨_,rfl,⟨hc,3+r1,6+r2,m,by omega,by omega,by omega,st⟩,hdd⟩
theorem AYJ (hd:OR d):∃ c h g d',MN d=some (h,g,d')/\Hp c h g/\OR d' :=by
 obtain⟨c,d1,e1,g1,k1⟩:=AQ3 hd
 obtain⟨h,g,d2,e2,g2,k2⟩:=AQO g1 k1
 unfold MN
 rw[e1,AW]
 simp only
 rw[e2]
 exact⟨c,h,g,d2,rfl,g2,k2⟩
theorem AVK {s:Int} (h:3<=s/\s<=8):AG ((1:Int)*2 ^ min (BitVec.ofInt 64 s).toNat 64)=sz s:=by
 have:=MF h
 rw[JK h,lP,ah]
variable {a:Int} {s:Sp}
theorem AFI (h:VS s) {k:Int} (h0:0<=a) (h1:a<s.2.1.length) (k0:0<=k) (k1:k<=1000000) {l:List Int} (hl:Pa s.2.2 (a / sz s.1) l):
  I6 s a k=some (AB4 (CM (sz s.1) l (a%sz s.1+k))):=by
 have W7:=VS.IK h
 have hn:=h.n.2
 have z:=BU s.1
 obtain⟨z1,z2⟩:=MF h.sh
 obtain⟨f0,f1⟩:=EP h h0 h1
 have m0:=oA a (show sz s.1≠0 by omega)
 have m1:=u4 a z
 unfold I6 zw
 simp only[AVK h.sh]
 rw[AA trivial,AA trivial,ah (e:=sz s.1-1),AL5 h.sh h0 (by omega),ah (e:=a%sz s.1+k),JK h.sh]
 refine LI (fun m (st:Int×Int)=>(0<=st.1/\st.1<=a%sz s.1+k)/\∃ l2,l2.length=m/\Pa s.2.2 st.2 l2/\CM (sz s.1) l2 st.1=CM (sz s.1) l (a%sz s.1+k)) (n:=l.length) ?_ ⟨⟨by simp only;omega,YT _⟩,l,rfl,hl,rfl⟩
 rintro m ⟨q,g⟩ ⟨⟨g0,g1⟩,l2,g2,g3,g4⟩
 simp only at g0 g1 g3 g4 ⊢
 cases l2 with
 |nil=>
  left
  rw[Pa] at g3
  rw[af,←g4];rfl
 |cons b r=>
  obtain⟨rfl,i0,i1,i2⟩:=g3
  have VY:(gl (0,0,0) s.2.2 g.toNat).2.2=nx s.2.2 g:=(HS i0 i1).symm
  have fm:=II h.sh i0 (show g<=64 by omega)
  rw[CM] at g4
  rw[AA i0]
  by_cases hq:q<sz s.1
  ·left
   rw[AA hq] at g4
   rw[AA hq,AA trivial,ah (e:=g*sz s.1),ah,←g4];rfl
  ·right
   rw[AE hq] at g4
   rw[AE hq,AA ⟨i0,i1⟩,VY,ah]
   exact⟨m-1,_,by simp at g2;omega,rfl,⟨by simp only;omega,by simp only;omega⟩,r,by simp at g2;omega,i2,g4⟩
theorem AQP (hn:s.2.2.length<=64):VQ s=some ((C1 s.2.2).length:Int):=by
 unfold VQ
 refine (AK (fun k (st:Int×Int)=>st.2=(k:Int)/\k<=s.2.2.length/\st.1=(((GK k).filter fun i=>decide ((fr s.2.2 i).1= -1)).length:Int)) (fun b=>b=((C1 s.2.2).length:Int)) s.2.2.length ?_ ?_ (s:=((0:Int),(0:Int))) ⟨rfl,by omega,rfl⟩).elim fun b h=>by rw[h.1,h.2]
 ·rintro k ⟨c,i⟩ hk ⟨h1,_,h2⟩
  simp only at h1 h2 ⊢
  subst h1
  have hl:(((GK k).filter fun i=>decide ((fr s.2.2 i).1= -1)).length:Int)<=k:=by
   have:=rF (fun i=>decide ((fr s.2.2 i).1= -1)) (GK k)
   rw[IE] at this;omega
  have MO:gl (0,0,0) s.2.2 (k:Int).toNat=fr s.2.2 k:=rfl
  rw[ab,ab,MO,ah (e:=(k:Int)+1),ah (e:=c+1),KO,AAB]
  by_cases hf:(fr s.2.2 k).1= -1
  ·rw[AA hf]
   exact .inl ⟨_,rfl,by simp only;omega,by omega,by simp [h2,hf]⟩
  ·rw[AE hf]
   exact .inl ⟨_,rfl,by simp only;omega,by omega,by simp [h2,hf]⟩
 ·rintro⟨c,i⟩ ⟨h1,_,h2⟩
  simp only at h1 h2 ⊢
  rw[af]
  exact⟨_,rfl,h2⟩
variable {f:Int}
theorem AQQ (hn:s.2.2.length<=64) {r:List Int} (hf:C1 s.2.2=f::r):X9 s=some f:=by
 obtain⟨⟨h0,h1⟩,h2,h3⟩:=WY hf
 unfold X9 zao
 refine (AK (fun k (st:Int)=>st=(k:Int)/\(k:Int)<=f) (fun b=>b=f) s.2.2.length ?_ ?_ (s:=(0:Int)) ⟨rfl,h0⟩).elim fun b h=>by rw[h.1,h.2]
 ·rintro k st hk ⟨rfl,hkf⟩
  have MO:gl (0,0,0) s.2.2 (k:Int).toNat=fr s.2.2 k:=rfl
  rw[ab,ab,MO,ah (e:=(k:Int)+1)]
  by_cases hc:(fr s.2.2 k).1= -1
  ·rw[AA hc]
   refine .inr ⟨_,rfl, ?_⟩
   rcases Int.lt_or_le (k:Int) f with DY|hge
   ·exact absurd hc (h3 k (by omega) DY)
   ·omega
  ·rw[AE hc]
   refine .inl ⟨_,rfl,by omega, ?_⟩
   have:(k:Int)≠f:=fun he=>hc (by rw[he];exact h2)
   omega
 ·rintro st ⟨rfl,hkf⟩
  omega
variable {i:AI}
theorem AVL {x:Option (Int×Bool×List (BitVec 64)×List Fr×AI)} (h:∃ b,x=some b/\∃ t j a l l',b=(a,true,t.2.1,t.2.2,j)/\Grown s i n t j a l l'):
  ∃ t j a l l',x=some (a,true,t.2.1,t.2.2,j)/\Grown s i n t j a l l' :=by
 obtain⟨b,rfl,t,j,a,l,l',rfl,g⟩:=h
 exact⟨t,j,a,l,l',rfl,g⟩
theorem AVM (h:VS s) (hf:DB s i) (C6:i.2.2.2.2=0->owned s.2.2 i.1=[]) (n0:1<=n) (n1:n<=48):
  (((C1 s.2.2).length:Int)<cl (sz s.1) (i.2.2.2.2+n)-cl (sz s.1) i.2.2.2.2/\T2 s i n=some (0,false,s.2.1,s.2.2,i))∨
  (cl (sz s.1) (i.2.2.2.2+n)-cl (sz s.1) i.2.2.2.2<=(C1 s.2.2).length/\∃ t j a l l',T2 s i n=some (a,true,t.2.1,t.2.2,j)/\Grown s i n t j a l l'):=by
 have W7:=VS.IK h
 have hn:=h.n.2
 have z:=BU s.1
 obtain⟨z1,z2⟩:=MF h.sh
 obtain⟨⟨q0,q1,b0,b1,w0,w1⟩,n6⟩:=id hf
 obtain⟨l,hl1,b_,hl3⟩:=hf.has h
 have eB:=ANN z (show i.2.2.2.2<=i.2.2.2.2+n by omega)
 have A4S:(C1 s.2.2).length<=s.2.2.length:=V0 s.2.2 (-1)
 have zI:=X_.start h hf C6 hl1 hl3
 have c0:=ZW z1 w0
 have c1:=ZW (z:=sz s.1) (w:=i.2.2.2.2+n) z1 (by omega)
 unfold T2 zaU zax zap zw
 simp only[AVK h.sh]
 rw[AA trivial,AA trivial,AA trivial,AQP hn,AW,ah (e:=i.2.2.2.2+n),ah (e:=i.2.2.2.2+n+sz s.1),ah (e:=i.2.2.2.2+n+sz s.1-1),
  ah (e:=i.2.2.2.2+sz s.1),ah (e:=i.2.2.2.2+sz s.1-1),JK h.sh,show (i.2.2.2.2+n+sz s.1-1) / sz s.1=cl (sz s.1) (i.2.2.2.2+n) from rfl,show (i.2.2.2.2+sz s.1-1) / sz s.1=cl (sz s.1) i.2.2.2.2 from rfl,
  ah (e:=cl (sz s.1) (i.2.2.2.2+n)-cl (sz s.1) i.2.2.2.2)]
 generalize AZK:cl (sz s.1) (i.2.2.2.2+n)-cl (sz s.1) i.2.2.2.2=need
 by_cases hc:((C1 s.2.2).length:Int)<need
 ·rw[AA hc];exact .inl ⟨hc,rfl⟩
 rw[AE hc]
 refine .inr ⟨by omega, ?_⟩
 refine AVL ?_
 ·refine AK (fun k (st:Int×AI×List Fr)=>st.1=need-(k:Int)/\(k:Int)<=need/\∃ d r0 fs F L,d.length=k/\st.2=((i.1,i.2.1,F,L,i.2.2.2.2),fs)/\X_ s i l d r0 fs F L/\(i.2.2.2.2≠0->F=i.2.2.1)/\(fs,F,L)=gw i.1 (i.2.1*4294967296+i.1) d.length (s.2.2,i.2.2.1,i.2.2.2.1))
   (fun b=>∃ t j a l l',b=(a,true,t.2.1,t.2.2,j)/\Grown s i n t j a l l') need.toNat ?_ ?_ (s:=(need,i,s.2.2)) ⟨by simp,by omega,[],C1 s.2.2,s.2.2,i.2.2.1,i.2.2.2.1,rfl,rfl,zI,fun _=>rfl,rfl⟩
  ·rintro k ⟨c,⟨sq,bt,F,L,wd⟩,fs0⟩ hk ⟨e1,e2,d,r0,fs,F',L',e3,e4,hg,WZ,hgw⟩
   simp only[DG] at e1 e4 ⊢
   obtain⟨⟨rfl,rfl,rfl,rfl,rfl⟩,rfl⟩:=e4
   subst e1
   rw[ab]
   have vG:0<r0.length:=by
    have:=KL List.length hg.split
    simp at this
    omega
   cases r0 with
   |nil=>simp at vG
   |cons f r=>
    have AEV:C1 fs0=f::r:=hg.fre
    have hlen:=hg.len
    obtain⟨⟨f0,f1⟩, -⟩:=WY AEV
    obtain⟨s1,s2⟩:=hg.step q0 q1 b0 b1
    have M_:gw i.1 (i.2.1*4294967296+i.1) (d++ [f]).length (s.2.2,i.2.2.1,i.2.2.2.1)=qC i.1 (i.2.1*4294967296+i.1) (fs0,F,L):=by
     rw[PQ]
     show qC _ _ (gw _ _ _ _)=_
     rw[hgw]
    rw[AQQ (s:=(s.1,s.2.1,fs0)) (by show fs0.length<=64;omega) AEV,AW,AA ⟨f0,by omega⟩,ah (e:=i.2.1*4294967296),ah (e:=i.2.1*4294967296+i.1),ah (e:=need-(k:Int)-1)]
    left
    rcases hg.path with ⟨p1,p2,p3⟩|⟨p1,p2,p3, -⟩
    ·subst p2;subst p3
     rw[af]
     exact⟨_,rfl,by simp only;omega,by omega,d++ [f],r,_,_,_,by simp;omega,rfl,s1 rfl,fun hw=>absurd (WZ hw) (by
      rcases n6 with ⟨g1,_⟩|⟨_,g1,_⟩
      ·exact absurd g1 hw
      ·omega),by rw[M_];simp only[qC,AEV,HP]⟩
    ·have hF:F≠-1:=by have:=Pa.head p2 p1;omega
     obtain⟨⟨L0,L1⟩,hgs⟩:=s2 hF
     rw[ab,AA ⟨by omega,by rw[EG];exact L1⟩]
     exact⟨_,rfl,by simp only;omega,by omega,d++ [f],r,_,_,_,by simp;omega,rfl,hgs,WZ,by rw[M_];simp only[qC,AEV,AE hF];rfl⟩
  ·rintro⟨c,⟨sq,bt,F,L,wd⟩,fs0⟩ ⟨e1,e2,d,r0,fs,F',L',e3,e4,hg,WZ,hgw⟩
   simp only[DG] at e1 e4 ⊢
   obtain⟨⟨rfl,rfl,rfl,rfl,rfl⟩,rfl⟩:=e4
   subst e1
   rw[af,AA trivial]
   refine map_inr ?_
   obtain⟨⟨F0,F1⟩,g4,a,hgr⟩:=hg.done h hf n0 n1 hl1 b_ (by omega) WZ hgw
   have hFz:=II h.sh F0 (show F<=64 by have:=hg.len;omega)
   have hFw:F*sz s.1<s.2.1.length:=by
    rw[h.w]
    exact AFV (by have:=hg.len;omega) z
   have ha:=PO z (g:=F) (o:=0) (by omega) z
   rw[b7] at ha
   have hst:=AFI hg.vs (a:=F*sz s.1) (k:=i.2.2.2.2) hFz.1 hFw w0 (by omega) (l:=l++d) (by simp only;rw[ha.1];exact hgr.path)
   simp only at hst
   rw[ha.2,xD,hgr.FZ] at hst
   rw[ah (e:=F*sz s.1),hst,AW,ah (e:=i.2.2.2.2+n)]
   exact⟨_,rfl,_,_,_,_,_,rfl,hgr⟩
theorem AFJ (w:BitVec 64):FB w=some (wI w):=by
 have hw:=w.isLt
 have e1:(w &&& 1#64=1#64)↔w.toNat%2=1:=by
  rw[<-ABE,ABJ]
  show w.toNat &&& 1=1↔_
  rw[Nat.and_one_is_mod]
 unfold FB wI
 by_cases h1:w.toNat%2=1
 ·obtain⟨v,g1,v1⟩:=jE w (k:=1) (n:=63) (by omega) (by omega)
  have v2:v.toNat=w.toNat / 2:=by rw[v1];omega
  have n14:(16383#64).toNat=16383:=rfl
  rw[AA (e1.2 h1),show I4 w 1 63=some (v,0) from g1,AW,AA h1]
  simp only
  rw[n14,v2]
  by_cases h2:w.toNat / 2>16383
  ·rw[AA h2,ab]
  ·rw[AE h2,af,ah]
 ·obtain⟨v,g1,v1⟩:=jE w (k:=1) (n:=7) (by omega) (by omega)
  obtain⟨u,g2,u1⟩:=jE w (k:=8) (n:=56) (by omega) (by omega)
  rw[AE (fun h=>h1 (e1.1 h)),show I4 w 1 7=some (v,0) from g1,AW,show I4 w 8 56=some (u,0) from g2,AW,AE h1]
  simp only
  have v2:v.toNat=w.toNat%256 / 2:=by rw[v1];omega
  have u2:u.toNat=w.toNat / 256:=by rw[u1];omega
  have n15:(15#64).toNat=15:=rfl
  rw[n15]
  by_cases h2:v.toNat>15
  ·have hh:hd w=none:=by unfold hd;rw[AE h1,af]
   rw[AA h2,hh]
  have s1:(1#64+v).toNat=1+v.toNat:=by rw[ABF];show (1+v.toNat)%18446744073709551616=_;omega
  have s2:(1#64+v+32#64).toNat=33+v.toNat:=by rw[ABF,s1];show (1+v.toNat+32)%18446744073709551616=_;omega
  rw[AE h2,s1,s2]
  by_cases h3:u.toNat<1+v.toNat
  ·have hh:hd w=none:=by unfold hd;rw[AE h1,af]
   rw[AA h3,hh]
  rw[AE h3]
  by_cases h4:u.toNat>33+v.toNat
  ·have hh:hd w=none:=by unfold hd;rw[AE h1,af]
   rw[AA h4,hh]
  rw[AE h4]
  have s3:(u-1#64-v).toNat=u.toNat-1-v.toNat:=by
   have o1:(1#64).toNat=1:=rfl
   rw[wW,wW]
   ·rfl
   ·rw[xC,o1];omega
   ·rw[xC,wW,o1]
    ·omega
    ·rw[xC,o1];omega
  have hh:hd w=some ((v.toNat:Int),((u.toNat-1-v.toNat:Nat):Int)):=by
   unfold hd;rw[AE h1,ab,v2,u2]
  rw[s3,ah (e:=(v.toNat:Int)),ah (e:=((u.toNat-1-v.toNat:Nat):Int)),hh]
theorem AQR (w:BitVec 64):(∃ o,hd w=some o/\wI w=(o.1,o.2,0,false,0))\/(hd w=none/\((wI w).2.2.2.2≠0\/((wI w).2.2.2.2=0/\(wI w).2.2.2.1=true))):=by
 cases h:hd w with
 |some o=>exact .inl ⟨o,rfl,SA h⟩
 |none=>
  refine .inr ⟨rfl, ?_⟩
  unfold wI
  rw[h]
  split
  ·split
   ·exact .inl (by simp)
   ·exact .inr ⟨rfl,rfl⟩
  ·exact .inl (by simp)
theorem AJ2 {b:Int} (h0:0<=b) (h1:b<=16383):LL b=some (fwd b,0):=by
 unfold LL
 rw[af,af]
 obtain⟨k,rfl⟩:=ALN h0
 have hk:k<16384:=by omega
 have hv:P4 1 32=some true:=by decide
 have hm:PN 32=some 4294967295#64:=by decide
 have hf:bB (BitVec.ofInt 64 (k:Int)) 32=some true:=by
  unfold bB
  rw[hm,AW]
  congr 1
  apply JR
  have:(BitVec.ofInt 64 (k:Int))=BitVec.ofNat 64 k:=rfl
  rw[this]
  apply AB8
  rw[ABJ,uZ]
  show k%2 ^ 64 &&& (~~~4294967295#64).toNat=0
  apply Nat.eq_of_testBit_eq
  intro i
  rw[Nat.testBit_and,Nat.zero_testBit,rG (by omega)]
  by_cases hi:i<14
  ·have:∀ j:Fin 14,(~~~4294967295#64).toNat.testBit j.1=false:=by decide
   rw[this ⟨i,hi⟩,Bool.and_false]
  ·rw[Nat.testBit_lt_two_pow (oB hk (by
    have:2 ^ 14<=2 ^ i:=ALT (by omega) (by omega)
    exact this)),Bool.false_and]
 unfold sN
 rw[hv,AW,AE (by simp),hf,AW,AE (by simp),hm,AW,AA trivial,AA trivial,AW]
 congr 2
 apply AB8
 rw[wH h0 h1]
 have e1:(1#64 &&& ~~~(4294967295#64 <<< (BitVec.ofInt 64 1).toNat))=1#64:=by decide
 have e2:(BitVec.ofInt 64 1).toNat=1:=rfl
 simp only
 rw[e1,e2,BitVec.toNat_or,BitVec.toNat_shiftLeft]
 have e3:(BitVec.ofInt 64 (k:Int)).toNat=k:=by
  show (BitVec.ofNat 64 k).toNat=k
  rw[uZ];omega
 rw[e3,Nat.shiftLeft_eq]
 show 1|||k*2 ^ 1%2 ^ 64=_
 rw[rG (by omega),Nat.or_comm,show k*2 ^ 1=2 ^ 1*k from tP _ _,←Nat.two_pow_add_eq_or_of_lt (by omega)]
 simp only[HM]
 omega
variable {l:List AI}
theorem AYK (hn:s.2.2.length<=64) (hl:(l.length:Int)<=9223372036854775806):∃ w,iZ s l=some w/\NS (AV l) s.2.2 w:=by
 unfold iZ
 refine AK (fun k (st:BitVec 64×Int)=>st.2=(k:Int)/\k<=s.2.2.length/\∀ j,j<64->st.1.getLsbD j=decide (j<k/\(fr s.2.2 j).1∈AV l)) (fun b=>NS (AV l) s.2.2 b) s.2.2.length ?_ ?_ (s:=(0#64,(0:Int))) ⟨rfl,by omega,fun j hj=>by simp⟩
 ·rintro k ⟨w,i⟩ hk ⟨h1,_,h2⟩
  simp only at h1 h2 ⊢
  subst h1
  have MO:gl (0,0,0) s.2.2 (k:Int).toNat=fr s.2.2 k:=rfl
  rw[ab,ab,MO]
  refine .inl ?_
  have inner:∀ st:BitVec 64×Int,st.2=0->(∀ j,j<64->st.1.getLsbD j=decide (j<k/\(fr s.2.2 j).1∈AV l))→
    ∃ b,AH (σ:=BitVec 64×Int) (β:=(BitVec 64×Int) ⊕ BitVec 64) (fun s2=>
     if s2.2<(l.length:Int) then
     if 0<=s2.2/\s2.2<(l.length:Int) then
     if (fr s.2.2 k).1=((gl ((0,0,0,0,0):AI) l s2.2.toNat).1) then
     if (k:Int)<64 then
     if True then
     some (Sum.inl ((s2.1|||((1#64) <<< (BitVec.ofInt 64 (k:Int)).toNat),AG (s2.2+1))))
     else none
     else some (Sum.inl ((s2.1,AG (s2.2+1))))
     else some (Sum.inl ((s2.1,AG (s2.2+1))))
     else none
     else some (Sum.inr (Sum.inl ((s2.1,AG ((k:Int)+1)))))) st=some b/\∃ w' :BitVec 64,b=Sum.inl (w',(k:Int)+1)/\∀ j,j<64->w'.getLsbD j=decide (j<k+1/\(fr s.2.2 j).1∈AV l):=by
   rintro⟨w1,c1⟩ hc hw
   simp only at hc hw
   subst hc
   refine AK (fun c (st:BitVec 64×Int)=>st.2=(c:Int)/\∀ j,j<64->st.1.getLsbD j=decide ((j<k/\(fr s.2.2 j).1∈AV l)\/(j=k/\(fr s.2.2 j).1∈AV (l.take c))))
    (fun b=>∃ w' :BitVec 64,b=Sum.inl (w',(k:Int)+1)/\∀ j,j<64->w'.getLsbD j=decide (j<k+1/\(fr s.2.2 j).1∈AV l)) l.length ?_ ?_ (s:=(w1,(0:Int))) ⟨rfl,fun j hj=>by rw[hw j hj,jL,AM7];exact⟨.inl,fun h=>h.elim id fun h=>absurd h.2 wU⟩⟩
   ·rintro c ⟨v,i⟩ hc ⟨g1,g2⟩
    simp only at g1 g2 ⊢
    subst g1
    have hm:∀ x:Int,x∈AV (l.take (c+1))↔x∈AV (l.take c)\/x=(gl ((0,0,0,0,0):AI) l c).1:=by
     intro x
     unfold AV
     rw[AM3,AE7 (d:=((0,0,0,0,0):AI)) hc]
     simp
    rw[ab,ab,HM,ah (e:=(c:Int)+1)]
    by_cases he:(fr s.2.2 k).1=(gl ((0,0,0,0,0):AI) l c).1
    ·rw[AA he,ab,AA trivial]
     refine .inl ⟨_,rfl,by simp only;omega,fun j hj=> ?_⟩
     simp only
     rw[sG (by omega) (by omega),HM,AEA _ _ (by omega),g2 j hj,←Bool.decide_or,jL,hm]
     constructor
     ·rintro ((h|⟨h,h'⟩)|h)
      ·exact .inl h
      ·exact .inr ⟨h,.inl h'⟩
      ·subst h;exact .inr ⟨rfl,.inr he⟩
     ·rintro (h|⟨h,_⟩)
      ·exact .inl (.inl h)
      ·exact .inr h.symm
    ·rw[AE he]
     refine .inl ⟨_,rfl,by simp only;omega,fun j hj=> ?_⟩
     simp only
     rw[g2 j hj,jL,hm]
     constructor
     ·rintro (h|⟨h,h'⟩)
      ·exact .inl h
      ·exact .inr ⟨h,.inl h'⟩
     ·rintro (h|⟨h,h' |h'⟩)
      ·exact .inl h
      ·exact .inr ⟨h,h'⟩
      ·subst h;exact absurd h' he
   ·rintro⟨v,i⟩ ⟨g1,g2⟩
    simp only at g1 g2 ⊢
    rw[af,ah (e:=(k:Int)+1)]
    refine⟨_,rfl,v,rfl,fun j hj=> ?_⟩
    rw[g2 j hj,VD,jL]
    constructor
    ·rintro (⟨h,h'⟩|⟨h,h'⟩)
     ·exact⟨by omega,h'⟩
     ·exact⟨by omega,h'⟩
    ·rintro⟨h,h'⟩
     by_cases WC:j=k
     ·exact .inr ⟨WC,h'⟩
     ·exact .inl ⟨by omega,h'⟩
  obtain⟨b,hb,w',rfl,hw'⟩:=inner (w,0) rfl h2
  exact⟨_,hb,by simp only;omega,by omega,hw'⟩
 ·rintro⟨w,i⟩ ⟨h1,_,h2⟩
  simp only at h1 h2 ⊢
  rw[af]
  exact⟨_,rfl,fun j hj=>h2 j hj⟩
theorem z8 (hn:s.2.2.length<=64) (hl:(l.length:Int)<=9223372036854775806):∃ w,VP s l=some ((KP w).map fun k:Nat=>(k:Int))/\NS (AV l) s.2.2 w:=by
 obtain⟨w,h1,h2⟩:=AYK hn hl
 refine⟨w, ?_,h2⟩
 unfold VP
 rw[h1,AW]
 refine LI (fun n (st:List Int×BitVec 64)=>st.1++((KP st.2).map fun k:Nat=>(k:Int))=((KP w).map fun k:Nat=>(k:Int))/\n=(KP st.2).length) (n:=(KP w).length) ?_ ⟨by simp,rfl⟩
 rintro n ⟨acc,v⟩ ⟨g1,g2⟩
 simp only at g1 g2 ⊢
 by_cases hv:v=0#64
 ·left
  have:KP 0#64=[]:=ATN.2 rfl
  rw[AE (DQ hv)]
  rw[hv,this] at g1
  rw[<-g1];simp
 ·right
  rw[AA hv]
  obtain⟨k,k1,k2,k3⟩:=A4T hv
  have hlen:acc.length<=64:=by
   have:=KL List.length g1
   rw[PQ,V6,V6] at this
   have:=ACS w
   omega
  rw[k2,AW,AA (by simp only[Q5];omega)]
  refine⟨(KP (v &&& (v-1#64))).length,_, ?_,rfl, ?_,rfl⟩
  ·rw[g2,k3];simp
  ·rw[<-g1,k3];simp
variable {k:Nat} {w:BitVec 64}
theorem AJ3:k∈KP w↔k<64/\w.getLsbD k=true:=by
 unfold KP
 rw[Z1,dQ]
abbrev Cp:Type:=Sp×BitVec 64×AI×List (Int×Int)
variable {C:List Int} {m:BitVec 64}
theorem ALH (h:VS s) (hm:NS C s.2.2 m) (to:AI) (mv:List (Int×Int)) (x:BitVec 64):
  FF ((s,m,to,mv):Cp) x=some (decide (Wn C s x),((s,m,to,mv):Cp)):=by
 have W7:=VS.IK h
 have hn:=h.n.2
 have z:=BU s.1
 unfold FF zm
 by_cases hx:x=0#64
 ·rw[AE (DQ hx),P_ (fun hh:Wn C s x=>hh.1 hx)]
 obtain⟨e1,e2⟩:=JH hx
 have e3:(BitVec.ofInt 64 ((s.2.1.length:Nat):Int)).toNat=s.2.1.length:=by
  rw[jK];omega
 rw[AA hx]
 simp only
 rw[e3,e1]
 by_cases hl:x.toNat<=s.2.1.length
 ·obtain⟨f0,f1⟩:=EP h (a:=(x.toNat:Int)-1) (by omega) (by omega)
  have e4:((x.toNat-1:Nat):Int)=(x.toNat:Int)-1:=by omega
  rw[AA hl,AA trivial,e4,ah,JK h.sh,AA f0]
  have e5:((((x.toNat:Int)-1) / sz s.1).toNat:Int)=((x.toNat:Int)-1) / sz s.1:=by omega
  have e6:((m >>> (((x.toNat:Int)-1) / sz s.1).toNat) &&& 1#64=1#64)↔Wn C s x:=by
   rw[yZ,hm _ (by omega),P5,e5]
   constructor
   ·rintro⟨_,hc⟩;exact⟨hx,by omega,hc⟩
   ·rintro⟨_,_,hc⟩;exact⟨by omega,hc⟩
  rw[jL.2 e6]
 ·rw[AE hl,P_ (fun hh:Wn C s x=>hl (by have:=hh.2.1;omega))]
theorem AFK (h:VS s) {l:List Int} {i o k:Int} (hp:Pa s.2.2 i l) (h0:0<=o) (ha:CM (sz s.1) l o=some a) (k0:0<=k) (k1:k<=1000000):
  I6 s a k=some (AB4 (CM (sz s.1) l (o+k))):=by
 obtain⟨⟨a0,a1⟩,_⟩:=EE h hp h0 ha
 obtain⟨l2,p1,_,p2⟩:=KF (BU s.1) hp h0 ha k0
 rw[AFI h a0 a1 k0 k1 p1,p2]
variable {mv:List (Int×Int)} {to:AI}
theorem qZ (hc:Cy C s to) (hm:NS C s.2.2 m) (hmv:mv.length<=1000000) (x:BitVec 64):
  ∃ v e t I2 mm,tB C s to x v e t I2 mm/\EA ((s,m,to,mv):Cp) x=some (v,e,((t,m,I2,mv++mm):Cp)):=by
 have W7:=VS.IK hc.vs
 have hn:=hc.vs.n.2
 have z:=BU s.1
 obtain⟨z1,z2⟩:=MF hc.vs.sh
 have lG:=hc.fit.1
 unfold EA zaB zm
 rw[ALH hc.vs hm,AW]
 by_cases hw:Wn C s x
 rotate_left
 ·simp only[P_ hw]
  rw[AA (show (!false)=true from rfl)]
  exact⟨x,0,s,to,[],.out hw,by rw[FP]⟩
 simp only[JR hw]
 obtain⟨x0,x1,x2⟩:=id hw
 obtain⟨e1,e2⟩:=JH x0
 have e4:((x.toNat-1:Nat):Int)=(x.toNat:Int)-1:=by omega
 rw[AE (show ¬(!true)=true by decide),e1,e4,ah (e:=(x.toNat:Int)-1)]
 generalize hA:(x.toNat:Int)-1=A at x2
 have A0:0<=A:=by omega
 have A1:A<s.2.1.length:=by omega
 rw[AA ⟨A0,A1⟩]
 have hA' :Z0 s x=gl 0#64 s.2.1 A.toNat:=by rw[<-hA]
 rw[AFJ,AW]
 rcases AQR (gl 0#64 s.2.1 A.toNat) with ⟨⟨r,d⟩,y2,y1⟩|⟨y2,y3⟩
 rotate_left
 ·rcases y3 with h5|⟨h5,y3⟩
  ·rw[AA h5]
   exact⟨_,12,s,to,[],.bad hw (by rw[hA'];exact h5),by rw[FP]⟩
  ·rw[AE (DQ h5),AA y3]
   refine⟨_,0,s,to,[],.gZ hw (by rw[hA'];exact h5) (by rw[hA'];exact y3), ?_⟩
   rw[FP,hA']
 rw[y1]
 obtain⟨⟨r0,r1⟩,d0,d1⟩:=JN y2
 simp only at r0 r1 d0 d1 ⊢
 rw[AE (DQ trivial),AE (show ¬false=true by decide),ah (e:=1+r),ah (e:=1+r+d),ah (e:=1+r+d-1)]
 obtain⟨f0,f1⟩:=EP hc.vs A0 A1
 obtain⟨la,hl⟩:=hc.vs.acy (A / sz s.1) f0 f1
 have m0:=oA A (show sz s.1≠0 by omega)
 rw[AFI hc.vs A0 A1 (k:=1+r+d-1) (by omega) (by omega) hl,AW,show 1+r+d-1=r+d by omega]
 cases had:CM (sz s.1) la (A%sz s.1+(r+d)) with
 |none=>
  rw[AA (by decide)]
  exact⟨_,12,s,to,[],.g_ hw (by rw[hA'];exact y2) (by rw[hA];exact hl) (by rw[hA];exact had),by rw[FP]⟩
 |some e=>
  obtain⟨⟨e0,_⟩,_⟩:=EE hc.vs hl (by omega) had
  rw[AE (by show ¬e<0;omega)]
  rcases AVM hc.vs hc.fit hc.own (n:=1+r+d) (by omega) (by omega) with ⟨g1,g2⟩|⟨g1,u,I2,b,l,l',g2,g⟩
  ·rw[g2,AW,AA (show (!false)=true from rfl)]
   exact⟨_,4,s,to,[],.full hw (by rw[hA'];exact y2) (by rw[hA];exact hl) (by rw[hA];exact had) g1,by rw[FP]⟩
  ·rw[g2,AW,AE (show ¬(!true)=true by decide)]
   simp only[g.ws]
   have hq:=hc.nn _ x2
   obtain⟨pu,pfr⟩:=g.AIE hc.vs hl hq (fun he=>hc.out (he ▸ x2))
   have MR:=g.AQB lG.2.2.2.2.1 (by omega)
   have XU:=g.sh
   have hb:=EE (s:=u) g.vs g.path lG.2.2.2.2.1 (by rw[XU];exact g.FZ)
   rw[g.ws] at hb
   have hAf:(fr u.2.2 (A / sz s.1)).1∈C:=by
    cases la with
    |nil=>rw[Pa] at hl;omega
    |cons f r' =>obtain⟨hf,_⟩:=hl;rw[pfr _ (by rw[hf];simp)];exact x2
   have hvu:VS (s.1,s.2.1,u.2.2):=by have:=g.vs;rw[<-XU,←g.ws];exact this
   have key:∃ bb,AH (σ:=Int×List (BitVec 64)) (β:=BitVec 64×Int×Cp) (fun s1=>
     if s1.1<1+r+d then
     (I6 (s.1,s1.2,u.2.2) b s1.1).bind (fun r5=>
     (I6 (s.1,s1.2,u.2.2) A s1.1).bind (fun r6=>
     if 0<=r6/\r6<(s1.2.length:Int) then
     if 0<=r5/\r5<(s1.2.length:Int) then
     some (Sum.inl ((AG (s1.1+1),s1.2.set r5.toNat (gl (0#64:(BitVec 64)) s1.2 r6.toNat))))
     else none
     else none))
     else Option.map Sum.inr ((LL b).bind (fun r7=>
     if 0<=A/\A<(s1.2.length:Int) then
     if (mv.length+([(A,b)]:List (Int×Int)).length)*16<=140737488355328 then
     some (((BitVec.ofInt 64 b)+(1#64),0,((s.1,s1.2.set (A.toNat) r7.1,u.2.2),m,I2,mv++([(A,b)]:List (Int×Int)))))
     else none
     else none))) ((0,s.2.1))=some bb/\bb=(BitVec.ofInt 64 b+1#64,0,(((s.1,(cpy (sz s.1) la (A%sz s.1) l' to.2.2.2.2 (1+r+d).toNat s.2.1).set A.toNat (fwd b),u.2.2),m,I2,mv++ [(A,b)]):Cp)):=by
    refine AK (fun k (st:Int×List (BitVec 64))=>st.1=(k:Int)/\(k:Int)<=1+r+d/\st.2=cpy (sz s.1) la (A%sz s.1) l' to.2.2.2.2 k s.2.1/\VS (s.1,st.2,u.2.2)) _ (1+r+d).toNat ?_ ?_ ⟨rfl,by omega,rfl,hvu⟩
    ·rintro k ⟨i,ws⟩ hk ⟨h1,h2,h3,h4⟩
     simp only at h1 h3 h4 ⊢
     subst h1
     have hlen:ws.length=s.2.1.length:=by rw[h3,VT]
     obtain⟨p,hp⟩:=g.AF5 lG.2.2.2.2.1 (by omega) (k:=(k:Int)) (by omega) (by omega)
     obtain⟨q,SR⟩:=hB z had (p:=A%sz s.1+k) (by omega) (by omega)
     obtain⟨⟨p0,p1⟩,p2⟩:=EE h4 g.path (by omega) hp
     obtain⟨⟨q0,q1⟩,q2⟩:=EE h4 pu (by omega) SR
     simp only at p1 q1 p2
     rw[ab,AFK h4 g.path lG.2.2.2.2.1 g.FZ (k:=(k:Int)) (by omega) (by omega),AW,
      AFI h4 A0 (by simp only;omega) (k:=(k:Int)) (by omega) (by omega) pu,AW]
     simp only
     rw[hp,SR,show AB4 (some p)=p from rfl,show AB4 (some q)=q from rfl,AA ⟨q0,q1⟩,AA ⟨p0,p1⟩,ah (e:=(k:Int)+1)]
     refine .inl ⟨_,rfl,by simp only;omega,by omega, ?_, ?_⟩
     ·simp only[cpy]
      rw[hp,SR,←h3];rfl
     ·exact h4.word p0 (by simp only;rw[MR _ p2];omega) _
    ·rintro⟨i,ws⟩ ⟨h1,h2,h3,h4⟩
     simp only at h1 h3 h4 ⊢
     have hlen:ws.length=s.2.1.length:=by rw[h3,VT]
     rw[af,AJ2 hb.1.1 (by omega),AW,AA ⟨A0,by omega⟩,AA (by simp only[Q5];omega)]
     exact⟨_,rfl,by rw[h3]⟩
   obtain⟨bb,k1,rfl⟩:=key
   refine⟨_,0,_,_,_,.MP hw (by rw[hA'];exact y2) (by rw[hA];exact hl) (by rw[hA];exact had) g, ?_⟩
   rw[hA]
   exact k1
theorem A2O (m:List (Int×Bool)) (k:Int) (v:Bool) (n:Int):QH (mS m k v) n=if n=k then some v else QH m n:=by
 induction m with
 |nil=>by_cases h:n=k <;> simp [mS,QH,h]
 |cons p r ih=>
  obtain⟨a,b⟩:=p
  by_cases h:k=a
  ·subst h
   by_cases hn:n=k <;> simp [mS,QH,hn]
  ·by_cases hn:n=a
   ·subst hn
    simp [mS,QH,h]
    intro he;exact absurd he.symm h
   ·simp only[mS,AE h,QH,AE hn,ih]
def AYL (s:Sp) (i:AI):Prop:=DB s i/\∃ l os,Has s i l/\obs s i l=some os
theorem AYM (hI:StI s) (i:AI):∃ v,LV s i=some v/\(v.2=0↔VS s/\AYL s i):=by
 obtain⟨b,b1,b2⟩:=sU hI i
 cases b with
 |false=>
  refine⟨([],1), ?_,fun h=>absurd h (show ¬(1:Int)=0 by decide),fun h=>absurd (b2.2 ⟨h.1,h.2.1⟩) ARL⟩
  unfold LV EW zaB
  rw[b1];rfl
 |true=>
  obtain⟨hv,hf⟩:=b2.1 rfl
  obtain⟨l,hl,_⟩:=hf.has hv
  refine⟨_,AIC hv hf hl, ?_⟩
  cases ho:obs s i l with
  |none=>
   refine⟨fun h=>absurd h (show ¬(12:Int)=0 by decide), ?_⟩
   rintro⟨_,_,l',os,h1,h2⟩
   rcases hl with ⟨g1,rfl⟩|⟨g1,g2⟩ <;> rcases h1 with ⟨g3,rfl⟩|⟨g3,g4⟩
   ·rw[ho] at h2;cases h2
   ·exact absurd g1 g3
   ·exact absurd g3 g1
   ·rw[g2.fn g4] at ho;rw[ho] at h2;cases h2
  |some os=>exact⟨fun _=>⟨hv,hf,l,os,hl,ho⟩,fun _=>rfl⟩
structure Chk (s:Sp) (l:List AI) (to:AI):Prop where
 vs:VS s
 ob:∀ i∈l,AYL s i/\i.2.2.2.2≠0
 nd:(AV l).Nodup
 fit:DB s to
 out:to.1∉AV l
 own:to.2.2.2.2=0->owned s.2.2 to.1=[]
theorem AJ4 (hI:StI s) (hl:l.length<=1000000) (to:AI):(Chk s l to/\I5 s l to=some 0)\/(¬Chk s l to/\I5 s l to=some 1):=by
 suffices h:∃ b,I5 s l to=some b/\((Chk s l to/\b=0)\/(¬Chk s l to/\b=1)) by
  obtain⟨b,h1,⟨h2,rfl⟩|⟨h2,rfl⟩⟩:=h
  ·exact .inl ⟨h2,h1⟩
  ·exact .inr ⟨h2,h1⟩
 unfold I5 zao zay
 obtain⟨b,b1,b2⟩:=sR s hI
 rw[b1,AW]
 cases b with
 |false=>exact⟨1,rfl,.inr ⟨fun h=>absurd (b2.2 h.vs) ARL,rfl⟩⟩
 |true=>
  have hv:=b2.1 rfl
  rw[AE (show ¬(!true)=true by decide)]
  refine AK (fun k (st:Int×List (Int×Bool))=>st.1=(k:Int)/\(∀ q,(QH st.2 q).getD false=true↔q∈AV (l.take k))/\(∀ i∈l.take k,AYL s i/\i.2.2.2.2≠0)/\(AV (l.take k)).Nodup)
   (fun b=>(Chk s l to/\b=0)\/(¬Chk s l to/\b=1)) l.length ?_ ?_ (s:=((0:Int),([]:List (Int×Bool)))) ⟨rfl,fun q=>by simp [QH,AV],fun i hi=>absurd hi (by simp),dP⟩
  ·rintro k ⟨i,mp⟩ hk ⟨h1,h2,h3,h4⟩
   simp only at h1 h2 ⊢
   subst h1
   have ht:l.take (k+1)=l.take k++ [gl ((0,0,0,0,0):AI) l k]:=by
    rw[AM3,AE7 (d:=((0,0,0,0,0):AI)) hk];rfl
   have SN:gl ((0,0,0,0,0):AI) l k∈l:=B3 hk
   rw[ab,ab,HM]
   generalize hx:gl ((0,0,0,0,0):AI) l k=x at*
   obtain⟨v,v1,v2⟩:=AYM hI x
   rw[show (x.1,x.2.1,x.2.2.1,x.2.2.2)=x from rfl,v1,AW]
   by_cases hv0:v.2=0
   rotate_left
   ·rw[AA hv0]
    exact .inr ⟨_,rfl,.inr ⟨fun h=>hv0 (v2.2 ⟨hv,(h.ob x SN).1⟩),rfl⟩⟩
   rw[AE (DQ hv0)]
   by_cases hw:x.2.2.2.2=0
   ·rw[AA hw]
    exact .inr ⟨_,rfl,.inr ⟨fun h=>(h.ob x SN).2 hw,rfl⟩⟩
   rw[AE hw]
   by_cases hs:(QH mp x.1).getD false=true
   ·rw[AA hs]
    refine .inr ⟨_,rfl,.inr ⟨fun h=> ?_,rfl⟩⟩
    have hn:=h.nd
    have h5:(AV (l.take (k+1))).Nodup:=by
     have:(AV (l.take (k+1))).Sublist (AV l):=(List.take_sublist (k+1) l).map _
     exact this.nodup hn
    rw[ht] at h5
    unfold AV at h5
    rw[YC,PB] at h5
    exact h5.2.2 x.1 ((h2 _).1 hs) x.1 (by simp) rfl
   rw[AE hs,ah (e:=(k:Int)+1)]
   have hns:x.1∉AV (l.take k):=fun h=>hs ((h2 _).2 h)
   have he:AV (l.take k++ [x])=AV (l.take k)++ [x.1]:=by simp [AV]
   refine .inl ⟨_,rfl,by simp only;omega,fun q=> ?_, ?_, ?_⟩
   ·simp only
    rw[A2O,ht,he,FG,GG]
    by_cases hq:q=x.1
    ·rw[AA hq];simp [hq]
    ·rw[AE hq,h2 q];simp [hq]
   ·intro i hi
    rw[ht] at hi
    rcases FG.1 hi with hi|hi
    ·exact h3 i hi
    ·rw[GG.1 hi];exact⟨(v2.1 hv0).2,hw⟩
   ·rw[ht,he,PB]
    exact⟨h4,by simp,fun a ha b hb xV=>by rw[GG.1 hb] at xV;exact hns (xV ▸ ha)⟩
  ·rintro⟨i,mp⟩ ⟨h1,h2,h3,h4⟩
   simp only at h1 h2 ⊢
   rw[VD] at h2 h3 h4
   rw[af]
   refine map_inr ?_
   obtain⟨b,b1,b3⟩:=sU hI to
   rw[b1,AW]
   cases b with
   |false=>exact⟨1,rfl,.inr ⟨fun h=>absurd (b3.2 ⟨hv,h.fit⟩) ARL,rfl⟩⟩
   |true=>
    rw[AE (show ¬(!true)=true by decide)]
    have hf:=(b3.1 rfl).2
    by_cases hs:(QH mp to.1).getD false=true
    ·rw[AA hs]
     exact⟨1,rfl,.inr ⟨fun h=>h.out ((h2 _).1 hs),rfl⟩⟩
    rw[AE hs]
    have hn:=hv.n.2
    refine AK (fun k (st:Int)=>st=(k:Int)/\∀ j:Int,0<=j->j<k->to.2.2.2.2=0->(fr s.2.2 j).1≠to.1) _ s.2.2.length ?_ ?_ (s:=(0:Int)) ⟨rfl,fun j j0 j1=>by omega⟩
    ·rintro k st hk ⟨rfl,g2⟩
     have MO:gl (0,0,0) s.2.2 (k:Int).toNat=fr s.2.2 k:=rfl
     rw[ab,ab,MO,ah (e:=(k:Int)+1)]
     have M_:¬(to.2.2.2.2=0/\(fr s.2.2 k).1=to.1)->∀ j:Int,0<=j->j<(k+1:Nat)->to.2.2.2.2=0->(fr s.2.2 j).1≠to.1:=by
      intro hh j j0 j1 hw he
      by_cases hj:j=k
      ·subst hj;exact hh ⟨hw,he⟩
      ·exact g2 j j0 (by omega) hw he
     by_cases hw:to.2.2.2.2=0
     ·rw[AA hw]
      by_cases ho:(fr s.2.2 k).1=to.1
      ·rw[AA ho]
       refine .inr ⟨_,rfl,.inr ⟨fun h=> ?_,rfl⟩⟩
       have:=h.own hw
       have hm:(k:Int)∈owned s.2.2 to.1:=B6.2 ⟨⟨by omega,by omega⟩,ho⟩
       rw[this] at hm;cases hm
      ·rw[AE ho]
       exact .inl ⟨_,rfl,by omega,M_ fun h=>ho h.2⟩
     ·rw[AE hw]
      exact .inl ⟨_,rfl,by omega,M_ fun h=>hw h.1⟩
    ·rintro st ⟨rfl,g2⟩
     rw[af]
     refine⟨_,rfl,.inl ⟨⟨hv,h3,h4,hf,fun h=>hs ((h2 _).2 h),fun hw=> ?_⟩,rfl⟩⟩
     apply AJA.2
     intro x hx
     obtain⟨⟨x0,x1⟩,x2⟩:=B6.1 hx
     exact g2 x x0 x1 hw x2
noncomputable def L4 (i3 dst refs:Int) (s4:Int×Cp):Option ((Int×Cp) ⊕ ((Int×Cp) ⊕ (Sp×AI×List (Int×Int)×List (BitVec 64)×Int))):=
 if s4.1<=refs then
 (I6 s4.2.1 dst s4.1).bind (fun r9=>
 if 0<=r9/\r9<(s4.2.1.2.1.length:Int) then
 (EA s4.2 (gl (0#64:(BitVec 64)) s4.2.1.2.1 r9.toNat)).bind (fun ID=>
 if ¬ID.2.1=0 then
 (G4 ID.2.1).bind (fun OC=>
 some (Sum.inr (Sum.inr ((OC.1,OC.2.1,OC.2.2.1,OC.2.2.2.1,OC.2.2.2.2)))))
 else if 0<=r9/\r9<(ID.2.2.1.2.1.length:Int) then
 some (Sum.inl ((AG (s4.1+1),((ID.2.2.1.1,ID.2.2.1.2.1.set r9.toNat ID.1,ID.2.2.1.2.2),ID.2.2.2))))
 else none)
 else none)
 else some (Sum.inr (Sum.inl ((AG (i3+1),s4.2))))
noncomputable def L3 (MP:List (BitVec 64)) (s3:Int×Cp):Option ((Int×Cp) ⊕ (Sp×AI×List (Int×Int)×List (BitVec 64)×Int)):=
 if s3.1<(s3.2.2.2.2.length:Int) then
 if 0<=s3.1/\s3.1<(s3.2.2.2.2.length:Int) then
 if 0<=((gl ((0,0):(Int×Int)) s3.2.2.2.2 s3.1.toNat).2)/\((gl ((0,0):(Int×Int)) s3.2.2.2.2 s3.1.toNat).2)<(s3.2.1.2.1.length:Int) then
 (FB (gl (0#64:(BitVec 64)) s3.2.1.2.1 (((gl ((0,0):(Int×Int)) s3.2.2.2.2 s3.1.toNat).2).toNat))).bind (fun r8=>
 AH (L4 s3.1 ((gl ((0,0):(Int×Int)) s3.2.2.2.2 s3.1.toNat).2) r8.1) ((1,s3.2)))
 else none
 else none
 else some (Sum.inr ((s3.2.1,s3.2.2.2.1,s3.2.2.2.2,MP,0)))
noncomputable def L2 (ws:List (BitVec 64)) (s2:Int×Cp×List (BitVec 64)):Option ((Int×Cp×List (BitVec 64)) ⊕ (Sp×AI×List (Int×Int)×List (BitVec 64)×Int)):=
 if s2.1<(ws.length:Int) then
 if 0<=s2.1/\s2.1<(ws.length:Int) then
 (EA s2.2.1 (gl (0#64:(BitVec 64)) ws s2.1.toNat)).bind (fun r6=>
 if ¬r6.2.1=0 then
 (G4 r6.2.1).bind (fun r7=>
 some (Sum.inr ((r7.1,r7.2.1,r7.2.2.1,r7.2.2.2.1,r7.2.2.2.2))))
 else if 0<=s2.1/\s2.1<(s2.2.2.length:Int) then
 some (Sum.inl ((AG (s2.1+1),r6.2.2,s2.2.2.set s2.1.toNat r6.1)))
 else none)
 else none
 else Option.map Sum.inr (AH (L3 s2.2.2) ((0,s2.2.1)))
theorem AQS (hI:StI s) (hl:l.length<=1000000) (to:AI) (ws:List (BitVec 64)) (h:¬Chk s l to):D3 s l to ws=some ((0,[],[]),(0,0,0,0,0),[],[],1):=by
 unfold D3 zau
 rcases AJ4 hI hl to with ⟨h1,_⟩|⟨_,h1⟩
 ·exact absurd h1 h
 rw[h1];rfl
variable {ws:List (BitVec 64)}
theorem z9 (hI:StI s) (hl:l.length<=1000000) (hw:ws.length<=1000000) (h:Chk s l to) {Q:(Sp×AI×List (Int×Int)×List (BitVec 64)×Int)->Prop}
  (hq:∀ m,NS (AV l) s.2.2 m->∃ b,AH (L2 ws) (0,(s,m,to,[]),ws)=some b/\Q b):∃ b,D3 s l to ws=some b/\Q b:=by
 have W7:=VS.IK h.vs
 have hn:=h.vs.n.2
 unfold D3 zau
 rcases AJ4 hI hl to with ⟨_,h1⟩|⟨h1,_⟩
 rotate_left
 ·exact absurd h h1
 obtain⟨w,w1,w2⟩:=z8 hn (l:=l) (by omega)
 rw[h1,AW,AE (DQ rfl),ATW (by omega) (by omega),AW,w1,AW]
 have hb:∀ k,k<(KP w).length->∃ j,j<64/\(KP w)[k]? =some j/\gl (0:Int) ((KP w).map fun k:Nat=>(k:Int)) k=(j:Int):=by
  intro k hk
  have h2:(KP w)[k]∈KP w:=ABI hk
  refine⟨(KP w)[k],(AJ3.1 h2).1,O6 hk, ?_⟩
  rw[DJ (by rw[V6];exact hk),rH]
 refine AK (fun k (st:Int×Cp)=>st.1=(k:Int)/\∃ acc,st.2=(s,acc,to,[])/\∀ j,j<64->acc.getLsbD j=decide (j∈(KP w).take k)) Q (KP w).length ?_ ?_ ⟨rfl,_,rfl,fun j hj=>by simp⟩
 ·rintro k ⟨i,st⟩ hk ⟨g1,acc,rfl,g2⟩
  simp only at g1 ⊢
  subst g1
  obtain⟨j,j1,j2,j3⟩:=hb k hk
  have hbl:=ACS w
  rw[V6,ab,ab,AA trivial,HM,j3,sG (by omega) (by omega),HM,ah (e:=(k:Int)+1)]
  refine .inl ⟨_,rfl,by simp only;omega,_,rfl,fun q hq=> ?_⟩
  rw[AEA _ _ j1,g2 q hq,AM3,j2,←Bool.decide_or,jL,FG]
  simp [eq_comm]
 ·rintro⟨i,st⟩ ⟨g1,acc,rfl,g2⟩
  simp only at g1 ⊢
  subst g1
  rw[V6,af]
  refine map_inr ?_
  have hcw:N1 ws=some ws:=by
   unfold N1
   rw[AA (by simp only[SK];omega)];rfl
  rw[hcw,AW]
  refine hq acc fun j hj=> ?_
  have hbj:decide (j∈KP w)=w.getLsbD j:=by
   rw[jN,P5,AJ3]
   exact⟨fun h=>h.2,fun h=>⟨hj,h⟩⟩
  rw[g2 j hj,←w2 j hj,VD,hbj]
theorem tB.fn {C:List Int} {s:Sp} {to:AI} (hc:Cy C s to) {x v v2:BitVec 64} {e e2:Int} {t t2:Sp} {I2 to2:AI} {mm mm2:List (Int×Int)} (h:tB C s to x v e t I2 mm) (h2:tB C s to x v2 e2 t2 to2 mm2):
  v2=v/\e2=e/\t2=t/\to2=I2 /\mm2=mm:=by
 have grow:∀ {n:Int},1<=n->n<=48->((C1 s.2.2).length:Int)<cl (sz s.1) (to.2.2.2.2+n)-cl (sz s.1) to.2.2.2.2->∀ {u:Sp} {j:AI} {b:Int} {l l' :List Int},Grown s to n u j b l l' ->False:=by
  intro n n0 n1 hf u j b l l' g
  have h1:=g.AI4
  have h2:=g.A1N
  have h3:=KL List.length g.more
  rw[PQ,jM] at h3
  omega
 have dh:∀ {r d:Int},hd (Z0 s x)=some (r,d)->wI (Z0 s x)=(r,d,0,false,0):=fun hh=>SA hh
 have AYN:∀ {r d:Int},hd (Z0 s x)=some (r,d)->1<=1+r+d/\1+r+d<=48:=fun hh=>by
  obtain⟨⟨r0,r1⟩,d0,d1⟩:=JN hh
  simp only at r0 r1 d0 d1
  omega
 cases h with
 |out a=>
  cases h2 with
  |out=>exact⟨rfl,rfl,rfl,rfl,rfl⟩
  |gZ b=>exact absurd b a
  |bad b=>exact absurd b a
  |g_ b=>exact absurd b a
  |full b=>exact absurd b a
  |MP b=>exact absurd b a
 |gZ a a0 a1=>
  cases h2 with
  |out b=>exact absurd a b
  |gZ=>exact⟨rfl,rfl,rfl,rfl,rfl⟩
  |bad b b0=>exact absurd a0 b0
  |g_ b hh=>rw[dh hh] at a1;cases a1
  |full b hh=>rw[dh hh] at a1;cases a1
  |MP b hh=>rw[dh hh] at a1;cases a1
 |bad a a0=>
  cases h2 with
  |out b=>exact absurd a b
  |gZ b b0=>exact absurd b0 a0
  |bad=>exact⟨rfl,rfl,rfl,rfl,rfl⟩
  |g_ b hh=>rw[dh hh] at a0;exact absurd rfl a0
  |full b hh=>rw[dh hh] at a0;exact absurd rfl a0
  |MP b hh=>rw[dh hh] at a0;exact absurd rfl a0
 |g_ a hh hl ha=>
  cases h2 with
  |out b=>exact absurd a b
  |gZ b b0 b1=>rw[dh hh] at b1;cases b1
  |bad b b0=>rw[dh hh] at b0;exact absurd rfl b0
  |g_=>exact⟨rfl,rfl,rfl,rfl,rfl⟩
  |full b v8 lU ha' =>
   rw[hh] at v8
   obtain⟨rfl,rfl⟩:=tR (HO v8)
   obtain rfl:=hl.fn lU
   rw[ha] at ha';cases ha'
  |MP b v8 lU ha' =>
   rw[hh] at v8
   obtain⟨rfl,rfl⟩:=tR (HO v8)
   obtain rfl:=hl.fn lU
   rw[ha] at ha';cases ha'
 |full a hh hl ha hf=>
  cases h2 with
  |out b=>exact absurd a b
  |gZ b b0 b1=>rw[dh hh] at b1;cases b1
  |bad b b0=>rw[dh hh] at b0;exact absurd rfl b0
  |g_ b v8 lU ha' =>
   rw[hh] at v8
   obtain⟨rfl,rfl⟩:=tR (HO v8)
   obtain rfl:=hl.fn lU
   rw[ha] at ha';cases ha'
  |full=>exact⟨rfl,rfl,rfl,rfl,rfl⟩
  |MP b v8 lU ha' g=>
   rw[hh] at v8
   obtain⟨rfl,rfl⟩:=tR (HO v8)
   exact (grow (AYN hh).1 (AYN hh).2 hf g).elim
 |MP a hh hl ha g=>
  cases h2 with
  |out b=>exact absurd a b
  |gZ b b0 b1=>rw[dh hh] at b1;cases b1
  |bad b b0=>rw[dh hh] at b0;exact absurd rfl b0
  |g_ b v8 lU ha' =>
   rw[hh] at v8
   obtain⟨rfl,rfl⟩:=tR (HO v8)
   obtain rfl:=hl.fn lU
   rw[ha] at ha';cases ha'
  |full b v8 lU ha' hf=>
   rw[hh] at v8
   obtain⟨rfl,rfl⟩:=tR (HO v8)
   exact (grow (AYN hh).1 (AYN hh).2 hf g).elim
  |MP b v8 lU ha' g' =>
   rw[hh] at v8
   obtain⟨rfl,rfl⟩:=tR (HO v8)
   obtain rfl:=hl.fn lU
   obtain⟨e1,rfl,rfl⟩:=g.unique g'
   subst e1
   have h1:=g.more
   have h2:=g'.more
   have b_:=K_ g.has g'.has
   subst b_
   have h3:_=_:=g.AI4.trans g'.AI4.symm
   rw[show (List.length _:Nat)=List.length _ from Int.ofNat.inj h3] at h1
   rw[h1,←h2]
   exact⟨rfl,rfl,rfl,rfl,rfl⟩
structure OW (s:Sp) (i:AI) (l:List Int) (p a:Int) (x:Int×Int):Prop where
 has:Has s i l
 FZ:CM (sz s.1) l p=some a
 h:hd (gl 0#64 s.2.1 a.toNat)=some x
 p0:0<=p
 p1:p+(1+x.1+x.2)<=i.2.2.2.2
variable {p:Int}
theorem OW.vN (hv:VS s) (hf:DB s i) {l:List Int} {x:Int×Int} (h:OW s i l p a x) {k:Int} (k0:0<=k) (k1:k<=x.1+x.2):∃ y,CM (sz s.1) l (p+k)=some y:=by
 have:=h.p0
 have:=h.p1
 exact tD hv hf h.has (by omega) (by omega)
theorem OW.go (hv:VS s) (hf:DB s i) {l:List Int} {x:Int×Int} (h:OW s i l p a x) {k:Int} (k0:0<=k) (k1:k<=1000):
  AX s a k=some (VR (CM (sz s.1) l (p+k))):=by
 have z:=BU s.1
 have h3:=h.p0
 have h4:=h.p1
 obtain⟨⟨r0,r1⟩,d0,d1⟩:=JN h.h
 obtain⟨⟨a0,a1⟩,am,_,ho,_⟩:=CH hv hf h.has h3 h.FZ
 rcases h.has with ⟨hw,_⟩|⟨hw,hp⟩
 ·omega
 obtain⟨l2,q1,q2,q3⟩:=KF z hp h3 h.FZ k0
 rw[bW hv a0 a1 (by rw[ho];have:=hf.1.1;omega) k0 (by omega) q1,q3]
theorem OW.look (hv:VS s) (hf:DB s i) {l:List Int} {x:Int×Int} (h:OW s i l p a x):BD s a=some (x.1,x.2,0):=by
 have h3:=h.p0
 obtain⟨⟨r0,r1⟩,d0,d1⟩:=JN h.h
 obtain⟨⟨a0,a1⟩,_⟩:=CH hv hf h.has h3 h.FZ
 have g0:=h.go hv hf (k:=0) (by omega) (by omega)
 rw[b7,h.FZ] at g0
 obtain⟨y,hy⟩:=h.vN hv hf (k:=x.1+x.2) (by omega) (by omega)
 have g1:=h.go hv hf (k:=x.1+x.2) (by omega) (by omega)
 rw[hy] at g1
 unfold BD
 rw[g0,AW,AE (by simp [VR]),AA ⟨a0,a1⟩,qM,AW,SA h.h,AE (by simp),AE (by simp)]
 simp only
 rw[ah,g1,AW,AE (by simp [VR])]
theorem OW.fields (hv:VS s) (hf:DB s i) {l:List Int} {x:Int×Int} (h:OW s i l p a x):
  B_ s a=some (YQ (sz s.1) l p x.1.toNat,0):=by
 obtain⟨⟨r0,r1⟩,d0,d1⟩:=JN h.h
 unfold B_
 rw[h.look hv hf,AW,AE (by simp)]
 refine (AK (fun k (st:List Int×Int)=>st=(YQ (sz s.1) l p k,(k:Int))) (fun b=>b=(YQ (sz s.1) l p x.1.toNat,(0:Int))) x.1.toNat ?_ ?_ (s:=([],0)) rfl).elim fun b hb=>by rw[hb.1,hb.2]
 ·rintro k st hk rfl
  left
  simp only
  rw[ab,ah (e:=1+(k:Int)),h.go hv hf (by omega) (by omega),AW,AA (by simp only[LO,Q5];omega),ah]
  exact⟨_,rfl,rfl⟩
 ·rintro st rfl
  simp only
  rw[af]
  exact⟨_,rfl,rfl⟩
structure WI (C:List Int) (t:Sp) (to:AI) (lb:List Int) (ps:List (Int×Int×Int)) (mv:List (Int×Int)):Prop where
 cy:Cy C t to
 has:Has t to lb
 pl:ps.length=mv.length
 ow:∀ k,k<mv.length->OW t to lb (gl (0,0,0) ps k).1 (gl (0,0) mv k).2 (gl (0,0,0) ps k).2
 ord:∀ j k,j<k->k<mv.length->(gl (0,0,0) ps j).1+(1+(gl (0,0,0) ps j).2.1+(gl (0,0,0) ps j).2.2)<=(gl (0,0,0) ps k).1
 ml:(mv.length:Int)<=to.2.2.2.2
variable {ps:List (Int×Int×Int)} {lb:List Int} {t:Sp}
theorem WI.W3 (c:WI C t to lb ps mv):mv.length<=16384:=by
 have:=c.ml
 have h1:=c.cy.fit.1
 have:=VS.IK c.cy.vs
 omega
theorem WI.start (hc:Cy C s to):∃ lb,WI C s to lb [] []:=by
 obtain⟨lb,h1,_⟩:=hc.fit.has hc.vs
 have:=hc.fit.1
 exact⟨lb,hc,h1,rfl,fun k hk=>by simp at hk,fun j k _ hk=>by simp at hk,by simp only[SK];omega⟩
variable {mm:List (Int×Int)} {v:BitVec 64}
theorem WI.move (c:WI C s to lb ps mv) {x:BitVec 64} {e:Int} {I2 :AI} (hm:tB C s to x v e t I2 mm) (he:e=0):
  ∃ lH ps',WI C t I2 lH ps' (mv++mm)/\(∃ r,ps' =ps++r)/\∃ r,lH =lb++r:=by
 obtain⟨cy',_,XU,W7,uC,AIP,_,_⟩:=tB.cy c.cy hm
 cases hm with
 |out|gZ=>exact⟨lb,ps,by rw[FP];exact c,⟨[],by rw[FP]⟩,[],by rw[FP]⟩
 |bad|g_|full=>cases he
 | @MP hw r d hh la hl e' ha u _ b l l' g=>
 have lG:=c.cy.fit.1
 obtain rfl:=K_ c.has g.has
 obtain⟨⟨r0,r1⟩,d0,d1⟩:=JN hh
 simp only at r0 r1 d0 d1
 have z:=BU s.1
 have hmw:=hO c.cy hw hh hl ha g rfl
 obtain⟨hm1,hm2,hm3,hm4⟩:=hmw
 have hgw:=g.words
 have vC:Has (s.1,(cpy (sz s.1) la (((x.toNat:Int)-1)%sz s.1) l' to.2.2.2.2 (1+r+d).toNat s.2.1).set ((x.toNat:Int)-1).toNat (fwd b),u.2.2) I2 l' := .inr ⟨by omega,g.path⟩
 have mG:=g.more
 have HN:=g.path.nodup
 have hx2:=hw.2.2
 refine⟨l',ps++ [(to.2.2.2.2,r,d)],⟨cy',vC,by simp [c.pl],fun k hk=> ?_,fun j k WC hk=> ?_, ?_⟩,⟨_,rfl⟩,_,mG⟩
 ·by_cases hkm:k<mv.length
  ·have o:=c.ow k hkm
   rw[JM (xs:=ps) (by rw[c.pl];exact hkm),JM hkm]
   have RX:CM (sz s.1) l' (gl (0,0,0) ps k).1=some (gl (0,0) mv k).2:=by rw[mG];exact CK o.FZ
   have hp0:=o.p0
   have rP:=o.p1
   have hor:=JN o.h
   refine⟨vC,RX, ?_,hp0,by omega⟩
   simp only
   rw[hm1 _ (CH c.cy.vs c.cy.fit c.has hp0 o.FZ).1.1 (fun hA=>hm4 _ _ RX hp0 (by rw[hA];exact hx2)) (fun i i0 i1 hi=> ?_)]
   ·exact o.h
   ·have:=F9 z HN (by omega) hp0 hi RX
    omega
  ·rw[PQ,Q5] at hk
   obtain rfl:k=mv.length:=by omega
   have e1:gl ((0,0,0):Int×Int×Int) (ps++ [(to.2.2.2.2,r,d)]) mv.length=(to.2.2.2.2,r,d):=by
    rw[DJ (by rw[PQ,c.pl];simp),AD7 (by rw[c.pl];exact EH _)]
    simp [c.pl]
   have e2:gl ((0,0):Int×Int) (mv++ [((x.toNat:Int)-1,b)]) mv.length=((x.toNat:Int)-1,b):=by
    rw[DJ (by rw[PQ];simp),AD7 (EH _)]
    simp
   rw[e1,e2]
   refine⟨vC,g.FZ, ?_,lG.2.2.2.2.1,by simp only;omega⟩
   have m0:=oA ((x.toNat:Int)-1) (show sz s.1≠0 by omega)
   obtain⟨q,hq⟩:=hB z ha (p:=((x.toNat:Int)-1)%sz s.1) m0 (by omega)
   have hqx:q=(x.toNat:Int)-1:=by
    cases la with
    |nil=>cases hq
    |cons f r' =>
     obtain⟨hf,_⟩:=hl
     rw[CM,AA (u4 _ z)] at hq
     have:=HO hq
     rw[<-this,←hf,tO]
     exact AB9 _ _
   simp only
   rw[hm2 0 (by omega) (by omega) b q (by rw[b7];exact g.FZ) (by rw[b7];exact hq),hqx]
   exact hh
 ·rw[PQ,Q5] at hk
  rw[JM (xs:=ps) (by rw[c.pl];omega)]
  by_cases hkm:k<mv.length
  ·rw[JM (xs:=ps) (by rw[c.pl];exact hkm)]
   exact c.ord j k WC hkm
  ·obtain rfl:k=mv.length:=by omega
   have e1:gl ((0,0,0):Int×Int×Int) (ps++ [(to.2.2.2.2,r,d)]) mv.length=(to.2.2.2.2,r,d):=by
    rw[DJ (by rw[PQ,c.pl];simp),AD7 (by rw[c.pl];exact EH _)]
    simp [c.pl]
   rw[e1]
   exact (c.ow j (by omega)).p1
 ·have:=c.ml
  rw[PQ,Q5]
  omega
theorem WI.write (c:WI C t to lb ps mv) (hk:k<mv.length) {i y:Int} (i0:1<=i) (i1:i<=(gl (0,0,0) ps k).2.1) (hy:CM (sz t.1) lb ((gl (0,0,0) ps k).1+i)=some y) (v:BitVec 64):
  WI C (t.1,t.2.1.set y.toNat v,t.2.2) to lb ps mv:=by
 have z:=BU t.1
 have o:=c.ow k hk
 have hp0:=o.p0
 have rP:=o.p1
 obtain⟨⟨r0,r1⟩,d0,d1⟩:=JN o.h
 obtain⟨⟨y0,y1⟩,_,_,hyo,_⟩:=CH c.cy.vs c.cy.fit c.has (by omega) hy
 have lG:=c.cy.fit.1
 refine⟨⟨c.cy.vs.word y0 (by rw[hyo];omega) v,DB.words (s:=t) (ws:=t.2.1.set y.toNat v) (by rw[EG]) c.cy.fit,c.cy.own,c.cy.out,c.cy.nn⟩,c.has,c.pl,fun j hj=> ?_,c.ord,c.ml⟩
 have oj:=c.ow j hj
 refine⟨c.has,oj.FZ, ?_,oj.p0,oj.p1⟩
 simp only
 have hjy:=(CH c.cy.vs c.cy.fit c.has oj.p0 oj.FZ).1
 rw[qN,oj.h]
 intro he
 have xN :(gl ((0,0):Int×Int) mv j).2=y:=by omega
 have RX:=oj.FZ
 rw[xN] at RX
 have hpp:=F9 z (YP c.has) oj.p0 (by omega) RX hy
 obtain⟨⟨r0',r1'⟩,d0',d1'⟩:=JN oj.h
 rcases Nat.lt_trichotomy j k with h|h|h
 ·have:=c.ord j k h hk;omega
 ·subst h;omega
 ·have:=c.ord k j h hj;omega
abbrev AVN:Type:=Sp×AI×List (Int×Int)×List (BitVec 64)×Int
def W4 (e:Int):AVN:=((0,[],[]),(0,0,0,0,0),[],[],e)
theorem A02 (e:Int):G4 e=some (W4 e):=rfl
noncomputable def R2 (S:List Int) (d:Int) (s3:Int×Wk):Option ((Int×Wk) ⊕ ((Int×Wk) ⊕ RunT)):=
 if s3.1<(S.length:Int) then
 if 0<=s3.1/\s3.1<(S.length:Int) then
 if 0<=(gl (0:Int) S s3.1.toNat)/\(gl (0:Int) S s3.1.toNat)<(s3.2.1.2.1.length:Int) then
 (B9 s3.2 (gl (0#64:(BitVec 64)) s3.2.1.2.1 ((gl (0:Int) S s3.1.toNat).toNat))).bind (fun r3=>
 if 0<=(gl (0:Int) S s3.1.toNat)/\(gl (0:Int) S s3.1.toNat)<(r3.2.1.2.1.length:Int) then
 some (Sum.inl ((AG (s3.1+1),((r3.2.1.1,r3.2.1.2.1.set ((gl (0:Int) S s3.1.toNat).toNat) r3.1,r3.2.1.2.2),r3.2.2))))
 else none)
 else none
 else none
 else some (Sum.inr (Sum.inl ((AG (d+1),s3.2))))
noncomputable def R3 (z:Int) (out:List (BitVec 64)) (s2:Int×Wk):Option ((Int×Wk) ⊕ RunT):=
 if s2.1<(s2.2.2.2.2.1.length:Int) then
 if s2.2.2.2.2.2=0 then
 if 0<=s2.1/\s2.1<(s2.2.2.2.2.1.length:Int) then
 (B_ (z,s2.2.1.2) ((gl ((0,0):(Int×Int)) s2.2.2.2.2.1 s2.1.toNat).2)).bind (fun r2=>
 AH (R2 r2.1 s2.1) ((0,s2.2)))
 else none
 else some (Sum.inr ((s2.2.2.2.1,s2.2.2.2.2.1,out,s2.2.2.2.2.2,s2.2.1.2.1,s2.2.1.2.2)))
 else some (Sum.inr ((s2.2.2.2.1,s2.2.2.2.2.1,out,s2.2.2.2.2.2,s2.2.1.2.1,s2.2.1.2.2)))
noncomputable def R1 (z:Int) (ws:List (BitVec 64)) (s1:List (BitVec 64)×Int×Wk):Option ((List (BitVec 64)×Int×Wk) ⊕ RunT):=
 if s1.2.1<(ws.length:Int) then
 if 0<=s1.2.1/\s1.2.1<(ws.length:Int) then
 (B9 s1.2.2 (gl (0#64:(BitVec 64)) ws s1.2.1.toNat)).bind (fun r1=>
 if (s1.1.length+([r1.1]:List (BitVec 64)).length)*8<=140737488355328 then
 some (Sum.inl ((s1.1++([r1.1]:List (BitVec 64)),AG (s1.2.1+1),r1.2)))
 else none)
 else none
 else Option.map Sum.inr (AH (R3 z s1.1) ((0,s1.2.2)))
theorem AVO (s:Sp) (l:List AI) (to:AI) (ws:List (BitVec 64)):BQ s l to ws=AH (R1 s.1 ws) ([],0,(s,l,to,[],0)):=rfl
theorem AQT {S:List Int} {d:Int} {w:Wk} (he:w.2.2.2.2≠0) (hS:∀ j,j<S.length->0<=gl 0 S j/\gl 0 S j<w.1.2.1.length) (hSl:S.length<=1000) {j:Nat} (hj:j<=S.length):
  ∃ w',AH (R2 S d) ((j:Int),w)=some (Sum.inl (AG (d+1),w'))/\w'.2.2.2.2=w.2.2.2.2:=by
 obtain⟨b,h1,w',rfl,h2⟩:=PW (f:=R2 S d) (fun n (st:Int×Wk)=>∃ j:Nat,n+j=S.length/\st.1=(j:Int)/\st.2.2.2.2.2=w.2.2.2.2/\st.2.1.2.1.length=w.1.2.1.length) (fun b=>∃ w' :Wk,b=Sum.inl (AG (d+1),w')/\w'.2.2.2.2=w.2.2.2.2) (by
  rintro n ⟨jj,w1⟩ ⟨j,hn,h1,h2,h3⟩
  simp only at h1 h2 h3
  subst h1
  unfold R2
  simp only[HM]
  by_cases DY:j<S.length
  ·right
   obtain⟨s0,s1⟩:=hS j DY
   rw[ab,ab,ab,jG (by rw[h2];exact he),AW]
   simp only
   rw[ab,ah (e:=(j:Int)+1)]
   exact⟨n-1,_,by omega,rfl,j+1,by omega,by simp only;omega,h2,by simpa using h3⟩
  ·left
   rw[af]
   exact⟨_,rfl,_,rfl,h2⟩) (S.length-j) ((j:Int),w) ⟨j,by omega,rfl,rfl,rfl⟩
 exact⟨w',h1,h2⟩
theorem A2P {l:List Int} (h:Has s i l) {y:Int} (hy:CM (sz s.1) l p=some y):Pa s.2.2 i.2.2.1 l:=by
 rcases h with ⟨_,rfl⟩|⟨_,h⟩
 ·cases hy
 ·exact h
theorem inner (lE:l.length<=1000000) (c:WI (AV l) t to lb ps mv) (hm:NS (AV l) t.2.2 m) {d:Nat} (hd:d<mv.length):
  ∃ b,AH (L4 (d:Int) (gl (0,0) mv d).2 (gl (0,0,0) ps d).2.1) (1,((t,m,to,mv):Cp))=some b∧
   ∃ w',AH (R2 (YQ (sz t.1) lb (gl (0,0,0) ps d).1 (gl (0,0,0) ps d).2.1.toNat) d) (0,((t,l,to,mv,0):Wk))=some (Sum.inl ((d:Int)+1,w'))∧
   ((w'.2.2.2.2≠0/\b=Sum.inr (W4 w'.2.2.2.2))\/∃ t1 P8 rD ps1 JO,w' =(t1,l,P8,JO,0)/\b=Sum.inl ((d:Int)+1,(t1,m,P8,JO))/\WI (AV l) t1 P8 rD ps1 JO/\NS (AV l) t1.2.2 m/\t1.1=t.1/\∃ r,JO=mv++r):=by
 have o:=c.ow d hd
 have hml:=c.W3
 have W7:=VS.IK c.cy.vs
 have hp0:=o.p0
 have rP:=o.p1
 obtain⟨⟨r0,r1⟩,d0,d1⟩:=JN o.h
 have RX:=o.FZ
 generalize hP:(gl ((0,0,0):Int×Int×Int) ps d).1=p at*
 generalize hX:(gl ((0,0,0):Int×Int×Int) ps d).2=X at*
 generalize hD:(gl ((0,0):Int×Int) mv d).2=dst at*
 have hSl:(YQ (sz t.1) lb p X.1.toNat).length=X.1.toNat:=LO _ _ _ _
 have pA:∀ j:Nat,j<X.1.toNat->∃ y,CM (sz t.1) lb (p+(1+(j:Int)))=some y/\(0<=y/\y<t.2.1.length)/\gl 0 (YQ (sz t.1) lb p X.1.toNat) j=y:=by
  intro j hj
  obtain⟨y,hy⟩:=o.vN c.cy.vs c.cy.fit (k:=1+(j:Int)) (by omega) (by omega)
  exact⟨y,hy,(CH c.cy.vs c.cy.fit c.has (by omega) hy).1,by rw[qP hj,hy];rfl⟩
 generalize hSS:YQ (sz t.1) lb p X.1.toNat=S at*
 have hSr:∀ j,j<S.length->0<=gl 0 S j/\gl 0 S j<t.2.1.length:=by
  intro j hj
  obtain⟨y,_,h1,h2⟩:=pA j (by omega)
  rw[h2];exact h1
 have hdd:AG ((d:Int)+1)=(d:Int)+1:=ah
 refine AK (fun j (st:Int×Cp)=>st.1=1+(j:Int)/\∃ t1 P8 rD ps1 JO,st.2=(t1,m,P8,JO)/\WI (AV l) t1 P8 rD ps1 JO/\NS (AV l) t1.2.2 m/\t1.1=t.1/\t1.2.1.length=t.2.1.length/\(∃ r,JO=mv++r)/\(∃ r,ps1=ps++r)/\(∃ r,rD=lb++r)∧
   AH (R2 S d) (0,((t,l,to,mv,0):Wk))=AH (R2 S d) ((j:Int),((t1,l,P8,JO,0):Wk))) _ X.1.toNat ?_ ?_ ⟨by simp,t,to,lb,ps,mv,rfl,c,hm,rfl,rfl,⟨[],by simp⟩,⟨[],by simp⟩,⟨[],by simp⟩,rfl⟩
 ·rintro j ⟨jj,st⟩ hj ⟨vO,t1,P8,rD,ps1,JO,rfl,c1,hm1,XU,hl1,⟨rm,hrm⟩,⟨rp,hrp⟩,⟨rl,hrl⟩,heq⟩
  simp only at vO
  subst vO
  obtain⟨y,hy,⟨y0,y1⟩,hgl⟩:=pA j hj
  have hy1:CM (sz t1.1) rD (p+(1+(j:Int)))=some y:=by rw[XU,hrl];exact CK hy
  have yS:CM (sz t1.1) rD p=some dst:=by rw[XU,hrl];exact CK RX
  have N3:d<JO.length:=by rw[hrm,PQ];omega
  have A2Q:=c1.W3
  obtain⟨v,e,t2,to2,mm,M1,M2⟩:=qZ c1.cy hm1 (mv:=JO) (by omega) (gl 0#64 t1.2.1 y.toNat)
  obtain⟨v3,v',e3,t3,to3,mm3,M3,M4,M5⟩:=qO lE c1.cy (mv:=JO) (by omega) (gl 0#64 t1.2.1 y.toNat)
  obtain⟨rfl,rfl,rfl,rfl,rfl⟩:=M1.fn c1.cy M3
  obtain⟨cy2,A2R,AQU,A2S,A7W,A7X, -, -⟩:=tB.cy c1.cy M1
  have hR:R2 S d ((j:Int),((t1,l,P8,JO,0):Wk))=some (Sum.inl ((j:Int)+1,((t3.1,t3.2.1.set y.toNat v',t3.2.2),l,to3,JO++mm3,e3))):=by
   unfold R2
   simp only[HM]
   rw[ab,ab,hgl,ab,M4,AW]
   simp only
   rw[ab,ah (e:=(j:Int)+1)]
  rw[F4 (R2 S (d:Int)) ((j:Int),((t1,l,P8,JO,0):Wk)),hR] at heq
  simp only at heq
  unfold L4
  simp only
  rw[ab,AFK c1.cy.vs (A2P c1.has yS) hp0 yS (k:=1+(j:Int)) (by omega) (by omega),hy1,AW,show AB4 (some y)=y from rfl,ab,M2,AW]
  by_cases he:e3=0
  rotate_left
  ·right
   simp only
   rw[AA he,A02,AW]
   obtain⟨w',k1,k2⟩:=AQT (S:=S) (d:=(d:Int)) (w:=((t3.1,t3.2.1.set y.toNat v',t3.2.2),l,to3,JO++mm3,e3)) he (fun j hj=>by simp only[EG,A2S,hl1];exact hSr j hj) (by omega) (j:=j+1) (by omega)
   rw[show ((j+1:Nat):Int)=(j:Int)+1 from rfl,hdd] at k1
   refine⟨_,rfl,w',heq.trans k1,.inl ⟨by rw[k2];exact he, ?_⟩⟩
   rw[k2]
  ·left
   simp only
   rw[AE (DQ he),ab,ah (e:=1+(j:Int)+1)]
   obtain⟨lb2,ps2,c2,⟨q1,hq1⟩,q2,vR⟩:=c1.move M1 he
   have hgp:gl ((0,0,0):Int×Int×Int) ps2 d=gl (0,0,0) ps d:=by
    rw[hq1,hrp,JM (by rw[PQ,c.pl];omega),JM (by rw[c.pl];omega)]
   have hy2:CM (sz t3.1) lb2 ((gl ((0,0,0):Int×Int×Int) ps2 d).1+(1+(j:Int)))=some y:=by
    rw[hgp,hP,AQU,vR];exact CK hy1
   have c3:=c2.write (k:=d) (by rw[PQ];omega) (i:=1+(j:Int)) (by omega) (by rw[hgp,hX];omega) hy2 v'
   have hv:=M5 he
   subst hv
   refine⟨_,rfl,by simp only;omega,_,to3,lb2,ps2,JO++mm3,rfl,c3,A2R _ hm1,by rw[<-XU,←AQU],by simp only[EG];rw[A2S,hl1],⟨rm++mm3,by rw[hrm,I0]⟩,⟨rp++q1,by rw[hq1,hrp,I0]⟩,⟨rl++q2,by rw[vR,hrl,I0]⟩, ?_⟩
   rw[heq,he];rfl
 ·rintro⟨jj,st⟩ ⟨vO,t1,P8,rD,ps1,JO,rfl,c1,hm1,XU,hl1,hrm,hrp,hrl,heq⟩
  simp only at vO
  subst vO
  have hR:R2 S d (((X.1.toNat:Nat):Int),((t1,l,P8,JO,0):Wk))=some (Sum.inr (Sum.inl ((d:Int)+1,((t1,l,P8,JO,0):Wk)))):=by
   unfold R2
   simp only
   rw[af,hdd]
  rw[F4 (R2 S (d:Int)) (((X.1.toNat:Nat):Int),((t1,l,P8,JO,0):Wk)),hR] at heq
  unfold L4
  simp only
  rw[af,hdd]
  exact⟨_,rfl,_,heq,.inr ⟨t1,P8,rD,ps1,JO,rfl,rfl,c1,hm1,XU,hrm⟩⟩
theorem outer (lE:l.length<=1000000) (c:WI (AV l) t to lb ps mv) (hm:NS (AV l) t.2.2 m) (MP out:List (BitVec 64)):
  ∃ b,AH (L3 MP) (0,((t,m,to,mv):Cp))=some b/\∃ res:RunT,AH (R3 t.1 out) (0,((t,l,to,mv,0):Wk))=some res∧
   ((res.2.2.2.1≠0/\b=W4 res.2.2.2.1)\/∃ t1 P8 JO,res=(P8,JO,out,0,t1.2.1,t1.2.2)/\b=(t1,P8,JO,MP,0)/\t1.1=t.1/\VS t1/\JO.length<=16384):=by
 refine AK (fun d (st:Int×Cp)=>st.1=(d:Int)/\∃ t1 P8 rD ps1 JO,st.2=(t1,m,P8,JO)/\d<=JO.length/\WI (AV l) t1 P8 rD ps1 JO/\NS (AV l) t1.2.2 m/\t1.1=t.1∧
   AH (R3 t.1 out) (0,((t,l,to,mv,0):Wk))=AH (R3 t.1 out) ((d:Int),((t1,l,P8,JO,0):Wk))) _ 16385 ?_ ?_ ⟨rfl,t,to,lb,ps,mv,rfl,by omega,c,hm,rfl,rfl⟩
 ·rintro d ⟨dd,st⟩ hd ⟨hdd,t1,P8,rD,ps1,JO,rfl,N3,c1,hm1,XU,heq⟩
  simp only at hdd
  subst hdd
  have A2Q:=c1.W3
  have hts:((t.1,t1.2):Sp)=t1:=by rw[<-XU]
  by_cases DY:d<JO.length
  ·have o:=c1.ow d DY
   have hfs:=o.fields c1.cy.vs c1.cy.fit
   obtain⟨⟨a0,a1⟩,_⟩:=CH c1.cy.vs c1.cy.fit c1.has o.p0 o.FZ
   obtain⟨b,i1,w',i2,i3⟩:=inner lE c1 hm1 DY
   have hR:R3 t.1 out ((d:Int),((t1,l,P8,JO,0):Wk))=some (Sum.inl ((d:Int)+1,w')):=by
    unfold R3
    simp only[HM]
    rw[ab,AA trivial,ab,hts,hfs,AW]
    exact i2
   rw[F4 (R3 t.1 out) ((d:Int),((t1,l,P8,JO,0):Wk)),hR] at heq
   simp only at heq
   unfold L3
   simp only[HM]
   rw[ab,ab,AA ⟨a0,a1⟩,AFJ,AW,SA o.h]
   simp only
   rw[i1]
   rcases i3 with ⟨j1,rfl⟩|⟨t2,to2,lb2,ps2,mv2,rfl,rfl,c2,hm2,AQU,r,hr⟩
   ·right
    have hR2:R3 t.1 out ((d:Int)+1,w')=some (Sum.inr ((w'.2.2.1,w'.2.2.2.1,out,w'.2.2.2.2,w'.1.2.1,w'.1.2.2))):=by
     unfold R3
     simp only
     by_cases h1:(d:Int)+1<(w'.2.2.2.1.length:Int)
     ·rw[AA h1,AE j1]
     ·rw[AE h1]
    rw[F4 (R3 t.1 out) ((d:Int)+1,w'),hR2] at heq
    exact⟨_,rfl,_,heq,.inl ⟨j1,rfl⟩⟩
   ·left
    exact⟨_,rfl,rfl,t2,to2,lb2,ps2,mv2,rfl,by rw[hr,PQ];omega,c2,hm2,by rw[AQU,XU],heq⟩
  ·right
   have hR:R3 t.1 out ((d:Int),((t1,l,P8,JO,0):Wk))=some (Sum.inr ((P8,JO,out,0,t1.2.1,t1.2.2))):=by
    unfold R3
    simp only
    rw[af]
   rw[F4 (R3 t.1 out) ((d:Int),((t1,l,P8,JO,0):Wk)),hR] at heq
   unfold L3
   simp only
   rw[af]
   exact⟨_,rfl,_,heq,.inr ⟨t1,P8,JO,rfl,rfl,XU,c1.cy.vs,A2Q⟩⟩
 ·rintro⟨dd,st⟩ ⟨hdd,t1,P8,rD,ps1,JO,rfl,N3,c1,hm1,XU,heq⟩
  have:=c1.W3
  omega
theorem AQV {z:Int} (hQ:ws.length<=1000000) {w:Wk} (he:w.2.2.2.2≠0) {acc:List (BitVec 64)} (hk:k<=ws.length) (ha:acc.length=k):
  ∃ res:RunT,AH (R1 z ws) (acc,(k:Int),w)=some res/\res.2.2.2.1=w.2.2.2.2:=by
 refine PW (f:=R1 z ws) (fun n (st:List (BitVec 64)×Int×Wk)=>∃ j:Nat,n+j=ws.length/\st.2.1=(j:Int)/\st.1.length=j/\st.2.2.2.2.2.2=w.2.2.2.2) (fun res:RunT=>res.2.2.2.1=w.2.2.2.2) (by
  rintro n ⟨a,jj,w1⟩ ⟨j,hn,h1,h2,h3⟩
  simp only at h1 h2 h3
  subst h1
  have tW:w1.2.2.2.2≠0:=by rw[h3];exact he
  unfold R1
  simp only[HM]
  by_cases DY:j<ws.length
  ·right
   rw[ab,ab,jG tW,AW,AA (by simp only[Q5];omega),ah (e:=(j:Int)+1)]
   exact⟨n-1,_,by omega,rfl,j+1,by omega,by simp only;omega,by simp [h2],h3⟩
  ·left
   rw[af]
   have hR:R3 z a (0,w1)=some (Sum.inr ((w1.2.2.1,w1.2.2.2.1,a,w1.2.2.2.2,w1.1.2.1,w1.1.2.2))):=by
    unfold R3
    simp only
    by_cases h1:(0:Int)<(w1.2.2.2.1.length:Int)
    ·rw[AA h1,AE tW]
    ·rw[AE h1]
   rw[F4,hR]
   exact⟨_,rfl,h3⟩) (ws.length-k) (acc,(k:Int),w) ⟨k,by omega,rfl,ha,rfl⟩
theorem both (lE:l.length<=1000000) (hc:Cy (AV l) s to) (hm:NS (AV l) s.2.2 m) (hQ:ws.length<=1000000):
  ∃ b,AH (L2 ws) (0,((s,m,to,[]):Cp),ws)=some b/\∃ res:RunT,BQ s l to ws=some res∧
   ((res.2.2.2.1≠0/\b=W4 res.2.2.2.1)\/∃ t1 P8 JO out,res=(P8,JO,out,0,t1.2.1,t1.2.2)/\b=(t1,P8,JO,out,0)/\t1.1=s.1/\VS t1/\JO.length<=16384/\out.length=ws.length):=by
 rw[AVO]
 obtain⟨lb,c⟩:=WI.start hc
 refine AK (fun k (st:Int×Cp×List (BitVec 64))=>st.1=(k:Int)/\k<=ws.length/\∃ t1 P8 rD ps1 JO acc,st.2=((t1,m,P8,JO),acc++ws.drop k)/\acc.length=k/\WI (AV l) t1 P8 rD ps1 JO/\NS (AV l) t1.2.2 m/\t1.1=s.1∧
   AH (R1 s.1 ws) ([],0,((s,l,to,[],0):Wk))=AH (R1 s.1 ws) (acc,(k:Int),((t1,l,P8,JO,0):Wk))) _ ws.length ?_ ?_ ⟨rfl,by omega,s,to,lb,[],[],[],by simp,rfl,c,hm,rfl,rfl⟩
 ·rintro k ⟨kk,st⟩ hk ⟨HR,_,t1,P8,rD,ps1,JO,acc,rfl,ha,c1,hm1,XU,heq⟩
  simp only at HR
  subst HR
  have A2Q:=c1.W3
  obtain⟨v,e,t2,to2,mm,M1,M2⟩:=qZ c1.cy hm1 (mv:=JO) (by omega) (gl 0#64 ws k)
  obtain⟨v3,v',e3,t3,to3,mm3,M3,M4,M5⟩:=qO lE c1.cy (mv:=JO) (by omega) (gl 0#64 ws k)
  obtain⟨rfl,rfl,rfl,rfl,rfl⟩:=M1.fn c1.cy M3
  obtain⟨cy2,A2R,AQU,A2S,A7W,A7X, -, -⟩:=tB.cy c1.cy M1
  have hR:R1 s.1 ws (acc,(k:Int),((t1,l,P8,JO,0):Wk))=some (Sum.inl (acc++ [v'],(k:Int)+1,(t3,l,to3,JO++mm3,e3))):=by
   unfold R1
   simp only[HM]
   rw[ab,ab,M4,AW,AA (by simp only[Q5];omega),ah (e:=(k:Int)+1)]
  rw[F4 (R1 s.1 ws) (acc,(k:Int),((t1,l,P8,JO,0):Wk)),hR] at heq
  simp only at heq
  unfold L2
  simp only[HM]
  rw[ab,ab,M2,AW]
  by_cases he:e3=0
  rotate_left
  ·right
   simp only
   rw[AA he,A02,AW]
   obtain⟨res,k1,k2⟩:=AQV (z:=s.1) hQ (w:=(t3,l,to3,JO++mm3,e3)) he (acc:=acc++ [v']) (k:=k+1) (by omega) (by simp [ha])
   refine⟨_,rfl,res,heq.trans k1,.inl ⟨by rw[k2];exact he, ?_⟩⟩
   rw[k2]
  ·left
   obtain⟨lb2,ps2,c2,_,_⟩:=c1.move M1 he
   have hv:=M5 he
   subst hv
   simp only
   have hlen:(acc++ws.drop k).length=ws.length:=by rw[PQ,oD];omega
   rw[AE (DQ he),hlen,ab,ah (e:=(k:Int)+1)]
   refine⟨_,rfl,rfl,by omega,t3,to3,lb2,ps2,JO++mm3,acc++ [v'], ?_,by simp [ha],c2,A2R _ hm1,by rw[AQU,XU], ?_⟩
   ·have Y9:ws.drop k=gl 0#64 ws k::ws.drop (k+1):=by
     rw[DJ hk];exact AJB hk
    rw[Y9,ARA _ _ (by omega),ha,bL,AM1,I0]
    rfl
   ·rw[heq,he];rfl
 ·rintro⟨kk,st⟩ ⟨HR,_,t1,P8,rD,ps1,JO,acc,rfl,ha,c1,hm1,XU,heq⟩
  simp only at HR
  subst HR
  obtain⟨b,o1,res,o2,o3⟩:=outer lE c1 hm1 (acc++ws.drop ws.length) acc
  have hR:R1 s.1 ws (acc,((ws.length:Nat):Int),((t1,l,P8,JO,0):Wk))=some (Sum.inr res):=by
   unfold R1
   simp only
   rw[af,←XU,o2];rfl
  rw[F4 (R1 s.1 ws) (acc,((ws.length:Nat):Int),((t1,l,P8,JO,0):Wk)),hR] at heq
  unfold L2
  simp only
  rw[af,o1]
  refine⟨b,rfl,res,heq, ?_⟩
  rcases o3 with o3|⟨t2,to2,mv2,h1,h2,h3,h4,h5⟩
  ·exact .inl o3
  ·exact .inr ⟨t2,to2,mv2,acc,h1,by rw[h2,List.drop_length,FP],by rw[h3,XU],h4,h5,ha⟩
def dI (os:List (Int×Int)):Int:=(os.map fun x=>1+x.1+x.2).sum
theorem DK.dI {z:Int} {ws:List (BitVec 64)} {l:List Int} {W:Int}:∀ {os:List (Int×Int)} {a:Int},DK z ws l a os W->a+Go.Proofs.YtokeceeccmgcmaaGreatDoor.dI os=W
 | [],a,h=>by rw[DK] at h;unfold Go.Proofs.YtokeceeccmgcmaaGreatDoor.dI;simp;omega
 |o::r,a,h=>by
  have:=DK.dI h.2.2
  unfold Go.Proofs.YtokeceeccmgcmaaGreatDoor.dI at this ⊢
  rw[JS,bK]
  omega
inductive Rwd (s0:Sp) (l:List AI) (ws:List (BitVec 64)):Int->Prop
 |start {w:BitVec 64} (h:w∈ws) (hw:Wn (AV l) s0 w):Rwd s0 l ws ((w.toNat:Int)-1)
 |next {i:AI} {la:List Int} {oa:List (Int×Int)} {pa a:Int} {x:Int×Int} (hi:i∈l) (o:OB s0 i la oa pa a x) (ha:Rwd s0 l ws a) {j ya:Int} (j1:1<=j) (j2:j<=x.1) (hy:CM (sz s0.1) la (pa+j)=some ya) (hw:Wn (AV l) s0 (gl 0#64 s0.2.1 ya.toNat)):Rwd s0 l ws (((gl 0#64 s0.2.1 ya.toNat).toNat:Int)-1)
noncomputable def cpE (s:Sp) (l:List AI) (to:AI) (ws:List (BitVec 64)) (b:Bool):Option AVN:=
 if b=true then
 some (((0,[],[]),(0,0,0,0,0),[],[],1))
 else (BG s).bind (fun r4=>
 (BQ r4 l to ws).bind (fun r5=>
 if ¬r5.2.2.2.1=0 then
 some (((0,[],[]),(0,0,0,0,0),[],[],r5.2.2.2.1))
 else some (((r4.1,r5.2.2.2.2),r5.1,r5.2.1,r5.2.2.1,0))))
noncomputable def cpI (l:List AI) (k:Int) (s2:Bool×Int):Option ((Bool×Int) ⊕ ((Bool×Int) ⊕ AVN)):=
 if s2.2<((BF l 0 (k.toNat-0)).length:Int) then
 if 0<=s2.2/\s2.2<((BF l 0 (k.toNat-0)).length:Int) then
 if s2.1=true then
 some (Sum.inl ((true,AG (s2.2+1))))
 else some (Sum.inl ((decide (((gl ((0,0,0,0,0):AI) (BF l 0 (k.toNat-0)) s2.2.toNat).1)=((gl ((0,0,0,0,0):AI) l k.toNat).1)),AG (s2.2+1))))
 else none
 else some (Sum.inr (Sum.inl ((s2.1,AG (k+1)))))
noncomputable def uY (s:Sp) (l:List AI) (to:AI) (ws:List (BitVec 64)) (s1:Bool×Int):Option ((Bool×Int) ⊕ AVN):=
 if s1.2<(l.length:Int) then
 if (!s1.1)=true then
 if 0<=s1.2/\s1.2<(l.length:Int) then
 (C3 s (gl ((0,0,0,0,0):AI) l s1.2.toNat)).bind (fun r2=>
 if (!r2)=true then
 if Bd none (some s1.2) s1.2.toNat l.length then
 AH (cpI l s1.2) ((true,0))
 else none
 else if (gl ((0,0,0,0,0):AI) l s1.2.toNat).2.2.2.2=0 then
 if Bd none (some s1.2) s1.2.toNat l.length then
 AH (cpI l s1.2) ((true,0))
 else none
 else if ¬(((gl ((0,0,0,0,0):AI) l s1.2.toNat).1)=to.1) then
 (CE s (gl ((0,0,0,0,0):AI) l s1.2.toNat)).bind (fun r3=>
 if Bd none (some s1.2) s1.2.toNat l.length then
 AH (cpI l s1.2) ((decide (¬r3.2=0),0))
 else none)
 else if Bd none (some s1.2) s1.2.toNat l.length then
 AH (cpI l s1.2) ((decide (((gl ((0,0,0,0,0):AI) l s1.2.toNat).1)=to.1),0))
 else none)
 else none
 else Option.map Sum.inr (cpE s l to ws s1.1)
 else Option.map Sum.inr (cpE s l to ws s1.1)
theorem AQW (s:Sp) (l:List AI) (to:AI) (ws:List (BitVec 64)):G5 s l to ws=
  (C8 s).bind (fun r1=>
  if (!r1)=true then AH (uY s l to ws) (true,0)
  else (C3 s to).bind (fun r8=>
  if (!r8)=true then AH (uY s l to ws) (true,0)
  else if to.2.2.2.2=0 then
  (GS s to.1).bind (fun sI=>AH (uY s l to ws) (sI,0))
  else AH (uY s l to ws) (false,0))):=rfl
theorem iA (s:Sp) (l:List AI) (to:AI) (ws:List (BitVec 64)) (k:Int):AH (uY s l to ws) (true,k)=some (W4 1):=by
 have h:uY s l to ws (true,k)=some (Sum.inr (W4 1)):=by
  unfold uY cpE
  by_cases h:k<(l.length:Int)
  ·simp only
   rw[AA h,AE (by decide),AA trivial];rfl
  ·simp only
   rw[AE h,AA trivial];rfl
 rw[F4,h]
theorem A2T (hl:l.length<=1000000) (hk:k<l.length) (b:Bool):
  AH (cpI l (k:Int)) (b,0)=some (Sum.inl (b||decide (∃ j,j<k/\(gl ((0,0,0,0,0):AI) l j).1=(gl ((0,0,0,0,0):AI) l k).1),(k:Int)+1)):=by
 have hs:BF l 0 (k-0)=l.take k:=R_ l k
 have hln:(l.take k).length=k:=by rw[jM];omega
 refine ANZ (AK (fun m (st:Bool×Int)=>st.2=(m:Int)/\st.1=(b||decide (∃ j,j<m/\(gl ((0,0,0,0,0):AI) l j).1=(gl ((0,0,0,0,0):AI) l k).1))) _ k ?_ ?_ ⟨rfl,by simp⟩)
 ·rintro m ⟨c,mm⟩ hm ⟨h1,h2⟩
  simp only at h1 h2
  subst h1
  left
  unfold cpI
  simp only[HM]
  simp only[hs,hln]
  rw[ab,ab,ah (e:=(m:Int)+1)]
  have hg:gl ((0,0,0,0,0):AI) (l.take k) m=gl ((0,0,0,0,0):AI) l m:=by
   rw[DJ (by omega),DJ (by omega),List.getElem_take]
  have M_:(∃ j,j<m+1/\(gl ((0,0,0,0,0):AI) l j).1=(gl ((0,0,0,0,0):AI) l k).1)↔(∃ j,j<m/\(gl ((0,0,0,0,0):AI) l j).1=(gl ((0,0,0,0,0):AI) l k).1)\/(gl ((0,0,0,0,0):AI) l m).1=(gl ((0,0,0,0,0):AI) l k).1:=by
   constructor
   ·rintro⟨j,hj,he⟩
    by_cases hjm:j=m
    ·subst hjm;exact .inr he
    ·exact .inl ⟨j,by omega,he⟩
   ·rintro (⟨j,hj,he⟩|he)
    ·exact⟨j,by omega,he⟩
    ·exact⟨m,by omega,he⟩
  by_cases hc:c=true
  ·rw[AA hc]
   refine⟨_,rfl,rfl, ?_⟩
   rw[hc] at h2
   rcases oF _ _ ▸ h2.symm with h|h
   ·rw[h];rfl
   ·simp only
    rw[JR (M_.2 (.inl (SJ h)))];simp
  ·rw[AE hc]
   refine⟨_,rfl,rfl, ?_⟩
   have hc' :c=false:=by simpa using hc
   rw[hc'] at h2
   have hb:b=false:=by cases b with|true=>simp at h2|false=>rfl
   subst hb
   simp only[AM9] at h2 ⊢
   rw[hg,jL,M_]
   constructor
   ·exact .inr
   ·rintro (h|h)
    ·rw[JR h] at h2;cases h2
    ·exact h
 ·rintro⟨c,mm⟩ ⟨h1,h2⟩
  simp only at h1 h2
  subst h1
  unfold cpI
  simp only[HM]
  simp only[hs,hln]
  rw[af,ah (e:=(k:Int)+1)]
  exact⟨_,rfl,by rw[h2]⟩
def LOk (s:Sp) (l:List AI) (to:AI) (k:Nat):Prop:=
 (AYL s (gl ((0,0,0,0,0):AI) l k)/\(gl ((0,0,0,0,0):AI) l k).2.2.2.2≠0)/\(gl ((0,0,0,0,0):AI) l k).1≠to.1/\∀ j,j<k->(gl ((0,0,0,0,0):AI) l j).1≠(gl ((0,0,0,0,0):AI) l k).1
theorem A2U (hv:VS s) (hl:l.length<=1000000) (to:AI) (ws:List (BitVec 64)):
  ((∀ k,k<l.length->LOk s l to k)/\AH (uY s l to ws) (false,0)=cpE s l to ws false)\/(¬(∀ k,k<l.length->LOk s l to k)/\AH (uY s l to ws) (false,0)=some (W4 1)):=by
 have key:∀ n k:Nat,n+k=l.length->(∀ j,j<k->LOk s l to j)->((∀ k,k<l.length->LOk s l to k)/\AH (uY s l to ws) (false,(k:Int))=cpE s l to ws false)\/(¬(∀ k,k<l.length->LOk s l to k)/\AH (uY s l to ws) (false,(k:Int))=some (W4 1)):=by
  intro n
  induction n with
  |zero=>
   intro k hk hj
   refine .inl ⟨fun j bQ =>hj j (by omega), ?_⟩
   rw[F4]
   have:uY s l to ws (false,(k:Int))=Option.map Sum.inr (cpE s l to ws false):=by
    unfold uY
    simp only
    rw[af]
   rw[this]
   cases cpE s l to ws false <;> rfl
  |succ n ih=>
   intro k hk hj
   have xK:k<l.length:=by omega
   have hbd:Bd none (some (k:Int)) (k:Int).toNat l.length:=⟨by simp only;omega,trivial⟩
   have M_:∀ b,uY s l to ws (false,(k:Int))=AH (cpI l (k:Int)) (b,0)->AH (uY s l to ws) (false,(k:Int))=AH (uY s l to ws) (b||decide (∃ j,j<k/\(gl ((0,0,0,0,0):AI) l j).1=(gl ((0,0,0,0,0):AI) l k).1),((k+1:Nat):Int)):=by
    intro b hb
    rw[F4,hb,A2T hl xK]
    rfl
   obtain⟨f,f1,f2⟩:=AES hv (gl ((0,0,0,0,0):AI) l k)
   have dH:∀ b,b=true->(¬LOk s l to k)->uY s l to ws (false,(k:Int))=AH (cpI l (k:Int)) (b,0)->((∀ k,k<l.length->LOk s l to k)/\AH (uY s l to ws) (false,(k:Int))=cpE s l to ws false)\/(¬(∀ k,k<l.length->LOk s l to k)/\AH (uY s l to ws) (false,(k:Int))=some (W4 1)):=by
    intro b hb hn hf
    refine .inr ⟨fun h=>hn (h k xK), ?_⟩
    rw[M_ b hf,hb,Bool.true_or,iA]
   by_cases hfs:DB s (gl ((0,0,0,0,0):AI) l k)
   rotate_left
   ·refine dH true rfl (fun h=>hfs h.1.1.1) ?_
    have:f=false:=by
     cases f with
     |true=>exact absurd (f2.1 rfl) hfs
     |false=>rfl
    unfold uY
    simp only[HM]
    rw[ab,AA (by decide),ab,f1,AW,AA (by rw[this];rfl),AA (by simpa using hbd)]
   have hft:f=true:=f2.2 hfs
   by_cases hw:(gl ((0,0,0,0,0):AI) l k).2.2.2.2=0
   ·refine dH true rfl (fun h=>h.1.2 hw) ?_
    unfold uY
    simp only[HM]
    rw[ab,AA (by decide),ab,f1,AW,AE (by rw[hft];decide),AA hw,AA (by simpa using hbd)]
   by_cases lG:(gl ((0,0,0,0,0):AI) l k).1=to.1
   ·refine dH (decide ((gl ((0,0,0,0,0):AI) l k).1=to.1)) (JR lG) (fun h=>h.2.1 lG) ?_
    unfold uY
    simp only[HM]
    rw[ab,AA (by decide),ab,f1,AW,AE (by rw[hft];decide),AE hw,AE (DQ lG),AA (by simpa using hbd)]
   obtain⟨la,hla,_⟩:=hfs.has hv
   have QF:=AF1 hv hfs hla
   have A5J:∀ r:List Int×Int,CE s (gl ((0,0,0,0,0):AI) l k)=some r->uY s l to ws (false,(k:Int))=AH (cpI l (k:Int)) (decide (¬r.2=0),0):=by
    intro r hr
    unfold uY
    simp only[HM]
    rw[ab,AA (by decide),ab,f1,AW,AE (by rw[hft];decide),AE hw,AA lG,hr,AW,AA (by simpa using hbd)]
   cases ho:obs s (gl ((0,0,0,0,0):AI) l k) la with
   |none=>
    rw[ho] at QF
    refine dH _ (by simp) (fun h=> ?_) (A5J _ QF)
    obtain⟨_,l',os,h1,h2⟩:=h.1.1
    rw[K_ h1 hla,ho] at h2
    cases h2
   |some os=>
    rw[ho] at QF
    have hst:=M_ _ (A5J _ QF)
    rw[show decide (¬(os.map (fun x=>x.1),(0:Int)).2=0)=false from by simp,AM9] at hst
    by_cases AYO:∃ j,j<k/\(gl ((0,0,0,0,0):AI) l j).1=(gl ((0,0,0,0,0):AI) l k).1
    ·rw[JR AYO,iA] at hst
     refine .inr ⟨fun h=> ?_,hst⟩
     obtain⟨j,bQ,he⟩:=AYO
     exact (h k xK).2.2 j bQ he
    ·rw[P_ AYO] at hst
     rw[hst]
     refine ih (k+1) (by omega) fun j bQ => ?_
     by_cases WC:j=k
     ·subst WC
      exact⟨⟨⟨hfs,la,os,hla,ho⟩,hw⟩,lG,fun i hi he=>AYO ⟨i,hi,he⟩⟩
     ·exact hj j (by omega)
 exact key l.length 0 (by omega) fun j hj=>by omega
theorem AYP (hv:VS s) (hf:DB s to) (ho:to.2.2.2.2=0->owned s.2.2 to.1=[]):Chk s l to↔∀ k,k<l.length->LOk s l to k:=by
 constructor
 ·intro c k hk
  have hm:gl ((0,0,0,0,0):AI) l k∈l:=B3 hk
  refine⟨c.ob _ hm,fun he=>c.out (FC.2 ⟨_,hm,he⟩),fun j hj he=> ?_⟩
  have:=qR (d:=((0,0,0,0,0):AI)) (f:=fun i:AI=>i.1) c.nd (by omega) hk he
  omega
 ·intro h
  refine⟨hv,fun i hi=> ?_, ?_,hf,fun hC=> ?_,ho⟩
  ·obtain⟨k,hk,rfl⟩:=EF (d:=((0,0,0,0,0):AI)) hi
   exact (h k hk).1
  ·unfold AV
   rw[AR3,AG5,AFQ]
   intro i j hi hj rT he
   have:=(h j hj).2.2 i rT
   rw[DJ hi,DJ hj] at this
   exact this he
  ·obtain⟨i,hi,he⟩:=FC.1 hC
   obtain⟨k,hk,rfl⟩:=EF (d:=((0,0,0,0,0):AI)) hi
   exact (h k hk).2.1 he
theorem AJ5 (hl:l.length<=1000000) (to:AI) (ws:List (BitVec 64)):(Chk s l to/\G5 s l to ws=cpE s l to ws false)\/(¬Chk s l to/\G5 s l to ws=some (W4 1)):=by
 rw[AQW]
 obtain⟨b,b1,b2⟩:=i_ s
 rw[b1,AW]
 by_cases hv:VS s
 rotate_left
 ·have:b=false:=by
   cases b with
   |true=>exact absurd (b2.1 rfl) hv
   |false=>rfl
  rw[AA (by rw[this];rfl),iA]
  exact .inr ⟨fun h=>hv h.vs,rfl⟩
 rw[AE (by rw[b2.2 hv];decide)]
 obtain⟨f,f1,f2⟩:=AES hv to
 rw[f1,AW]
 by_cases hf:DB s to
 rotate_left
 ·have:f=false:=by
   cases f with
   |true=>exact absurd (f2.1 rfl) hf
   |false=>rfl
  rw[AA (by rw[this];rfl),iA]
  exact .inr ⟨fun h=>hf h.fit,rfl⟩
 rw[AE (by rw[f2.2 hf];decide)]
 have fin:(to.2.2.2.2=0->owned s.2.2 to.1=[])->(Chk s l to/\AH (uY s l to ws) (false,0)=cpE s l to ws false)\/(¬Chk s l to/\AH (uY s l to ws) (false,0)=some (W4 1)):=by
  intro ho
  rw[AYP hv hf ho]
  exact A2U hv hl to ws
 by_cases hw:to.2.2.2.2=0
 ·rw[AA hw]
  obtain⟨o,o1,o2⟩:=ANP hv.n.2 to.1
  rw[o1,AW]
  by_cases ho:owned s.2.2 to.1=[]
  ·have:o=false:=by
    cases o with
    |true=>exact absurd ho (o2.1 rfl)
    |false=>rfl
   rw[this]
   exact fin fun _=>ho
  ·rw[o2.2 ho,iA]
   exact .inr ⟨fun h=>ho (h.own hw),rfl⟩
 ·rw[AE hw]
  exact fin fun h=>absurd h hw
theorem copy_eq (hI:StI s) (hl:l.length<=1000000) (to:AI) (hQ:ws.length<=1000000):
  ∃ v:AVN,D3 s l to ws=some v/\G5 s l to ws=some v/\(v.1.2.1.length<=16384/\v.1.2.2.length<=64/\v.2.2.1.length<=16384/\v.2.2.2.1.length<=ws.length)∧
   ((¬Chk s l to/\v=W4 1)\/(Chk s l to/\∃ res:RunT,BQ s l to ws=some res/\((res.2.2.2.1≠0/\v=W4 res.2.2.2.1)\/(res.2.2.2.1=0/\v=((s.1,res.2.2.2.2),res.1,res.2.1,res.2.2.1,0))))):=by
 rcases AJ5 hl to ws with ⟨c,h1⟩|⟨c,h1⟩
 rotate_left
 ·exact⟨_,AQS hI hl to ws c,h1,by simp,.inl ⟨c,rfl⟩⟩
 have hcy:Cy (AV l) s to:=⟨c.vs,c.fit,c.own,c.out,fun q hq=>by
  obtain⟨i,hi,rfl⟩:=FC.1 hq
  exact (c.ob i hi).1.1.1.1⟩
 obtain⟨AYQ,vG⟩:∃ res:RunT,BQ s l to ws=some res:=by
  obtain⟨w,w1,w2⟩:=z8 c.vs.n.2 (l:=l) (by omega)
  obtain⟨b,_,res,h2,_⟩:=both hl hcy w2 hQ
  exact⟨res,h2⟩
 obtain⟨b,cA,hb2⟩:=z9 hI hl (to:=to) (ws:=ws) hQ c (Q:=fun b=>(AYQ.2.2.2.1≠0/\b=W4 AYQ.2.2.2.1)\/∃ t1 P8 JO out,AYQ=(P8,JO,out,0,t1.2.1,t1.2.2)/\b=(t1,P8,JO,out,0)/\t1.1=s.1/\VS t1/\JO.length<=16384/\out.length=ws.length) (fun m hm=>by
  obtain⟨b,h1,res,h2,h3⟩:=both hl hcy hm hQ
  rw[vG] at h2
  obtain rfl:=HO h2
  exact⟨b,h1,h3⟩)
 refine⟨b,cA, ?_, ?_,.inr ⟨c,AYQ,vG, ?_⟩⟩
 ·rw[h1]
  unfold cpE
  rw[AE (by decide),VS.copy c.vs,AW,vG,AW]
  rcases hb2 with ⟨k1,rfl⟩|⟨t1,P8,JO,out,rfl,rfl,k2,k3,k4,k5⟩
  ·rw[AA k1];rfl
  ·rw[AE (DQ rfl)]
   rw[<-k2]
 ·rcases hb2 with ⟨k1,rfl⟩|⟨t1,P8,JO,out,rfl,rfl,k2,k3,k4,k5⟩
  ·simp [W4]
  ·have:=VS.IK k3
   have:=k3.n.2
   exact⟨by simp only;omega,by simp only;omega,k4,by simp only;omega⟩
 ·rcases hb2 with ⟨k1,rfl⟩|⟨t1,P8,JO,out,rfl,rfl,k2,k3,k4,k5⟩
  ·exact .inl ⟨k1,rfl⟩
  ·exact .inr ⟨rfl,by rw[<-k2]⟩
theorem AD6 {z:Int} {ws:List (BitVec 64)} {l:List Int} {W:Int}:∀ {os:List (Int×Int)} {a:Int},DK z ws l a os W->a+os.length<=W
 | [],a,h=>by rw[DK] at h;simp;omega
 |o::r,a,h=>by
  have:=AD6 h.2.2
  have:=h.1
  simp only[NU]
  omega
theorem AOI {z:Int} {l:List Int}:∀ {os:List (Int×Int)} {a:Int},(ads z l a os).length=os.length
 | [],a=>rfl
 |o::r,a=>by simp only[ads,NU,AOI]
theorem AYR (hv:VS s) (hf:DB s i) {os:List (Int×Int)} (h:Full s i os):
  ∃ la,CE s i=some (la,0)/\(la.length:Int)<=i.2.2.2.2/\∀ a,a∈la↔∃ p x,Obj s i p a x:=by
 obtain⟨la,g1,g2,g3⟩:=AUL hv hf h
 refine⟨la,g1, ?_,g3⟩
 obtain⟨l,h1,h2⟩:=h
 obtain⟨-,h3⟩:=qI h1 hf.1.2.2.2.2.1 ⟨l,h1,h2⟩
 have h4:=AF1 hv hf h1
 rw[h3,g1] at h4
 have h5:=(tR (HO h4)).1
 have h6:=AD6 h2
 rw[h5,V6,AOI]
 omega
theorem AFL (hd:OR d):∃ h cut to ws d',D7 d=some (h,h.2.2.1.flatten.take cut,to,ws,d')/\HV 20000 h/\(to∈h.2.2.1.flatten.drop cut\/∃ b:Int,(0<=b/\b<4)/\to=(h.2.2.2.1,b, -1, -1,0))/\ws.length<=1000000/\∀ w∈ws,Rf h.2.1 h.2.2.1 w:=by
 unfold D7 zaV zaO
 obtain⟨c,h,g,d1,e1,hp,yS⟩:=AYJ hd
 obtain⟨v,_,_,_,hs,hfn⟩:=hp.ok
 obtain⟨l1,l2,l3⟩:=v.hi.hb.lens
 have hv:=v.vs
 have W7:(h.2.1.2.1.length:Int)<=320:=by
  rw[hv.w]
  have hz:sz h.2.1.1<=16:=by
   have:h.2.1.1=3\/h.2.1.1=4:=by omega
   rcases this with h' |h' <;> rw[h'] <;> decide
  have h0:=BU h.2.1.1
  have:(h.2.1.2.2.length:Int)*sz h.2.1.1<=20*16:=Int.mul_le_mul (by omega) hz (by omega) (by omega)
  omega
 rw[e1,AW]
 simp only
 rw[z6 (by omega) (by omega),AW]
 obtain⟨r3,d3,e3,r30,wC,hd3⟩:=ED yS (n:=(h.2.2.1.flatten.length:Int)+1) (by omega) (by omega)
 obtain⟨r4,d4,e4,r40,r41,hd4⟩:=ED hd3 (n:=3) (by omega) (by omega)
 rw[ah (e:=(h.2.2.1.flatten.length:Int)+1),e3,AW]
 simp only
 rw[e4,AW]
 have hbd:Bd none (some r3) r3.toNat h.2.2.1.flatten.length:=⟨by simp only;omega,trivial⟩
 have fin:∀ (to:AI) (dd:List Int×Int),OR dd->∃ ws d',AH (σ:=List (BitVec 64)×Int×(List Int×Int)) (β:=Hs×List AI×AI×List (BitVec 64)×(List Int×Int)) (fun s1=>
   if s1.2.1<(h.2.2.1.flatten.length:Int) then
   if 0<=s1.2.1/\s1.2.1<(h.2.2.1.flatten.length:Int) then
   (CE h.2.1 (gl ((0,0,0,0,0):AI) h.2.2.1.flatten s1.2.1.toNat)).bind (fun r7=>
   AH (σ:=List (BitVec 64)×Int×(List Int×Int)) (β:=(List (BitVec 64)×Int×(List Int×Int)) ⊕ (Hs×List AI×AI×List (BitVec 64)×(List Int×Int))) (fun s2=>
   if s2.2.1<(r7.1.length:Int) then
   if 0<=s2.2.1/\s2.2.1<(r7.1.length:Int) then
   (AF s2.2.2 3).bind (fun r8=>
   if r8.1=0 then
   if (s2.1.length+([BitVec.ofInt 64 (AG ((gl (0:Int) r7.1 s2.2.1.toNat)+1))]:List (BitVec 64)).length)*8<=140737488355328 then
   some (Sum.inl ((s2.1++([BitVec.ofInt 64 (AG ((gl (0:Int) r7.1 s2.2.1.toNat)+1))]:List (BitVec 64)),AG (s2.2.1+1),r8.2)))
   else none
   else some (Sum.inl ((s2.1,AG (s2.2.1+1),r8.2))))
   else none
   else some (Sum.inr (Sum.inl ((s2.1,AG (s1.2.1+1),s2.2.2))))) ((s1.1,0,s1.2.2)))
   else none
   else Option.map Sum.inr (if Bd none (some r3) r3.toNat h.2.2.1.flatten.length then
   if (s1.1.length+([0#64]:List (BitVec 64)).length)*8<=140737488355328 then
   some ((h,BF h.2.2.1.flatten 0 (r3.toNat-0),to,s1.1++([0#64]:List (BitVec 64)),s1.2.2))
   else none
   else none)) (([],0,dd))=some (h,h.2.2.1.flatten.take r3.toNat,to,ws,d')/\ws.length<=1000000/\∀ w∈ws,Rf h.2.1 h.2.2.1 w:=by
  intro to dd hdd
  have key:=AK (β:=Hs×List AI×AI×List (BitVec 64)×(List Int×Int)) (fun k (st:List (BitVec 64)×Int×(List Int×Int))=>st.2.1=(k:Int)/\(st.1.length:Int)<=k*320/\OR st.2.2/\∀ w∈st.1,Rf h.2.1 h.2.2.1 w)
   (fun b=>∃ ws d',b=(h,h.2.2.1.flatten.take r3.toNat,to,ws,d')/\ws.length<=1000000/\∀ w∈ws,Rf h.2.1 h.2.2.1 w) h.2.2.1.flatten.length (s:=([],0,dd)) (f:=fun s1=>
   if s1.2.1<(h.2.2.1.flatten.length:Int) then
   if 0<=s1.2.1/\s1.2.1<(h.2.2.1.flatten.length:Int) then
   (CE h.2.1 (gl ((0,0,0,0,0):AI) h.2.2.1.flatten s1.2.1.toNat)).bind (fun r7=>
   AH (σ:=List (BitVec 64)×Int×(List Int×Int)) (β:=(List (BitVec 64)×Int×(List Int×Int)) ⊕ (Hs×List AI×AI×List (BitVec 64)×(List Int×Int))) (fun s2=>
   if s2.2.1<(r7.1.length:Int) then
   if 0<=s2.2.1/\s2.2.1<(r7.1.length:Int) then
   (AF s2.2.2 3).bind (fun r8=>
   if r8.1=0 then
   if (s2.1.length+([BitVec.ofInt 64 (AG ((gl (0:Int) r7.1 s2.2.1.toNat)+1))]:List (BitVec 64)).length)*8<=140737488355328 then
   some (Sum.inl ((s2.1++([BitVec.ofInt 64 (AG ((gl (0:Int) r7.1 s2.2.1.toNat)+1))]:List (BitVec 64)),AG (s2.2.1+1),r8.2)))
   else none
   else some (Sum.inl ((s2.1,AG (s2.2.1+1),r8.2))))
   else none
   else some (Sum.inr (Sum.inl ((s2.1,AG (s1.2.1+1),s2.2.2))))) ((s1.1,0,s1.2.2)))
   else none
   else Option.map Sum.inr (if Bd none (some r3) r3.toNat h.2.2.1.flatten.length then
   if (s1.1.length+([0#64]:List (BitVec 64)).length)*8<=140737488355328 then
   some ((h,BF h.2.2.1.flatten 0 (r3.toNat-0),to,s1.1++([0#64]:List (BitVec 64)),s1.2.2))
   else none
   else none)) ?_ ?_ ⟨rfl,by simp,hdd,by simp⟩
  ·obtain⟨b,h1,ws,d',rfl,h2,h3⟩:=key
   exact⟨ws,d',h1,h2,h3⟩
  ·rintro k ⟨acc,kk,dk⟩ hk ⟨HR,NX,hdk,hrf⟩
   simp only at HR NX hdk hrf
   subst HR
   left
   have hm:gl ((0,0,0,0,0):AI) h.2.2.1.flatten k∈h.2.2.1.flatten:=B3 hk
   obtain⟨hf,hw⟩:=v.hi.hb.fit hm
   obtain⟨os,hfu⟩:=v.hi.hb.full _ hm
   obtain⟨la,g1,g2,g3⟩:=AYR hv hf hfu
   have Z0:=hf.1
   simp only[HM]
   rw[ab,ab,g1,AW]
   have inner:=AK (β:=(List (BitVec 64)×Int×(List Int×Int)) ⊕ (Hs×List AI×AI×List (BitVec 64)×(List Int×Int))) (fun j (st:List (BitVec 64)×Int×(List Int×Int))=>st.2.1=(j:Int)/\(st.1.length:Int)<=k*320+j/\OR st.2.2/\∀ w∈st.1,Rf h.2.1 h.2.2.1 w)
    (fun b=>∃ st,b=Sum.inl st/\st.2.1=((k+1:Nat):Int)/\(st.1.length:Int)<=(k+1:Nat)*320/\OR st.2.2/\∀ w∈st.1,Rf h.2.1 h.2.2.1 w) la.length (s:=(acc,0,dk)) (f:=fun s2=>
    if s2.2.1<(la.length:Int) then
    if 0<=s2.2.1/\s2.2.1<(la.length:Int) then
    (AF s2.2.2 3).bind (fun r8=>
    if r8.1=0 then
    if (s2.1.length+([BitVec.ofInt 64 (AG ((gl (0:Int) la s2.2.1.toNat)+1))]:List (BitVec 64)).length)*8<=140737488355328 then
    some (Sum.inl ((s2.1++([BitVec.ofInt 64 (AG ((gl (0:Int) la s2.2.1.toNat)+1))]:List (BitVec 64)),AG (s2.2.1+1),r8.2)))
    else none
    else some (Sum.inl ((s2.1,AG (s2.2.1+1),r8.2))))
    else none
    else some (Sum.inr (Sum.inl ((s2.1,AG ((k:Int)+1),s2.2.2))))) ?_ ?_ ⟨rfl,by simp only;omega,hdk,hrf⟩
   ·obtain⟨b,h1,st,rfl,h2⟩:=inner
    exact⟨st,h1,h2⟩
   ·rintro j ⟨a,jj,dj⟩ hj ⟨vO,haj,hdj,hrj⟩
    simp only at vO haj hdj hrj
    subst vO
    left
    obtain⟨r8,d8,e8,_,_,hd8⟩:=ED hdj (n:=3) (by omega) (by omega)
    simp only[HM]
    rw[ab,ab,e8,AW,ah (e:=(j:Int)+1)]
    simp only
    by_cases h8:r8=0
    ·rw[AA h8,AA (by simp only[Q5];omega)]
     refine⟨_,rfl,rfl,by simp only[PQ,Q5];omega,hd8,fun w hw=> ?_⟩
     rcases FG.1 hw with hw|hw
     ·exact hrj w hw
     ·obtain⟨p,x,ho⟩:=(g3 (gl 0 la j)).1 (B3 hj)
      obtain⟨⟨a0,a1⟩,_⟩:=ho.FZ hv hf
      rw[GG.1 hw,ah]
      have e9:((BitVec.ofInt 64 (gl 0 la j+1)).toNat:Int)=gl 0 la j+1:=by rw[jK];omega
      exact .inr (by rw[e9,Int.add_sub_cancel];exact⟨_,hm,p,x,ho⟩)
    ·rw[AE h8]
     exact⟨_,rfl,rfl,by simp only;omega,hd8,hrj⟩
   ·rintro⟨a,jj,dj⟩ ⟨vO,haj,hdj,hrj⟩
    simp only at vO haj hdj hrj
    subst vO
    simp only
    rw[af,ah (e:=(k:Int)+1)]
    exact⟨_,rfl,_,rfl,rfl,by simp only;omega,hdj,hrj⟩
  ·rintro⟨acc,kk,dk⟩ ⟨HR,NX,hdk,hrf⟩
   simp only at HR NX hdk hrf
   subst HR
   simp only
   rw[af,AA hbd,AA (by simp only[Q5];omega),R_]
   refine⟨_,rfl,_,_,rfl,by simp only[PQ,Q5];omega,fun w hw=> ?_⟩
   rcases FG.1 hw with hw|hw
   ·exact hrf w hw
   ·rw[GG.1 hw];exact .inl rfl
 simp only
 by_cases c1:r3<(h.2.2.1.flatten.length:Int)
 ·rw[AA c1]
  obtain⟨r5,d5,e5,_,_,hd5⟩:=ED hd4 (n:=2) (by omega) (by omega)
  rw[e5,AW]
  simp only
  by_cases c2:r5=0
  ·obtain⟨r6,d6,e6,r60,r61,hd6⟩:=ED hd5 (n:=(h.2.2.1.flatten.length:Int)-r3) (by omega) (by omega)
   rw[AA c2,ah (e:=(h.2.2.1.flatten.length:Int)-r3),e6,AW]
   simp only
   rw[ah (e:=r3+r6),ab]
   obtain⟨ws,d',k1,k3,k4⟩:=fin (gl ((0,0,0,0,0):AI) h.2.2.1.flatten (r3+r6).toNat) d6 hd6
   exact⟨h,r3.toNat,_,ws,d',k1,v,.inl (by
    rw[DJ (by omega),AA9]
    exact⟨r6.toNat,by rw[oD];omega,by rw[List.getElem_drop];congr 1;omega⟩),k3,k4⟩
  ·rw[AE c2]
   obtain⟨ws,d',k1,k3,k4⟩:=fin (h.2.2.2.1,r4, -1, -1,0) d5 hd5
   exact⟨h,r3.toNat,_,ws,d',k1,v,.inr ⟨r4,by omega,rfl⟩,k3,k4⟩
 ·rw[AE c1]
  obtain⟨ws,d',k1,k3,k4⟩:=fin (h.2.2.2.1,r4, -1, -1,0) d4 hd4
  exact⟨h,r3.toNat,_,ws,d',k1,v,.inr ⟨r4,by omega,rfl⟩,k3,k4⟩
structure LC (k:Nat) (n m:Int) (A:Nat->Int) (f:Int) (la:List Int) (d y:Nat) (s:Sp) (to:AI) (lb:List Int) (mv:List (Int×Int)):Prop where
 k1:k<=2
 m0:0<=m
 m1:m<=2
 nm:n=2+m
 z:sz s.1=8
 cy:Cy [0] s to
 seq:to.1=1
 wd:to.2.2.2.2=(y:Int)*n
 has:Has s to lb
 pa:Pa s.2.2 f la
 own:(fr s.2.2 f).1=0
 len:(k:Int)*n<=la.length*8
 fre:(cl 8 ((k:Int)*n))+cl 8 ((y:Int)*n)+(C1 s.2.2).length=4
 AJ6:C1 s.2.2=([0,1,2,3]:List Int).drop (cl 8 ((k:Int)*n)+cl 8 ((y:Int)*n)).toNat
 fst:y=0\/gl 0 lb 0=1
 dy:d<=y
 yk:y<=k
 W3:mv.length=y
 frm:∀ q,q<y->(gl (0,0) mv q).1=A q
 tob:∀ q:Nat,q<y->CM 8 lb ((q:Int)*n)=some (gl (0,0) mv q).2
 apl:∀ q:Nat,q<k->CM 8 la ((q:Int)*n)=some (A q)
 fw:∀ q,q<y->gl 0#64 s.2.1 (A q).toNat=fwd (gl (0,0) mv q).2
 hda:∀ q,y<=q->q<k->gl 0#64 s.2.1 (A q).toNat=Y9 1 m
 rfa:∀ q:Nat,y<=q->q<k->∀ x,CM 8 la ((q:Int)*n+1)=some x->gl 0#64 s.2.1 x.toNat=BitVec.ofInt 64 (A ((q+1)%k)+1)
 hdb:∀ q,q<y->gl 0#64 s.2.1 (gl (0,0) mv q).2.toNat=Y9 1 m
 lnk:∀ q:Nat,q<d->∀ x,CM 8 lb ((q:Int)*n+1)=some x->gl 0#64 s.2.1 x.toNat=BitVec.ofInt 64 (gl (0,0) mv ((q+1)%k)).2+1#64
 slt:∀ q:Nat,d<=q->q<y->∀ x,CM 8 lb ((q:Int)*n+1)=some x->gl 0#64 s.2.1 x.toNat=BitVec.ofInt 64 (A ((q+1)%k)+1)
variable {q:Nat}
theorem dJ {q':Nat} (h:q<q') (hn:0<=n):(q:Int)*n+n<=(q' :Int)*n:=by
 have h1:((q:Int)+1)*n<=(q' :Int)*n:=rE (by omega) hn
 rw[dS,lP] at h1
 exact h1
theorem Q3 (hn:0<=n):0<=(q:Int)*n:=ABM (by omega) hn
theorem AJ7 (h0:0<=a) (h1:a<=1000000):(BitVec.ofInt 64 a).toNat=a.toNat:=by
 rw[jK];omega
variable {y:Nat} {la:List Int} {A:Nat->Int}
theorem LC.wn {m:Int} {d:Nat} (h:LC k n m A f la d y s to lb mv) (hq:q<k):
  Wn [0] s (BitVec.ofInt 64 (A q+1))/\((BitVec.ofInt 64 (A q+1)).toNat:Int)-1=A q/\0<=A q/\A q<s.2.1.length/\A q / 8∈la:=by
 have W7:=VS.IK h.cy.vs
 have hnm:=h.nm
 have:=h.m0
 obtain⟨⟨a0,a1⟩,a2⟩:=EE h.cy.vs h.pa (Q3 (q:=q) (n:=n) (by omega)) (by rw[h.z];exact h.apl q hq)
 have e1:((BitVec.ofInt 64 (A q+1)).toNat:Int)-1=A q:=by rw[AJ7 (by omega) (by omega)];omega
 refine⟨⟨fun he=> ?_,by omega, ?_⟩,e1,a0,a1,by rw[<-h.z];exact a2⟩
 ·have h2:(BitVec.ofInt 64 (A q+1)).toNat=0:=by rw[he];rfl
  rw[AJ7 (by omega) (by omega)] at h2;omega
 ·rw[e1,(h.cy.vs.owner h.pa _ a2).1,h.own];simp
theorem LC.lbl {m:Int} {d:Nat} (h:LC k n m A f la d y s to lb mv):(y:Int)*n<=lb.length*8:=by
 obtain⟨l,h1,h2,_⟩:=h.cy.fit.has h.cy.vs
 obtain rfl:=K_ h1 h.has
 have:=J7 (n:=(y:Int)*n) (z:=8) (by omega)
 rw[h.wd,h.z] at h2
 omega
theorem cl8 {b:Int} (h:a<=b):cl 8 a<=cl 8 b:=ANN (by omega) h
theorem AFM (h0:0<a) (h1:a<=8):cl 8 a=1:=by
 have:=J7 (n:=a) (z:=8) (by omega)
 omega
theorem LC.grow {m:Int} {d:Nat} (h:LC k n m A f la d y s to lb mv) (hy:y<k) (hdy:d=0\/d<y)
  {e:Int} {I2 :AI} (hm:tB [0] s to (BitVec.ofInt 64 (A y+1)) v e t I2 mm):
  ∃ lH b,e=0/\v=BitVec.ofInt 64 b+1#64/\mm=[(A y,b)]/\(∀ i a,CM 8 lb i=some a->CM 8 lH i=some a)/\LC k n m A f la d (y+1) t I2 lH (mv++mm):=by
 obtain⟨w1,w2,w3,w4,w5⟩:=h.wn hy
 have hnm:=h.nm
 have m0:=h.m0
 have m1:=h.m1
 have hk:=h.k1
 have n0:(0:Int)<=n:=by omega
 have hz:=h.z
 have hlen:=h.len
 have AEV:=h.fre
 have htw:=h.wd
 have hy2:=dJ (n:=n) hy n0
 have hy0:=Q3 (q:=y) n0
 have MZ:(k:Int)*n<=8:=by
  have:(k:Int)*n<=2*n:=rE (by omega) n0
  omega
 have hhd:hd (Z0 s (BitVec.ofInt 64 (A y+1)))=some (1,m):=by
  rw[show Z0 s (BitVec.ofInt 64 (A y+1))=gl 0#64 s.2.1 (A y).toNat from by show gl 0#64 s.2.1 (((BitVec.ofInt 64 (A y+1)).toNat:Int)-1).toNat=_;rw[w2],h.hda y (EH _) hy,nX (by omega) (by omega) m0 (by omega)]
 have AVP:wI (Z0 s (BitVec.ofInt 64 (A y+1)))=(1,m,0,false,0):=SA hhd
 have hpl:∀ {l2:List Int},Pa s.2.2 (A y / sz s.1) l2->∀ i,0<=i->CM 8 l2 (A y%8+i)=CM 8 la ((y:Int)*n+i):=by
  intro l2 b_ i i0
  obtain⟨l3,p1,_,p2⟩:=KF (z:=8) (by omega) h.pa hy0 (h.apl y hy) i0
  rw[hz] at b_
  rw[b_.fn p1];exact p2
 have hap:∀ i,0<=i->i<n->∃ q,CM 8 la ((y:Int)*n+i)=some q:=by
  intro i i0 i1
  have h1:(y:Int)*n+i<(la.length:Int)*8:=by omega
  obtain⟨g,_,hg⟩:=LN (z:=8) (by omega) (l:=la) (off:=(y:Int)*n+i) (by omega) h1
  exact⟨_,hg⟩
 cases hm with
 |out hw=>exact absurd w1 hw
 |gZ hw h0 h1=>rw[AVP] at h1;cases h1
 |bad hw h0=>rw[AVP] at h0;exact absurd rfl h0
 |g_ hw hh hl ha=>
  rw[hhd] at hh
  simp only[A_,DG] at hh
  obtain⟨rfl,rfl⟩:=hh
  rw[w2] at hl ha
  rw[hz,hpl hl _ (by omega)] at ha
  obtain⟨q,hq⟩:=hap (1+m) (by omega) (by omega)
  rw[hq] at ha;cases ha
 |full hw hh hl ha hf=>
  rw[hhd] at hh
  simp only[A_,DG] at hh
  obtain⟨rfl,rfl⟩:=hh
  rw[hz,htw] at hf
  have c1:=cl8 MZ
  have c2:cl 8 ((y:Int)*n+(1+1+m))<=cl 8 8:=cl8 (by omega)
  have c3:cl 8 8=1:=by decide
  omega
 | @MP hw r dd hh l2 hl e' ha u _ b l l' hg=>
  have hr:r=1/\dd=m:=by
   rw[hhd] at hh
   simp only[A_,DG] at hh
   exact⟨hh.1.symm,hh.2.symm⟩
  obtain⟨rfl,rfl⟩:=hr
  have MW:=hO h.cy hw hh hl ha hg rfl
  have hcy:=(tB.cy h.cy (.MP hw hh hl ha hg)).1
  generalize (cpy (sz s.1) l2 ((((BitVec.ofInt 64 (A y+1)).toNat:Int)-1)%sz s.1) l' to.2.2.2.2 (1+1+dd).toNat s.2.1).set (((BitVec.ofInt 64 (A y+1)).toNat:Int)-1).toNat (fwd b)=W at MW hcy ⊢
  obtain⟨k1,k2,k3,k4⟩:=MW
  have hnn:(1:Int)+1+dd=n:=by omega
  have hlb:=h.lbl
  have hvu:VS (s.1,s.2.1,u.2.2):=by have:=hg.vs;rw[<-hg.sh,←hg.ws];exact this
  obtain rfl:=K_ h.has hg.has
  rw[hnn] at hg k1 k2
  rw[w2] at hl
  simp only[w2] at k1 k2 k3
  rw[w2]
  simp only[hz,htw] at k1 k2 k4
  have hc:=J7 (n:=(y:Int)*n+n) (z:=8) (by omega)
  have lE:(l'.length:Int)=cl 8 ((y:Int)*n+n):=by have:=hg.AI4;rw[hz,htw] at this;exact this
  have RX:CM 8 l' ((y:Int)*n)=some b:=by have:=hg.FZ;rw[hz,htw] at this;exact this
  have mG:∀ {i a},CM 8 lb i=some a->CM 8 l' i=some a:=by
   intro i a hi
   rw[hg.more];exact CK hi
  have A03:∀ {i a},0<=i->i<(y:Int)*n->CM 8 l' i=some a->CM 8 lb i=some a:=by
   intro i a i0 i1 hi
   obtain⟨g,_,hg'⟩:=LN (z:=8) (by omega) (l:=lb) (off:=i) i0 (by omega)
   rw[mG hg'] at hi
   rw[hg',hi]
  have HN:=hg.path.nodup
  have A7Y:=h.pa.nodup
  have hCA:∀ {q:Int} {i},CM 8 la i=some q->0<=i->(fr s.2.2 (q / 8)).1∈[(0:Int)]/\0<=q:=by
   intro q i hi i0
   obtain⟨g1,g2⟩:=EE h.cy.vs h.pa i0 (by rw[hz];exact hi)
   have:=(h.cy.vs.owner h.pa _ g2).1
   rw[hz] at this
   exact⟨by rw[this,h.own];simp,g1.1⟩
  have z_:∀ {q:Int} {i},CM 8 la i=some q->0<=i->i≠(y:Int)*n->gl 0#64 W q.toNat=gl 0#64 s.2.1 q.toNat:=by
   intro q i hi i0 CW
   obtain⟨c1,c2⟩:=hCA hi i0
   refine k1 q c2 (fun he=> ?_) fun j j0 j1 hj=>k4 q _ hj (by omega) c1
   subst he
   exact CW (F9 (by omega) A7Y i0 hy0 hi (h.apl y hy))
  have AA0:∀ {q:Int} {i},CM 8 l' i=some q->0<=i->i<(y:Int)*n->gl 0#64 W q.toNat=gl 0#64 s.2.1 q.toNat:=by
   intro q i hi i0 i1
   obtain⟨⟨q0,_⟩,_⟩:=EE hvu hg.path i0 (by simp only;rw[hz];exact hi)
   refine k1 q q0 (fun he=> ?_) fun j j0 j1 hj=> ?_
   ·subst he
    exact k4 _ _ hi i0 (hCA (h.apl y hy) hy0).1
   ·have:=F9 (by omega) HN i0 (by omega) hi hj
    omega
  have hg1:∀ q,q<y->gl (0,0) (mv++ [(A y,b)]) q=gl (0,0) mv q:=fun q hq=>JM (by rw[h.W3];exact hq)
  have vS:gl (0,0) (mv++ [(A y,b)]) y=(A y,b):=by
   unfold gl
   rw[n9,SI (by rw[h.W3];omega),h.W3,bL];rfl
  have hA2:∀ q:Nat,(q+1:Nat)*n=(q:Int)*n+n:=by
   intro q
   rw[w_,dS];simp
  have uC:=hg.fre
  have A5K:l'.length-lb.length<=(C1 s.2.2).length:=by
   have:=KL List.length hg.more
   rw[PQ,jM] at this
   omega
  have hpn:∀ {q:Nat},q<y->(q:Int)*n+n<=(y:Int)*n/\0<=(q:Int)*n:=fun hq=>⟨dJ hq n0,Q3 n0⟩
  obtain⟨pu,pfr⟩:=hg.AIE h.cy.vs h.pa (by rw[h.own];omega) (by rw[h.own,h.seq];omega)
  have A8C:(lb.length:Int)=cl 8 ((y:Int)*n):=by have:=hg.A1N;rw[hz,htw] at this;exact this
  have hfm:f∈la:=by
   have:=h.pa
   cases la with
   |nil=>simp at hlen;omega
   |cons g r=>obtain⟨rfl,_⟩:=this;simp
  refine⟨l',b,rfl,rfl,rfl,fun _ _=>mG,⟨h.k1,h.m0,h.m1,h.nm,hz,hcy,hg.seq.trans h.seq, ?_, ?_,pu, ?_,h.len, ?_, ?_, ?_,by have:=h.dy;omega,hy,by simp [h.W3], ?_, ?_,h.apl, ?_, ?_, ?_, ?_, ?_, ?_⟩⟩
  ·rw[hg.words,htw,hA2]
  ·exact .inr ⟨by rw[hg.words,htw];omega,hg.path⟩
  ·simp only;rw[pfr f hfm,h.own]
  ·simp only
   rw[hA2,uC,oD]
   have eB:=cl8 (show (y:Int)*n<=(y:Int)*n+n by omega)
   omega
  ·simp only
   rw[hA2,uC,h.AJ6,ABL]
   have eB:=cl8 (show (y:Int)*n<=(y:Int)*n+n by omega)
   congr 1
   have q1:=cl8 (show 0<=(y:Int)*n by omega)
   have q2:=cl8 (show 0<=(k:Int)*n by omega)
   rw[SH (by omega:(0:Int)<8)] at q1 q2
   omega
  ·right
   rcases h.fst with AJ8 |AJ8
   ·subst AJ8
    have g1:cl 8 ((k:Int)*n)=1:=AFM (by omega) (by omega)
    have g2:cl 8 (((0:Nat):Int)*n)=0:=by rw[oE,oH,SH (by omega:(0:Int)<8)]
    have g3:cl 8 (((0:Nat):Int)*n+n)=1:=AFM (by omega) (by omega)
    have A2V:lb=[]:=AFW.1 (by omega)
    have:=hg.more
    rw[h.AJ6,g1,g2,A2V,show l'.length-([]:List Int).length=1 by simp only[SK];omega] at this
    rw[this];rfl
   ·rw[hg.more]
    by_cases hl0:lb.length=0
    ·rw[AFW.1 hl0] at AJ8
     cases AJ8
    ·rw[JM (by omega)];exact AJ8
  ·intro q hq
   by_cases hqy:q=y
   ·subst hqy;rw[vS]
   ·rw[hg1 q (by omega)];exact h.frm q (by omega)
  ·intro q hq
   by_cases hqy:q=y
   ·subst hqy;rw[vS];exact RX
   ·rw[hg1 q (by omega)];exact mG (h.tob q (by omega))
  ·intro q hq
   by_cases hqy:q=y
   ·subst hqy;rw[vS];exact k3
   ·rw[hg1 q (by omega)]
    have:=hpn (q:=q) (by omega)
    exact (z_ (h.apl q (by omega)) this.2 (by omega)).trans (h.fw q (by omega))
  ·intro q q0 q1
   have:=dJ (n:=n) (show y<q by omega) n0
   exact (z_ (h.apl q q1) (by omega) (by omega)).trans (h.hda q (by omega) q1)
  ·intro q q0 q1 x hx
   have:=dJ (n:=n) (show y<q by omega) n0
   exact (z_ hx (by omega) (by omega)).trans (h.rfa q (by omega) q1 x hx)
  ·intro q hq
   by_cases hqy:q=y
   ·subst hqy;rw[vS]
    have:=k2 0 (by omega) (by omega) b (A q) (by rw[b7];exact RX) (by rw[hpl hl 0 (by omega),b7];exact h.apl q hy)
    exact this.trans (h.hda q (EH _) hy)
   ·rw[hg1 q (by omega)]
    have:=hpn (q:=q) (by omega)
    exact (AA0 (mG (h.tob q (by omega))) this.2 (by omega)).trans (h.hdb q (by omega))
  ·intro q hq x hx
   have A8D:=h.dy
   have hpq:=hpn (q:=q) (by omega)
   have hm:(q+1)%k<y:=by
    by_cases he:q+1=k
    ·omega
    ·rw[rG (by omega)];omega
   rw[hg1 _ hm]
   exact (AA0 hx (by omega) (by omega)).trans (h.lnk q hq x (A03 (by omega) (by omega) hx))
  ·intro q q0 q1 x hx
   by_cases hqy:q=y
   ·subst hqy
    obtain⟨a1,ha1⟩:=hap 1 (by omega) (by omega)
    have:=k2 1 (by omega) (by omega) x a1 hx (by rw[hpl hl 1 (by omega)];exact ha1)
    exact this.trans (h.rfa q (EH _) hy a1 ha1)
   ·have hpq:=hpn (q:=q) (by omega)
    exact (AA0 hx (by omega) (by omega)).trans (h.slt q q0 (by omega) x (A03 (by omega) (by omega) hx))
theorem LC.path {m:Int} {d:Nat} (h:LC k n m A f la d y s to lb mv) (hy:0<y):
  Pa s.2.2 to.2.2.1 lb/\∀ x∈lb,(fr s.2.2 x).1=1:=by
 have hnm:=h.nm
 have m0:=h.m0
 have h1:=dJ (q:=0) (n:=n) hy (by omega)
 have hw:=h.wd
 have hp:Pa s.2.2 to.2.2.1 lb:=by
  rcases h.has with ⟨g1,_⟩|⟨_,g1⟩
  ·simp at h1;omega
  ·exact g1
 refine⟨hp,fun x hx=> ?_⟩
 rw[(h.cy.vs.owner hp x hx).1]
 rcases h.cy.fit.2 with ⟨g1,_⟩|⟨_,_,g1,_⟩
 ·simp at h1;omega
 ·rw[g1,h.seq]
theorem LC.link {m:Int} {d:Nat} (h:LC k n m A f la d y s to lb mv) (hd:d<y) {x:Int} (hx:CM 8 lb ((d:Int)*n+1)=some x):
  LC k n m A f la (d+1) y (s.1,s.2.1.set x.toNat (BitVec.ofInt 64 (gl (0,0) mv ((d+1)%k)).2+1#64),s.2.2) to lb mv/\gl 0#64 s.2.1 x.toNat=BitVec.ofInt 64 (A ((d+1)%k)+1)/\0<=x/\x<s.2.1.length:=by
 have hnm:=h.nm
 have m0:=h.m0
 have n0:(0:Int)<=n:=by omega
 have hz:=h.z
 obtain⟨hp,ho⟩:=h.path (by omega)
 have hd0:=Q3 (q:=d) n0
 obtain⟨⟨x0,x1⟩,x2⟩:=EE h.cy.vs hp (off:=(d:Int)*n+1) (by omega) (by rw[hz];exact hx)
 have hox:=ho _ x2
 have hcy:Cy [0] (s.1,s.2.1.set x.toNat (BitVec.ofInt 64 (gl (0,0) mv ((d+1)%k)).2+1#64),s.2.2) to:=
  ⟨h.cy.vs.word x0 (by rw[hox];omega) _,DB.words (by rw[EG]) h.cy.fit,h.cy.own,h.cy.out,h.cy.nn⟩
 have HN:=hp.nodup
 have z_:∀ {q i:Int} {v:BitVec 64},CM 8 la i=some q->0<=i->gl 0#64 (s.2.1.set x.toNat v) q.toNat=gl 0#64 s.2.1 q.toNat:=by
  intro q i v hi i0
  obtain⟨⟨q0,_⟩,q2⟩:=EE h.cy.vs h.pa i0 (by rw[hz];exact hi)
  have h1:=(h.cy.vs.owner h.pa _ q2).1
  rw[h.own] at h1
  rw[qN]
  intro he
  have:q=x:=by omega
  rw[this] at h1;omega
 have AA0:∀ {q i:Int} {v:BitVec 64},CM 8 lb i=some q->0<=i->i≠(d:Int)*n+1->gl 0#64 (s.2.1.set x.toNat v) q.toNat=gl 0#64 s.2.1 q.toNat:=by
  intro q i v hi i0 CW
  obtain⟨⟨q0,_⟩,q2⟩:=EE h.cy.vs hp i0 (by rw[hz];exact hi)
  rw[qN]
  intro he
  have:q=x:=by omega
  rw[this] at hi
  exact CW (F9 (by omega) HN i0 (by omega) hi hx)
 have A7Z:∀ q:Nat,q<d\/q=d\/d<q:=fun q=>by omega
 refine⟨⟨h.k1,h.m0,h.m1,h.nm,hz,hcy,h.seq,h.wd,h.has,h.pa,h.own,h.len,h.fre,h.AJ6,h.fst,by omega,h.yk,h.W3,h.frm,h.tob,h.apl, ?_, ?_, ?_, ?_, ?_, ?_⟩,h.slt d (EH _) hd x hx,x0,x1⟩
 ·intro q hq
  exact (z_ (h.apl q (by have:=h.yk;omega)) (Q3 n0)).trans (h.fw q hq)
 ·intro q q0 q1
  exact (z_ (h.apl q q1) (Q3 n0)).trans (h.hda q q0 q1)
 ·intro q q0 q1 a ha
  exact (z_ ha (by have:=Q3 (q:=q) n0;omega)).trans (h.rfa q q0 q1 a ha)
 ·intro q hq
  refine (AA0 (h.tob q hq) (Q3 n0) ?_).trans (h.hdb q hq)
  rcases A7Z q with h1|rfl|h1
  ·have:=dJ (n:=n) h1 n0;omega
  ·omega
  ·have:=dJ (n:=n) h1 n0;omega
 ·intro q hq a ha
  by_cases hqd:q=d
  ·subst hqd
   rw[hx] at ha
   obtain rfl:=HO ha
   simp only
   rw[DS (by omega),AA rfl]
  ·refine (AA0 ha (by have:=Q3 (q:=q) n0;omega) ?_).trans (h.lnk q (by omega) a ha)
   have:=dJ (n:=n) (show q<d by omega) n0;omega
 ·intro q q0 q1 a ha
  refine (AA0 ha (by have:=Q3 (q:=q) n0;omega) ?_).trans (h.slt q (by omega) q1 a ha)
  have:=dJ (n:=n) (show d<q by omega) n0;omega
theorem LC.seen {m:Int} {d:Nat} (h:LC k n m A f la d y s to lb mv) (hq:q<y)
  {e:Int} {I2 :AI} (hm:tB [0] s to (BitVec.ofInt 64 (A q+1)) v e t I2 mm):
  e=0/\v=BitVec.ofInt 64 (gl (0,0) mv q).2+1#64/\t=s/\I2 =to/\mm=[]:=by
 have W7:=VS.IK h.cy.vs
 have hnm:=h.nm
 have m0:=h.m0
 obtain⟨w1,w2,w3,w4,w5⟩:=h.wn (q:=q) (by have:=h.yk;omega)
 obtain⟨hp,_⟩:=h.path (by omega)
 obtain⟨⟨b0,b1⟩,_⟩:=EE h.cy.vs hp (Q3 (q:=q) (n:=n) (by omega)) (by rw[h.z];exact h.tob q hq)
 have hwq:Z0 s (BitVec.ofInt 64 (A q+1))=fwd (gl (0,0) mv q).2:=by
  show gl 0#64 s.2.1 (((BitVec.ofInt 64 (A q+1)).toNat:Int)-1).toNat=_
  rw[w2,h.fw q hq]
 have AVP:=AF4 b0 (by omega:(gl (0,0) mv q).2<=16383)
 have hhd:=AF3 b0 (by omega:(gl (0,0) mv q).2<=16383)
 cases hm with
 |out hw=>exact absurd w1 hw
 |gZ hw h0 h1=>
  rw[hwq,AVP]
  exact⟨rfl,rfl,rfl,rfl,rfl⟩
 |bad hw h0=>
  rw[hwq,AVP] at h0
  exact absurd rfl h0
 |g_ hw hh hl ha=>rw[hwq,hhd] at hh;cases hh
 |full hw hh hl ha hf=>rw[hwq,hhd] at hh;cases hh
 |MP hw hh hl ha hg=>rw[hwq,hhd] at hh;cases hh
theorem LC.inner {m:Int} {d:Nat} (h:LC k n m A f la d y s to lb mv) (hd:d<k) (hy:y=min (d+1) k)
  (hm:NS [0] s.2.2 w):
  ∃ t I2 lH bX y',AH (L4 (d:Int) (gl (0,0) mv d).2 1) (1,(s,w,to,mv))=some (.inl ((d:Int)+1,(t,w,I2,bX)))/\NS [0] t.2.2 w/\LC k n m A f la (d+1) y' t I2 lH bX /\y' =min (d+2) k/\gl (0,0) bX 0=gl (0,0) mv 0:=by
 have W7:=VS.IK h.cy.vs
 have hnm:=h.nm
 have m0:=h.m0
 have hk:=h.k1
 have n0:(0:Int)<=n:=by omega
 have hdy:d<y:=by omega
 have hd0:=Q3 (q:=d) n0
 have hdn:=dJ (n:=n) hdy n0
 obtain⟨hp,_⟩:=h.path (by omega)
 obtain⟨g,_,hx⟩:=LN (z:=8) (by omega) (l:=lb) (off:=(d:Int)*n+1) (by omega) (by have:=h.lbl;omega)
 generalize g*8+((d:Int)*n+1)%8=x at hx
 have A04:=h.W3
 have key:∃ bb,AH (L4 (d:Int) (gl (0,0) mv d).2 1) (1,(s,w,to,mv))=some bb∧
   ∃ t I2 lH bX y',bb= .inl ((d:Int)+1,(t,w,I2,bX))/\NS [0] t.2.2 w/\LC k n m A f la (d+1) y' t I2 lH bX /\y' =min (d+2) k/\gl (0,0) bX 0=gl (0,0) mv 0:=by
  refine AK (fun c (st:Int×Cp)=>(c=0/\st=(1,(s,w,to,mv)))\/(c=1/\∃ t I2 lH bX y',st=(2,(t,w,I2,bX))/\NS [0] t.2.2 w/\LC k n m A f la (d+1) y' t I2 lH bX /\y' =min (d+2) k/\gl (0,0) bX 0=gl (0,0) mv 0)) _ 1 ?_ ?_ (.inl ⟨rfl,rfl⟩)
  ·rintro c st hc (⟨rfl,rfl⟩|⟨rfl,_⟩)
   rotate_left
   ·omega
   left
   unfold L4
   simp only
   rw[AA (YT 1),AFK h.cy.vs hp hd0 (by rw[h.z];exact h.tob d hdy) (by omega) (by omega),h.z,hx,AW,show AB4 (some x)=x from rfl]
   have hxw:=h.slt d (EH _) hdy x hx
   obtain⟨⟨x0,x1⟩,_⟩:=EE h.cy.vs hp (off:=(d:Int)*n+1) (by omega) (by rw[h.z];exact hx)
   rw[AA ⟨x0,x1⟩,hxw]
   obtain⟨v,e,t,I2,mm,M1,M2⟩:=qZ h.cy hm (mv:=mv) (by omega) (BitVec.ofInt 64 (A ((d+1)%k)+1))
   have hcy:=tB.cy h.cy M1
   rw[M2,AW]
   by_cases hdk:d+1=k
   ·have ADS:(d+1)%k=0:=by rw[hdk,Nat.mod_self]
    rw[ADS] at M1
    obtain⟨rfl,rfl,rfl,rfl,rfl⟩:=h.seen (q:=0) (by omega) M1
    rw[AE (DQ rfl),AA ⟨x0,x1⟩]
    obtain⟨hL,_⟩:=h.link hdy hx
    rw[ADS] at hL
    rw[ah (e:=(1:Int)+1),FP]
    exact⟨_,rfl,.inr ⟨by trivial,_,_,_,_,_,rfl,hm,hL,by omega,rfl⟩⟩
   ·have ADS:(d+1)%k=d+1:=rG (by omega)
    have hyd:y=d+1:=by omega
    rw[ADS,←hyd] at M1
    obtain⟨lH,b,rfl,rfl,rfl,hG0,hG⟩:=h.grow (by omega) (.inr hdy) M1
    have hx' :CM 8 lH ((d:Int)*n+1)=some x:=hG0 _ _ hx
    obtain⟨hL,_,x0',x1'⟩:=hG.link (by omega) hx'
    rw[AE (DQ rfl),AA ⟨x0,x1'⟩]
    have vS:gl (0,0) (mv++ [(A y,b)]) ((d+1)%k)=(A y,b):=by
     rw[ADS,←hyd]
     unfold gl
     rw[n9,SI (by rw[A04];omega),A04,bL];rfl
    rw[vS] at hL
    rw[ah (e:=(1:Int)+1)]
    exact⟨_,rfl,.inr ⟨by trivial,_,_,_,_,_,rfl,hcy.2.1 w hm,hL,by omega,JM (by omega)⟩⟩
  ·rintro st (⟨h1,_⟩|⟨_,t,I2,lH,bX,y',rfl,hm',hL,hy',h0⟩)
   ·omega
   unfold L4
   simp only
   rw[af,ah (e:=(d:Int)+1)]
   exact⟨_,rfl,_,_,_,_,_,rfl,hm',hL,hy',h0⟩
 obtain⟨bb,h1,t,I2,lH,bX,y',rfl,h2⟩:=key
 exact⟨t,I2,lH,bX,y',h1,h2⟩
theorem AYS {m:Int} (m0:0<=m) (m1:m<=2):FB (Y9 1 m)=some (1,m,0,false,0):=by
 rw[AFJ,SA (nX (r:=1) (d:=m) (by omega) (by omega) m0 (by omega))]
theorem LC.A5L {m:Int} (h:LC k n m A f la 0 1 s to lb mv) (hk:0<k) (hm:NS [0] s.2.2 w) (out:List (BitVec 64)):
  ∃ b,AH (L3 out) (0,(s,w,to,mv))=some b/\∃ t I2 lH bX,b=(t,I2,bX,out,0)/\LC k n m A f la k k t I2 lH bX /\gl (0,0) bX 0=gl (0,0) mv 0:=by
 refine AK (fun d (st:Int×Cp)=>st.1=(d:Int)/\d<=k/\∃ t I2 lH bX y,st.2=(t,w,I2,bX)/\NS [0] t.2.2 w/\LC k n m A f la d y t I2 lH bX /\y=min (d+1) k/\gl (0,0) bX 0=gl (0,0) mv 0) _ k ?_ ?_ ⟨rfl,by omega,s,to,lb,mv,1,rfl,hm,h,by omega,rfl⟩
 ·rintro d ⟨c,st⟩ hd ⟨h1,_,t,I2,lH,bX,y,rfl,h2,h3,h4,h5⟩
  simp only at h1
  subst h1
  left
  have hml:=h3.W3
  have W7:=VS.IK h3.cy.vs
  have hnm:=h3.nm
  have m0:=h3.m0
  obtain⟨hp,_⟩:=h3.path (by omega)
  obtain⟨⟨b0,b1⟩,_⟩:=EE h3.cy.vs hp (Q3 (q:=d) (n:=n) (by omega)) (by rw[h3.z];exact h3.tob d (by omega))
  obtain⟨t2,to2,lb2,mv2,y2,g1,g2,g3,g4,g5⟩:=h3.inner hd h4 h2
  unfold L3
  simp only
  rw[ab,ab,HM,AA ⟨b0,b1⟩,h3.hdb d (by omega),AYS h3.m0 h3.m1,AW,g1]
  exact⟨_,rfl,rfl,by omega,t2,to2,lb2,mv2,y2,rfl,g2,g3,g4,g5.trans h5⟩
 ·rintro⟨c,st⟩ ⟨h1,_,t,I2,lH,bX,y,rfl,h2,h3,h4,h5⟩
  simp only at h1
  subst h1
  have hml:=h3.W3
  have hyk:y=k:=by omega
  subst hyk
  unfold L3
  simp only
  rw[af]
  exact⟨_,rfl,_,_,_,_,rfl,h3,h5⟩
theorem LC.whole {m:Int} (h:LC k n m A f la 0 0 s to lb []) (hk:0<k) (hm:NS [0] s.2.2 w):
  ∃ b,AH (L2 [BitVec.ofInt 64 (A 0+1)]) (0,(s,w,to,[]),[BitVec.ofInt 64 (A 0+1)])=some b/\∃ t I2 lH bX,b=(t,I2,bX,[BitVec.ofInt 64 (gl (0,0) bX 0).2+1#64],0)/\LC k n m A f la k k t I2 lH bX :=by
 refine AK (fun c (st:Int×Cp×List (BitVec 64))=>(c=0/\st=(0,(s,w,to,[]),[BitVec.ofInt 64 (A 0+1)]))\/(c=1/\∃ t I2 lH bX b,st=(1,(t,w,I2,bX),[BitVec.ofInt 64 b+1#64])/\NS [0] t.2.2 w/\LC k n m A f la 0 1 t I2 lH bX /\(gl (0,0) bX 0).2=b)) _ 1 ?_ ?_ (.inl ⟨rfl,rfl⟩)
 ·rintro c st hc (⟨rfl,rfl⟩|⟨rfl,_⟩)
  rotate_left
  ·omega
  left
  obtain⟨v,e,t,I2,mm,M1,M2⟩:=qZ h.cy hm (mv:=[]) (by simp) (BitVec.ofInt 64 (A 0+1))
  have hcy:=tB.cy h.cy M1
  obtain⟨lH,b,rfl,rfl,rfl,hG0,hG⟩:=h.grow hk (.inl rfl) M1
  unfold L2
  simp only
  rw[AA (by simp),AA (by simp),show gl (0#64) [BitVec.ofInt 64 (A 0+1)] (Int.toNat 0)=BitVec.ofInt 64 (A 0+1) from rfl,M2,AW,AE (DQ rfl),AA (by simp)]
  exact⟨_,rfl,.inr ⟨by trivial,_,_,_,_,b,rfl,hcy.2.1 w hm,hG,rfl⟩⟩
 ·rintro st (⟨h1,_⟩|⟨_,t,I2,lH,bX,b,rfl,h2,h3,h4⟩)
  ·omega
  unfold L2
  simp only
  rw[AE (by simp)]
  refine map_inr ?_
  obtain⟨bb,g1,t2,to2,lb2,mv2,rfl,g2,g3⟩:=h3.A5L hk h2 [BitVec.ofInt 64 b+1#64]
  exact⟨_,g1,t2,to2,lb2,mv2,by rw[g3,h4],g2⟩
theorem AVQ (h:VS s) {l:List Int} (hf:DB s i) (hl:Has s i l) {m:Int} (m0:0<=m) (m1:m<=2) (p0:0<=p) (hp:p+1+m<i.2.2.2.2) (ha:CM (sz s.1) l p=some a) (hw:gl 0#64 s.2.1 a.toNat=Y9 1 m):
  ∃ x,CM (sz s.1) l (p+1)=some x/\(0<=x/\x<s.2.1.length)/\(fr s.2.2 (x / sz s.1)).1=i.1/\B2 s a 0 true=some (x,0):=by
 obtain⟨a',hat⟩:=zT h hf hl p0 (by omega)
 have RX:=hat.FZ
 rw[ha] at RX
 obtain rfl:=HO RX
 have hpa:Pa s.2.2 i.2.2.1 l:=by
  rcases hl with ⟨g1,_⟩|⟨_,g1⟩
  ·omega
  ·exact g1
 obtain⟨x2,h2⟩:=zT h hf hl (at' :=p+(1+m)) (by omega) (by omega)
 obtain⟨x,hx⟩:=hB (BU s.1) h2.FZ (p:=p+1) (by omega) (by omega)
 obtain⟨⟨x0,x1⟩,xm⟩:=EE h hpa (by omega) hx
 refine⟨x,hx,⟨x0,x1⟩, ?_, ?_⟩
 ·rw[(h.owner hpa _ xm).1]
  rcases hf.2 with ⟨g1,_⟩|⟨_,_,g1,_⟩
  ·omega
  ·exact g1
 unfold B2
 have hh:=nX (r:=1) (d:=m) (by omega) (by omega) m0 (by omega)
 rcases zU hat with ⟨g1,_⟩|⟨o,g1,g2⟩
 ·rw[hw,hh] at g1;cases g1
 rw[hw,hh] at g1
 obtain rfl:=HO g1
 rcases g2 with ⟨y,g2,g3⟩|⟨g2,_⟩
 rotate_left
 ·rw[h2.FZ] at g2;cases g2
 rw[g3,AW,AE (DQ rfl),AA rfl,af,AE (by show ¬(0:Int)≥1;omega),ah (e:=(1:Int)+0),hat.rgo (1+0) (by omega) (by omega),show p+(1+0)=p+1 by omega,hx]
 rfl
theorem AQX (h:VS s) {x:Int} (x0:0<=x) (x1:x<s.2.1.length) (hp:B2 s a 0 true=some (x,0)) (v:BitVec 64):DX s a 0 v=some ((s.1,s.2.1.set x.toNat v,s.2.2),0):=by
 unfold DX Q0
 rw[VS.valid h,AW,AE (show ¬(!true)=true by decide),hp,AW,AE (DQ rfl),VS.copy h,AW,AA ⟨x0,x1⟩]
 rfl
structure SC (k:Nat) (n m:Int) (x d:Nat) (s:Sp) (i:AI) (l at' :List Int):Prop where
 vs:VS s
 sh:s.1=3
 nf:s.2.2.length=4
 fit:DB s i
 seq:i.1=0
 XK:i.2.1=0
 wd:i.2.2.2.2=(x:Int)*n
 has:Has s i l
 oth:∀ q,q≠0->q≠-1->owned s.2.2 q=[]
 A5M:i.2.2.2.2=0->owned s.2.2 0=[]
 fre:cl 8 ((x:Int)*n)+(C1 s.2.2).length=4
 AJ6:C1 s.2.2=([0,1,2,3]:List Int).drop (cl 8 ((x:Int)*n)).toNat
 fst:x=0\/gl 0 l 0=0
 A5N:at'.length=x
 apl:∀ q:Nat,q<x->CM 8 l ((q:Int)*n)=some (gl 0 at' q)
 hda:∀ q,q<x->gl 0#64 s.2.1 (gl 0 at' q).toNat=Y9 1 m
 rf:∀ q:Nat,q<d->∀ a,CM 8 l ((q:Int)*n+1)=some a->gl 0#64 s.2.1 a.toNat=BitVec.ofInt 64 (gl 0 at' ((q+1)%k)+1)
theorem SC.z {m:Int} {x d:Nat} {l at' :List Int} (h:SC k n m x d s i l at'):sz s.1=8:=by rw[h.sh];rfl
theorem SC.more {k:Nat} {n m:Int} {x:Nat} {s:Sp} {i:AI} {l at' :List Int} (h:SC k n m x 0 s i l at') (hk:k<=2) (hx:x<k) (m0:0<=m) (m1:m<=2) (hn:n=2+m):
  ∃ t u j a l',DR s i n=some (t,j,a,0)/\FL t a 1 m=some (u,0)/\SC k n m (x+1) 0 u j l' (at' ++ [a]):=by
 have n0:0<=n:=by omega
 have hz:=h.z
 have A8E:=Q3 (q:=x) n0
 have hxk:=dJ hx n0
 have AEV:=h.fre
 have Z0:=h.wd
 have hA2:((x+1:Nat):Int)*n=(x:Int)*n+n:=by rw[w_,dS];simp
 have MZ:(k:Int)*n<=8:=by
  have:(k:Int)*n<=2*n:=rE (by omega) n0
  omega
 have c2:cl 8 ((x:Int)*n+n)<=cl 8 8:=cl8 (by omega)
 have c3:cl 8 8=1:=by decide
 have A84:=cl8 (show (x:Int)*n<=(x:Int)*n+n by omega)
 rcases ATU s i n with ⟨g1,_⟩|⟨⟨_,_,_,_⟩,g⟩
 ·exact absurd ⟨h.vs,h.fit,by omega,by omega⟩ g1
 rcases g with ⟨g1,g2,_⟩|⟨_,⟨g1,_⟩|⟨_,t,j,a,l1,l',g1,g⟩⟩
 ·rw[h.seq] at g2;exact absurd (h.A5M g1) g2
 ·rw[hz,Z0] at g1;omega
 obtain⟨u,u1,u2⟩:=A1O h.vs (r:=1) (d:=m) (by omega) (by omega) m0 (by omega) h.fit (by rw[show 1+1+m=n by omega];exact g)
 have gg:=u2.grown
 obtain rfl:=K_ h.has gg.has
 have RX:CM 8 l' ((x:Int)*n)=some a:=by have:=gg.FZ;rw[hz,Z0] at this;exact this
 have hw:=u2.wr
 rw[hz,Z0] at hw
 have HN:=gg.path.nodup
 have mG:∀ {i a},CM 8 l i=some a->CM 8 l' i=some a:=by
  intro i a hi
  rw[gg.more];exact CK hi
 have A5O:=gV.self h.vs h.fit (by omega) (by omega) m0 (by omega) u2
 have uC:=gg.fre
 simp only at uC
 have lE:(l.length:Int)=cl 8 ((x:Int)*n):=by have:=gg.A1N;rw[hz,Z0] at this;exact this
 have A8F :(l'.length:Int)=cl 8 ((x:Int)*n+n):=by have:=gg.AI4;rw[hz,Z0,show (x:Int)*n+(1+1+m)=(x:Int)*n+n by omega] at this;exact this
 have A5K:l'.length-l.length<=(C1 s.2.2).length:=by
  have:=KL List.length gg.more
  rw[PQ,jM] at this
  omega
 have NX:=h.A5N
 have hg1:∀ q,q<x->gl 0 (at' ++ [a]) q=gl 0 at' q:=fun q hq=>JM (by omega)
 have vS:gl 0 (at' ++ [a]) x=a:=by
  unfold gl
  rw[n9,SI (by omega),NX,bL];rfl
 refine⟨t,u,j,a,l',g1,u1,⟨u2.vs,by rw[u2.sh,h.sh],by have:=gg.len;rw[this];exact h.nf,A5O.1,gg.seq.trans h.seq,gg.XK.trans h.XK, ?_, ?_, ?_, ?_, ?_, ?_, ?_,by simp [NX], ?_, ?_,fun q hq=>by omega⟩⟩
 ·rw[gg.words,Z0,hA2];omega
 ·exact .inr ⟨by rw[gg.words,Z0];omega,gg.path⟩
 ·intro q q0 q1
  have:=gg.oth q (by rw[h.seq];exact q0) q1
  rw[this];exact h.oth q q0 q1
 ·intro hw0
  rw[gg.words,Z0] at hw0;omega
 ·rw[hA2,uC,oD];omega
 ·rw[hA2,uC,h.AJ6,ABL]
  congr 1
  have q1:=cl8 (show 0<=(x:Int)*n by omega)
  rw[SH (by omega:(0:Int)<8)] at q1
  omega
 ·right
  by_cases hx0:x=0
  ·subst hx0
   have g2:cl 8 (((0:Nat):Int)*n)=0:=by rw[oE,oH,SH (by omega:(0:Int)<8)]
   have g3:cl 8 (((0:Nat):Int)*n+n)=1:=AFM (by omega) (by omega)
   have A2V:l=[]:=AFW.1 (by omega)
   have:=gg.more
   rw[h.AJ6,g2,A2V,show l'.length-([]:List Int).length=1 by simp only[SK];omega] at this
   rw[this];rfl
  ·rw[gg.more]
   have h5:=dJ (q:=0) (n:=n) (show 0<x by omega) n0
   have h6:=J7 (n:=(x:Int)*n) (z:=8) (by omega)
   simp only[oE,oH] at h5
   rw[JM (by omega)]
   rcases h.fst with h7|h7
   ·exact absurd h7 hx0
   ·exact h7
 ·intro q hq
  by_cases hqx:q=x
  ·subst hqx;rw[vS];exact RX
  ·rw[hg1 q (by omega)];exact mG (h.apl q (by omega))
 ·intro q hq
  by_cases hqx:q=x
  ·subst hqx;rw[vS];exact hw.head a RX
  ·rw[hg1 q (by omega)]
   have vR:=dJ (n:=n) (show q<x by omega) n0
   have hq0:=Q3 (q:=q) n0
   have hap:=mG (h.apl q (by omega))
   have hvu:VS (s.1,s.2.1,u.2.2):=gg.vs
   obtain⟨⟨q0,_⟩,_⟩:=EE hvu gg.path hq0 (by simp only;rw[hz];exact hap)
   refine (hw.oth _ fun kk k0 k1 he=> ?_).trans (h.hda q (by omega))
   rw[show (((gl 0 at' q).toNat:Nat):Int)=gl 0 at' q by omega] at he
   have:=F9 (by omega) HN (by omega) hq0 he hap
   omega
theorem SC.set {k:Nat} {n m:Int} {d:Nat} {s:Sp} {i:AI} {l at' :List Int} (h:SC k n m k d s i l at') (hd:d<k) (m0:0<=m) (m1:m<=2) (hn:n=2+m):
  ∃ t,DX s (gl 0 at' d) 0 (BitVec.ofInt 64 (gl 0 at' ((d+1)%k)+1))=some (t,0)/\SC k n m k (d+1) t i l at' :=by
 have n0:0<=n:=by omega
 have hz:=h.z
 have hd0:=Q3 (q:=d) n0
 have hdk:=dJ hd n0
 have Z0:=h.wd
 obtain⟨x,hx,⟨x0,x1⟩,xo,hp⟩:=AVQ h.vs h.fit h.has m0 m1 hd0 (by omega) (by rw[hz];exact h.apl d hd) (h.hda d hd)
 rw[hz] at hx
 refine⟨_,AQX h.vs x0 x1 hp _, ?_⟩
 have hpa:Pa s.2.2 i.2.2.1 l:=by
  rcases h.has with ⟨g1,_⟩|⟨_,g1⟩
  ·omega
  ·exact g1
 have HN:=hpa.nodup
 have hv:=h.vs.word x0 (by rw[xo,h.seq];omega) (BitVec.ofInt 64 (gl 0 at' ((d+1)%k)+1))
 have CQ:∀ {q i:Int} {v:BitVec 64},CM 8 l i=some q->0<=i->i≠(d:Int)*n+1->gl 0#64 (s.2.1.set x.toNat v) q.toNat=gl 0#64 s.2.1 q.toNat:=by
  intro q i v hi i0 CW
  obtain⟨⟨q0,_⟩,q2⟩:=EE h.vs hpa i0 (by rw[hz];exact hi)
  rw[qN]
  intro he
  have:q=x:=by omega
  rw[this] at hi
  exact CW (F9 (by omega) HN i0 (by omega) hi hx)
 refine⟨hv,h.sh,h.nf,DB.words (by rw[EG]) h.fit,h.seq,h.XK,h.wd,h.has,h.oth,h.A5M,h.fre,h.AJ6,h.fst,h.A5N,h.apl, ?_, ?_⟩
 ·intro q hq
  refine (CQ (h.apl q hq) (Q3 n0) ?_).trans (h.hda q hq)
  rcases (show q<d\/q=d\/d<q by omega) with h1|rfl|h1
  ·have:=dJ (n:=n) h1 n0;omega
  ·omega
  ·have:=dJ (n:=n) h1 n0;omega
 ·intro q hq a ha
  by_cases hqd:q=d
  ·subst hqd
   rw[hx] at ha
   obtain rfl:=HO ha
   simp only
   rw[DS (by omega),AA rfl]
  ·refine (CQ ha (by have:=Q3 (q:=q) n0;omega) ?_).trans (h.rf q (by omega) a ha)
   have:=dJ (n:=n) (show q<d by omega) n0;omega
theorem SC.uU {k:Nat} {n m:Int} {d:Nat} {s:Sp} {i:AI} {l at' :List Int} (h:SC k n m k d s i l at') (m0:0<=m) (m1:m<=2) (hn:n=2+m):∀ c q:Nat,q+c=k->DK 8 s.2.1 l ((q:Int)*n) (List.replicate c (1,m)) ((k:Int)*n)
 |0,q,hq=>by
  have:q=k:=by omega
  subst this
  rw[List.replicate_zero,DK]
 |c+1,q,hq=>by
  rw[List.replicate_succ,DK]
  refine⟨⟨⟨by simp,by simp⟩,m0,by simp only;omega⟩,⟨_,h.apl q (by omega),h.hda q (by omega)⟩, ?_⟩
  have:=SC.uU h m0 m1 hn c (q+1) (by omega)
  rw[w_,dS] at this
  rw[show (q:Int)*n+(1+1+m)=(q:Int)*n+((1:Nat):Int)*n by rw[hn];omega]
  exact this
theorem SC.YV {k:Nat} {n m:Int} {s:Sp} {i:AI} {l at' :List Int} (h:SC k n m k k s i l at') (hk0:0<k) (hk:k<=2) (m0:0<=m) (m1:m<=2) (hn:n=2+m):
  Chk s [i] (1,1, -1, -1,0)/\LC k n m (gl 0 at') i.2.2.1 l 0 0 s (1,1, -1, -1,0) [] []:=by
 have n0:0<=n:=by omega
 have hz:=h.z
 have Z0:=h.wd
 have MZ:=dJ (n:=n) hk0 n0
 simp only[oE,oH,xD] at MZ
 have hw0:i.2.2.2.2≠0:=by omega
 have hpa:Pa s.2.2 i.2.2.1 l:=by
  rcases h.has with ⟨g1,_⟩|⟨_,g1⟩
  ·omega
  ·exact g1
 have hob:obs s i l=some (ads 8 l 0 (List.replicate k (1,m))):=by
  unfold obs
  rw[hz]
  have ht:=h.uU m0 m1 hn k 0 (by omega)
  simp only[oE,oH] at ht
  rw[Z0]
  exact zV ht (by omega)
 have AAJ:DB s (1,1, -1, -1,0):=⟨⟨by decide,by decide,by decide,by decide,by decide,by simp only;omega⟩,.inl ⟨rfl,rfl,rfl⟩⟩
 have C6:(fr s.2.2 i.2.2.1).1=0/\(k:Int)*n<=l.length*8:=by
  rcases h.fit.2 with ⟨g1,_⟩|⟨_,_,g1,_,l2,p1,p2,_⟩
  ·exact absurd g1 hw0
  ·obtain rfl:=hpa.fn p1
   have:=J7 (n:=(k:Int)*n) (z:=8) (by omega)
   rw[hz,Z0] at p2
   exact⟨by rw[g1,h.seq],by omega⟩
 have ho1:owned s.2.2 1=[]:=h.oth 1 (by decide) (by decide)
 refine⟨⟨h.vs, ?_,by simp [AV],AAJ, ?_,fun _=>ho1⟩,⟨hk,m0,m1,hn,hz,⟨h.vs,AAJ,fun _=>ho1,by decide,by decide⟩,rfl, ?_,.inl ⟨rfl,rfl⟩,hpa,C6.1,C6.2, ?_, ?_,.inl rfl,by omega,by omega,rfl,fun q hq=>by omega,fun q hq=>by omega,h.apl,fun q hq=>by omega,fun q _ hq=>h.hda q hq,fun q _ hq=>h.rf q hq,fun q hq=>by omega,fun q hq=>by omega,fun q _ hq=>by omega⟩⟩
 ·intro p hp
  obtain rfl:=GG.1 hp
  exact⟨⟨h.fit,l,_,h.has,hob⟩,hw0⟩
 ·simp [AV,h.seq]
 ·simp
 ·have:=h.fre
  simp only[oE,oH]
  rw[SH (by omega:(0:Int)<8)];omega
 ·have:=h.AJ6
  simp only[oE,oH]
  rw[SH (by omega:(0:Int)<8),b7];exact this
theorem SC.at' {d:Nat} {s:Sp} {i:AI} {l at' :List Int} (h:SC 2 2 0 2 d s i l at'):gl 0 at' 0=0/\0<=gl 0 at' 1/\gl 0 at' 1<=16384:=by
 have W7:=VS.IK h.vs
 have Z0:=h.wd
 have hpa:Pa s.2.2 i.2.2.1 l:=by
  rcases h.has with ⟨g1,_⟩|⟨_,g1⟩
  ·omega
  ·exact g1
 have h0:=h.apl 0 (by omega)
 obtain⟨⟨a0,a1⟩,_⟩:=EE h.vs hpa (Q3 (q:=1) (n:=2) (by omega)) (by rw[h.z];exact h.apl 1 (by omega))
 refine⟨?_,a0,by omega⟩
 have hf:=h.fst
 cases l with
 |nil=>rw[CM] at h0;cases h0
 |cons f r=>
  rw[CM,AA (by decide)] at h0
  have:=HO h0
  rcases hf with hf|hf
  ·omega
  ·have:f=0:=hf
   subst this
   rw[<-HO h0];decide
theorem AVR:∃ s i l at',J6=some (s,i)/\SC 2 2 0 2 2 s i l at' :=by
 unfold J6
 rw[ANL (s:=3) (n:=4) (by omega) (by omega),AW]
 simp only
 have hv:=VS.new (s:=3) (n:=4) (by omega) (by omega)
 have mA:∀ x:Int,0<=x->x<((List.replicate (4:Int).toNat ((-1, -1, -1):Fr)).length:Int)->(fr (List.replicate (4:Int).toNat ((-1, -1, -1):Fr)) x).1= -1:=by
  intro x x0 x1
  unfold fr
  rw[V5] at x1
  rw[NB (by omega)]
 have A5P:C1 (List.replicate (4:Int).toNat ((-1, -1, -1):Fr))=[0,1,2,3]:=by decide
 have zI:SC 2 2 0 0 0 (3,List.replicate ((4:Int)*sz 3).toNat 0#64,List.replicate (4:Int).toNat ((-1, -1, -1):Fr)) (0,0, -1, -1,0) [] []:=by
  refine⟨hv,rfl,by rw[V5];rfl,⟨⟨by decide,by decide,by decide,by decide,by decide,by simp only;omega⟩,.inl ⟨rfl,rfl,rfl⟩⟩,rfl,rfl,by simp,.inl ⟨rfl,rfl⟩,fun q _ q1=>ACR mA q q1,fun _=>ACR mA 0 (by decide), ?_, ?_,.inl rfl,rfl,fun q hq=>by omega,fun q hq=>by omega,fun q hq=>by omega⟩
  ·simp only[oE,oH]
   rw[SH (by omega:(0:Int)<8),A5P];rfl
  ·simp only[oE,oH]
   rw[SH (by omega:(0:Int)<8),A5P];rfl
 obtain⟨t1,u1,j1,a1,l1,p1,p2,p3⟩:=zI.more (by omega) (by omega) (by omega) (by omega) (by omega)
 obtain⟨t2,u2,j2,a2,l2,q1,q2,q3⟩:=p3.more (by omega) (by omega) (by omega) (by omega) (by omega)
 obtain⟨b0,b1,b2⟩:=q3.at'
 rw[show gl 0 ([]++ [a1]++ [a2]) 0=a1 from rfl] at b0
 rw[show gl 0 ([]++ [a1]++ [a2]) 1=a2 from rfl] at b1 b2
 obtain⟨v,v1,v2⟩:=q3.set (d:=0) (by omega) (by omega) (by omega) (by omega)
 obtain⟨x,x1,x2⟩:=v2.set (d:=1) (by omega) (by omega) (by omega) (by omega)
 rw[p1,AW]
 simp only
 rw[p2,AW]
 simp only
 rw[q1,AW]
 simp only
 rw[q2,AW]
 simp only
 rw[ah (e:=a2+1),show DX u2 a1 0 (BitVec.ofInt 64 (a2+1))=some (v,0) from v1,AW]
 simp only
 rw[ah (e:=a1+1),show DX v a2 0 (BitVec.ofInt 64 (a1+1))=some (x,0) from x1,AW]
 exact⟨_,_,_,_,rfl,x2⟩
theorem T6:CU=some true:=by
 obtain⟨s,i,l,at',e,h⟩:=AVR
 unfold CU
 rw[e,AW]
 simp only
 obtain⟨a0,_⟩:=h.at'
 obtain⟨c1,c2⟩:=h.YV (by omega) (by omega) (by omega) (by omega) (by omega)
 obtain⟨b,b1,t,I2,lH,bX,rfl,b2⟩:=z9 (ws:=[1#64]) h.vs.stI (by simp) (by simp) c1 (fun w hw=>by
  have hs:AV [i]=[0]:=by simp [AV,h.seq]
  rw[hs] at hw
  have:=c2.whole (by omega) hw
  rw[a0] at this
  exact this)
 have hml:=b2.W3
 have Z0:=b2.wd
 rw[b1,AW]
 simp only
 have h0:=b2.tob 0 (by omega)
 have hf:=b2.fst
 have hm:(gl (0,0) bX 0).2=8:=by
  rcases hf with hf|hf
  ·omega
  cases lH with
  |nil=>rw[CM] at h0;cases h0
  |cons f r=>
   rw[CM,AA (by decide)] at h0
   have:f=1:=hf
   subst this
   rw[<-HO h0];decide
 rw[AA trivial,ab,AA (by simp),AA (by simp),hm,AA (by decide),JR (by omega)]
theorem OB.uniq {s:Sp} {q:Rows} (hb:HB s q) {i i' :AI} (hi:i∈q.flatten) (KM :i' ∈q.flatten) {la la' :List Int} {oa oa' :List (Int×Int)} {pa pa' a:Int} {x x' :Int×Int} (o:OB s i la oa pa a x) (o' :OB s i' la' oa' pa' a x'):
  i=i' /\la=la' /\pa=pa' /\x=x' :=by
 have hv:=hb.bv.vs
 have r:=CH hv (hb.fit hi).1 o.has o.IA.2.2.1 o.FZ
 have r' :=CH hv (hb.fit KM).1 o'.has o'.IA.2.2.1 o'.FZ
 obtain rfl:=hb.uniq hi KM (r.2.2.2.1.symm.trans r'.2.2.2.1)
 obtain rfl:=K_ o.has o'.has
 have hx:=AIF o
 rw[AIF o'] at hx
 exact⟨rfl,rfl,F9 (BU s.1) (YP o.has) o.IA.2.2.1 o'.IA.2.2.1 o.FZ o'.FZ,(HO hx).symm⟩
def qT (s:Sp) (C:List Int) (w:BitVec 64):List Int:=if Wn C s w then [(w.toNat:Int)-1] else []
structure Nm (s:Sp) (mv:List (Int×Int)) (nm:List Int):Prop where
 len:nm.length=s.2.1.length
 val:∀ k,k<mv.length->gl 0 nm (gl (0,0) mv k).1.toNat=(gl (0,0) mv k).2+1
structure RI (s:Sp) (l:List AI) (mv:List (Int×Int)) (ws:List (BitVec 64)) (idx:Nat) (todo:List Int) (done:List Bool) (D:List Nat):Prop where
 dn:done.length=s.2.1.length
 nd:D.Nodup
 lt:∀ k∈D,k<mv.length
 dd:∀ a:Nat,a<s.2.1.length->(gl false done a=true↔∃ k∈D,(gl (0,0) mv k).1=(a:Int))
 len:todo.length<=ws.length+15*D.length
 td:∀ a∈todo,∃ k,k<mv.length/\(gl (0,0) mv k).1=a
 ws:∀ w∈ws,Wn (AV l) s w->(w.toNat:Int)-1∈todo
 cl:∀ k∈D,∀ i la oa pa x,i∈l->OB s i la oa pa (gl (0,0) mv k).1 x->∀ j ya,1<=j->j<=x.1->CM (sz s.1) la (pa+j)=some ya->Wn (AV l) s (gl 0#64 s.2.1 ya.toNat)->((gl 0#64 s.2.1 ya.toNat).toNat:Int)-1∈todo
 ix:∀ j,j<idx->∃ k∈D,(gl (0,0) mv k).1=gl 0 todo j
def tF (m:List (Int×Int)) (D:List Nat):Int:=dI (D.map (gl (0,0) m))
theorem AQY {a b:List (Int×Int)} (h:a.Perm b):dI a=dI b:=by
 unfold dI
 induction h with
 |nil=>rfl
 |cons x _ ih=>simp only[JS,bK,ih]
 |swap x y l=>simp only[JS,bK];omega
 |trans _ _ ih1 ih2=>exact ih1.trans ih2
theorem AQZ (m:List (Int×Int)):(List.range m.length).map (gl (0,0) m)=m:=by
 refine List.ext_getElem (by simp) fun i h1 h2=> ?_
 rw[rH,List.getElem_range,DJ h2]
variable {D:List Nat} {todo:List Int}
theorem RI.all {N:Int} {h:Hs} (hv:HV N h) {CB:AI} {l0:List Int} {DL:List (Int×Int)} (cd:Cd h.2.1 h.2.2.1 l CB l0 DL) {m:List (Int×Int)} (c:CI (Rwd h.2.1 l ws) h.2.1 h.2.2.1 l CB l0 DL t to lb m mv mv.length 0)
  {done:List Bool} (r:RI h.2.1 l mv ws todo.length todo done D):D.length=mv.length/\tF m D=dI m:=by
 have MR:∀ a,a∈todo->∃ k∈D,(gl (0,0) mv k).1=a:=by
  intro a ha
  obtain⟨j,hj,rfl⟩:=EF (d:=(0:Int)) ha
  exact r.ix j hj
 have QF:∀ a,Rwd h.2.1 l ws a->∃ k∈D,(gl (0,0) mv k).1=a:=by
  intro a ha
  induction ha with
  |start hw hn=>exact MR _ (r.ws _ hw hn)
  |next hi o ha j1 j2 hy hw ih=>
   obtain⟨k,hk,rfl⟩:=ih
   exact MR _ (r.cl k hk _ _ _ _ _ hi o _ _ j1 j2 hy hw)
 have SN:∀ k,k<mv.length->k∈D:=by
  intro k hk
  obtain⟨k',h1,h2⟩:=QF _ (c.rch _ (B3 (d:=((0,0):Int×Int)) hk))
  have:=qR (d:=((0,0):Int×Int)) (f:=fun x:Int×Int=>x.1) c.mvn (r.lt k' h1) hk h2
  rw[<-this];exact h1
 have hp:D.Perm (List.range mv.length):=(List.perm_ext_iff_of_nodup r.nd List.nodup_range).2 fun k=>by
  rw[dQ];exact⟨r.lt k,SN k⟩
 refine⟨by rw[hp.length_eq,AG2], ?_⟩
 unfold tF
 rw[AQY (hp.map _),←c.ml,AQZ]
theorem RI.skip {idx:Nat} {done:List Bool} (r:RI s l mv ws idx todo done D) (h:∃ k∈D,(gl (0,0) mv k).1=gl 0 todo idx):RI s l mv ws (idx+1) todo done D:=
 ⟨r.dn,r.nd,r.lt,r.dd,r.len,r.td,r.ws,r.cl,fun j hj=>by
  by_cases hji:j=idx
  ·subst hji;exact h
  ·exact r.ix j (by omega)⟩
theorem RI.step {idx:Nat} {done:List Bool} (r:RI s l mv ws idx todo done D) (hk:k<mv.length) (hkD:k∉D) (ha:gl 0 todo idx=(gl (0,0) mv k).1) (A80:idx<todo.length) (AF0:0<=(gl (0,0) mv k).1/\(gl (0,0) mv k).1<s.2.1.length)
  {rr:List Int} (hr:rr.length<=15) (htd:∀ a∈rr,∃ k,k<mv.length/\(gl (0,0) mv k).1=a)
  (hcl:∀ i la oa pa x,i∈l->OB s i la oa pa (gl (0,0) mv k).1 x->∀ j ya,1<=j->j<=x.1->CM (sz s.1) la (pa+j)=some ya->Wn (AV l) s (gl 0#64 s.2.1 ya.toNat)->((gl 0#64 s.2.1 ya.toNat).toNat:Int)-1∈todo++rr):
  RI s l mv ws (idx+1) (todo++rr) (done.set (gl (0,0) mv k).1.toNat true) (k::D):=by
 have hdn:=r.dn
 refine⟨by rw[EG];exact hdn,VE.2 ⟨hkD,r.nd⟩,fun k' KA => ?_,fun a ha' => ?_, ?_,fun a ha' => ?_,fun w hw hn=>AA8 _ (r.ws w hw hn),fun k' KA => ?_,fun j hj=> ?_⟩
 ·rcases GH.1 KA with rfl|KA
  ·exact hk
  ·exact r.lt k' KA
 ·rw[DS (by omega)]
  by_cases he:a=(gl ((0,0):Int×Int) mv k).1.toNat
  ·rw[AA he]
   exact⟨fun _=>⟨k,oC,by omega⟩,fun _=>rfl⟩
  ·rw[AE he,r.dd a ha']
   constructor
   ·rintro⟨k',h1,h2⟩;exact⟨k',YB _ h1,h2⟩
   ·rintro⟨k',h1,h2⟩
    rcases GH.1 h1 with rfl|h1
    ·omega
    ·exact⟨k',h1,h2⟩
 ·have:=r.len
  rw[PQ,NU];omega
 ·rcases FG.1 ha' with h1|h1
  ·exact r.td a h1
  ·exact htd a h1
 ·rcases GH.1 KA with rfl|KA
  ·exact hcl
  ·exact fun i la oa pa x hi o j ya j1 j2 hy hn=>AA8 _ (r.cl k' KA i la oa pa x hi o j ya j1 j2 hy hn)
 ·rw[JM (show j<todo.length by omega)]
  by_cases hji:j=idx
  ·subst hji;exact⟨k,oC,ha.symm⟩
  ·obtain⟨k',h1,h2⟩:=r.ix j (by omega)
   exact⟨k',YB _ h1,h2⟩
end Go.Proofs.YtokeceeccmgcmaaGreatDoor
