import Derived.Test.YtjbojdpdkikioaaGreatDoorHeaE
import Derived.Test.YtjbojdpdkikioaaGreatDoorRows
import Derived.Test.YtjbojdpdkikioaaGreatDoorTie
import Derived.Test.YtjbojdpdkikioaaGreatDoorCards
import Derived.SevenTiedAt
set_option linter.unusedVariables false
set_option linter.unusedSimpArgs false
namespace Go.Proofs.YtjbojdpdkikioaaGreatDoor
open Go Go.V3
theorem ASN {M:Nat} {g:Gh} (v:GV M g) (hM:M<=1000):KA g=some g:=by
 have hul:=v.ul
 have hrl:=v.rl
 have x6:=v.nn
 unfold KA
 rw[AB (by simp only[VN];omega),AB (by simp only[VN];omega)]
 refine (AN (fun k (st:Int×Gh)=>st=((k:Int),(g.1.take k,g.2.1,g.2.2))) (fun b=>b=g) g.1.length ?_ ?_ (s:=(0,([],([]:List Bool)++g.2.1,([]:List Int)++g.2.2))) (by simp)).elim fun b hb=>by rw[hb.1,hb.2]
 ·rintro k st hk rfl
  left
  have hv:=v.nd k (by omega) (by omega)
  have e1:gl (([],[]):Nd) g.1 k=nd g (k:Int):=rfl
  simp only[H6]
  rw[AB (by omega),AB (by omega),e1,AB (by simp only[VN];omega),AB (by simp only[VN];omega),AB (by simp only[sJ,H7];omega),AE (e:=(k:Int)+1) (by omega) (by omega)]
  refine⟨_,rfl, ?_⟩
  rw[GQ (d:=(([],[]):Nd)) g.1 k hk,e1]
  rfl
 ·rintro st rfl
  simp only
  rw[AD (by omega),T5]
  exact⟨_,rfl,rfl⟩
theorem Y_ {M:Nat} {g:Gh} (v:GV M g) (x:Int) (need:Bool):C3 g x need=some (OP g.2.1 x need):=by
 have h1:=v.ul
 unfold C3 OP
 by_cases c0:x=0
 ·simp only[AB c0]
  cases need <;> rfl
 simp only[AD c0]
 by_cases c1:x<0
 ·rw[AB c1,AB (.inl c1)]
 by_cases c2:x>32
 ·rw[AD c1,AB c2,AB (.inr (.inl c2))]
 rw[AD c1,AD c2,AE (e:=x-1) (by omega) (by omega),AB (by omega)]
 cases hu:gl false g.2.1 (x-1).toNat with
 |true=>rw[AD (by decide),AD (fun hh=>by rcases hh with hh|hh|hh;omega;omega;cases hh)]
 |false=>rw[AB (by decide),AB (.inr (.inr rfl))]
def D4 (g:Gh) (x:Int):Int:=if x=0 then -1 else gl 0 g.2.2 (x-1).toNat
theorem nD {M:Nat} {g:Gh} (v:GV M g) {x:Int} (x0:0<=x) (x1:x<=32):B7 g x=some (D4 g x):=by
 have h1:=v.rl
 unfold B7 D4
 by_cases c0:x=0
 ·rw[AB c0,AB c0]
 ·rw[AD c0,AD c0,AE (e:=x-1) (by omega) (by omega),AB (by omega)]
theorem AG5 {M:Nat} {g:Gh} (v:GV M g):
  (∃ i:Nat,i<32/\gl false g.2.1 i=false/\(∀ j:Nat,j<i->gl false g.2.1 j=true)/\EW g=some ((i:Int)+1))\/(T2 g.2.1/\EW g=some 0):=by
 have h1:=v.ul
 unfold EW
 refine (AN (fun k (st:Int)=>st=(k:Int)/\∀ j:Nat,j<k->gl false g.2.1 j=true) (fun b=>(∃ i:Nat,i<32/\gl false g.2.1 i=false/\(∀ j:Nat,j<i->gl false g.2.1 j=true)/\b=(i:Int)+1)\/(T2 g.2.1/\b=0)) g.2.1.length ?_ ?_ (s:=0) ⟨rfl,fun j hj=>by omega⟩).elim fun b hb=>by
  rcases hb.2 with ⟨i,a1,a2,a3,a4⟩|⟨a1,a2⟩
  ·exact .inl ⟨i,a1,a2,a3,by rw[hb.1,a4]⟩
  ·exact .inr ⟨a1,by rw[hb.1,a2]⟩
 ·rintro k st hk ⟨rfl,hj⟩
  rw[AB (by omega),AB (by omega),AE (by omega) (by omega)]
  simp only[H6]
  by_cases hu:gl false g.2.1 k=true
  ·rw[AD (by rw[hu];decide)]
   refine .inl ⟨_,rfl,rfl,fun j eX => ?_⟩
   by_cases kP:j=k
   ·rw[kP];exact hu
   ·exact hj j (by omega)
  ·have hu' :gl false g.2.1 k=false:=by simpa using hu
   rw[AB (by rw[hu'];decide)]
   exact .inr ⟨_,rfl,.inl ⟨k,by omega,hu',hj,rfl⟩⟩
 ·rintro st ⟨rfl,hj⟩
  rw[AD (by omega)]
  exact⟨_,rfl,.inr ⟨fun i hi=>hj i (by omega),rfl⟩⟩
inductive qM (g:Gh) (o:Op):Gh->An->Prop
 |bad (c:¬(1<=o.1/\o.1<=10)):qM g o g (20,0#64)
 |size (c:o.1=1) (hs:¬xD o.2.1 o.2.2.1):qM g o g (13,0#64)
 |ASK (c:o.1=1) (hs:xD o.2.1 o.2.2.1) (hf:T2 g.2.1):qM g o g (15,0#64)
 |all (c:o.1=1) (hs:xD o.2.1 o.2.2.1) (i:Nat) (hi:i<32) (hu:gl false g.2.1 i=false) (hj:∀ j:Nat,j<i->gl false g.2.1 j=true):
   qM g o (g.1++ [(List.replicate o.2.1.toNat (-1),List.replicate o.2.2.1.toNat 0#64)],g.2.1.set i true,g.2.2.set i (g.1.length:Int)) (0,BitVec.ofInt 64 ((i:Int)+1))
 |col (c:o.1=8):qM g o g (0,0#64)
 |sta (c:o.1=10) (l:List Int) (hl:l.Pairwise (·< ·)) (hm:∀ x,x∈l↔GRe g x):qM g o g (0,BitVec.ofInt 64 (AG4 g l))
 |eqa (c:o.1=6) (e:OP g.2.1 o.2.1 false≠0):qM g o g (OP g.2.1 o.2.1 false,0#64)
 |eqb (c:o.1=6) (e:OP g.2.1 o.2.1 false=0) (f:OP g.2.1 o.2.2.1 false≠0):qM g o g (OP g.2.1 o.2.2.1 false,0#64)
 |equ (c:o.1=6) (e:OP g.2.1 o.2.1 false=0) (f:OP g.2.1 o.2.2.1 false=0):qM g o g (0,if D4 g o.2.1=D4 g o.2.2.1 then 1#64 else 0#64)
 |oS (c:(2<=o.1/\o.1<=5)\/o.1=7\/o.1=9) (e:OP g.2.1 o.2.1 true≠0):qM g o g (OP g.2.1 o.2.1 true,0#64)
 |drp (c:o.1=7) (e:OP g.2.1 o.2.1 true=0):qM g o (g.1,g.2.1.set (o.2.1-1).toNat false,g.2.2.set (o.2.1-1).toNat (-1)) (0,0#64)
 |shp (c:o.1=9) (e:OP g.2.1 o.2.1 true=0):qM g o g (0,BitVec.ofInt 64 (256*((nd g (D4 g o.2.1)).1.length:Int)+((nd g (D4 g o.2.1)).2.length:Int)))
 |idx (c:2<=o.1/\o.1<=5) (e:OP g.2.1 o.2.1 true=0) (hk:¬(0<=o.2.2.1/\o.2.2.1<(if o.1=2\/o.1=3 then ((nd g (D4 g o.2.1)).1.length:Int) else ((nd g (D4 g o.2.1)).2.length:Int)))):qM g o g (17,0#64)
 |rd (c:o.1=4) (e:OP g.2.1 o.2.1 true=0) (k0:0<=o.2.2.1) (k1:o.2.2.1<(nd g (D4 g o.2.1)).2.length):qM g o g (0,gl 0#64 (nd g (D4 g o.2.1)).2 o.2.2.1.toNat)
 |rr0 (c:o.1=2) (e:OP g.2.1 o.2.1 true=0) (k0:0<=o.2.2.1) (k1:o.2.2.1<(nd g (D4 g o.2.1)).1.length) (hw:gl 0 (nd g (D4 g o.2.1)).1 o.2.2.1.toNat= -1):qM g o g (0,0#64)
 |rrf (c:o.1=2) (e:OP g.2.1 o.2.1 true=0) (k0:0<=o.2.2.1) (k1:o.2.2.1<(nd g (D4 g o.2.1)).1.length) (hw:gl 0 (nd g (D4 g o.2.1)).1 o.2.2.1.toNat≠-1) (hf:T2 g.2.1):qM g o g (15,0#64)
 |rr (c:o.1=2) (e:OP g.2.1 o.2.1 true=0) (k0:0<=o.2.2.1) (k1:o.2.2.1<(nd g (D4 g o.2.1)).1.length) (hw:gl 0 (nd g (D4 g o.2.1)).1 o.2.2.1.toNat≠-1) (i:Nat) (hi:i<32) (hu:gl false g.2.1 i=false) (hj:∀ j:Nat,j<i->gl false g.2.1 j=true):
   qM g o (g.1,g.2.1.set i true,g.2.2.set i (gl 0 (nd g (D4 g o.2.1)).1 o.2.2.1.toNat)) (0,BitVec.ofInt 64 ((i:Int)+1))
 |wrh (c:o.1=3) (e:OP g.2.1 o.2.1 true=0) (k0:0<=o.2.2.1) (k1:o.2.2.1<(nd g (D4 g o.2.1)).1.length) (hh:OP g.2.1 o.2.2.2 false≠0):qM g o g (OP g.2.1 o.2.2.2 false,0#64)
 |wr (c:o.1=3) (e:OP g.2.1 o.2.1 true=0) (k0:0<=o.2.2.1) (k1:o.2.2.1<(nd g (D4 g o.2.1)).1.length) (hh:OP g.2.1 o.2.2.2 false=0):
   qM g o (g.1.set (D4 g o.2.1).toNat ((nd g (D4 g o.2.1)).1.set o.2.2.1.toNat (D4 g o.2.2.2),(nd g (D4 g o.2.1)).2),g.2) (0,0#64)
 |wd (c:o.1=5) (e:OP g.2.1 o.2.1 true=0) (k0:0<=o.2.2.1) (k1:o.2.2.1<(nd g (D4 g o.2.1)).2.length):
   qM g o (g.1.set (D4 g o.2.1).toNat ((nd g (D4 g o.2.1)).1,(nd g (D4 g o.2.1)).2.set o.2.2.1.toNat (BitVec.ofInt 64 o.2.2.2)),g.2) (0,0#64)
theorem fH {M:Nat} {g:Gh} (v:GV M g) {x:Int} (hx:OP g.2.1 x true=0):0<=D4 g x/\D4 g x<g.1.length:=by
 obtain⟨x0,x1,hu⟩:=eI hx
 unfold D4
 rw[AD (by omega)]
 exact v.rt _ (by omega) hu
theorem ZA {M:Nat} {g:Gh} (v:GV M g) {x:Int} (hx:OP g.2.1 x false=0):(-1<=D4 g x/\D4 g x<g.1.length)/\0<=x/\x<=32:=by
 rcases AL7 hx with rfl|⟨x0,x1,hu⟩
 ·exact⟨by unfold D4;rw[AB rfl];omega,by omega,by omega⟩
 ·unfold D4
  rw[AD (by omega)]
  have:=v.rt _ (by omega:(x-1).toNat<32) hu
  omega
theorem AZS {M:Nat} {g:Gh} (v:GV M g) (hM:M<=1000) (o:Op):∃ g' an,MQ g o=some (g',an)/\qM g o g' an:=by
 have hul:=v.ul
 have hrl:=v.rl
 have x6:=v.nn
 unfold MQ
 rw[ASN v hM,BC]
 by_cases c1:o.1=1
 ·rw[AB c1]
  by_cases h1:o.2.1<0
  ·rw[AB h1];exact⟨_,_,rfl,.size c1 fun hh=>by have:=hh.1.1;omega⟩
  by_cases h2:o.2.1>15
  ·rw[AD h1,AB h2];exact⟨_,_,rfl,.size c1 fun hh=>by have:=hh.1.2;omega⟩
  by_cases h3:o.2.2.1<0
  ·rw[AD h1,AD h2,AB h3];exact⟨_,_,rfl,.size c1 fun hh=>by have:=hh.2.1;omega⟩
  by_cases h4:o.2.2.1>32
  ·rw[AD h1,AD h2,AD h3,AB h4];exact⟨_,_,rfl,.size c1 fun hh=>by have:=hh.2.2;omega⟩
  have hs:xD o.2.1 o.2.2.1:=⟨by omega,by omega⟩
  rw[AD h1,AD h2,AD h3,AD h4]
  rcases AG5 v with ⟨i,hi,hu,hj,hf⟩|⟨hf,qS⟩
  ·rw[hf,BC,AD (by omega),AB (by omega)]
   have key:=AN (β:=Unit ⊕ (Gh×An)) (f:=fun s1:Int×Nd=>
    if s1.1<o.2.1 then
    if (s1.2.1.length+([(-1)]:List Int).length)*8<=140737488355328 then
    some (Sum.inl ((AG (s1.1+1),(s1.2.1++([(-1)]:List Int),s1.2.2))))
    else none
    else Option.map Sum.inr (if (g.1.length+([s1.2]:List ((List Int)×(List (BitVec 64)))).length)*48<=140737488355328 then
    if 0<=(AG ((i:Int)+1-1))/\(AG ((i:Int)+1-1))<(g.2.1.length:Int) then
    if 0<=(AG ((i:Int)+1-1))/\(AG ((i:Int)+1-1))<(g.2.2.length:Int) then
    some (Sum.inr (((g.1++([s1.2]:List ((List Int)×(List (BitVec 64)))),g.2.1.set ((AG ((i:Int)+1-1)).toNat) true,g.2.2.set ((AG ((i:Int)+1-1)).toNat) (AG (((g.1++([s1.2]:List ((List Int)×(List (BitVec 64))))).length:Int)-1))),(0,BitVec.ofInt 64 ((i:Int)+1)))))
    else none
    else none
    else none))
    (fun k (st:Int×Nd)=>st=((k:Int),(List.replicate k (-1),List.replicate o.2.2.1.toNat 0#64)))
    (fun b=>b=Sum.inr ((g.1++ [(List.replicate o.2.1.toNat (-1),List.replicate o.2.2.1.toNat 0#64)],g.2.1.set i true,g.2.2.set i (g.1.length:Int)),(0,BitVec.ofInt 64 ((i:Int)+1)))) o.2.1.toNat ?_ ?_ (s:=(0,([],List.replicate o.2.2.1.toNat 0#64))) rfl
   ·obtain⟨b,hb,rfl⟩:=key
    rw[hb]
    exact⟨_,_,rfl,.all c1 hs i hi hu hj⟩
   ·rintro k st hk rfl
    left
    simp only
    rw[AB (by omega),AB (by simp only[aW,H7];omega),AE (e:=(k:Int)+1) (by omega) (by omega)]
    refine⟨_,rfl, ?_⟩
    rw[List.replicate_succ'];rfl
   ·rintro st rfl
    simp only
    rw[AD (by omega),AB (by simp only[H7];omega),AE (e:=(i:Int)+1-1) (by omega) (by omega),AB (by omega),AB (by omega),AE (e:=_ - 1) (by simp only[JG,H7];omega) (by simp only[JG,H7];omega)]
    refine⟨_,rfl, ?_⟩
    simp only[JG,H7]
    rw[show ((i:Int)+1-1).toNat=i from by omega,show ((g.1.length+1:Nat):Int)-1=(g.1.length:Int) from by omega]
  ·rw[qS,BC,AB rfl]
   exact⟨_,_,rfl,.ASK c1 hs hf⟩
 rw[AD c1]
 by_cases c8:o.1=8
 ·rw[AB c8];exact⟨_,_,rfl,.col c8⟩
 rw[AD c8]
 by_cases c10:o.1=10
 ·obtain⟨l,h1,h2,h3⟩:=ASM v hM
  rw[AB c10,h1];exact⟨_,_,rfl,.sta c10 l h2 h3⟩
 rw[AD c10]
 by_cases c6:o.1=6
 ·rw[AB c6,Y_ v,BC]
  by_cases h1:OP g.2.1 o.2.1 false=0
  rotate_left
  ·rw[AB h1];exact⟨_,_,rfl,.eqa c6 h1⟩
  rw[AD (IN h1),Y_ v,BC]
  by_cases h2:OP g.2.1 o.2.2.1 false=0
  rotate_left
  ·rw[AB h2];exact⟨_,_,rfl,.eqb c6 h1 h2⟩
  obtain⟨_,x0,x1⟩:=ZA v h1
  obtain⟨_,y0,y1⟩:=ZA v h2
  rw[AD (IN h2),nD v x0 x1,BC,nD v y0 y1,BC]
  have:=qM.equ c6 h1 h2
  refine⟨_,_, ?_,this⟩
  by_cases h3:D4 g o.2.1=D4 g o.2.2.1
  ·rw[AB h3,AB h3];rfl
  ·rw[AD h3,AD h3];rfl
 rw[AD c6]
 have tail:∀ (hc:(2<=o.1/\o.1<=5)\/o.1=7\/o.1=9),∃ g' an,(Option.bind (C3 g o.2.1 true) (fun rV=>
   if ¬rV=0 then
   Option.bind (AT g rV) (fun r22=>
   some ((r22.1,r22.2)))
   else Option.bind (B7 g o.2.1) (fun YX=>
   if 0<=YX/\YX<(g.1.length:Int) then
   if o.1=7 then
   if 0<=(AG (o.2.1-1))/\(AG (o.2.1-1))<(g.2.1.length:Int) then
   if 0<=(AG (o.2.1-1))/\(AG (o.2.1-1))<(g.2.2.length:Int) then
   some (((g.1,g.2.1.set ((AG (o.2.1-1)).toNat) false,g.2.2.set ((AG (o.2.1-1)).toNat) (-1)),((0:Int),0#64)))
   else none
   else none
   else if o.1=9 then
   some ((g,(0,BitVec.ofInt 64 (AG ((AG ((256:Int)*(((gl (([],[]):((List Int)×(List (BitVec 64)))) g.1 YX.toNat).1).length:Int)))+(((gl (([],[]):((List Int)×(List (BitVec 64)))) g.1 YX.toNat).2).length:Int))))))
   else Option.bind (α:=Int ⊕ (Gh×An)) (if o.1=2 then
   some (Sum.inl ((((gl (([],[]):((List Int)×(List (BitVec 64)))) g.1 YX.toNat).1).length:Int)))
   else if o.1=3 then
   some (Sum.inl ((((gl (([],[]):((List Int)×(List (BitVec 64)))) g.1 YX.toNat).1).length:Int)))
   else some (Sum.inl ((((gl (([],[]):((List Int)×(List (BitVec 64)))) g.1 YX.toNat).2).length:Int)))) (fun q=>match q with
   |Sum.inl j2=>(if o.2.2.1<0 then
   Option.bind (AT g 17) (fun r24=>
   some ((r24.1,r24.2)))
   else if o.2.2.1≥j2 then
   Option.bind (AT g 17) (fun r25=>
   some ((r25.1,r25.2)))
   else if o.1=4 then
   if 0<=o.2.2.1/\o.2.2.1<(((gl (([],[]):((List Int)×(List (BitVec 64)))) g.1 YX.toNat).2).length:Int) then
   some ((g,(0,gl (0#64:(BitVec 64)) ((gl (([],[]):((List Int)×(List (BitVec 64)))) g.1 YX.toNat).2) o.2.2.1.toNat)))
   else none
   else if o.1=5 then
   Option.bind (B7 g o.2.1) (fun wP=>
   if 0<=wP/\wP<(g.1.length:Int) then
   if 0<=o.2.2.1/\o.2.2.1<(((gl (([],[]):((List Int)×(List (BitVec 64)))) g.1 wP.toNat).2).length:Int) then
   some (((g.1.set wP.toNat ((gl (([],[]):((List Int)×(List (BitVec 64)))) g.1 wP.toNat).1,(gl (([],[]):((List Int)×(List (BitVec 64)))) g.1 wP.toNat).2.set o.2.2.1.toNat (BitVec.ofInt 64 o.2.2.2)),g.2),(0,0#64)))
   else none
   else none)
   else if o.1=3 then
   Option.bind (C3 g o.2.2.2 false) (fun rW=>
   if ¬rW=0 then
   Option.bind (AT g rW) (fun r28=>
   some ((r28.1,r28.2)))
   else Option.bind (B7 g o.2.1) (fun vS=>
   if 0<=vS/\vS<(g.1.length:Int) then
   Option.bind (B7 g o.2.2.2) (fun r30=>
   if 0<=o.2.2.1/\o.2.2.1<(((gl (([],[]):((List Int)×(List (BitVec 64)))) g.1 vS.toNat).1).length:Int) then
   some (((g.1.set vS.toNat ((gl (([],[]):((List Int)×(List (BitVec 64)))) g.1 vS.toNat).1.set o.2.2.1.toNat r30,(gl (([],[]):((List Int)×(List (BitVec 64)))) g.1 vS.toNat).2),g.2),(0,0#64)))
   else none)
   else none))
   else if 0<=o.2.2.1/\o.2.2.1<(((gl (([],[]):((List Int)×(List (BitVec 64)))) g.1 YX.toNat).1).length:Int) then
   if (gl (0:Int) ((gl (([],[]):((List Int)×(List (BitVec 64)))) g.1 YX.toNat).1) o.2.2.1.toNat)=(-1) then
   some ((g,(0,0#64)))
   else Option.bind (EW g) (fun uY=>
   if uY=0 then
   Option.bind (AT g 15) (fun r32=>
   some ((r32.1,r32.2)))
   else if 0<=(AG (uY-1))/\(AG (uY-1))<(g.2.1.length:Int) then
   if 0<=(AG (uY-1))/\(AG (uY-1))<(g.2.2.length:Int) then
   some (((g.1,g.2.1.set ((AG (uY-1)).toNat) true,g.2.2.set ((AG (uY-1)).toNat) (gl (0:Int) ((gl (([],[]):((List Int)×(List (BitVec 64)))) g.1 YX.toNat).1) o.2.2.1.toNat)),(0,BitVec.ofInt 64 uY)))
   else none
   else none)
   else none)
   |Sum.inr b1=>some b1)
   else none)))=some (g',an)/\qM g o g' an:=by
  intro hc
  rw[Y_ v,BC]
  by_cases e:OP g.2.1 o.2.1 true=0
  rotate_left
  ·rw[AB e];exact⟨_,_,rfl,.oS hc e⟩
  obtain⟨x0,x1,hu⟩:=eI e
  have hr:=fH v e
  have H9:=v.nd _ hr.1 hr.2
  have e1:gl (([],[]):((List Int)×(List (BitVec 64)))) g.1 (D4 g o.2.1).toNat=nd g (D4 g o.2.1):=rfl
  rw[AD (IN e),nD v (by omega) x1,BC,AB hr,e1]
  by_cases c7:o.1=7
  ·rw[AB c7,AE (e:=o.2.1-1) (by omega) (by omega),AB (by omega),AB (by omega)]
   exact⟨_,_,rfl,.drp c7 e⟩
  rw[AD c7]
  by_cases c9:o.1=9
  ·rw[AB c9,AE (e:=(256:Int)*((nd g (D4 g o.2.1)).1.length:Int)) (by omega) (by omega),AE (by omega) (by omega)]
   exact⟨_,_,rfl,.shp c9 e⟩
  rw[AD c9]
  have hc' :2<=o.1/\o.1<=5:=by omega
  have A4Y:(if o.1=2 then
    (some (Sum.inl (((nd g (D4 g o.2.1)).1.length:Int))):Option (Int ⊕ (Gh×An)))
    else if o.1=3 then
    some (Sum.inl (((nd g (D4 g o.2.1)).1.length:Int)))
    else some (Sum.inl (((nd g (D4 g o.2.1)).2.length:Int))))=some (Sum.inl (if o.1=2\/o.1=3 then ((nd g (D4 g o.2.1)).1.length:Int) else ((nd g (D4 g o.2.1)).2.length:Int))):=by
   by_cases d2:o.1=2
   ·rw[AB d2,AB (.inl d2)]
   by_cases d3:o.1=3
   ·rw[AD d2,AB d3,AB (.inr d3)]
   ·rw[AD d2,AD d3,AD (by omega)]
  rw[A4Y,BC]
  simp only
  by_cases h1:o.2.2.1<0
  ·rw[AB h1];exact⟨_,_,rfl,.idx hc' e (by omega)⟩
  rw[AD h1]
  by_cases h2:o.2.2.1≥(if o.1=2\/o.1=3 then ((nd g (D4 g o.2.1)).1.length:Int) else ((nd g (D4 g o.2.1)).2.length:Int))
  ·rw[AB h2];exact⟨_,_,rfl,.idx hc' e (by omega)⟩
  rw[AD h2]
  by_cases d4:o.1=4
  ·rw[AD (by omega)] at h2
   rw[AB d4,AB (by omega)]
   exact⟨_,_,rfl,.rd d4 e (by omega) (by omega)⟩
  rw[AD d4]
  by_cases d5:o.1=5
  ·rw[AD (by omega)] at h2
   rw[AB d5,BC,AB hr,e1,AB (by omega)]
   exact⟨_,_,rfl,.wd d5 e (by omega) (by omega)⟩
  rw[AD d5]
  rw[AB (by omega)] at h2
  by_cases d3:o.1=3
  ·rw[AB d3,Y_ v,BC]
   by_cases hh:OP g.2.1 o.2.2.2 false=0
   rotate_left
   ·rw[AB hh];exact⟨_,_,rfl,.wrh d3 e (by omega) (by omega) hh⟩
   obtain⟨_,y0,y1⟩:=ZA v hh
   rw[AD (IN hh),BC,AB hr,nD v y0 y1,BC,e1,AB (by omega)]
   exact⟨_,_,rfl,.wr d3 e (by omega) (by omega) hh⟩
  have d2:o.1=2:=by omega
  rw[AD d3,AB (by omega)]
  by_cases hw:gl 0 (nd g (D4 g o.2.1)).1 o.2.2.1.toNat= -1
  ·rw[AB hw];exact⟨_,_,rfl,.rr0 d2 e (by omega) (by omega) hw⟩
  rw[AD hw]
  rcases AG5 v with ⟨i,hi,hu,hj,hf⟩|⟨hf,qS⟩
  ·rw[hf,BC,AD (by omega),AE (e:=(i:Int)+1-1) (by omega) (by omega),AB (by omega),AB (by omega),show ((i:Int)+1-1).toNat=i from by omega]
   exact⟨_,_,rfl,.rr d2 e (by omega) (by omega) hw i hi hu hj⟩
  ·rw[qS,BC,AB rfl]
   exact⟨_,_,rfl,.rrf d2 e (by omega) (by omega) hw hf⟩
 by_cases c7:o.1=7
 ·rw[AB c7,AB c7,BC];exact tail (by omega)
 rw[AD c7]
 by_cases c9:o.1=9
 ·rw[AB c9,AB c9,BC];exact tail (by omega)
 rw[AD c9]
 by_cases c2:o.1=2
 ·rw[AB c2,AB c2,BC];exact tail (by omega)
 rw[AD c2]
 by_cases c3:o.1=3
 ·rw[AB c3,AB c3,BC];exact tail (by omega)
 rw[AD c3]
 by_cases c4:o.1=4
 ·rw[AB c4,AB c4,BC];exact tail (by omega)
 rw[AD c4]
 by_cases c5:o.1=5
 ·rw[AB c5,BC];exact tail (by omega)
 rw[AD c5]
 exact⟨_,_,rfl,.bad (by omega)⟩
theorem qM.gv {M:Nat} {g:Gh} (v:GV M g) {o:Op} {g' :Gh} {an:An} (d:qM g o g' an):GV (M+1) g' :=by
 have hul:=v.ul
 have hrl:=v.rl
 have x6:=v.nn
 have same:GV (M+1) g:=⟨v.ul,v.rl,by omega,v.nd,v.rt,v.un⟩
 have put:∀ {i:Nat} {x:Int},i<32->0<=x->x<g.1.length->GV (M+1) (g.1,g.2.1.set i true,g.2.2.set i x):=by
  intro i x hi x0 x1
  refine⟨by simp only[EP];exact hul,by simp only[EP];exact hrl,by simp only;omega,v.nd,fun j hj hu=> ?_,fun j hj hu=> ?_⟩
  ·simp only at hu ⊢
   rw[D8 (by omega)] at hu ⊢
   split
   ·exact⟨x0,x1⟩
   ·rename_i hn;rw[AD hn] at hu;exact v.rt j hj hu
  ·simp only at hu ⊢
   rw[D8 (by omega)] at hu ⊢
   split at hu
   ·cases hu
   ·rename_i hn;rw[AD hn];exact v.un j hj hu
 have AWZ:∀ {k:Int} {y:Nd},0<=k->k<g.1.length->(y.1.length<=15/\y.2.length<=32/\∀ j:Nat,j<y.1.length→-1<=gl 0 y.1 j/\gl 0 y.1 j<g.1.length)->GV (M+1) (g.1.set k.toNat y,g.2):=by
  intro k y k0 k1 hy
  refine⟨hul,hrl,by simp only[EP];omega,fun i i0 i1=> ?_,fun i hi hu=>by simp only[EP];exact v.rt i hi hu,v.un⟩
  simp only[EP] at i1
  have e:nd (g.1.set k.toNat y,g.2) i=if i=k then y else nd g i:=by
   unfold nd
   simp only
   rw[D8 (by omega)]
   by_cases eS:i=k
   ·rw[AB eS,AB (by rw[eS])]
   ·rw[AD eS,AD (by omega)]
  rw[e]
  simp only[EP]
  split
  ·exact hy
  ·exact v.nd i i0 i1
 cases d with
 |bad c=>exact same
 |size c hs=>exact same
 |ASK c hs hf=>exact same
 |all c hs i hi hu hj=>
  refine⟨by simp only[EP];exact hul,by simp only[EP];exact hrl,by simp only[JG,H7];omega,fun k k0 k1=> ?_,fun j hj hu=> ?_,fun j hj hu=> ?_⟩
  ·simp only[JG,H7] at k1 ⊢
   by_cases hk:k=g.1.length
   ·have e:nd (g.1++ [(List.replicate o.2.1.toNat (-1),List.replicate o.2.2.1.toNat 0#64)],g.2.1.set i true,g.2.2.set i (g.1.length:Int)) k=(List.replicate o.2.1.toNat (-1),List.replicate o.2.2.1.toNat 0#64):=by
     unfold nd
     simp only
     rw[hk,CK (by rw[JG,H7];omega),ALG (by omega)]
     simp
    rw[e]
    simp only[aW]
    have:=hs.1
    have:=hs.2
    refine⟨by omega,by omega,fun j hj=> ?_⟩
    rw[S1 hj];omega
   ·have e:nd (g.1++ [(List.replicate o.2.1.toNat (-1),List.replicate o.2.2.1.toNat 0#64)],g.2.1.set i true,g.2.2.set i (g.1.length:Int)) k=nd g k:=by
     unfold nd
     simp only
     rw[YJ (by omega)]
    rw[e]
    have:=v.nd k k0 (by omega)
    exact⟨this.1,this.2.1,fun j hj=>by have:=this.2.2 j hj;omega⟩
  ·simp only[JG,H7] at hu ⊢
   rw[D8 (by omega)] at hu ⊢
   split
   ·omega
   ·rename_i hn;rw[AD hn] at hu;have:=v.rt j hj hu;omega
  ·simp only at hu ⊢
   rw[D8 (by omega)] at hu ⊢
   split at hu
   ·cases hu
   ·rename_i hn;rw[AD hn];exact v.un j hj hu
 |col c=>exact same
 |sta c l hl hm=>exact same
 |eqa c e=>exact same
 |eqb c e f=>exact same
 |equ c e f=>exact same
 |oS c e=>exact same
 |drp c e=>
  obtain⟨x0,x1,hu⟩:=eI e
  refine⟨by simp only[EP];exact hul,by simp only[EP];exact hrl,by simp only;omega,v.nd,fun j hj hu=> ?_,fun j hj hu=> ?_⟩
  ·simp only at hu ⊢
   rw[D8 (by omega)] at hu ⊢
   split at hu
   ·cases hu
   ·rename_i hn;rw[AD hn];exact v.rt j hj hu
  ·simp only at hu ⊢
   rw[D8 (by omega)] at hu ⊢
   split
   ·rfl
   ·rename_i hn;rw[AD hn] at hu;exact v.un j hj hu
 |shp c e=>exact same
 |idx c e hk=>exact same
 |rd c e k0 k1=>exact same
 |rr0 c e k0 k1 hw=>exact same
 |rrf c e k0 k1 hw hf=>exact same
 |rr c e k0 k1 hw i hi hu hj=>
  have hr:=fH v e
  have:=(v.nd _ hr.1 hr.2).2.2 o.2.2.1.toNat (by omega)
  exact put hi (by omega) (by omega)
 |wrh c e k0 k1 hh=>exact same
 |wr c e k0 k1 hh=>
  have hr:=fH v e
  have hn:=v.nd _ hr.1 hr.2
  have hc:=(ZA v hh).1
  refine AWZ hr.1 hr.2 ⟨by simp only[EP];exact hn.1,hn.2.1,fun j hj=> ?_⟩
  simp only[EP] at hj ⊢
  rw[D8 (by omega)]
  split
  ·exact hc
  ·exact hn.2.2 j hj
 |wd c e k0 k1=>
  have hr:=fH v e
  have hn:=v.nd _ hr.1 hr.2
  exact AWZ hr.1 hr.2 ⟨hn.1,by simp only[EP];exact hn.2.1,hn.2.2⟩
theorem AVK:LH=some (([],List.replicate 32 false,List.replicate 32 (-1)):Gh):=by
 unfold LH
 rw[AB (by omega),AB (by omega)]
 refine (AN (fun k (st:Int×List Int)=>st=((k:Int),List.replicate k (-1)++List.replicate (32-k) 0)) (fun b=>b=(([],List.replicate 32 false,List.replicate 32 (-1)):Gh)) 32 ?_ ?_ (s:=(0,List.replicate (32:Int).toNat (0:Int))) rfl).elim fun b hb=>by rw[hb.1,hb.2]
 ·rintro k st hk rfl
  left
  simp only[aW,JG,H6]
  rw[AB (by omega),AB (by omega),AE (e:=(k:Int)+1) (by omega) (by omega)]
  refine⟨_,rfl, ?_⟩
  rw[List.set_append_right _ _ (by rw[aW];exact EL _),aW,ZB,show 32-k=(32-(k+1))+1 from by omega,List.replicate_succ,AOH,List.replicate_succ',JH]
  rfl
 ·rintro st rfl
  simp only[aW]
  rw[AD (by omega)]
  exact⟨_,rfl,rfl⟩
theorem GV.new:GV 0 (([],List.replicate 32 false,List.replicate 32 (-1)):Gh):=by
 refine⟨by simp,by simp,EL _,fun k k0 k1=>by simp at k1;omega,fun i hi hu=> ?_,fun i hi _=>S1 hi⟩
 simp only at hu
 rw[S1 hi] at hu
 cases hu
abbrev xE (c:Cf) (s n:Int):Hs:=(c,(s,List.replicate (n*sz s).toNat 0#64,List.replicate n.toNat (-1, -1, -1)),List.replicate c.2.1.length [],0,[],(List.replicate 32 false,List.replicate 32 0#64),0,(0,0,0,0,0,0,0,0,0),false)
theorem ACD {c:Cf} (g:Good c) {s n:Int} (hs:3<=s/\s<=8) (hn:2<=n/\n<=64):HV 0 (xE c s n):=by
 have hg:=g.n
 have kN:(List.replicate c.2.1.length ([]:List AH)).flatten=[]:=by simp
 have LY:∀ x:Int,0<=x->x<n->fr (List.replicate n.toNat ((-1, -1, -1):Fr)) x=(-1, -1, -1):=by
  intro x x0 x1
  unfold fr
  exact S1 (by omega)
 have hN:OkN (List.replicate c.2.1.length ([]:List AH)):=by
  refine⟨fun k hk=> ?_,fun k hk i hi=> ?_,by rw[kN];exact fL⟩
  ·rw[aW] at hk
   rw[S1 hk];exact List.Pairwise.nil
  ·rw[aW] at hk
   rw[S1 hk] at hi;cases hi
 have WX:∀ {i:AH},i∉(List.replicate c.2.1.length ([]:List AH)).flatten:=by intro i hi;rw[kN] at hi;cases hi
 have PO:∀ y,¬Slot (s,List.replicate (n*sz s).toNat 0#64,List.replicate n.toNat (-1, -1, -1)) (List.replicate c.2.1.length ([]:List AH)) y:=by
  rintro y ⟨i,hi,_⟩;exact WX hi
 refine⟨g, ?_,by simp,S7 _⟩
 refine { hb:=⟨⟨VS.new hs hn,by simp only[aW];exact hg,EH.2 ⟨hN,fun i hi=>absurd hi WX⟩,fun x x0 x1 hx=> ?_⟩,fun i hi=>absurd hi WX⟩,seq:=fun i hi=>absurd hi WX,n0:=S7 _,ref:=fun y hy=>absurd hy (PO y),ro:=⟨by simp,by simp,fun i hi _=>S1 hi⟩,root:=fun i hi hu=> ?_,rv:=⟨List.Pairwise.nil,fun x hx=>by cases hx⟩,ins:=fun f g y hi=> ?_,rem:=fun y hy=>absurd hy (PO y) }
 ·simp only[aW] at x1
  simp only at hx
  rw[LY x x0 (by omega)] at hx
  exact absurd rfl hx
 ·simp only at hu
  rw[S1 hi] at hu;cases hu
 ·obtain⟨x,hx,_⟩:=hi;cases hx
theorem AG6 {c:Cf} (g:Good c) {s n:Int} (hs:3<=s/\s<=8) (hn:2<=n/\n<=64):IG c s n=some (xE c s n,0):=by
 have hg:=g.n
 unfold IG
 rw[sB g,BC,AD (IN rfl),AUF hs hn,BC]
 simp only
 rw[AD (IN trivial),AB (by simp only[VN];omega),AB (by simp only[nI];omega)]
 unfold O6
 rw[AB (by omega),AB (by omega)]
 rfl
theorem AIF {u:List Int} (hu:u.length<=32) {d:List Int×Int} (hd:SN d):∃ r d',BK u d=some (r,u,d')/\SN d' :=by
 unfold BK
 by_cases c1:(u.length:Int)=0
 ·obtain⟨r,d1,e1,_,_,k1⟩:=FI hd (n:=35) (by omega) (by omega)
  rw[AB c1,e1]
  exact⟨_,_,rfl,k1⟩
 ·obtain⟨r,d1,e1,_,_,k1⟩:=FI hd (n:=12) (by omega) (by omega)
  rw[AD c1,e1,BC]
  by_cases c2:r=0
  ·obtain⟨r2,d2,e2,_,_,k2⟩:=FI k1 (n:=35) (by omega) (by omega)
   rw[AB c2,e2]
   exact⟨_,_,rfl,k2⟩
  ·obtain⟨r2,d2,e2,r0,r1,k2⟩:=FI k1 (n:=(u.length:Int)) (by omega) (by omega)
   rw[AD c2,e2,BC,AB ⟨r0,r1⟩]
   exact⟨_,_,rfl,k2⟩
theorem AVL {g:Gh} (hg:g.2.1.length=32) {d:List Int×Int} (hd:SN d):∃ o d',KM d g=some (o,d')/\SN d' :=by
 suffices hh:∃ b,KM d g=some b/\SN b.2 by
  obtain⟨b,h1,h2⟩:=hh;exact⟨b.1,b.2,h1,h2⟩
 unfold KM
 refine AN (fun k (st:Int×List Int)=>st.1=(k:Int)/\st.2.length<=k) _ 32 ?_ ?_ ⟨rfl,EL _⟩
 ·rintro k ⟨kk,u⟩ hk ⟨HU,hl⟩
  simp only at HU hl
  subst HU
  left
  simp only[H6]
  rw[AB (by omega),AB (by omega),AE (e:=(k:Int)+1) (by omega) (by omega)]
  split
  ·rw[AB (by simp only[H7];omega)]
   exact⟨_,rfl,rfl,by simp only[JG,H7];omega⟩
  ·exact⟨_,rfl,rfl,by simp only;omega⟩
 ·rintro⟨kk,u⟩ ⟨HU,hl⟩
  simp only at HU hl
  subst HU
  simp only
  rw[AD (by omega)]
  refine SP ?_
  obtain⟨r,d1,e1,r0,r1,k1⟩:=FI hd (n:=20) (by omega) (by omega)
  rw[e1,BC,AB (by simp only[NZ,VN];omega)]
  have nx:∀ {dd:List Int×Int},SN dd->∀ (n:Int),0<n->n<=300->∃ r d',AF dd n=some (r,d')/\0<=r/\r<n/\SN d' :=fun h n h0 h1=>FI h h0 (by omega)
  have tail:∀ (j1:Op),∃ x,(if j1.1=1 then
    Option.bind (AF d1 4) (fun r2=>
    Option.bind (AF r2.2 4) (fun r3=>
    if 0<=r3.1/\r3.1<(([3,3,8,17]:List Int).length:Int) then
    Option.bind (AF r3.2 (gl (0:Int) ([3,3,8,17]:List Int) r3.1.toNat)) (fun r4=>
    some (((j1.1,r2.1,r4.1,j1.2.2.2),r4.2)))
    else none))
    else Option.bind (α:=Bool ⊕ (Op×((List Int)×Int))) (if j1.1=2 then
    some (Sum.inl (decide (j1.1=2)))
    else some (Sum.inl (decide (j1.1=4)))) (fun q=>match q with
    |Sum.inl j2=>(if j2=true then
    Option.bind (BK u d1) (fun r5=>
    Option.bind (AF r5.2.2 3) (fun r6=>
    some (((j1.1,r5.1,r6.1,j1.2.2.2),r6.2))))
    else if j1.1=3 then
    Option.bind (BK u d1) (fun r7=>
    Option.bind (AF r7.2.2 3) (fun r8=>
    Option.bind (BK r7.2.1 r8.2) (fun r9=>
    some (((j1.1,r7.1,r8.1,r9.1),r9.2.2)))))
    else if j1.1=5 then
    Option.bind (BK u d1) (fun JQ=>
    Option.bind (AF JQ.2.2 3) (fun U2=>
    Option.bind (AF U2.2 256) (fun NX=>
    some (((j1.1,JQ.1,U2.1,NX.1),NX.2)))))
    else if j1.1=6 then
    Option.bind (BK u d1) (fun QV=>
    Option.bind (BK QV.2.1 QV.2.2) (fun nH=>
    some (((j1.1,QV.1,nH.1,j1.2.2.2),nH.2.2))))
    else if j1.1=7 then
    if j1.1=7 then
    Option.bind (BK u d1) (fun oF=>
    some (((j1.1,oF.1,j1.2.2),oF.2.2)))
    else some ((j1,d1))
    else if j1.1=9 then
    Option.bind (BK u d1) (fun pZ=>
    some (((j1.1,pZ.1,j1.2.2),pZ.2.2)))
    else some ((j1,d1)))
    |Sum.inr b1=>some b1))=some x/\SN x.2:=by
   intro j1
   by_cases c1:j1.1=1
   ·rw[AB c1]
    obtain⟨a2,d2,e2,_,_,k2⟩:=nx k1 4 (by omega) (by omega)
    rw[e2,BC]
    obtain⟨a3,d3,e3,a30,a31,k3⟩:=nx k2 4 (by omega) (by omega)
    rw[e3,BC,AB (by simp only[NZ,VN];omega)]
    have hq:3<=gl (0:Int) [3,3,8,17] a3.toNat/\gl (0:Int) [3,3,8,17] a3.toNat<=17:=by
     have:a3=0\/a3=1\/a3=2\/a3=3:=by omega
     rcases this with rfl|rfl|rfl|rfl <;> simp [gl]
    obtain⟨a4,d4,e4,_,_,k4⟩:=nx k3 (gl (0:Int) [3,3,8,17] a3.toNat) (by omega) (by omega)
    simp only
    rw[e4]
    exact⟨_,rfl,k4⟩
   rw[AD c1]
   have e0:(if j1.1=2 then
    (some (Sum.inl (decide (j1.1=2))):Option (Bool ⊕ (Op×((List Int)×Int))))
    else some (Sum.inl (decide (j1.1=4))))=some (Sum.inl (decide (j1.1=2\/j1.1=4))):=by
    by_cases c2:j1.1=2
    ·rw[AB c2,HF c2,HF (show j1.1=2\/j1.1=4 from .inl c2)]
    ·rw[AD c2]
     have:decide (j1.1=4)=decide (j1.1=2\/j1.1=4):=by rw[qP];omega
     rw[this]
   rw[e0,BC]
   simp only
   obtain⟨a5,d5,e5,k5⟩:=AIF (u:=u) (by omega) k1
   by_cases c2:j1.1=2\/j1.1=4
   ·rw[HF c2,AB rfl,e5,BC]
    obtain⟨a6,d6,e6,_,_,k6⟩:=nx k5 3 (by omega) (by omega)
    simp only
    rw[e6]
    exact⟨_,rfl,k6⟩
   rw[QB c2,AD (by decide),e5]
   simp only[BC]
   obtain⟨a6,d6,e6,_,_,k6⟩:=nx k5 3 (by omega) (by omega)
   by_cases c3:j1.1=3
   ·obtain⟨a7,d7,e7,k7⟩:=AIF (u:=u) (by omega) k6
    rw[AB c3,e6,BC,e7]
    exact⟨_,rfl,k7⟩
   rw[AD c3]
   by_cases c5:j1.1=5
   ·obtain⟨a7,d7,e7,_,_,k7⟩:=nx k6 256 (by omega) (by omega)
    rw[AB c5,e6,BC,e7]
    exact⟨_,rfl,k7⟩
   rw[AD c5]
   by_cases c6:j1.1=6
   ·obtain⟨a7,d7,e7,k7⟩:=AIF (u:=u) (by omega) k5
    rw[AB c6,e7]
    exact⟨_,rfl,k7⟩
   rw[AD c6]
   by_cases c7:j1.1=7
   ·rw[AB c7,AB c7]
    exact⟨_,rfl,k5⟩
   rw[AD c7]
   by_cases c9:j1.1=9
   ·rw[AB c9]
    exact⟨_,rfl,k5⟩
   rw[AD c9]
   exact⟨_,rfl,k1⟩
  split
  ·split
   ·rw[BC];exact tail _
   ·rw[BC];exact tail _
  ·rw[BC];exact tail _
inductive Hst (h0:Hs) (g0:Gh):Nat->Hs->Gh->Prop
 |z:Hst h0 g0 0 h0 g0
 |s {m:Nat} {h:Hs} {g:Gh} {o:Op} {h' :Hs} {an:An} {g' :Gh} {an' :An} (a:Hst h0 g0 m h g) (d:DoR h o h' an) (e:an.1≠18) (gd:qM g o g' an'):Hst h0 g0 (m+1) h' g'
abbrev A2J:Gh:=([],List.replicate 32 false,List.replicate 32 (-1))
theorem Hst.ok {h0:Hs} {g0:Gh} (v:HV 0 h0) (w:GV 0 g0) {m:Nat} {h:Hs} {g:Gh} (a:Hst h0 g0 m h g):HV (257*m) h/\GV m g/\h.1=h0.1/\h.2.2.2.2.2.2.2.2=h0.2.2.2.2.2.2.2.2/\h.2.1.1=h0.2.1.1/\h.2.1.2.2.length=h0.2.1.2.2.length:=by
 induction a with
 |z=>exact⟨v,w,rfl,rfl,rfl,rfl⟩
 |s a d e gd ih=>
  obtain⟨i1,i2,i3,i4,i5,i6⟩:=ih
  obtain⟨j1,j2,j3,j4,j5⟩:=d.hv i1
  exact⟨j1.mono (by omega),gd.gv i2,by rw[j3,i3],by rw[j2 e,i4],by rw[j4,i5],by rw[j5,i6]⟩
def Hp (c:Cf) (h:Hs) (g:Gh):Prop:=Good c/\∃ (s n:Int) (m:Nat),(3<=s/\s<=4)/\(6<=n/\n<=20)/\m<=56/\Hst (xE c s n) A2J m h g
theorem Hp.ok {c:Cf} {h:Hs} {g:Gh} (p:Hp c h g):HV 20000 h/\GV 56 g/\h.1=c/\h.2.2.2.2.2.2.2.2=false/\(3<=h.2.1.1/\h.2.1.1<=4)/\(6<=h.2.1.2.2.length/\h.2.1.2.2.length<=20):=by
 obtain⟨hc,s,n,m,hs,hn,hm,st⟩:=p
 obtain⟨g1,g2,g3,g4,g5,g6⟩:=st.ok (ACD hc (by omega) (by omega)) GV.new
 refine⟨g1.mono (by omega),⟨g2.ul,g2.rl,by have:=g2.nn;omega,g2.nd,g2.rt,g2.un⟩,g3,g4,by rw[g5];exact hs, ?_⟩
 rw[g6]
 simp only[aW]
 omega
theorem ANP {c:Cf} (hc:Good c) {d:List Int×Int} (hd:SN d):∃ h g d',HC d c=some (h,g,d')/\Hp c h g/\SN d' :=by
 suffices hh:∃ b,HC d c=some b/\Hp c b.1 b.2.1/\SN b.2.2 by
  obtain⟨b,h1,h2⟩:=hh;exact⟨b.1,b.2.1,b.2.2,h1,h2⟩
 unfold HC N_
 obtain⟨r1,d1,e1,a0,a1,k1⟩:=FI hd (n:=2) (by omega) (by omega)
 obtain⟨r2,d2,e2,b0,b1,k2⟩:=FI k1 (n:=15) (by omega) (by omega)
 rw[e1,BC,e2,BC,BC]
 simp only
 rw[AE (e:=(3:Int)+r1) (by omega) (by omega),AE (e:=(6:Int)+r2) (by omega) (by omega),AG6 hc (by omega) (by omega),BC,AVK,BC]
 obtain⟨r3,d3,e3,c0,c1,k3⟩:=FI k2 (n:=50) (by omega) (by omega)
 rw[e3,BC]
 simp only
 rw[AE (e:=(6:Int)+r3) (by omega) (by omega)]
 have hv0:=ACD hc (s:=3+r1) (n:=6+r2) (by omega) (by omega)
 refine AN (fun k (st:Int×(List Int×Int)×Hs×Gh)=>st.1=(6+r3)-(k:Int)/\SN st.2.1/\∃ m,m<=k/\Hst (xE c (3+r1) (6+r2)) A2J m st.2.2.1 st.2.2.2) _ (6+r3).toNat ?_ ?_ ⟨by simp,k3,0,EL _,.z⟩
 ·rintro k ⟨kk,dd,h,g⟩ hk ⟨HU,hdd,m,hm,st⟩
  simp only at HU hdd st
  obtain⟨g1,g2,g3,g4, -⟩:=st.ok hv0 GV.new
  simp only
  rw[AB (by omega)]
  unfold KE
  rw[BC]
  simp only
  by_cases cl:dd.2<(dd.1.length:Int)
  ·left
   obtain⟨o,d4,e4,k4⟩:=AVL g2.ul hdd
   obtain⟨h',an,e5,do5⟩:=A2I g1 (by omega) g4 o
   rw[HF cl,AB rfl,e4,BC,e5,BC]
   simp only
   rw[AE (e:=kk-1) (by omega) (by omega)]
   by_cases c18:an.1=18
   ·rw[AB c18]
    exact⟨_,rfl,by simp only;omega,k4,m,by omega,st⟩
   ·obtain⟨g',an',e6,do6⟩:=AZS g2 (by omega) o
    rw[AD c18,e6]
    exact⟨_,rfl,by simp only;omega,k4,m+1,by omega,.s st do5 c18 do6⟩
  ·right
   rw[QB cl,AD (by decide)]
   exact⟨_,rfl,⟨hc,3+r1,6+r2,m,by omega,by omega,by omega,st⟩,hdd⟩
 ·rintro⟨kk,dd,h,g⟩ ⟨HU,hdd,m,hm,st⟩
  simp only at HU hdd st
  simp only
  rw[AD (by omega)]
  exact⟨_,rfl,⟨hc,3+r1,6+r2,m,by omega,by omega,by omega,st⟩,hdd⟩
theorem ALA {d:List Int×Int} (hd:SN d):∃ c h g d',IM d=some (h,g,d')/\Hp c h g/\SN d' :=by
 obtain⟨c,d1,e1,g1,k1⟩:=AN3 hd
 obtain⟨h,g,d2,e2,g2,k2⟩:=ANP g1 k1
 unfold IM
 rw[e1,BC]
 simp only
 rw[e2]
 exact⟨c,h,g,d2,rfl,g2,k2⟩
theorem ALB {c:Cf} (h:UP c=0):Good c:=by
 unfold UP at h
 by_cases h1:kI c.1
 rotate_left
 ·rw[AB h1] at h;omega
 rw[AD (IN h1)] at h
 by_cases h2:1<=c.2.1.length/\c.2.1.length<=4
 rotate_left
 ·rw[AB h2] at h;omega
 rw[AD (IN h2)] at h
 by_cases h3:fe c c.2.1.length 0=0
 rotate_left
 ·rw[AB h3] at h;exact absurd h h3
 rw[AD (IN h3)] at h
 by_cases h4:∀ b:Int,1<=b->b<c.2.1.length->Aim c b
 rotate_left
 ·rw[AB h4] at h;omega
 rw[AD (IN h4)] at h
 by_cases h5:d_ c
 ·rw[AB h5] at h;omega
 refine⟨h1,h2,fun b b0 b1=> ?_,h4,h5⟩
 have h6:=ABU c _ _ h3 b b0 (by omega)
 unfold Y3 at h6
 by_cases h7:VV (ru c b).1
 rotate_left
 ·rw[AB h7] at h6;omega
 rw[AD (IN h7)] at h6
 by_cases h8:GN (ru c b) b ((c.2.1.length:Int)-1)
 ·rw[AB h8] at h6;omega
 rw[AD h8] at h6
 by_cases h9:FW (ru c b) b ((c.2.1.length:Int)-1)
 ·rw[AB h9] at h6;omega
 exact⟨h7,h8,h9⟩
structure Ca (c:Cf):Prop where
 n:c.2.1.length<=1000
 sz:c.1.size<=1000000
 sh:Sh c
theorem Good.ca {c:Cf} (g:Good c):Ca c:=⟨by have:=g.n;omega,by have:=g.nm.2.1;omega,g.sh⟩
theorem Good.batch {c:Cf} (g:Good c) {b:Int} (b0:0<=b) (b1:b<c.2.1.length):0<=(Go.Proofs.YtjbojdpdkikioaaGreatDoor.ru c b).2.2.1:=by
 have:=(g.ru b b0 b1).2.1
 unfold GN at this
 omega
theorem AG7 {α:Type} (f:α->Int) (K:Int) (l:List α) (t:Nat) (h1:∀ x∈l.drop t,K<f x) (h2:∀ x∈l.take t,f x<=K):l.filter (fun x=>decide (f x<=K))=l.take t:=by
 have e:l=l.take t++l.drop t:=(sK t l).symm
 have a:(l.take t).filter (fun x=>decide (f x<=K))=l.take t:=AAA.2 fun x hx=>by simpa using h2 x hx
 have b:(l.drop t).filter (fun x=>decide (f x<=K))=[]:=xG.2 fun x hx=>by have:=h1 x hx;simp;omega
 calc l.filter (fun x=>decide (f x<=K))=(l.take t++l.drop t).filter (fun x=>decide (f x<=K)):=by rw[<-e]
  _=l.take t:=by rw[qO,a,b,GG]
noncomputable def AIH (c:Cf) (s:Sp) (j:Cu) (L:List AH):Option (List AH×Cu×Bool×Int):=
 if (L.length:Int)=0 then
 some (([],j,true,0))
 else Option.bind (IT s) (fun r4=>
 AJ (σ:=List AH×Int×Int) (β:=List AH×Cu×Bool×Int) (fun s3=>
 if s3.2.2<(L.length:Int) then
 if 0<=s3.2.2/\s3.2.2<(L.length:Int) then
 Option.bind (FH s (gl ((0,0,0,0,0):AH) L s3.2.2.toNat)) (fun r5=>
 if 0<=j.1/\j.1<(c.2.1.length:Int) then
 if (AG (s3.2.1-r5))<0 then
 some (Sum.inr ((s3.1,j,false,0)))
 else if (gl ((0,0,0,0):(Nat×Int×Int×Int)) c.2.1 j.1.toNat).2.2.1>0 then
 if (s3.1.length:Int)≥(gl ((0,0,0,0):(Nat×Int×Int×Int)) c.2.1 j.1.toNat).2.2.1 then
 some (Sum.inr ((s3.1,j,false,0)))
 else if (s3.1.length+([gl ((0,0,0,0,0):AH) L s3.2.2.toNat]:List AH).length)*40<=140737488355328 then
 some (Sum.inl ((s3.1++([gl ((0,0,0,0,0):AH) L s3.2.2.toNat]:List AH),AG (s3.2.1-r5),AG (s3.2.2+1))))
 else none
 else if (s3.1.length+([gl ((0,0,0,0,0):AH) L s3.2.2.toNat]:List AH).length)*40<=140737488355328 then
 some (Sum.inl ((s3.1++([gl ((0,0,0,0,0):AH) L s3.2.2.toNat]:List AH),AG (s3.2.1-r5),AG (s3.2.2+1))))
 else none
 else none)
 else none
 else some (Sum.inr ((s3.1,j,false,0)))) (([],(r4.length:Int),0)))
noncomputable def vP (c:Cf) (s:Sp) (q:Rows) (j:Cu):Option (List AH×Cu×Bool×Int):=
 if 0<=j.1/\j.1<(q.length:Int) then
 AJ (σ:=List AH) (β:=List AH×Cu×Bool×Int) (fun s2=>
 if j.1=(AG ((q.length:Int)-1)) then
 if (s2.length:Int)>0 then
 if 0<=(AG ((s2.length:Int)-1))/\(AG ((s2.length:Int)-1))<(s2.length:Int) then
 if (gl ((0,0,0,0,0):AH) s2 ((AG ((s2.length:Int)-1)).toNat)).1>j.2.2 then
 if Bd none (some (AG ((s2.length:Int)-1))) ((AG ((s2.length:Int)-1)).toNat) s2.length then
 some (Sum.inl (B5 s2 0 (((AG ((s2.length:Int)-1)).toNat)-0)))
 else none
 else Option.map Sum.inr (AIH c s j s2)
 else none
 else Option.map Sum.inr (AIH c s j s2)
 else Option.map Sum.inr (AIH c s j s2)) (gl ([]:List AH) q j.1.toNat)
 else none
theorem ANQ (c:Cf) (s:Sp) (q:Rows) (k:Cu):EK c s q k=
  Option.bind (NU c) (fun r1=>
  if ¬r1=0 then
  some (([],(0,false,0),false,1))
  else Option.bind (SF s q) (fun r2=>
  if (!r2)=true then
  some (([],(0,false,0),false,1))
  else if ¬(q.length:Int)=(c.2.1.length:Int) then
  some (([],(0,false,0),false,1))
  else if k.1<0 then
  some (([],(0,false,0),false,1))
  else if k.1>(AG ((q.length:Int)-1)) then
  some (([],(0,false,0),false,1))
  else AJ (σ:=Cu) (β:=List AH×Cu×Bool×Int) (fun s1=>
  if s1.1<(AG ((q.length:Int)-1)) then
  if 0<=s1.1/\s1.1<(q.length:Int) then
  if ((gl ([]:List AH) q s1.1.toNat).length:Int)=0 then
  some (Sum.inl ((AG (s1.1+1),false,0)))
  else Option.map Sum.inr (Option.bind (α:=Cu ⊕ (List AH×Cu×Bool×Int)) (if s1.1=(AG ((q.length:Int)-1)) then
   if (!s1.2.1)=true then
   Option.bind (GM q (AG ((q.length:Int)-1))) (fun r1=>
   if r1.2=true then
   some (Sum.inl ((s1.1,true,r1.1.1)))
   else some (Sum.inl ((s1.1,true,(-1)))))
   else some (Sum.inl s1)
   else some (Sum.inl s1)) (fun q' =>match q' with
   |Sum.inl j1=>vP c s q j1
   |Sum.inr b1=>some b1))
  else none
  else Option.map Sum.inr (Option.bind (α:=Cu ⊕ (List AH×Cu×Bool×Int)) (if s1.1=(AG ((q.length:Int)-1)) then
   if (!s1.2.1)=true then
   Option.bind (GM q (AG ((q.length:Int)-1))) (fun r1=>
   if r1.2=true then
   some (Sum.inl ((s1.1,true,r1.1.1)))
   else some (Sum.inl ((s1.1,true,(-1)))))
   else some (Sum.inl s1)
   else some (Sum.inl s1)) (fun q' =>match q' with
   |Sum.inl j1=>vP c s q j1
   |Sum.inr b1=>some b1))) k)):=rfl
theorem AVM {c:Cf} {s:Sp} (hv:VS s) {L:List AH} (zO:L.length<=1000000) (hlw:∀ i∈L,0<=i.2.2.2.2/\i.2.2.2.2<=1000000) {j:Cu} (j0:0<=j.1) (j1:j.1<c.2.1.length) (hB:0<=(ru c j.1).2.2.1):
  AIH c s j L=some (if L=[] then ([],j,true,0) else (m_ (sz s.1) (ru c j.1).2.2.1 (DH s.2.2).length 0 L,j,false,0)):=by
 have hn:=hv.n
 unfold AIH
 by_cases h0:L=[]
 ·rw[AB (by rw[h0];rfl),AB h0]
 rw[AD (by have:=fK.2 h0;omega),AD h0,AQV hn.2,BC]
 have hru:gl (0,0,0,0) c.2.1 j.1.toNat=ru c j.1:=rfl
 simp only[hru]
 generalize (ru c j.1).2.2.1=B at hB
 have kN:(DH s.2.2).length<=s.2.2.length:=UK s.2.2 (-1)
 obtain⟨z1,z2⟩:=OG hv.sh
 refine AFE (AN (fun k (st:List AH×Int×Int)=>st.2.2=(k:Int)/\st.1.length=k/\(B>0->(k:Int)<=B)/\(0<=st.2.1/\st.2.1<=64)/\m_ (sz s.1) B (DH s.2.2).length 0 L=st.1++m_ (sz s.1) B st.2.1 k (L.drop k))
   (fun b=>b=(m_ (sz s.1) B (DH s.2.2).length 0 L,j,false,0)) L.length ?_ ?_ (s:=([],((DH s.2.2).length:Int),0)) ⟨rfl,rfl,fun _=>by omega,by simp only;omega,by simp⟩)
 ·rintro k ⟨acc,f,kk⟩ hk ⟨HU,MY,hkB,hf,he⟩
  simp only at HU MY hf he
  subst HU
  have hm:=hlw _ (BS (d:=((0,0,0,0,0):AH)) hk)
  have hcl:=dZ z1 hm.1
  have XD:L.drop k=gl ((0,0,0,0,0):AH) L k::L.drop (k+1):=by
   rw[CK hk];exact AA4 hk
  rw[XD,m_] at he
  simp only[H6]
  rw[AB (by omega),AB (by omega),vB hv hm.1 hm.2,BC,AB ⟨j0,j1⟩,AE (e:=f-cl (sz s.1) (gl ((0,0,0,0,0):AH) L k).2.2.2.2) (by omega) (by omega),AE (e:=(k:Int)+1) (by omega) (by omega)]
  by_cases c1:f-cl (sz s.1) (gl ((0,0,0,0,0):AH) L k).2.2.2.2<0
  ·rw[AB (.inl c1),GG] at he
   rw[AB c1]
   exact .inr ⟨_,rfl,by rw[he]⟩
  rw[AD c1]
  have UU:∀ h:¬(f-cl (sz s.1) (gl ((0,0,0,0,0):AH) L k).2.2.2.2<0\/(B≠0/\(k:Int)=B)),(fun (st:List AH×Int×Int)=>st.2.2=((k+1:Nat):Int)/\st.1.length=k+1/\(B>0->((k+1:Nat):Int)<=B)/\(0<=st.2.1/\st.2.1<=64)/\m_ (sz s.1) B (DH s.2.2).length 0 L=st.1++m_ (sz s.1) B st.2.1 (k+1:Nat) (L.drop (k+1))) (acc++ [gl ((0,0,0,0,0):AH) L k],f-cl (sz s.1) (gl ((0,0,0,0,0):AH) L k).2.2.2.2,(k:Int)+1):=by
   intro h
   rw[AD h] at he
   refine⟨rfl,by simp [MY],fun hb=> ?_,by simp only;omega, ?_⟩
   ·have:=hkB hb;omega
   ·simp only
    rw[he,JH];rfl
  by_cases c2:B>0
  ·rw[AB c2]
   have:=hkB c2
   by_cases c3:(acc.length:Int)≥B
   ·rw[AB (.inr ⟨by omega,by omega⟩),GG] at he
    rw[AB c3]
    exact .inr ⟨_,rfl,by rw[he]⟩
   ·rw[AD c3,AB (by simp only[H7];omega)]
    exact .inl ⟨_,rfl,UU (by omega)⟩
  ·rw[AD c2,AB (by simp only[H7];omega)]
   exact .inl ⟨_,rfl,UU (by omega)⟩
 ·rintro⟨acc,f,kk⟩ ⟨HU,MY,hkB,hf,he⟩
  simp only at HU MY hf he
  subst HU
  rw[List.drop_length,m_,GG] at he
  simp only
  rw[AD (by omega)]
  exact⟨_,rfl,by rw[he]⟩
theorem ASO {c:Cf} {s:Sp} {q:Rows} (hv:VS s) (hx:∀ x∈q,x.length<=1000000) (hq:q.length<=1000000) (hw:∀ i∈q.flatten,0<=i.2.2.2.2/\i.2.2.2.2<=1000000) (hc:q.length<=c.2.1.length) (hpw:∀ k,k<q.length->(gl [] q k).Pairwise fun a b=>a.1<b.1) {j:Cu} (j0:0<=j.1) (j1:j.1<q.length) (hB:0<=(ru c j.1).2.2.1):
  vP c s q j=some ((VY c s q j).1,(VY c s q j).2.1,(VY c s q j).2.2,0):=by
 have hrl:=hx _ (BS (d:=([]:List AH)) (k:=j.1.toNat) (xs:=q) (by omega))
 have hwr:∀ i∈gl [] q j.1.toNat,0<=i.2.2.2.2/\i.2.2.2.2<=1000000:=fun i hi=>hw i (kT.2 ⟨_,BS (by omega),hi⟩)
 have hp:=hpw j.1.toNat (by omega)
 unfold vP
 rw[AB (by omega),AE (e:=(q.length:Int)-1) (by omega) (by omega)]
 have hR:∀ L,z9 q j=L->AIH c s j L=some ((VY c s q j).1,(VY c s q j).2.1,(VY c s q j).2.2,0):=by
  intro L hL
  have IP:∀ i∈L,i∈gl [] q j.1.toNat:=fun i hi=>by rw[<-hL] at hi;exact (WY.1 hi).1
  have zO:L.length<=1000000:=by
   rw[<-hL];exact WZ (iY _ _) hrl
  rw[AVM hv zO (fun i hi=>hwr i (IP i hi)) j0 (by omega) hB]
  unfold VY
  rw[hL]
  split <;> rfl
 refine AFE (AN (fun k (st:List AH)=>st=(gl [] q j.1.toNat).take ((gl [] q j.1.toNat).length-k)/\(0<k->j.1=(q.length:Int)-1)/\∀ x∈(gl [] q j.1.toNat).drop ((gl [] q j.1.toNat).length-k),j.2.2<x.1) (fun b=>b=((VY c s q j).1,(VY c s q j).2.1,(VY c s q j).2.2,0)) (gl [] q j.1.toNat).length ?_ ?_ ⟨by simp,by omega,by simp⟩)
 ·rintro k st hk ⟨rfl,hkj,hd⟩
  generalize OQ:gl ([]:List AH) q j.1.toNat=row at*
  have hln:(row.take (row.length-k)).length=row.length-k:=by rw[sJ];omega
  by_cases c1:j.1=(q.length:Int)-1
  rotate_left
  ·rw[AD c1]
   have hk0:k=0:=by
    rcases ACO k with h|h
    ·exact h
    ·exact absurd (hkj h) c1
   subst hk0
   rw[xT,T5]
   right
   refine SP ⟨_,hR row ?_,rfl⟩
   unfold z9
   rw[OQ]
   exact AAA.2 fun i _=>HF (.inl (by omega))
  ·rw[AB c1,hln,AB (by omega),AE (by omega) (by omega),AB (by omega)]
   have hgl:gl ((0,0,0,0,0):AH) (row.take (row.length-k)) (((row.length-k:Nat):Int)-1).toNat=gl ((0,0,0,0,0):AH) row (row.length-k-1):=by
    rw[show (((row.length-k:Nat):Int)-1).toNat=row.length-k-1 from by omega,CK (by omega),CK (by omega),sQ]
   rw[hgl]
   by_cases c2:(gl ((0,0,0,0,0):AH) row (row.length-k-1)).1>j.2.2
   ·rw[AB c2,AB (by refine⟨?_,trivial⟩;simp only;omega)]
    refine .inl ⟨_,rfl, ?_,fun _=>c1, ?_⟩
    ·rw[VC,List.take_take,show (((row.length-k:Nat):Int)-1).toNat=row.length-k-1 from by omega,Nat.min_eq_left (by omega)]
     rfl
    ·have XD:row.drop (row.length-k-1)=gl ((0,0,0,0,0):AH) row (row.length-k-1)::row.drop (row.length-k):=by
      rw[AA4 (show row.length-k-1<row.length by omega),CK (by omega)]
      congr 2
      omega
     rw[show row.length-(k+1)=row.length-k-1 from by omega,XD]
     intro x hx
     rcases GD.1 hx with rfl|hx
     ·exact c2
     ·exact hd x hx
   ·rw[AD c2]
    right
    refine SP ⟨_,hR _ ?_,rfl⟩
    unfold z9
    rw[OQ]
    have e:(fun i:AH=>decide (j.1<(q.length:Int)-1\/i.1<=j.2.2))=fun i:AH=>decide (i.1<=j.2.2):=by
     funext i;rw[qP];omega
    rw[e]
    refine AG7 (fun i:AH=>i.1) _ row _ hd fun x hx=> ?_
    obtain⟨n,hn,rfl⟩:=fJ hx
    rw[hln] at hn
    rw[sQ]
    by_cases A2K:n=row.length-k-1
    ·subst A2K
     rw[CK (by omega)] at c2
     show (row[row.length-k-1]).1<=_
     omega
    ·have:=AA3.1 hp n (row.length-k-1) (by omega) (by omega) (by omega)
     rw[CK (by omega)] at c2
     show (row[n]).1<=_
     omega
 ·rintro st ⟨rfl,hkj,hd⟩
  generalize OQ:gl ([]:List AH) q j.1.toNat=row at*
  rw[ZB,ACW]
  rw[ZB,o_] at hd
  have hb:∃ b,(Option.map (Sum.inr (α:=List AH)) (AIH c s j [])=some (Sum.inr b))/\b=((VY c s q j).1,(VY c s q j).2.1,(VY c s q j).2.2,0):=by
   refine SP ⟨_,hR [] ?_,rfl⟩
   unfold z9
   rw[OQ]
   by_cases yS:row=[]
   ·rw[yS];rfl
   ·have c1:=hkj (fK.2 yS)
    exact xG.2 fun x hx=>by
     have:=hd x hx
     simp only[IW]
     omega
  by_cases c1:j.1=(q.length:Int)-1
  ·rw[AB c1,AD (by simp)];exact hb
  ·rw[AD c1];exact hb
theorem ALC {c:Cf} {s:Sp} {q:Rows} (hx:∀ x∈q,x.length<=1000000) (hq:q.length<=1000000) (hq0:1<=q.length) {k:Cu} {X:Cu->Option (List AH×Cu×Bool×Int)}:
  Option.bind (α:=Cu ⊕ (List AH×Cu×Bool×Int)) (if k.1=(AG ((q.length:Int)-1)) then
   if (!k.2.1)=true then
   Option.bind (GM q (AG ((q.length:Int)-1))) (fun r1=>
   if r1.2=true then
   some (Sum.inl ((k.1,true,r1.1.1)))
   else some (Sum.inl ((k.1,true,(-1)))))
   else some (Sum.inl k)
   else some (Sum.inl k)) (fun q=>match q with
   |Sum.inl j1=>X j1
   |Sum.inr b1=>some b1)=X (qJ q k):=by
 unfold qJ
 rw[AE (e:=(q.length:Int)-1) (by omega) (by omega)]
 by_cases c1:k.1=(q.length:Int)-1
 ·rw[AB c1]
  cases h2:k.2.1 with
  |true=>rw[AD (by decide),AD (by simp)];rfl
  |false=>
   have e1:k.1=(q.length:Int)-1/\false=false:=⟨c1,rfl⟩
   have hy:=ABY hx (b:=q.length-1) (by omega)
   rw[show ((q.length-1:Nat):Int)=(q.length:Int)-1 from by omega] at hy
   rw[AB (by decide),hy,BC,AB e1]
   unfold mZ
   by_cases h:gl [] q (q.length-1)=[]
   ·rw[AB h,AB h];rfl
   ·rw[AD h,AD h];rfl
 ·rw[AD c1,AD (fun h=>c1 h.1)];rfl
def ALD (c:Cf) (s:Sp) (q:Rows) (k:Cu):Prop:=Good c/\BV s q/\q.length=c.2.1.length/\0<=k.1/\k.1<q.length
def vQ (c:Cf) (s:Sp) (q:Rows) (k:Cu):List AH×Cu×Bool×Int:=
 ((VY c s q (aU q (q.length-1-k.1.toNat) k)).1,(VY c s q (aU q (q.length-1-k.1.toNat) k)).2.1,(VY c s q (aU q (q.length-1-k.1.toNat) k)).2.2,0)
structure Nq (s:Sp) (q:Rows):Prop where
 vs:VS s
 n:1<=q.length/\q.length<=4
 x:∀ x∈q,x.length<=1000000
 w:∀ i∈q.flatten,0<=i.2.2.2.2/\i.2.2.2.2<=1000000
 pw:∀ k,k<q.length->(gl [] q k).Pairwise fun a b=>a.1<b.1
theorem BV.nq {s:Sp} {q:Rows} (h:BV s q):Nq s q:=by
 have hc:=count_le h.vs h.ok.fit h.ok.nodup
 have n8:=VS.PN h.vs
 refine⟨h.vs,h.n,fun x hx=>by have:=mV hc x hx;omega,fun i hi=> ?_,h.ok.rows.pw⟩
 have:=(h.ok.fit i hi).1.1
 omega
theorem ALE {c:Cf} (ca:Ca c) {s:Sp} (hI:StI s) {q:Rows} (OQ:∀ x∈q,x.length<=9223372036854775807) (hql:q.length<=1000000) (k:Cu):
  (ALD c s q k/\EK c s q k=some (vQ c s q k))\/(¬ALD c s q k/\EK c s q k=some ([],(0,false,0),false,1)):=by
 rw[ANQ,AR6 ca.n ca.sh,BC]
 by_cases c1:UP c=0
 rotate_left
 ·rw[AB c1];exact .inr ⟨fun h=>c1 h.1.UP,rfl⟩
 have g:=ALB c1
 rw[AD (IN c1)]
 obtain⟨b,X5,rM⟩:=AN9 hI (q:=q) OQ
 rw[X5,BC]
 by_cases c2:BV s q
 rotate_left
 ·have:b=false:=by
   cases b with
   |true=>exact absurd (rM.1 rfl) c2
   |false=>rfl
  rw[AB (by rw[this];decide)];exact .inr ⟨fun h=>c2 h.2.1,rfl⟩
 have hbt:=rM.2 c2
 have hn:=c2.nq
 have hq1:=hn.n
 have hw1:AG ((q.length:Int)-1)=(q.length:Int)-1:=AE (by omega) (by omega)
 rw[AD (by rw[hbt];decide)]
 by_cases c3:(q.length:Int)=(c.2.1.length:Int)
 rotate_left
 ·rw[AB c3];exact .inr ⟨fun h=>c3 (by have:=h.2.2.1;omega),rfl⟩
 rw[AD (IN c3)]
 by_cases c4:k.1<0
 ·rw[AB c4];exact .inr ⟨fun h=>by have:=h.2.2.2.1;omega,rfl⟩
 rw[AD c4]
 by_cases c5:k.1>AG ((q.length:Int)-1)
 ·rw[AB c5];rw[hw1] at c5;exact .inr ⟨fun h=>by have:=h.2.2.2.2;omega,rfl⟩
 rw[AD c5]
 rw[hw1] at c5
 refine .inl ⟨⟨g,c2,by omega,by omega,by omega⟩, ?_⟩
 have hF:∀ k,(qJ q k).1=k.1:=fun k=>by unfold qJ;split <;> rfl
 have hBt:∀ j:Cu,0<=j.1->j.1<q.length->0<=(ru c j.1).2.2.1:=fun j h0 h1=>g.batch h0 (by omega)
 have wG:∀ st:Cu,0<=st.1->st.1<q.length->vP c s q (qJ q st)=some ((VY c s q (qJ q st)).1,(VY c s q (qJ q st)).2.1,(VY c s q (qJ q st)).2.2,0):=fun st h0 h1=>
  ASO c2.vs hn.x (by omega) hn.w (by omega) hn.pw (by rw[hF];exact h0) (by rw[hF];exact h1) (hBt _ (by rw[hF];exact h0) (by rw[hF];exact h1))
 refine AFE (AN (fun t (st:Cu)=>st.1=k.1+(t:Int)/\aU q (q.length-1-k.1.toNat-t) st=aU q (q.length-1-k.1.toNat) k) (fun b=>b=vQ c s q k) (q.length-1-k.1.toNat) ?_ ?_ (s:=k) ⟨by simp,by simp⟩)
 ·rintro t st ht ⟨h1,h2⟩
  rw[AB (by rw[hw1];omega),AB (by omega)]
  rw[show q.length-1-k.1.toNat-t=(q.length-1-k.1.toNat-(t+1))+1 from by omega,aU] at h2
  by_cases c6:gl [] q st.1.toNat=[]
  ·rw[AB (by rw[c6];rfl),AE (e:=st.1+1) (by omega) (by omega)]
   rw[AB c6] at h2
   exact .inl ⟨_,rfl,by simp only;omega,h2⟩
  ·rw[AD (by have:=fK.2 c6;omega)]
   rw[AD c6] at h2
   right
   refine SP ⟨_,(ALC (c:=c) (s:=s) hn.x (by omega) (by omega) (k:=st) (X:=vP c s q)).trans (wG st (by omega) (by omega)), ?_⟩
   unfold vQ
   rw[<-h2]
 ·rintro st ⟨h1,h2⟩
  rw[AD (by rw[hw1];omega)]
  rw[ZB,aU] at h2
  refine SP ⟨_,(ALC (c:=c) (s:=s) hn.x (by omega) (by omega) (k:=st) (X:=vP c s q)).trans (wG st (by omega) (by omega)), ?_⟩
  unfold vQ
  rw[<-h2]
theorem AVN {c:Cf} (ca:Ca c) {s:Sp} {q:Rows} (OQ:∀ x∈q,x.length<=9223372036854775807) (hql:q.length<=1000000) (k:Cu):
  (ALD c s q k/\GC c s q k=some (vQ c s q k))\/(¬ALD c s q k/\GC c s q k=some ([],(0,false,0),false,1)):=by
 unfold GC
 rw[oL ca.n ca.sz ca.sh,BC]
 by_cases c1:UP c=0
 rotate_left
 ·rw[AB c1];exact .inr ⟨fun h=>c1 h.1.UP,rfl⟩
 have g:=ALB c1
 rw[AD (IN c1)]
 obtain⟨b,X5,rM⟩:=ANB (s:=s) (q:=q) OQ
 rw[X5,BC]
 by_cases c2:BV s q
 rotate_left
 ·have:b=false:=by
   cases b with
   |true=>exact absurd (rM.1 rfl) c2
   |false=>rfl
  rw[AB (by rw[this];decide)];exact .inr ⟨fun h=>c2 h.2.1,rfl⟩
 have hbt:=rM.2 c2
 have hn:=c2.nq
 have hq1:=hn.n
 rw[AD (by rw[hbt];decide)]
 by_cases c3:(q.length:Int)=(c.2.1.length:Int)
 rotate_left
 ·rw[AB c3];exact .inr ⟨fun h=>c3 (by have:=h.2.2.1;omega),rfl⟩
 rw[AD (IN c3)]
 by_cases c4:k.1<0
 ·rw[AB c4];exact .inr ⟨fun h=>by have:=h.2.2.2.1;omega,rfl⟩
 rw[AD c4]
 by_cases c5:k.1≥(q.length:Int)
 ·rw[AB c5];exact .inr ⟨fun h=>by have:=h.2.2.2.2;omega,rfl⟩
 rw[AD c5,(oW c2.vs hn.x (by omega) hn.w (by omega) (by omega) (by omega)).1]
 exact .inl ⟨⟨g,c2,by omega,by omega,by omega⟩,rfl⟩
theorem ANR {q:Rows} (hq:q.length<=9223372036854775807):∃ b,JB q=some b/\(b=true->q.length<=8):=by
 unfold JB
 refine AN (fun k (st:Int×Int)=>k<=q.length/\st.2=(k:Int)) (fun b=>b=true->q.length<=8) q.length ?_ ?_ (s:=(0,0)) ⟨by omega,rfl⟩
 ·rintro k ⟨a,st⟩ hk ⟨_,h⟩
  simp only at h ⊢
  subst h
  rw[AB (by omega),AB (by omega),AE (e:=(k:Int)+1) (by omega) (by omega)]
  exact .inl ⟨_,rfl,by omega,rfl⟩
 ·rintro⟨a,st⟩ ⟨_,h⟩
  simp only at h ⊢
  subst h
  rw[AD (by omega)]
  by_cases h8:(q.length:Int)<=8
  ·rw[AB h8];exact⟨_,rfl,fun _=>by omega⟩
  ·rw[AD h8];exact⟨_,rfl,fun h=>by cases h⟩
theorem fI {α β:Type} {d:α} {xs:List α} {f:Int->Option (Int ⊕ β)} {r:β} (hs:∀ (k:Nat) x,k<xs.length->x∈xs->gl d xs k=x->f (k:Int)=some (.inl ((k:Int)+1))) (he:f (xs.length:Int)=some (.inr r)):AJ f 0=some r:=
 oK xs.length (fun k hk=>hs k _ hk (BS hk) rfl) he
theorem AG8 {a b c d e:Bool} (h1:a=true) (h2:b=true) (h3:c=true) (h4:d=true) (h5:e=true):WI [a,b,c,d,e]=true:=by
 simp [WI,h1,h2,h3,h4,h5]
theorem xF (a:List AH) (h:a.length<=1000000):HK a a=some true:=by
 unfold HK
 rw[AD (IN rfl)]
 refine oK a.length (fun k hk=> ?_) (by rw[AD (by omega)])
 rw[AB (by omega),AB (by omega),AB (by omega),AD (by rw[AG8 (HF rfl) (HF rfl) (HF rfl) (HF rfl) (HF rfl)];decide),AE (by omega) (by omega)]
abbrev cfT:Ty:= .pair .str (.pair (.slice (.pair .QP (.pair (.int .i64) (.pair (.int .i64) (.int .i64))))) (.int .i64))
theorem AZT {c:Cf} (w:Wf cfT c) (h1:c.2.1.length<=20) (h2:c.1.size<=300):Ca c:=by
 refine⟨by omega,by omega,fun b b0 b1=> ?_⟩
 exact (w.2.1.2 _ (BS (d:=((0,0,0,0):Ru)) (xs:=c.2.1) (k:=b.toNat) (by omega))).1
theorem AZU:∃ c,FG (⟨#[120,120]⟩:ByteArray) 25=some (c,0)/\Good c/\c.2.1.length=2:=by
 obtain⟨w,w1,w2,w3⟩:=ABW (p:=25) (by omega) (by omega)
 have hw:VV w:= .inr ⟨w2,w3⟩
 unfold FG
 rw[w1]
 simp only[BC]
 rw[AD (by simp),AD (by decide),AD (by decide),AD (by decide),AD (by decide),AB (by decide),AD (by omega)]
 exact⟨_,rfl,AKP (qE (by decide)) hw hw (by omega) (by omega) (by omega) (by omega),rfl⟩
theorem ASP {c:Cf} (g:Good c) {s:Sp} {q:Rows} (h:BV s q) (hc:q.length=c.2.1.length) {k:Cu} (k0:0<=k.1) (k1:k.1<q.length):EK c s q k=some (vQ c s q k):=by
 have hn:=h.nq
 have hq1:=hn.n
 rcases ALE g.ca h.vs.stI (q:=q) (fun x hx=>by have:=hn.x x hx;omega) (by omega) k with ⟨_,h1⟩|⟨h1,_⟩
 ·exact h1
 ·exact absurd ⟨g,h,hc,k0,k1⟩ h1
theorem VD:CW=some true:=by
 unfold CW
 obtain⟨c,hc,g,hl⟩:=AZU
 have v:=ACD g (s:=3) (n:=8) (by omega) (by omega)
 rw[hc,BC,AG6 g (by omega) (by omega),BC]
 have hq:(xE c 3 8).2.2.1=[[],[]]:=by
  show List.replicate c.2.1.length []=[[],[]]
  rw[hl];rfl
 have hb:=v.hi.hb.bv
 rw[hq] at hb
 have hx:=ASP g hb (by rw[hl];rfl) (k:=(0,false,0)) (by simp) (by simp)
 have e:EK c (xE c 3 8).2.1 (xE c 3 8).2.2.1 (0,false,0)=some (vQ c (xE c 3 8).2.1 [[],[]] (0,false,0)):=by rw[hq];exact hx
 show Option.bind (EK c (xE c 3 8).2.1 (xE c 3 8).2.2.1 (0,false,0)) _=_
 rw[e,BC]
 rfl
theorem kK (y0:Cf) (w0:Wf cfT y0) (y1:Sp) (w1:Wf spT y1) (y2:Rows) (w2:Wf (.slice (.slice (.pair (.int .i64) (.pair (.int .i64) (.pair (.int .i64) (.pair (.int .i64) (.int .i64))))))) y2) (y3:List Int) (w3:Wf (.slice (.int .i64)) y3) (y4:Int×Bool×Int) (w4:Wf (.pair (.int .i64) (.pair .bool (.int .i64))) y4) (y5:Int) (w5:I64 y5) (y6:Int) (w6:I64 y6) (y7:Bool) (y8:Int) (w8:I64 y8) (y9:Int) (w9:I64 y9) (y10:Int) (w10:I64 y10):
  GY y0 y1 y2 y3 y4 y5 y6 y7 y8 y9 y10=some true:=by
 unfold GY
 rw[AQT,BC]
 by_cases hsm:y1.2.1.length<=3000/\y1.2.2.length<=80
 rotate_left
 ·rw[AB (by simp [hsm]),VD];rfl
 rw[AD (by simp [hsm])]
 obtain⟨b,e0,hb⟩:=ANR (q:=y2) w2.1
 rw[e0,BC]
 by_cases X5:b=true
 rotate_left
 ·rw[AB (by simpa using X5),VD];rfl
 rw[AD (by simp [X5])]
 have hr8:=hb X5
 by_cases c1:(y0.2.1.length:Int)>20
 ·rw[AB c1,VD];rfl
 rw[AD c1]
 by_cases c2:(y0.1.size:Int)>300
 ·rw[AB c2,VD];rfl
 rw[AD c2]
 obtain⟨d,e1,hd⟩:=AKK y3 w3.1
 obtain⟨c,h,g,d',e2,hp,_⟩:=ALA hd
 obtain⟨v,_,hc,_,_,hfn⟩:=hp.ok
 rw[e1,BC,e2,BC]
 simp only
 have gc:Good h.1:=v.g
 have hg:=gc.n
 obtain⟨l1,l2,l3⟩:=v.hi.hb.lens
 have hn0:=v.hi.n0
 have hn1:=v.n1
 have hx6:∀ x∈h.2.2.1,x.length<=1000000:=fun x hx=>by have:=l3 x hx;omega
 rw[AE (e:=(h.2.2.1.length:Int)+1) (by omega) (by omega),AE (e:=h.2.2.2.1+2) (by omega) (by omega)]
 obtain⟨r1,f1,f10,f11,_⟩:=WV y5 (m:=(h.2.2.1.length:Int)+1) (by omega) (by omega)
 obtain⟨r2,f2,f20,f21,_⟩:=WV y6 (m:=h.2.2.2.1+2) (by omega) (by omega)
 rw[f1,BC,f2,BC]
 have hl3:([(0,false,0),y4,(r1,y7,AG (r2-1))]:List (Int×Bool×Int)).length=3:=rfl
 generalize ([(0,false,0),y4,(r1,y7,AG (r2-1))]:List (Int×Bool×Int))=KS at hl3 ⊢
 refine fI (xs:=KS) (d:=((0,false,0):Cu)) (fun k x hk hx hgx=> ?_) (by rw[AD (by omega),VD];rfl)
 simp only[H6]
 obtain⟨u,e4,hu,_⟩:=VS.spoilt v.vs y8 y9 y10
 rw[AB (by omega),AB (by omega),hgx,show (x.1,x.2)=x from rfl,e4,BC]
 have hsp:∀ z∈([h.2.1,y1,u]:List Sp),StI z:=by
  intro z hz
  simp only[GD,kS,sX] at hz
  rcases hz with rfl|rfl|rfl
  ·exact v.vs.stI
  ·exact AUJ w1
  ·exact hu.stI (by omega)
 have hs3:([h.2.1,y1,u]:List Sp).length=3:=rfl
 generalize ([h.2.1,y1,u]:List Sp)=SS at hsp hs3 ⊢
 refine fI (xs:=SS) (d:=((0,[],[]):Sp)) (fun i s hi hs hgs=> ?_) (by rw[AD (by omega),AE (by omega) (by omega)])
 simp only[H6]
 rw[AB (by omega),AB (by omega),hgs,show (s.1,s.2)=s from rfl]
 have hys:∀ y∈([h.2.2.1,y2]:List Rows),y.length<=1000000/\∀ x∈y,x.length<=9223372036854775807:=by
  intro y hy
  simp only[GD,kS,sX] at hy
  rcases hy with rfl|rfl
  ·exact⟨by omega,fun x hx=>by have:=l3 x hx;omega⟩
  ·exact⟨by omega,fun x hx=>(w2.2 x hx).1⟩
 have hy3:([h.2.2.1,y2]:List Rows).length=2:=rfl
 generalize ([h.2.2.1,y2]:List Rows)=QS at hys hy3 ⊢
 refine fI (xs:=QS) (d:=([]:Rows)) (fun j q hj hq hgq=> ?_) (by rw[AD (by omega),AE (by omega) (by omega)])
 simp only[H6]
 rw[AB (by omega),AB (by omega),hgq]
 have hca:∀ x∈[h.1,y0],Ca x:=by
  intro x hx
  simp only[GD,kS,sX] at hx
  rcases hx with rfl|rfl
  ·exact gc.ca
  ·exact AZT w0 (by omega) (by omega)
 have hc2:([h.1,y0]:List Cf).length=2:=rfl
 generalize ([h.1,y0]:List Cf)=CS at hca hc2 ⊢
 refine fI (xs:=CS) (d:=((⟨#[]⟩,[],0):Cf)) (fun t p ht hp hgp=> ?_) (by rw[AD (by omega),AE (by omega) (by omega)])
 simp only[H6]
 have A4Z:∃ r,EK p s q x=some r/\GC p s q x=some r/\r.1.length<=1000000:=by
  obtain⟨q1,q2⟩:=hys q hq
  rcases ALE (hca p hp) (hsp s hs) q2 q1 x with ⟨d1,d2⟩|⟨d1,d2⟩ <;>
  rcases AVN (hca p hp) (s:=s) q2 q1 x with ⟨d3,d4⟩|⟨d3,d4⟩
  ·refine⟨_,d2,d4, ?_⟩
   have hnq:=d1.2.1.nq
   obtain⟨_,_,_,k0,k1⟩:=d1
   obtain⟨_,k2,k3⟩:=oW (c:=p) hnq.vs hnq.x (by omega) hnq.w (by omega) k0 k1
   unfold vQ VY
   split
   ·simp
   ·have IP:∀ (z B:Int) (l:List AH) (f n:Int),(m_ z B f n l).length<=l.length:=by
     intro z B l
     induction l with
     |nil=>intro f n;simp [m_]
     |cons a l ih=>
      intro f n
      rw[m_]
      split
      ·simp
      ·have:=ih (f-cl z a.2.2.2.2) (n+1)
       simp only[NZ];omega
    refine WZ (IP _ _ _ _ _) (WZ (iY _ _) (hnq.x _ (BS (by omega))))
  ·exact absurd d1 d3
  ·exact absurd d3 d1
  ·exact⟨_,d2,d4,by simp⟩
 obtain⟨w,v1,v2,v3⟩:=A4Z
 rw[AB (by omega),AB (by omega),hgp,show (p.1,p.2)=p from rfl,v1,BC,v2,BC,AD (by simp [WI]),AD (IN rfl),AD (IN rfl),xF _ v3,BC,AD (by decide),AE (e:=(t:Int)+1) (by omega) (by omega)]
structure CuV (q:Rows) (k:Cu):Prop where
 k0:0<=k.1
 k1:k.1<q.length
 lo:∀ b:Nat,(b:Int)<k.1->gl [] q b=[]
 bg:k.2.1=true->k.1=(q.length:Int)-1/\∀ i∈gl [] q (q.length-1),i.1<=k.2.2
theorem CuV.aT {q:Rows} {k:Cu} (h:CuV q k) (C:List Int):CuV (aT q C) k:=by
 refine⟨h.k0,by rw[JF];exact h.k1,fun b hb=> ?_,fun hb=> ?_⟩
 ·have:=h.k1
  rw[AC6 (by omega),h.lo b hb];rfl
 ·rw[JF]
  obtain⟨h1,h2⟩:=h.bg hb
  have:=h.k0
  exact⟨h1,fun i hi=>by rw[AC6 (by omega)] at hi;exact h2 i (WY.1 hi).1⟩
theorem ANS {q:Rows} (hpw:(gl [] q (q.length-1)).Pairwise fun a b=>a.1<b.1):∀ i∈gl [] q (q.length-1),i.1<=mZ q:=by
 intro i hi
 unfold mZ
 obtain⟨n,hn,rfl⟩:=GR (d:=((0,0,0,0,0):AH)) hi
 rw[AD (fun h=>by rw[h] at hn;simp at hn)]
 by_cases hl:n=(gl ([]:List AH) q (q.length-1)).length-1
 ·rw[<-hl];exact S7 _
 ·have:=AA3.1 hpw n ((gl ([]:List AH) q (q.length-1)).length-1) hn (by omega) (by omega)
  rw[<-CK (d:=((0,0,0,0,0):AH)),←CK (d:=((0,0,0,0,0):AH))] at this
  omega
theorem CuV.aU {q:Rows} (hpw:∀ k,k<q.length->(gl [] q k).Pairwise fun a b=>a.1<b.1):∀ (n:Nat) (k:Cu),CuV q k->(n:Int)=q.length-1-k.1→
  CuV q (aU q n k)/\(gl [] q (aU q n k).1.toNat=[]->(aU q n k).1=(q.length:Int)-1)/\z9 q (aU q n k)=gl [] q (aU q n k).1.toNat
 |0,k,h,hn=>by
  have h0:=h.k0
  have h1:=h.k1
  rw[Go.Proofs.YtjbojdpdkikioaaGreatDoor.aU]
  have hF:CuV q (qJ q k)/\(qJ q k).1=(q.length:Int)-1/\(qJ q k).2.1=true:=by
   unfold qJ
   by_cases c:k.1=(q.length:Int)-1/\k.2.1=false
   ·rw[AB c]
    exact⟨⟨h0,h1,h.lo,fun _=>⟨c.1,ANS (hpw _ (by omega))⟩⟩,c.1,rfl⟩
   ·rw[AD c]
    exact⟨h,by omega,by cases hb:k.2.1 with|true=>rfl|false=>exact absurd ⟨by omega,hb⟩ c⟩
  obtain⟨g1,g2,g3⟩:=hF
  refine⟨g1,fun _=>g2, ?_⟩
  unfold z9
  refine AAA.2 fun i hi=>HF (.inr ((g1.bg g3).2 i ?_))
  rw[show q.length-1=(qJ q k).1.toNat from by omega]
  exact hi
 |n+1,k,h,hn=>by
  have h0:=h.k0
  have h1:=h.k1
  rw[Go.Proofs.YtjbojdpdkikioaaGreatDoor.aU]
  by_cases c:gl [] q k.1.toNat=[]
  ·rw[AB c]
   refine CuV.aU hpw n _ ⟨by simp only;omega,by simp only;omega,fun b hb=> ?_,fun hb=>by cases hb⟩ (by simp only;omega)
   simp only at hb
   by_cases hbk:(b:Int)=k.1
   ·rw[show b=k.1.toNat from by omega];exact c
   ·exact h.lo b (by omega)
  ·rw[AD c]
   have e:qJ q k=k:=by
    unfold qJ
    rw[AD (fun hh=>by have:=hh.1;omega)]
   rw[e]
   refine⟨h,fun hh=>absurd hh c, ?_⟩
   unfold z9
   exact AAA.2 fun i hi=>HF (.inl (by omega))
end Go.Proofs.YtjbojdpdkikioaaGreatDoor
