import Derived.Test.YthmiilamegpllaaGreatHeaC
import Derived.Test.YthmiilamegpllaaGreatSpD
set_option linter.unusedVariables false
set_option linter.unusedSimpArgs false
namespace Go.Proofs.YthmiilamegpllaaGreat
open Go Go.V3
abbrev Nd:Type:=List Int×List (BitVec 64)
abbrev Gh:Type:=List Nd×List Bool×List Int
def nd (g:Gh) (k:Int):Nd:=gl (([],[]):Nd) g.1 k.toNat
structure GV (M:Nat) (g:Gh):Prop where
 ul:g.2.1.length=32
 rl:g.2.2.length=32
 nn:g.1.length<=M
 nd:∀ k:Int,0<=k->k<g.1.length->(nd g k).1.length<=15/\(Go.Proofs.YthmiilamegpllaaGreat.nd g k).2.length<=32/\∀ j:Nat,j<(Go.Proofs.YthmiilamegpllaaGreat.nd g k).1.length→-1<=gl 0 (Go.Proofs.YthmiilamegpllaaGreat.nd g k).1 j/\gl 0 (Go.Proofs.YthmiilamegpllaaGreat.nd g k).1 j<g.1.length
 rt:∀ i:Nat,i<32->gl false g.2.1 i=true->0<=gl 0 g.2.2 i/\gl 0 g.2.2 i<g.1.length
 un:∀ i:Nat,i<32->gl false g.2.1 i=false->gl 0 g.2.2 i= -1
inductive GRe (g:Gh):Int->Prop
 |rt (i:Nat) (hi:i<32) (hu:gl false g.2.1 i=true):GRe g (gl 0 g.2.2 i)
 |rf (x:Int) (hx:GRe g x) (j:Nat) (hj:j<(nd g x).1.length) (h0:0<=gl 0 (nd g x).1 j):GRe g (gl 0 (nd g x).1 j)
theorem GRe.HJ {M:Nat} {g:Gh} (v:GV M g) {x:Int} (h:GRe g x):0<=x/\x<g.1.length:=by
 induction h with
 |rt i hi hu=>exact v.rt i hi hu
 |rf x hx j hj h0 ih=>exact⟨h0,((v.nd x ih.1 ih.2).2.2 j hj).2⟩
def pQ:List Bool->Nat
 | []=>0
 |b::r=>(if b=true then 1 else 0)+pQ r
theorem AIH:∀ l:List Bool,pQ l<=l.length
 | []=>ED _
 |b::r=>by
  have:=AIH r
  simp only[pQ,N3]
  split <;> omega
theorem AE1:∀ {l:List Bool} {k:Nat},k<l.length->gl false l k=false->pQ (l.set k true)=pQ l+1
 |b::r,0,_,h=>by
  have hb:b=false:=h
  rw[List.set_cons_zero,hb];simp [pQ];omega
 |b::r,k+1,hk,h=>by
  have ih:=AE1 (l:=r) (k:=k) (by simpa using hk) h
  rw[List.set_cons_succ];simp only[pQ];rw[ih];omega
structure Sn (g:Gh) (s:List Bool):Prop where
 len:s.length=g.1.length
 rt:∀ i:Nat,i<32->gl false g.2.1 i=true->gl false s (gl 0 g.2.2 i).toNat=true
 sub:∀ k:Nat,k<g.1.length->gl false s k=true->GRe g (k:Int)
def Clo (g:Gh) (s:List Bool) (n:Nat):Prop:=∀ k:Nat,k<n->gl false s k=true->∀ j:Nat,j<(nd g k).1.length->0<=gl 0 (nd g k).1 j->gl false s (gl 0 (nd g k).1 j).toNat=true
theorem Sn.all {M:Nat} {g:Gh} (v:GV M g) {s:List Bool} (h:Sn g s) (hc:Clo g s g.1.length) {x:Int} (hx:GRe g x):gl false s x.toNat=true:=by
 induction hx with
 |rt i hi hu=>exact h.rt i hi hu
 |rf x hx j hj h0 ih=>
  have hr:=hx.HJ v
  have:=hc x.toNat (by omega) ih j (by rw[show ((x.toNat:Nat):Int)=x by omega];exact hj)
  rw[show ((x.toNat:Nat):Int)=x by omega] at this
  exact this h0
structure Ps (g:Gh) (s0:List Bool) (b:Bool) (s:List Bool):Prop where
 sn:Sn g s
 up:∀ k:Nat,gl false s0 k=true->gl false s k=true
 gr:b=true->pQ s0<pQ s
 no:b=false->s=s0
 le:pQ s0<=pQ s
theorem Ps.put {M:Nat} {g:Gh} (v:GV M g) {s0:List Bool} {b:Bool} {s:List Bool} (h:Ps g s0 b s) {k:Nat} (hk:k<g.1.length) (hs:gl false s k=true) {j:Nat} (hj:j<(nd g k).1.length) (h0:0<=gl 0 (nd g k).1 j) (hn:gl false s (gl 0 (nd g k).1 j).toNat=false):
  Ps g s0 true (s.set (gl 0 (nd g k).1 j).toNat true):=by
 have hl:=h.sn.len
 have hr:=(v.nd k (by omega) (by omega)).2.2 j hj
 have C7:(gl 0 (nd g k).1 j).toNat<s.length:=by omega
 have hc:=AE1 C7 hn
 have hg:∀ i:Nat,gl false s i=true->gl false (s.set (gl 0 (nd g k).1 j).toNat true) i=true:=by
  intro i hi
  rw[D0 C7];split
  ·rfl
  ·exact hi
 refine⟨⟨by rw[ER];exact hl,fun i hi hu=>hg _ (h.sn.rt i hi hu),fun i hi hu=> ?_⟩,fun i hi=>hg i (h.up i hi),fun _=>(by have:=h.le;omega),fun h=>(by cases h),by have:=h.le;omega⟩
 rw[D0 C7] at hu
 split at hu
 ·rename_i he
  rw[he,qU h0]
  exact .rf k (h.sn.sub k hk hs) j hj h0
 ·exact h.sn.sub i hi hu
theorem ASA {M:Nat} {g:Gh} (v:GV M g) (hM:M<=1000) {s0:List Bool} (hs0:Sn g s0):∃ y:Bool×List Bool,AM (σ:=(Bool×Int×(List Bool))) (β:=((Bool×(List Bool)) ⊕ (List Int))) (fun s3=>
  if s3.2.1<(g.1.length:Int) then
  if 0<=s3.2.1/\s3.2.1<(g.1.length:Int) then
  AM (σ:=(Bool×Int×(List Bool))) (β:=((Bool×Int×(List Bool)) ⊕ ((Bool×(List Bool)) ⊕ (List Int)))) (fun s4=>
  if s4.2.1<(((gl (([],[]):((List Int)×(List (BitVec 64)))) g.1 s3.2.1.toNat).1).length:Int) then
  if 0<=s4.2.1/\s4.2.1<(((gl (([],[]):((List Int)×(List (BitVec 64)))) g.1 s3.2.1.toNat).1).length:Int) then
  if 0<=s3.2.1/\s3.2.1<(s4.2.2.length:Int) then
  if (gl (false:Bool) s4.2.2 s3.2.1.toNat)=true then
  if (gl (0:Int) ((gl (([],[]):((List Int)×(List (BitVec 64)))) g.1 s3.2.1.toNat).1) s4.2.1.toNat)≥0 then
  if 0<=(gl (0:Int) ((gl (([],[]):((List Int)×(List (BitVec 64)))) g.1 s3.2.1.toNat).1) s4.2.1.toNat)/\(gl (0:Int) ((gl (([],[]):((List Int)×(List (BitVec 64)))) g.1 s3.2.1.toNat).1) s4.2.1.toNat)<(s4.2.2.length:Int) then
  if (!(gl (false:Bool) s4.2.2 ((gl (0:Int) ((gl (([],[]):((List Int)×(List (BitVec 64)))) g.1 s3.2.1.toNat).1) s4.2.1.toNat).toNat)))=true then
  if 0<=(gl (0:Int) ((gl (([],[]):((List Int)×(List (BitVec 64)))) g.1 s3.2.1.toNat).1) s4.2.1.toNat)/\(gl (0:Int) ((gl (([],[]):((List Int)×(List (BitVec 64)))) g.1 s3.2.1.toNat).1) s4.2.1.toNat)<(s4.2.2.length:Int) then
  some (Sum.inl ((true,AG (s4.2.1+1),s4.2.2.set ((gl (0:Int) ((gl (([],[]):((List Int)×(List (BitVec 64)))) g.1 s3.2.1.toNat).1) s4.2.1.toNat).toNat) true)))
  else none
  else some (Sum.inl ((s4.1,AG (s4.2.1+1),s4.2.2)))
  else none
  else some (Sum.inl ((s4.1,AG (s4.2.1+1),s4.2.2)))
  else some (Sum.inl ((s4.1,AG (s4.2.1+1),s4.2.2)))
  else none
  else none
  else some (Sum.inr (Sum.inl ((s4.1,AG (s3.2.1+1),s4.2.2))))) ((s3.1,0,s3.2.2))
  else none
  else some (Sum.inr (Sum.inl ((s3.1,s3.2.2))))) ((false,0,s0))=some (Sum.inl y)/\Ps g s0 y.1 y.2/\(y.1=false->Clo g s0 g.1.length):=by
 have vS:=v.nn
 have key:=AR (β:=((Bool×(List Bool)) ⊕ (List Int))) (f:=fun s3:Bool×Int×List Bool=>
  if s3.2.1<(g.1.length:Int) then
  if 0<=s3.2.1/\s3.2.1<(g.1.length:Int) then
  AM (σ:=(Bool×Int×(List Bool))) (β:=((Bool×Int×(List Bool)) ⊕ ((Bool×(List Bool)) ⊕ (List Int)))) (fun s4=>
  if s4.2.1<(((gl (([],[]):((List Int)×(List (BitVec 64)))) g.1 s3.2.1.toNat).1).length:Int) then
  if 0<=s4.2.1/\s4.2.1<(((gl (([],[]):((List Int)×(List (BitVec 64)))) g.1 s3.2.1.toNat).1).length:Int) then
  if 0<=s3.2.1/\s3.2.1<(s4.2.2.length:Int) then
  if (gl (false:Bool) s4.2.2 s3.2.1.toNat)=true then
  if (gl (0:Int) ((gl (([],[]):((List Int)×(List (BitVec 64)))) g.1 s3.2.1.toNat).1) s4.2.1.toNat)≥0 then
  if 0<=(gl (0:Int) ((gl (([],[]):((List Int)×(List (BitVec 64)))) g.1 s3.2.1.toNat).1) s4.2.1.toNat)/\(gl (0:Int) ((gl (([],[]):((List Int)×(List (BitVec 64)))) g.1 s3.2.1.toNat).1) s4.2.1.toNat)<(s4.2.2.length:Int) then
  if (!(gl (false:Bool) s4.2.2 ((gl (0:Int) ((gl (([],[]):((List Int)×(List (BitVec 64)))) g.1 s3.2.1.toNat).1) s4.2.1.toNat).toNat)))=true then
  if 0<=(gl (0:Int) ((gl (([],[]):((List Int)×(List (BitVec 64)))) g.1 s3.2.1.toNat).1) s4.2.1.toNat)/\(gl (0:Int) ((gl (([],[]):((List Int)×(List (BitVec 64)))) g.1 s3.2.1.toNat).1) s4.2.1.toNat)<(s4.2.2.length:Int) then
  some (Sum.inl ((true,AG (s4.2.1+1),s4.2.2.set ((gl (0:Int) ((gl (([],[]):((List Int)×(List (BitVec 64)))) g.1 s3.2.1.toNat).1) s4.2.1.toNat).toNat) true)))
  else none
  else some (Sum.inl ((s4.1,AG (s4.2.1+1),s4.2.2)))
  else none
  else some (Sum.inl ((s4.1,AG (s4.2.1+1),s4.2.2)))
  else some (Sum.inl ((s4.1,AG (s4.2.1+1),s4.2.2)))
  else none
  else none
  else some (Sum.inr (Sum.inl ((s4.1,AG (s3.2.1+1),s4.2.2))))) ((s3.1,0,s3.2.2))
  else none
  else some (Sum.inr (Sum.inl ((s3.1,s3.2.2)))))
  (fun k (st:Bool×Int×List Bool)=>st.2.1=(k:Int)/\Ps g s0 st.1 st.2.2/\(st.1=false->Clo g s0 k))
  (fun x=>∃ y:Bool×List Bool,x=Sum.inl y/\Ps g s0 y.1 y.2/\(y.1=false->Clo g s0 g.1.length)) g.1.length ?_ ?_ (s:=(false,0,s0))
  ⟨rfl,⟨hs0,fun _ h=>h,fun h=>(by cases h),fun _=>rfl,ED _⟩,fun _ k hk=>by omega⟩
 ·obtain⟨x,hx,y,rfl,h1⟩:=key
  exact⟨y,hx,h1⟩
 ·rintro k ⟨b,kk,s⟩ hk ⟨HK,hp,hc⟩
  simp only at HK hp hc
  subst HK
  left
  simp only[I3]
  rw[AA (by omega),AA (by omega)]
  have H8:gl (([],[]):((List Int)×(List (BitVec 64)))) g.1 k=nd g (k:Int):=rfl
  have hvn:=v.nd k (by omega) (by omega)
  rw[H8]
  have inner:=AR (β:=((Bool×Int×(List Bool)) ⊕ ((Bool×(List Bool)) ⊕ (List Int)))) (f:=fun s4:Bool×Int×List Bool=>
   if s4.2.1<((nd g (k:Int)).1.length:Int) then
   if 0<=s4.2.1/\s4.2.1<((nd g (k:Int)).1.length:Int) then
   if 0<=(k:Int)/\(k:Int)<(s4.2.2.length:Int) then
   if (gl (false:Bool) s4.2.2 k)=true then
   if (gl (0:Int) (nd g (k:Int)).1 s4.2.1.toNat)≥0 then
   if 0<=(gl (0:Int) (nd g (k:Int)).1 s4.2.1.toNat)/\(gl (0:Int) (nd g (k:Int)).1 s4.2.1.toNat)<(s4.2.2.length:Int) then
   if (!(gl (false:Bool) s4.2.2 ((gl (0:Int) (nd g (k:Int)).1 s4.2.1.toNat).toNat)))=true then
   if 0<=(gl (0:Int) (nd g (k:Int)).1 s4.2.1.toNat)/\(gl (0:Int) (nd g (k:Int)).1 s4.2.1.toNat)<(s4.2.2.length:Int) then
   some (Sum.inl ((true,AG (s4.2.1+1),s4.2.2.set ((gl (0:Int) (nd g (k:Int)).1 s4.2.1.toNat).toNat) true)))
   else none
   else some (Sum.inl ((s4.1,AG (s4.2.1+1),s4.2.2)))
   else none
   else some (Sum.inl ((s4.1,AG (s4.2.1+1),s4.2.2)))
   else some (Sum.inl ((s4.1,AG (s4.2.1+1),s4.2.2)))
   else none
   else none
   else some (Sum.inr (Sum.inl ((s4.1,AG ((k:Int)+1),s4.2.2)))))
   (fun j (st:Bool×Int×List Bool)=>st.2.1=(j:Int)/\Ps g s0 st.1 st.2.2/\(st.1=false->Clo g s0 k/\(gl false s0 k=true->∀ j' :Nat,j' <j->0<=gl 0 (nd g (k:Int)).1 j' ->gl false s0 (gl 0 (nd g (k:Int)).1 j').toNat=true)))
   (fun x=>∃ y:Bool×Int×List Bool,x=Sum.inl y/\y.2.1=((k+1:Nat):Int)/\Ps g s0 y.1 y.2.2/\(y.1=false->Clo g s0 (k+1))) (nd g (k:Int)).1.length ?_ ?_ (s:=(b,0,s))
   ⟨rfl,hp,fun hb=>⟨hc hb,fun _ j' YQ =>by omega⟩⟩
  ·obtain⟨x,hx,y,rfl,h1⟩:=inner
   exact⟨y,hx,h1⟩
  ·rintro j ⟨b4,jj,s4⟩ hj ⟨hjj,hp4,hc4⟩
   simp only at hjj hp4 hc4
   subst hjj
   left
   have hl4:=hp4.sn.len
   simp only[I3]
   have hr:=hvn.2.2 j hj
   rw[AA (by omega),AA (by omega),AA (by omega),AD (e:=(j:Int)+1) (by omega) (by omega)]
   have nxt:(gl false s4 k=true->0<=gl 0 (nd g (k:Int)).1 j->gl false s4 (gl 0 (nd g (k:Int)).1 j).toNat=true)->((j:Int)+1=((j+1:Nat):Int)/\Ps g s0 b4 s4/\(b4=false->Clo g s0 k/\(gl false s0 k=true->∀ j' :Nat,j' <j+1->0<=gl 0 (nd g (k:Int)).1 j' ->gl false s0 (gl 0 (nd g (k:Int)).1 j').toNat=true))):=by
    intro hn
    refine⟨rfl,hp4,fun hb=>⟨(hc4 hb).1,fun h0 j' YQ dI => ?_⟩⟩
    by_cases he:j' =j
    ·subst he
     have:=hp4.no hb
     subst this
     exact hn h0 dI
    ·exact (hc4 hb).2 h0 j' (by omega) dI
   by_cases c1:gl false s4 k=true
   rotate_left
   ·rw[AB c1]
    exact⟨_,rfl,nxt fun h=>absurd h c1⟩
   rw[AA c1]
   by_cases c2:gl 0 (nd g (k:Int)).1 j≥0
   rotate_left
   ·rw[AB c2]
    exact⟨_,rfl,nxt fun _ h=>absurd h c2⟩
   rw[AA c2,AA (by omega)]
   cases c3:gl false s4 (gl 0 (nd g (k:Int)).1 j).toNat with
   |true=>
    rw[AB (by decide)]
    exact⟨_,rfl,nxt fun _ _=>c3⟩
   |false=>
    rw[AA (by decide),AA (by omega)]
    exact⟨_,rfl,rfl,hp4.put v hk c1 hj c2 c3,fun h=>by cases h⟩
  ·rintro⟨b4,jj,s4⟩ ⟨hjj,hp4,hc4⟩
   simp only at hjj hp4 hc4
   subst hjj
   simp only
   rw[AB (by omega),AD (e:=(k:Int)+1) (by omega) (by omega)]
   refine⟨_,rfl,_,rfl,rfl,hp4,fun hb=> ?_⟩
   obtain⟨h1,h2⟩:=hc4 hb
   intro k' MC hu j hj h0
   by_cases he:k' =k
   ·subst he;exact h2 hu j hj h0
   ·exact h1 k' (by omega) hu j hj h0
 ·rintro⟨b,kk,s⟩ ⟨HK,hp,hc⟩
  simp only at HK hp hc
  subst HK
  simp only
  rw[AB (by omega)]
  exact⟨_,rfl,_,rfl,hp,hc⟩
theorem APB {M:Nat} {g:Gh} (v:GV M g) (hM:M<=1000):∃ l,IM g=some l/\l.Pairwise (·< ·)/\∀ x,x∈l↔GRe g x:=by
 have hul:=v.ul
 have hrl:=v.rl
 have vS:=v.nn
 unfold IM
 rw[AA (by omega)]
 refine AR (fun k (st:Int×List Bool)=>st.1=(k:Int)/\st.2.length=g.1.length/\(∀ i:Nat,i<k->gl false g.2.1 i=true->gl false st.2 (gl 0 g.2.2 i).toNat=true)/\∀ i:Nat,i<g.1.length->gl false st.2 i=true->GRe g (i:Int)) _ 32 ?_ ?_ ⟨rfl,by simp,fun i hi=>by omega,fun i hi hu=> ?_⟩
 ·rintro k ⟨kk,s⟩ hk ⟨HK,hl,h1,h2⟩
  simp only at HK hl h1 h2
  subst HK
  left
  simp only[I3]
  rw[AA (by omega),AA (by omega),AD (e:=(k:Int)+1) (by omega) (by omega)]
  cases hu:gl false g.2.1 k with
  |false=>
   rw[AB (by decide)]
   refine⟨_,rfl,rfl,hl,fun i hi hui=> ?_,h2⟩
   by_cases c_:i=k
   ·subst c_;rw[hu] at hui;cases hui
   ·exact h1 i (by omega) hui
  |true=>
   have hr:=v.rt k hk hu
   have C7:(gl 0 g.2.2 k).toNat<s.length:=by omega
   rw[AA rfl,AA (by omega),AA (by omega)]
   refine⟨_,rfl,rfl,by simp only[ER];exact hl,fun i hi hui=> ?_,fun i hi hui=> ?_⟩
   ·simp only
    rw[D0 C7]
    split
    ·rfl
    ·rename_i CJ
     by_cases c_:i=k
     ·subst c_;exact absurd rfl CJ
     ·exact h1 i (by omega) hui
   ·simp only at hui
    rw[D0 C7] at hui
    split at hui
    ·rename_i he
     rw[he,qU hr.1]
     exact .rt k hk hu
    ·exact h2 i hi hui
 ·rintro⟨kk,s⟩ ⟨HK,hl,h1,h2⟩
  simp only at HK hl h1 h2
  subst HK
  simp only
  rw[AB (by omega)]
  refine WV ?_
  have fin:∀ (s1:List Bool),Sn g s1->Clo g s1 g.1.length->∃ b,Option.map (Sum.inr (α:=Bool×List Bool)) (AM (σ:=((List Int)×Int)) (β:=(List Int)) (fun s5=>
    if s5.2<(s1.length:Int) then
    if 0<=s5.2/\s5.2<(s1.length:Int) then
    if (gl (false:Bool) s1 s5.2.toNat)=true then
    if (s5.1.length+([s5.2]:List Int).length)*8<=140737488355328 then
    some (Sum.inl ((s5.1++([s5.2]:List Int),AG (s5.2+1))))
    else none
    else some (Sum.inl ((s5.1,AG (s5.2+1))))
    else none
    else some (Sum.inr (s5.1))) (([],0)))=some (Sum.inr b)/\(b.Pairwise (·< ·)/\∀ x,x∈b↔GRe g x):=by
   intro s1 sn hc
   refine WV ?_
   have hl1:=sn.len
   refine AR (fun k (st:List Int×Int)=>st=((F4 k).filter (fun x=>gl false s1 x.toNat),(k:Int))) _ s1.length ?_ ?_ (s:=([],0)) rfl
   ·rintro k st hk rfl
    left
    have yW:=oX (fun x:Int=>gl false s1 x.toNat) (F4 k)
    rw[H4] at yW
    simp only[I3]
    rw[AA (by omega),AA (by omega),AD (e:=(k:Int)+1) (by omega) (by omega),LV,x7]
    cases hu:gl false s1 k with
    |true=>
     rw[AA rfl,AA (by simp only[HW];omega)]
     refine⟨_,rfl, ?_⟩
     simp [hu]
    |false=>
     rw[AB (by decide)]
     refine⟨_,rfl, ?_⟩
     simp [hu]
   ·rintro st rfl
    simp only
    rw[AB (by omega)]
    refine⟨_,rfl,(m_ _).filter _,fun x=> ?_⟩
    rw[YN,LW]
    constructor
    ·rintro⟨⟨x0,x1⟩,hu⟩
     have:=sn.sub x.toNat (by omega) hu
     rw[qU x0] at this
     exact this
    ·intro hx
     have:=hx.HJ v
     exact⟨by omega,sn.all v hc hx⟩
  refine AR (fun m (st:Bool×List Bool)=>Sn g st.2/\(st.1=true->m<=pQ st.2)/\(st.1=false->Clo g st.2 g.1.length)) _ (g.1.length+1) ?_ ?_ (s:=(true,s)) ⟨⟨hl,h1,h2⟩,fun _=>Nat.zero_le _,fun h=>by cases h⟩
  ·rintro m ⟨b,s1⟩ hm ⟨sn,c1,c2⟩
   simp only at sn c1 c2
   cases b with
   |false=>
    right
    rw[AB (show ¬false=true by decide)]
    exact fin s1 sn (c2 rfl)
   |true=>
    rw[AA rfl]
    obtain⟨y,g1,g2,g3⟩:=ASA v hM sn
    refine .inl ⟨y,g1,g2.sn,fun hb=> ?_,fun hb=> ?_⟩
    ·have:=g2.gr hb
     have:=c1 rfl
     omega
    ·have:=g2.no hb
     rw[this]
     exact g3 hb
  ·rintro⟨b,s1⟩ ⟨sn,c1,c2⟩
   simp only at sn c1 c2
   cases b with
   |false=>
    rw[AB (show ¬false=true by decide)]
    exact fin s1 sn (c2 rfl)
   |true=>
    have h1:=c1 rfl
    have h2:=AIH s1
    have h3:=sn.len
    omega
 ·simp only at hu
  rw[show (g.1.length:Int).toNat=g.1.length from rfl,RS hi] at hu
  cases hu
def AE2 (g:Gh) (l:List Int):Int:=l.foldl (fun n x=>n+(1+((nd g x).1.length:Int)+((nd g x).2.length:Int))) 0
theorem AL1 {g:Gh} (l:List Int) {k:Nat} (hk:k<l.length):AE2 g (l.take (k+1))=AE2 g (l.take k)+(1+((nd g (gl 0 l k)).1.length:Int)+((nd g (gl 0 l k)).2.length:Int)):=by
 unfold AE2
 rw[FV (d:=0) l k hk,List.foldl_append];rfl
theorem APC {M:Nat} {g:Gh} (v:GV M g) (hM:M<=1000):∃ l,JR g=some (AE2 g l)/\l.Pairwise (·< ·)/\∀ x,x∈l↔GRe g x:=by
 obtain⟨l,h1,h2,h3⟩:=APB v hM
 refine⟨l, ?_,h2,h3⟩
 have hll:l.length<=1000:=nI h2 fun x hx=>by have:=((h3 x).1 hx).HJ v;have:=v.nn;omega
 unfold JR
 rw[h1,A9]
 refine (AR (fun k (st:Int×Int)=>st=(AE2 g (l.take k),(k:Int))/\0<=st.1/\st.1<=100*k) (fun b=>b=AE2 g l) l.length ?_ ?_ (s:=(0,0)) ⟨rfl,by simp,by simp⟩).elim fun b hb=>by rw[hb.1,hb.2]
 ·rintro k st hk ⟨rfl,hs0,hs1⟩
  left
  have hr:=((h3 _).1 (BR (d:=0) hk)).HJ v
  have hn:=v.nd _ hr.1 hr.2
  simp only at hs0 hs1
  simp only[I3]
  have e1:gl (([],[]):((List Int)×(List (BitVec 64)))) g.1 (gl 0 l k).toNat=nd g (gl 0 l k):=rfl
  rw[AA (by omega),AA (by omega),AA (by omega),AA (by omega),e1,AD (e:=(1:Int)+((nd g (gl 0 l k)).1.length:Int)) (by omega) (by omega),AD (e:=(1:Int)+((nd g (gl 0 l k)).1.length:Int)+((nd g (gl 0 l k)).2.length:Int)) (by omega) (by omega),AD (e:=AE2 g (l.take k)+_) (by omega) (by omega),AD (e:=(k:Int)+1) (by omega) (by omega)]
  exact⟨_,rfl,by rw[AL1 l hk];rfl,by simp only;omega,by simp only;omega⟩
 ·rintro st ⟨rfl,_,_⟩
  simp only
  rw[AB (by omega),SP]
  exact⟨_,rfl,rfl⟩
theorem APD {M:Nat} {g:Gh} (v:GV M g) (hM:M<=1000):JQ g=some g:=by
 have hul:=v.ul
 have hrl:=v.rl
 have vS:=v.nn
 unfold JQ
 rw[AA (by simp only[U7];omega),AA (by simp only[U7];omega)]
 refine (AR (fun k (st:Int×Gh)=>st=((k:Int),(g.1.take k,g.2.1,g.2.2))) (fun b=>b=g) g.1.length ?_ ?_ (s:=(0,([],([]:List Bool)++g.2.1,([]:List Int)++g.2.2))) (by simp)).elim fun b hb=>by rw[hb.1,hb.2]
 ·rintro k st hk rfl
  left
  have hv:=v.nd k (by omega) (by omega)
  have e1:gl (([],[]):Nd) g.1 k=nd g (k:Int):=rfl
  simp only[I3]
  rw[AA (by omega),AA (by omega),e1,AA (by simp only[U7];omega),AA (by simp only[U7];omega),AA (by simp only[List.length_take,HW];omega),AD (e:=(k:Int)+1) (by omega) (by omega)]
  refine⟨_,rfl, ?_⟩
  rw[FV (d:=(([],[]):Nd)) g.1 k hk,e1]
  rfl
 ·rintro st rfl
  simp only
  rw[AB (by omega),SP]
  exact⟨_,rfl,rfl⟩
theorem X8 {M:Nat} {g:Gh} (v:GV M g) (x:Int) (need:Bool):CR g x need=some (N1 g.2.1 x need):=by
 have h1:=v.ul
 unfold CR N1
 by_cases c0:x=0
 ·simp only[AA c0]
  cases need <;> rfl
 simp only[AB c0]
 by_cases c1:x<0
 ·rw[AA c1,AA (.inl c1)]
 by_cases c2:x>32
 ·rw[AB c1,AA c2,AA (.inr (.inl c2))]
 rw[AB c1,AB c2,AD (e:=x-1) (by omega) (by omega),AA (by omega)]
 cases hu:gl false g.2.1 (x-1).toNat with
 |true=>rw[AB (by decide),AB (fun hh=>by rcases hh with hh|hh|hh;omega;omega;cases hh)]
 |false=>rw[AA (by decide),AA (.inr (.inr rfl))]
def DW (g:Gh) (x:Int):Int:=if x=0 then -1 else gl 0 g.2.2 (x-1).toNat
theorem lY {M:Nat} {g:Gh} (v:GV M g) {x:Int} (x0:0<=x) (x1:x<=32):BZ g x=some (DW g x):=by
 have h1:=v.rl
 unfold BZ DW
 by_cases c0:x=0
 ·rw[AA c0,AA c0]
 ·rw[AB c0,AB c0,AD (e:=x-1) (by omega) (by omega),AA (by omega)]
theorem AE3 {M:Nat} {g:Gh} (v:GV M g):
  (∃ i:Nat,i<32/\gl false g.2.1 i=false/\(∀ j:Nat,j<i->gl false g.2.1 j=true)/\EP g=some ((i:Int)+1))\/(SN g.2.1/\EP g=some 0):=by
 have h1:=v.ul
 unfold EP
 refine (AR (fun k (st:Int)=>st=(k:Int)/\∀ j:Nat,j<k->gl false g.2.1 j=true) (fun b=>(∃ i:Nat,i<32/\gl false g.2.1 i=false/\(∀ j:Nat,j<i->gl false g.2.1 j=true)/\b=(i:Int)+1)\/(SN g.2.1/\b=0)) g.2.1.length ?_ ?_ (s:=0) ⟨rfl,fun j hj=>by omega⟩).elim fun b hb=>by
  rcases hb.2 with ⟨i,a1,a2,a3,a4⟩|⟨a1,a2⟩
  ·exact .inl ⟨i,a1,a2,a3,by rw[hb.1,a4]⟩
  ·exact .inr ⟨a1,by rw[hb.1,a2]⟩
 ·rintro k st hk ⟨rfl,hj⟩
  rw[AA (by omega),AA (by omega),AD (by omega) (by omega)]
  simp only[I3]
  by_cases hu:gl false g.2.1 k=true
  ·rw[AB (by rw[hu];decide)]
   refine .inl ⟨_,rfl,rfl,fun j YQ => ?_⟩
   by_cases gC:j=k
   ·rw[gC];exact hu
   ·exact hj j (by omega)
  ·have hu' :gl false g.2.1 k=false:=by simpa using hu
   rw[AA (by rw[hu'];decide)]
   exact .inr ⟨_,rfl,.inl ⟨k,by omega,hu',hj,rfl⟩⟩
 ·rintro st ⟨rfl,hj⟩
  rw[AB (by omega)]
  exact⟨_,rfl,.inr ⟨fun i hi=>hj i (by omega),rfl⟩⟩
inductive oW (g:Gh) (o:Op):Gh->An->Prop
 |bad (c:¬(1<=o.1/\o.1<=10)):oW g o g (20,0#64)
 |size (c:o.1=1) (hs:¬vH o.2.1 o.2.2.1):oW g o g (13,0#64)
 |APA (c:o.1=1) (hs:vH o.2.1 o.2.2.1) (hf:SN g.2.1):oW g o g (15,0#64)
 |all (c:o.1=1) (hs:vH o.2.1 o.2.2.1) (i:Nat) (hi:i<32) (hu:gl false g.2.1 i=false) (hj:∀ j:Nat,j<i->gl false g.2.1 j=true):
   oW g o (g.1++ [(List.replicate o.2.1.toNat (-1),List.replicate o.2.2.1.toNat 0#64)],g.2.1.set i true,g.2.2.set i (g.1.length:Int)) (0,BitVec.ofInt 64 ((i:Int)+1))
 |col (c:o.1=8):oW g o g (0,0#64)
 |sta (c:o.1=10) (l:List Int) (hl:l.Pairwise (·< ·)) (hm:∀ x,x∈l↔GRe g x):oW g o g (0,BitVec.ofInt 64 (AE2 g l))
 |eqa (c:o.1=6) (e:N1 g.2.1 o.2.1 false≠0):oW g o g (N1 g.2.1 o.2.1 false,0#64)
 |eqb (c:o.1=6) (e:N1 g.2.1 o.2.1 false=0) (f:N1 g.2.1 o.2.2.1 false≠0):oW g o g (N1 g.2.1 o.2.2.1 false,0#64)
 |equ (c:o.1=6) (e:N1 g.2.1 o.2.1 false=0) (f:N1 g.2.1 o.2.2.1 false=0):oW g o g (0,if DW g o.2.1=DW g o.2.2.1 then 1#64 else 0#64)
 |nH (c:(2<=o.1/\o.1<=5)\/o.1=7\/o.1=9) (e:N1 g.2.1 o.2.1 true≠0):oW g o g (N1 g.2.1 o.2.1 true,0#64)
 |drp (c:o.1=7) (e:N1 g.2.1 o.2.1 true=0):oW g o (g.1,g.2.1.set (o.2.1-1).toNat false,g.2.2.set (o.2.1-1).toNat (-1)) (0,0#64)
 |shp (c:o.1=9) (e:N1 g.2.1 o.2.1 true=0):oW g o g (0,BitVec.ofInt 64 (256*((nd g (DW g o.2.1)).1.length:Int)+((nd g (DW g o.2.1)).2.length:Int)))
 |idx (c:2<=o.1/\o.1<=5) (e:N1 g.2.1 o.2.1 true=0) (hk:¬(0<=o.2.2.1/\o.2.2.1<(if o.1=2\/o.1=3 then ((nd g (DW g o.2.1)).1.length:Int) else ((nd g (DW g o.2.1)).2.length:Int)))):oW g o g (17,0#64)
 |rd (c:o.1=4) (e:N1 g.2.1 o.2.1 true=0) (k0:0<=o.2.2.1) (k1:o.2.2.1<(nd g (DW g o.2.1)).2.length):oW g o g (0,gl 0#64 (nd g (DW g o.2.1)).2 o.2.2.1.toNat)
 |rr0 (c:o.1=2) (e:N1 g.2.1 o.2.1 true=0) (k0:0<=o.2.2.1) (k1:o.2.2.1<(nd g (DW g o.2.1)).1.length) (hw:gl 0 (nd g (DW g o.2.1)).1 o.2.2.1.toNat= -1):oW g o g (0,0#64)
 |rrf (c:o.1=2) (e:N1 g.2.1 o.2.1 true=0) (k0:0<=o.2.2.1) (k1:o.2.2.1<(nd g (DW g o.2.1)).1.length) (hw:gl 0 (nd g (DW g o.2.1)).1 o.2.2.1.toNat≠-1) (hf:SN g.2.1):oW g o g (15,0#64)
 |rr (c:o.1=2) (e:N1 g.2.1 o.2.1 true=0) (k0:0<=o.2.2.1) (k1:o.2.2.1<(nd g (DW g o.2.1)).1.length) (hw:gl 0 (nd g (DW g o.2.1)).1 o.2.2.1.toNat≠-1) (i:Nat) (hi:i<32) (hu:gl false g.2.1 i=false) (hj:∀ j:Nat,j<i->gl false g.2.1 j=true):
   oW g o (g.1,g.2.1.set i true,g.2.2.set i (gl 0 (nd g (DW g o.2.1)).1 o.2.2.1.toNat)) (0,BitVec.ofInt 64 ((i:Int)+1))
 |wrh (c:o.1=3) (e:N1 g.2.1 o.2.1 true=0) (k0:0<=o.2.2.1) (k1:o.2.2.1<(nd g (DW g o.2.1)).1.length) (hh:N1 g.2.1 o.2.2.2 false≠0):oW g o g (N1 g.2.1 o.2.2.2 false,0#64)
 |wr (c:o.1=3) (e:N1 g.2.1 o.2.1 true=0) (k0:0<=o.2.2.1) (k1:o.2.2.1<(nd g (DW g o.2.1)).1.length) (hh:N1 g.2.1 o.2.2.2 false=0):
   oW g o (g.1.set (DW g o.2.1).toNat ((nd g (DW g o.2.1)).1.set o.2.2.1.toNat (DW g o.2.2.2),(nd g (DW g o.2.1)).2),g.2) (0,0#64)
 |wd (c:o.1=5) (e:N1 g.2.1 o.2.1 true=0) (k0:0<=o.2.2.1) (k1:o.2.2.1<(nd g (DW g o.2.1)).2.length):
   oW g o (g.1.set (DW g o.2.1).toNat ((nd g (DW g o.2.1)).1,(nd g (DW g o.2.1)).2.set o.2.2.1.toNat (BitVec.ofInt 64 o.2.2.2)),g.2) (0,0#64)
theorem dQ {M:Nat} {g:Gh} (v:GV M g) {x:Int} (hx:N1 g.2.1 x true=0):0<=DW g x/\DW g x<g.1.length:=by
 obtain⟨x0,x1,hu⟩:=cP hx
 unfold DW
 rw[AB (by omega)]
 exact v.rt _ (by omega) hu
theorem X9 {M:Nat} {g:Gh} (v:GV M g) {x:Int} (hx:N1 g.2.1 x false=0):(-1<=DW g x/\DW g x<g.1.length)/\0<=x/\x<=32:=by
 rcases AIE hx with rfl|⟨x0,x1,hu⟩
 ·exact⟨by unfold DW;rw[AA rfl];omega,by omega,by omega⟩
 ·unfold DW
  rw[AB (by omega)]
  have:=v.rt _ (by omega:(x-1).toNat<32) hu
  omega
theorem AW5 {M:Nat} {g:Gh} (v:GV M g) (hM:M<=1000) (o:Op):∃ g' an,L8 g o=some (g',an)/\oW g o g' an:=by
 have hul:=v.ul
 have hrl:=v.rl
 have vS:=v.nn
 unfold L8
 rw[APD v hM,A9]
 by_cases c1:o.1=1
 ·rw[AA c1]
  by_cases h1:o.2.1<0
  ·rw[AA h1];exact⟨_,_,rfl,.size c1 fun hh=>by have:=hh.1.1;omega⟩
  by_cases h2:o.2.1>15
  ·rw[AB h1,AA h2];exact⟨_,_,rfl,.size c1 fun hh=>by have:=hh.1.2;omega⟩
  by_cases h3:o.2.2.1<0
  ·rw[AB h1,AB h2,AA h3];exact⟨_,_,rfl,.size c1 fun hh=>by have:=hh.2.1;omega⟩
  by_cases h4:o.2.2.1>32
  ·rw[AB h1,AB h2,AB h3,AA h4];exact⟨_,_,rfl,.size c1 fun hh=>by have:=hh.2.2;omega⟩
  have hs:vH o.2.1 o.2.2.1:=⟨by omega,by omega⟩
  rw[AB h1,AB h2,AB h3,AB h4]
  rcases AE3 v with ⟨i,hi,hu,hj,hf⟩|⟨hf,pA⟩
  ·rw[hf,A9,AB (by omega),AA (by omega)]
   have key:=AR (β:=Unit ⊕ (Gh×An)) (f:=fun s1:Int×Nd=>
    if s1.1<o.2.1 then
    if (s1.2.1.length+([(-1)]:List Int).length)*8<=140737488355328 then
    some (Sum.inl ((AG (s1.1+1),(s1.2.1++([(-1)]:List Int),s1.2.2))))
    else none
    else Option.map Sum.inr (if (g.1.length+([s1.2]:List ((List Int)×(List (BitVec 64)))).length)*48<=140737488355328 then
    if 0<=(AG ((i:Int)+1-1))/\(AG ((i:Int)+1-1))<(g.2.1.length:Int) then
    if 0<=(AG ((i:Int)+1-1))/\(AG ((i:Int)+1-1))<(g.2.2.length:Int) then
    some (Sum.inr (((g.1++([s1.2]:List ((List Int)×(List (BitVec 64)))),g.2.1.set ((AG ((i:Int)+1-1)).toNat) true,g.2.2.set ((AG ((i:Int)+1-1)).toNat) (AG (((g.1++([s1.2]:List ((List Int)×(List (BitVec 64))))).length:Int)-1))),(0,BitVec.ofInt 64 ((i:Int)+1)))))
    else none
    else none
    else none))
    (fun k (st:Int×Nd)=>st=((k:Int),(List.replicate k (-1),List.replicate o.2.2.1.toNat 0#64)))
    (fun b=>b=Sum.inr ((g.1++ [(List.replicate o.2.1.toNat (-1),List.replicate o.2.2.1.toNat 0#64)],g.2.1.set i true,g.2.2.set i (g.1.length:Int)),(0,BitVec.ofInt 64 ((i:Int)+1)))) o.2.1.toNat ?_ ?_ (s:=(0,([],List.replicate o.2.2.1.toNat 0#64))) rfl
   ·obtain⟨b,hb,rfl⟩:=key
    rw[hb]
    exact⟨_,_,rfl,.all c1 hs i hi hu hj⟩
   ·rintro k st hk rfl
    left
    simp only
    rw[AA (by omega),AA (by simp only[ZP,HW];omega),AD (e:=(k:Int)+1) (by omega) (by omega)]
    refine⟨_,rfl, ?_⟩
    rw[List.replicate_succ'];rfl
   ·rintro st rfl
    simp only
    rw[AB (by omega),AA (by simp only[HW];omega),AD (e:=(i:Int)+1-1) (by omega) (by omega),AA (by omega),AA (by omega),AD (e:=_ - 1) (by simp only[I5,HW];omega) (by simp only[I5,HW];omega)]
    refine⟨_,rfl, ?_⟩
    simp only[I5,HW]
    rw[show ((i:Int)+1-1).toNat=i from by omega,show ((g.1.length+1:Nat):Int)-1=(g.1.length:Int) from by omega]
  ·rw[pA,A9,AA rfl]
   exact⟨_,_,rfl,.APA c1 hs hf⟩
 rw[AB c1]
 by_cases c8:o.1=8
 ·rw[AA c8];exact⟨_,_,rfl,.col c8⟩
 rw[AB c8]
 by_cases c10:o.1=10
 ·obtain⟨l,h1,h2,h3⟩:=APC v hM
  rw[AA c10,h1];exact⟨_,_,rfl,.sta c10 l h2 h3⟩
 rw[AB c10]
 by_cases c6:o.1=6
 ·rw[AA c6,X8 v,A9]
  by_cases h1:N1 g.2.1 o.2.1 false=0
  rotate_left
  ·rw[AA h1];exact⟨_,_,rfl,.eqa c6 h1⟩
  rw[AB (I4 h1),X8 v,A9]
  by_cases h2:N1 g.2.1 o.2.2.1 false=0
  rotate_left
  ·rw[AA h2];exact⟨_,_,rfl,.eqb c6 h1 h2⟩
  obtain⟨_,x0,x1⟩:=X9 v h1
  obtain⟨_,y0,y1⟩:=X9 v h2
  rw[AB (I4 h2),lY v x0 x1,A9,lY v y0 y1,A9]
  have:=oW.equ c6 h1 h2
  refine⟨_,_, ?_,this⟩
  by_cases h3:DW g o.2.1=DW g o.2.2.1
  ·rw[AA h3,AA h3];rfl
  ·rw[AB h3,AB h3];rfl
 rw[AB c6]
 have tail:∀ (hc:(2<=o.1/\o.1<=5)\/o.1=7\/o.1=9),∃ g' an,(Option.bind (CR g o.2.1 true) (fun qB=>
   if ¬qB=0 then
   Option.bind (AU g qB) (fun r22=>
   some ((r22.1,r22.2)))
   else Option.bind (BZ g o.2.1) (fun XQ=>
   if 0<=XQ/\XQ<(g.1.length:Int) then
   if o.1=7 then
   if 0<=(AG (o.2.1-1))/\(AG (o.2.1-1))<(g.2.1.length:Int) then
   if 0<=(AG (o.2.1-1))/\(AG (o.2.1-1))<(g.2.2.length:Int) then
   some (((g.1,g.2.1.set ((AG (o.2.1-1)).toNat) false,g.2.2.set ((AG (o.2.1-1)).toNat) (-1)),((0:Int),0#64)))
   else none
   else none
   else if o.1=9 then
   some ((g,(0,BitVec.ofInt 64 (AG ((AG ((256:Int)*(((gl (([],[]):((List Int)×(List (BitVec 64)))) g.1 XQ.toNat).1).length:Int)))+(((gl (([],[]):((List Int)×(List (BitVec 64)))) g.1 XQ.toNat).2).length:Int))))))
   else Option.bind (α:=Int ⊕ (Gh×An)) (if o.1=2 then
   some (Sum.inl ((((gl (([],[]):((List Int)×(List (BitVec 64)))) g.1 XQ.toNat).1).length:Int)))
   else if o.1=3 then
   some (Sum.inl ((((gl (([],[]):((List Int)×(List (BitVec 64)))) g.1 XQ.toNat).1).length:Int)))
   else some (Sum.inl ((((gl (([],[]):((List Int)×(List (BitVec 64)))) g.1 XQ.toNat).2).length:Int)))) (fun q=>match q with
   |Sum.inl j2=>(if o.2.2.1<0 then
   Option.bind (AU g 17) (fun r24=>
   some ((r24.1,r24.2)))
   else if o.2.2.1≥j2 then
   Option.bind (AU g 17) (fun r25=>
   some ((r25.1,r25.2)))
   else if o.1=4 then
   if 0<=o.2.2.1/\o.2.2.1<(((gl (([],[]):((List Int)×(List (BitVec 64)))) g.1 XQ.toNat).2).length:Int) then
   some ((g,(0,gl (0#64:(BitVec 64)) ((gl (([],[]):((List Int)×(List (BitVec 64)))) g.1 XQ.toNat).2) o.2.2.1.toNat)))
   else none
   else if o.1=5 then
   Option.bind (BZ g o.2.1) (fun uV=>
   if 0<=uV/\uV<(g.1.length:Int) then
   if 0<=o.2.2.1/\o.2.2.1<(((gl (([],[]):((List Int)×(List (BitVec 64)))) g.1 uV.toNat).2).length:Int) then
   some (((g.1.set uV.toNat ((gl (([],[]):((List Int)×(List (BitVec 64)))) g.1 uV.toNat).1,(gl (([],[]):((List Int)×(List (BitVec 64)))) g.1 uV.toNat).2.set o.2.2.1.toNat (BitVec.ofInt 64 o.2.2.2)),g.2),(0,0#64)))
   else none
   else none)
   else if o.1=3 then
   Option.bind (CR g o.2.2.2 false) (fun qC=>
   if ¬qC=0 then
   Option.bind (AU g qC) (fun r28=>
   some ((r28.1,r28.2)))
   else Option.bind (BZ g o.2.1) (fun tZ=>
   if 0<=tZ/\tZ<(g.1.length:Int) then
   Option.bind (BZ g o.2.2.2) (fun r30=>
   if 0<=o.2.2.1/\o.2.2.1<(((gl (([],[]):((List Int)×(List (BitVec 64)))) g.1 tZ.toNat).1).length:Int) then
   some (((g.1.set tZ.toNat ((gl (([],[]):((List Int)×(List (BitVec 64)))) g.1 tZ.toNat).1.set o.2.2.1.toNat r30,(gl (([],[]):((List Int)×(List (BitVec 64)))) g.1 tZ.toNat).2),g.2),(0,0#64)))
   else none)
   else none))
   else if 0<=o.2.2.1/\o.2.2.1<(((gl (([],[]):((List Int)×(List (BitVec 64)))) g.1 XQ.toNat).1).length:Int) then
   if (gl (0:Int) ((gl (([],[]):((List Int)×(List (BitVec 64)))) g.1 XQ.toNat).1) o.2.2.1.toNat)=(-1) then
   some ((g,(0,0#64)))
   else Option.bind (EP g) (fun s7=>
   if s7=0 then
   Option.bind (AU g 15) (fun r32=>
   some ((r32.1,r32.2)))
   else if 0<=(AG (s7-1))/\(AG (s7-1))<(g.2.1.length:Int) then
   if 0<=(AG (s7-1))/\(AG (s7-1))<(g.2.2.length:Int) then
   some (((g.1,g.2.1.set ((AG (s7-1)).toNat) true,g.2.2.set ((AG (s7-1)).toNat) (gl (0:Int) ((gl (([],[]):((List Int)×(List (BitVec 64)))) g.1 XQ.toNat).1) o.2.2.1.toNat)),(0,BitVec.ofInt 64 s7)))
   else none
   else none)
   else none)
   |Sum.inr b1=>some b1)
   else none)))=some (g',an)/\oW g o g' an:=by
  intro hc
  rw[X8 v,A9]
  by_cases e:N1 g.2.1 o.2.1 true=0
  rotate_left
  ·rw[AA e];exact⟨_,_,rfl,.nH hc e⟩
  obtain⟨x0,x1,hu⟩:=cP e
  have hr:=dQ v e
  have H8:=v.nd _ hr.1 hr.2
  have e1:gl (([],[]):((List Int)×(List (BitVec 64)))) g.1 (DW g o.2.1).toNat=nd g (DW g o.2.1):=rfl
  rw[AB (I4 e),lY v (by omega) x1,A9,AA hr,e1]
  by_cases c7:o.1=7
  ·rw[AA c7,AD (e:=o.2.1-1) (by omega) (by omega),AA (by omega),AA (by omega)]
   exact⟨_,_,rfl,.drp c7 e⟩
  rw[AB c7]
  by_cases c9:o.1=9
  ·rw[AA c9,AD (e:=(256:Int)*((nd g (DW g o.2.1)).1.length:Int)) (by omega) (by omega),AD (by omega) (by omega)]
   exact⟨_,_,rfl,.shp c9 e⟩
  rw[AB c9]
  have hc' :2<=o.1/\o.1<=5:=by omega
  have A1D:(if o.1=2 then
    (some (Sum.inl (((nd g (DW g o.2.1)).1.length:Int))):Option (Int ⊕ (Gh×An)))
    else if o.1=3 then
    some (Sum.inl (((nd g (DW g o.2.1)).1.length:Int)))
    else some (Sum.inl (((nd g (DW g o.2.1)).2.length:Int))))=some (Sum.inl (if o.1=2\/o.1=3 then ((nd g (DW g o.2.1)).1.length:Int) else ((nd g (DW g o.2.1)).2.length:Int))):=by
   by_cases d2:o.1=2
   ·rw[AA d2,AA (.inl d2)]
   by_cases d3:o.1=3
   ·rw[AB d2,AA d3,AA (.inr d3)]
   ·rw[AB d2,AB d3,AB (by omega)]
  rw[A1D,A9]
  simp only
  by_cases h1:o.2.2.1<0
  ·rw[AA h1];exact⟨_,_,rfl,.idx hc' e (by omega)⟩
  rw[AB h1]
  by_cases h2:o.2.2.1≥(if o.1=2\/o.1=3 then ((nd g (DW g o.2.1)).1.length:Int) else ((nd g (DW g o.2.1)).2.length:Int))
  ·rw[AA h2];exact⟨_,_,rfl,.idx hc' e (by omega)⟩
  rw[AB h2]
  by_cases d4:o.1=4
  ·rw[AB (by omega)] at h2
   rw[AA d4,AA (by omega)]
   exact⟨_,_,rfl,.rd d4 e (by omega) (by omega)⟩
  rw[AB d4]
  by_cases d5:o.1=5
  ·rw[AB (by omega)] at h2
   rw[AA d5,A9,AA hr,e1,AA (by omega)]
   exact⟨_,_,rfl,.wd d5 e (by omega) (by omega)⟩
  rw[AB d5]
  rw[AA (by omega)] at h2
  by_cases d3:o.1=3
  ·rw[AA d3,X8 v,A9]
   by_cases hh:N1 g.2.1 o.2.2.2 false=0
   rotate_left
   ·rw[AA hh];exact⟨_,_,rfl,.wrh d3 e (by omega) (by omega) hh⟩
   obtain⟨_,y0,y1⟩:=X9 v hh
   rw[AB (I4 hh),A9,AA hr,lY v y0 y1,A9,e1,AA (by omega)]
   exact⟨_,_,rfl,.wr d3 e (by omega) (by omega) hh⟩
  have d2:o.1=2:=by omega
  rw[AB d3,AA (by omega)]
  by_cases hw:gl 0 (nd g (DW g o.2.1)).1 o.2.2.1.toNat= -1
  ·rw[AA hw];exact⟨_,_,rfl,.rr0 d2 e (by omega) (by omega) hw⟩
  rw[AB hw]
  rcases AE3 v with ⟨i,hi,hu,hj,hf⟩|⟨hf,pA⟩
  ·rw[hf,A9,AB (by omega),AD (e:=(i:Int)+1-1) (by omega) (by omega),AA (by omega),AA (by omega),show ((i:Int)+1-1).toNat=i from by omega]
   exact⟨_,_,rfl,.rr d2 e (by omega) (by omega) hw i hi hu hj⟩
  ·rw[pA,A9,AA rfl]
   exact⟨_,_,rfl,.rrf d2 e (by omega) (by omega) hw hf⟩
 by_cases c7:o.1=7
 ·rw[AA c7,AA c7,A9];exact tail (by omega)
 rw[AB c7]
 by_cases c9:o.1=9
 ·rw[AA c9,AA c9,A9];exact tail (by omega)
 rw[AB c9]
 by_cases c2:o.1=2
 ·rw[AA c2,AA c2,A9];exact tail (by omega)
 rw[AB c2]
 by_cases c3:o.1=3
 ·rw[AA c3,AA c3,A9];exact tail (by omega)
 rw[AB c3]
 by_cases c4:o.1=4
 ·rw[AA c4,AA c4,A9];exact tail (by omega)
 rw[AB c4]
 by_cases c5:o.1=5
 ·rw[AA c5,A9];exact tail (by omega)
 rw[AB c5]
 exact⟨_,_,rfl,.bad (by omega)⟩
theorem oW.gv {M:Nat} {g:Gh} (v:GV M g) {o:Op} {g' :Gh} {an:An} (d:oW g o g' an):GV (M+1) g' :=by
 have hul:=v.ul
 have hrl:=v.rl
 have vS:=v.nn
 have same:GV (M+1) g:=⟨v.ul,v.rl,by omega,v.nd,v.rt,v.un⟩
 have put:∀ {i:Nat} {x:Int},i<32->0<=x->x<g.1.length->GV (M+1) (g.1,g.2.1.set i true,g.2.2.set i x):=by
  intro i x hi x0 x1
  refine⟨by simp only[ER];exact hul,by simp only[ER];exact hrl,by simp only;omega,v.nd,fun j hj hu=> ?_,fun j hj hu=> ?_⟩
  ·simp only at hu ⊢
   rw[D0 (by omega)] at hu ⊢
   split
   ·exact⟨x0,x1⟩
   ·rename_i hn;rw[AB hn] at hu;exact v.rt j hj hu
  ·simp only at hu ⊢
   rw[D0 (by omega)] at hu ⊢
   split at hu
   ·cases hu
   ·rename_i hn;rw[AB hn];exact v.un j hj hu
 have ATN:∀ {k:Int} {y:Nd},0<=k->k<g.1.length->(y.1.length<=15/\y.2.length<=32/\∀ j:Nat,j<y.1.length→-1<=gl 0 y.1 j/\gl 0 y.1 j<g.1.length)->GV (M+1) (g.1.set k.toNat y,g.2):=by
  intro k y k0 k1 hy
  refine⟨hul,hrl,by simp only[ER];omega,fun i i0 i1=> ?_,fun i hi hu=>by simp only[ER];exact v.rt i hi hu,v.un⟩
  simp only[ER] at i1
  have e:nd (g.1.set k.toNat y,g.2) i=if i=k then y else nd g i:=by
   unfold nd
   simp only
   rw[D0 (by omega)]
   by_cases c_:i=k
   ·rw[AA c_,AA (by rw[c_])]
   ·rw[AB c_,AB (by omega)]
  rw[e]
  simp only[ER]
  split
  ·exact hy
  ·exact v.nd i i0 i1
 cases d with
 |bad c=>exact same
 |size c hs=>exact same
 |APA c hs hf=>exact same
 |all c hs i hi hu hj=>
  refine⟨by simp only[ER];exact hul,by simp only[ER];exact hrl,by simp only[I5,HW];omega,fun k k0 k1=> ?_,fun j hj hu=> ?_,fun j hj hu=> ?_⟩
  ·simp only[I5,HW] at k1 ⊢
   by_cases hk:k=g.1.length
   ·have e:nd (g.1++ [(List.replicate o.2.1.toNat (-1),List.replicate o.2.2.1.toNat 0#64)],g.2.1.set i true,g.2.2.set i (g.1.length:Int)) k=(List.replicate o.2.1.toNat (-1),List.replicate o.2.2.1.toNat 0#64):=by
     unfold nd
     simp only
     rw[hk,DZ (by rw[I5,HW];omega),AIQ (by omega)]
     simp
    rw[e]
    simp only[ZP]
    have:=hs.1
    have:=hs.2
    refine⟨by omega,by omega,fun j hj=> ?_⟩
    rw[RS hj];omega
   ·have e:nd (g.1++ [(List.replicate o.2.1.toNat (-1),List.replicate o.2.2.1.toNat 0#64)],g.2.1.set i true,g.2.2.set i (g.1.length:Int)) k=nd g k:=by
     unfold nd
     simp only
     rw[XA (by omega)]
    rw[e]
    have:=v.nd k k0 (by omega)
    exact⟨this.1,this.2.1,fun j hj=>by have:=this.2.2 j hj;omega⟩
  ·simp only[I5,HW] at hu ⊢
   rw[D0 (by omega)] at hu ⊢
   split
   ·omega
   ·rename_i hn;rw[AB hn] at hu;have:=v.rt j hj hu;omega
  ·simp only at hu ⊢
   rw[D0 (by omega)] at hu ⊢
   split at hu
   ·cases hu
   ·rename_i hn;rw[AB hn];exact v.un j hj hu
 |col c=>exact same
 |sta c l hl hm=>exact same
 |eqa c e=>exact same
 |eqb c e f=>exact same
 |equ c e f=>exact same
 |nH c e=>exact same
 |drp c e=>
  obtain⟨x0,x1,hu⟩:=cP e
  refine⟨by simp only[ER];exact hul,by simp only[ER];exact hrl,by simp only;omega,v.nd,fun j hj hu=> ?_,fun j hj hu=> ?_⟩
  ·simp only at hu ⊢
   rw[D0 (by omega)] at hu ⊢
   split at hu
   ·cases hu
   ·rename_i hn;rw[AB hn];exact v.rt j hj hu
  ·simp only at hu ⊢
   rw[D0 (by omega)] at hu ⊢
   split
   ·rfl
   ·rename_i hn;rw[AB hn] at hu;exact v.un j hj hu
 |shp c e=>exact same
 |idx c e hk=>exact same
 |rd c e k0 k1=>exact same
 |rr0 c e k0 k1 hw=>exact same
 |rrf c e k0 k1 hw hf=>exact same
 |rr c e k0 k1 hw i hi hu hj=>
  have hr:=dQ v e
  have:=(v.nd _ hr.1 hr.2).2.2 o.2.2.1.toNat (by omega)
  exact put hi (by omega) (by omega)
 |wrh c e k0 k1 hh=>exact same
 |wr c e k0 k1 hh=>
  have hr:=dQ v e
  have hn:=v.nd _ hr.1 hr.2
  have hc:=(X9 v hh).1
  refine ATN hr.1 hr.2 ⟨by simp only[ER];exact hn.1,hn.2.1,fun j hj=> ?_⟩
  simp only[ER] at hj ⊢
  rw[D0 (by omega)]
  split
  ·exact hc
  ·exact hn.2.2 j hj
 |wd c e k0 k1=>
  have hr:=dQ v e
  have hn:=v.nd _ hr.1 hr.2
  exact ATN hr.1 hr.2 ⟨hn.1,by simp only[ER];exact hn.2.1,hn.2.2⟩
theorem ASB:KV=some (([],List.replicate 32 false,List.replicate 32 (-1)):Gh):=by
 unfold KV
 rw[AA (by omega),AA (by omega)]
 refine (AR (fun k (st:Int×List Int)=>st=((k:Int),List.replicate k (-1)++List.replicate (32-k) 0)) (fun b=>b=(([],List.replicate 32 false,List.replicate 32 (-1)):Gh)) 32 ?_ ?_ (s:=(0,List.replicate (32:Int).toNat (0:Int))) rfl).elim fun b hb=>by rw[hb.1,hb.2]
 ·rintro k st hk rfl
  left
  simp only[ZP,I5,I3]
  rw[AA (by omega),AA (by omega),AD (e:=(k:Int)+1) (by omega) (by omega)]
  refine⟨_,rfl, ?_⟩
  rw[List.set_append_right _ _ (by rw[ZP];exact ED _),ZP,Nat.sub_self,show 32-k=(32-(k+1))+1 from by omega,List.replicate_succ,List.set_cons_zero,List.replicate_succ',I6]
  rfl
 ·rintro st rfl
  simp only[ZP]
  rw[AB (by omega)]
  exact⟨_,rfl,rfl⟩
theorem GV.new:GV 0 (([],List.replicate 32 false,List.replicate 32 (-1)):Gh):=by
 refine⟨by simp,by simp,ED _,fun k k0 k1=>by simp at k1;omega,fun i hi hu=> ?_,fun i hi _=>RS hi⟩
 simp only at hu
 rw[RS hi] at hu
 cases hu
abbrev ASC (c:Cf) (s n:Int):Hs:=(c,(s,List.replicate (n*sz s).toNat 0#64,List.replicate n.toNat (-1, -1, -1)),List.replicate c.2.1.length [],0,[],(List.replicate 32 false,List.replicate 32 0#64),0,(0,0,0,0,0,0,0,0,0),false)
theorem AII {c:Cf} (g:Good c) {s n:Int} (hs:3<=s/\s<=8) (hn:2<=n/\n<=64):HV 0 (ASC c s n):=by
 have hg:=g.n
 have yW:(List.replicate c.2.1.length ([]:List AH)).flatten=[]:=by simp
 have NL:∀ x:Int,0<=x->x<n->fr (List.replicate n.toNat ((-1, -1, -1):Fr)) x=(-1, -1, -1):=by
  intro x x0 x1
  unfold fr
  exact RS (by omega)
 have hN:OkN (List.replicate c.2.1.length ([]:List AH)):=by
  refine⟨fun k hk=> ?_,fun k hk i hi=> ?_,by rw[yW];exact dR⟩
  ·rw[ZP] at hk
   rw[RS hk];exact List.Pairwise.nil
  ·rw[ZP] at hk
   rw[RS hk] at hi;cases hi
 have VK:∀ {i:AH},i∉(List.replicate c.2.1.length ([]:List AH)).flatten:=by intro i hi;rw[yW] at hi;cases hi
 have O4:∀ y,¬Slot (s,List.replicate (n*sz s).toNat 0#64,List.replicate n.toNat (-1, -1, -1)) (List.replicate c.2.1.length ([]:List AH)) y:=by
  rintro y ⟨i,hi,_⟩;exact VK hi
 refine⟨g, ?_,by simp,S9 _⟩
 refine { hb:=⟨⟨VS.new hs hn,by simp only[ZP];exact hg,E_.2 ⟨hN,fun i hi=>absurd hi VK⟩,fun x x0 x1 hx=> ?_⟩,fun i hi=>absurd hi VK⟩,seq:=fun i hi=>absurd hi VK,n0:=S9 _,ref:=fun y hy=>absurd hy (O4 y),ro:=⟨by simp,by simp,fun i hi _=>RS hi⟩,root:=fun i hi hu=> ?_,rv:=⟨List.Pairwise.nil,fun x hx=>by cases hx⟩,ins:=fun f g y hi=> ?_,rem:=fun y hy=>absurd hy (O4 y) }
 ·simp only[ZP] at x1
  simp only at hx
  rw[NL x x0 (by omega)] at hx
  exact absurd rfl hx
 ·simp only at hu
  rw[RS hi] at hu;cases hu
 ·obtain⟨x,hx,_⟩:=hi;cases hx
theorem APE {c:Cf} (g:Good c) {s n:Int} (hs:3<=s/\s<=8) (hn:2<=n/\n<=64):KP c s n=some (ASC c s n,0):=by
 have hg:=g.n
 unfold KP
 rw[qL g,A9,AB (I4 rfl),AR4 hs hn,A9]
 simp only
 rw[AB (I4 trivial),AA (by simp only[U7];omega),AA (by simp only[o8];omega)]
 unfold OK
 rw[AA (by omega),AA (by omega)]
 rfl
theorem AGG {u:List Int} (hu:u.length<=32) {d:List Int×Int} (hd:RJ d):∃ r d',BF u d=some (r,u,d')/\RJ d' :=by
 unfold BF
 by_cases c1:(u.length:Int)=0
 ·obtain⟨r,d1,e1,_,_,k1⟩:=EZ hd (n:=35) (by omega) (by omega)
  rw[AA c1,e1]
  exact⟨_,_,rfl,k1⟩
 ·obtain⟨r,d1,e1,_,_,k1⟩:=EZ hd (n:=12) (by omega) (by omega)
  rw[AB c1,e1,A9]
  by_cases c2:r=0
  ·obtain⟨r2,d2,e2,_,_,k2⟩:=EZ k1 (n:=35) (by omega) (by omega)
   rw[AA c2,e2]
   exact⟨_,_,rfl,k2⟩
  ·obtain⟨r2,d2,e2,r0,r1,k2⟩:=EZ k1 (n:=(u.length:Int)) (by omega) (by omega)
   rw[AB c2,e2,A9,AA ⟨r0,r1⟩]
   exact⟨_,_,rfl,k2⟩
theorem ASD {g:Gh} (hg:g.2.1.length=32) {d:List Int×Int} (hd:RJ d):∃ o d',J2 d g=some (o,d')/\RJ d' :=by
 suffices hh:∃ b,J2 d g=some b/\RJ b.2 by
  obtain⟨b,h1,h2⟩:=hh;exact⟨b.1,b.2,h1,h2⟩
 unfold J2
 refine AR (fun k (st:Int×List Int)=>st.1=(k:Int)/\st.2.length<=k) _ 32 ?_ ?_ ⟨rfl,ED _⟩
 ·rintro k ⟨kk,u⟩ hk ⟨HK,hl⟩
  simp only at HK hl
  subst HK
  left
  simp only[I3]
  rw[AA (by omega),AA (by omega),AD (e:=(k:Int)+1) (by omega) (by omega)]
  split
  ·rw[AA (by simp only[HW];omega)]
   exact⟨_,rfl,rfl,by simp only[I5,HW];omega⟩
  ·exact⟨_,rfl,rfl,by simp only;omega⟩
 ·rintro⟨kk,u⟩ ⟨HK,hl⟩
  simp only at HK hl
  subst HK
  simp only
  rw[AB (by omega)]
  refine WV ?_
  obtain⟨r,d1,e1,r0,r1,k1⟩:=EZ hd (n:=20) (by omega) (by omega)
  rw[e1,A9,AA (by simp only[N3,U7];omega)]
  have nx:∀ {dd:List Int×Int},RJ dd->∀ (n:Int),0<n->n<=300->∃ r d',AF dd n=some (r,d')/\0<=r/\r<n/\RJ d' :=fun h n h0 h1=>EZ h h0 (by omega)
  have tail:∀ (j1:Op),∃ x,(if j1.1=1 then
    Option.bind (AF d1 4) (fun r2=>
    Option.bind (AF r2.2 4) (fun r3=>
    if 0<=r3.1/\r3.1<(([3,3,8,17]:List Int).length:Int) then
    Option.bind (AF r3.2 (gl (0:Int) ([3,3,8,17]:List Int) r3.1.toNat)) (fun r4=>
    some (((j1.1,r2.1,r4.1,j1.2.2.2),r4.2)))
    else none))
    else Option.bind (α:=Bool ⊕ (Op×((List Int)×Int))) (if j1.1=2 then
    some (Sum.inl (decide (j1.1=2)))
    else some (Sum.inl (decide (j1.1=4)))) (fun q=>match q with
    |Sum.inl j2=>(if j2=true then
    Option.bind (BF u d1) (fun r5=>
    Option.bind (AF r5.2.2 3) (fun r6=>
    some (((j1.1,r5.1,r6.1,j1.2.2.2),r6.2))))
    else if j1.1=3 then
    Option.bind (BF u d1) (fun r7=>
    Option.bind (AF r7.2.2 3) (fun r8=>
    Option.bind (BF r7.2.1 r8.2) (fun r9=>
    some (((j1.1,r7.1,r8.1,r9.1),r9.2.2)))))
    else if j1.1=5 then
    Option.bind (BF u d1) (fun LZ=>
    Option.bind (AF LZ.2.2 3) (fun VL=>
    Option.bind (AF VL.2 256) (fun QU=>
    some (((j1.1,LZ.1,VL.1,QU.1),QU.2)))))
    else if j1.1=6 then
    Option.bind (BF u d1) (fun UF=>
    Option.bind (BF UF.2.1 UF.2.2) (fun tX=>
    some (((j1.1,UF.1,tX.1,j1.2.2.2),tX.2.2))))
    else if j1.1=7 then
    if j1.1=7 then
    Option.bind (BF u d1) (fun sZ=>
    some (((j1.1,sZ.1,j1.2.2),sZ.2.2)))
    else some ((j1,d1))
    else if j1.1=9 then
    Option.bind (BF u d1) (fun tY=>
    some (((j1.1,tY.1,j1.2.2),tY.2.2)))
    else some ((j1,d1)))
    |Sum.inr b1=>some b1))=some x/\RJ x.2:=by
   intro j1
   by_cases c1:j1.1=1
   ·rw[AA c1]
    obtain⟨a2,d2,e2,_,_,k2⟩:=nx k1 4 (by omega) (by omega)
    rw[e2,A9]
    obtain⟨a3,d3,e3,a30,a31,k3⟩:=nx k2 4 (by omega) (by omega)
    rw[e3,A9,AA (by simp only[N3,U7];omega)]
    have hq:3<=gl (0:Int) [3,3,8,17] a3.toNat/\gl (0:Int) [3,3,8,17] a3.toNat<=17:=by
     have:a3=0\/a3=1\/a3=2\/a3=3:=by omega
     rcases this with rfl|rfl|rfl|rfl <;> simp [gl]
    obtain⟨a4,d4,e4,_,_,k4⟩:=nx k3 (gl (0:Int) [3,3,8,17] a3.toNat) (by omega) (by omega)
    simp only
    rw[e4]
    exact⟨_,rfl,k4⟩
   rw[AB c1]
   have e0:(if j1.1=2 then
    (some (Sum.inl (decide (j1.1=2))):Option (Bool ⊕ (Op×((List Int)×Int))))
    else some (Sum.inl (decide (j1.1=4))))=some (Sum.inl (decide (j1.1=2\/j1.1=4))):=by
    by_cases c2:j1.1=2
    ·rw[AA c2,HX c2,HX (show j1.1=2\/j1.1=4 from .inl c2)]
    ·rw[AB c2]
     have:decide (j1.1=4)=decide (j1.1=2\/j1.1=4):=by rw[o7];omega
     rw[this]
   rw[e0,A9]
   simp only
   obtain⟨a5,d5,e5,k5⟩:=AGG (u:=u) (by omega) k1
   by_cases c2:j1.1=2\/j1.1=4
   ·rw[HX c2,AA rfl,e5,A9]
    obtain⟨a6,d6,e6,_,_,k6⟩:=nx k5 3 (by omega) (by omega)
    simp only
    rw[e6]
    exact⟨_,rfl,k6⟩
   rw[MV c2,AB (by decide),e5]
   simp only[A9]
   obtain⟨a6,d6,e6,_,_,k6⟩:=nx k5 3 (by omega) (by omega)
   by_cases c3:j1.1=3
   ·obtain⟨a7,d7,e7,k7⟩:=AGG (u:=u) (by omega) k6
    rw[AA c3,e6,A9,e7]
    exact⟨_,rfl,k7⟩
   rw[AB c3]
   by_cases c5:j1.1=5
   ·obtain⟨a7,d7,e7,_,_,k7⟩:=nx k6 256 (by omega) (by omega)
    rw[AA c5,e6,A9,e7]
    exact⟨_,rfl,k7⟩
   rw[AB c5]
   by_cases c6:j1.1=6
   ·obtain⟨a7,d7,e7,k7⟩:=AGG (u:=u) (by omega) k5
    rw[AA c6,e7]
    exact⟨_,rfl,k7⟩
   rw[AB c6]
   by_cases c7:j1.1=7
   ·rw[AA c7,AA c7]
    exact⟨_,rfl,k5⟩
   rw[AB c7]
   by_cases c9:j1.1=9
   ·rw[AA c9]
    exact⟨_,rfl,k5⟩
   rw[AB c9]
   exact⟨_,rfl,k1⟩
  split
  ·split
   ·rw[A9];exact tail _
   ·rw[A9];exact tail _
  ·rw[A9];exact tail _
inductive Hst (h0:Hs) (g0:Gh):Nat->Hs->Gh->Prop
 |z:Hst h0 g0 0 h0 g0
 |s {m:Nat} {h:Hs} {g:Gh} {o:Op} {h' :Hs} {an:An} {g' :Gh} {an' :An} (a:Hst h0 g0 m h g) (d:DoR h o h' an) (e:an.1≠18) (gd:oW g o g' an'):Hst h0 g0 (m+1) h' g'
abbrev AZ1:Gh:=([],List.replicate 32 false,List.replicate 32 (-1))
theorem Hst.ok {h0:Hs} {g0:Gh} (v:HV 0 h0) (w:GV 0 g0) {m:Nat} {h:Hs} {g:Gh} (a:Hst h0 g0 m h g):HV (257*m) h/\GV m g/\h.1=h0.1/\h.2.2.2.2.2.2.2.2=h0.2.2.2.2.2.2.2.2/\h.2.1.1=h0.2.1.1/\h.2.1.2.2.length=h0.2.1.2.2.length:=by
 induction a with
 |z=>exact⟨v,w,rfl,rfl,rfl,rfl⟩
 |s a d e gd ih=>
  obtain⟨i1,i2,i3,i4,i5,i6⟩:=ih
  obtain⟨j1,j2,j3,j4,j5⟩:=d.hv i1
  exact⟨j1.mono (by omega),gd.gv i2,by rw[j3,i3],by rw[j2 e,i4],by rw[j4,i5],by rw[j5,i6]⟩
def Hp (c:Cf) (h:Hs) (g:Gh):Prop:=Good c/\∃ (s n:Int) (m:Nat),(3<=s/\s<=4)/\(6<=n/\n<=20)/\m<=56/\Hst (ASC c s n) AZ1 m h g
theorem Hp.ok {c:Cf} {h:Hs} {g:Gh} (p:Hp c h g):HV 20000 h/\GV 56 g/\h.1=c/\h.2.2.2.2.2.2.2.2=false/\(3<=h.2.1.1/\h.2.1.1<=4)/\(6<=h.2.1.2.2.length/\h.2.1.2.2.length<=20):=by
 obtain⟨hc,s,n,m,hs,hn,hm,st⟩:=p
 obtain⟨g1,g2,g3,g4,g5,g6⟩:=st.ok (AII hc (by omega) (by omega)) GV.new
 refine⟨g1.mono (by omega),⟨g2.ul,g2.rl,by have:=g2.nn;omega,g2.nd,g2.rt,g2.un⟩,g3,g4,by rw[g5];exact hs, ?_⟩
 rw[g6]
 simp only[ZP]
 omega
theorem AL2 {c:Cf} (hc:Good c) {d:List Int×Int} (hd:RJ d):∃ h g d',GL d c=some (h,g,d')/\Hp c h g/\RJ d' :=by
 suffices hh:∃ b,GL d c=some b/\Hp c b.1 b.2.1/\RJ b.2.2 by
  obtain⟨b,h1,h2⟩:=hh;exact⟨b.1,b.2.1,b.2.2,h1,h2⟩
 unfold GL NP
 obtain⟨r1,d1,e1,a0,a1,k1⟩:=EZ hd (n:=2) (by omega) (by omega)
 obtain⟨r2,d2,e2,b0,b1,k2⟩:=EZ k1 (n:=15) (by omega) (by omega)
 rw[e1,A9,e2,A9,A9]
 simp only
 rw[AD (e:=(3:Int)+r1) (by omega) (by omega),AD (e:=(6:Int)+r2) (by omega) (by omega),APE hc (by omega) (by omega),A9,ASB,A9]
 obtain⟨r3,d3,e3,c0,c1,k3⟩:=EZ k2 (n:=50) (by omega) (by omega)
 rw[e3,A9]
 simp only
 rw[AD (e:=(6:Int)+r3) (by omega) (by omega)]
 have hv0:=AII hc (s:=3+r1) (n:=6+r2) (by omega) (by omega)
 refine AR (fun k (st:Int×(List Int×Int)×Hs×Gh)=>st.1=(6+r3)-(k:Int)/\RJ st.2.1/\∃ m,m<=k/\Hst (ASC c (3+r1) (6+r2)) AZ1 m st.2.2.1 st.2.2.2) _ (6+r3).toNat ?_ ?_ ⟨by simp,k3,0,ED _,.z⟩
 ·rintro k ⟨kk,dd,h,g⟩ hk ⟨HK,hdd,m,hm,st⟩
  simp only at HK hdd st
  obtain⟨g1,g2,g3,g4, -⟩:=st.ok hv0 GV.new
  simp only
  rw[AA (by omega)]
  unfold JU
  rw[A9]
  simp only
  by_cases cl:dd.2<(dd.1.length:Int)
  ·left
   obtain⟨o,d4,e4,k4⟩:=ASD g2.ul hdd
   obtain⟨h',an,e5,do5⟩:=AZ0 g1 (by omega) g4 o
   rw[HX cl,AA rfl,e4,A9,e5,A9]
   simp only
   rw[AD (e:=kk-1) (by omega) (by omega)]
   by_cases c18:an.1=18
   ·rw[AA c18]
    exact⟨_,rfl,by simp only;omega,k4,m,by omega,st⟩
   ·obtain⟨g',an',e6,do6⟩:=AW5 g2 (by omega) o
    rw[AB c18,e6]
    exact⟨_,rfl,by simp only;omega,k4,m+1,by omega,.s st do5 c18 do6⟩
  ·right
   rw[MV cl,AB (by decide)]
   exact⟨_,rfl,⟨hc,3+r1,6+r2,m,by omega,by omega,by omega,st⟩,hdd⟩
 ·rintro⟨kk,dd,h,g⟩ ⟨HK,hdd,m,hm,st⟩
  simp only at HK hdd st
  simp only
  rw[AB (by omega)]
  exact⟨_,rfl,⟨hc,3+r1,6+r2,m,by omega,by omega,by omega,st⟩,hdd⟩
theorem ASE {d:List Int×Int} (hd:RJ d):∃ c h g d',KW d=some (h,g,d')/\Hp c h g/\RJ d' :=by
 obtain⟨c,d1,e1,g1,k1⟩:=AKF hd
 obtain⟨h,g,d2,e2,g2,k2⟩:=AL2 g1 k1
 unfold KW
 rw[e1,A9]
 simp only
 rw[e2]
 exact⟨c,h,g,d2,rfl,g2,k2⟩
def cQ (g:Nat->Nat):Nat->Nat->Nat
 |0,_=>0
 |k+1,n=>g (n%256)+256*cQ g k (n / 256)
def P1 (m:Nat):Nat->Nat
 |0=>0
 |k+1=>m+256*P1 m k
theorem nL (a b:Nat):a &&& b=((a%256) &&& (b%256))+256*((a / 256) &&& (b / 256)):=by
 have h1:=Nat.and_mod_two_pow (a:=a) (b:=b) (n:=8)
 have h2:=Nat.and_div_two_pow (a:=a) (b:=b) (n:=8)
 have h3:=Nat.mod_add_div (a &&& b) 256
 rw[show (256:Nat)=2 ^ 8 from rfl]
 rw[<-h1,←h2,←show (256:Nat)=2 ^ 8 from rfl]
 exact h3.symm
theorem AAM {m:Nat} (hm:m<256):∀ (k n:Nat),n &&& P1 m k=cQ (fun b=>b &&& m) k n
 |0,n=>Nat.and_zero n
 |k+1,n=>by
  rw[nL,P1,cQ,←AAM hm k (n / 256)]
  rw[AAW,YM hm,Nat.add_mul_div_left _ _ (by decide),fV hm,I7]
theorem AGH {m s:Nat} (hm:m<256) (hs:∀ r,((r / s)%256) &&& m=((r%256) / s) &&& m):∀ (k n:Nat),(n / s) &&& P1 m k=cQ (fun b=>(b / s) &&& m) k n
 |0,n=>Nat.and_zero _
 |k+1,n=>by
  rw[nL,P1,cQ,←AGH hm hs k (n / 256)]
  rw[AAW,YM hm,Nat.add_mul_div_left _ _ (by decide),fV hm,I7,hs,AE9,AE9,fY s 256]
theorem AAN (f g:Nat->Nat):∀ (k n:Nat),cQ f k n+cQ g k n=cQ (fun b=>f b+g b) k n
 |0,_=>rfl
 |k+1,n=>by
  rw[cQ,cQ,cQ,←AAN f g k (n / 256)];omega
theorem tT {f g:Nat->Nat} (hg:∀ b,b<256->g b<256):∀ (k n:Nat),cQ f k (cQ g k n)=cQ (fun b=>f (g b)) k n
 |0,_=>rfl
 |k+1,n=>by
  have h:=hg (n%256) (P9 _ (by decide))
  rw[cQ,cQ,cQ,AAW,YM h,Nat.add_mul_div_left _ _ (by decide),fV h,I7,tT hg k]
theorem xW {f g:Nat->Nat} (h:∀ b,b<256->f b=g b):∀ (k n:Nat),cQ f k n=cQ g k n
 |0,_=>rfl
 |k+1,n=>by
  rw[cQ,cQ,h _ (P9 _ (by decide)),xW h k]
theorem APF {f:Nat->Nat} (h:∀ b,b<256->f b<256):∀ (k n:Nat),cQ f k n<256 ^ k
 |0,_=>by simp [cQ]
 |k+1,n=>by
  have h1:=h (n%256) (P9 _ (by decide))
  have h2:=APF h k (n / 256)
  rw[cQ,Nat.pow_succ];omega
def ASF:Nat->Nat->Prop
 |0,n=>n=0
 |k+1,n=>(n%256)%16<=4/\(n%256) / 16<=4/\ASF k (n / 256)
theorem AE4:∀ (k n:Nat),ASF k n->(n / 16+n) &&& P1 15 k=cQ (fun b=>(b / 16+b)%16) k n
 |0,n,_=>Nat.and_zero _
 |k+1,n,h=>by
  obtain⟨h1,h2,h3⟩:=h
  have h4:(n / 256)%16<=4:=by
   cases k with
   |zero=>have:n / 256=0:=h3;omega
   |succ k=>have:=h3.1;omega
  have e1:(n / 16+n) / 256=(n / 256) / 16+n / 256:=by omega
  have e2:(n / 16+n)%256%16=((n%256) / 16+n%256)%16:=by omega
  have e3:∀ x:Nat,x &&& 15=x%16:=fun x=>AIN x 4
  rw[nL,P1,cQ,←AE4 k (n / 256) h3]
  rw[AAW,Nat.add_mul_div_left _ _ (by decide),e1,show 15%256=15 from rfl,show 15 / 256=0 from rfl,I7,e3,e2]
theorem AIJ {f:Nat->Nat} (h:∀ b,b<256->f b<256/\(f b)%16<=4/\(f b) / 16<=4):∀ (k n:Nat),ASF k (cQ f k n)
 |0,_=>rfl
 |k+1,n=>by
  obtain⟨h1,h2,h3⟩:=h (n%256) (P9 _ (by decide))
  rw[cQ,ASF,AAW,YM h1,Nat.add_mul_div_left _ _ (by decide),fV h1,I7]
  exact⟨h2,h3,AIJ h k _⟩
def P2 (n k:Nat):Nat:=((List.range k).filter fun i=>n.testBit i).length
theorem APG (n k:Nat):P2 n (8+k)=P2 (n%256) 8+P2 (n / 256) k:=by
 unfold P2
 rw[List.range_add,x7,I5]
 congr 1
 ·congr 1
  refine nN fun i hi=> ?_
  rw[show (256:Nat)=2 ^ 8 from rfl,Nat.testBit_mod_two_pow]
  simp [l9.1 hi]
 ·rw[List.filter_map,WW]
  congr 1
  refine nN fun i hi=> ?_
  simp only[Function.comp_apply]
  rw[show (256:Nat)=2 ^ 8 from rfl,Nat.testBit_div_two_pow,Nat.add_comm]
def pcA (b:Nat):Nat:=((b / 2) &&& 85)+(b &&& 85)
def pcB (b:Nat):Nat:=((b / 4) &&& 51)+(b &&& 51)
def pcC (b:Nat):Nat:=(b / 16+b)%16
theorem lZ:∀ b:Fin 256,pcA b.1<256/\pcB (pcA b.1)<256/\(pcB (pcA b.1))%16<=4/\(pcB (pcA b.1)) / 16<=4/\pcC (pcB (pcA b.1))=P2 b.1 8/\P2 b.1 8<=8:=by decide+kernel
theorem AW6:∀ r:Fin 512,((r.1 / 2)%256) &&& 85=((r.1%256) / 2) &&& 85:=by decide+kernel
theorem AW7:∀ r:Fin 1024,((r.1 / 4)%256) &&& 51=((r.1%256) / 4) &&& 51:=by decide+kernel
theorem AZ2 (r:Nat):((r / 2)%256) &&& 85=((r%256) / 2) &&& 85:=by
 have h:=AW6 ⟨r%512,P9 _ (by decide)⟩
 simp only at h
 rw[show (r%512 / 2)%256=(r / 2)%256 from by omega,show r%512%256=r%256 from by omega] at h
 exact h
theorem AZ3 (r:Nat):((r / 4)%256) &&& 51=((r%256) / 4) &&& 51:=by
 have h:=AW7 ⟨r%1024,P9 _ (by decide)⟩
 simp only at h
 rw[show (r%1024 / 4)%256=(r / 4)%256 from by omega,show r%1024%256=r%256 from by omega] at h
 exact h
theorem AZ4 (n:Nat):
  let y:=((n / 2) &&& P1 85 8)+(n &&& P1 85 8)
  let z:=((y / 4) &&& P1 51 8)+(y &&& P1 51 8)
  y=cQ pcA 8 n/\z=cQ (fun b=>pcB (pcA b)) 8 n/\(z / 16+z) &&& P1 15 8=cQ (fun b=>P2 b 8) 8 n:=by
 intro y z
 have hy:y=cQ pcA 8 n:=by
  show ((n / 2) &&& P1 85 8)+(n &&& P1 85 8)=_
  rw[AGH (by decide) AZ2,AAM (by decide),AAN];rfl
 have hz:z=cQ (fun b=>pcB (pcA b)) 8 n:=by
  show ((y / 4) &&& P1 51 8)+(y &&& P1 51 8)=_
  rw[AGH (by decide) AZ3,AAM (by decide),AAN,hy]
  exact tT (f:=pcB) (fun b hb=>(lZ ⟨b,hb⟩).1) 8 n
 refine⟨hy,hz, ?_⟩
 rw[hz,AE4 8 _ (AIJ (fun b hb=>⟨(lZ ⟨b,hb⟩).2.1,(lZ ⟨b,hb⟩).2.2.1,(lZ ⟨b,hb⟩).2.2.2.1⟩) 8 n)]
 rw[tT (f:=fun b=>(b / 16+b)%16) (fun b hb=>(lZ ⟨b,hb⟩).2.1) 8 n]
 exact xW (fun b hb=>(lZ ⟨b,hb⟩).2.2.2.2.1) 8 n
theorem ASG (n:Nat):P2 n 64=P2 (n%256) 8+(P2 (n / 256%256) 8+(P2 (n / 256 / 256%256) 8+(P2 (n / 256 / 256 / 256%256) 8+(P2 (n / 256 / 256 / 256 / 256%256) 8+(P2 (n / 256 / 256 / 256 / 256 / 256%256) 8+(P2 (n / 256 / 256 / 256 / 256 / 256 / 256%256) 8+P2 (n / 256 / 256 / 256 / 256 / 256 / 256 / 256%256) 8)))))):=by
 rw[show 64=8+(8+(8+(8+(8+(8+(8+(8+0))))))) from rfl]
 simp only[APG]
 simp [P2]
def l7:List Nat->Nat
 | []=>0
 |d::r=>d+256*l7 r
def APH:List Nat->List Nat->List Nat
 | [],y=>y
 |x,[]=>x
 |a::x,b::y=>(a+b)::APH x y
theorem qO:∀ (x y:List Nat),l7 x+l7 y=l7 (APH x y)
 | [],y=>by rw[APH,l7,I7]
 |a::x,[]=>by simp [APH,l7]
 |a::x,b::y=>by
  have:=qO x y
  rw[APH,l7,l7,l7,←this];omega
theorem X_ {d:Nat} {r:List Nat} (h:d<256):l7 (d::r) / 256=l7 r:=by
 rw[l7];omega
theorem ASH {d:Nat} {r:List Nat} (h:d<128):l7 (d::r)%128=d:=by
 rw[l7];omega
theorem API:∀ {l:List Nat},(∀ d∈l,d<256)->l7 l<256 ^ l.length
 | [],_=>by simp [l7]
 |d::r,h=>by
  have h1:=h d (by simp)
  have h2:=API (l:=r) fun x hx=>h x (S7 _ hx)
  rw[l7,N3,Nat.pow_succ];omega
theorem AIK {c:Nat} (hc:c<128):∀ {l:List Nat},(∀ d∈l,d<256)->l7 (l++ [c])<256 ^ l.length*128
 | [],_=>by simp [l7];omega
 |d::r,h=>by
  have h1:=h d (by simp)
  have h2:=AIK hc (l:=r) fun x hx=>h x (S7 _ hx)
  rw[nQ,l7,N3,Nat.pow_succ];omega
theorem ASI {p0 p1 p2 p3 p4 p5 p6 p7:Nat} (h0:p0<=8) (h1:p1<=8) (h2:p2<=8) (h3:p3<=8) (h4:p4<=8) (h5:p5<=8) (h6:p6<=8) (h7:p7<=8) {v s t:Nat} (hv:v=l7 [p0,p1,p2,p3,p4,p5,p6,p7])
  (hs:s=v+v / 256) (ht:t=s+s / 65536):
  s<18446744073709551616/\t<18446744073709551616/\t+t / 4294967296<9223372036854775808/\(t+t / 4294967296)%128=p0+(p1+(p2+(p3+(p4+(p5+(p6+p7)))))):=by
 have es:s=l7 [p0+p1,p1+p2,p2+p3,p3+p4,p4+p5,p5+p6,p6+p7,p7]:=by
  rw[hs,hv,X_ (by omega),qO];rfl
 have e2:s / 65536=l7 [p2+p3,p3+p4,p4+p5,p5+p6,p6+p7,p7]:=by
  rw[show 65536=256*256 from rfl,←AE9,es,X_ (by omega),X_ (by omega)]
 have et:t=l7 [p0+p1+(p2+p3),p1+p2+(p3+p4),p2+p3+(p4+p5),p3+p4+(p5+p6),p4+p5+(p6+p7),p5+p6+p7,p6+p7,p7]:=by
  rw[ht,e2,es,qO];rfl
 have e3:t / 4294967296=l7 [p4+p5+(p6+p7),p5+p6+p7,p6+p7,p7]:=by
  rw[show 4294967296=256*256*256*256 from rfl,←AE9,←AE9,←AE9,et,X_ (by omega),X_ (by omega),X_ (by omega),X_ (by omega)]
 have e4:t+t / 4294967296=l7 [p0+p1+(p2+p3)+(p4+p5+(p6+p7)),p1+p2+(p3+p4)+(p5+p6+p7),p2+p3+(p4+p5)+(p6+p7),p3+p4+(p5+p6)+p7,p4+p5+(p6+p7),p5+p6+p7,p6+p7,p7]:=by
  rw[e3,et,qO];rfl
 have lt8:∀ {l:List Nat},l.length=8->(∀ d∈l,d<256)->l7 l<18446744073709551616:=by
  intro l hl hd
  have:=API hd
  rw[hl] at this;exact this
 refine⟨?_, ?_, ?_, ?_⟩
 ·rw[es]
  refine lt8 rfl fun d hd=> ?_
  simp only[F7,rB,or_false] at hd
  rcases hd with rfl|rfl|rfl|rfl|rfl|rfl|rfl|rfl <;> omega
 ·rw[et]
  refine lt8 rfl fun d hd=> ?_
  simp only[F7,rB,or_false] at hd
  rcases hd with rfl|rfl|rfl|rfl|rfl|rfl|rfl|rfl <;> omega
 ·rw[e4]
  refine Nat.lt_of_lt_of_eq (m:=256 ^ 7*128) (AIK (c:=p7) (by omega) (l:=[p0+p1+(p2+p3)+(p4+p5+(p6+p7)),p1+p2+(p3+p4)+(p5+p6+p7),p2+p3+(p4+p5)+(p6+p7),p3+p4+(p5+p6)+p7,p4+p5+(p6+p7),p5+p6+p7,p6+p7]) fun d hd=> ?_) (by decide)
  simp only[F7,rB,or_false] at hd
  rcases hd with rfl|rfl|rfl|rfl|rfl|rfl|rfl <;> omega
 ·rw[e4,ASH (by omega)];omega
theorem AIL {f:Nat->Nat} {c:Nat} (h:∀ b,b<256->f b<=c):∀ (k n:Nat),cQ f k n<=P1 c k
 |0,_=>ED _
 |k+1,n=>by
  have h1:=h (n%256) (P9 _ (by decide))
  have h2:=AIL h k (n / 256)
  rw[cQ,P1];omega
theorem SZ {α β:Type} {x y:β} {K:β->Option α} {r:Option α} (h:x=y) (hk:K y=r):mK x K=r:=by
 subst h;exact hk
theorem AE5 {x m:BitVec 64} {n s d M:Nat} (hx:x.toNat=n) (hs:2 ^ s=d) (hm:m.toNat=M):(x >>> s) &&& m=BitVec.ofNat 64 ((n / d) &&& M):=by
 apply xY
 have C7:=m.isLt
 rw[hm] at C7
 rw[rC,AAX,oY,hx,hm,AAV,hs,YM (Nat.and_lt_two_pow _ C7)]
theorem bv_and {x m:BitVec 64} {n M:Nat} (hx:x.toNat=n) (hm:m.toNat=M):x &&& m=BitVec.ofNat 64 (n &&& M):=by
 apply xY
 have C7:=m.isLt
 rw[hm] at C7
 rw[rC,oY,hx,hm,YM (Nat.and_lt_two_pow _ C7)]
theorem bv_add {x y:BitVec 64} {a b:Nat} (hx:x.toNat=a) (hy:y.toNat=b) (h:a+b<18446744073709551616):(x+y).toNat=a+b:=by
 rw[BitVec.toNat_add,hx,hy,YM h]
theorem TZ {a:Nat} (h:a<18446744073709551616):(BitVec.ofNat 64 a).toNat=a:=by
 rw[oY,YM h]
theorem AIM {x:BitVec 64} {n s d:Nat} (hx:x.toNat=n) (hs:2 ^ s=d):(x >>> s).toNat=n / d:=by
 rw[AAX,hx,AAV,hs]
theorem AL3 (w:BitVec 64):(ACW w).length=P2 w.toNat 64:=rfl
theorem A1E (w:BitVec 64):GR w=some ((ACW w).length:Int):=by
 have hn:=w.isLt
 rw[AL3,ASG]
 obtain⟨l1,l2,l3⟩:=AZ4 w.toNat
 generalize hA1:(w.toNat / 2) &&& P1 85 8=A1 at l1 l2 l3
 generalize hA2:w.toNat &&& P1 85 8=A2 at l1 l2 l3
 have hYl:A1+A2<18446744073709551616:=by
  rw[l1];exact APF (fun b hb=>(lZ ⟨b,hb⟩).1) 8 _
 generalize hB1:((A1+A2) / 4) &&& P1 51 8=B1 at l2 l3
 generalize hB2:(A1+A2) &&& P1 51 8=B2 at l2 l3
 have hZ:B1+B2<=4919131752989213764:=by
  rw[l2]
  exact AIL (c:=68) (fun b hb=>by have:=(lZ ⟨b,hb⟩).2.2;simp only at this;omega) 8 _
 have hV:((B1+B2) / 16+(B1+B2)) &&& P1 15 8=l7 [P2 (w.toNat%256) 8,P2 (w.toNat / 256%256) 8,P2 (w.toNat / 256 / 256%256) 8,P2 (w.toNat / 256 / 256 / 256%256) 8,P2 (w.toNat / 256 / 256 / 256 / 256%256) 8,P2 (w.toNat / 256 / 256 / 256 / 256 / 256%256) 8,P2 (w.toNat / 256 / 256 / 256 / 256 / 256 / 256%256) 8,P2 (w.toNat / 256 / 256 / 256 / 256 / 256 / 256 / 256%256) 8]:=by
  rw[l3];rfl
 have c8:∀ m,P2 (m%256) 8<=8:=fun m=>(lZ ⟨m%256,P9 _ (by decide)⟩).2.2.2.2.2
 generalize hv:((B1+B2) / 16+(B1+B2)) &&& P1 15 8=V at hV
 obtain⟨f1,f2,f3,f4⟩:=ASI (c8 _) (c8 _) (c8 _) (c8 _) (c8 _) (c8 _) (c8 _) (c8 _) hV rfl rfl
 rw[<-f4]
 have hVl:V<18446744073709551616:=by omega
 generalize hs:V+V / 256=S at f1 f2 f3 f4
 generalize ht:S / 65536=T2 at f2 f3 f4
 clear l1 l2 l3 hV f4 c8
 have e15:P1 15 8=1085102592571150095:=by decide
 have e51:P1 51 8=3689348814741910323:=by decide
 have e85:P1 85 8=6148914691236517205:=by decide
 rw[e85] at hA1 hA2
 rw[e51] at hB1 hB2
 rw[e15] at hv
 unfold GR
 rw[AA trivial]
 refine SZ (AE5 (n:=w.toNat) (d:=2) (M:=6148914691236517205) rfl (by decide) (by decide)) ?_
 rw[hA1]
 refine SZ (bv_and (n:=w.toNat) (M:=6148914691236517205) rfl (by decide)) ?_
 rw[hA2,AA trivial]
 have a12:=bv_add (TZ (a:=A1) (by omega)) (TZ (a:=A2) (by omega)) hYl
 refine SZ (AE5 (n:=A1+A2) (d:=4) (M:=3689348814741910323) a12 (by decide) (by decide)) ?_
 rw[hB1]
 refine SZ (bv_and (n:=A1+A2) (M:=3689348814741910323) a12 (by decide)) ?_
 rw[hB2,AA trivial]
 have b12:=bv_add (TZ (a:=B1) (by omega)) (TZ (a:=B2) (by omega)) (by omega)
 have b16:=AIM (s:=(4#64).toNat) b12 (show 2 ^ (4#64).toNat=16 by decide)
 refine SZ (y:=BitVec.ofNat 64 ((B1+B2) / 16+(B1+B2))) (xY (by rw[bv_add b16 b12 (by omega),TZ (by omega)])) ?_
 refine SZ (bv_and (n:=(B1+B2) / 16+(B1+B2)) (M:=1085102592571150095) (TZ (by omega)) (by decide)) ?_
 rw[hv,AA trivial,AA trivial]
 have v0:=TZ hVl
 have v8:=AIM (s:=(8#64).toNat) v0 (show 2 ^ (8#64).toNat=256 by decide)
 have vs:=bv_add v0 v8 (by omega)
 rw[hs] at vs
 refine SZ (y:=BitVec.ofNat 64 T2) (xY (by rw[AIM (s:=(16#64).toNat) vs (show 2 ^ (16#64).toNat=65536 by decide),ht,TZ (by omega)])) ?_
 refine SZ (y:=BitVec.ofNat 64 (S+T2)) (xY (by rw[bv_add vs (TZ (by omega)) f2,TZ (by omega)])) ?_
 rw[AA trivial]
 have t0:=TZ f2
 have t32:=AIM (s:=(32#64).toNat) t0 (show 2 ^ (32#64).toNat=4294967296 by decide)
 have tt:=bv_add t0 t32 (by omega)
 refine SZ (y:=((S+T2+(S+T2) / 4294967296:Nat):Int)) (by rw[tt,AD (by omega) (by omega)]) ?_
 have:=sX 7 (by decide) (a:=((S+T2+(S+T2) / 4294967296:Nat):Int)) (by omega) (by omega)
 rw[show ((2:Int) ^ 7-1)=127 from rfl,show ((2:Int) ^ 7)=128 from rfl] at this
 rw[this,show (128:Int)=((128:Nat):Int) from rfl,←Int.natCast_emod]
theorem ASJ {s:Sp} (hn:s.2.2.length<=64):XX s=some ((s.2.2.length:Int)-(DA s.2.2).length):=by
 obtain⟨w,h1,h2⟩:=ANE (s:=s) (by omega)
 unfold XX
 rw[h1,AK7 (by omega) h2]
 have:=AKA w
 simp only[A9]
 rw[A1E]
 simp only[A9,WW]
 rw[AD (by omega) (by omega)]
theorem ASK {c:Cf} (h:T0 c=0):Good c:=by
 unfold T0 at h
 by_cases h1:i_ c.1
 rotate_left
 ·rw[AA h1] at h;omega
 rw[AB (I4 h1)] at h
 by_cases h2:1<=c.2.1.length/\c.2.1.length<=4
 rotate_left
 ·rw[AA h2] at h;omega
 rw[AB (I4 h2)] at h
 by_cases h3:fe c c.2.1.length 0=0
 rotate_left
 ·rw[AA h3] at h;exact absurd h h3
 rw[AB (I4 h3)] at h
 by_cases h4:∀ b:Int,1<=b->b<c.2.1.length->Aim c b
 rotate_left
 ·rw[AA h4] at h;omega
 rw[AB (I4 h4)] at h
 by_cases h5:cG c
 ·rw[AA h5] at h;omega
 refine⟨h1,h2,fun b b0 b1=> ?_,h4,h5⟩
 have h6:=AA4 c _ _ h3 b b0 (by omega)
 unfold XZ at h6
 by_cases h7:VV (ru c b).1
 rotate_left
 ·rw[AA h7] at h6;omega
 rw[AB (I4 h7)] at h6
 by_cases h8:F9 (ru c b) b ((c.2.1.length:Int)-1)
 ·rw[AA h8] at h6;omega
 rw[AB h8] at h6
 by_cases h9:FD (ru c b) b ((c.2.1.length:Int)-1)
 ·rw[AA h9] at h6;omega
 exact⟨h7,h8,h9⟩
theorem AE6 {c:Cf} (g:Good c):I1 c=some (cmp c):=by
 have hn:=g.n
 unfold I1
 rw[g.check,A9,AA rfl,AD (e:=(c.2.1.length:Int)-1) (by omega) (by omega),AA (by omega)]
 have hr:gl (0,0,0,0) c.2.1 ((c.2.1.length:Int)-1).toNat=ru c ((c.2.1.length:Int)-1):=rfl
 rw[hr]
 unfold cmp
 congr 1
 rw[o7]
 exact ADU (g.ru _ (by omega) (by omega)).1
theorem ASL {c:Cf} (g:Good c) {b n:Int} (b0:0<=b) (b1:b<c.2.1.length) (n0:1<=n) (n1:n<=64):U3 c b n=some (jB c b n,0):=by
 have hn:=g.n.2
 have hr:gl (0,0,0,0) c.2.1 b.toNat=ru c b:=rfl
 have hv:=(g.ru b b0 b1).1
 unfold U3 jB
 rw[g.check,A9,AB (by simp),AB (by omega),AB (by omega),AB (by omega),AB (by omega),AA (by omega),hr]
 generalize (ru c b).1=x at hv
 rcases hv with rfl|⟨h0,h1⟩
 ·unfold M_
  rw[P0 (by omega)]
  simp only[A9]
  rw[AB (by decide),AB (by omega),AB (by omega),AA (by decide),AA trivial]
  rfl
 ·rw[AG6 h0 h1 n0 n1,AB (by omega)]
  rfl
theorem tU {c:Cf} {v:Bool} (hr:I1 c=some v) {s:Sp} {q:Rows} (h:Qq s q) {i:AH} {n:Int} (w0:0<=i.2.2.2.2) (w1:i.2.2.2.2<=16384) (n0:1<=n) (n1:n<=48):
  CZ c s q i n=some (decide (qM v s q i n)):=by
 suffices hh:∃ b,CZ c s q i n=some b/\(b=true↔GrF v s.2.2.length (used s) (lrg (sz s.1) q.flatten) (SM s i n) (cl (sz s.1) i.2.2.2.2)) by
  obtain⟨b,h1,h2⟩:=hh
  rw[h1]
  congr 1
  by_cases hG:qM v s q i n
  ·rw[HX hG];exact h2.2 hG
  ·rw[MV hG]
   cases b with
   |true=>exact absurd (h2.1 rfl) hG
   |false=>rfl
 have hn:=h.vs.n.2
 obtain⟨z1,z2⟩:=LF h.vs.sh
 have c1:=O0 z1 (show 0<=i.2.2.2.2+n by omega)
 have c2:=O0 z1 w0
 have c3:=AHQ (z:=sz s.1) (by omega) (show i.2.2.2.2<=i.2.2.2.2+n by omega)
 obtain⟨l0,l1⟩:=h.lrg
 have u0:=AA6 s
 have yW:(DA s.2.2).length<=s.2.2.length:=S4 s.2.2 (-1)
 have hu:(s.2.2.length:Int)-(DA s.2.2).length=used s:=rfl
 have h1:q.length<=1000000:=by have:=h.len;omega
 have h2:∀ x∈q,x.length<=1000000:=fun x hx=>by have:=h.AS3 x hx;omega
 have h3:∀ i∈q.flatten,0<=i.2.2.2.2/\i.2.2.2.2<=1000000:=fun i hi=>by have:=h.w i hi;omega
 unfold CZ
 rw[AKC h.vs w0 w1 (by omega) (by omega),A9]
 have hk:cl (sz s.1) (i.2.2.2.2+n)-cl (sz s.1) i.2.2.2.2=SM s i n:=rfl
 rw[hk]
 have hk0:0<=SM s i n:=by omega
 have hk1:SM s i n<=20000:=by omega
 generalize SM s i n=k at hk hk0 hk1 ⊢
 by_cases e:k=0
 ·rw[AA e];exact⟨_,rfl,YB rfl (.inl e)⟩
 rw[AB e,ASJ hn,hr,AD5 h.vs h1 h2 h3,XY h.vs w0 (by omega)]
 simp only[A9]
 rw[hu]
 have hub:used s<=64:=by omega
 generalize used s=u at hu u0 hub ⊢
 generalize Go.Proofs.YthmiilamegpllaaGreat.lrg (sz s.1) q.flatten=L at l0 l1 ⊢
 generalize hF:cl (sz s.1) i.2.2.2.2=f at c2 ⊢
 rw[AD (e:=u+k) (by omega) (by omega),AD (e:=(s.2.2.length:Int)-(u+k)) (by omega) (by omega),AD (e:=f+k) (by omega) (by omega)]
 generalize (s.2.2.length:Int)=F at hu hn ⊢
 unfold GrF
 cases v with
 |true=>
  rw[AA rfl]
  refine⟨_,rfl, ?_⟩
  rw[N2]
  constructor
  ·intro h;exact .inr (.inl ⟨rfl,by omega⟩)
  ·rintro (h|⟨_,h⟩|⟨h,_⟩)
   ·exact absurd h e
   ·omega
   ·cases h
 |false=>
  rw[AB (show ¬false=true by decide)]
  by_cases g0:F-(u+k)≥0
  ·rw[AA g0]
   refine⟨_,rfl, ?_⟩
   rw[N2]
   constructor
   ·intro h;refine .inr (.inr ⟨rfl, ?_, ?_⟩) <;> split at h <;> omega
   ·rintro (h|⟨h,_⟩|⟨_,h1,h2⟩)
    ·exact absurd h e
    ·cases h
    ·split <;> omega
  ·rw[AB g0]
   refine⟨_,rfl,YA (by decide) ?_⟩
   rintro (h|⟨h,_⟩|⟨_,h1,h2⟩)
   ·exact absurd h e
   ·cases h
   ·omega
def AE7 (c:Cf) (s:Sp) (q:Rows) (n k:Int):Prop:=Good c/\BV s q/\q.length=c.2.1.length/\(0<=n/\n<=4294967295)/\(1<=k/\k<=48)/\∀ i∈q.flatten,i.1<n
theorem BV.qq {s:Sp} {q:Rows} (h:BV s q):Qq s q:=by
 have hc:=count_le h.vs h.ok.fit h.ok.nodup
 have oB:=VS.O2 h.vs
 refine⟨h.vs,by have:=h.n;omega,fun x hx=>by have:=lT hc x hx;omega,fun i hi=> ?_⟩
 have:=(h.ok.fit i hi).1.1
 omega
theorem ASM {q:Rows} (hq:q.length<=1000000) (hx:q.flatten.length<=1000000):XU q=some q.flatten:=by
 unfold XU
 refine (AR (fun k (st:List AH×Int)=>st=((q.take k).flatten,(k:Int))) (fun b=>b=q.flatten) q.length ?_ ?_ (s:=([],0)) (by simp)).elim fun b hb=>by rw[hb.1,hb.2]
 ·rintro k st hk rfl
  left
  have hs:=F_ q k hk
  have hl:(q.take k).flatten.length+(gl [] q k).length<=q.flatten.length:=by
   rw[hs,I5,I5];omega
  simp only[I3]
  rw[AA (by omega),AA (by omega),AA (by omega),AD (by omega) (by omega)]
  refine⟨_,rfl, ?_⟩
  rw[FV (d:=[]) q k hk,List.flatten_append]
  simp
 ·rintro st rfl
  simp only
  rw[AB (by omega),SP]
  exact⟨_,rfl,rfl⟩
structure Ca (c:Cf):Prop where
 n:c.2.1.length<=1000
 sz:c.1.size<=1000000
 sh:Sh c
theorem AGI {c:Cf} (ca:Ca c) {s:Sp} (hI:StI s) {q:Rows} (hq:q.length<=1000000) (TE:∀ x∈q,x.length<=9223372036854775807) (n k:Int):
  (AE7 c s q n k/\HG c s q n k=some ((H7 c s q n k).1,(H7 c s q n k).2,0))\/(¬AE7 c s q n k/\HG c s q n k=some (0,(0,0,0,0,0),1)):=by
 unfold HG
 rw[AD3 ca.n ca.sh,A9]
 by_cases c1:T0 c=0
 rotate_left
 ·rw[AA c1];exact .inr ⟨fun h=>c1 h.1.T0,rfl⟩
 have g:=ASK c1
 rw[AB (I4 c1)]
 obtain⟨b,dB,uK⟩:=AKM hI (q:=q) TE
 rw[dB,A9]
 by_cases c2:BV s q
 rotate_left
 ·have:b=false:=by
   cases b with
   |true=>exact absurd (uK.1 rfl) c2
   |false=>rfl
  rw[AA (by rw[this];decide)];exact .inr ⟨fun h=>c2 h.2.1,rfl⟩
 have hbt:=uK.2 c2
 have hx:q.flatten.length<=1000000:=by
  have:=count_le c2.vs c2.ok.fit c2.ok.nodup
  omega
 rw[AB (by rw[hbt];decide)]
 by_cases c3:(q.length:Int)=(c.2.1.length:Int)
 rotate_left
 ·rw[AA c3];exact .inr ⟨fun h=>c3 (by have:=h.2.2.1;omega),rfl⟩
 rw[AB (I4 c3)]
 by_cases c4:n<0
 ·rw[AA c4];exact .inr ⟨fun h=>by have:=h.2.2.2.1;omega,rfl⟩
 rw[AB c4]
 by_cases c5:n>4294967295
 ·rw[AA c5];exact .inr ⟨fun h=>by have:=h.2.2.2.1;omega,rfl⟩
 rw[AB c5]
 by_cases c6:k<1
 ·rw[AA c6];exact .inr ⟨fun h=>by have:=h.2.2.2.2.1;omega,rfl⟩
 rw[AB c6]
 by_cases c7:k>48
 ·rw[AA c7];exact .inr ⟨fun h=>by have:=h.2.2.2.2.1;omega,rfl⟩
 rw[AB c7,ASM hq hx,A9]
 suffices hh:∃ x,AM (σ:=Int) (β:=Int×AH×Int) _ 0=some x/\((AE7 c s q n k/\x=((H7 c s q n k).1,(H7 c s q n k).2,0))\/(¬AE7 c s q n k/\x=(0,(0,0,0,0,0),1))) by
  obtain⟨x,h1,h2⟩:=hh
  rcases h2 with ⟨h2,rfl⟩|⟨h2,rfl⟩
  ·exact .inl ⟨h2,h1⟩
  ·exact .inr ⟨h2,h1⟩
 refine AR (fun m (st:Int)=>st=(m:Int)/\∀ j:Nat,j<m->(gl ((0,0,0,0,0):AH) q.flatten j).1<n) _ q.flatten.length ?_ ?_ (s:=0) ⟨rfl,fun j hj=>by omega⟩
 ·rintro m st hm ⟨rfl,hj⟩
  rw[AA (by omega),AA (by omega)]
  simp only[I3]
  by_cases c8:(gl ((0,0,0,0,0):AH) q.flatten m).1≥n
  ·rw[AA c8]
   refine .inr ⟨_,rfl,.inr ⟨fun h=> ?_,rfl⟩⟩
   have:=h.2.2.2.2.2 _ (BR (d:=((0,0,0,0,0):AH)) hm);omega
  ·rw[AB c8,AD (by omega) (by omega)]
   refine .inl ⟨_,rfl,rfl,fun j YQ => ?_⟩
   by_cases hjm:j=m
   ·subst hjm;omega
   ·exact hj j (by omega)
 ·rintro st ⟨rfl,hj⟩
  rw[AB (by omega)]
  have RL:AE7 c s q n k:=⟨g,c2,by omega,by omega,by omega,fun i hi=>by
   obtain⟨j,YQ,rfl⟩:=F5 (d:=((0,0,0,0,0):AH)) hi
   exact hj j YQ⟩
  refine WV ⟨_, ?_,.inl ⟨RL,rfl⟩⟩
  have h:=c2.qq
  have hn:=h.vs.n
  have hg:=g.n
  have hx6:∀ x∈q,x.length<=1000000:=fun x hx=>by have:=h.AS3 x hx;omega
  have dU:=AAI g (b:=0) (n:=s.2.2.length) (by omega) (by omega) (by omega) (by omega)
  unfold H7
  rw[ASL g (b:=0) (n:=s.2.2.length) (by omega) (by omega) (by omega) (by omega),A9]
  simp only[show (0:Int).toNat=0 from rfl]
  rw[AB (I4 trivial),show LS q 0=_ from AA8 hx6 (b:=0) (by omega),A9]
  have hr:gl (0,0,0,0) c.2.1 0=ru c 0:=rfl
  rw[hr]
  have DC:Option.bind (CZ c s q (n,0, -1, -1,0) k) (fun r5=>if r5=true then some ((2,(n,0, -1, -1,0),0):Int×AH×Int) else some ((3,(0,0,0,0,0),0):Int×AH×Int))=some ((if qM (cmp c) s q (n,0, -1, -1,0) k then (2,(n,0, -1, -1,0)) else ((3,(0,0,0,0,0)):Int×AH)).1,(if qM (cmp c) s q (n,0, -1, -1,0) k then (2,(n,0, -1, -1,0)) else ((3,(0,0,0,0,0)):Int×AH)).2,0):=by
   rw[tU (AE6 g) h (i:=(n,0, -1, -1,0)) (by simp) (by simp) (by omega) (by omega),A9]
   by_cases hG:qM (cmp c) s q (n,0, -1, -1,0) k
   ·rw[HX hG,AA hG];rfl
   ·rw[MV hG,AB hG];rfl
  have ADV:(if 0<=(0:Int)/\(0:Int)<(c.2.1.length:Int) then
    if ¬(ru c 0).2.1=0 then
    if 0<=(0:Int)/\(0:Int)<(q.length:Int) then
    if 0<=(0:Int)/\(0:Int)<(c.2.1.length:Int) then
    if ((gl ([]:List AH) q 0).length:Int)≥(ru c 0).2.1 then
    some ((3,(0,0,0,0,0),0):Int×AH×Int)
    else Option.bind (CZ c s q (n,0,(-1),(-1),0) k) (fun r5=>
    if r5=true then
    some ((2,(n,0,(-1),(-1),0),0):Int×AH×Int)
    else some ((3,(0,0,0,0,0),0)))
    else none
    else none
    else Option.bind (CZ c s q (n,0,(-1),(-1),0) k) (fun r6=>
    if r6=true then
    some ((2,(n,0,(-1),(-1),0),0):Int×AH×Int)
    else some ((3,(0,0,0,0,0),0)))
    else none)=some ((if (ru c 0).2.1≠0/\(ru c 0).2.1<=(gl [] q 0).length then (3,(0,0,0,0,0))
    else if qM (cmp c) s q (n,0, -1, -1,0) k then (2,(n,0, -1, -1,0)) else ((3,(0,0,0,0,0)):Int×AH)).1,(if (ru c 0).2.1≠0/\(ru c 0).2.1<=(gl [] q 0).length then (3,(0,0,0,0,0))
    else if qM (cmp c) s q (n,0, -1, -1,0) k then (2,(n,0, -1, -1,0)) else ((3,(0,0,0,0,0)):Int×AH)).2,0):=by
   rw[AA (by omega),DC]
   by_cases c1:(ru c 0).2.1=0
   ·have e:¬((ru c 0).2.1≠0/\(ru c 0).2.1<=(gl [] q 0).length):=fun h=>h.1 c1
    rw[AB (I4 c1),AB e]
   ·rw[AA c1,AA (by omega),AA (by omega)]
    by_cases c2:((gl ([]:List AH) q 0).length:Int)≥(ru c 0).2.1
    ·rw[AA c2,AA ⟨c1,c2⟩]
    ·have e:¬((ru c 0).2.1≠0/\(ru c 0).2.1<=(gl [] q 0).length):=fun h=>c2 h.2
     rw[AB c2,AB e]
  by_cases h0:gl [] q 0=[]
  ·have EB:¬opn c s q:=fun hh=>hh.1 h0
   have e1:(if gl ([]:List AH) q 0=[] then (((0,0,0,0,0):AH),false) else (gl ((0,0,0,0,0):AH) (gl [] q 0) ((gl [] q 0).length-1),true))=(((0,0,0,0,0):AH),false):=AA h0
   rw[e1,AB (show ¬((((0,0,0,0,0):AH),false):AH×Bool).2=true by decide),AB EB]
   exact ADV
  ·have e1:(if gl ([]:List AH) q 0=[] then (((0,0,0,0,0):AH),false) else (gl ((0,0,0,0,0):AH) (gl [] q 0) ((gl [] q 0).length-1),true))=(qN q,true):=AB h0
   have yU:=l8.2 h0
   have hy:qN q∈q.flatten:=nR.2 ⟨gl [] q 0,BR (by omega),BR (by omega)⟩
   have hyw:=h.w _ hy
   rw[e1,AA rfl,AO3 h.vs.sh _ dU.1 (by omega),A9]
   by_cases c1:jB c 0 s.2.2.length=0\/(qN q).2.2.2.2<jB c 0 s.2.2.length*sz s.1
   ·have EB:opn c s q:=⟨h0,c1⟩
    rw[HX c1,AA rfl,AA EB,tU (AE6 g) h (i:=qN q) hyw.1 hyw.2 (by omega) (by omega),A9]
    by_cases hG:qM (cmp c) s q (qN q) k
    ·rw[HX hG,AA hG];rfl
    ·rw[MV hG,AB hG];rfl
   ·have EB:¬opn c s q:=fun hh=>c1 hh.2
    rw[MV c1,AB (by decide),AB EB]
    exact ADV
end Go.Proofs.YthmiilamegpllaaGreat
