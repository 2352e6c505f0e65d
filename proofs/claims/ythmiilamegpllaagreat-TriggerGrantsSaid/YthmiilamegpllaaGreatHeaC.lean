import Derived.Test.YthmiilamegpllaaGreatSpD
set_option linter.unusedVariables false
set_option linter.unusedSimpArgs false
namespace Go.Proofs.YthmiilamegpllaaGreat
open Go Go.V3
theorem map_inj {α:Type} {l:List α} {f:α->Int} (h:(l.map f).Nodup) {x y:α} (hx:x∈l) (hy:y∈l) (he:f x=f y):x=y:=by
 obtain⟨i,hi,rfl⟩:=x5.1 hx
 obtain⟨j,hj,rfl⟩:=x5.1 hy
 have h1:(l.map f)[i]'(by rw[WW];exact hi)=(l.map f)[j]'(by rw[WW];exact hj):=by rw[qX,qX];exact he
 have:=(List.getElem_inj h).1 h1
 subst this;rfl
theorem ADG {q:Rows} (hq:q.length<=1000000) (hx:∀ x∈q,x.length<=1000000) (n:Int):
  ((∀ x∈q.flatten,x.1≠n)/\EN q n=some ((0,0,0,0,0),false))\/∃ i∈q.flatten,i.1=n/\EN q n=some (i,true):=by
 unfold EN
 have key:=ATA (q:=q) (d:=((0,0,0,0,0):AH)) (p:=fun i=>i.1=n) (so:=fun k=>(k:Int)) (si:=fun _ j=>(j:Int)) (res:=fun k j=>(gl ((0,0,0,0,0):AH) (gl [] q k) j,true)) (no:=(((0,0,0,0,0):AH),false)) (s0:=(0:Int)) rfl
  (out:=fun s1=>if s1<(q.length:Int) then
   if 0<=s1/\s1<(q.length:Int) then
   AM (σ:=Int) (β:=(Int ⊕ (AH×Bool))) (fun s2=>
   if s2<((gl ([]:(List AH)) q s1.toNat).length:Int) then
   if 0<=s2/\s2<((gl ([]:(List AH)) q s1.toNat).length:Int) then
   if ((gl ((0,0,0,0,0):AH) (gl ([]:(List AH)) q s1.toNat) s2.toNat).1)=n then
   some (Sum.inr (Sum.inr ((((gl ((0,0,0,0,0):AH) (gl ([]:(List AH)) q s1.toNat) s2.toNat).1,((gl ((0,0,0,0,0):AH) (gl ([]:(List AH)) q s1.toNat) s2.toNat).2).1,(((gl ((0,0,0,0,0):AH) (gl ([]:(List AH)) q s1.toNat) s2.toNat).2).2).1,((((gl ((0,0,0,0,0):AH) (gl ([]:(List AH)) q s1.toNat) s2.toNat).2).2).2)),true))))
   else some (Sum.inl (AG (s2+1)))
   else none
   else some (Sum.inr (Sum.inl (AG (s1+1))))) (0)
   else none
   else some (Sum.inr (((0,0,0,0,0),false))))
  (gT:=fun (k:Nat) s2=>if s2<((gl ([]:(List AH)) q k).length:Int) then
   if 0<=s2/\s2<((gl ([]:(List AH)) q k).length:Int) then
   if ((gl ((0,0,0,0,0):AH) (gl ([]:(List AH)) q k) s2.toNat).1)=n then
   some (Sum.inr (Sum.inr ((((gl ((0,0,0,0,0):AH) (gl ([]:(List AH)) q k) s2.toNat).1,((gl ((0,0,0,0,0):AH) (gl ([]:(List AH)) q k) s2.toNat).2).1,(((gl ((0,0,0,0,0):AH) (gl ([]:(List AH)) q k) s2.toNat).2).2).1,((((gl ((0,0,0,0,0):AH) (gl ([]:(List AH)) q k) s2.toNat).2).2).2)),true))))
   else some (Sum.inl (AG (s2+1)))
   else none
   else some (Sum.inr (Sum.inl (AG ((k:Int)+1)))))
  (fun k hk=>by simp only[I3];rw[AA (by omega),AA (by omega)];rfl)
  (fun k j hk hj=>by
   have hl:=hx (gl [] q k) (BR hk)
   simp only[I3]
   rw[AA (by omega),AA (by omega),AD (e:=(j:Int)+1) (by omega) (by omega)]
   rfl)
  (fun k hk=>by rw[AB (by omega),AD (by omega) (by omega)];rfl)
  (by rw[AB (by omega)])
 rcases key with ⟨h,e⟩|⟨k,j,hk,hj,hp,hb,e⟩
 ·exact .inl ⟨h,e⟩
 ·exact .inr ⟨_,nR.2 ⟨_,BR hk,BR hj⟩,hp,e⟩
def IsO (s:Sp) (q:Rows) (a:Int):Prop:=∃ i∈q.flatten,∃ p x,Obj s i p a x
structure HB (s:Sp) (q:Rows):Prop where
 bv:BV s q
 full:∀ i∈q.flatten,∃ os,Full s i os
theorem HB.fit {s:Sp} {q:Rows} (h:HB s q) {i:AH} (hi:i∈q.flatten):D5 s i/\1<=i.2.2.2.2:=h.bv.ok.fit i hi
theorem HB.uniq {s:Sp} {q:Rows} (h:HB s q) {i j:AH} (hi:i∈q.flatten) (hj:j∈q.flatten) (he:i.1=j.1):i=j:=map_inj h.bv.ok.nodup hi hj he
theorem lT {q:Rows} {n:Nat} (h:q.flatten.length<=n):∀ x∈q,x.length<=n:=by
 intro x hx
 have:x.length<=q.flatten.length:=by
  obtain⟨k,hk,rfl⟩:=x5.1 hx
  rw[<-DZ (d:=[]) hk,F_ q k hk,I5,I5]
  omega
 omega
theorem HB.lens {s:Sp} {q:Rows} (h:HB s q):q.length<=4/\q.flatten.length<=64/\∀ x∈q,x.length<=64:=by
 have:=count_le h.bv.vs h.bv.ok.fit h.bv.ok.nodup
 exact⟨h.bv.n.2,this,lT this⟩
theorem HB.find {s:Sp} {q:Rows} (h:HB s q) {i:AH} (hi:i∈q.flatten):EN q i.1=some (i,true):=by
 obtain⟨h1,h2,h3⟩:=h.lens
 rcases ADG (q:=q) (by omega) (fun x hx=>by have:=h3 x hx;omega) i.1 with ⟨h4,_⟩|⟨j,h4,h5,h6⟩
 ·exact absurd rfl (h4 i hi)
 ·rw[h.uniq hi h4 h5.symm];rw[h.uniq hi h4 h5.symm] at h6;exact h6
theorem Obj.IP {s:Sp} (h:VS s) {i:AH} (hf:D5 s i) {p a:Int} {x:Int×Int} (ho:Obj s i p a x):
  (0<=a/\a<s.2.1.length)/\(0<=a / sz s.1/\a / sz s.1<s.2.2.length)/\(fr s.2.2 (a / sz s.1)).1=i.1/\(fr s.2.2 (a / sz s.1)).2.1=i.2.1*4294967296+i.1:=by
 obtain⟨l,os,g⟩:=ho
 obtain⟨h1,_,h3,h4,h5⟩:=DD h hf g.has g.HJ.2.2.1 g.IP
 exact⟨h1,h3,h4,h5⟩
abbrev Hs:Type:=(ByteArray×List (Nat×Int×Int×Int)×Int)×Sp×Rows×Int×Ss×Ro×Int×(Int×Int×Int×Int×Int×Int×Int×Int×Int)×Bool
theorem ATF {h:Hs} (hb:HB h.2.1 h.2.2.1) {a:Int} (ha:IsO h.2.1 h.2.2.1 a):FT h a=some true:=by
 have hv:=hb.bv.vs
 have oB:=VS.O2 hv
 have hn:=hv.n.2
 obtain⟨i,hi,p,x,ho⟩:=ha
 obtain⟨hf,hw⟩:=hb.fit hi
 obtain⟨⟨a0,a1⟩,⟨f0,f1⟩,ho1,_⟩:=ho.IP hv hf
 obtain⟨os,hfu⟩:=hb.full i hi
 obtain⟨la,g1,g2,g3⟩:=AVQ hv hf hfu
 have hm:=(g3 a).2 ⟨p,x,ho⟩
 unfold FT
 rw[AB (by omega),AB (by omega),AA trivial,OF hv.sh,AA ⟨f0,f1⟩]
 have NL:(gl ((0,0,0):Fr) h.2.1.2.2 (a / sz h.2.1.1).toNat)=fr h.2.1.2.2 (a / sz h.2.1.1):=rfl
 rw[NL,ho1,hb.find hi,A9,AB (by simp),g1,A9]
 simp only
 refine (nG (β:=Bool) (ys:=la) (v:=a) (bad:=true) (r:=false) (fun k hk=> ?_) (fun _=> ?_)).1 hm
 ·simp only[I3]
  rw[AA (by omega),AA (by omega),AD (by omega) (by omega)]
 ·rw[AB (by omega)]
def Pr (s:Sp) (y:Int) (w:BitVec 64) (f g:Int):Prop:=
 w≠0#64/\(w.toNat:Int)<=s.2.1.length/\f=y / sz s.1/\g=((w.toNat:Int)-1) / sz s.1/\(fr s.2.2 f).1≠-1/\(fr s.2.2 g).1≠-1/\(fr s.2.2 g).2.1<(fr s.2.2 f).2.1
theorem ARU {s:Sp} (h:VS s) {y:Int} (y0:0<=y) (y1:y<s.2.1.length) (w:BitVec 64):
  ∃ r,JL s y w=some r/\((r.2.2=true/\Pr s y w r.1 r.2.1)\/(r.2.2=false/\∀ f g,¬Pr s y w f g)):=by
 have oB:=VS.O2 h
 have hn:=h.n.2
 unfold JL
 by_cases hx:w=0#64
 ·rw[AA hx];exact⟨_,rfl,.inr ⟨rfl,fun f g hh=>hh.1 hx⟩⟩
 obtain⟨e1,e2⟩:=LY hx
 have e3:(BitVec.ofInt 64 ((s.2.1.length:Nat):Int)).toNat=s.2.1.length:=by
  rw[qV];omega
 rw[AB hx,e3,e1]
 by_cases vT :w.toNat>s.2.1.length
 ·rw[AA vT];exact⟨_,rfl,.inr ⟨rfl,fun f g hh=>by have:=hh.2.1;omega⟩⟩
 obtain⟨f0,f1⟩:=GM h y0 y1
 obtain⟨g0,g1⟩:=GM h (a:=(w.toNat:Int)-1) (by omega) (by omega)
 have e4:((w.toNat-1:Nat):Int)=(w.toNat:Int)-1:=by omega
 rw[AB vT,AB (by omega),AB (by omega),AA trivial,AA trivial,e4,AD (e:=(w.toNat:Int)-1) (by omega) (by omega),OF h.sh,AA ⟨f0,f1⟩,AA ⟨g0,g1⟩]
 have hf1:(gl ((0,0,0):Fr) s.2.2 (y / sz s.1).toNat)=fr s.2.2 (y / sz s.1):=rfl
 have pA:(gl ((0,0,0):Fr) s.2.2 (((w.toNat:Int)-1) / sz s.1).toNat)=fr s.2.2 (((w.toNat:Int)-1) / sz s.1):=rfl
 rw[hf1,pA]
 by_cases h1:(fr s.2.2 (y / sz s.1)).1= -1
 ·rw[AB (I4 h1)]
  exact⟨_,rfl,.inr ⟨rfl,fun f g hh=>by obtain⟨_,_,rfl,_,hh,_⟩:=hh;exact hh h1⟩⟩
 rw[AA h1]
 by_cases h2:(fr s.2.2 (((w.toNat:Int)-1) / sz s.1)).1= -1
 ·rw[AB (I4 h2)]
  exact⟨_,rfl,.inr ⟨rfl,fun f g hh=>by obtain⟨_,_,_,rfl,_,hh,_⟩:=hh;exact hh h2⟩⟩
 rw[AA h2]
 by_cases h3:(fr s.2.2 (y / sz s.1)).2.1>(fr s.2.2 (((w.toNat:Int)-1) / sz s.1)).2.1
 ·exact⟨_,rfl,.inl ⟨HX h3,hx,by omega,rfl,rfl,h1,h2,h3⟩⟩
 ·exact⟨_,rfl,.inr ⟨MV h3,fun f g hh=>by obtain⟨_,_,rfl,rfl,_,_,hh⟩:=hh;exact h3 hh⟩⟩
theorem Pr.fn {s:Sp} {y:Int} {w:BitVec 64} {f g f' g' :Int} (h:Pr s y w f g) (h' :Pr s y w f' g'):f=f' /\g=g' :=⟨by rw[h.2.2.1,h'.2.2.1],by rw[h.2.2.2.1,h'.2.2.2.1]⟩
theorem Pr.HJ {s:Sp} (h:VS s) {y:Int} (y0:0<=y) (y1:y<s.2.1.length) {w:BitVec 64} {f g:Int} (hp:Pr s y w f g):(0<=f/\f<64)/\(0<=g/\g<64):=by
 obtain⟨h0,h1,rfl,rfl,_⟩:=hp
 have:=(LY h0).2
 have:=GM h y0 y1
 have:=GM h (a:=(w.toNat:Int)-1) (by omega) (by omega)
 have:=h.n.2
 omega
theorem AI3 {s:Sp} (h:VS s) {ss:Ss} (hs:RV ss) {y:Int} (y0:0<=y) (y1:y<s.2.1.length) (w:BitVec 64):
  ∃ T4,CH s ss y w=some (T4,s.2.1,s.2.2)/\RV T4 /\∀ f g y',In T4 f g y' ↔In ss f g y' \/(y' =y/\Pr s y w f g):=by
 have oB:=VS.O2 h
 obtain⟨r,h1,h2⟩:=ARU h y0 y1 w
 unfold CH
 rw[h1,A9]
 rcases h2 with ⟨h2,h3⟩|⟨h2,h3⟩
 ·obtain⟨a,b⟩:=h3.HJ h y0 y1
  obtain⟨T4,g1,g2,g3⟩:=AVP hs a b (y:=y) (by omega)
  rw[AB (by rw[h2];simp),g1,A9]
  refine⟨T4,rfl,g2,fun f g y' => ?_⟩
  rw[g3]
  constructor
  ·rintro (h|⟨rfl,rfl,rfl⟩)
   ·exact .inl h
   ·exact .inr ⟨rfl,h3⟩
  ·rintro (h|⟨rfl,h⟩)
   ·exact .inl h
   ·obtain⟨rfl,rfl⟩:=h.fn h3
    exact .inr ⟨rfl,rfl,rfl⟩
 ·rw[AA (by rw[h2];rfl)]
  refine⟨ss,rfl,hs,fun f g y' =>⟨.inl, ?_⟩⟩
  rintro (h|⟨_,h⟩)
  ·exact h
  ·exact absurd h (h3 _ _)
theorem AAB {l:List AH} {k:Nat} (hk:k<l.length):gl 0 (BQ l) k=(gl ((0,0,0,0,0):AH) l k).1:=by
 rw[DZ (by unfold BQ;rw[WW];exact hk),DZ hk]
 unfold BQ
 rw[qX]
theorem lU (l:List AH):(BQ l).length=l.length:=by unfold BQ;rw[WW]
def tO (s:Sp) (C:List Int) (k:Nat):List Int:=(F4 k).filter fun f=>decide ((fr s.2.2 f).1∈C)
theorem AAC (s:Sp) (C:List Int) (k:Nat):(tO s C k).length<=k:=by
 unfold tO
 refine fX (oX _ _) ?_
 rw[H4];exact ED _
theorem oV {s:Sp} (h:VS s) {l:List AH} (hl:l.length<=1000000):
  F3 s l=some (tO s (BQ l) s.2.2.length):=by
 have hn:=h.n.2
 have O4:=lU l
 unfold F3
 refine (AR (fun k (st:List Int×Int)=>st=(tO s (BQ l) k,(k:Int))) (fun b=>b=tO s (BQ l) s.2.2.length) s.2.2.length ?_ ?_ (s:=([],0)) rfl).elim fun b hb=>by rw[hb.1,hb.2]
 ·rintro k st hk rfl
  have hc:=AAC s (BQ l) k
  left
  simp only[I3]
  rw[AA (by omega),AA (by omega)]
  have hs:tO s (BQ l) (k+1)=if (fr s.2.2 k).1∈BQ l then tO s (BQ l) k++ [(k:Int)] else tO s (BQ l) k:=by
   unfold tO
   rw[LV,x7,qY,List.filter_nil]
   split
   ·rename_i h1;rw[AA (gN h1)]
   ·rename_i h1;rw[AB (fun h2=>h1 (HX h2)),G5]
  have NL:gl ((0,0,0):Fr) s.2.2 k=fr s.2.2 k:=rfl
  rw[hs,NL,AD (e:=(k:Int)+1) (by omega) (by omega)]
  generalize (fr s.2.2 k).1=q
  generalize tO s (BQ l) k=X at hc
  have inner:=AR (β:=((List Int×Int) ⊕ (List Int))) (f:=fun s2:List Int×Int=>
   if s2.2<(l.length:Int) then
   if 0<=s2.2/\s2.2<(l.length:Int) then
   if q=((gl ((0,0,0,0,0):AH) l s2.2.toNat).1) then
   if (s2.1.length+([(k:Int)]:List Int).length)*8<=140737488355328 then
   some (Sum.inr (Sum.inl ((s2.1++([(k:Int)]:List Int),(k:Int)+1))))
   else none
   else some (Sum.inl ((s2.1,AG (s2.2+1))))
   else none
   else some (Sum.inr (Sum.inl ((s2.1,(k:Int)+1)))))
   (fun j (st:List Int×Int)=>st=(X,(j:Int))/\∀ m:Nat,m<j->gl 0 (BQ l) m≠q)
   (fun b=>b=Sum.inl (if q∈BQ l then X++ [(k:Int)] else X,(k:Int)+1)) l.length ?_ ?_ (s:=(X,0)) ⟨rfl,fun m hm=>by omega⟩
  ·obtain⟨b,e,rfl⟩:=inner
   exact⟨_,e,rfl⟩
  ·rintro j st hj ⟨rfl,hm⟩
   simp only[I3]
   rw[AA (by omega),AA (by omega),←AAB hj]
   by_cases he:q=gl 0 (BQ l) j
   ·rw[AA he,AA (by simp only[HW];omega),AA (by rw[he];exact BR (by omega))]
    exact .inr ⟨_,rfl,rfl⟩
   ·rw[AB he,AD (e:=(j:Int)+1) (by omega) (by omega)]
    refine .inl ⟨_,rfl,rfl,fun m hm' => ?_⟩
    by_cases hmj:m=j
    ·subst hmj;exact fun h=>he h.symm
    ·exact hm m (by omega)
  ·rintro st ⟨rfl,hm⟩
   simp only
   rw[AB (by omega),AB]
   ·exact⟨_,rfl,rfl⟩
   ·intro hq
    obtain⟨m,h1,h2⟩:=x5.1 hq
    refine hm m (by omega) ?_
    rw[DZ h1];exact h2
 ·rintro st rfl
  simp only
  rw[AB (by omega)]
  exact⟨_,rfl,rfl⟩
theorem X4 {s:Sp} {C:List Int} {f:Int}:f∈tO s C s.2.2.length↔(0<=f/\f<s.2.2.length)/\(fr s.2.2 f).1∈C:=by
 unfold tO
 rw[YN,LW,IQ]
theorem xL {β:Type} {f:List Int×Int->Option ((List Int×Int) ⊕ β)} (r:List Int->β) (xs:List Int) (p:Int->Bool) (hl:xs.length<=1000000)
  (hs:∀ (k:Nat) acc,k<xs.length->acc.length<=xs.length->f (acc,(k:Int))=some (.inl (if p (gl 0 xs k)=true then acc++ [gl 0 xs k] else acc,(k:Int)+1)))
  (he:∀ acc,f (acc,(xs.length:Int))=some (.inr (r acc))):AM f ([],0)=some (r (xs.filter p)):=by
 refine (AR (fun k (st:List Int×Int)=>st=((xs.take k).filter p,(k:Int))) (fun b=>b=r (xs.filter p)) xs.length ?_ ?_ (s:=([],0)) (by simp)).elim fun b hb=>by rw[hb.1,hb.2]
 ·rintro k st hk rfl
  left
  rw[hs k _ hk (RY _ _ _)]
  refine⟨_,rfl, ?_⟩
  rw[cK (d:=0) p xs hk]
  split <;> simp
 ·rintro st rfl
  rw[he,SP]
  exact⟨_,rfl,rfl⟩
theorem ADH {s:Sp} (h:VS s) {r:Ro} (hr:X2 r) {l:List AH} (hl:l.length<=1000000):
  HD s r l=some ((xI r.1 32).filter fun x=>decide (Wn (BQ l) s (gl 0#64 r.2 (x-1).toNat))):=by
 have hrl:=hr.rl
 have hlen:=lR r.1 32
 have hm:∀ x∈xI r.1 32,1<=x/\x<=32:=fun x hx=>by
  obtain⟨j,j1,j2,j3⟩:=qH.1 hx
  omega
 have hL:=nJ hr
 generalize xI r.1 32=L at*
 unfold HD
 rw[hL,A9]
 refine xL id L _ (by omega) (fun k acc hk ha=> ?_) (fun acc=> ?_)
 ·have hj:=hm _ (BR (d:=(0:Int)) hk)
  simp only[I3]
  rw[AA (by omega),AA (by omega),AD (e:=gl 0 L k-1) (by omega) (by omega),AA (by omega),jA h hl,A9,AD (e:=(k:Int)+1) (by omega) (by omega)]
  split
  ·rw[AA (by simp only[HW];omega)]
  ·rfl
 ·simp only
  rw[AB (by omega)]
  rfl
theorem AOJ {s:Sp} {l:List AH} {p:BitVec 64->Bool} (hp:∀ w,C6 s l w=some (p w)) {out:List Int} (ho:out.length<=16384) (h3:∀ y∈out,0<=y) (n:Int):
  AM (σ:=((List Int)×Int)) (β:=((List Int)×Int)) (fun s1=>
   if s1.2<(out.length:Int) then
   if 0<=s1.2/\s1.2<(out.length:Int) then
   if (gl (0:Int) out s1.2.toNat)<(s.2.1.length:Int) then
   if 0<=(gl (0:Int) out s1.2.toNat)/\(gl (0:Int) out s1.2.toNat)<(s.2.1.length:Int) then
   Option.bind (C6 s l (gl (0#64:(BitVec 64)) s.2.1 ((gl (0:Int) out s1.2.toNat).toNat))) (fun r3=>
   if r3=true then
   if (s1.1.length+([gl (0:Int) out s1.2.toNat]:List Int).length)*8<=140737488355328 then
   some (Sum.inl ((s1.1++([gl (0:Int) out s1.2.toNat]:List Int),AG (s1.2+1))))
   else none
   else some (Sum.inl ((s1.1,AG (s1.2+1)))))
   else none
   else some (Sum.inl ((s1.1,AG (s1.2+1))))
   else none
   else some (Sum.inr ((s1.1,n)))) (([],0))=some (out.filter fun y:Int=>decide (y<s.2.1.length/\p (gl 0#64 s.2.1 y.toNat)=true),n):=by
 refine xL (fun o=>(o,n)) out (fun y=>decide (y<s.2.1.length/\p (gl 0#64 s.2.1 y.toNat)=true)) (by omega) (fun k acc hk ha=> ?_) (fun acc=> ?_)
 ·have hg:=h3 _ (BR (d:=(0:Int)) hk)
  simp only[I3]
  rw[AA (by omega),AA (by omega),AD (e:=(k:Int)+1) (by omega) (by omega)]
  by_cases h5:gl 0 out k<(s.2.1.length:Int)
  ·rw[AA h5,AA ⟨hg,h5⟩,hp,A9]
   by_cases h6:p (gl 0#64 s.2.1 (gl 0 out k).toNat)=true
   ·rw[AA h6,AA (by simp only[HW];omega),AA (HX ⟨h5,h6⟩)]
   ·rw[AB h6,AB (by rw[IQ];exact fun h=>h6 h.2)]
  ·rw[AB h5,AB (by rw[IQ];exact fun h=>h5 h.1)]
 ·simp only
  rw[AB (by omega)]
theorem ADI {s:Sp} (h:VS s) {ss:Ss} (hr:RV ss) {l:List AH} (hl:l.length<=1000000):
  ∃ ys n,HE s ss l=some (ys,n)/\ys.Pairwise (·< ·)/\∀ y,y∈ys↔InF ss (tO s (BQ l) s.2.2.length) y/\(0<=y/\y<s.2.1.length)/\Wn (BQ l) s (gl 0#64 s.2.1 y.toNat):=by
 have hn:=h.n.2
 have oB:=VS.O2 h
 have hc:=AAC s (BQ l) s.2.2.length
 obtain⟨out,n,h1,h2,h3,h4⟩:=ARR hr (F:=tO s (BQ l) s.2.2.length) (by omega)
 have hol:=nI (n:=16384) h2 h3
 have key:=AOJ (s:=s) (l:=l) (p:=fun w=>decide (Wn (BQ l) s w)) (fun w=>jA h hl w) hol (fun y hy=>(h3 y hy).1) n
 refine⟨_,n, ?_,(h2.sublist vM:(out.filter fun y:Int=>decide (y<s.2.1.length/\decide (Wn (BQ l) s (gl 0#64 s.2.1 y.toNat))=true)).Pairwise (·< ·)),fun y=> ?_⟩
 ·unfold HE
  rw[oV h hl,A9,h1,A9]
  exact key
 ·rw[YN,h4,IQ,IQ]
  constructor
  ·rintro⟨a,b,c⟩
   have:=h3 y ((h4 y).2 a)
   exact⟨a,⟨this.1,b⟩,c⟩
  ·rintro⟨a,⟨_,b⟩,c⟩;exact⟨a,b,c⟩
def Im (s:Sp) (C:List Int) (mv:List (Int×Int)) (w v:BitVec 64):Prop:=
 (¬Wn C s w/\v=w)\/(Wn C s w/\∃ b,((w.toNat:Int)-1,b)∈mv/\v=BitVec.ofInt 64 b+1#64)
theorem Im.mono {s:Sp} {C:List Int} {mv mv' :List (Int×Int)} {w v:BitVec 64} (h:Im s C mv w v) (hs:∀ x∈mv,x∈mv'):Im s C mv' w v:=by
 rcases h with h|⟨h1,b,h2,h3⟩
 ·exact .inl h
 ·exact .inr ⟨h1,b,hs _ h2,h3⟩
def scn (d e k:Nat) (j:Int):Prop:=k<d\/(k=d/\j<=e)
structure Cop (s0:Sp) (C:List Int) (l:List AH) (B3:AH) (t:Sp) (to:AH) (lb:List Int) (ot:List (Int×Int)) (mv:List (Int×Int)) (d e k:Nat) (i:AH) (la:List Int) (oa:List (Int×Int)) (pa p:Int) (x:Int×Int):Prop where
 inl:i∈l
 src:OB s0 i la oa pa (gl (0,0) mv k).1 x
 dst:OB t to lb ot p (gl (0,0) mv k).2 x
 new:B3.2.2.2.2<=p
 wds:∀ j,1<=j->j<=x.1+x.2->∀ ya yb,DB (sz s0.1) la (pa+j)=some ya->DB (sz s0.1) lb (p+j)=some yb→
  ((j<=x.1/\scn d e k j)->Im s0 C mv (gl 0#64 s0.2.1 ya.toNat) (gl 0#64 t.2.1 yb.toNat))/\(¬(j<=x.1/\scn d e k j)->gl 0#64 t.2.1 yb.toNat=gl 0#64 s0.2.1 ya.toNat)
structure CI (R:Int->Prop) (s0:Sp) (q:Rows) (l:List AH) (B3:AH) (l0:List Int) (EK:List (Int×Int)) (t:Sp) (to:AH) (lb:List Int) (m:List (Int×Int)) (mv:List (Int×Int)) (d e:Nat):Prop where
 cy:Cy (BQ l) t to
 sh:t.1=s0.1
 wl:t.2.1.length=s0.2.1.length
 fl:t.2.2.length=s0.2.2.length
 seq:to.1=B3.1
 fS:to.2.1=B3.2.1
 wd:B3.2.2.2.2<=to.2.2.2.2
 has:Has t to lb
 RK:DM (sz s0.1) t.2.1 lb 0 (EK++m) to.2.2.2.2
 pre:∃ r,lb=l0++r
 fr1:∀ x:Int,0<=x->x<s0.2.2.length->(fr t.2.2 x).1≠B3.1->fr t.2.2 x=fr s0.2.2 x
 mX:∀ x:Int,0<=x->x<s0.2.2.length->(fr s0.2.2 x).1=B3.1->(fr t.2.2 x).1=B3.1
 YI:∀ x:Int,0<=x->x<s0.2.2.length->(fr s0.2.2 x).1≠-1->(fr s0.2.2 x).1≠B3.1->fr t.2.2 x=fr s0.2.2 x
 wd1:∀ y:Int,0<=y->y<s0.2.1.length->(fr s0.2.2 (y / sz s0.1)).1≠-1->(fr s0.2.2 (y / sz s0.1)).1≠B3.1->y∉mv.map (·.1)->gl 0#64 t.2.1 y.toNat=gl 0#64 s0.2.1 y.toNat
 wd2:∀ x∈mv,gl 0#64 t.2.1 x.1.toNat=fwd x.2
 wd3:∀ p y,0<=p->p<B3.2.2.2.2->DB (sz s0.1) l0 p=some y->gl 0#64 t.2.1 y.toNat=gl 0#64 s0.2.1 y.toNat
 ml:m.length=mv.length
 vD:∀ k,k<mv.length->∃ i la oa pa p,Cop s0 (BQ l) l B3 t to lb (EK++m) mv d e k i la oa pa p (gl (0,0) m k)
 mvn:(mv.map (·.1)).Nodup
 mvb:(mv.map (·.2)).Nodup
 cov:∀ p x,TA 0 (EK++m) p x->TA 0 EK p x\/(B3.2.2.2.2<=p/\∃ k,k<mv.length/\DB (sz s0.1) lb p=some (gl (0,0) mv k).2)
 rch:∀ x∈mv,R x.1
 de:d<=mv.length/\(d=mv.length->e=0)
structure Cd (s0:Sp) (q:Rows) (l:List AH) (B3:AH) (l0:List Int) (EK:List (Int×Int)):Prop where
 hb:HB s0 q
 sub:∀ i∈l,i∈q.flatten
 fit:D5 s0 B3
 out:B3.1∉BQ l
 own:B3.2.2.2.2=0->owned s0.2.2 B3.1=[]
 has:Has s0 B3 l0
 RK:DM (sz s0.1) s0.2.1 l0 0 EK B3.2.2.2.2
theorem J4 {l:List AH} {n:Int}:n∈BQ l↔∃ i∈l,i.1=n:=by
 unfold BQ;rw[C0]
theorem Cd.nn {s0:Sp} {q:Rows} {l:List AH} {B3:AH} {l0:List Int} {EK:List (Int×Int)} (h:Cd s0 q l B3 l0 EK):∀ n∈BQ l,0<=n:=by
 intro n hn
 obtain⟨i,hi,rfl⟩:=J4.1 hn
 exact (h.hb.fit (h.sub i hi)).1.1.1
def Gw (s0:Sp) (l:List AH) (w:BitVec 64):Prop:=Wn (BQ l) s0 w->∃ i∈l,∃ p x,Obj s0 i p ((w.toNat:Int)-1) x
theorem CI.start {R:Int->Prop} {s0:Sp} {q:Rows} {l:List AH} {B3:AH} {l0:List Int} {EK:List (Int×Int)} (h:Cd s0 q l B3 l0 EK):CI R s0 q l B3 l0 EK s0 B3 l0 [] [] 0 0 where
 cy:=⟨h.hb.bv.vs,h.fit,h.own,h.out,h.nn⟩
 sh:=rfl
 wl:=rfl
 fl:=rfl
 seq:=rfl
 fS:=rfl
 wd:=S9 _
 has:=h.has
 RK:=by rw[G5];exact h.RK
 pre:=⟨[],by rw[G5]⟩
 fr1:=fun _ _ _ _=>rfl
 mX:=fun _ _ _ h=>h
 YI:=fun _ _ _ _ _=>rfl
 wd1:=fun _ _ _ _ _ _=>rfl
 wd2:=fun x hx=>by cases hx
 wd3:=fun _ _ _ _ _=>rfl
 ml:=rfl
 vD:=fun k hk=>by simp at hk
 mvn:=dR
 mvb:=dR
 cov:=fun p x hx=>by rw[G5] at hx;exact .inl hx
 rch:=fun x hx=>by cases hx
 de:=⟨ED _,fun _=>rfl⟩
theorem Grown.fr1 {s:Sp} {i:AH} {n:Int} {t:Sp} {j:AH} {a:Int} {l l' :List Int} (h:VS s) (g:Grown s i n t j a l l') (i0:0<=i.1) {x:Int} (x0:0<=x) (x1:x<s.2.2.length) (CJ:(fr t.2.2 x).1≠i.1):fr t.2.2 x=fr s.2.2 x:=by
 by_cases hf:(fr t.2.2 x).1= -1
 ·have h1:x∈DA t.2.2:=B0.2 ⟨⟨x0,by rw[g.len];exact x1⟩,hf⟩
  rw[g.fre] at h1
  have h2:=B0.1 (vK h1)
  have h3:=(h.free x0 x1 h2.2).1
  have h4:=(g.vs.free x0 (by rw[g.len];exact x1) hf).1
  rw[show fr t.2.2 x=(-1, -1, -1) from h4,show fr s.2.2 x=(-1, -1, -1) from h3]
 ·have h1:x∈owned t.2.2 (fr t.2.2 x).1:=B0.2 ⟨⟨x0,by rw[g.len];exact x1⟩,rfl⟩
  rw[g.oth _ CJ hf] at h1
  have h2:=(B0.1 h1).2
  exact g.frs x x0 x1 (by rw[h2];exact hf) (by rw[h2];exact CJ)
theorem Grown.mX {s:Sp} {i:AH} {n:Int} {t:Sp} {j:AH} {a:Int} {l l' :List Int} (h:VS s) (hf:D5 s i) (CO:i.2.2.2.2=0->owned s.2.2 i.1=[]) (n0:1<=n) (g:Grown s i n t j a l l') {x:Int} (x0:0<=x) (x1:x<s.2.2.length) (he:(fr s.2.2 x).1=i.1):(fr t.2.2 x).1=i.1:=by
 have hx:x∈owned s.2.2 i.1:=B0.2 ⟨⟨x0,x1⟩,he⟩
 by_cases hw:i.2.2.2.2=0
 ·rw[CO hw] at hx;cases hx
 ·have h1:=AK8 h hf hw hx g.has
  have h2:x∈l' :=by rw[g.more];exact vL _ h1
  exact g.AOF hf.1.2.2.2.2.1 n0 x h2
theorem CI.inC {R:Int->Prop} {s0:Sp} {q:Rows} {l:List AH} {B3:AH} {l0:List Int} {EK:List (Int×Int)} (h:Cd s0 q l B3 l0 EK) {t:Sp} {to:AH} {lb:List Int} {m mv:List (Int×Int)} {d e:Nat} (c:CI R s0 q l B3 l0 EK t to lb m mv d e) {x:Int} (x0:0<=x) (x1:x<s0.2.2.length):(fr t.2.2 x).1∈BQ l↔(fr s0.2.2 x).1∈BQ l:=by
 constructor
 ·intro hx
  rw[<-c.fr1 x x0 x1 (fun he=>h.out (he ▸ hx))];exact hx
 ·intro hx
  have:=h.nn _ hx
  rw[c.YI x x0 x1 (by omega) (fun he=>h.out (he ▸ hx))];exact hx
theorem CI.wn {R:Int->Prop} {s0:Sp} {q:Rows} {l:List AH} {B3:AH} {l0:List Int} {EK:List (Int×Int)} (h:Cd s0 q l B3 l0 EK) {t:Sp} {to:AH} {lb:List Int} {m mv:List (Int×Int)} {d e:Nat} (c:CI R s0 q l B3 l0 EK t to lb m mv d e) (w:BitVec 64):Wn (BQ l) t w↔Wn (BQ l) s0 w:=by
 unfold Wn
 rw[c.wl,c.sh]
 constructor
 ·rintro⟨h1,h2,h3⟩
  have:=(LY h1).2
  obtain⟨f0,f1⟩:=GM h.hb.bv.vs (a:=(w.toNat:Int)-1) (by omega) (by omega)
  exact⟨h1,h2,(c.inC h f0 f1).1 h3⟩
 ·rintro⟨h1,h2,h3⟩
  have:=(LY h1).2
  obtain⟨f0,f1⟩:=GM h.hb.bv.vs (a:=(w.toNat:Int)-1) (by omega) (by omega)
  exact⟨h1,h2,(c.inC h f0 f1).2 h3⟩
theorem Cd.VJ {s0:Sp} {q:Rows} {l:List AH} {B3:AH} {l0:List Int} {EK:List (Int×Int)} (h:Cd s0 q l B3 l0 EK) {i:AH} (hi:i∈l) {la:List Int} (hla:Has s0 i la) {p y:Int} (p0:0<=p) (hy:DB (sz s0.1) la p=some y):
  (0<=y/\y<s0.2.1.length)/\(0<=y / sz s0.1/\y / sz s0.1<s0.2.2.length)/\(fr s0.2.2 (y / sz s0.1)).1=i.1/\i.1∈BQ l/\0<=i.1/\i.1≠B3.1:=by
 have hf:=h.hb.fit (h.sub i hi)
 obtain⟨h1,_,h3,h4,_⟩:=DD h.hb.bv.vs hf.1 hla p0 hy
 have h5:i.1∈BQ l:=J4.2 ⟨i,hi,rfl⟩
 exact⟨h1,h3,h4,h5,hf.1.1.1,fun he=>h.out (he ▸ h5)⟩
theorem Cd.ARV {s0:Sp} {q:Rows} {l:List AH} {B3:AH} {l0:List Int} {EK:List (Int×Int)} (h:Cd s0 q l B3 l0 EK) {i i' :AH} (hi:i∈l) (J_ :i' ∈l) {la la' :List Int} {oa oa' :List (Int×Int)} {pa pa' a a' :Int} {x x' :Int×Int} (o:OB s0 i la oa pa a x) (o' :OB s0 i' la' oa' pa' a' x') {j:Int} (j1:1<=j) (j2:j<=x.1+x.2):DB (sz s0.1) la (pa+j)≠some a' :=by
 intro hy
 have r:=o.HJ
 have r' :=o'.HJ
 have h1:=h.VJ hi o.has (by omega) hy
 have h2:=h.VJ J_ o'.has r'.2.2.1 o'.IP
 have he:i.1=i'.1:=by rw[<-h1.2.2.1,←h2.2.2.1]
 obtain rfl:=h.hb.uniq (h.sub i hi) (h.sub i' J_) he
 obtain rfl:=RX o.has o'.has
 obtain rfl:=o.RK.fn o'.RK
 have hp:=JW (CA s0.1) (cL o.has) (by omega) r'.2.2.1 hy o'.IP
 rcases o.RK.apart o.ta o'.ta with ⟨h3,_⟩|h3|h3 <;> omega
theorem F5 {α:Type} {d x:α} {l:List α} (h:x∈l):∃ k,k<l.length/\gl d l k=x:=by
 obtain⟨k,hk,rfl⟩:=x5.1 h
 exact⟨k,hk,DZ hk⟩
theorem AOK {α β:Type} {d:α} {d' :β} {l:List α} {f:α->β} {k:Nat} (hk:k<l.length):gl d' (l.map f) k=f (gl d l k):=by
 rw[DZ (by rw[WW];exact hk),DZ hk,qX]
theorem CI.z8 {R:Int->Prop} {s0:Sp} {q:Rows} {l:List AH} {B3:AH} {l0:List Int} {EK:List (Int×Int)} (h:Cd s0 q l B3 l0 EK) {t:Sp} {to:AH} {lb:List Int} {m mv:List (Int×Int)} {d e:Nat} (c:CI R s0 q l B3 l0 EK t to lb m mv d e) {i:AH} (hi:i∈l) {la:List Int} {oa:List (Int×Int)} {pa a:Int} {x:Int×Int} (o:OB s0 i la oa pa a x) {j y:Int} (j1:1<=j) (j2:j<=x.1+x.2) (hy:DB (sz s0.1) la (pa+j)=some y):gl 0#64 t.2.1 y.toNat=gl 0#64 s0.2.1 y.toNat:=by
 have r:=o.HJ
 obtain⟨h1,h2,h3,h4,h5,h6⟩:=h.VJ hi o.has (by omega) hy
 refine c.wd1 y h1.1 h1.2 (by rw[h3];omega) (by rw[h3];exact h6) fun hm=> ?_
 obtain⟨z',hz,rfl⟩:=C0.1 hm
 obtain⟨k,hk,rfl⟩:=F5 (d:=((0,0):Int×Int)) hz
 obtain⟨i',la',oa',pa',p',cc⟩:=c.vD k hk
 exact h.ARV hi cc.inl o cc.src j1 j2 hy
theorem CI.AOL {R:Int->Prop} {s0:Sp} {q:Rows} {l:List AH} {B3:AH} {l0:List Int} {EK:List (Int×Int)} (h:Cd s0 q l B3 l0 EK) {t:Sp} {to:AH} {lb:List Int} {m mv:List (Int×Int)} {d e:Nat} (c:CI R s0 q l B3 l0 EK t to lb m mv d e):mv.length<=16384:=by
 have oB:=VS.O2 h.hb.bv.vs
 have:(mv.map (·.1)).length<=16384:=by
  refine QL 16384 _ c.mvn fun y hy=> ?_
  obtain⟨z',hz,rfl⟩:=C0.1 hy
  obtain⟨k,hk,rfl⟩:=F5 (d:=((0,0):Int×Int)) hz
  obtain⟨i',la',oa',pa',p',cc⟩:=c.vD k hk
  have:=h.VJ cc.inl cc.src.has cc.src.HJ.2.2.1 cc.src.IP
  omega
 rw[WW] at this
 exact this
theorem CI.move {R:Int->Prop} {s0:Sp} {q:Rows} {l:List AH} {B3:AH} {l0:List Int} {EK:List (Int×Int)} (h:Cd s0 q l B3 l0 EK) {t:Sp} {to:AH} {lb:List Int} {m mv:List (Int×Int)} {d e:Nat} (c:CI R s0 q l B3 l0 EK t to lb m mv d e)
  {w:BitVec 64} (gw:Gw s0 l w) (hr:Wn (BQ l) s0 w->R ((w.toNat:Int)-1)) {v:BitVec 64} {err:Int} {t' :Sp} {t_ :AH} {mm:List (Int×Int)} (hm:MvR (BQ l) t to w v err t' t_ mm) (he:err=0):
  ∃ lb' m',CI R s0 q l B3 l0 EK t' t_ lb' m' (mv++mm) d e/\Im s0 (BQ l) (mv++mm) w v/\(∃ r,lb' =lb++r)/\∃ r,m' =m++r:=by
 have hz:sz t.1=sz s0.1:=by rw[c.sh]
 have oB:=VS.O2 h.hb.bv.vs
 have z:=CA s0.1
 by_cases hw:Wn (BQ l) t w
 rotate_left
 ·cases hm with
  |out _=>exact⟨lb,m,by rw[G5];exact c,.inl ⟨fun hh=>hw ((c.wn h w).2 hh),rfl⟩,⟨[],by rw[G5]⟩,[],by rw[G5]⟩
  |AOD h1|bad h1|AOE h1|full h1|xJ h1=>exact absurd h1 hw
 have hw0:=(c.wn h w).1 hw
 obtain⟨i,hi,pa,x,la,oa,o⟩:=gw hw0
 have AVI:=o.HJ
 have hA:=h.VJ hi o.has AVI.2.2.1 o.IP
 generalize hAe:(w.toNat:Int)-1=A at*
 have AKO:hwd t w=gl 0#64 t.2.1 A.toNat:=by rw[<-hAe]
 by_cases ND:A∈mv.map (·.1)
 ·
  obtain⟨xx,yI,hx2⟩:=C0.1 ND
  have h2:=c.wd2 xx yI
  rw[hx2] at h2
  obtain⟨k,hk,N9⟩:=F5 (d:=((0,0):Int×Int)) yI
  obtain⟨i',la',oa',pa',p',cc⟩:=c.vD k hk
  have hbr:=DD c.cy.vs c.cy.fit c.has cc.dst.HJ.2.2.1 cc.dst.IP
  rw[N9] at hbr
  have dB:0<=xx.2/\xx.2<=16383:=by have:=c.wl;omega
  have hdc:=ART dB.1 dB.2
  cases hm with
  |out h1=>exact absurd hw h1
  |AOD h1 h3 h4=>
   refine⟨lb,m,by rw[G5];exact c,.inr ⟨hw0,xx.2, ?_, ?_⟩,⟨[],by rw[G5]⟩,[],by rw[G5]⟩
   ·rw[G5,hAe,←hx2];exact yI
   ·rw[AKO,h2,hdc]
  |bad h1 h3=>rw[AKO,h2,hdc] at h3;exact absurd rfl h3
  |AOE h1 hh=>rw[AKO,h2,AG8 dB.1 dB.2] at hh;cases hh
  |full h1 hh=>rw[AKO,h2,AG8 dB.1 dB.2] at hh;cases hh
  |xJ h1 hh=>rw[AKO,h2,AG8 dB.1 dB.2] at hh;cases hh
 have htA:gl 0#64 t.2.1 A.toNat=gl 0#64 s0.2.1 A.toNat:=c.wd1 A hA.1.1 hA.1.2 (by rw[hA.2.2.1];omega) (by rw[hA.2.2.1];exact hA.2.2.2.2.2) ND
 have hhd:hd (hwd t w)=some x:=by rw[AKO,htA];exact ATE o
 cases hm with
 |out h1=>exact absurd hw h1
 |AOD h1 h3 h4=>rw[tN hhd] at h4;cases h4
 |bad h1 h3=>rw[tN hhd] at h3;exact absurd rfl h3
 |AOE=>cases he
 |full=>cases he
 | @xJ _ r dd hh la2 hl e' ha u _ b l1 l' g=>
 rw[hhd] at hh
 obtain rfl:x=(r,dd):=VM hh
 obtain⟨⟨⟨r0,r1⟩,d0,d1⟩,hsA,hp0,hpe⟩:=AVI
 simp only at r0 r1 d0 d1 hpe hsA
 have hmw:=ADE c.cy hw hhd hl ha g rfl
 obtain⟨cy', -,A0T,AYL,AYM, -, -, -⟩:=MvR.cy c.cy (.xJ hw hhd hl ha g)
 obtain rfl:=RX g.has c.has
 rw[hAe] at hl ha hmw cy' AYL A0T AYM ⊢
 rw[hz] at hl ha hmw
 have hto:=c.cy.fit.1
 have hq:=hA.2.2.2.2.1
 have hAt:(fr t.2.2 (A / sz s0.1))=fr s0.2.2 (A / sz s0.1):=c.YI _ hA.2.1.1 hA.2.1.2 (by rw[hA.2.2.1];omega) (by rw[hA.2.2.1];exact hA.2.2.2.2.2)
 have AOM:∀ k,0<=k->DB (sz s0.1) la2 (A%sz s0.1+k)=DB (sz s0.1) la (pa+k):=by
  intro k k0
  rcases o.has with ⟨hw',_⟩|⟨hw',hpi⟩
  ·omega
  obtain⟨l2,q1,⟨q2,q2',A1M⟩,q3⟩:=OZ z hpi hp0 o.IP k0
  have:Pa t.2.2 (A / sz s0.1) l2:=by
   refine q1.iY c.fl fun y hy=> ?_
   obtain⟨y0,y1⟩:=q1.mem hy
   have ho:=(h.hb.bv.vs.owner q1 y hy).1
   rw[HL y0 (by rw[c.fl];exact y1),HL y0 y1,c.YI y y0 y1 (by rw[ho,hA.2.2.1];omega) (by rw[ho,hA.2.2.1];exact hA.2.2.2.2.2)]
  rw[hl.fn this];exact q3
 obtain⟨hm1,hm2,hm3,hm4⟩:=hmw
 generalize hws:(cpy (sz t.1) la2 (A%sz t.1) l' to.2.2.2.2 (1+r+dd).toNat t.2.1).set A.toNat (fwd b)=ws at*
 rw[hz] at hws
 rw[hws] at hm1 hm2 hm3
 have AYN:=g.AOF hto.2.2.2.2.1 (by omega:(1:Int)<=1+r+dd)
 have hvu:VS (t.1,t.2.1,u.2.2):=by have:=g.vs;rw[<-g.sh,←g.ws];exact this
 have H8:=g.path.nodup
 have hpl:∀ p y,0<=p->DB (sz s0.1) l' p=some y->(0<=y/\y<s0.2.1.length)/\(fr u.2.2 (y / sz s0.1)).1=B3.1:=by
  intro p y p0 hy
  have:=P8 hvu g.path p0 (by rw[hz];exact hy)
  simp only at this
  rw[c.wl,hz] at this
  exact⟨this.1,by rw[AYN _ this.2,c.seq]⟩
 have A0U:∀ y:Int,0<=y->y<s0.2.1.length->(fr s0.2.2 (y / sz s0.1)).1≠-1->(fr s0.2.2 (y / sz s0.1)).1≠B3.1->(fr u.2.2 (y / sz s0.1)).1≠B3.1:=by
  intro y y0 y1 h1 h2
  obtain⟨f0,f1⟩:=GM h.hb.bv.vs y0 y1
  have h3:=c.YI _ f0 f1 h1 h2
  rw[g.frs _ f0 (by rw[c.fl];exact f1) (by rw[h3];exact h1) (by rw[h3,c.seq];exact h2),h3]
  exact h2
 have ATG:∀ y:Int,0<=y->y<s0.2.1.length->(fr s0.2.2 (y / sz s0.1)).1≠-1->(fr s0.2.2 (y / sz s0.1)).1≠B3.1->∀ p,0<=p->DB (sz s0.1) l' p≠some y:=by
  intro y y0 y1 h1 h2 p p0 hy
  exact A0U y y0 y1 h1 h2 (hpl p y p0 hy).2
 have A0V:∀ p,0<=p->DB (sz s0.1) l' p≠some A:=ATG A hA.1.1 hA.1.2 (by rw[hA.2.2.1];omega) (by rw[hA.2.2.1];exact hA.2.2.2.2.2)
 have hold:∀ p y,0<=p->p<to.2.2.2.2->DB (sz s0.1) l1 p=some y->DB (sz s0.1) l' p=some y/\gl 0#64 ws y.toNat=gl 0#64 t.2.1 y.toNat:=by
  intro p y p0 p1 hy
  have wW :DB (sz s0.1) l' p=some y:=by rw[g.more];exact CS hy
  refine⟨wW,hm1 y (hpl p y p0 wW).1.1 (fun uH =>A0V p p0 (uH ▸ wW)) fun i' i0 i1 J_ => ?_⟩
  have:=JW z H8 p0 (by omega) wW J_
  omega
 have CD:∀ y:Int,0<=y->y<s0.2.1.length->(fr s0.2.2 (y / sz s0.1)).1≠-1->(fr s0.2.2 (y / sz s0.1)).1≠B3.1->y≠A->gl 0#64 ws y.toNat=gl 0#64 t.2.1 y.toNat:=
  fun y y0 y1 h1 h2 h3=>hm1 y y0 h3 fun i' i0 i1=>ATG y y0 y1 h1 h2 _ (by omega)
 have A0W:t_.2.2.2.2≠0:=by rw[g.words];omega
 have ABU:Has (t.1,ws,u.2.2) t_ l' := .inr ⟨A0W,g.path⟩
 have ADJ:DB (sz s0.1) l' to.2.2.2.2=some b:=by rw[<-hz];exact g.IP
 have hbw:gl 0#64 ws b.toNat=dH r dd:=by
  have h1:=hm2 0 (by omega) (by omega) b A (by rw[ZV];exact ADJ) (by rw[AOM 0 (by omega),ZV];exact o.IP)
  rw[h1,htA,hsA]
 have ADK:DM (sz s0.1) ws l' 0 (EK++m) to.2.2.2.2:=c.RK.AL fun p y p0 p1 hy=>hold p y p0 p1 hy
 have AAD:DM (sz s0.1) ws l' 0 (EK++(m++ [(r,dd)])) t_.2.2.2.2:=by
  rw[<-I6,g.words]
  exact ADK.snoc ⟨r0,r1⟩ ⟨d0,d1⟩ ADJ hbw
 have K8:∀ {p a:Int} {x:Int×Int},OB t to l1 (EK++m) p a x->OB (t.1,ws,u.2.2) t_ l' (EK++(m++ [(r,dd)])) p a x:=by
  intro p a x ob
  refine⟨ABU,by rw[show sz (t.1,ws,u.2.2).1=sz s0.1 from hz];exact AAD, ?_, ?_⟩
  ·rw[<-I6]
   exact (TA.snoc ADK).2 (.inl ob.ta)
  ·have:=ob.IP
   rw[hz] at this
   rw[show sz (t.1,ws,u.2.2).1=sz s0.1 from hz]
   exact (hold p a ob.HJ.2.2.1 (by have:=ob.HJ;omega) this).1
 have ATH:(mv++ [(A,b)]).length=mv.length+1:=by simp
 have AVR:∀ {k},k<mv.length->gl (0,0) (mv++ [(A,b)]) k=gl (0,0) mv k:=fun hk=>XA hk
 have AVS:gl (0,0) (mv++ [(A,b)]) mv.length=(A,b):=by
  rw[DZ (by simp),AIQ (ED _)];simp
 have A0X:∀ {k},k<mv.length->gl (0,0) (m++ [(r,dd)]) k=gl (0,0) m k:=fun hk=>XA (by rw[c.ml];exact hk)
 have A0Y:gl (0,0) (m++ [(r,dd)]) mv.length=(r,dd):=by
  rw[DZ (by rw[I5,c.ml];simp),AIQ (by rw[c.ml];exact ED _)];simp [c.ml]
 have JB:∀ x∈mv,x∈mv++ [(A,b)]:=fun x hx=>vL _ hx
 refine⟨l',m++ [(r,dd)], ?_,.inr ⟨hw0,b,by rw[hAe];simp,rfl⟩,⟨_,g.more⟩,_,rfl⟩
 refine { cy:=cy',sh:=c.sh,wl:=by rw[AYL,c.wl],fl:=by rw[AYM,c.fl],seq:=by rw[g.seq,c.seq],fS:=by rw[g.fS,c.fS],wd:=by rw[g.words];have:=c.wd;omega,has:=ABU,RK:=AAD,pre:= ?_,fr1:= ?_,mX:= ?_,YI:= ?_,wd1:= ?_,wd2:= ?_,wd3:= ?_,ml:=by simp [c.ml],vD:= ?_,mvn:= ?_,mvb:= ?_,cov:= ?_,rch:= ?_,de:= ?_ }
 ·obtain⟨r',dI⟩:=c.pre
  exact⟨r' ++List.take (l'.length-l1.length) (DA t.2.2),by rw[<-I6,←dI];exact g.more⟩
 ·intro y y0 y1 CJ
  simp only at CJ ⊢
  have h1:=Grown.fr1 c.cy.vs g hto.1 y0 (by rw[c.fl];exact y1) (by rw[c.seq];exact CJ)
  rw[h1] at CJ ⊢
  exact c.fr1 y y0 y1 CJ
 ·intro y y0 y1 hy
  have h1:=Grown.mX c.cy.vs c.cy.fit c.cy.own (by omega) g y0 (by rw[c.fl];exact y1) (by rw[c.mX y y0 y1 hy,c.seq])
  simp only
  rw[h1,c.seq]
 ·intro y y0 y1 h1 h2
  have h3:=c.YI y y0 y1 h1 h2
  simp only
  rw[g.frs y y0 (by rw[c.fl];exact y1) (by rw[h3];exact h1) (by rw[h3,c.seq];exact h2),h3]
 ·intro y y0 y1 h1 h2 h3
  rw[ZS,EV] at h3
  simp only
  rw[CD y y0 y1 h1 h2 (fun uH =>h3 (.inr (by rw[uH];simp)))]
  exact c.wd1 y y0 y1 h1 h2 fun h4=>h3 (.inl h4)
 ·intro xx hx
  rcases EV.1 hx with hx|hx
  ·have h1:=c.wd2 xx hx
   simp only
   obtain⟨k,hk,N9⟩:=F5 (d:=((0,0):Int×Int)) hx
   obtain⟨i',la',oa',pa',p',cc⟩:=c.vD k hk
   have h2:=h.VJ cc.inl cc.src.has cc.src.HJ.2.2.1 cc.src.IP
   rw[N9] at h2
   rw[CD xx.1 h2.1.1 h2.1.2 (by rw[h2.2.2.1];omega) (by rw[h2.2.2.1];exact h2.2.2.2.2.2) (fun uH =>ND (C0.2 ⟨xx,hx,uH⟩)),h1]
  ·rw[F6.1 hx]
   exact hm3
 ·intro p y p0 p1 hy
  have h1:=c.wd3 p y p0 p1 hy
  obtain⟨r',dI⟩:=c.pre
  have h2:DB (sz s0.1) l1 p=some y:=by rw[dI];exact CS hy
  simp only
  rw[(hold p y p0 (by have:=c.wd;omega) h2).2,h1]
 ·intro k hk
  rw[ATH] at hk
  by_cases MC :k<mv.length
  ·obtain⟨i',la',oa',pa',p',cc⟩:=c.vD k MC
   rw[A0X MC]
   refine⟨i',la',oa',pa',p',cc.inl,by rw[AVR MC];exact cc.src,by rw[AVR MC];exact K8 cc.dst,cc.new,fun j j1 j2 ya yb xM hyb=> ?_⟩
   have A1N :=cc.dst.HJ
   obtain⟨yb',AVT⟩:=cc.dst.z8 c.cy.vs c.cy.fit (k:=j) (by omega) j2
   rw[hz] at AVT
   obtain⟨h1,h2⟩:=hold (p' +j) yb' (by omega) (by omega) AVT
   rw[hyb] at h1
   obtain rfl:=VM h1
   obtain⟨h3,h4⟩:=cc.wds j j1 j2 ya yb xM AVT
   simp only
   rw[h2]
   exact⟨fun hh=>(h3 hh).mono JB,h4⟩
  ·obtain rfl:k=mv.length:=by omega
   rw[A0Y]
   have A0Z:OB (t.1,ws,u.2.2) t_ l' (EK++(m++ [(r,dd)])) to.2.2.2.2 b (r,dd):=by
    refine⟨ABU,by rw[show sz (t.1,ws,u.2.2).1=sz s0.1 from hz];exact AAD, ?_,by rw[show sz (t.1,ws,u.2.2).1=sz s0.1 from hz];exact ADJ⟩
    rw[<-I6]
    exact (TA.snoc ADK).2 (.inr ⟨rfl,rfl⟩)
   refine⟨i,la,oa,pa,to.2.2.2.2,hi,by rw[AVS];exact o,by rw[AVS];exact A0Z,c.wd,fun j j1 j2 ya yb xM hyb=>⟨fun hh=> ?_,fun _=> ?_⟩⟩
   ·exfalso
    obtain⟨hd1,hd2⟩:=c.de
    rcases hh.2 with h1|⟨h1,h2⟩
    ·omega
    ·have:=hd2 h1.symm;omega
   ·simp only at j2 ⊢
    rw[hm2 j (by omega) (by omega) yb ya hyb (by rw[AOM j (by omega)];exact xM)]
    exact c.z8 h hi o j1 j2 xM
 ·rw[ZS,PL]
  refine⟨c.mvn,by simp,fun y hy y' wW uH => ?_⟩
  rw[K0,List.map_nil,F6] at wW
  subst uH;rw[wW] at hy;exact ND hy
 ·rw[ZS,PL]
  refine⟨c.mvb,by simp,fun y hy y' wW uH => ?_⟩
  rw[K0,List.map_nil,F6] at wW
  subst uH
  obtain⟨xx,yI,hx2⟩:=C0.1 hy
  obtain⟨k,hk,N9⟩:=F5 (d:=((0,0):Int×Int)) yI
  obtain⟨i',la',oa',pa',p',cc⟩:=c.vD k hk
  have h1:=cc.dst.IP
  have h2:=cc.dst.HJ
  rw[N9,hz] at h1
  have h3:=(hold p' xx.2 h2.2.2.1 (by omega) h1).1
  rw[hx2,wW] at h3
  have:=JW z H8 h2.2.2.1 hto.2.2.2.2.1 h3 ADJ
  omega
 ·intro p y hp
  rw[<-I6] at hp
  rcases (TA.snoc ADK).1 hp with hp|⟨rfl,rfl⟩
  ·rcases c.cov p y hp with h1|⟨h1,k,hk,h2⟩
   ·exact .inl h1
   ·have h3:=ADK.ta hp
    have h4:=(c.RK.ta hp)
    refine .inr ⟨h1,k,by omega, ?_⟩
    rw[AVR hk]
    exact (hold p _ h4.2.2.1 (by omega) h2).1
  ·exact .inr ⟨c.wd,mv.length,by omega,by rw[AVS];exact ADJ⟩
 ·intro xx hx
  rcases EV.1 hx with hx|hx
  ·exact c.rch xx hx
  ·rw[F6.1 hx];exact hr hw0
 ·have:=c.de
  rw[ATH]
  exact⟨by omega,fun h1=>by omega⟩
theorem DM.xN {z:Int} {ws ws' :List (BitVec 64)} {l l' :List Int}:∀ {os:List (Int×Int)} {at' w:Int},DM z ws l at' os w->(∀ p x a,TA at' os p x->DB z l p=some a->DB z l' p=some a/\gl 0#64 ws' a.toNat=gl 0#64 ws a.toNat)->DM z ws' l' at' os w
 | [],at',w,h,_=>h
 |o::r,at',w,h,hk=>by
  obtain⟨h1,⟨a,h2,h3⟩,h4⟩:=h
  obtain⟨k1,k2⟩:=hk at' o a (.inl ⟨rfl,rfl⟩) h2
  exact⟨h1,⟨a,k1,by rw[k2];exact h3⟩,h4.xN fun p x a hp ha=>hk p x a (.inr hp) ha⟩
theorem AON {α:Type} {d:α} {f:α->Int} {l:List α} (h:(l.map f).Nodup) {j k:Nat} (hj:j<l.length) (hk:k<l.length) (he:f (gl d l j)=f (gl d l k)):j=k:=by
 have h1:(l.map f)[j]'(by rw[WW];exact hj)=(l.map f)[k]'(by rw[WW];exact hk):=by
  rw[qX,qX,←DZ (d:=d) hj,←DZ (d:=d) hk];exact he
 exact (List.getElem_inj h).1 h1
theorem CI.write {R:Int->Prop} {s0:Sp} {q:Rows} {l:List AH} {B3:AH} {l0:List Int} {EK:List (Int×Int)} (h:Cd s0 q l B3 l0 EK) {t:Sp} {to:AH} {lb:List Int} {m mv:List (Int×Int)} {d e:Nat} (c:CI R s0 q l B3 l0 EK t to lb m mv d e)
  (hd:d<mv.length) {i:AH} {la:List Int} {oa:List (Int×Int)} {pa p:Int} (cc:Cop s0 (BQ l) l B3 t to lb (EK++m) mv d e d i la oa pa p (gl (0,0) m d)) (hj:(e:Int)+1<=(gl (0,0) m d).1) {y ya:Int} (hy:DB (sz s0.1) lb (p+((e:Int)+1))=some y) (xM:DB (sz s0.1) la (pa+((e:Int)+1))=some ya)
  {v:BitVec 64} (hv:Im s0 (BQ l) mv (gl 0#64 s0.2.1 ya.toNat) v):CI R s0 q l B3 l0 EK (t.1,t.2.1.set y.toNat v,t.2.2) to lb m mv d (e+1):=by
 have hz:sz t.1=sz s0.1:=by rw[c.sh]
 have z:=CA s0.1
 have hrd:=cc.dst.HJ
 have DC:=cc.new
 have hp0:=hrd.2.2.1
 have hY:=DD c.cy.vs c.cy.fit c.has (p:=p+((e:Int)+1)) (by omega) (by rw[hz];exact hy)
 rw[hz] at hY
 have hto:=c.cy.fit.1
 have H8:=cL c.has
 have hg:∀ k:Int,0<=k->k≠y->gl 0#64 (t.2.1.set y.toNat v) k.toNat=gl 0#64 t.2.1 k.toNat:=fun k k0 kn=>ADD (by omega)
 have CJ:∀ y1:Int,0<=y1->y1<s0.2.1.length->(fr s0.2.2 (y1 / sz s0.1)).1≠-1->(fr s0.2.2 (y1 / sz s0.1)).1≠B3.1->y1≠y:=by
  intro y1 a0 a1 h1 h2 he
  subst he
  obtain⟨f0,f1⟩:=GM h.hb.bv.vs a0 a1
  have h3:=c.YI _ f0 f1 h1 h2
  have h4:=hY.2.2.2.1
  rw[h3,c.seq] at h4
  exact h2 h4
 have U9:∀ p1 y1,0<=p1->DB (sz s0.1) lb p1=some y1->p1≠p+((e:Int)+1)->0<=y1/\y1≠y:=by
  intro p1 y1 a0 h1 h2
  have h3:=DD c.cy.vs c.cy.fit c.has a0 (by rw[hz];exact h1)
  exact⟨h3.1.1,fun he=>h2 (JW z H8 a0 (by omega) (he ▸ h1) hy)⟩
 have AAD:DM (sz s0.1) (t.2.1.set y.toNat v) lb 0 (EK++m) to.2.2.2.2:=by
  refine c.RK.xN fun p1 x1 a1 ht ha=>⟨ha, ?_⟩
  have h1:=c.RK.ta ht
  have pS:p1≠p+((e:Int)+1):=by
   intro he
   rcases c.RK.apart ht cc.dst.ta with ⟨h2,_⟩|h2|h2 <;> omega
  obtain⟨g0,g1⟩:=U9 p1 a1 h1.2.2.1 ha pS
  exact hg a1 g0 g1
 have ABU:Has (t.1,t.2.1.set y.toNat v,t.2.2) to lb:=c.has
 have K8:∀ {p a:Int} {x:Int×Int},OB t to lb (EK++m) p a x->OB (t.1,t.2.1.set y.toNat v,t.2.2) to lb (EK++m) p a x:=by
  intro p a x ob
  exact⟨ABU,by rw[show sz (t.1,t.2.1.set y.toNat v,t.2.2).1=sz s0.1 from hz];exact AAD,ob.ta,ob.IP⟩
 refine { cy:=⟨c.cy.vs.word hY.1.1 (by rw[hz,hY.2.2.2.1];omega) v,D5.words (by simp) c.cy.fit,c.cy.own,c.cy.out,c.cy.nn⟩,sh:=c.sh,wl:=by rw[<-c.wl];simp,fl:=c.fl,seq:=c.seq,fS:=c.fS,wd:=c.wd,has:=ABU,RK:=AAD,pre:=c.pre,fr1:=c.fr1,mX:=c.mX,YI:=c.YI,wd1:= ?_,wd2:= ?_,wd3:= ?_,ml:=c.ml,vD:= ?_,mvn:=c.mvn,mvb:=c.mvb,cov:=c.cov,rch:=c.rch,de:=⟨c.de.1,fun hh=>by omega⟩ }
 ·intro y1 a0 a1 h1 h2 h3
  simp only
  rw[hg y1 a0 (CJ y1 a0 a1 h1 h2)]
  exact c.wd1 y1 a0 a1 h1 h2 h3
 ·intro xx hx
  obtain⟨k,hk,N9⟩:=F5 (d:=((0,0):Int×Int)) hx
  obtain⟨i',la',oa',pa',p',c2⟩:=c.vD k hk
  have h2:=h.VJ c2.inl c2.src.has c2.src.HJ.2.2.1 c2.src.IP
  rw[N9] at h2
  simp only
  rw[hg xx.1 h2.1.1 (CJ xx.1 h2.1.1 h2.1.2 (by rw[h2.2.2.1];omega) (by rw[h2.2.2.1];exact h2.2.2.2.2.2))]
  exact c.wd2 xx hx
 ·intro p1 y1 a0 a1 hy1
  obtain⟨r',dI⟩:=c.pre
  have h2:DB (sz s0.1) lb p1=some y1:=by rw[dI];exact CS hy1
  obtain⟨g0,g1⟩:=U9 p1 y1 a0 h2 (by omega)
  simp only
  rw[hg y1 g0 g1]
  exact c.wd3 p1 y1 a0 a1 hy1
 ·intro k hk
  by_cases hkd:k=d
  ·subst hkd
   refine⟨i,la,oa,pa,p,cc.inl,cc.src,K8 cc.dst,cc.new,fun j j1 j2 za zb hza hzb=> ?_⟩
   obtain⟨h3,h4⟩:=cc.wds j j1 j2 za zb hza hzb
   simp only
   by_cases hje:j=(e:Int)+1
   ·subst hje
    rw[xM] at hza
    rw[hy] at hzb
    obtain rfl:=VM hza
    obtain rfl:=VM hzb
    have jF:=hY.1.2
    rw[D0 (by omega),AA rfl]
    exact⟨fun _=>hv,fun hh=>absurd ⟨hj,.inr ⟨rfl,by omega⟩⟩ hh⟩
   ·obtain⟨g0,g1⟩:=U9 (p+j) zb (by omega) hzb (by omega)
    rw[hg zb g0 g1]
    refine⟨fun hh=>h3 ⟨hh.1, ?_⟩,fun hh=>h4 fun h5=>hh ⟨h5.1, ?_⟩⟩
    ·rcases hh.2 with h6|⟨h6,h7⟩
     ·omega
     ·exact .inr ⟨rfl,by omega⟩
    ·rcases h5.2 with h6|⟨h6,h7⟩
     ·omega
     ·exact .inr ⟨rfl,by omega⟩
  ·obtain⟨i',la',oa',pa',p',c2⟩:=c.vD k hk
   refine⟨i',la',oa',pa',p',c2.inl,c2.src,K8 c2.dst,c2.new,fun j j1 j2 za zb hza hzb=> ?_⟩
   obtain⟨h3,h4⟩:=c2.wds j j1 j2 za zb hza hzb
   have h5:=c2.dst.HJ
   have A10 :p' +j≠p+((e:Int)+1):=by
    intro he
    rcases c.RK.apart (by have:=c2.dst.ta;exact this) cc.dst.ta with ⟨h6,_⟩|h6|h6
    ·subst h6
     have h7:=c2.dst.IP
     have h8:=cc.dst.IP
     rw[h7] at h8
     exact hkd (AON (d:=((0,0):Int×Int)) c.mvb hk hd (VM h8))
    ·omega
    ·omega
   obtain⟨g0,g1⟩:=U9 (p' +j) zb (by omega) hzb A10
   simp only
   rw[hg zb g0 g1]
   refine⟨fun hh=>h3 ⟨hh.1, ?_⟩,fun hh=>h4 fun h5=>hh ⟨h5.1, ?_⟩⟩
   ·rcases hh.2 with h6|⟨h6,h7⟩
    ·exact .inl h6
    ·exact absurd h6 hkd
   ·rcases h5.2 with h6|⟨h6,h7⟩
    ·exact .inl h6
    ·exact absurd h6 hkd
theorem CI.next {R:Int->Prop} {s0:Sp} {q:Rows} {l:List AH} {B3:AH} {l0:List Int} {EK:List (Int×Int)} {t:Sp} {to:AH} {lb:List Int} {m mv:List (Int×Int)} {d e:Nat} (c:CI R s0 q l B3 l0 EK t to lb m mv d e)
  (hd:d<mv.length) (he:(gl (0,0) m d).1<=(e:Int)):CI R s0 q l B3 l0 EK t to lb m mv (d+1) 0:=by
 refine { c with vD:=fun k hk=> ?_,de:=⟨hd,fun _=>rfl⟩ }
 obtain⟨i,la,oa,pa,p,cc⟩:=c.vD k hk
 refine⟨i,la,oa,pa,p,cc.inl,cc.src,cc.dst,cc.new,fun j j1 j2 ya yb xM hyb=> ?_⟩
 obtain⟨h3,h4⟩:=cc.wds j j1 j2 ya yb xM hyb
 have A11:(j<=(gl (0,0) m k).1/\scn (d+1) 0 k j)↔(j<=(gl (0,0) m k).1/\scn d e k j):=by
  unfold scn
  constructor
  ·rintro⟨a,b|⟨b,b'⟩⟩
   ·by_cases hkd:k=d
    ·subst hkd;exact⟨a,.inr ⟨rfl,by omega⟩⟩
    ·exact⟨a,.inl (by omega)⟩
   ·omega
  ·rintro⟨a,b|⟨b,_⟩⟩
   ·exact⟨a,.inl (by omega)⟩
   ·exact⟨a,.inl (by omega)⟩
 rw[A11]
 exact⟨h3,h4⟩
abbrev RunT:Type:=AH×List (Int×Int)×List (BitVec 64)×Int×List (BitVec 64)×List Fr×List AH
def Er (s0:Sp) (w:Wk):Prop:=w.2.2.2.2≠0/\w.1.2.1.length=s0.2.1.length
def Grf (R:Int->Prop) (s0:Sp) (l:List AH):Prop:=∀ i∈l,∀ la oa pa a x,OB s0 i la oa pa a x->R a->∀ j ya,1<=j->j<=x.1->DB (sz s0.1) la (pa+j)=some ya->Gw s0 l (gl 0#64 s0.2.1 ya.toNat)/\(Wn (BQ l) s0 (gl 0#64 s0.2.1 ya.toNat)->R (((gl 0#64 s0.2.1 ya.toNat).toNat:Int)-1))
theorem AAE {α:Type} {d:α} {l l' r:List α} (h:l' =l++r) {k:Nat} (hk:k<l.length):gl d l' k=gl d l k:=by rw[h,XA hk]
theorem CI.same {R:Int->Prop} {s0:Sp} {q:Rows} {l:List AH} {B3:AH} {l0:List Int} {EK:List (Int×Int)} {t:Sp} {to:AH} {lb:List Int} {m mv:List (Int×Int)} {d e:Nat} (c:CI R s0 q l B3 l0 EK t to lb m mv d e) {k:Nat} {i:AH} {la:List Int} {oa:List (Int×Int)} {pa p p' :Int} {x:Int×Int} (cc:Cop s0 (BQ l) l B3 t to lb (EK++m) mv d e k i la oa pa p x) (p0:0<=p') (hp:DB (sz s0.1) lb p' =some (gl (0,0) mv k).2):p=p' :=by
 have h1:=cc.dst.IP
 rw[c.sh] at h1
 exact JW (CA s0.1) (cL c.has) cc.dst.HJ.2.2.1 p0 h1 hp
theorem AVU {R:Int->Prop} {s0:Sp} {q:Rows} {l:List AH} {B3:AH} {l0:List Int} {EK:List (Int×Int)} (h:Cd s0 q l B3 l0 EK) (hll:l.length<=1000000) (grf:Grf R s0 l) {t:Sp} {to:AH} {lb:List Int} {m mv:List (Int×Int)} {d:Nat} (c:CI R s0 q l B3 l0 EK t to lb m mv d 0)
  (hd:d<mv.length) {S:List Int} (hS:CC (s0.1,t.2) (gl ((0,0):Int×Int) mv d).2=some (S,0)):
  ∃ b,AM (σ:=Int×Wk) (β:=(Int×Wk) ⊕ RunT) (fun s3=>
   if s3.1<(S.length:Int) then
   if 0<=s3.1/\s3.1<(S.length:Int) then
   if 0<=(gl (0:Int) S s3.1.toNat)/\(gl (0:Int) S s3.1.toNat)<(s3.2.1.2.1.length:Int) then
   Option.bind (B7 s3.2 (gl (0#64:(BitVec 64)) s3.2.1.2.1 ((gl (0:Int) S s3.1.toNat).toNat))) (fun r3=>
   if 0<=(gl (0:Int) S s3.1.toNat)/\(gl (0:Int) S s3.1.toNat)<(r3.2.1.2.1.length:Int) then
   some (Sum.inl ((AG (s3.1+1),((r3.2.1.1,r3.2.1.2.1.set ((gl (0:Int) S s3.1.toNat).toNat) r3.1,r3.2.1.2.2),r3.2.2))))
   else none)
   else none
   else none
   else some (Sum.inr (Sum.inl ((AG ((d:Int)+1),s3.2))))) ((0,(t,l,to,mv,0)))=some b∧
  ∃ w',b=Sum.inl ((d:Int)+1,w')/\(Er s0 w' \/∃ t1 to1 lb1 m1 mv1,w' =(t1,l,to1,mv1,0)/\CI R s0 q l B3 l0 EK t1 to1 lb1 m1 mv1 (d+1) 0/\∃ r,mv1=mv++r):=by
 have oB:=VS.O2 h.hb.bv.vs
 have z:=CA s0.1
 obtain⟨i,la,oa,pa,p,cc⟩:=c.vD d hd
 have hz:sz t.1=sz s0.1:=by rw[c.sh]
 have hts:((s0.1,t.2):Sp)=t:=by rw[<-c.sh]
 have hml:=c.AOL h
 have hfs:=cc.dst.fields c.cy.vs c.cy.fit
 rw[hts,hfs] at hS
 obtain rfl:lS (sz t.1) lb p (gl (0,0) m d).1.toNat=S:=by simpa using hS
 rw[hz]
 have hlen:(lS (sz s0.1) lb p (gl (0,0) m d).1.toNat).length=(gl (0,0) m d).1.toNat:=NA _ _ _ _
 have hrd:=cc.dst.HJ
 have hpb:DB (sz s0.1) lb p=some (gl (0,0) mv d).2:=by rw[<-hz];exact cc.dst.IP
 have wX:∀ j:Nat,j<(gl (0,0) m d).1.toNat->∃ y,DB (sz s0.1) lb (p+((j:Int)+1))=some y/\(0<=y/\y<s0.2.1.length)/\gl 0 (lS (sz s0.1) lb p (gl (0,0) m d).1.toNat) j=y:=by
  intro j hj
  obtain⟨y,hy⟩:=cc.dst.z8 c.cy.vs c.cy.fit (k:=(j:Int)+1) (by omega) (by omega)
  have hr:=DD c.cy.vs c.cy.fit c.has (by omega) hy
  rw[c.wl] at hr
  rw[hz] at hy
  refine⟨y,hy,hr.1, ?_⟩
  rw[qJ hj,show p+(1+(j:Int))=p+((j:Int)+1) from by omega,hy];rfl
 generalize hSS:lS (sz s0.1) lb p (gl (0,0) m d).1.toNat=S at*
 generalize hX:gl ((0,0):Int×Int) m d=X at*
 refine AR (fun j (st:Int×Wk)=>st.1=(j:Int)/\(Er s0 st.2\/∃ t1 to1 lb1 m1 mv1,st.2=(t1,l,to1,mv1,0)/\CI R s0 q l B3 l0 EK t1 to1 lb1 m1 mv1 d j/\(∃ r,lb1=lb++r)/\(∃ r,m1=m++r)/\∃ r,mv1=mv++r)) _ X.1.toNat ?_ ?_ ⟨rfl,.inr ⟨t,to,lb,m,mv,rfl,c,⟨[],by rw[G5]⟩,⟨[],by rw[G5]⟩,[],by rw[G5]⟩⟩
 ·rintro j ⟨jj,w⟩ hj ⟨hjj,hw⟩
  simp only at hjj hw
  subst hjj
  obtain⟨y,hy,⟨y0,y1⟩,hgl⟩:=wX j hj
  left
  simp only[I3]
  rw[hgl,AA (by omega),AA (by omega),AD (e:=(j:Int)+1) (by omega) (by omega)]
  rcases hw with ⟨e1,e2⟩|⟨t1,to1,lb1,m1,mv1,rfl,c1,⟨r1,hr1⟩,⟨r2,pZ⟩,r3,hr3⟩
  ·rw[AA (by omega),xK e1,A9]
   simp only
   rw[AA (by omega)]
   exact⟨_,rfl,rfl,.inl ⟨e1,by simpa using e2⟩⟩
  ·have hd1:d<mv1.length:=by rw[hr3,I5];omega
   have hgm:gl ((0,0):Int×Int) m1 d=X:=by rw[AAE pZ (by rw[c.ml];exact hd),hX]
   have hgv:gl ((0,0):Int×Int) mv1 d=gl (0,0) mv d:=AAE hr3 hd
   obtain⟨i1,la1,oa1,pa1,p1,cc1⟩:=c1.vD d hd1
   obtain rfl:p1=p:=c1.same cc1 hrd.2.2.1 (by rw[hgv,hr1];exact CS hpb)
   rw[hgm] at cc1
   have hsr:=cc1.src.HJ
   obtain⟨ya,xM⟩:=cc1.src.z8 h.hb.bv.vs (h.hb.fit (h.sub _ cc1.inl)).1 (k:=(j:Int)+1) (by omega) (by omega)
   have hy1:DB (sz s0.1) lb1 (p1+((j:Int)+1))=some y:=by rw[hr1];exact CS hy
   have hty:gl 0#64 t1.2.1 y.toNat=gl 0#64 s0.2.1 ya.toNat:=by
    refine (cc1.wds ((j:Int)+1) (by omega) (by omega) ya y xM hy1).2 fun hh=> ?_
    rcases hh.2 with h1|⟨_,h1⟩ <;> omega
   obtain⟨gw,gr⟩:=grf i1 cc1.inl la1 oa1 pa1 _ X cc1.src (c1.rch _ (BR hd1)) ((j:Int)+1) ya (by omega) (by omega) xM
   obtain⟨v,v',err,t2,to2,mm,hm,he,hv⟩:=ADF hll c1.cy (mv:=mv1) (by have:=c1.AOL h;omega) (gl 0#64 t1.2.1 y.toNat)
   obtain⟨-, -, -,mH, -⟩:=MvR.cy c1.cy hm
   have hl1:=c1.wl
   rw[AA (by simp only;omega)]
   simp only
   rw[he,A9]
   simp only
   rw[AA (by omega)]
   refine⟨_,rfl,rfl, ?_⟩
   by_cases AAF:err=0
   rotate_left
   ·exact .inl ⟨AAF,by simp only[ER];omega⟩
   ·right
    rw[hty] at hm
    obtain⟨lb2,m2,c2,him,⟨r4,hr4⟩,r5,hr5⟩:=c1.move h gw gr hm AAF
    have hd2:d<(mv1++mm).length:=by rw[I5];omega
    have AYO:gl ((0,0):Int×Int) m2 d=X:=by rw[AAE hr5 (by rw[c1.ml];exact hd1),hgm]
    have AVV:gl ((0,0):Int×Int) (mv1++mm) d=gl (0,0) mv d:=by rw[XA hd1,hgv]
    obtain⟨i2,la2,oa2,pa2,p2,cc2⟩:=c2.vD d hd2
    obtain rfl:p2=p1:=c2.same cc2 hrd.2.2.1 (by rw[AVV,hr4,hr1];exact CS (CS hpb))
    have A12:=cc2.src
    rw[AYO] at A12
    have hii:i2=i1:=by
     have a1:=h.VJ cc1.inl cc1.src.has cc1.src.HJ.2.2.1 cc1.src.IP
     have a2:=h.VJ cc2.inl cc2.src.has cc2.src.HJ.2.2.1 cc2.src.IP
     rw[hgv] at a1
     rw[AVV] at a2
     exact h.hb.uniq (h.sub _ cc2.inl) (h.sub _ cc1.inl) (by rw[<-a2.2.2.1,←a1.2.2.1])
    subst hii
    obtain rfl:=RX cc1.src.has cc2.src.has
    have hpp:pa2=pa1:=by
     have a1:=cc1.src.IP
     have a2:=cc2.src.IP
     rw[hgv] at a1
     rw[AVV] at a2
     exact JW z (cL cc1.src.has) cc2.src.HJ.2.2.1 cc1.src.HJ.2.2.1 a2 a1
    subst hpp
    refine⟨_,to2,lb2,m2,mv1++mm, ?_,c2.write h hd2 cc2 (by rw[AYO];omega) (y:=y) (ya:=ya) (v:=v) (by rw[hr4];exact CS hy1) xM him,⟨r1++r4,by rw[hr4,hr1,I6]⟩,⟨r2++r5,by rw[hr5,pZ,I6]⟩,r3++mm,by rw[hr3,I6]⟩
    rw[hv AAF,AAF]
 ·rintro⟨jj,w⟩ ⟨hjj,hw⟩
  simp only at hjj hw
  subst hjj
  simp only
  rw[AB (by omega),AD (e:=(d:Int)+1) (by omega) (by omega)]
  refine⟨_,rfl,w,rfl, ?_⟩
  rcases hw with hw|⟨t1,to1,lb1,m1,mv1,rfl,c1,⟨r1,hr1⟩,⟨r2,pZ⟩,r3,hr3⟩
  ·exact .inl hw
  ·have hd1:d<mv1.length:=by rw[hr3,I5];omega
   refine .inr ⟨t1,to1,lb1,m1,mv1,rfl,c1.next hd1 ?_,r3,hr3⟩
   rw[AAE pZ (by rw[c.ml];exact hd),hX]
   omega
theorem AVW {R:Int->Prop} {s0:Sp} {q:Rows} {l:List AH} {B3:AH} {l0:List Int} {EK:List (Int×Int)} (h:Cd s0 q l B3 l0 EK) (hll:l.length<=1000000) (grf:Grf R s0 l) {ws:List (BitVec 64)} (hws:ws.length<=1000000) (gws:∀ w∈ws,Gw s0 l w/\(Wn (BQ l) s0 w->R ((w.toNat:Int)-1))):
  ∃ res:RunT,KQ s0 l B3 ws=some res/\(res.2.2.2.1≠0\/∃ t to lb m mv out,res=(to,mv,out,0,t.2.1,t.2.2,l)/\CI R s0 q l B3 l0 EK t to lb m mv mv.length 0/\out.length=ws.length/\∀ k,k<ws.length->Im s0 (BQ l) mv (gl 0#64 ws k) (gl 0#64 out k)):=by
 unfold KQ
 refine AR (fun k (st:List (BitVec 64)×Int×Wk)=>st.2.1=(k:Int)/\st.1.length=k/\(Er s0 st.2.2\/∃ t to lb m mv,st.2.2=(t,l,to,mv,0)/\CI R s0 q l B3 l0 EK t to lb m mv 0 0/\∀ j,j<k->Im s0 (BQ l) mv (gl 0#64 ws j) (gl 0#64 st.1 j))) _ ws.length ?_ ?_ ⟨rfl,rfl,.inr ⟨s0,B3,l0,[],[],rfl,CI.start h,fun j hj=>by omega⟩⟩
 ·rintro k ⟨out,kk,w⟩ hk ⟨HK,hol,hw⟩
  simp only at HK hol hw
  subst HK
  left
  simp only[I3]
  rw[AA (by omega),AA (by omega)]
  rcases hw with ⟨e1,e2⟩|⟨t,to,lb,m,mv,rfl,c,him⟩
  ·rw[xK e1,A9,AA (by simp only[HW];omega),AD (by omega) (by omega)]
   exact⟨_,rfl,rfl,by simp only[I5,HW,hol],.inl ⟨e1,e2⟩⟩
  ·obtain⟨gw,gr⟩:=gws _ (BR (d:=0#64) hk)
   obtain⟨v,v',err,t2,to2,mm,hm,he,hv⟩:=ADF hll c.cy (mv:=mv) (by have:=c.AOL h;omega) (gl 0#64 ws k)
   obtain⟨-, -, -,mH, -⟩:=MvR.cy c.cy hm
   rw[he,A9,AA (by simp only[HW];omega),AD (by omega) (by omega)]
   refine⟨_,rfl,rfl,by simp only[I5,HW,hol], ?_⟩
   by_cases AAF:err=0
   rotate_left
   ·exact .inl ⟨AAF,by simp only;rw[mH,c.wl]⟩
   ·obtain⟨lb2,m2,c2,A13, -, -⟩:=c.move h gw gr hm AAF
    refine .inr ⟨t2,to2,lb2,m2,mv++mm,by rw[AAF],c2,fun j hj=> ?_⟩
    simp only
    by_cases gC:j=k
    ·subst gC
     rw[DZ (xs:=out++ [v']) (by rw[I5,hol];simp),AIQ (by rw[hol];exact ED _)]
     simp only[hol,Nat.sub_self,List.getElem_singleton]
     rw[hv AAF];exact A13
    ·rw[XA (by rw[hol];omega)]
     exact (him j (by omega)).mono fun x hx=>vL _ hx
 ·rintro⟨out,kk,w⟩ ⟨HK,hol,hw⟩
  simp only at HK hol hw
  subst HK
  simp only
  rw[AB (by omega)]
  have key:=AR (f:=fun s2:Int×Wk=>
   if s2.1<(s2.2.2.2.2.1.length:Int) then
   if s2.2.2.2.2.2=0 then
   if 0<=s2.1/\s2.1<(s2.2.2.2.2.1.length:Int) then
   Option.bind (CC (s0.1,s2.2.1.2) ((gl ((0,0):(Int×Int)) s2.2.2.2.2.1 s2.1.toNat).2)) (fun r2=>
   AM (σ:=(Int×Wk)) (β:=((Int×Wk) ⊕ RunT)) (fun s3=>
   if s3.1<(r2.1.length:Int) then
   if 0<=s3.1/\s3.1<(r2.1.length:Int) then
   if 0<=(gl (0:Int) r2.1 s3.1.toNat)/\(gl (0:Int) r2.1 s3.1.toNat)<(s3.2.1.2.1.length:Int) then
   Option.bind (B7 s3.2 (gl (0#64:(BitVec 64)) s3.2.1.2.1 ((gl (0:Int) r2.1 s3.1.toNat).toNat))) (fun r3=>
   if 0<=(gl (0:Int) r2.1 s3.1.toNat)/\(gl (0:Int) r2.1 s3.1.toNat)<(r3.2.1.2.1.length:Int) then
   some (Sum.inl ((AG (s3.1+1),((r3.2.1.1,r3.2.1.2.1.set ((gl (0:Int) r2.1 s3.1.toNat).toNat) r3.1,r3.2.1.2.2),r3.2.2))))
   else none)
   else none
   else none
   else some (Sum.inr (Sum.inl ((AG (s2.1+1),s3.2))))) ((0,s2.2)))
   else none
   else some (Sum.inr ((s2.2.2.2.1,s2.2.2.2.2.1,out,s2.2.2.2.2.2,s2.2.1.2.1,s2.2.1.2.2,s2.2.2.1)))
   else some (Sum.inr ((s2.2.2.2.1,s2.2.2.2.2.1,out,s2.2.2.2.2.2,s2.2.1.2.1,s2.2.1.2.2,s2.2.2.1))))
   (fun k (st:Int×Wk)=>st.1=(k:Int)/\(Er s0 st.2\/∃ t to lb m mv,st.2=(t,l,to,mv,0)/\CI R s0 q l B3 l0 EK t to lb m mv k 0/\∀ j,j<ws.length->Im s0 (BQ l) mv (gl 0#64 ws j) (gl 0#64 out j)))
   (fun (res:RunT)=>(res.2.2.2.1≠0\/∃ t to lb m mv out,res=(to,mv,out,0,t.2.1,t.2.2,l)/\CI R s0 q l B3 l0 EK t to lb m mv mv.length 0/\out.length=ws.length/\∀ k,k<ws.length->Im s0 (BQ l) mv (gl 0#64 ws k) (gl 0#64 out k)))
   16385 ?_ ?_ (s:=(0,w)) ⟨rfl,hw⟩
  ·obtain⟨b,dB,uK⟩:=key
   refine⟨b, ?_,uK⟩
   exact Option.map_eq_some_iff.2 ⟨b,dB,rfl⟩
  ·rintro k ⟨kk,w⟩ hk ⟨HK,hw⟩
   simp only at HK hw
   subst HK
   simp only[I3]
   rcases hw with ⟨e1,e2⟩|⟨t,to,lb,m,mv,rfl,c,him⟩
   ·right
    by_cases h1:(k:Int)<(w.2.2.2.1.length:Int)
    ·rw[AA h1,AB e1];exact⟨_,rfl,.inl e1⟩
    ·rw[AB h1];exact⟨_,rfl,.inl e1⟩
   ·simp only
    by_cases h1:(k:Int)<(mv.length:Int)
    rotate_left
    ·rw[AB h1]
     obtain⟨d1,d2⟩:=c.de
     obtain rfl:k=mv.length:=by omega
     exact .inr ⟨_,rfl,.inr ⟨t,to,lb,m,mv,out,rfl,c,hol,him⟩⟩
    ·left
     have MC :k<mv.length:=by omega
     rw[AA h1,AA trivial,AA ⟨by omega,h1⟩]
     obtain⟨i,la,oa,pa,p,cc⟩:=c.vD k MC
     have hfs:=cc.dst.fields c.cy.vs c.cy.fit
     have hts:((s0.1,t.2):Sp)=t:=by rw[<-c.sh]
     rw[<-hts] at hfs
     obtain⟨b,dB,w',rfl,hb3⟩:=AVU h hll grf c MC hfs
     rw[hfs,A9]
     refine⟨_,dB,rfl, ?_⟩
     rcases hb3 with hb3|⟨t1,to1,lb1,m1,mv1,rfl,c1,r,hr⟩
     ·exact .inl hb3
     ·exact .inr ⟨t1,to1,lb1,m1,mv1,rfl,c1,fun j hj=>(him j hj).mono fun x hx=>by rw[hr];exact vL _ hx⟩
  ·rintro⟨kk,w⟩ ⟨HK,hw⟩
   simp only at HK hw
   subst HK
   rcases hw with ⟨e1,e2⟩|⟨t,to,lb,m,mv,rfl,c,him⟩
   ·by_cases h1:(((16385:Nat):Int))<(w.2.2.2.1.length:Int)
    ·simp only
     rw[AA h1,AB e1];exact⟨_,rfl,.inl e1⟩
    ·simp only
     rw[AB h1];exact⟨_,rfl,.inl e1⟩
   ·have:=c.AOL h
    have:=c.de.1
    omega
structure Sm (s s' :Sp) (n:Int):Prop where
 sh:s'.1=s.1
 wl:s'.2.1.length=s.2.1.length
 fl:s'.2.2.length=s.2.2.length
 fr:∀ x:Int,0<=x->x<s.2.2.length->(Go.V3.fr s.2.2 x).1=n\/(Go.V3.fr s'.2.2 x).1=n->Go.V3.fr s'.2.2 x=Go.V3.fr s.2.2 x
theorem Sm.owned {s s' :Sp} {n:Int} (h:Sm s s' n):Go.V3.owned s'.2.2 n=Go.V3.owned s.2.2 n:=by
 unfold Go.V3.owned
 rw[h.fl]
 refine nN fun x hx=> ?_
 obtain⟨x0,x1⟩:=LW.1 hx
 rw[o7]
 constructor
 ·intro he;rw[<-h.fr x x0 x1 (.inr he)];exact he
 ·intro he;rw[h.fr x x0 x1 (.inl he)];exact he
theorem Sm.symm {s s' :Sp} {n:Int} (h:Sm s s' n):Sm s' s n:=⟨h.sh.symm,h.wl.symm,h.fl.symm,fun x x0 x1 hh=>(h.fr x x0 (by rw[<-h.fl];exact x1) hh.symm).symm⟩
theorem Sm.pa {s s' :Sp} (hv:VS s) {n:Int} (h:Sm s s' n) {f:Int} {l:List Int} (hp:Pa s.2.2 f l) (hn:(Go.V3.fr s.2.2 f).1=n):Pa s'.2.2 f l:=by
 refine hp.iY h.fl fun x hx=> ?_
 obtain⟨x0,x1⟩:=hp.mem hx
 have ho:=(hv.owner hp x hx).1
 rw[HL x0 (by rw[h.fl];exact x1),HL x0 x1,h.fr x x0 x1 (.inl (by rw[ho];exact hn))]
theorem Sm.has {s s' :Sp} (hv:VS s) {i:AH} (hf:D5 s i) (h:Sm s s' i.1) {l:List Int} (hl:Has s i l):Has s' i l:=by
 rcases hl with ⟨hw,rfl⟩|⟨hw,hp⟩
 ·exact .inl ⟨hw,rfl⟩
 ·rcases hf.2 with ⟨hw',_⟩|⟨_,_,hn,_⟩
  ·exact absurd hw' hw
  ·exact .inr ⟨hw,h.pa hv hp hn⟩
theorem Sm.fit {s s' :Sp} (hv:VS s) {i:AH} (hf:D5 s i) (h:Sm s s' i.1):D5 s' i:=by
 refine⟨by rw[h.wl];exact hf.1, ?_⟩
 rcases hf.2 with hw|⟨hw,⟨f0,f1⟩,hn,hst,l,hp,h1,h2,h3⟩
 ·exact .inl hw
 ·have he:=h.fr _ f0 f1 (.inl hn)
  exact .inr ⟨hw,⟨f0,by rw[h.fl];exact f1⟩,by rw[he];exact hn,by rw[he];exact hst,l,h.pa hv hp hn,by rw[h.sh];exact h1,by rw[h.owned];exact h2,h3⟩
theorem Sm.ADL {s s' :Sp} {i:AH} (h:Sm s s' i.1) {l:List Int} {os:List (Int×Int)} (ht:DM (sz s.1) s.2.1 l 0 os i.2.2.2.2) (hw:∀ p x a,TA 0 os p x->DB (sz s.1) l p=some a->gl 0#64 s'.2.1 a.toNat=gl 0#64 s.2.1 a.toNat):DM (sz s'.1) s'.2.1 l 0 os i.2.2.2.2:=by
 rw[h.sh]
 exact ht.xN fun p x a hp ha=>⟨ha,hw p x a hp ha⟩
theorem Sm.ob {s s' :Sp} (hv:VS s) {i:AH} (hf:D5 s i) (h:Sm s s' i.1) {l:List Int} {os:List (Int×Int)} (hw:∀ p x a,TA 0 os p x->DB (sz s.1) l p=some a->gl 0#64 s'.2.1 a.toNat=gl 0#64 s.2.1 a.toNat) {p a:Int} {x:Int×Int} (o:OB s i l os p a x):OB s' i l os p a x:=
 ⟨h.has hv hf o.has,h.ADL o.RK hw,o.ta,by rw[h.sh];exact o.IP⟩
theorem JX {s:Sp} {i:AH} {l:List Int} {os:List (Int×Int)} (hl:Has s i l) (ht:DM (sz s.1) s.2.1 l 0 os i.2.2.2.2) {l' :List Int} {oU :List (Int×Int)} {p a:Int} {x:Int×Int} (o:OB s i l' oU p a x):l' =l/\oU =os:=by
 obtain rfl:=RX o.has hl
 exact⟨rfl,o.RK.fn ht⟩
def gvs (s:Sp):List Int->Sp
 | []=>s
 |n::r=>gvs (gv s n) r
theorem AGB:∀ {C:List Int} {s:Sp},VS s->(∀ n∈C,0<=n)->VS (gvs s C)/\(gvs s C).1=s.1/\(gvs s C).2.1.length=s.2.1.length/\(gvs s C).2.2.length=s.2.2.length∧
  (∀ x:Int,0<=x->x<s.2.2.length->fr (gvs s C).2.2 x=if (fr s.2.2 x).1∈C then (-1, -1, -1) else fr s.2.2 x)∧
  (∀ y:Int,0<=y->y<s.2.1.length->gl 0#64 (gvs s C).2.1 y.toNat=if (fr s.2.2 (y / sz s.1)).1∈C then 0#64 else gl 0#64 s.2.1 y.toNat)
 | [],s,h,_=>⟨h,rfl,rfl,rfl,fun _ _ _=>by simp [gvs],fun _ _ _=>by simp [gvs]⟩
 |n::r,s,h,hn=>by
  have n0:=hn n (by simp)
  obtain⟨i1,i2,i3,i4,i5,i6⟩:=AGB (C:=r) (h.A0G n0) (fun k hk=>hn k (S7 _ hk))
  rw[AHO] at i3 i6
  rw[AN7] at i4 i5
  have e1:(gv s n).1=s.1:=rfl
  rw[e1] at i2 i6
  refine⟨i1,i2,i3,i4,fun x x0 x1=> ?_,fun y y0 y1=> ?_⟩
  ·rw[gvs,i5 x x0 x1,AN6 x0 x1]
   by_cases h1:(fr s.2.2 x).1=n
   ·rw[AA h1,AA (show (fr s.2.2 x).1∈n::r by rw[h1];simp)]
    split <;> rfl
   ·rw[AB h1]
    by_cases h2:(fr s.2.2 x).1∈r
    ·rw[AA h2,AA (S7 _ h2)]
    ·rw[AB h2,AB (fun hh=>by rcases F7.1 hh with hh|hh;exact h1 hh;exact h2 hh)]
  ·obtain⟨f0,f1⟩:=GM h y0 y1
   have hyn:((y.toNat:Nat):Int)=y:=by omega
   have hg:=AY6 h (o:=n) (a:=y.toNat) (by omega)
   rw[hyn] at hg
   rw[gvs,i6 y y0 y1,AN6 f0 f1,hg]
   by_cases h1:(fr s.2.2 (y / sz s.1)).1=n
   ·rw[AA h1,AA h1,AA (show (fr s.2.2 (y / sz s.1)).1∈n::r by rw[h1];simp)]
    split <;> rfl
   ·rw[AB h1,AB h1]
    by_cases h2:(fr s.2.2 (y / sz s.1)).1∈r
    ·rw[AA h2,AA (S7 _ h2)]
    ·rw[AB h2,AB (fun hh=>by rcases F7.1 hh with hh|hh;exact h1 hh;exact h2 hh)]
theorem ADM:∀ (C:List Int) (s:Sp) (n:Int),gvs s (C++ [n])=gv (gvs s C) n
 | [],s,n=>rfl
 |m::r,s,n=>by rw[nQ,gvs,gvs,ADM r]
structure OkR (s:Sp) (q:Rows):Prop where
 pw:∀ k,k<q.length->(gl [] q k).Pairwise fun a b=>a.1<b.1
 e:∀ k,k<q.length->∀ i∈gl [] q k,i.2.1=(k:Int)/\1<=i.2.2.2.2/\D5 s i
 nd:(q.flatten.map (·.1)).Nodup
theorem tP {α:Type} {d:α} {f:α->Int}:∀ {l:List α},(∀ j,0<j->j<l.length->f (gl d l (j-1))<f (gl d l j))->l.Pairwise fun a b=>f a<f b
 | [],_=>List.Pairwise.nil
 | [a],_=>List.pairwise_singleton _ _
 |a::b::r,h=>by
  have ih:(b::r).Pairwise fun a b=>f a<f b:=tP (d:=d) fun j j0 j1=>by
   have:=h (j+1) (by omega) (by simp at j1 ⊢;omega)
   rw[show j+1-1=j-1+1 by omega] at this
   exact this
  have wF:f a<f b:=h 1 (by omega) (by simp)
  refine List.Pairwise.cons (fun x hx=> ?_) ih
  rcases F7.1 hx with rfl|hx
  ·exact wF
  ·exact Int.lt_trans wF ((ZR.1 ih).1 x hx)
theorem cJ.rows {s:Sp} {q:Rows} (h:cJ s q):OkR s q:=by
 refine⟨fun k hk=>tP (d:=((0,0,0,0,0):AH)) (f:=fun i:AH=>i.1) fun j j0 j1=>(h k j hk j1).2.2.1 j0,fun k hk i hi=> ?_,h.nodup⟩
 obtain⟨j,hj,rfl⟩:=F5 (d:=((0,0,0,0,0):AH)) hi
 have:=h k j hk hj
 exact⟨this.1,this.2.1,this.2.2.2.2⟩
theorem OkR.all {s:Sp} {q:Rows} (h:OkR s q):cJ s q:=by
 intro k j hk hj
 obtain⟨h1,h2,h3⟩:=h.e k hk _ (BR (d:=((0,0,0,0,0):AH)) hj)
 refine⟨h1,h2,fun j0=> ?_, ?_,h3⟩
 ·have:=AE8.1 (h.pw k hk) (j-1) j (by omega) hj (by omega)
  rw[DZ (by omega),DZ hj];exact this
 ·have hn:=h.nd
  rw[F_ q k hk,qG (d:=((0,0,0,0,0):AH)) (gl [] q k) j hj,I6,nQ,←I6,ZS,PL] at hn
  intro hm
  exact hn.2.2 _ hm _ (by rw[K0];exact List.mem_cons_self) rfl
def gJ (q:Rows) (C:List Int):Rows:=q.map fun x=>x.filter fun i=>decide (i.1∉C)
theorem NG (q:Rows) (C:List Int):(gJ q C).length=q.length:=by unfold gJ;rw[WW]
theorem AOO {q:Rows} {C:List Int} {k:Nat} (hk:k<q.length):gl [] (gJ q C) k=(gl [] q k).filter fun i=>decide (i.1∉C):=by
 unfold gJ;rw[AOK (d:=[]) hk]
theorem cM (q:Rows) (C:List Int):(gJ q C).flatten=q.flatten.filter fun i=>decide (i.1∉C):=by
 unfold gJ;rw[List.filter_flatten]
theorem ARW (q:Rows):gJ q []=q:=by
 unfold gJ
 conv=>rhs;rw[<-List.map_id q]
 refine T7 fun x _=> ?_
 rw[List.filter_eq_self.2 (fun i _=>by simp)];rfl
theorem AOP (q:Rows) (C:List Int) (n:Int):gJ (gJ q C) [n]=gJ q (C++ [n]):=by
 unfold gJ
 rw[S8]
 refine T7 fun x _=> ?_
 simp only[Function.comp_apply,List.filter_filter]
 refine nN fun i _=> ?_
 simp only[EV,F6,not_or,Bool.decide_and]
 rw[Bool.and_comm]
theorem erase_filter {f:AH->Int}:∀ {xs:List AH} {j:Nat} {n:Int},(xs.map f).Nodup->j<xs.length->f (gl ((0,0,0,0,0):AH) xs j)=n->xs.eraseIdx j=xs.filter fun i=>decide (f i∉[n])
 | [],j,n,_,h,_=>by simp at h
 |a::r,0,n,hd,_,hn=>by
  obtain⟨h1,h2⟩:=T_.1 hd
  have hn' :f a=n:=hn
  rw[List.eraseIdx_cons_zero,qY,AB (by simp [hn']),List.filter_eq_self.2]
  intro x hx
  simp only[F6,IQ]
  intro he
  exact h1 (by rw[hn',←he];exact C0.2 ⟨x,hx,rfl⟩)
 |a::r,j+1,n,hd,hj,hn=>by
  obtain⟨h1,h2⟩:=T_.1 hd
  have YQ :j<r.length:=by simpa using hj
  have hn' :f (gl ((0,0,0,0,0):AH) r j)=n:=hn
  have CJ:f a≠n:=fun he=>h1 (by rw[he,←hn'];exact C0.2 ⟨_,BR YQ,rfl⟩)
  rw[List.eraseIdx_cons_succ,qY,AA (by simpa using CJ),erase_filter h2 YQ hn']
theorem AOQ {q:Rows} (h:(q.flatten.map (·.1)).Nodup) {k:Nat} (hk:k<q.length):((gl [] q k).map (·.1)).Nodup:=by
 rw[F_ q k hk,ZS,ZS,PL] at h
 exact (PL.1 h.2.1).1
theorem AOR {α:Type} {d:α} {q:List α} {k:Nat} {f:α->α} (hk:k<q.length) (h:∀ j,j<q.length->j≠k->f (gl d q j)=gl d q j):q.set k (f (gl d q k))=q.map f:=by
 refine List.ext_getElem (by simp) fun j h1 h2=> ?_
 rw[ER] at h1
 rw[List.getElem_set,qX]
 split
 ·rename_i hj;subst hj;rw[DZ hk]
 ·rename_i hj
  have:=h j h1 (Ne.symm hj)
  rw[DZ h1] at this
  exact this.symm
theorem ADN {q:Rows} (h:(q.flatten.map (·.1)).Nodup) {k j:Nat} (hk:k<q.length) (hj:j<q.length) {i i' :AH} (hi:i∈gl [] q k) (J_ :i' ∈gl [] q j) (he:i.1=i'.1):j=k:=by
 by_cases C7:j=k
 ·exact C7
 exfalso
 have key:∀ {k j:Nat} {i i' :AH},k<q.length->j<q.length->k<j->i∈gl [] q k->i' ∈gl [] q j->i.1=i'.1->False:=by
  intro k j i i' hk hj hkj hi J_ he
  have hn:=h
  rw[F_ q k hk,ZS,ZS,PL] at hn
  have h2:=(PL.1 hn.2.1).2.2
  refine h2 _ (C0.2 ⟨i,hi,rfl⟩) _ (C0.2 ⟨i', ?_,rfl⟩) he
  refine nR.2 ⟨gl [] q j, ?_,J_⟩
  rw[DZ hj,x5]
  exact⟨j-(k+1),by rw[List.length_drop];omega,by rw[List.getElem_drop];congr 1;omega⟩
 rcases GY k j with h1|h1
 ·exact key hk hj h1 hi J_ he
 ·exact key hj hk (by omega) J_ hi he.symm
theorem AKP {q:Rows} (hq:q.length<=1000000) (hx:∀ x∈q,x.length<=1000000) (hn:(q.flatten.map (·.1)).Nodup) {i:AH} (hi:i∈q.flatten):DV q i.1=some (gJ q [i.1],0):=by
 rcases AG7 hq hx i.1 with ⟨h1,_⟩|⟨k,j,⟨hk,hj,hf,_⟩,h2⟩
 ·exact absurd rfl (h1 i hi)
 ·rw[h2,erase_filter (f:=fun i:AH=>i.1) (AOQ hn hk) hj hf]
  congr 2
  unfold gJ
  refine AOR (f:=fun x:List AH=>x.filter fun i' =>decide (i'.1∉[i.1])) hk fun j' YQ CJ=> ?_
  refine List.filter_eq_self.2 fun y hy=> ?_
  simp only[F6,IQ]
  intro he
  exact CJ (ADN hn hk YQ (BR (d:=((0,0,0,0,0):AH)) hj) hy (by rw[hf,he]))
structure OkN (q:Rows):Prop where
 pw:∀ k,k<q.length->(gl [] q k).Pairwise fun a b=>a.1<b.1
 e:∀ k,k<q.length->∀ i∈gl [] q k,i.2.1=(k:Int)/\1<=i.2.2.2.2
 nd:(q.flatten.map (·.1)).Nodup
theorem I2 {q:Rows} {i:AH}:i∈q.flatten↔∃ k,k<q.length/\i∈gl [] q k:=by
 rw[nR]
 constructor
 ·rintro⟨x,hx,hi⟩
  obtain⟨k,hk,rfl⟩:=F5 (d:=([]:List AH)) hx
  exact⟨k,hk,hi⟩
 ·rintro⟨k,hk,hi⟩
  exact⟨_,BR hk,hi⟩
theorem E_ {s:Sp} {q:Rows}:cJ s q↔OkN q/\∀ i∈q.flatten,D5 s i:=by
 constructor
 ·intro h
  have hr:=h.rows
  exact⟨⟨hr.pw,fun k hk i hi=>⟨(hr.e k hk i hi).1,(hr.e k hk i hi).2.1⟩,hr.nd⟩,fun i hi=>(h.fit i hi).1⟩
 ·rintro⟨h,hf⟩
  exact OkR.all ⟨h.pw,fun k hk i hi=>⟨(h.e k hk i hi).1,(h.e k hk i hi).2,hf i (I2.2 ⟨k,hk,hi⟩)⟩,h.nd⟩
theorem OkN.row {q:Rows} (h:OkN q) {i:AH} (hi:i∈q.flatten):(0<=i.2.1/\i.2.1<q.length)/\i∈gl [] q i.2.1.toNat:=by
 obtain⟨k,hk,c_⟩:=I2.1 hi
 have:=(h.e k hk i c_).1
 exact⟨by omega,by rw[show i.2.1.toNat=k by omega];exact c_⟩
theorem NH {q:Rows} {C:List Int} {i:AH}:i∈(gJ q C).flatten↔i∈q.flatten/\i.1∉C:=by
 rw[cM,YN,IQ]
theorem OkN.gJ {q:Rows} (h:OkN q) (C:List Int):OkN (gJ q C):=by
 refine⟨fun k hk=> ?_,fun k hk i hi=> ?_, ?_⟩
 ·rw[NG] at hk
  rw[AOO hk]
  exact (h.pw k hk).sublist vM
 ·rw[NG] at hk
  rw[AOO hk] at hi
  exact h.e k hk i (YN.1 hi).1
 ·rw[cM]
  exact h.nd.sublist (vM.map _)
def rpl (q:Rows) (j:AH):Rows:=q.map fun x=>x.map fun i=>if i.1=j.1 then j else i
theorem lV (q:Rows) (j:AH):(rpl q j).length=q.length:=by unfold rpl;rw[WW]
theorem AOS {q:Rows} {j:AH} {k:Nat} (hk:k<q.length):gl [] (rpl q j) k=(gl [] q k).map fun i=>if i.1=j.1 then j else i:=by
 unfold rpl;rw[AOK (d:=[]) hk]
theorem AI4 (x:List AH) (j:AH):(x.map fun i=>if i.1=j.1 then j else i).map (·.1)=x.map (·.1):=by
 rw[S8]
 refine T7 fun i _=> ?_
 simp only[Function.comp_apply]
 split
 ·rename_i h;exact h.symm
 ·rfl
theorem tQ (q:Rows) (j:AH):(rpl q j).flatten=q.flatten.map fun i=>if i.1=j.1 then j else i:=by
 unfold rpl;rw[List.map_flatten]
theorem OkN.rpl {q:Rows} (h:OkN q) {j:AH} (hj:∀ i∈q.flatten,i.1=j.1->i.2.1=j.2.1) (hw:1<=j.2.2.2.2):OkN (rpl q j):=by
 refine⟨fun k hk=> ?_,fun k hk i hi=> ?_, ?_⟩
 ·rw[lV] at hk
  rw[AOS hk]
  have:=h.pw k hk
  have e:∀ l:List AH,l.Pairwise (fun a b:AH=>a.1<b.1)↔(l.map (·.1)).Pairwise (·< ·):=fun l=>by rw[List.pairwise_map]
  rw[e,AI4,←e];exact this
 ·rw[lV] at hk
  rw[AOS hk] at hi
  obtain⟨i',J_,rfl⟩:=C0.1 hi
  have:=h.e k hk i' J_
  split
  ·rename_i he
   exact⟨by rw[<-hj i' (I2.2 ⟨k,hk,J_⟩) he];exact this.1,hw⟩
  ·exact this
 ·rw[tQ,AI4];exact h.nd
theorem AI5 {q:Rows} {j i:AH}:i∈(rpl q j).flatten↔(i∈q.flatten/\i.1≠j.1)\/(i=j/\∃ i' ∈q.flatten,i'.1=j.1):=by
 rw[tQ,C0]
 constructor
 ·rintro⟨i',J_,rfl⟩
  split
  ·rename_i h;exact .inr ⟨rfl,i',J_,h⟩
  ·rename_i h;exact .inl ⟨J_,h⟩
 ·rintro (⟨h1,h2⟩|⟨rfl,i',h1,h2⟩)
  ·exact⟨i,h1,by rw[AB h2]⟩
  ·exact⟨i',h1,by rw[AA h2]⟩
theorem AI6 {f:AH->Int} {j:AH}:∀ {xs:List AH} {k:Nat},(xs.map f).Nodup->k<xs.length->f (gl ((0,0,0,0,0):AH) xs k)=f j->xs.set k j=xs.map fun i=>if f i=f j then j else i
 | [],k,_,h,_=>by simp at h
 |a::r,0,hd,_,hn=>by
  obtain⟨h1,h2⟩:=T_.1 hd
  have hn' :f a=f j:=hn
  rw[List.set_cons_zero,K0,AA hn']
  congr 1
  conv=>lhs;rw[<-List.map_id r]
  refine T7 fun x hx=> ?_
  rw[AB (fun he=>h1 (by rw[hn',←he];exact C0.2 ⟨x,hx,rfl⟩))];rfl
 |a::r,k+1,hd,hk,hn=>by
  obtain⟨h1,h2⟩:=T_.1 hd
  have MC :k<r.length:=by simpa using hk
  have hn' :f (gl ((0,0,0,0,0):AH) r k)=f j:=hn
  have CJ:f a≠f j:=fun he=>h1 (by rw[he,←hn'];exact C0.2 ⟨_,BR MC,rfl⟩)
  rw[List.set_cons_succ,K0,AB CJ,AI6 h2 MC hn']
theorem tR {q:Rows} (hq:q.length<=1000000) (hx:∀ x∈q,x.length<=1000000) (h:OkN q) {i j:AH} (hi:i∈q.flatten) (hj:i.1=j.1) (hb:i.2.1=j.2.1):CX q j=some (rpl q j,0):=by
 obtain⟨hr,TE⟩:=h.row hi
 rw[hb] at hr TE
 rcases AD6 hq hx (j:=j) hr.1 hr.2 with ⟨h1,_⟩|⟨k,hk,hf,h2⟩
 ·exact absurd hj (h1 i TE)
 ·have C7:j.2.1.toNat<q.length:=by omega
  rw[h2,AI6 (f:=fun i:AH=>i.1) (AOQ h.nd C7) hk hf]
  congr 2
  unfold rpl
  refine AOR (f:=fun x:List AH=>x.map fun i' =>if i'.1=j.1 then j else i') C7 fun j' YQ CJ=> ?_
  conv=>rhs;rw[<-List.map_id (gl [] q j')]
  refine T7 fun y hy=> ?_
  rw[AB]
  ·rfl
  ·intro he
   exact CJ (ADN h.nd C7 YQ TE hy (by rw[he,hj]))
def addr (q:Rows) (j:AH):Rows:=q.set j.2.1.toNat (gl [] q j.2.1.toNat++ [j])
theorem ADO {q:Rows} {j i:AH} (b1:j.2.1.toNat<q.length):i∈(addr q j).flatten↔i∈q.flatten\/i=j:=by
 have hg:∀ k,k<q.length->gl [] (addr q j) k=if k=j.2.1.toNat then gl [] q k++ [j] else gl [] q k:=by
  intro k hk
  unfold addr
  rw[D0 b1]
  split
  ·rename_i h;rw[h]
  ·rfl
 have hl:(addr q j).length=q.length:=by unfold addr;rw[ER]
 rw[I2,I2,hl]
 constructor
 ·rintro⟨k,hk,hi⟩
  rw[hg k hk] at hi
  split at hi
  ·rcases EV.1 hi with hi|hi
   ·exact .inl ⟨k,hk,hi⟩
   ·exact .inr (F6.1 hi)
  ·exact .inl ⟨k,hk,hi⟩
 ·rintro (⟨k,hk,hi⟩|rfl)
  ·refine⟨k,hk, ?_⟩
   rw[hg k hk]
   split
   ·exact vL _ hi
   ·exact hi
  ·exact⟨_,b1,by rw[hg _ b1,AA rfl];simp⟩
theorem cN (q:Rows) (j:AH):(addr q j).length=q.length:=by unfold addr;rw[ER]
theorem OkN.addr {q:Rows} (h:OkN q) {j:AH} (b0:0<=j.2.1) (b1:j.2.1<q.length) (hw:1<=j.2.2.2.2) (hj:∀ i∈q.flatten,i.1<j.1):OkN (addr q j):=by
 have hb:j.2.1.toNat<q.length:=by omega
 have hl:(Go.Proofs.YthmiilamegpllaaGreat.addr q j).length=q.length:=cN q j
 have hg:∀ k,k<q.length->gl [] (Go.Proofs.YthmiilamegpllaaGreat.addr q j) k=if k=j.2.1.toNat then gl [] q k++ [j] else gl [] q k:=by
  intro k hk
  unfold Go.Proofs.YthmiilamegpllaaGreat.addr
  rw[D0 hb]
  split
  ·rename_i h;rw[h]
  ·rfl
 refine⟨fun k hk=> ?_,fun k hk i hi=> ?_, ?_⟩
 ·rw[hl] at hk
  rw[hg k hk]
  split
  ·rw[qZ]
   refine⟨h.pw k hk,List.pairwise_singleton _ _,fun a ha b RZ => ?_⟩
   rw[F6.1 RZ]
   exact hj a (I2.2 ⟨k,hk,ha⟩)
  ·exact h.pw k hk
 ·rw[hl] at hk
  rw[hg k hk] at hi
  split at hi
  ·rename_i he
   rcases EV.1 hi with hi|hi
   ·exact h.e k hk i hi
   ·rw[F6.1 hi];exact⟨by omega,hw⟩
  ·exact h.e k hk i hi
 ·have e1:(Go.Proofs.YthmiilamegpllaaGreat.addr q j).flatten=(q.take j.2.1.toNat).flatten++((gl [] q j.2.1.toNat++ [j])++(q.drop (j.2.1.toNat+1)).flatten):=by
   rw[F_ (Go.Proofs.YthmiilamegpllaaGreat.addr q j) _ (by rw[hl];exact hb),hg _ hb,AA rfl]
   unfold Go.Proofs.YthmiilamegpllaaGreat.addr
   rw[List.take_set_of_le (ED _),List.drop_set_of_lt (by omega)]
  have hn:=h.nd
  rw[F_ q _ hb] at hn
  have hp:((q.take j.2.1.toNat).flatten++((gl [] q j.2.1.toNat++ [j])++(q.drop (j.2.1.toNat+1)).flatten)).Perm (j::((q.take j.2.1.toNat).flatten++(gl [] q j.2.1.toNat++(q.drop (j.2.1.toNat+1)).flatten))):=by
   rw[I6,List.singleton_append,←I6,←I6]
   exact List.perm_middle
  rw[e1]
  refine ((hp.map (·.1)).nodup_iff).2 ?_
  rw[K0,T_]
  refine⟨fun hm=> ?_,hn⟩
  rw[<-F_ q _ hb] at hm
  obtain⟨i,hi,he⟩:=C0.1 hm
  have:=hj i hi
  omega
theorem AOT {q:Rows} (hq:q.length<=1000000) (hx:∀ x∈q,x.length<=1000000) {j:AH} (b0:0<=j.2.1) (b1:j.2.1<q.length) (hj:∀ i∈q.flatten,i.1<j.1):EY q j=some (addr q j,0):=
 ARK hq hx b0 b1 fun i hi=>hj i (I2.2 ⟨_,by omega,hi⟩)
end Go.Proofs.YthmiilamegpllaaGreat
namespace Go.Proofs.YthmiilamegpllaaGreat
open Go Go.V3
def Slot (s:Sp) (q:Rows) (y:Int):Prop:=∃ i∈q.flatten,∃ l os p a x j,OB s i l os p a x/\1<=j/\j<=x.1/\DB (sz s.1) l (p+j)=some y
def Rf (s:Sp) (q:Rows) (w:BitVec 64):Prop:=w=0#64\/IsO s q ((w.toNat:Int)-1)
structure HI (s:Sp) (q:Rows) (n:Int) (ss:Ss) (r:Ro):Prop where
 hb:HB s q
 seq:∀ i∈q.flatten,i.1<n
 n0:0<=n
 ref:∀ y,Slot s q y->Rf s q (gl 0#64 s.2.1 y.toNat)
 ro:X2 r
 root:∀ i:Nat,i<32->gl false r.1 i=true->gl 0#64 r.2 i≠0#64/\IsO s q (((gl 0#64 r.2 i).toNat:Int)-1)
 rv:RV ss
 ins:∀ f g y,In ss f g y->Slot s q y/\f=y / sz s.1
 rem:∀ y,Slot s q y->∀ f g,Pr s y (gl 0#64 s.2.1 y.toNat) f g->In ss f g y
theorem VS.words {s:Sp} (h:VS s) {ws:List (BitVec 64)} (hl:ws.length=s.2.1.length) (hz:∀ y:Int,0<=y->y<s.2.1.length->(Go.V3.fr s.2.2 (y / sz s.1)).1= -1->gl 0#64 ws y.toNat=gl 0#64 s.2.1 y.toNat):VS (s.1,ws,s.2.2):=by
 refine⟨h.sh,h.n,by simp only;rw[hl];exact h.w,fun i i0 i1=> ?_,h.inj,h.acy⟩
 rcases h.fr i i0 i1 with ⟨h1,h2⟩|h1
 ·refine .inl ⟨h1,fun a a0 a1=> ?_⟩
  simp only at a0 a1 ⊢
  have z:=CA s.1
  have e1:(a:Int) / sz s.1=i:=by
   refine Int.le_antisymm (Int.lt_add_one_iff.1 ((AAS z).2 a1)) ((xX z).2 a0)
  have h3:(i+1)*sz s.1<=s.2.2.length*sz s.1:=AAO (by simp only at i1;omega) (by omega)
  have h4:=hz a (by omega) (by rw[h.w];omega) (by
   rw[e1]
   have:Go.V3.fr s.2.2 i=(-1, -1, -1):=h1
   rw[this])
  rw[I3] at h4
  rw[h4]
  exact h2 a a0 a1
 ·exact .inr h1
theorem TA.app {p:Int} {x:Int×Int}:∀ {os m:List (Int×Int)} {a:Int},TA a os p x->TA a (os++m) p x
 | [],m,a,h=>h.elim
 |o::r,m,a,h=>by
  rcases h with h|h
  ·exact .inl h
  ·exact .inr h.app
structure N4 (R:Int->Prop) (s0:Sp) (q:Rows) (n:Int) (ss:Ss) (r:Ro) (l:List AH) (B3:AH) (l0:List Int) (EK:List (Int×Int)) (t:Sp) (to:AH) (lb:List Int) (m mv:List (Int×Int)) (ys:List Int) (ws:List (BitVec 64)) (r' :Ro):Prop where
 hi:HI s0 q n ss r
 pre:∀ i∈l,∀ j∈q.flatten,j∉l->i.2.1*4294967296+i.1<j.2.1*4294967296+j.1
 tgt:B3∈q.flatten\/(B3.1=n/\B3.2.2.2.2=0/\0<=B3.2.1/\B3.2.1<q.length)
 cd:Cd s0 q l B3 l0 EK
 ci:CI R s0 q l B3 l0 EK t to lb m mv mv.length 0
 yi:∀ y,y∈ys↔InF ss (tO s0 (BQ l) s0.2.2.length) y/\(0<=y/\y<s0.2.1.length)/\Wn (BQ l) s0 (gl 0#64 s0.2.1 y.toNat)
 wl:ws.length=s0.2.1.length
 w1:∀ y∈ys,Im s0 (BQ l) mv (gl 0#64 s0.2.1 y.toNat) (gl 0#64 ws y.toNat)
 w2:∀ y:Int,0<=y->y∉ys->gl 0#64 ws y.toNat=gl 0#64 t.2.1 y.toNat
 ru:r'.1=r.1
 rl:r'.2.length=r.2.length
 r1:∀ i:Nat,i<32->gl false r.1 i=true->Im s0 (BQ l) mv (gl 0#64 r.2 i) (gl 0#64 r'.2 i)
 r2:∀ i:Nat,i<32->gl false r.1 i=false->gl 0#64 r'.2 i=gl 0#64 r.2 i
structure Sin (s0:Sp) (ss:Ss) (l:List AH) (EK:List (Int×Int)) (t:Sp) (to:AH) (lb:List Int) (m mv:List (Int×Int)) (ys:List Int) (ws:List (BitVec 64)) (T4 :Ss):Prop where
 srv:RV T4
 sin:∀ f g y,In T4 f g y↔In (lP ss (tO s0 (BQ l) s0.2.2.length)) f g y\/((y∈ys\/∃ k,k<mv.length/\∃ p x j,OB t to lb (EK++m) p (gl (0,0) mv k).2 x/\1<=j/\j<=x.1/\DB (sz s0.1) lb (p+j)=some y)/\Pr (t.1,ws,t.2.2) y (gl 0#64 ws y.toNat) f g)
def WU (q:Rows) (l:List AH) (B3 to:AH):Rows:=if B3.2.2.2.2>0 then rpl (gJ q (BQ l)) to else if to.2.2.2.2>0 then addr (gJ q (BQ l)) to else gJ q (BQ l)
section
variable {R:Int->Prop} {s0:Sp} {q:Rows} {n:Int} {ss:Ss} {r:Ro} {l:List AH} {B3:AH} {l0:List Int} {EK:List (Int×Int)} {t:Sp} {to:AH} {lb:List Int} {m mv:List (Int×Int)} {ys:List Int} {ws:List (BitVec 64)} {r' :Ro}
theorem N4.fU (h:N4 R s0 q n ss r l B3 l0 EK t to lb m mv ys ws r') {i:AH} (hi:i∈q.flatten):i∉l↔i.1∉BQ l:=by
 constructor
 ·intro h1 h2
  obtain⟨j,hj,he⟩:=J4.1 h2
  rw[h.hi.hb.uniq (h.cd.sub j hj) hi he] at hj
  exact h1 hj
 ·intro h1 h2
  exact h1 (J4.2 ⟨i,h2,rfl⟩)
theorem N4.mem (h:N4 R s0 q n ss r l B3 l0 EK t to lb m mv ys ws r') {i:AH}:i∈(WU q l B3 to).flatten↔(i∈q.flatten/\i∉l/\i.1≠B3.1)\/(i=to/\0<to.2.2.2.2):=by
 have AGC:=h.ci.seq
 have tS:=h.ci.fS
 have hwd:=h.ci.wd
 unfold WU
 by_cases h1:B3.2.2.2.2>0
 ·rw[AA h1,AI5]
  have ht:B3∈q.flatten:=by
   rcases h.tgt with ht|ht
   ·exact ht
   ·omega
  rw[AGC]
  constructor
  ·rintro (⟨h2,h3⟩|⟨rfl,_⟩)
   ·obtain⟨h4,h5⟩:=NH.1 h2
    exact .inl ⟨h4,(h.fU h4).2 h5,h3⟩
   ·exact .inr ⟨rfl,by omega⟩
  ·rintro (⟨h2,h3,h4⟩|⟨rfl,h2⟩)
   ·exact .inl ⟨NH.2 ⟨h2,(h.fU h2).1 h3⟩,h4⟩
   ·exact .inr ⟨rfl,B3,NH.2 ⟨ht,h.cd.out⟩,rfl⟩
 ·have VK:∀ i∈q.flatten,i.1≠B3.1:=by
   intro i hi he
   rcases h.tgt with ht|ht
   ·have:=(h.hi.hb.fit ht).2;omega
   ·have:=h.hi.seq i hi;omega
  rw[AB h1]
  by_cases h2:to.2.2.2.2>0
  ·rw[AA h2,ADO]
   ·constructor
    ·rintro (h3|rfl)
     ·obtain⟨h4,h5⟩:=NH.1 h3
      exact .inl ⟨h4,(h.fU h4).2 h5,VK i h4⟩
     ·exact .inr ⟨rfl,h2⟩
    ·rintro (⟨h3,h4,_⟩|⟨rfl,_⟩)
     ·exact .inl (NH.2 ⟨h3,(h.fU h3).1 h4⟩)
     ·exact .inr rfl
   ·rw[NG,tS]
    rcases h.tgt with ht|ht
    ·have:=(h.hi.hb.fit ht).2;omega
    ·omega
  ·rw[AB h2,NH]
   constructor
   ·rintro⟨h4,h5⟩
    exact .inl ⟨h4,(h.fU h4).2 h5,VK i h4⟩
   ·rintro (⟨h3,h4,_⟩|⟨rfl,h3⟩)
    ·exact⟨h3,(h.fU h3).1 h4⟩
    ·omega
theorem N4.ysl (h:N4 R s0 q n ss r l B3 l0 EK t to lb m mv ys ws r') {y:Int} (hy:y∈ys):∃ i∈q.flatten,i∉l/\∃ la os p a x j,OB s0 i la os p a x/\1<=j/\j<=x.1/\DB (sz s0.1) la (p+j)=some y:=by
 obtain⟨⟨f,g,h1,h2,h3⟩,_,_⟩:=(h.yi y).1 hy
 obtain⟨⟨i,hi,la,os,p,a,x,j,o,j1,j2,ha⟩,hf⟩:=h.hi.ins f g y h1
 refine⟨i,hi, ?_,la,os,p,a,x,j,o,j1,j2,ha⟩
 rw[h.fU hi]
 intro hC
 have hr:=DD h.hi.hb.bv.vs (h.hi.hb.fit hi).1 o.has (by have:=o.HJ;omega) ha
 exact h3 (X4.2 ⟨by rw[hf];exact hr.2.2.1,by rw[hf,hr.2.2.2.1];exact hC⟩)
theorem N4.frt (h:N4 R s0 q n ss r l B3 l0 EK t to lb m mv ys ws r') {x:Int} (x0:0<=x) (x1:x<s0.2.2.length) (h1:(fr s0.2.2 x).1≠-1):(fr t.2.2 x).1=(fr s0.2.2 x).1:=by
 by_cases h2:(fr s0.2.2 x).1=B3.1
 ·rw[h.ci.mX x x0 x1 h2,h2]
 ·rw[h.ci.YI x x0 x1 h1 h2]
theorem N4.vsT (h:N4 R s0 q n ss r l B3 l0 EK t to lb m mv ys ws r'):VS (t.1,ws,t.2.2):=by
 refine VS.words h.ci.cy.vs (by rw[h.wl,h.ci.wl]) fun y y0 y1 hf=>h.w2 y y0 fun hy=> ?_
 obtain⟨i,hi,_,la,os,p,a,x,j,o,j1,j2,ha⟩:=h.ysl hy
 have hr:=DD h.hi.hb.bv.vs (h.hi.hb.fit hi).1 o.has (by have:=o.HJ;omega) ha
 have hi0:=(h.hi.hb.fit hi).1.1.1
 have:=h.frt hr.2.2.1.1 hr.2.2.1.2 (by rw[hr.2.2.2.1];omega)
 rw[h.ci.sh] at hf
 rw[hf,hr.2.2.2.1] at this
 omega
def MU (t:Sp) (ws:List (BitVec 64)) (l:List AH):Sp:=gvs (t.1,ws,t.2.2) (BQ l)
theorem N4.aft (h:N4 R s0 q n ss r l B3 l0 EK t to lb m mv ys ws r'):VS (MU t ws l)/\(MU t ws l).1=s0.1/\(MU t ws l).2.1.length=s0.2.1.length/\(MU t ws l).2.2.length=s0.2.2.length∧
  (∀ x:Int,0<=x->x<s0.2.2.length->fr (MU t ws l).2.2 x=if (fr t.2.2 x).1∈BQ l then (-1, -1, -1) else fr t.2.2 x)∧
  (∀ y:Int,0<=y->y<s0.2.1.length->gl 0#64 (MU t ws l).2.1 y.toNat=if (fr t.2.2 (y / sz s0.1)).1∈BQ l then 0#64 else gl 0#64 ws y.toNat):=by
 obtain⟨h1,h2,h3,h4,h5,h6⟩:=AGB (C:=BQ l) h.vsT h.cd.nn
 simp only at h2 h3 h4 h5 h6
 have hz:sz t.1=sz s0.1:=by rw[h.ci.sh]
 rw[hz] at h6
 rw[h.wl] at h3 h6
 rw[h.ci.fl] at h4 h5
 exact⟨h1,h2.trans h.ci.sh,h3,h4,h5,h6⟩
theorem N4.smO (h:N4 R s0 q n ss r l B3 l0 EK t to lb m mv ys ws r') {i:AH} (hi:i∈q.flatten) (hl:i∉l) (CJ:i.1≠B3.1):Sm s0 (MU t ws l) i.1:=by
 obtain⟨h1,h2,h3,h4,h5,h6⟩:=h.aft
 have hi0:=(h.hi.hb.fit hi).1.1.1
 have hC:=(h.fU hi).1 hl
 refine⟨h2,h3,h4,fun x x0 x1 hh=> ?_⟩
 have e5:=h5 x x0 x1
 rcases hh with hh|hh
 ·have e1:=h.ci.YI x x0 x1 (by rw[hh];omega) (by rw[hh];exact CJ)
  rw[e5,AB (by rw[e1,hh];exact hC),e1]
 ·rw[e5] at hh ⊢
  split at hh
  ·simp only at hh;omega
  ·rename_i h7
   rw[AB h7]
   exact h.ci.fr1 x x0 x1 (by rw[hh];exact CJ)
theorem N4.smT (h:N4 R s0 q n ss r l B3 l0 EK t to lb m mv ys ws r'):Sm t (MU t ws l) to.1:=by
 obtain⟨h1,h2,h3,h4,h5,h6⟩:=h.aft
 have hi0:=h.ci.cy.fit.1.1
 refine⟨by rw[h2,h.ci.sh],by rw[h3,h.ci.wl],by rw[h4,h.ci.fl],fun x x0 x1 hh=> ?_⟩
 rw[h.ci.fl] at x1
 have e5:=h5 x x0 x1
 rcases hh with hh|hh
 ·rw[e5,AB (by rw[hh];exact h.ci.cy.out)]
 ·rw[e5] at hh ⊢
  split at hh
  ·simp only at hh;omega
  ·rename_i h7
   rw[AB h7]
theorem N4.wO (h:N4 R s0 q n ss r l B3 l0 EK t to lb m mv ys ws r') {i:AH} (hi:i∈q.flatten) (hl:i∉l) {la:List Int} (hla:Has s0 i la) {p y:Int} (p0:0<=p) (p1:p<i.2.2.2.2) (hy:DB (sz s0.1) la p=some y) (hny:y∉ys):
  gl 0#64 (MU t ws l).2.1 y.toNat=gl 0#64 s0.2.1 y.toNat:=by
 obtain⟨h1,h2,h3,h4,h5,h6⟩:=h.aft
 have hf:=h.hi.hb.fit hi
 have hr:=DD h.hi.hb.bv.vs hf.1 hla p0 hy
 have hC:=(h.fU hi).1 hl
 have hi0:=hf.1.1.1
 have ho:=h.frt hr.2.2.1.1 hr.2.2.1.2 (by rw[hr.2.2.2.1];omega)
 rw[hr.2.2.2.1] at ho
 rw[h6 y hr.1.1 hr.1.2,AB (by rw[ho];exact hC),h.w2 y hr.1.1 hny]
 by_cases CJ:i.1=B3.1
 ·rcases h.tgt with ht|ht
  ·obtain rfl:=h.hi.hb.uniq hi ht CJ
   obtain rfl:=RX hla h.cd.has
   exact h.ci.wd3 p y p0 p1 hy
  ·have:=h.hi.seq i hi;omega
 ·refine h.ci.wd1 y hr.1.1 hr.1.2 (by rw[hr.2.2.2.1];omega) (by rw[hr.2.2.2.1];exact CJ) fun hm=> ?_
  obtain⟨z',hz,he⟩:=C0.1 hm
  obtain⟨k,hk,rfl⟩:=F5 (d:=((0,0):Int×Int)) hz
  obtain⟨i',la',oa',pa',p',cc⟩:=h.ci.vD k hk
  have h7:=h.cd.VJ cc.inl cc.src.has cc.src.HJ.2.2.1 cc.src.IP
  rw[he] at h7
  rw[h7.2.2.1] at hr
  exact hC (by rw[<-hr.2.2.2.1];exact h7.2.2.2.1)
theorem N4.head (h:N4 R s0 q n ss r l B3 l0 EK t to lb m mv ys ws r') {i:AH} (hi:i∈q.flatten) {la:List Int} {os:List (Int×Int)} {p a:Int} {x:Int×Int} (o:OB s0 i la os p a x):a∉ys:=by
 intro hy
 obtain⟨i',J_,_,la',oU,p',a',x',j,o',j1,j2,ha⟩:=h.ysl hy
 have r1:=o.HJ
 have r2:=o'.HJ
 have c1:=DD h.hi.hb.bv.vs (h.hi.hb.fit hi).1 o.has r1.2.2.1 o.IP
 have c2:=DD h.hi.hb.bv.vs (h.hi.hb.fit J_).1 o'.has (by omega) ha
 obtain rfl:=h.hi.hb.uniq hi J_ (by rw[<-c1.2.2.2.1,←c2.2.2.2.1])
 obtain⟨rfl,rfl⟩:=JX o.has o.RK o'
 have:=JW (CA s0.1) (cL o.has) r1.2.2.1 (by omega) o.IP ha
 rcases o.RK.apart o.ta o'.ta with ⟨h3,_⟩|h3|h3 <;> omega
theorem N4.obO (h:N4 R s0 q n ss r l B3 l0 EK t to lb m mv ys ws r') {i:AH} (hi:i∈q.flatten) (hl:i∉l) (CJ:i.1≠B3.1) {la:List Int} {os:List (Int×Int)} (hla:Has s0 i la) (htl:DM (sz s0.1) s0.2.1 la 0 os i.2.2.2.2) {p a:Int} {x:Int×Int}:
  OB s0 i la os p a x↔OB (MU t ws l) i la os p a x:=by
 have hs:=h.smO hi hl CJ
 have hv:=h.hi.hb.bv.vs
 have hf:=(h.hi.hb.fit hi).1
 have hw:∀ p x a,TA 0 os p x->DB (sz s0.1) la p=some a->gl 0#64 (MU t ws l).2.1 a.toNat=gl 0#64 s0.2.1 a.toNat:=by
  intro p x a hp ha
  have ho:OB s0 i la os p a x:=⟨hla,htl,hp,ha⟩
  have hr:=ho.HJ
  exact h.wO hi hl hla hr.2.2.1 (by omega) ha (h.head hi ho)
 constructor
 ·exact fun o=>hs.ob hv hf hw o
 ·intro o
  exact⟨hla,htl,o.ta,by have:=o.IP;rw[hs.sh] at this;exact this⟩
theorem N4.wT (h:N4 R s0 q n ss r l B3 l0 EK t to lb m mv ys ws r') {p y:Int} (p0:0<=p) (hy:DB (sz s0.1) lb p=some y):(0<=y/\y<s0.2.1.length)/\gl 0#64 (MU t ws l).2.1 y.toNat=gl 0#64 ws y.toNat:=by
 obtain⟨h1,h2,h3,h4,h5,h6⟩:=h.aft
 have hr:=DD h.ci.cy.vs h.ci.cy.fit h.ci.has p0 (by rw[h.ci.sh];exact hy)
 rw[h.ci.sh,h.ci.wl] at hr
 exact⟨hr.1,by rw[h6 y hr.1.1 hr.1.2,AB (by rw[hr.2.2.2.1];exact h.ci.cy.out)]⟩
theorem N4.yT (h:N4 R s0 q n ss r l B3 l0 EK t to lb m mv ys ws r') {p y:Int} (p0:0<=p) (hy:DB (sz s0.1) lb p=some y) (hm:y∈ys):B3∈q.flatten/\∃ p' a x j,OB s0 B3 l0 EK p' a x/\1<=j/\j<=x.1/\p=p' +j:=by
 obtain⟨i',J_,vT,la',oU,p',a',x',j,o',j1,j2,ha⟩:=h.ysl hm
 have r2:=o'.HJ
 have hf:=(h.hi.hb.fit J_).1
 have c2:=DD h.hi.hb.bv.vs hf o'.has (by omega) ha
 have hr:=DD h.ci.cy.vs h.ci.cy.fit h.ci.has p0 (by rw[h.ci.sh];exact hy)
 rw[h.ci.sh] at hr
 have ho:=h.frt c2.2.2.1.1 c2.2.2.1.2 (by rw[c2.2.2.2.1];have:=hf.1.1;omega)
 rw[c2.2.2.2.1,hr.2.2.2.1,h.ci.seq] at ho
 rcases h.tgt with ht|ht
 ·obtain rfl:=h.hi.hb.uniq ht J_ ho
  obtain⟨rfl,rfl⟩:=JX h.cd.has h.cd.RK o'
  obtain⟨r0,hr0⟩:=h.ci.pre
  have h7:DB (sz s0.1) lb (p' +j)=some y:=by rw[hr0];exact CS ha
  exact⟨ht,p',a',x',j,o',j1,j2,JW (CA s0.1) (cL h.ci.has) p0 (by omega) hy h7⟩
 ·have:=h.hi.seq i' J_;omega
theorem N4.AOU (h:N4 R s0 q n ss r l B3 l0 EK t to lb m mv ys ws r') {p a:Int} {x:Int×Int} (hp:TA 0 (EK++m) p x) (ha:DB (sz s0.1) lb p=some a):gl 0#64 (MU t ws l).2.1 a.toNat=gl 0#64 t.2.1 a.toNat:=by
 have hr:=h.ci.RK.ta hp
 obtain⟨h1,h2⟩:=h.wT hr.2.2.1 ha
 rw[h2]
 refine h.w2 a h1.1 fun hm=> ?_
 obtain⟨_,p',a',x',j,o',j1,j2,he⟩:=h.yT hr.2.2.1 ha hm
 have:=o'.HJ
 rcases h.ci.RK.apart hp (TA.app (m:=m) o'.ta) with ⟨h3,_⟩|h3|h3 <;> omega
theorem N4.obT (h:N4 R s0 q n ss r l B3 l0 EK t to lb m mv ys ws r') {p a:Int} {x:Int×Int}:OB t to lb (EK++m) p a x↔OB (MU t ws l) to lb (EK++m) p a x:=by
 have hs:=h.smT
 have hz:sz t.1=sz s0.1:=by rw[h.ci.sh]
 constructor
 ·exact fun o=>hs.ob h.ci.cy.vs h.ci.cy.fit (fun p x a hp ha=>h.AOU hp (by rw[<-hz];exact ha)) o
 ·intro o
  exact⟨h.ci.has,by rw[hz];exact h.ci.RK,o.ta,by have:=o.IP;rw[hs.sh] at this;exact this⟩
end
end Go.Proofs.YthmiilamegpllaaGreat
namespace Go.Proofs.YthmiilamegpllaaGreat
open Go Go.V3
section
variable {R:Int->Prop} {s0:Sp} {q:Rows} {n:Int} {ss:Ss} {r:Ro} {l:List AH} {B3:AH} {l0:List Int} {EK:List (Int×Int)} {t:Sp} {to:AH} {lb:List Int} {m mv:List (Int×Int)} {ys:List Int} {ws:List (BitVec 64)} {r' :Ro}
theorem N4.okN (h:N4 R s0 q n ss r l B3 l0 EK t to lb m mv ys ws r'):OkN (WU q l B3 to)/\(WU q l B3 to).length=q.length:=by
 have hq:=(E_.1 h.hi.hb.bv.ok).1
 have hr:=hq.gJ (BQ l)
 have AGC:=h.ci.seq
 have tS:=h.ci.fS
 have hwd:=h.ci.wd
 unfold WU
 by_cases h1:B3.2.2.2.2>0
 ·rw[AA h1,lV,NG]
  refine⟨hr.rpl (fun i hi he=> ?_) (by omega),rfl⟩
  have ht:B3∈q.flatten:=by
   rcases h.tgt with ht|ht
   ·exact ht
   ·omega
  rw[AGC] at he
  rw[h.hi.hb.uniq (NH.1 hi).1 ht he,tS]
 ·rw[AB h1]
  by_cases h2:to.2.2.2.2>0
  ·rw[AA h2,cN,NG]
   rcases h.tgt with ht|ht
   ·have:=(h.hi.hb.fit ht).2;omega
   ·refine⟨hr.addr (by omega) (by rw[NG];omega) (by omega) fun i hi=> ?_,rfl⟩
    have:=h.hi.seq i (NH.1 hi).1
    omega
  ·rw[AB h2,NG];exact⟨hr,rfl⟩
theorem N4.AVX (h:N4 R s0 q n ss r l B3 l0 EK t to lb m mv ys ws r') {p a:Int} {x:Int×Int} (o:OB s0 B3 l0 EK p a x):OB t to lb (EK++m) p a x:=by
 obtain⟨r0,hr0⟩:=h.ci.pre
 have hz:sz t.1=sz s0.1:=by rw[h.ci.sh]
 exact⟨h.ci.has,by rw[hz];exact h.ci.RK,TA.app o.ta,by rw[hz,hr0];exact CS o.IP⟩
theorem N4.ARX (h:N4 R s0 q n ss r l B3 l0 EK t to lb m mv ys ws r') {i:AH} (hi:i∈q.flatten) (he:i.1=B3.1):i=B3/\B3∈q.flatten:=by
 rcases h.tgt with ht|ht
 ·exact⟨h.hi.hb.uniq hi ht he,ht⟩
 ·have:=h.hi.seq i hi;omega
theorem N4.ARY (h:N4 R s0 q n ss r l B3 l0 EK t to lb m mv ys ws r') {lc:List Int} {os:List (Int×Int)} {p a:Int} {x:Int×Int} (o:OB t to lc os p a x):to∈(WU q l B3 to).flatten:=by
 have:=o.HJ
 exact h.mem.2 (.inr ⟨rfl,by omega⟩)
theorem N4.AL (h:N4 R s0 q n ss r l B3 l0 EK t to lb m mv ys ws r') {k:AH} (hk:k∈q.flatten) (yF:k∉l) {p a:Int} {x:Int×Int} (o:Obj s0 k p a x):IsO (MU t ws l) (WU q l B3 to) a:=by
 obtain⟨la,os,o⟩:=o
 by_cases CJ:k.1=B3.1
 ·obtain⟨rfl,ht⟩:=h.ARX hk CJ
  obtain⟨rfl,rfl⟩:=JX h.cd.has h.cd.RK o
  have o2:=h.AVX o
  exact⟨to,h.ARY o2,p,x,_,_,h.obT.1 o2⟩
 ·exact⟨k,h.mem.2 (.inl ⟨hk,yF,CJ⟩),p,x,la,os,(h.obO hk yF CJ o.has o.RK).1 o⟩
theorem N4.new (h:N4 R s0 q n ss r l B3 l0 EK t to lb m mv ys ws r') {a b:Int} (hm:(a,b)∈mv):IsO (MU t ws l) (WU q l B3 to) b/\0<=b/\b<=16383:=by
 obtain⟨k,hk,N9⟩:=F5 (d:=((0,0):Int×Int)) hm
 obtain⟨i',la',oa',pa',p',cc⟩:=h.ci.vD k hk
 have o:=cc.dst
 rw[N9] at o
 have hr:=DD h.ci.cy.vs h.ci.cy.fit h.ci.has o.HJ.2.2.1 o.IP
 have:=VS.O2 h.ci.cy.vs
 exact⟨⟨to,h.ARY o,_,_,_,_,h.obT.1 o⟩,by omega,by omega⟩
theorem N4.im (h:N4 R s0 q n ss r l B3 l0 EK t to lb m mv ys ws r') {w v:BitVec 64} (hw:Rf s0 q w) (hi:Im s0 (BQ l) mv w v):(v=0#64↔w=0#64)/\Rf (MU t ws l) (WU q l B3 to) v:=by
 rcases hi with ⟨h1,rfl⟩|⟨h1,b,h2,rfl⟩
 ·refine⟨Iff.rfl, ?_⟩
  rcases hw with hw|⟨k,hk,p,x,o⟩
  ·exact .inl hw
  ·by_cases h0:v=0#64
   ·exact .inl h0
   refine .inr (h.AL hk (fun yF=>h1 ?_) o)
   have hr:=o.IP h.hi.hb.bv.vs (h.hi.hb.fit hk).1
   exact⟨h0,by omega,by rw[hr.2.2.1];exact J4.2 ⟨k,yF,rfl⟩⟩
 ·obtain⟨h3,b0,b1⟩:=h.new h2
  have e:(BitVec.ofInt 64 b+1#64).toNat=b.toNat+1:=by
   rw[BitVec.toNat_add,qV]
   have:(1#64).toNat=1:=rfl
   omega
  refine⟨⟨fun h0=> ?_,fun h0=>absurd h0 h1.1⟩,.inr ?_⟩
  ·rw[h0] at e
   have:(0#64).toNat=0:=rfl
   omega
  ·rw[e,show (((b.toNat+1:Nat):Int))-1=b by omega]
   exact h3
theorem N4.AYP (h:N4 R s0 q n ss r l B3 l0 EK t to lb m mv ys ws r') {i:AH} (hi:i∈q.flatten) (hl:i∉l) {la:List Int} {os:List (Int×Int)} {p a j y:Int} {x:Int×Int} (o:OB s0 i la os p a x) (j1:1<=j) (j2:j<=x.1) (hy:DB (sz s0.1) la (p+j)=some y) (hw:Wn (BQ l) s0 (gl 0#64 s0.2.1 y.toNat)):y∈ys:=by
 have hv:=h.hi.hb.bv.vs
 have hf:=(h.hi.hb.fit hi).1
 have hr:=DD hv hf o.has (by have:=o.HJ;omega) hy
 have O4:Slot s0 q y:=⟨i,hi,la,os,p,a,x,j,o,j1,j2,hy⟩
 have hC:=(h.fU hi).1 hl
 rcases h.hi.ref y O4 with h0|⟨k,hk,p',x',o'⟩
 ·exact absurd h0 hw.1
 have dI :=o'.IP hv (h.hi.hb.fit hk).1
 have hkC:k.1∈BQ l:=by rw[<-dI.2.2.1];exact hw.2.2
 have yF:k∈l:=AIP fun hn=>(h.fU hk).1 hn hkC
 have hi0:=hf.1.1
 have hk0:=(h.hi.hb.fit hk).1.1.1
 have C7:=h.pre k yF i hi hl
 have hp:Pr s0 y (gl 0#64 s0.2.1 y.toNat) (y / sz s0.1) ((((gl 0#64 s0.2.1 y.toNat).toNat:Int)-1) / sz s0.1):=
  ⟨hw.1,hw.2.1,rfl,rfl,by rw[hr.2.2.2.1];omega,by rw[dI.2.2.1];omega,by rw[hr.2.2.2.2,dI.2.2.2];exact C7⟩
 exact (h.yi y).2 ⟨⟨_,_,h.hi.rem y O4 _ _ hp,X4.2 ⟨dI.2.1,hw.2.2⟩,fun hm=>hC (by rw[<-hr.2.2.2.1];exact (X4.1 hm).2)⟩,hr.1,hw⟩
theorem N4.ATI (h:N4 R s0 q n ss r l B3 l0 EK t to lb m mv ys ws r') {i:AH} (hi:i∈q.flatten) (hl:i∉l) {la:List Int} {os:List (Int×Int)} {p a j y:Int} {x:Int×Int} (o:OB s0 i la os p a x) (j1:1<=j) (j2:j<=x.1) (hy:DB (sz s0.1) la (p+j)=some y):Slot (MU t ws l) (WU q l B3 to) y:=by
 have tW:sz (MU t ws l).1=sz s0.1:=by rw[h.aft.2.1]
 by_cases CJ:i.1=B3.1
 ·obtain⟨rfl,ht⟩:=h.ARX hi CJ
  obtain⟨rfl,rfl⟩:=JX h.cd.has h.cd.RK o
  have o2:=h.AVX o
  obtain⟨r0,hr0⟩:=h.ci.pre
  exact⟨to,h.ARY o2,lb,_,p,a,x,j,h.obT.1 o2,j1,j2,by rw[tW,hr0];exact CS hy⟩
 ·exact⟨i,h.mem.2 (.inl ⟨hi,hl,CJ⟩),la,os,p,a,x,j,(h.obO hi hl CJ o.has o.RK).1 o,j1,j2,by rw[tW];exact hy⟩
theorem N4.xO (h:N4 R s0 q n ss r l B3 l0 EK t to lb m mv ys ws r') {y:Int} (hy:Slot (MU t ws l) (WU q l B3 to) y):
  (∃ i∈q.flatten,i∉l/\∃ la os p a x j,OB s0 i la os p a x/\1<=j/\j<=x.1/\DB (sz s0.1) la (p+j)=some y)∨
  (y∉ys/\(∃ k,k<mv.length/\∃ p x j,OB t to lb (EK++m) p (gl (0,0) mv k).2 x/\1<=j/\j<=x.1/\DB (sz s0.1) lb (p+j)=some y)/\∃ ya,Slot s0 q ya/\Im s0 (BQ l) mv (gl 0#64 s0.2.1 ya.toNat) (gl 0#64 t.2.1 y.toNat)):=by
 have tW:sz (MU t ws l).1=sz s0.1:=by rw[h.aft.2.1]
 have hz:sz t.1=sz s0.1:=by rw[h.ci.sh]
 obtain⟨i,hi,la,os,p,a,x,j,o,j1,j2,ha⟩:=hy
 rw[tW] at ha
 rcases h.mem.1 hi with ⟨hi,hl,CJ⟩|⟨rfl,hw⟩
 ·obtain⟨os1,la1,ADP,AKQ⟩:=h.hi.hb.full i hi
  have hs:=h.smO hi hl CJ
  have hf:=(h.hi.hb.fit hi).1
  have htS:DM (sz (MU t ws l).1) (MU t ws l).2.1 la1 0 os1 i.2.2.2.2:=hs.ADL AKQ fun p x a hp ha=>by
   have o1:OB s0 i la1 os1 p a x:=⟨ADP,AKQ,hp,ha⟩
   have hr:=o1.HJ
   exact h.wO hi hl ADP hr.2.2.1 (by omega) ha (h.head hi o1)
  obtain⟨rfl,rfl⟩:=JX (hs.has h.hi.hb.bv.vs hf ADP) htS o
  exact .inl ⟨i,hi,hl,la,os,p,a,x,j,(h.obO hi hl CJ ADP AKQ).2 o,j1,j2,ha⟩
 ·have hs:=h.smT
  have htS:DM (sz (MU t ws l).1) (MU t ws l).2.1 lb 0 (EK++m) i.2.2.2.2:=hs.ADL (by rw[hz];exact h.ci.RK) fun p x a hp ha=>h.AOU hp (by rw[<-hz];exact ha)
  obtain⟨rfl,rfl⟩:=JX (hs.has h.ci.cy.vs h.ci.cy.fit h.ci.has) htS o
  have ot:=h.obT.2 o
  have hro:=ot.HJ
  rcases h.ci.cov p x ot.ta with h1|⟨h1,k,hk,h2⟩
  ·have h3:=h.cd.RK.ta h1
   have ht:B3∈q.flatten:=by
    rcases h.tgt with ht|ht
    ·exact ht
    ·omega
   obtain⟨y1,hy1⟩:=AGA h.hi.hb.bv.vs h.cd.fit h.cd.has (p:=p+j) (by omega) (by omega)
   obtain⟨a1,ha1,_⟩:=h3.2.1
   obtain⟨r0,hr0⟩:=h.ci.pre
   have h4:DB (sz s0.1) la (p+j)=some y1:=by rw[hr0];exact CS hy1
   rw[ha] at h4
   obtain rfl:=VM h4
   have hl:B3∉l:=(h.fU ht).2 h.cd.out
   exact .inl ⟨B3,ht,hl,l0,EK,p,a1,x,j,⟨h.cd.has,h.cd.RK,h1,ha1⟩,j1,j2,hy1⟩
  ·have wF:a=(gl (0,0) mv k).2:=by
    have h3:=ot.IP
    rw[hz,h2] at h3
    exact (VM h3).symm
   subst wF
   refine .inr ⟨fun hm=> ?_,⟨k,hk,p,x,j,ot,j1,j2,ha⟩, ?_⟩
   ·obtain⟨_,p',a',x',j',o',k1,k2,he⟩:=h.yT (by omega) ha hm
    have:=o'.HJ
    omega
   ·obtain⟨i',la',oa',pa',p',cc⟩:=h.ci.vD k hk
    obtain rfl:p' =p:=h.ci.same cc hro.2.2.1 h2
    have hx:gl (0,0) m k=x:=by
     rcases h.ci.RK.apart cc.dst.ta ot.ta with ⟨_,h4⟩|h4|h4
     ·exact h4
     ·have:=cc.dst.HJ;omega
     ·omega
    rw[hx] at cc
    have hrs:=cc.src.HJ
    obtain⟨ya,xM⟩:=cc.src.z8 h.hi.hb.bv.vs (h.hi.hb.fit (h.cd.sub _ cc.inl)).1 (k:=j) (by omega) (by omega)
    exact⟨ya,⟨i',h.cd.sub _ cc.inl,la',oa',pa',_,x,j,cc.src,j1,j2,xM⟩,(cc.wds j j1 (by omega) ya y xM ha).1 ⟨j2,.inl hk⟩⟩
theorem N4.word (h:N4 R s0 q n ss r l B3 l0 EK t to lb m mv ys ws r') {y:Int} (hy:Slot (MU t ws l) (WU q l B3 to) y):(0<=y/\y<s0.2.1.length)/\gl 0#64 (MU t ws l).2.1 y.toNat=gl 0#64 ws y.toNat:=by
 obtain⟨h1,h2,h3,h4,h5,h6⟩:=h.aft
 rcases h.xO hy with ⟨i,hi,hl,la,os,p,a,x,j,o,j1,j2,ha⟩|⟨_,⟨k,hk,p,x,j,o,j1,j2,ha⟩,_⟩
 ·have hf:=h.hi.hb.fit hi
  have hr:=DD h.hi.hb.bv.vs hf.1 o.has (by have:=o.HJ;omega) ha
  have ho:=h.frt hr.2.2.1.1 hr.2.2.1.2 (by rw[hr.2.2.2.1];have:=hf.1.1;omega)
  rw[hr.2.2.2.1] at ho
  exact⟨hr.1,by rw[h6 y hr.1.1 hr.1.2,AB (by rw[ho];exact (h.fU hi).1 hl)]⟩
 ·exact h.wT (by have:=o.HJ;omega) ha
theorem N4.hb (h:N4 R s0 q n ss r l B3 l0 EK t to lb m mv ys ws r'):HB (MU t ws l) (WU q l B3 to):=by
 obtain⟨h1,h2,h3,h4,h5,h6⟩:=h.aft
 obtain⟨k1,k2⟩:=h.okN
 have hz:sz t.1=sz s0.1:=by rw[h.ci.sh]
 refine⟨⟨h1,by rw[k2];exact h.hi.hb.bv.n,E_.2 ⟨k1,fun i hi=> ?_⟩,fun x x0 x1 hx=> ?_⟩,fun i hi=> ?_⟩
 ·rcases h.mem.1 hi with ⟨hi,hl,CJ⟩|⟨rfl,_⟩
  ·exact (h.smO hi hl CJ).fit h.hi.hb.bv.vs (h.hi.hb.fit hi).1
  ·exact h.smT.fit h.ci.cy.vs h.ci.cy.fit
 ·rw[h4] at x1
  rw[h5 x x0 x1] at hx ⊢
  split at hx
  ·exact absurd rfl hx
  ·rename_i hC
   rw[AB hC]
   by_cases he:(fr t.2.2 x).1=B3.1
   ·have hw:0<to.2.2.2.2:=by
     have:=h.ci.cy.fit.1
     by_cases hw:to.2.2.2.2=0
     ·have hm:x∈owned t.2.2 to.1:=B0.2 ⟨⟨x0,by rw[h.ci.fl];exact x1⟩,by rw[he,h.ci.seq]⟩
      rw[h.ci.cy.own hw] at hm
      cases hm
     ·omega
    exact C0.2 ⟨to,h.mem.2 (.inr ⟨rfl,hw⟩),by rw[he,h.ci.seq]⟩
   ·have e1:=h.ci.fr1 x x0 x1 he
    rw[e1] at hx hC he ⊢
    obtain⟨i,hi,hie⟩:=C0.1 (h.hi.hb.bv.cov x x0 x1 hx)
    refine C0.2 ⟨i,h.mem.2 (.inl ⟨hi, ?_,by rw[hie];exact he⟩),hie⟩
    rw[h.fU hi,hie];exact hC
 ·rcases h.mem.1 hi with ⟨hi,hl,CJ⟩|⟨rfl,_⟩
  ·obtain⟨os1,la1,ADP,AKQ⟩:=h.hi.hb.full i hi
   have hs:=h.smO hi hl CJ
   refine⟨os1,la1,hs.has h.hi.hb.bv.vs (h.hi.hb.fit hi).1 ADP,hs.ADL AKQ fun p x a hp ha=> ?_⟩
   have o1:OB s0 i la1 os1 p a x:=⟨ADP,AKQ,hp,ha⟩
   have hr:=o1.HJ
   exact h.wO hi hl ADP hr.2.2.1 (by omega) ha (h.head hi o1)
  ·exact⟨_,lb,h.smT.has h.ci.cy.vs h.ci.cy.fit h.ci.has,h.smT.ADL (by rw[hz];exact h.ci.RK) fun p x a hp ha=>h.AOU hp (by rw[<-hz];exact ha)⟩
def vE (n:Int) (B3 to:AH):Int:=if B3.2.2.2.2>0 then n else if to.2.2.2.2>0 then n+1 else n
theorem AAG (n:Int) (B3 to:AH):n<=vE n B3 to/\vE n B3 to<=n+1:=by
 unfold vE
 split
 ·omega
 ·split <;> omega
theorem N4.done (h:N4 R s0 q n ss r l B3 l0 EK t to lb m mv ys ws r') {T4 :Ss} (hS:Sin s0 ss l EK t to lb m mv ys ws T4):HI (MU t ws l) (WU q l B3 to) (vE n B3 to) T4 r' :=by
 obtain⟨h1,h2,h3,h4,h5,h6⟩:=h.aft
 have hv:=h.hi.hb.bv.vs
 have hnl:=AAG n B3 to
 have hz:sz t.1=sz s0.1:=by rw[h.ci.sh]
 have tW:sz (MU t ws l).1=sz s0.1:=by rw[h2]
 refine { hb:=h.hb,seq:=fun i hi=> ?_,n0:=by have:=h.hi.n0;omega,ref:=fun y hy=> ?_,ro:= ?_,root:=fun i hi hu=> ?_,rv:=hS.srv,ins:=fun f g y ND=> ?_,rem:=fun y hy f g hp=> ?_ }
 ·rcases h.mem.1 hi with ⟨hi,hl,CJ⟩|⟨rfl,hw⟩
  ·have:=h.hi.seq i hi;omega
  ·rw[h.ci.seq]
   rcases h.tgt with ht|ht
   ·have:=h.hi.seq B3 ht;omega
   ·unfold vE
    rw[AB (by omega),AA (by omega)];omega
 ·obtain⟨hyr,hw⟩:=h.word hy
  rw[hw]
  rcases h.xO hy with ⟨i,hi,hl,la,os,p,a,x,j,o,j1,j2,ha⟩|⟨hny,_,ya,xM,him⟩
  ·have O4:Slot s0 q y:=⟨i,hi,la,os,p,a,x,j,o,j1,j2,ha⟩
   by_cases hm:y∈ys
   ·exact (h.im (h.hi.ref y O4) (h.w1 y hm)).2
   ·have hro:=o.HJ
    rw[<-hw,h.wO hi hl o.has (by omega) (by omega) ha hm]
    exact (h.im (h.hi.ref y O4) (.inl ⟨fun hwn=>hm (h.AYP hi hl o j1 j2 ha hwn),rfl⟩)).2
  ·rw[h.w2 y hyr.1 hny]
   exact (h.im (h.hi.ref ya xM) him).2
 ·refine⟨by rw[h.ru];exact h.hi.ro.ul,by rw[h.rl];exact h.hi.ro.rl,fun i hi hu=> ?_⟩
  rw[h.ru] at hu
  rw[h.r2 i hi hu]
  exact h.hi.ro.z i hi hu
 ·rw[h.ru] at hu
  obtain⟨g1,g2⟩:=h.hi.root i hi hu
  obtain⟨g3,g4⟩:=h.im (.inr g2) (h.r1 i hi hu)
  have CJ:gl 0#64 r'.2 i≠0#64:=fun h0=>g1 (g3.1 h0)
  exact⟨CJ,g4.resolve_left CJ⟩
 ·rw[tW]
  rcases (hS.sin f g y).1 ND with hd|⟨hd|⟨k,hk,p,x,j,o,j1,j2,ha⟩,hp⟩
  ·obtain⟨g1,g2,g3⟩:=AHZ.1 hd
   obtain⟨⟨i,hi,la,os,p,a,x,j,o,j1,j2,ha⟩,hf⟩:=h.hi.ins f g y g1
   refine⟨h.ATI hi (fun hl=>g2 ?_) o j1 j2 ha,hf⟩
   have hr:=DD hv (h.hi.hb.fit hi).1 o.has (by have:=o.HJ;omega) ha
   exact X4.2 ⟨by rw[hf];exact hr.2.2.1,by rw[hf,hr.2.2.2.1];exact J4.2 ⟨i,hl,rfl⟩⟩
  ·obtain⟨i,hi,hl,la,os,p,a,x,j,o,j1,j2,ha⟩:=h.ysl hd
   have:=hp.2.2.1
   simp only at this
   rw[hz] at this
   exact⟨h.ATI hi hl o j1 j2 ha,this⟩
  ·have:=hp.2.2.1
   simp only at this
   rw[hz] at this
   exact⟨⟨to,h.ARY o,lb,_,p,_,x,j,h.obT.1 o,j1,j2,by rw[tW];exact ha⟩,this⟩
 ·obtain⟨hyr,hw⟩:=h.word hy
  rw[hw] at hp
  have hpT:Pr (t.1,ws,t.2.2) y (gl 0#64 ws y.toNat) f g:=by
   obtain⟨a1,a2,a3,a4,a5,a6,a7⟩:=hp
   have hw1:=(LY a1).2
   rw[h3] at a2
   rw[tW] at a3 a4
   have ff:=GM hv hyr.1 hyr.2
   have gg:=GM hv (a:=((gl 0#64 ws y.toNat).toNat:Int)-1) (by omega) (by omega)
   rw[<-a3] at ff
   rw[<-a4] at gg
   have e1:fr (MU t ws l).2.2 f=fr t.2.2 f:=by
    rw[h5 f ff.1 ff.2] at a5 ⊢
    split at a5
    ·exact absurd rfl a5
    ·rename_i hc;rw[AB hc]
   have e2:fr (MU t ws l).2.2 g=fr t.2.2 g:=by
    rw[h5 g gg.1 gg.2] at a6 ⊢
    split at a6
    ·exact absurd rfl a6
    ·rename_i hc;rw[AB hc]
   rw[e1] at a5 a7
   rw[e2] at a6 a7
   exact⟨a1,by simp only;rw[h.wl];exact a2,by simp only;rw[hz];exact a3,by simp only;rw[hz];exact a4,a5,a6,a7⟩
  rcases h.xO hy with ⟨i,hi,hl,la,os,p,a,x,j,o,j1,j2,ha⟩|⟨_,hc,_⟩
  rotate_left
  ·exact (hS.sin f g y).2 (.inr ⟨.inr hc,hpT⟩)
  by_cases hm:y∈ys
  ·exact (hS.sin f g y).2 (.inr ⟨.inl hm,hpT⟩)
  have O4:Slot s0 q y:=⟨i,hi,la,os,p,a,x,j,o,j1,j2,ha⟩
  have hro:=o.HJ
  have hf:=(h.hi.hb.fit hi).1
  have hr:=DD hv hf o.has (by omega) ha
  have hww:=h.wO hi hl o.has (by omega) (by omega) ha hm
  rw[hw] at hww
  rw[hww] at hpT hp
  obtain⟨a1,a2,a3,a4,a5,a6,a7⟩:=hpT
  simp only at a2 a3 a4 a5 a6 a7
  rw[h.wl] at a2
  rw[hz] at a3 a4
  have hC:=(h.fU hi).1 hl
  have ef:(fr t.2.2 f).1=(fr s0.2.2 f).1/\(fr t.2.2 f).2.1=(fr s0.2.2 f).2.1:=by
   rw[a3]
   by_cases CJ:i.1=B3.1
   ·obtain⟨rfl,ht⟩:=h.ARX hi CJ
    obtain rfl:=RX o.has h.cd.has
    obtain⟨r0,hr0⟩:=h.ci.pre
    have hrt:=DD h.ci.cy.vs h.ci.cy.fit h.ci.has (p:=p+j) (y:=y) (by omega) (by rw[hz,hr0];exact CS ha)
    rw[hz] at hrt
    rw[hrt.2.2.2.1,hrt.2.2.2.2,hr.2.2.2.1,hr.2.2.2.2,h.ci.seq,h.ci.fS]
    exact⟨rfl,rfl⟩
   ·rw[h.ci.YI _ hr.2.2.1.1 hr.2.2.1.2 (by rw[hr.2.2.2.1];have:=hf.1;omega) (by rw[hr.2.2.2.1];exact CJ)]
    exact⟨rfl,rfl⟩
  rcases h.hi.ref y O4 with h0|⟨k,hk,p',x',o'⟩
  ·exact absurd h0 a1
  have dI :=o'.IP hv (h.hi.hb.fit hk).1
  have hkf:=(h.hi.hb.fit hk).1
  have yF:k∉l:=fun yF=>hm (h.AYP hi hl o j1 j2 ha ⟨a1,a2,by rw[dI.2.2.1];exact J4.2 ⟨k,yF,rfl⟩⟩)
  have hkC:=(h.fU hk).1 yF
  have eg:(fr t.2.2 g).1=(fr s0.2.2 g).1/\(fr t.2.2 g).2.1=(fr s0.2.2 g).2.1:=by
   rw[a4]
   by_cases CJ:k.1=B3.1
   ·obtain⟨rfl,ht⟩:=h.ARX hk CJ
    obtain⟨la2,os2,o2⟩:=o'
    obtain⟨rfl,rfl⟩:=JX h.cd.has h.cd.RK o2
    have o3:=h.AVX o2
    have hrt:=DD h.ci.cy.vs h.ci.cy.fit h.ci.has o3.HJ.2.2.1 o3.IP
    rw[hz] at hrt
    rw[hrt.2.2.2.1,hrt.2.2.2.2,dI.2.2.1,dI.2.2.2,h.ci.seq,h.ci.fS]
    exact⟨rfl,rfl⟩
   ·rw[h.ci.YI _ dI.2.1.1 dI.2.1.2 (by rw[dI.2.2.1];have:=hkf.1;omega) (by rw[dI.2.2.1];exact CJ)]
    exact⟨rfl,rfl⟩
  rw[ef.1] at a5
  rw[eg.1] at a6
  rw[ef.2,eg.2] at a7
  refine (hS.sin f g y).2 (.inl (AHZ.2 ⟨h.hi.rem y O4 f g ⟨a1,a2,a3,a4,a5,a6,a7⟩,fun hm' => ?_,fun hm' => ?_⟩))
  ·have:=(X4.1 hm').2
   rw[a3,hr.2.2.2.1] at this
   exact hC this
  ·have:=(X4.1 hm').2
   rw[a4,dI.2.2.1] at this
   exact hkC this
end
end Go.Proofs.YthmiilamegpllaaGreat
namespace Go.Proofs.YthmiilamegpllaaGreat
open Go Go.V3
theorem AGD {q:Rows} (hq:q.length<=1000000) (hx:q.flatten.length<=1000000):KR q=some q.flatten:=by
 unfold KR
 refine (AR (fun k (st:List AH×Int)=>st=((q.take k).flatten,(k:Int))) (fun b=>b=q.flatten) q.length ?_ ?_ (s:=([],0)) (by simp)).elim fun b hb=>by rw[hb.1,hb.2]
 ·rintro k st hk rfl
  left
  have hs:=F_ q k hk
  have hl:(q.take k).flatten.length+(gl [] q k).length<=q.flatten.length:=by
   rw[hs,I5,I5];omega
  simp only[I3]
  rw[AA (by omega),AA (by omega),AA (by omega),AD (by omega) (by omega)]
  refine⟨_,rfl, ?_⟩
  rw[FV (d:=[]) q k hk,List.flatten_append]
  simp
 ·rintro st rfl
  simp only
  rw[AB (by omega),SP]
  exact⟨_,rfl,rfl⟩
theorem ADQ {β:Type} {f:Bool×Int->Option ((Bool×Int) ⊕ β)} (P:Nat->Prop) (n:Nat) {b0:Bool} {r:Bool->β}
  (hs:∀ (k:Nat) (b:Bool),k<n->∃ c:Bool,f (b,(k:Int))=some (.inl (c,(k:Int)+1))/\(c=true->b=true\/P k)) (he:∀ b,f (b,(n:Int))=some (.inr (r b))):
  ∃ b,AM f (b0,0)=some (r b)/\(b=true->b0=true\/∃ k,k<n/\P k):=by
 have key:=AR (f:=f) (fun k (st:Bool×Int)=>st.2=(k:Int)/\(st.1=true->b0=true\/∃ j,j<k/\P j)) (fun x=>∃ b,x=r b/\(b=true->b0=true\/∃ k,k<n/\P k)) n ?_ ?_ (s:=(b0,0)) ⟨rfl,fun h=> .inl h⟩
 ·obtain⟨x,hx,b,rfl,h⟩:=key
  exact⟨b,hx,h⟩
 ·rintro k ⟨b,kk⟩ hk ⟨HK,hb⟩
  simp only at HK hb
  subst HK
  obtain⟨c,h1,h2⟩:=hs k b hk
  refine .inl ⟨_,h1,rfl,fun hc=> ?_⟩
  rcases h2 hc with h3|h3
  ·rcases hb h3 with h4|⟨j,h4,h5⟩
   ·exact .inl h4
   ·exact .inr ⟨j,by omega,h5⟩
  ·exact .inr ⟨k,by omega,h3⟩
 ·rintro⟨b,kk⟩ ⟨HK,hb⟩
  simp only at HK hb
  subst HK
  exact⟨_,he b,b,rfl,hb⟩
structure Pfx (q:Rows) (l:List Int):Prop where
 len:l.length<=q.flatten.length
 nd:∀ i j:Nat,j<i->i<l.length->gl 0 l j≠gl 0 l i
 sub:∀ i:Nat,i<l.length->∃ k,k<l.length/\(gl ((0,0,0,0,0):AH) q.flatten k).1=gl 0 l i
 all:∀ k:Nat,k<l.length->∃ i,i<l.length/\(gl ((0,0,0,0,0):AH) q.flatten k).1=gl 0 l i
theorem AGE {q:Rows} (hq:q.length<=1000000) (hx:q.flatten.length<=1000000) {l:List Int} (hl:l.length<=1000000):∃ b,HQ q l=some b/\(b=true->Pfx q l):=by
 unfold HQ
 rw[AGD hq hx,A9]
 by_cases hlen:(l.length:Int)>(q.flatten.length:Int)
 ·rw[AA hlen];exact⟨false,rfl,fun h=>by cases h⟩
 rw[AB hlen]
 generalize hA:q.flatten=A at*
 have bd:Bd none (some (l.length:Int)) ((l.length:Int).toNat) A.length:=⟨by omega,trivial⟩
 refine AR (fun k (st:Int)=>st=(k:Int)/\(∀ i j:Nat,j<i->i<k->gl 0 l j≠gl 0 l i)/\∀ i:Nat,i<k->∃ m,m<l.length/\(gl ((0,0,0,0,0):AH) A m).1=gl 0 l i) _ l.length ?_ ?_ ⟨rfl,fun i j h1 h2=>by omega,fun i h=>by omega⟩
 ·rintro k st hk ⟨rfl,H8,JB⟩
  rw[AA (by omega),AA (by omega),AA bd]
  simp only[I3,Nat.sub_zero]
  have inner:=AR (β:=Int ⊕ Bool) (f:=fun s2:Int=>
   if s2<(k:Int) then
   if 0<=s2/\s2<(l.length:Int) then
   if (gl (0:Int) l s2.toNat)=(gl (0:Int) l k) then
   some (Sum.inr (Sum.inr (false)))
   else some (Sum.inl (AG (s2+1)))
   else none
   else Option.map Sum.inr (AM (σ:=(Bool×Int)) (β:=(Int ⊕ Bool)) (fun s3=>
   if s3.2<(l.length:Int) then
   if 0<=s3.2/\s3.2<(l.length:Int) then
   if s3.1=true then
   some (Sum.inl ((true,AG (s3.2+1))))
   else some (Sum.inl ((decide (((gl ((0,0,0,0,0):AH) A (0+s3.2.toNat)).1)=(gl (0:Int) l k)),AG (s3.2+1))))
   else none
   else Option.map Sum.inr (if (!s3.1)=true then
   some (Sum.inr (false))
   else some (Sum.inl (AG ((k:Int)+1))))) ((false,0))))
   (fun j (st:Int)=>st=(j:Int)/\∀ m:Nat,m<j->gl 0 l m≠gl 0 l k)
   (fun b=>b=Sum.inr false\/(b=Sum.inl ((k:Int)+1)/\(∀ m:Nat,m<k->gl 0 l m≠gl 0 l k)/\∃ m,m<l.length/\(gl ((0,0,0,0,0):AH) A m).1=gl 0 l k)) k ?_ ?_ (s:=0) ⟨rfl,fun m hm=>by omega⟩
  ·obtain⟨b,dB,uK⟩:=inner
   rw[dB]
   rcases uK with rfl|⟨rfl,h1,h2⟩
   ·exact .inr ⟨_,rfl,fun h=>by cases h⟩
   ·refine .inl ⟨_,rfl,rfl,fun i j hj hi=> ?_,fun i hi=> ?_⟩
    ·by_cases c_:i=k
     ·subst c_;exact h1 j hj
     ·exact H8 i j hj (by omega)
    ·by_cases c_:i=k
     ·subst c_;exact h2
     ·exact JB i (by omega)
  ·rintro j st hj ⟨rfl,hm⟩
   rw[AA (by omega),AA (by omega)]
   simp only[I3]
   by_cases he:gl 0 l j=gl 0 l k
   ·rw[AA he];exact .inr ⟨_,rfl,.inl rfl⟩
   ·rw[AB he,AD (by omega) (by omega)]
    refine .inl ⟨_,rfl,rfl,fun m hm' => ?_⟩
    by_cases hmj:m=j
    ·subst hmj;exact he
    ·exact hm m (by omega)
  ·rintro st ⟨rfl,hm⟩
   rw[AB (by omega)]
   obtain⟨b,dB,uK⟩:=ADQ (β:=Int ⊕ Bool) (f:=fun s3:Bool×Int=>
    if s3.2<(l.length:Int) then
    if 0<=s3.2/\s3.2<(l.length:Int) then
    if s3.1=true then
    some (Sum.inl ((true,AG (s3.2+1))))
    else some (Sum.inl ((decide (((gl ((0,0,0,0,0):AH) A (0+s3.2.toNat)).1)=(gl (0:Int) l k)),AG (s3.2+1))))
    else none
    else Option.map Sum.inr (if (!s3.1)=true then
    some (Sum.inr (false))
    else some (Sum.inl (AG ((k:Int)+1))))) (fun m=>(gl ((0,0,0,0,0):AH) A m).1=gl 0 l k) l.length (b0:=false) (r:=fun b=>if b=true then Sum.inl ((k:Int)+1) else Sum.inr false) (fun j b hj=>by
     simp only[I3]
     rw[AA (by omega),AA (by omega),AD (e:=(j:Int)+1) (by omega) (by omega)]
     cases b with
     |true=>exact⟨true,by rw[AA rfl],fun _=> .inl rfl⟩
     |false=>
      refine⟨_,by rw[AB (by decide)],fun h=> .inr ?_⟩
      have h' :=gN h
      rw[I7] at h'
      exact h') (fun b=>by
     simp only
     rw[AB (by omega),AD (e:=(k:Int)+1) (by omega) (by omega)]
     cases b <;> rfl)
   rw[dB]
   cases b with
   |true=>
    rcases uK rfl with h|⟨m,h1,h2⟩
    ·cases h
    ·exact⟨_,rfl,.inr ⟨rfl,hm,m,h1,h2⟩⟩
   |false=>exact⟨_,rfl,.inl rfl⟩
 ·rintro st ⟨rfl,H8,JB⟩
  rw[AB (by omega),AA bd]
  simp only[I3,Nat.sub_zero]
  have second:=AR (β:=Bool) (f:=fun s4:Int=>
   if s4<(l.length:Int) then
   if 0<=s4/\s4<(l.length:Int) then
   AM (σ:=(Bool×Int)) (β:=(Int ⊕ Bool)) (fun s5=>
   if s5.2<(l.length:Int) then
   if 0<=s5.2/\s5.2<(l.length:Int) then
   if s5.1=true then
   some (Sum.inl ((true,AG (s5.2+1))))
   else some (Sum.inl ((decide (((gl ((0,0,0,0,0):AH) A (0+s4.toNat)).1)=(gl (0:Int) l s5.2.toNat)),AG (s5.2+1))))
   else none
   else Option.map Sum.inr (if (!s5.1)=true then
   some (Sum.inr (false))
   else some (Sum.inl (AG (s4+1))))) ((false,0))
   else none
   else some (Sum.inr (true)))
   (fun k (st:Int)=>st=(k:Int)/\∀ m:Nat,m<k->∃ i,i<l.length/\(gl ((0,0,0,0,0):AH) A m).1=gl 0 l i)
   (fun b=>b=true->∀ m:Nat,m<l.length->∃ i,i<l.length/\(gl ((0,0,0,0,0):AH) A m).1=gl 0 l i) l.length ?_ ?_ (s:=0) ⟨rfl,fun m hm=>by omega⟩
  ·obtain⟨b,dB,uK⟩:=second
   rw[dB]
   exact⟨_,rfl,fun h=>⟨by rw[hA];omega,H8,by rw[hA];exact JB,by rw[hA];exact uK h⟩⟩
  ·rintro k st hk ⟨rfl,Z7⟩
   rw[AA (by omega),AA (by omega)]
   simp only[I3]
   obtain⟨b,dB,uK⟩:=ADQ (β:=Int ⊕ Bool) (f:=fun s5:Bool×Int=>
    if s5.2<(l.length:Int) then
    if 0<=s5.2/\s5.2<(l.length:Int) then
    if s5.1=true then
    some (Sum.inl ((true,AG (s5.2+1))))
    else some (Sum.inl ((decide (((gl ((0,0,0,0,0):AH) A (0+k)).1)=(gl (0:Int) l s5.2.toNat)),AG (s5.2+1))))
    else none
    else Option.map Sum.inr (if (!s5.1)=true then
    some (Sum.inr (false))
    else some (Sum.inl (AG ((k:Int)+1))))) (fun m=>(gl ((0,0,0,0,0):AH) A k).1=gl 0 l m) l.length (b0:=false) (r:=fun b=>if b=true then Sum.inl ((k:Int)+1) else Sum.inr false) (fun j b hj=>by
     simp only[I3]
     rw[AA (by omega),AA (by omega),AD (e:=(j:Int)+1) (by omega) (by omega)]
     cases b with
     |true=>exact⟨true,by rw[AA rfl],fun _=> .inl rfl⟩
     |false=>
      refine⟨_,by rw[AB (by decide)],fun h=> .inr ?_⟩
      have h' :=gN h
      rw[I7] at h'
      exact h') (fun b=>by
     simp only
     rw[AB (by omega),AD (e:=(k:Int)+1) (by omega) (by omega)]
     cases b <;> rfl)
   rw[dB]
   cases b with
   |true=>
    rcases uK rfl with h|⟨m,h1,h2⟩
    ·cases h
    ·refine .inl ⟨_,rfl,rfl,fun m' hm' => ?_⟩
     by_cases hmk:m' =k
     ·subst hmk;exact⟨m,h1,h2⟩
     ·exact Z7 m' (by omega)
   |false=>exact .inr ⟨_,rfl,fun h=>by cases h⟩
  ·rintro st ⟨rfl,Z7⟩
   rw[AB (by omega)]
   exact⟨_,rfl,fun _=>Z7⟩
theorem ADR {s:Sp} {q:Rows} (h:HB s q):q.flatten.Pairwise fun a b=>a.2.1*4294967296+a.1<b.2.1*4294967296+b.1:=by
 have hN:=(E_.1 h.bv.ok).1
 have hf:∀ i∈q.flatten,0<=i.1/\i.1<=4294967295:=fun i hi=>by have:=(h.fit hi).1.1;omega
 have key:∀ n,n<=q.length->(q.take n).flatten.Pairwise fun a b:AH=>a.2.1*4294967296+a.1<b.2.1*4294967296+b.1:=by
  intro n
  induction n with
  |zero=>intro _;simp
  |succ n ih=>
   intro hn
   rw[FV (d:=[]) q n hn,List.flatten_append,qZ]
   refine⟨ih (by omega), ?_,fun a ha b hb=> ?_⟩
   ·simp only[List.flatten_cons,List.flatten_nil,G5]
    refine List.Pairwise.imp_of_mem ?_ (hN.pw n hn)
    intro a b ha hb wF
    have e1:=(hN.e n hn a ha).1
    have e2:=(hN.e n hn b hb).1
    omega
   ·simp only[List.flatten_cons,List.flatten_nil,G5] at hb
    have e2:=(hN.e n hn b hb).1
    obtain⟨x,hx,hax⟩:=nR.1 ha
    obtain⟨j,hj,hj2,rfl⟩:=oT (d:=([]:List AH)) hx
    have e1:=(hN.e j hj2 a hax).1
    have f1:=hf a (I2.2 ⟨j,hj2,hax⟩)
    have f2:=hf b (I2.2 ⟨n,hn,hb⟩)
    have:(j:Int)+1<=n:=by omega
    omega
 have:=key q.length (ED _)
 rw[SP] at this
 exact this
theorem Pfx.pre {s:Sp} {q:Rows} (h:HB s q) {l:List AH} (hl:∀ i∈l,i∈q.flatten) (hp:Pfx q (BQ l)):∀ i∈l,∀ j∈q.flatten,j∉l->i.2.1*4294967296+i.1<j.2.1*4294967296+j.1:=by
 intro i hi j hj pD
 have hlen:=hp.len
 have hs:=lU l
 obtain⟨a,ha,rfl⟩:=F5 (d:=((0,0,0,0,0):AH)) hi
 obtain⟨k,hk,N9⟩:=hp.sub a (by omega)
 rw[AAB ha] at N9
 have c_:=h.uniq (BR (d:=((0,0,0,0,0):AH)) (xs:=q.flatten) (k:=k) (by omega)) (hl _ hi) N9
 rw[<-c_]
 obtain⟨b,hb,rfl⟩:=F5 (d:=((0,0,0,0,0):AH)) hj
 have hbl:¬b<l.length:=by
  intro hbl
  obtain⟨i2,hi2,he⟩:=hp.all b (by omega)
  rw[AAB (by omega)] at he
  have:=h.uniq hj (hl _ (BR (d:=((0,0,0,0,0):AH)) (k:=i2) (by omega))) he
  rw[this] at pD
  exact pD (BR (by omega))
 have:=AE8.1 (ADR h) k b (by omega) hb (by omega)
 rw[DZ (by omega),DZ hb]
 exact this
theorem Pfx.ARZ {q:Rows} {l:List AH} (hp:Pfx q (BQ l)):(BQ l).Nodup:=by
 rw[List.nodup_iff_pairwise_ne,AE8]
 intro i j hi hj jD
 have:=hp.nd j i jD hj
 rw[DZ hi,DZ hj] at this
 exact this
theorem AS0 {c:Cf} (g:Good c) {b n:Int} (b0:0<=b) (b1:b<c.2.1.length) (n0:1<=n) (n1:n<=64):∃ k,D_ c b n=some (k,0)/\0<=k/\k<=64:=by
 have hn:=g.n.2
 have hz:=g.nm.2.1
 have hr:gl (0,0,0,0) c.2.1 b.toNat=ru c b:=rfl
 have hv:=(g.ru b b0 b1).1
 unfold D_
 rw[xG (by omega) (by omega) g.sh,g.T0,A9,AB (by simp),AB (by omega),AB (by omega),AB (by omega),AB (by omega),AA (by omega),hr]
 generalize (ru c b).1=x at hv
 rcases hv with rfl|⟨h0,h1⟩
 ·unfold ET
  rw[dN,P0 (by omega)]
  simp only[A9]
  rw[AB (by decide),AB (by omega),AB (by omega),AA (by decide)]
  exact⟨0,rfl,by omega,by omega⟩
 ·rw[tH h0 h1 n0 n1]
  have:=AT7 (n:=n.toNat) h1 (by omega)
  exact⟨_,rfl,by omega,by omega⟩
structure HV (N:Int) (h:Hs):Prop where
 g:Good h.1
 hi:HI h.2.1 h.2.2.1 h.2.2.2.1 h.2.2.2.2.1 h.2.2.2.2.2.1
 ql:h.2.2.1.length=h.1.2.1.length
 n1:h.2.2.2.1<=N
theorem HV.vs {N:Int} {h:Hs} (v:HV N h):VS h.2.1:=v.hi.hb.bv.vs
theorem HV.copy {N:Int} {h:Hs} (v:HV N h):BL h=some h:=by
 obtain⟨c,s,q,n,ss,r,rest⟩:=h
 obtain⟨h1,h2,h3⟩:=v.hi.hb.lens
 have hg:=v.g.n.2
 simp only at h1 h2 h3 hg
 unfold BL
 rw[AA (by simp only[U7];omega),VS.copy v.vs,A9,cI (q:=q) (by omega) (fun x hx=>by have:=h3 x hx;omega),A9,v.hi.rv.copy,A9,v.hi.ro.copy]
 rfl
structure Tg (h:Hs) (l:List AH) (to:AH):Prop where
 sub:∀ i∈l,i∈h.2.2.1.flatten
 ne:l≠[]
 blt:∀ i∈l,i.2.1=(gl ((0,0,0,0,0):AH) l 0).2.1
 pfx:Pfx h.2.2.1 (BQ l)
 tb:to.2.1=(ru h.1 (gl ((0,0,0,0,0):AH) l 0).2.1).2.2.2
 tgt:to∈h.2.2.1.flatten\/to=(h.2.2.2.1,(ru h.1 (gl ((0,0,0,0,0):AH) l 0).2.1).2.2.2, -1, -1,0)
 out:to.1∉BQ l
theorem AKR {a b c d e:Bool} (h:gP [a,b,c,d,e]=true):a=true/\b=true/\c=true/\d=true/\e=true:=by
 simpa [gP] using h
theorem AS1 {i j:AH} (h1:i.1=j.1) (h2:i.2.1=j.2.1) (h3:i.2.2.1=j.2.2.1) (h4:i.2.2.2.1=j.2.2.2.1) (h5:i.2.2.2.2=j.2.2.2.2):i=j:=by
 obtain⟨a,b,c,d,e⟩:=i
 obtain⟨a',b',c',d',e'⟩:=j
 simp only at h1 h2 h3 h4 h5
 subst h1 h2 h3 h4 h5;rfl
theorem xP {l:List AH} {k:Nat} (hk:k<l.length):BQ (l.take (k+1))=BQ (l.take k)++ [(gl ((0,0,0,0,0):AH) l k).1]:=by
 rw[FV (d:=((0,0,0,0,0):AH)) l k hk];unfold BQ;rw[ZS];rfl
theorem ADS {β:Type} {f:Bool×Int->Option ((Bool×Int) ⊕ β)} (P:Nat->Prop) (n:Nat) {b0:Bool} {r:Bool->Option β}
  (hs:∀ (k:Nat) (b:Bool),k<n->∃ c:Bool,f (b,(k:Int))=some (.inl (c,(k:Int)+1))/\(c=true->b=true/\P k))
  (he:∀ b,f (b,(n:Int))=Option.map Sum.inr (r b)) {Q:β->Prop} (hq:∀ b,(b=true->b0=true/\∀ k,k<n->P k)->∃ x,r b=some x/\Q x):
  ∃ x,AM f (b0,0)=some x/\Q x:=by
 refine AR (f:=f) (fun k (st:Bool×Int)=>st.2=(k:Int)/\(st.1=true->b0=true/\∀ j,j<k->P j)) Q n ?_ ?_ (s:=(b0,0)) ⟨rfl,fun h=>⟨h,fun j hj=>by omega⟩⟩
 ·rintro k ⟨b,kk⟩ hk ⟨HK,hb⟩
  simp only at HK hb
  subst HK
  obtain⟨c,h1,h2⟩:=hs k b hk
  refine .inl ⟨_,h1,rfl,fun hc=> ?_⟩
  obtain⟨h3,h4⟩:=h2 hc
  obtain⟨h5,h6⟩:=hb h3
  refine⟨h5,fun j hj=> ?_⟩
  by_cases gC:j=k
  ·subst gC;exact h4
  ·exact h6 j (by omega)
 ·rintro⟨b,kk⟩ ⟨HK,hb⟩
  simp only at HK hb
  subst HK
  obtain⟨x,h1,h2⟩:=hq b hb
  exact⟨x,by rw[he,h1];rfl,h2⟩
theorem AKS {N:Int} {h:Hs} (v:HV N h) {l:List AH} (hl:l.length<=1000000):∃ to e,FZ h l=some (to,e)/\(e≠0\/(e=0/\Tg h l to)):=by
 suffices hh:∃ x,FZ h l=some x/\(x.2≠0\/(x.2=0/\Tg h l x.1)) by
  obtain⟨x,h1,h2⟩:=hh
  exact⟨x.1,x.2,h1,h2⟩
 obtain⟨l1,l2,l3⟩:=v.hi.hb.lens
 have hN:=(E_.1 v.hi.hb.bv.ok).1
 have hql:=v.ql
 unfold FZ
 refine AR (fun k (st:List Int×Int)=>st=(BQ (l.take k),(k:Int))/\∀ j,j<k->gl ((0,0,0,0,0):AH) l j∈h.2.2.1.flatten/\(gl ((0,0,0,0,0):AH) l j).2.1=(gl ((0,0,0,0,0):AH) l 0).2.1) _ l.length ?_ ?_ ⟨rfl,fun j hj=>by omega⟩
 ·rintro k st hk ⟨rfl,hj⟩
  simp only[I3]
  rw[AA (by omega),AA (by omega)]
  rcases ADG (q:=h.2.2.1) (by omega) (fun x hx=>by have:=l3 x hx;omega) (gl ((0,0,0,0,0):AH) l k).1 with ⟨h4,h5⟩|⟨i,h4,h5,h6⟩
  ·rw[h5];exact .inr ⟨_,rfl,.inl (by decide)⟩
  ·rw[h6,A9]
   rw[AB (show ¬(!true)=true by decide)]
   split
   ·exact .inr ⟨_,rfl,.inl (by decide)⟩
   rename_i hb
   simp only[RM,Bool.not_eq_false] at hb
   obtain⟨b1,b2,b3,b4,b5⟩:=AKR hb
   obtain rfl:i=gl ((0,0,0,0,0):AH) l k:=AS1 (gN b1) (gN b2) (gN b3) (gN b4) (gN b5)
   rw[AA (by omega)]
   split
   ·exact .inr ⟨_,rfl,.inl (by decide)⟩
   rename_i hbe
   have A14 :=Decidable.not_not.1 hbe
   have O4:(BQ (l.take k)).length<=l.length:=by rw[lU,List.length_take];omega
   rw[AA (by simp only[HW];omega),AD (by omega) (by omega)]
   refine .inl ⟨_,rfl, ?_,fun j gC=> ?_⟩
   ·rw[xP hk];rfl
   ·by_cases A15 :j=k
    ·subst A15;exact⟨h4,A14⟩
    ·exact hj j (by omega)
 ·rintro st ⟨rfl,hj⟩
  simp only
  rw[AB (by omega),SP]
  by_cases h0:(l.length:Int)=0
  ·rw[AA h0];exact⟨_,rfl,.inl (by decide)⟩
  rw[AB h0]
  obtain⟨b,pS,hp2⟩:=AGE (q:=h.2.2.1) (l:=BQ l) (by omega) (by omega) (by rw[lU];exact hl)
  rw[pS,A9]
  cases b with
  |false=>exact⟨_,rfl,.inl (by decide)⟩
  |true=>
  have hp:=hp2 rfl
  obtain⟨hm0, -⟩:=hj 0 (by omega)
  obtain⟨⟨r0,r1⟩,TE⟩:=hN.row hm0
  have U8:∀ i∈l,i∈h.2.2.1.flatten/\i.2.1=(gl ((0,0,0,0,0):AH) l 0).2.1:=by
   intro i hi
   obtain⟨k,hk,rfl⟩:=F5 (d:=((0,0,0,0,0):AH)) hi
   exact hj k hk
  have AYQ:l≠[]:=by rintro rfl;simp at h0
  rw[AB (by decide),AA (by omega)]
  simp only[show (0:Int).toNat=0 from rfl]
  rw[AA (by omega)]
  obtain⟨-,hlm,htb⟩:=v.g.ru (gl ((0,0,0,0,0):AH) l 0).2.1 r0 (by omega)
  have hb:gl (0,0,0,0) h.1.2.1 (gl ((0,0,0,0,0):AH) l 0).2.1.toNat=ru h.1 (gl ((0,0,0,0,0):AH) l 0).2.1:=rfl
  rw[hb]
  generalize hT:(ru h.1 (gl ((0,0,0,0,0):AH) l 0).2.1).2.2.2=T at htb
  have hTr:0<=T/\T<h.1.2.1.length:=by
   unfold FD at htb
   rw[hT] at htb
   by_cases dB:(gl ((0,0,0,0,0):AH) l 0).2.1=(h.1.2.1.length:Int)-1
   ·have:T=(gl ((0,0,0,0,0):AH) l 0).2.1:=AIP fun hn=>htb (.inl ⟨dB,hn⟩)
    omega
   ·have h1:¬(T<=(gl ((0,0,0,0,0):AH) l 0).2.1\/(h.1.2.1.length:Int)-1<T):=fun hn=>htb (.inr ⟨by omega,hn⟩)
    omega
  have hn:=v.vs.n
  obtain⟨cap,hc,c0,c1⟩:=AS0 v.g (b:=T) (n:=h.2.1.2.2.length) hTr.1 hTr.2 (by omega) (by omega)
  rw[hc,A9]
  have AOV:Tg h l (h.2.2.2.1,T, -1, -1,0):=
   ⟨fun i hi=>(U8 i hi).1,AYQ,fun i hi=>(U8 i hi).2,hp,by simp only;exact hT.symm,.inr (by rw[hT]),fun hm=>by
    obtain⟨i,hi,he⟩:=J4.1 hm
    have:=v.hi.seq i (U8 i hi).1
    simp only at he;omega⟩
  have wrap:∀ {X:Option (AH×Int)},(∃ x,X=some x/\(x.2≠0\/(x.2=0/\Tg h l x.1)))->∃ b,Option.map (Sum.inr (α:=List Int×Int)) X=some (Sum.inr b)/\(b.2≠0\/(b.2=0/\Tg h l b.1)):=by
   rintro X ⟨x,rfl,hx⟩;exact⟨x,rfl,hx⟩
  rcases lN (q:=h.2.2.1) (fun x hx=>by have:=l3 x hx;omega) hTr.1 (by omega) with ⟨y1,y2⟩|⟨y,y1,y2⟩
  ·rw[y2,A9]
   simp only
   refine wrap (ADS (fun _=>True) l.length (r:=fun b=>if b=true then (if decide (cap=0\/((0,0,0,0,0):AH).2.2.2.2<cap*sz h.2.1.1)=true then some (((0,0,0,0,0):AH),0) else some ((h.2.2.2.1,T, -1, -1,0),0)) else some ((h.2.2.2.1,T, -1, -1,0),0)) ?_ ?_ ?_)
   ·intro k b hk
    simp only
    rw[AA (by omega),AA (by omega),AD (e:=(k:Int)+1) (by omega) (by omega)]
    cases b with
    |true=>exact⟨_,by rw[AA rfl],fun _=>⟨rfl,trivial⟩⟩
    |false=>exact⟨false,by rw[AB (by decide)],fun h=>by cases h⟩
   ·intro b
    simp only
    rw[AB (by omega),lO v.vs.sh ((0,0,0,0,0):AH) c0 (by omega)]
    rfl
   ·intro b hb
    cases b with
    |true=>exact absurd (hb rfl).1 (by decide)
    |false=>exact⟨_,rfl,.inr ⟨rfl,AOV⟩⟩
  ·rw[y2,A9]
   have hyb:=(hN.e T.toNat (by omega) y y1).1
   have hym:y∈h.2.2.1.flatten:=I2.2 ⟨T.toNat,by omega,y1⟩
   simp only
   refine wrap (ADS (fun k=>(gl ((0,0,0,0,0):AH) l k).1≠y.1) l.length (r:=fun b=>if b=true then (if decide (cap=0\/y.2.2.2.2<cap*sz h.2.1.1)=true then some (y,0) else some ((h.2.2.2.1,T, -1, -1,0),0)) else some ((h.2.2.2.1,T, -1, -1,0),0)) ?_ ?_ ?_)
   ·intro k b hk
    simp only[I3]
    rw[AA (by omega),AA (by omega),AD (e:=(k:Int)+1) (by omega) (by omega)]
    cases b with
    |true=>exact⟨_,by rw[AA rfl],fun hc=>⟨rfl,gN hc⟩⟩
    |false=>exact⟨false,by rw[AB (by decide)],fun h=>by cases h⟩
   ·intro b
    simp only
    rw[AB (by omega),lO v.vs.sh y c0 (by omega)]
    rfl
   ·intro b hb
    by_cases dB:b=true
    ·rw[AA dB]
     obtain⟨-,Z7⟩:=hb dB
     split
     ·refine⟨_,rfl,.inr ⟨rfl,fun i hi=>(U8 i hi).1,AYQ,fun i hi=>(U8 i hi).2,hp,by rw[hT];simp only;omega,.inl hym,fun hm=> ?_⟩⟩
      obtain⟨i,hi,he⟩:=J4.1 hm
      obtain⟨k,hk,rfl⟩:=F5 (d:=((0,0,0,0,0):AH)) hi
      exact Z7 k hk he
     ·exact⟨_,rfl,.inr ⟨rfl,AOV⟩⟩
    ·rw[AB dB];exact⟨_,rfl,.inr ⟨rfl,AOV⟩⟩
def ms (w:AH->Nat) (l:List AH):Nat:=(l.map w).sum
theorem AS2 {w:AH->Nat} {a b:List AH} (h:a.Perm b):ms w a=ms w b:=by
 unfold ms
 induction h with
 |nil=>rfl
 |cons x _ ih=>simp only[K0,List.sum_cons,ih]
 |swap x y l=>simp only[K0,List.sum_cons];omega
 |trans _ _ h1 h2=>rw[h1,h2]
theorem lW (w:AH->Nat) (p:AH->Bool):∀ l:List AH,ms w (l.filter p)<=ms w l
 | []=>ED _
 |a::r=>by
  have:=lW w p r
  unfold ms at this ⊢
  rw[qY]
  split <;> simp only[K0,List.sum_cons] <;> omega
theorem xQ (w:AH->Nat) (p:AH->Bool) {i:AH} (hp:p i=false):∀ {l:List AH},i∈l->ms w (l.filter p)+w i<=ms w l
 |a::r,hi=>by
  rw[qY]
  rcases F7.1 hi with rfl|hi
  ·have:=lW w p r
   rw[hp];unfold ms at this ⊢
   simp only[K0,List.sum_cons,T8,I9];omega
  ·have:=xQ w p hp hi
   unfold ms at this ⊢
   split <;> simp only[K0,List.sum_cons] <;> omega
theorem AOW {w w' :AH->Nat} {l:List AH} (h:∀ i∈l,w i=w' i):ms w l=ms w' l:=by
 unfold ms;rw[T7 h]
theorem ATJ {w:AH->Nat} {b:Nat}:∀ {l:List AH},(∀ i∈l,w i<=b)->ms w l<=l.length*b
 | [],_=>by simp [ms]
 |a::r,h=>by
  have h1:=h a (by simp)
  have h2:=ATJ (w:=w) (b:=b) (l:=r) fun i hi=>h i (S7 _ hi)
  unfold ms at h2 ⊢
  simp only[K0,List.sum_cons,N3]
  rw[Nat.succ_mul];omega
theorem AI7 {α β:Type} {d:α} {n:Nat} (pos:Nat->Int) (val:Nat->α) {xs:List α} (hr:∀ k,k<n->0<=pos k/\pos k<xs.length) (hi:∀ j k,j<n->k<n->pos j=pos k->j=k)
  {f:Int×List α->Option ((Int×List α) ⊕ β)} (hs:∀ k ys,k<n->ys.length=xs.length->f ((k:Int),ys)=some (.inl ((k:Int)+1,ys.set (pos k).toNat (val k)))) {Q:β->Prop}
  (he:∀ ys,ys.length=xs.length->(∀ k,k<n->gl d ys (pos k).toNat=val k)->(∀ y:Nat,(∀ k,k<n->pos k≠y)->gl d ys y=gl d xs y)->∃ b,f ((n:Int),ys)=some (.inr b)/\Q b):∃ b,AM f (0,xs)=some b/\Q b:=by
 refine AR (f:=f) (fun k (st:Int×List α)=>st.1=(k:Int)/\st.2.length=xs.length/\(∀ j,j<k->gl d st.2 (pos j).toNat=val j)/\∀ y:Nat,(∀ j,j<k->pos j≠y)->gl d st.2 y=gl d xs y) Q n ?_ ?_ (s:=(0,xs)) ⟨rfl,rfl,fun j hj=>by omega,fun _ _=>rfl⟩
 ·rintro k ⟨kk,ys⟩ hk ⟨HK,hl,h1,h2⟩
  simp only at HK hl h1 h2
  subst HK
  have MC :=hr k hk
  have C7:(pos k).toNat<ys.length:=by omega
  refine .inl ⟨_,hs k ys hk hl,rfl,by simp only[ER];exact hl,fun j hj=> ?_,fun y hy=> ?_⟩
  ·simp only
   rw[D0 C7]
   by_cases gC:j=k
   ·subst gC;rw[AA rfl]
   ·have:=hr j (by omega)
    rw[AB (fun he=>gC (hi j k (by omega) hk (by omega))),h1 j (by omega)]
  ·simp only
   rw[D0 C7,AB (fun he=>hy k (by omega) (by omega))]
   exact h2 y fun j hj=>hy j (by omega)
 ·rintro⟨kk,ys⟩ ⟨HK,hl,h1,h2⟩
  simp only at HK hl h1 h2
  subst HK
  exact he ys hl h1 h2
theorem notes {β:Type} {s:Sp} (h:VS s) {xs:List Int} (hx:∀ y∈xs,0<=y/\y<s.2.1.length)
  {f:Ss×Int×List (BitVec 64)×List Fr->Option ((Ss×Int×List (BitVec 64)×List Fr) ⊕ β)}
  (hs:∀ (k:Nat) ss,k<xs.length->f (ss,(k:Int),s.2.1,s.2.2)=Option.bind (CH s ss (gl 0 xs k) (gl 0#64 s.2.1 (gl 0 xs k).toNat)) fun r=>some (.inl (r.1,(k:Int)+1,r.2.1,r.2.2)))
  {ss:Ss} (hr:RV ss) {Q:β->Prop}
  (hq:∀ T4,RV T4 ->(∀ f g y,In T4 f g y↔In ss f g y\/(y∈xs/\Pr s y (gl 0#64 s.2.1 y.toNat) f g))->∃ b,f (T4,(xs.length:Int),s.2.1,s.2.2)=some (.inr b)/\Q b):
  ∃ b,AM f (ss,0,s.2.1,s.2.2)=some b/\Q b:=by
 refine AR (f:=f) (fun k (st:Ss×Int×List (BitVec 64)×List Fr)=>st.2=((k:Int),s.2.1,s.2.2)/\RV st.1/\∀ f g y,In st.1 f g y↔In ss f g y\/(y∈xs.take k/\Pr s y (gl 0#64 s.2.1 y.toNat) f g)) Q xs.length ?_ ?_ (s:=(ss,0,s.2.1,s.2.2)) ⟨rfl,hr,fun f g y=>by simp⟩
 ·rintro k ⟨ss1,st⟩ hk ⟨hst,h1,h2⟩
  simp only at hst h1 h2
  subst hst
  have hxk:=hx _ (BR (d:=0) hk)
  obtain⟨T4,g1,g2,g3⟩:=AI3 h h1 hxk.1 hxk.2 (gl 0#64 s.2.1 (gl 0 xs k).toNat)
  refine .inl ⟨(T4,(k:Int)+1,s.2.1,s.2.2),by rw[hs k ss1 hk,g1];rfl,by simp only[Int.natCast_add];rfl,g2,fun f g y=> ?_⟩
  simp only
  rw[g3,h2,FV (d:=0) xs k hk,EV,F6]
  constructor
  ·rintro ((h|⟨h,h'⟩)|⟨rfl,h⟩)
   ·exact .inl h
   ·exact .inr ⟨.inl h,h'⟩
   ·exact .inr ⟨.inr rfl,h⟩
  ·rintro (h|⟨h|rfl,h'⟩)
   ·exact .inl (.inl h)
   ·exact .inl (.inr ⟨h,h'⟩)
   ·exact .inr ⟨rfl,h'⟩
 ·rintro⟨ss1,st⟩ ⟨hst,h1,h2⟩
  simp only at hst h1 h2
  subst hst
  rw[SP] at h2
  exact hq ss1 h1 h2
theorem AOX {s:Sp} (h:VS s) {ss:Ss} (hr:RV ss) {l:List AH} (hl:l.length<=1000000) {ys:List Int} (hy:∀ y∈ys,0<=y/\y<s.2.1.length) (jF:ys.length<=1000000) {mv:List (Int×Int)} (hml:mv.length<=1000000) (S:Nat->List Int)
  (hS:∀ k,k<mv.length->CC s (gl (0,0) mv k).2=some (S k,0)/\(S k).length<=1000000/\∀ y∈S k,0<=y/\y<s.2.1.length):
  ∃ T4,GH s ss l ys mv=some (T4,s.2.1,s.2.2)/\RV T4 /\∀ f g y,In T4 f g y↔In (lP ss (tO s (BQ l) s.2.2.length)) f g y\/((y∈ys\/∃ k,k<mv.length/\y∈S k)/\Pr s y (gl 0#64 s.2.1 y.toNat) f g):=by
 have hn:=h.n.2
 have hc:=AAC s (BQ l) s.2.2.length
 suffices hh:∃ b,GH s ss l ys mv=some b/\(b.2=(s.2.1,s.2.2)/\RV b.1/\∀ f g y,In b.1 f g y↔In (lP ss (tO s (BQ l) s.2.2.length)) f g y\/((y∈ys\/∃ k,k<mv.length/\y∈S k)/\Pr s y (gl 0#64 s.2.1 y.toNat) f g)) by
  obtain⟨b,h1,h2,h3,h4⟩:=hh
  exact⟨b.1,by rw[h1,←h2],h3,h4⟩
 unfold GH
 rw[oV h hl,A9,ARQ hr (by omega),A9]
 have wrap:∀ {σ α:Type} {X:Option α} {Q:α->Prop},(∃ x,X=some x/\Q x)->∃ b,Option.map (Sum.inr (α:=σ)) X=some (Sum.inr b)/\Q b:=by
  rintro σ α X Q ⟨x,rfl,hx⟩;exact⟨x,rfl,hx⟩
 refine notes h hy ?_ (hr.drop _) ?_
 ·intro k ss1 hk
  have:=hy _ (BR (d:=0) hk)
  simp only[I3]
  rw[AA (by omega),AA (by omega),AA (by omega),AD (e:=(k:Int)+1) (by omega) (by omega)]
 ·intro ss1 h1 h2
  simp only
  rw[AB (by omega)]
  refine wrap (AR (fun k (st:Ss×Int×List (BitVec 64)×List Fr)=>st.2=((k:Int),s.2.1,s.2.2)/\RV st.1/\∀ f g y,In st.1 f g y↔In (lP ss (tO s (BQ l) s.2.2.length)) f g y\/((y∈ys\/∃ j,j<k/\y∈S j)/\Pr s y (gl 0#64 s.2.1 y.toNat) f g)) _ mv.length ?_ ?_ ⟨rfl,h1,fun f g y=> ?_⟩)
  ·rintro k ⟨ss2,st⟩ hk ⟨hst,h3,h4⟩
   simp only at hst h3 h4
   subst hst
   obtain⟨g1,g2,g3⟩:=hS k hk
   left
   simp only[I3]
   rw[AA (by omega),AA (by omega)]
   have e1:((s.1,s.2.1,s.2.2):Sp)=s:=rfl
   rw[e1,g1,A9]
   have key:=notes (β:=(Ss×Int×List (BitVec 64)×List Fr) ⊕ (Ss×List (BitVec 64)×List Fr)) h g3 (f:=fun s3:Ss×Int×List (BitVec 64)×List Fr=>
    if s3.2.1<((S k).length:Int) then
    if 0<=s3.2.1/\s3.2.1<((S k).length:Int) then
    if 0<=(gl (0:Int) (S k) s3.2.1.toNat)/\(gl (0:Int) (S k) s3.2.1.toNat)<(s3.2.2.1.length:Int) then
    Option.bind (CH (s.1,s3.2.2) s3.1 (gl (0:Int) (S k) s3.2.1.toNat) (gl (0#64:(BitVec 64)) s3.2.2.1 ((gl (0:Int) (S k) s3.2.1.toNat).toNat))) (fun r5=>
    some (Sum.inl ((r5.1,AG (s3.2.1+1),r5.2.1,r5.2.2))))
    else none
    else none
    else some (Sum.inr (Sum.inl ((s3.1,AG ((k:Int)+1),s3.2.2.1,s3.2.2.2))))) (ss:=ss2) (by
     intro j ss3 hj
     have:=g3 _ (BR (d:=0) hj)
     simp only[I3]
     rw[AA (by omega),AA (by omega),AA (by omega),AD (e:=(j:Int)+1) (by omega) (by omega)]) h3
    (Q:=fun b=>∃ s',b=Sum.inl s' /\(s'.2=(((k+1:Nat):Int),s.2.1,s.2.2)/\RV s'.1/\∀ f g y,In s'.1 f g y↔In (lP ss (tO s (BQ l) s.2.2.length)) f g y\/((y∈ys\/∃ j,j<k+1/\y∈S j)/\Pr s y (gl 0#64 s.2.1 y.toNat) f g))) (by
     intro ss3 h5 h6
     simp only
     rw[AB (by omega),AD (e:=(k:Int)+1) (by omega) (by omega)]
     refine⟨_,rfl,_,rfl,rfl,h5,fun f g y=> ?_⟩
     simp only
     rw[h6,h4]
     constructor
     ·rintro ((h|⟨h|⟨j,hj,hjy⟩,h'⟩)|⟨h,h'⟩)
      ·exact .inl h
      ·exact .inr ⟨.inl h,h'⟩
      ·exact .inr ⟨.inr ⟨j,by omega,hjy⟩,h'⟩
      ·exact .inr ⟨.inr ⟨k,by omega,h⟩,h'⟩
     ·rintro (h|⟨h|⟨j,hj,hjy⟩,h'⟩)
      ·exact .inl (.inl h)
      ·exact .inl (.inr ⟨.inl h,h'⟩)
      ·by_cases gC:j=k
       ·subst gC;exact .inr ⟨hjy,h'⟩
       ·exact .inl (.inr ⟨.inr ⟨j,by omega,hjy⟩,h'⟩))
   obtain⟨b,hb,s',rfl,hs'⟩:=key
   exact⟨s',hb,hs'⟩
  ·rintro⟨ss2,st⟩ ⟨hst,h3,h4⟩
   simp only at hst h3 h4
   subst hst
   simp only
   rw[AB (by omega)]
   exact⟨_,rfl,rfl,h3,h4⟩
  ·simp only
   rw[h2]
   constructor
   ·rintro (h|⟨h,h'⟩)
    ·exact .inl h
    ·exact .inr ⟨.inl h,h'⟩
   ·rintro (h|⟨h|⟨j,hj,_⟩,h'⟩)
    ·exact .inl h
    ·exact .inr ⟨h,h'⟩
    ·omega
theorem AYR (s:Sp) {q b:Int} (q0:0<=q) (q1:q<=4294967295) (b0:0<=b) (b1:b<4):D5 s (q,b, -1, -1,0):=⟨by simp only;omega,.inl (by simp)⟩
theorem HI.gw {s:Sp} {q:Rows} {n:Int} {ss:Ss} {r:Ro} (h:HI s q n ss r) {l:List AH} (hl:∀ i∈l,i∈q.flatten) {w:BitVec 64} (hw:Rf s q w):Gw s l w:=by
 intro hn
 rcases hw with hw|⟨k,hk,p,x,o⟩
 ·exact absurd hw hn.1
 ·have hr:=o.IP h.hb.bv.vs (h.hb.fit hk).1
  have h3:=hn.2.2
  rw[hr.2.2.1] at h3
  obtain⟨i,hi,he⟩:=J4.1 h3
  rw[h.hb.uniq (hl i hi) hk he] at hi
  exact⟨k,hi,p,x,o⟩
structure Rch (R:Int->Prop) (s:Sp) (q:Rows) (r:Ro) (l:List AH):Prop where
 ob:∀ i∈l,∀ la oa pa a x,OB s i la oa pa a x->R a->∀ j ya,1<=j->j<=x.1->DB (sz s.1) la (pa+j)=some ya->Wn (BQ l) s (gl 0#64 s.2.1 ya.toNat)->R (((gl 0#64 s.2.1 ya.toNat).toNat:Int)-1)
 rt:∀ i:Nat,i<32->gl false r.1 i=true->Wn (BQ l) s (gl 0#64 r.2 i)->R (((gl 0#64 r.2 i).toNat:Int)-1)
 sl:∀ y,Slot s q y->(fr s.2.2 (y / sz s.1)).1∉BQ l->Wn (BQ l) s (gl 0#64 s.2.1 y.toNat)->R (((gl 0#64 s.2.1 y.toNat).toNat:Int)-1)
def Dn (R:Int->Prop) (h:Hs) (l:List AH) (B3:AH) (h' :Hs) (u:Int):Prop:=
 ∃ l0 EK t to lb m mv ys ws r' T4 st,N4 R h.2.1 h.2.2.1 h.2.2.2.1 h.2.2.2.2.1 h.2.2.2.2.2.1 l B3 l0 EK t to lb m mv ys ws r' /\Sin h.2.1 h.2.2.2.2.1 l EK t to lb m mv ys ws T4 ∧
  h' =(h.1,MU t ws l,WU h.2.2.1 l B3 to,vE h.2.2.2.1 B3 to,T4,r',h.2.2.2.2.2.2.1,st,h.2.2.2.2.2.2.2.2)/\u=to.2.2.2.2-B3.2.2.2.2
theorem Dn.hv {R:Int->Prop} {N:Int} {h:Hs} {l:List AH} {B3:AH} {h' :Hs} {u:Int} (v:HV N h) (d:Dn R h l B3 h' u):HV (N+1) h' :=by
 obtain⟨l0,EK,t,to,lb,m,mv,ys,ws,r',T4,st,h1,h2,rfl, -⟩:=d
 have:=AAG h.2.2.2.1 B3 to
 have:=v.n1
 exact⟨v.g,h1.done h2,by simp only;rw[h1.okN.2];exact v.ql,by simp only;omega⟩
theorem Tg.cd {N:Int} {h:Hs} (v:HV N h) (hN:N<=4294967295) {l:List AH} {B3:AH} (g:Tg h l B3):(∃ l0 EK,Cd h.2.1 h.2.2.1 l B3 l0 EK)/\(B3∈h.2.2.1.flatten\/(B3.1=h.2.2.2.1/\B3.2.2.2.2=0/\0<=B3.2.1/\B3.2.1<h.2.2.1.length)):=by
 have hv:=v.vs
 rcases g.tgt with ht|ht
 ·obtain⟨EK,l0,h1,h2⟩:=v.hi.hb.full B3 ht
  have hf:=v.hi.hb.fit ht
  exact⟨⟨l0,EK,v.hi.hb,g.sub,hf.1,g.out,fun hw=>by omega,h1,h2⟩,.inl ht⟩
 ·have h0:gl ((0,0,0,0,0):AH) l 0∈l:=BR (l8.2 g.ne)
  obtain⟨⟨r0,r1⟩, -⟩:=(E_.1 v.hi.hb.bv.ok).1.row (g.sub _ h0)
  have hql:=v.ql
  obtain⟨-, -,htb⟩:=v.g.ru _ r0 (by omega)
  have hg:=v.g.n
  generalize hT:(ru h.1 (gl ((0,0,0,0,0):AH) l 0).2.1).2.2.2=T at htb ht
  have hTr:0<=T/\T<h.1.2.1.length:=by
   unfold FD at htb
   rw[hT] at htb
   by_cases dB:(gl ((0,0,0,0,0):AH) l 0).2.1=(h.1.2.1.length:Int)-1
   ·have:T=(gl ((0,0,0,0,0):AH) l 0).2.1:=AIP fun hn=>htb (.inl ⟨dB,hn⟩)
    omega
   ·have h1:¬(T<=(gl ((0,0,0,0,0):AH) l 0).2.1\/(h.1.2.1.length:Int)-1<T):=fun hn=>htb (.inr ⟨by omega,hn⟩)
    omega
  subst ht
  have hn0:=v.hi.n0
  have hn1:=v.n1
  refine⟨⟨[],[],v.hi.hb,g.sub,AYR _ hn0 (by omega) hTr.1 (by omega),g.out,fun _=> ?_,.inl ⟨rfl,rfl⟩,rfl⟩,.inr ⟨rfl,rfl,hTr.1,by simp only;omega⟩⟩
  refine List.eq_nil_iff_forall_not_mem.2 fun x hx=> ?_
  obtain⟨⟨x0,x1⟩,hxo⟩:=B0.1 hx
  simp only at hxo
  have:=v.hi.hb.bv.cov x x0 x1 (by rw[hxo];omega)
  obtain⟨i,hi,he⟩:=C0.1 this
  have:=v.hi.seq i hi
  omega
theorem WV {σ α:Type} {X:Option α} {Q:α->Prop} (h:∃ x,X=some x/\Q x):∃ b,Option.map (Sum.inr (α:=σ)) X=some (Sum.inr b)/\Q b:=by
 obtain⟨x,rfl,hx⟩:=h;exact⟨x,rfl,hx⟩
theorem ADT {α β:Type} {d:α} {n:Nat} (val:Nat->α) {a0:List α} {f:List α×Int->Option ((List α×Int) ⊕ β)} (hs:∀ (k:Nat) acc,k<n->acc.length=a0.length+k->f (acc,(k:Int))=some (.inl (acc++ [val k],(k:Int)+1))) {Q:β->Prop}
  (he:∀ acc,acc.length=a0.length+n->(∀ k,k<n->gl d acc (a0.length+k)=val k)->(∀ k,k<a0.length->gl d acc k=gl d a0 k)->∃ b,f (acc,(n:Int))=some (.inr b)/\Q b):∃ b,AM f (a0,0)=some b/\Q b:=by
 refine AR (f:=f) (fun k (st:List α×Int)=>st.2=(k:Int)/\st.1.length=a0.length+k/\(∀ j,j<k->gl d st.1 (a0.length+j)=val j)/\∀ j,j<a0.length->gl d st.1 j=gl d a0 j) Q n ?_ ?_ (s:=(a0,0)) ⟨rfl,rfl,fun j hj=>by omega,fun _ _=>rfl⟩
 ·rintro k ⟨acc,kk⟩ hk ⟨HK,hl,h1,h2⟩
  simp only at HK hl h1 h2
  subst HK
  refine .inl ⟨_,hs k acc hk hl,rfl,by simp only[I5,HW];omega,fun j hj=> ?_,fun j hj=> ?_⟩
  ·simp only
   by_cases gC:j=k
   ·subst gC
    rw[DZ (xs:=acc++ [val j]) (by rw[I5,HW];omega),AIQ (by omega)]
    simp only[hl,Nat.sub_self,List.getElem_singleton]
   ·rw[XA (by omega)];exact h1 j (by omega)
  ·simp only
   rw[XA (by omega)];exact h2 j hj
 ·rintro⟨acc,kk⟩ ⟨HK,hl,h1,h2⟩
  simp only at HK hl h1 h2
  subst HK
  exact he acc hl h1 h2
theorem AVY (u:List Bool) (k:Nat):(xI u k).Pairwise (·< ·):=by
 induction k with
 |zero=>exact List.Pairwise.nil
 |succ k ih=>
  unfold xI
  split
  ·rw[qZ]
   refine⟨ih,List.pairwise_singleton _ _,fun a ha b hb=> ?_⟩
   obtain⟨j,hj,_,rfl⟩:=qH.1 ha
   rw[F6.1 hb];omega
  ·rw[G5];exact ih
theorem ATK {l:List Int} (h:l.Pairwise (·< ·)) {j k:Nat} (hj:j<l.length) (hk:k<l.length) (he:gl 0 l j=gl 0 l k):j=k:=by
 rw[DZ hj,DZ hk] at he
 rcases Nat.lt_trichotomy j k with C7|C7|C7
 ·have:=AE8.1 h j k hj hk C7;omega
 ·exact C7
 ·have:=AE8.1 h k j hk hj C7;omega
theorem N4.obW {R:Int->Prop} {s0:Sp} {q:Rows} {n:Int} {ss:Ss} {r:Ro} {l:List AH} {B3:AH} {l0:List Int} {EK:List (Int×Int)} {t:Sp} {to:AH} {lb:List Int} {m mv:List (Int×Int)} {ys:List Int} {ws:List (BitVec 64)} {r' :Ro}
  (h:N4 R s0 q n ss r l B3 l0 EK t to lb m mv ys ws r') {p a:Int} {x:Int×Int} (o:OB t to lb (EK++m) p a x):OB (t.1,ws,t.2.2) to lb (EK++m) p a x/\D5 (t.1,ws,t.2.2) to:=by
 have hz:sz t.1=sz s0.1:=by rw[h.ci.sh]
 refine⟨⟨o.has,o.RK.xN fun p x a hp ha=>⟨ha, ?_⟩,o.ta,o.IP⟩, ?_⟩
 ·have hr:=h.ci.RK.ta hp
  have hc:=DD h.ci.cy.vs h.ci.cy.fit h.ci.has hr.2.2.1 ha
  refine h.w2 a hc.1.1 fun hm=> ?_
  rw[hz] at ha
  obtain⟨_,p',a',x',j,o',j1,j2,he⟩:=h.yT hr.2.2.1 ha hm
  have:=o'.HJ
  rcases h.ci.RK.apart hp (TA.app (m:=m) o'.ta) with ⟨h3,_⟩|h3|h3 <;> omega
 ·have hf:=h.ci.cy.fit
  refine⟨?_,hf.2⟩
  have:=hf.1
  have e1:ws.length=t.2.1.length:=by rw[h.wl,h.ci.wl]
  simp only
  rw[e1];exact this
theorem AKT {β:Type} {c:Cf} {s:Sp} {q:Rows} {rest:Int×Ss×Ro×Int×(Int×Int×Int×Int×Int×Int×Int×Int×Int)×Bool} (hv:VS s) (hN:OkN q) {l:List AH} (hl:∀ i∈l,i∈q.flatten/\0<=i.1) (H8:(BQ l).Nodup) (hll:l.length<=1000000)
  (hq1:q.length<=4) (vR:q.flatten.length<=64) {fin:Int×Hs->Option β} {f:Int×Hs->Option ((Int×Hs) ⊕ β)}
  (hs:∀ s6:Int×Hs,f s6=if s6.1<(l.length:Int) then
   if 0<=s6.1/\s6.1<(l.length:Int) then
   Option.bind (DV s6.2.2.2.1 ((gl ((0,0,0,0,0):(Int×Int×Int×Int×Int)) l s6.1.toNat).1)) (fun r9=>
   Option.bind (GI s6.2.2.1 ((gl ((0,0,0,0,0):(Int×Int×Int×Int×Int)) l s6.1.toNat).1)) (fun LZ=>
   some (Sum.inl ((AG (s6.1+1),(s6.2.1,(s6.2.2.1.1,LZ.2),r9.1,s6.2.2.2.2))))))
   else none
   else Option.map Sum.inr (fin s6)) {Q:β->Prop}
  (he:∃ b,fin ((l.length:Int),(c,gvs s (BQ l),gJ q (BQ l),rest))=some b/\Q b):∃ b,AM f (0,(c,s,q,rest))=some b/\Q b:=by
 refine AR (f:=f) (fun k (st:Int×Hs)=>st=((k:Int),(c,gvs s (BQ (l.take k)),gJ q (BQ (l.take k)),rest))) Q l.length ?_ ?_ (s:=(0,(c,s,q,rest))) ?_
 ·rintro k st hk rfl
  left
  rw[hs]
  simp only[I3]
  rw[AA (by omega),AA (by omega)]
  have hm:=BR (d:=((0,0,0,0,0):AH)) hk
  obtain⟨hi,hi0⟩:=hl _ hm
  have hrm:=hN.gJ (BQ (l.take k))
  have yW:(gJ q (BQ (l.take k))).flatten.length<=64:=by
   rw[cM];exact fX (oX _ _) vR
  have ABB:(gl ((0,0,0,0,0):AH) l k).1∉BQ (l.take k):=by
   intro hm
   have h1:=H8
   rw[show BQ l=BQ (l.take k)++BQ (gl ((0,0,0,0,0):AH) l k::l.drop (k+1)) from by
    conv=>lhs;rw[qG (d:=((0,0,0,0,0):AH)) l k hk]
    unfold BQ;rw[ZS],PL] at h1
   exact h1.2.2 _ hm _ (by unfold BQ;rw[K0];exact List.mem_cons_self) rfl
  rw[AKP (by rw[NG];omega) (fun x hx=>by have:=lT yW x hx;omega) hrm.nd (NH.2 ⟨hi,ABB⟩),A9]
  have hvk:=(AGB (C:=BQ (l.take k)) hv (fun n hn=>by
   obtain⟨i,hi,rfl⟩:=J4.1 hn
   exact (hl i (vJ hi)).2)).1
  rw[AKB hvk _ (by omega),A9,AD (by omega) (by omega)]
  refine⟨_,rfl, ?_⟩
  rw[xP hk,ADM,AOP]
  rfl
 ·rintro st rfl
  rw[hs]
  simp only
  rw[AB (by omega),SP]
  exact WV he
 ·simp only[List.take_zero]
  rw[show BQ []=[] from rfl,ARW];rfl
abbrev hz0:Hs:=(((⟨#[]⟩:ByteArray),[],0),(0,[],[]),[],0,[],([],[]),0,(0,0,0,0,0,0,0,0,0),false)
theorem AYS {R:Int->Prop} {N:Int} {h:Hs} (v:HV N h) (hN:N<=4294967295) {l:List AH} (hl:l.length<=1000000) (hR:Rch R h.2.1 h.2.2.1 h.2.2.2.2.2.1 l):
  ∃ h' rep e,B8 h l=some (h',rep,e)/\((e≠0/\h' =hz0)\/(e=0/\∃ B3 u,Tg h l B3/\Dn R h l B3 h' u)):=by
 suffices hh:∃ x,B8 h l=some x/\((x.2.2≠0/\x.1=hz0)\/(x.2.2=0/\∃ B3 u,Tg h l B3/\Dn R h l B3 x.1 u)) by
  obtain⟨x,h1,h2⟩:=hh
  exact⟨x.1,x.2.1,x.2.2,h1,h2⟩
 obtain⟨B3,e,ht1,ht2⟩:=AKS v hl
 unfold B8
 rw[ht1,A9]
 rcases ht2 with he|⟨rfl,tg⟩
 ·rw[AA he];exact⟨_,rfl,.inl ⟨he,rfl⟩⟩
 rw[AB (show ¬¬((B3,(0:Int)).2=0) from I4 rfl)]
 obtain⟨⟨l0,EK,cd⟩,tgt⟩:=tg.cd v hN
 obtain⟨l1,l2,l3⟩:=v.hi.hb.lens
 have hv:=v.vs
 have hn:=hv.n
 have oB:=VS.O2 hv
 have JB:=tg.sub
 refine AR (fun k (st:Int×Int×(Int×Int×Int×Int))=>st.2.1=(k:Int)) _ l.length ?_ ?_ (s:=(0,0,(0,0,0,0))) rfl
 ·rintro k st hk hst
  left
  have hm:=JB _ (BR (d:=((0,0,0,0,0):AH)) hk)
  have hf:=(v.hi.hb.fit hm).1.1
  rw[hst]
  simp only[I3]
  rw[AA (by omega),AA (by omega),tK,S5 hv (by omega) (by omega),A9,AD (e:=(k:Int)+1) (by omega) (by omega)]
  exact⟨_,rfl,rfl⟩
 intro st hst
 rw[hst,AB (by omega)]
 refine WV ?_
 rw[qD hn.2,A9]
 by_cases NL:st.1>((DA h.2.1.2.2).length:Int)
 ·rw[AA NL];exact⟨_,rfl,.inl ⟨by decide,rfl⟩⟩
 rw[AB NL,v.copy,A9,ADH hv v.hi.ro hl,A9]
 obtain⟨ys,ne,rJ,he2,he3⟩:=ADI hv v.hi.rv hl
 rw[rJ,A9]
 generalize hH:((xI h.2.2.2.2.2.1.1 32).filter fun x=>decide (Wn (BQ l) h.2.1 (gl 0#64 h.2.2.2.2.2.1.2 (x-1).toNat)))=H
 have hHp:H.Pairwise (·< ·):=by rw[<-hH];exact (AVY _ _).filter _
 have hHm:∀ x,x∈H↔(∃ j:Nat,j<32/\gl false h.2.2.2.2.2.1.1 j=true/\x=(j:Int)+1)/\Wn (BQ l) h.2.1 (gl 0#64 h.2.2.2.2.2.1.2 (x-1).toNat):=by
  intro x;rw[<-hH,YN,qH,IQ]
 have hHr:∀ k,k<H.length->1<=gl 0 H k/\gl 0 H k<=32:=by
  intro k hk
  obtain⟨⟨j,hj,_,he⟩,_⟩:=(hHm _).1 (BR (d:=0) hk)
  omega
 have hHl:H.length<=32:=by
  have h1:=lR h.2.2.2.2.2.1.1 32
  rw[<-hH];exact fX (oX _ _) h1
 have jF:ys.length<=16384:=nI he2 fun y hy=>by have:=((he3 y).1 hy).2.1;omega
 have hyr:∀ k,k<ys.length->0<=gl 0 ys k/\gl 0 ys k<h.2.1.2.1.length:=fun k hk=>((he3 _).1 (BR (d:=0) hk)).2.1
 have hrl:=v.hi.ro.rl
 have hru:=v.hi.ro.ul
 dsimp only
 refine ADT (d:=0#64) (n:=H.length) (fun k=>gl 0#64 h.2.2.2.2.2.1.2 (gl 0 H k-1).toNat) ?_ ?_
 ·intro k acc hk AQQ
  have:=hHr k hk
  simp only[U7] at AQQ
  simp only[I3]
  rw[AA (by omega),AA (by omega),AD (e:=gl 0 H k-1) (by omega) (by omega),AA (by omega),AA (by simp only[HW];omega),AD (e:=(k:Int)+1) (by omega) (by omega)]
 intro ws1 hw1 hw2 _
 simp only[U7,I7] at hw1 hw2
 dsimp only
 rw[AB (by omega)]
 refine WV ?_
 refine ADT (d:=0#64) (n:=ys.length) (fun k=>gl 0#64 h.2.1.2.1 (gl 0 ys k).toNat) ?_ ?_
 ·intro k acc hk AQQ
  have:=hyr k hk
  simp only[I3]
  rw[AA (by omega),AA (by omega),AA (by omega),AA (by simp only[HW];omega),AD (e:=(k:Int)+1) (by omega) (by omega)]
 intro words hw3 hw4 hw5
 dsimp only
 rw[AB (by omega)]
 refine WV ?_
 have hwk:∀ k,k<H.length->gl 0#64 words k=gl 0#64 h.2.2.2.2.2.1.2 (gl 0 H k-1).toNat:=fun k hk=>by rw[hw5 k (by omega),hw2 k hk]
 have hwy:∀ k,k<ys.length->gl 0#64 words (H.length+k)=gl 0#64 h.2.1.2.1 (gl 0 ys k).toNat:=fun k hk=>by rw[<-hw1];exact hw4 k hk
 have wX:∀ y∈ys,Slot h.2.1 h.2.2.1 y/\(fr h.2.1.2.2 (y / sz h.2.1.1)).1∉BQ l:=by
  intro y hy
  obtain⟨⟨f,g,h1,h2,h3⟩,h4,_⟩:=(he3 y).1 hy
  obtain⟨h5,h6⟩:=v.hi.ins f g y h1
  have ff:=GM hv h4.1 h4.2
  exact⟨h5,fun hC=>h3 (X4.2 ⟨by rw[h6];exact ff,by rw[h6];exact hC⟩)⟩
 have grf:Grf R h.2.1 l:=by
  intro i hi la oa pa a x o hRa j ya j1 j2 xM
  exact⟨v.hi.gw JB (v.hi.ref ya ⟨i,JB i hi,la,oa,pa,a,x,j,o,j1,j2,xM⟩),hR.ob i hi la oa pa a x o hRa j ya j1 j2 xM⟩
 have gws:∀ w∈words,Gw h.2.1 l w/\(Wn (BQ l) h.2.1 w->R ((w.toNat:Int)-1)):=by
  intro w hw
  obtain⟨k,hk,rfl⟩:=F5 (d:=0#64) hw
  rw[hw3,hw1] at hk
  by_cases hkH:k<H.length
  ·rw[hwk k hkH]
   obtain⟨⟨j,hj,hu,he⟩,_⟩:=(hHm _).1 (BR (d:=0) hkH)
   rw[he,show ((j:Int)+1-1).toNat=j from by omega]
   exact⟨v.hi.gw JB (.inr (v.hi.root j hj hu).2),hR.rt j hj hu⟩
  ·obtain⟨k',rfl⟩:∃ k',k=H.length+k' :=⟨k-H.length,by omega⟩
   rw[hwy k' (by omega)]
   obtain⟨h1,h2⟩:=wX _ (BR (d:=0) (k:=k') (xs:=ys) (by omega))
   exact⟨v.hi.gw JB (v.hi.ref _ h1),hR.sl _ h1 h2⟩
 obtain⟨res,hr1,pZ⟩:=AVW cd hl grf (ws:=words) (by omega) gws
 rw[hr1,A9]
 rcases pZ with pZ|⟨t,to,lb,m,mv,out,rfl,ci,hol,him⟩
 ·rw[AA pZ];exact⟨_,rfl,.inl ⟨pZ,rfl⟩⟩
 rw[AB (show ¬¬((to,mv,out,(0:Int),t.2.1,t.2.2,l).2.2.2.1=0) from I4 rfl)]
 refine AI7 (d:=0#64) (n:=H.length) (fun k=>gl 0 H k-1) (fun k=>gl 0#64 out k) (fun k hk=>by have:=hHr k hk;omega) (fun j k hj hk he=>ATK hHp hj hk (by omega)) ?_ ?_
 ·intro k rs hk hrs
  have:=hHr k hk
  simp only[I3]
  rw[AA (by omega),AA (by omega),AA (by omega),AD (e:=gl 0 H k-1) (by omega) (by omega),AA (by omega),AD (e:=(k:Int)+1) (by omega) (by omega)]
 intro rs hrs A16 AYT
 dsimp only
 rw[AB (by omega)]
 refine WV ?_
 refine AI7 (d:=0#64) (n:=ys.length) (fun k=>gl 0 ys k) (fun k=>gl 0#64 out (H.length+k)) (fun k hk=>by have:=hyr k hk;rw[ci.wl];exact this) (fun j k hj hk he=>ATK he2 hj hk he) ?_ ?_
 ·intro k ws hk hws
  have:=hyr k hk
  rw[ci.wl] at hws
  simp only[I3]
  rw[AA (by omega),AA (by omega),AD (e:=(H.length:Int)+k) (by omega) (by omega),AA (by omega),AA (by omega),AD (e:=(k:Int)+1) (by omega) (by omega),show ((H.length:Int)+k).toNat=H.length+k from by omega]
 intro ws hws A17 A18
 rw[ci.wl] at hws
 dsimp only
 rw[AB (by omega)]
 refine WV ?_
 have stp:N4 R h.2.1 h.2.2.1 h.2.2.2.1 h.2.2.2.2.1 h.2.2.2.2.2.1 l B3 l0 EK t to lb m mv ys ws (h.2.2.2.2.2.1.1,rs):=by
  refine⟨v.hi,tg.pfx.pre v.hi.hb JB,tgt,cd,ci,he3,hws,fun y hy=> ?_,fun y y0 hy=> ?_,rfl,hrs,fun i hi hu=> ?_,fun i hi hu=> ?_⟩
  ·obtain⟨k,hk,rfl⟩:=F5 (d:=0) hy
   rw[A17 k hk,←hwy k hk]
   exact him _ (by omega)
  ·refine A18 y.toNat fun k hk he=>hy ?_
   rw[show y=gl 0 ys k from by omega]
   exact BR hk
  ·by_cases hw:Wn (BQ l) h.2.1 (gl 0#64 h.2.2.2.2.2.1.2 i)
   ·have hm:((i:Int)+1)∈H:=(hHm _).2 ⟨⟨i,hi,hu,rfl⟩,by rw[show ((i:Int)+1-1).toNat=i from by omega];exact hw⟩
    obtain⟨k,hk,he⟩:=F5 (d:=0) hm
    have h1:=A16 k hk
    have h2:=hwk k hk
    rw[he,show ((i:Int)+1-1).toNat=i from by omega] at h1 h2
    simp only
    rw[h1,←h2]
    exact him k (by omega)
   ·refine .inl ⟨hw, ?_⟩
    refine AYT i fun k hk he=>hw ?_
    have h1:=((hHm _).1 (BR (d:=0) hk)).2
    rw[he] at h1
    simpa using h1
  ·refine AYT i fun k hk he=> ?_
   obtain⟨⟨j,hj,hu',uH⟩,_⟩:=(hHm _).1 (BR (d:=0) hk)
   rw[show j=i from by omega,hu] at hu'
   cases hu'
 have hvT:=stp.vsT
 have hz:sz t.1=sz h.2.1.1:=by rw[ci.sh]
 have hml:=ci.AOL cd
 have hS:∀ k,k<mv.length->∃ S:List Int,(CC (t.1,ws,t.2.2) (gl (0,0) mv k).2=some (S,0)/\S.length<=1000000/\∀ y∈S,0<=y/\y<ws.length)∧
   ∀ y,y∈S↔∃ p x j,OB t to lb (EK++m) p (gl (0,0) mv k).2 x/\1<=j/\j<=x.1/\DB (sz h.2.1.1) lb (p+j)=some y:=by
  intro k hk
  obtain⟨i,la,oa,pa,p,cc⟩:=ci.vD k hk
  obtain⟨ow,fw⟩:=stp.obW cc.dst
  have hf:=ow.fields hvT fw
  have hro:=cc.dst.HJ
  have yS:∀ j:Nat,j<(gl (0,0) m k).1.toNat->∃ y,DB (sz h.2.1.1) lb (p+(1+(j:Int)))=some y/\(0<=y/\y<ws.length):=by
   intro j hj
   obtain⟨y,hy⟩:=cc.dst.z8 ci.cy.vs ci.cy.fit (k:=1+(j:Int)) (by omega) (by omega)
   have hc:=DD ci.cy.vs ci.cy.fit ci.has (by omega) hy
   rw[hz] at hy
   rw[ci.wl] at hc
   exact⟨y,hy,by rw[hws];exact hc.1⟩
  have U8:∀ y,y∈lS (sz t.1) lb p (gl (0,0) m k).1.toNat↔∃ j:Nat,j<(gl (0,0) m k).1.toNat/\DB (sz h.2.1.1) lb (p+(1+(j:Int)))=some y:=by
   intro y
   rw[hz]
   constructor
   ·intro hy
    obtain⟨j,hj,rfl⟩:=F5 (d:=0) hy
    rw[NA] at hj
    obtain⟨y,hy1,_⟩:=yS j hj
    refine⟨j,hj, ?_⟩
    rw[qJ hj,hy1];rfl
   ·rintro⟨j,hj,hy⟩
    have:gl 0 (lS (sz h.2.1.1) lb p (gl (0,0) m k).1.toNat) j=y:=by rw[qJ hj,hy];rfl
    rw[<-this]
    exact BR (by rw[NA];exact hj)
  refine⟨_,⟨hf,by rw[NA];omega,fun y hy=> ?_⟩,fun y=> ?_⟩
  ·obtain⟨j,hj,hy⟩:=(U8 y).1 hy
   obtain⟨y',hy1,hy2⟩:=yS j hj
   rw[hy] at hy1
   rw[VM hy1];exact hy2
  ·rw[U8]
   constructor
   ·rintro⟨j,hj,hy⟩
    exact⟨p,_,1+(j:Int),cc.dst,by omega,by omega,hy⟩
   ·rintro⟨p',x',j,o',j1,j2,hy⟩
    have A19 :=o'.HJ
    have hpp:p=p' :=ci.same cc A19.2.2.1 (by rw[<-hz];exact o'.IP)
    subst hpp
    have hx:x' =gl (0,0) m k:=by
     rcases ci.RK.apart o'.ta cc.dst.ta with ⟨_,h3⟩|h3|h3
     ·exact h3
     ·omega
     ·omega
    rw[hx] at j2
    exact⟨(j-1).toNat,by omega,by rw[show (1+((j-1).toNat:Int))=j from by omega];exact hy⟩
 have hSc:∃ S:Nat->List Int,∀ k,k<mv.length->(CC (t.1,ws,t.2.2) (gl (0,0) mv k).2=some (S k,0)/\(S k).length<=1000000/\∀ y∈S k,0<=y/\y<ws.length)∧
   ∀ y,y∈S k↔∃ p x j,OB t to lb (EK++m) p (gl (0,0) mv k).2 x/\1<=j/\j<=x.1/\DB (sz h.2.1.1) lb (p+j)=some y:=
  ⟨fun k=>if hk:k<mv.length then Classical.choose (hS k hk) else [],fun k hk=>by simp only[dif_pos hk];exact Classical.choose_spec (hS k hk)⟩
 obtain⟨S,hS'⟩:=hSc
 obtain⟨T4,hn1,hn2,hn3⟩:=AOX hvT v.hi.rv hl (ys:=ys) (fun y hy=>by simp only;rw[hws];exact ((he3 y).1 hy).2.1) (by omega) (mv:=mv) (by omega) S (fun k hk=>(hS' k hk).1)
 have tW:((h.2.1.1,ws,t.2.2):Sp)=(t.1,ws,t.2.2):=by rw[ci.sh]
 rw[tW,hn1,A9]
 have hcf:tO (t.1,ws,t.2.2) (BQ l) t.2.2.length=tO h.2.1 (BQ l) h.2.1.2.2.length:=by
  unfold tO
  rw[ci.fl]
  refine nN fun x hx=> ?_
  obtain⟨x0,x1⟩:=LW.1 hx
  rw[o7]
  exact ci.inC cd x0 x1
 have sin:Sin h.2.1 h.2.2.2.2.1 l EK t to lb m mv ys ws T4 :=by
  refine⟨hn2,fun f g y=> ?_⟩
  rw[hn3]
  simp only
  rw[hcf]
  have:(∃ k,k<mv.length/\y∈S k)↔∃ k,k<mv.length/\∃ p x j,OB t to lb (EK++m) p (gl (0,0) mv k).2 x/\1<=j/\j<=x.1/\DB (sz h.2.1.1) lb (p+j)=some y:=
   ⟨fun ⟨k,hk,hy⟩=>⟨k,hk,((hS' k hk).2 y).1 hy⟩,fun ⟨k,hk,hy⟩=>⟨k,hk,((hS' k hk).2 y).2 hy⟩⟩
  rw[this]
 dsimp only
 rw[<-ci.sh]
 have hN0:=(E_.1 v.hi.hb.bv.ok).1
 refine AKT (s:=(t.1,ws,t.2.2)) (q:=h.2.2.1) hvT hN0 (fun i hi=>⟨JB i hi,(v.hi.hb.fit (JB i hi)).1.1.1⟩) tg.pfx.ARZ hl l1 l2 (fun s6=>rfl) ?_
 dsimp only
 have hrl:=nJ v.hi.ro
 have yW:(gJ h.2.2.1 (BQ l)).flatten.length<=64:=by
  rw[cM];exact fX (oX _ _) l2
 have AGC:=ci.seq
 have tS:=ci.fS
 have hn0:=v.hi.n0
 have hn1:=v.n1
 have fin:∀ {x:Hs×(Int×Int×Int×Int)×Int} {Q:Rows} {n' :Int},WU h.2.2.1 l B3 to=Q->vE h.2.2.2.1 B3 to=n' ->x.2.2=0->(∃ st,x.1=(h.1,gvs (t.1,ws,t.2.2) (BQ l),Q,n',T4,(h.2.2.2.2.2.1.1,rs),h.2.2.2.2.2.2.1,st,h.2.2.2.2.2.2.2.2))→
   ((x.2.2≠0/\x.1=hz0)\/(x.2.2=0/\∃ B3 u,Tg h l B3/\Dn R h l B3 x.1 u)):=by
  rintro x Q n' rfl rfl h1 ⟨st,h2⟩
  exact .inr ⟨h1,B3,_,tg,l0,EK,t,to,lb,m,mv,ys,ws,_,T4,st,stp,sin,h2,rfl⟩
 by_cases c1:B3.2.2.2.2>0
 ·have ht:B3∈h.2.2.1.flatten:=by
   rcases tgt with ht|ht
   ·exact ht
   ·omega
  rw[AA c1,tR (by rw[NG];omega) (fun x hx=>by have:=lT yW x hx;omega) (hN0.gJ _) (NH.2 ⟨ht,cd.out⟩) AGC.symm tS.symm,A9,A9]
  dsimp only
  rw[hrl,A9]
  exact⟨_,rfl,fin (by unfold WU;rw[AA c1]) (by unfold vE;rw[AA c1]) rfl ⟨_,rfl⟩⟩
 ·rw[AB c1]
  have htn:B3.1=h.2.2.2.1/\0<=B3.2.1/\B3.2.1<h.2.2.1.length:=by
   rcases tgt with ht|ht
   ·have:=(v.hi.hb.fit ht).2;omega
   ·exact⟨ht.1,ht.2.2⟩
  by_cases c2:to.2.2.2.2>0
  ·rw[AA c2,AOT (by rw[NG];omega) (fun x hx=>by have:=lT yW x hx;omega) (by omega) (by rw[NG];omega) (fun i hi=>by
    have:=v.hi.seq i (NH.1 hi).1
    omega),A9,A9]
   dsimp only
   rw[hrl,A9,AD (e:=h.2.2.2.1+1) (by omega) (by omega)]
   exact⟨_,rfl,fin (by unfold WU;rw[AB c1,AA c2]) (by unfold vE;rw[AB c1,AA c2]) rfl ⟨_,rfl⟩⟩
  ·rw[AB c2,A9]
   dsimp only
   rw[hrl,A9]
   exact⟨_,rfl,fin (by unfold WU;rw[AB c1,AB c2]) (by unfold vE;rw[AB c1,AB c2]) rfl ⟨_,rfl⟩⟩
abbrev Cu:Type:=Int×Bool×Int
def xR (q:Rows):Int:=if gl [] q (q.length-1)=[] then -1 else (gl ((0,0,0,0,0):AH) (gl [] q (q.length-1)) ((gl [] q (q.length-1)).length-1)).1
def chF (q:Rows) (k:Cu):Cu:=if k.1=(q.length:Int)-1/\k.2.1=false then (k.1,true,xR q) else k
def chK (q:Rows):Nat->Cu->Cu
 |0,k=>chF q k
 |n+1,k=>if gl [] q k.1.toNat=[] then chK q n (k.1+1,false,0) else chF q k
def chL (q:Rows) (j:Cu):List AH:=(gl [] q j.1.toNat).filter fun i=>decide (j.1<(q.length:Int)-1\/i.1<=j.2.2)
def chB (z batch:Int):Int->Int->List AH->List AH
 |_,_,[]=>[]
 |f,n,i::r=>if f-cl z i.2.2.2.2<0\/(batch≠0/\n=batch) then [] else i::chB z batch (f-cl z i.2.2.2.2) (n+1) r
def qK (c:Cf) (s:Sp) (q:Rows) (j:Cu):List AH×Cu×Bool:=
 if chL q j=[] then ([],j,true) else (chB (sz s.1) (ru c j.1).2.2.1 (DA s.2.2).length 0 (chL q j),j,false)
noncomputable def AAH (c:Cf) (s:Sp) (q:Rows) (j:Cu):Option (List AH×Cu×Bool):=
 if 0<=j.1/\j.1<(q.length:Int) then
 AM (σ:=List AH×Int) (β:=List AH×Cu×Bool) (fun s2=>
 if s2.2<((gl ([]:List AH) q j.1.toNat).length:Int) then
 if 0<=s2.2/\s2.2<((gl ([]:List AH) q j.1.toNat).length:Int) then
 if j.1<(AG ((q.length:Int)-1)) then
 if (s2.1.length+([gl ((0,0,0,0,0):AH) (gl ([]:List AH) q j.1.toNat) s2.2.toNat]:List AH).length)*40<=140737488355328 then
 some (Sum.inl ((s2.1++([gl ((0,0,0,0,0):AH) (gl ([]:List AH) q j.1.toNat) s2.2.toNat]:List AH),AG (s2.2+1))))
 else none
 else if (gl ((0,0,0,0,0):AH) (gl ([]:List AH) q j.1.toNat) s2.2.toNat).1<=j.2.2 then
 if (s2.1.length+([gl ((0,0,0,0,0):AH) (gl ([]:List AH) q j.1.toNat) s2.2.toNat]:List AH).length)*40<=140737488355328 then
 some (Sum.inl ((s2.1++([gl ((0,0,0,0,0):AH) (gl ([]:List AH) q j.1.toNat) s2.2.toNat]:List AH),AG (s2.2+1))))
 else none
 else some (Sum.inl ((s2.1,AG (s2.2+1))))
 else none
 else Option.map Sum.inr (if (s2.1.length:Int)=0 then
 some (([],j,true))
 else Option.bind (C8 s) (fun r2=>
 if 0<=j.1/\j.1<(c.2.1.length:Int) then
 AM (σ:=List AH×Int×Int) (β:=List AH×Cu×Bool) (fun s3=>
 if s3.2.2<(s2.1.length:Int) then
 if 0<=s3.2.2/\s3.2.2<(s2.1.length:Int) then
 Option.bind (BW s (gl ((0,0,0,0,0):AH) s2.1 s3.2.2.toNat)) (fun r3=>
 if (AG (s3.2.1-r3))<0 then
 some (Sum.inr ((s3.1,j,false)))
 else if ¬(gl ((0,0,0,0):(Nat×Int×Int×Int)) c.2.1 j.1.toNat).2.2.1=0 then
 if (s3.1.length:Int)=(gl ((0,0,0,0):(Nat×Int×Int×Int)) c.2.1 j.1.toNat).2.2.1 then
 some (Sum.inr ((s3.1,j,false)))
 else if (s3.1.length+([gl ((0,0,0,0,0):AH) s2.1 s3.2.2.toNat]:List AH).length)*40<=140737488355328 then
 some (Sum.inl ((s3.1++([gl ((0,0,0,0,0):AH) s2.1 s3.2.2.toNat]:List AH),AG (s3.2.1-r3),AG (s3.2.2+1))))
 else none
 else if (s3.1.length+([gl ((0,0,0,0,0):AH) s2.1 s3.2.2.toNat]:List AH).length)*40<=140737488355328 then
 some (Sum.inl ((s3.1++([gl ((0,0,0,0,0):AH) s2.1 s3.2.2.toNat]:List AH),AG (s3.2.1-r3),AG (s3.2.2+1))))
 else none)
 else none
 else some (Sum.inr ((s3.1,j,false)))) (([],(r2.length:Int),0))
 else none))) (([],0))
 else none
theorem xS {c:Cf} {s:Sp} {q:Rows} (hv:VS s) (hx:∀ x∈q,x.length<=1000000) (hq:q.length<=1000000) (hw:∀ i∈q.flatten,0<=i.2.2.2.2/\i.2.2.2.2<=1000000) (hc:q.length<=c.2.1.length) {j:Cu} (j0:0<=j.1) (j1:j.1<q.length):AAH c s q j=some (qK c s q j):=by
 have hrl:=hx _ (BR (d:=([]:List AH)) (k:=j.1.toNat) (xs:=q) (by omega))
 have hn:=hv.n
 have hwr:∀ i∈gl [] q j.1.toNat,0<=i.2.2.2.2/\i.2.2.2.2<=1000000:=fun i hi=>hw i (nR.2 ⟨_,BR (by omega),hi⟩)
 unfold AAH
 rw[AA (by omega),AD (e:=(q.length:Int)-1) (by omega) (by omega)]
 refine (AR (fun k (st:List AH×Int)=>st=(((gl [] q j.1.toNat).take k).filter (fun i=>decide (j.1<(q.length:Int)-1\/i.1<=j.2.2)),(k:Int))) (fun b=>b=qK c s q j) (gl [] q j.1.toNat).length ?_ ?_ (s:=([],0)) (by simp)).elim fun b hb=>by rw[hb.1,hb.2]
 ·rintro k st hk rfl
  left
  have yW:=RY (fun i:AH=>decide (j.1<(q.length:Int)-1\/i.1<=j.2.2)) (gl [] q j.1.toNat) k
  simp only[I3]
  rw[AA (by omega),AA (by omega),cK (d:=((0,0,0,0,0):AH)) _ _ hk,AD (e:=(k:Int)+1) (by omega) (by omega)]
  by_cases c1:j.1<(q.length:Int)-1
  ·rw[AA c1,AA (by simp only[HW];omega),AA (HX (.inl c1))]
   exact⟨_,rfl,rfl⟩
  ·rw[AB c1]
   by_cases c2:(gl ((0,0,0,0,0):AH) (gl [] q j.1.toNat) k).1<=j.2.2
   ·rw[AA c2,AA (by simp only[HW];omega),AA (HX (.inr c2))]
    exact⟨_,rfl,rfl⟩
   ·rw[AB c2,AB (by simp only[IQ];omega),G5]
    exact⟨_,rfl,rfl⟩
 ·rintro st rfl
  simp only
  rw[AB (by omega),SP]
  have e1:(gl [] q j.1.toNat).filter (fun i=>decide (j.1<(q.length:Int)-1\/i.1<=j.2.2))=chL q j:=rfl
  rw[e1]
  refine WV ?_
  unfold qK
  have hll:(chL q j).length<=1000000:=fX (oX _ _) hrl
  have hlw:∀ i∈chL q j,0<=i.2.2.2.2/\i.2.2.2.2<=1000000:=fun i hi=>hwr i (YN.1 hi).1
  by_cases h0:chL q j=[]
  ·rw[AA (by rw[h0];rfl),AA h0];exact⟨_,rfl,rfl⟩
  rw[AB (by have:=l8.2 h0;omega),AB h0,qD hn.2,A9,AA (by omega)]
  generalize hL:chL q j=L at hll hlw
  have hru:gl (0,0,0,0) c.2.1 j.1.toNat=ru c j.1:=rfl
  simp only[hru]
  generalize (ru c j.1).2.2.1=B
  have yW:(DA s.2.2).length<=s.2.2.length:=S4 s.2.2 (-1)
  obtain⟨z1,z2⟩:=LF hv.sh
  have key:=AR (β:=List AH×Cu×Bool) (f:=fun s3:List AH×Int×Int=>
   if s3.2.2<(L.length:Int) then
   if 0<=s3.2.2/\s3.2.2<(L.length:Int) then
   Option.bind (BW s (gl ((0,0,0,0,0):AH) L s3.2.2.toNat)) (fun r3=>
   if (AG (s3.2.1-r3))<0 then
   some (Sum.inr ((s3.1,j,false)))
   else if ¬B=0 then
   if (s3.1.length:Int)=B then
   some (Sum.inr ((s3.1,j,false)))
   else if (s3.1.length+([gl ((0,0,0,0,0):AH) L s3.2.2.toNat]:List AH).length)*40<=140737488355328 then
   some (Sum.inl ((s3.1++([gl ((0,0,0,0,0):AH) L s3.2.2.toNat]:List AH),AG (s3.2.1-r3),AG (s3.2.2+1))))
   else none
   else if (s3.1.length+([gl ((0,0,0,0,0):AH) L s3.2.2.toNat]:List AH).length)*40<=140737488355328 then
   some (Sum.inl ((s3.1++([gl ((0,0,0,0,0):AH) L s3.2.2.toNat]:List AH),AG (s3.2.1-r3),AG (s3.2.2+1))))
   else none)
   else none
   else some (Sum.inr ((s3.1,j,false))))
   (fun k (st:List AH×Int×Int)=>st.2.2=(k:Int)/\st.1.length=k/\(0<=st.2.1/\st.2.1<=64)/\chB (sz s.1) B (DA s.2.2).length 0 L=st.1++chB (sz s.1) B st.2.1 k (L.drop k))
   (fun b=>b=(chB (sz s.1) B (DA s.2.2).length 0 L,j,false)) L.length ?_ ?_ (s:=([],((DA s.2.2).length:Int),0)) ⟨rfl,rfl,by simp only;omega,by simp⟩
  ·obtain⟨b,dB,uK⟩:=key
   exact⟨b,dB,uK⟩
  ·rintro k ⟨acc,f,kk⟩ hk ⟨HK,NS,hf,he⟩
   simp only at HK NS hf he
   subst HK
   have hm:=hlw _ (BR (d:=((0,0,0,0,0):AH)) hk)
   have hcl:=O0 z1 hm.1
   have dH:L.drop k=gl ((0,0,0,0,0):AH) L k::L.drop (k+1):=by
    rw[DZ hk];exact AIO hk
   rw[dH,chB] at he
   simp only[I3]
   rw[AA (by omega),AA (by omega),S5 hv hm.1 hm.2,A9,AD (e:=f-cl (sz s.1) (gl ((0,0,0,0,0):AH) L k).2.2.2.2) (by omega) (by omega),AD (e:=(k:Int)+1) (by omega) (by omega)]
   by_cases c1:f-cl (sz s.1) (gl ((0,0,0,0,0):AH) L k).2.2.2.2<0
   ·rw[AA (.inl c1),G5] at he
    rw[AA c1]
    exact .inr ⟨_,rfl,by rw[he]⟩
   rw[AB c1]
   have UQ:∀ h:¬(f-cl (sz s.1) (gl ((0,0,0,0,0):AH) L k).2.2.2.2<0\/(B≠0/\(k:Int)=B)),(fun (st:List AH×Int×Int)=>st.2.2=((k+1:Nat):Int)/\st.1.length=k+1/\(0<=st.2.1/\st.2.1<=64)/\chB (sz s.1) B (DA s.2.2).length 0 L=st.1++chB (sz s.1) B st.2.1 (k+1:Nat) (L.drop (k+1))) (acc++ [gl ((0,0,0,0,0):AH) L k],f-cl (sz s.1) (gl ((0,0,0,0,0):AH) L k).2.2.2.2,(k:Int)+1):=by
    intro h
    rw[AB h] at he
    refine⟨rfl,by simp [NS],by simp only;omega, ?_⟩
    simp only
    rw[he,I6];rfl
   by_cases c2:B=0
   ·rw[AB (I4 c2),AA (by simp only[HW];omega)]
    exact .inl ⟨_,rfl,UQ (by omega)⟩
   ·rw[AA c2]
    by_cases c3:(acc.length:Int)=B
    ·rw[AA (.inr ⟨c2,by omega⟩),G5] at he
     rw[AA c3]
     exact .inr ⟨_,rfl,by rw[he]⟩
    ·rw[AB c3,AA (by simp only[HW];omega)]
     exact .inl ⟨_,rfl,UQ (by omega)⟩
  ·rintro⟨acc,f,kk⟩ ⟨HK,NS,hf,he⟩
   simp only at HK NS hf he
   subst HK
   rw[List.drop_length,chB,G5] at he
   simp only
   rw[AB (by omega)]
   exact⟨_,rfl,by rw[he]⟩
theorem X5 {q:Rows} (hx:∀ x∈q,x.length<=1000000) {b:Int} (b0:0<=b) (b1:b<q.length):
  BN q b=some (if gl [] q b.toNat=[] then (((0,0,0,0,0):AH),false) else (gl ((0,0,0,0,0):AH) (gl [] q b.toNat) ((gl [] q b.toNat).length-1),true)):=by
 have hl:=hx (gl [] q b.toNat) (BR (by omega))
 unfold BN
 rw[AB (by omega),AB (by omega),AA (by omega)]
 by_cases h:gl [] q b.toNat=[]
 ·rw[AA (by rw[h];rfl),AA h]
 ·have hp:=l8.2 h
  rw[AB (by omega),AA (by omega),AA (by omega),AD (e:=((gl [] q b.toNat).length:Int)-1) (by omega) (by omega),AA (by omega),AB h,show (((gl [] q b.toNat).length:Int)-1).toNat=(gl [] q b.toNat).length-1 from by omega]
theorem AI8 {c:Cf} {s:Sp} {q:Rows} (hx:∀ x∈q,x.length<=1000000) (hq:q.length<=1000000) (hq0:1<=q.length) {k:Cu} {X:Cu->Option (List AH×Cu×Bool)}:
  Option.bind (α:=Cu ⊕ (List AH×Cu×Bool)) (if k.1=(AG ((q.length:Int)-1)) then
   if (!k.2.1)=true then
   Option.bind (BN q (AG ((q.length:Int)-1))) (fun r1=>
   if r1.2=true then
   some (Sum.inl ((k.1,true,r1.1.1)))
   else some (Sum.inl ((k.1,true,(-1)))))
   else some (Sum.inl k)
   else some (Sum.inl k)) (fun q=>match q with
   |Sum.inl j1=>X j1
   |Sum.inr b1=>some b1)=X (chF q k):=by
 unfold chF
 rw[AD (e:=(q.length:Int)-1) (by omega) (by omega)]
 by_cases c1:k.1=(q.length:Int)-1
 ·rw[AA c1]
  cases h2:k.2.1 with
  |true=>rw[AB (by decide),AB (by simp)];rfl
  |false=>
   have e1:k.1=(q.length:Int)-1/\false=false:=⟨c1,rfl⟩
   rw[AA (by decide),X5 hx (by omega) (by omega),A9,AA e1,show ((q.length:Int)-1).toNat=q.length-1 from by omega]
   unfold xR
   by_cases h:gl [] q (q.length-1)=[]
   ·rw[AA h,AA h];rfl
   ·rw[AB h,AB h];rfl
 ·rw[AB c1,AB (fun h=>c1 h.1)];rfl
theorem AKU {c:Cf} {s:Sp} {q:Rows} (hv:VS s) (hx:∀ x∈q,x.length<=1000000) (hq:q.length<=1000000) (hw:∀ i∈q.flatten,0<=i.2.2.2.2/\i.2.2.2.2<=1000000) (hc:q.length<=c.2.1.length) {k:Cu} (k0:0<=k.1) (k1:k.1<q.length):
  CP c s q k=some (qK c s q (chK q (q.length-1-k.1.toNat) k))/\k.1<=(chK q (q.length-1-k.1.toNat) k).1/\(chK q (q.length-1-k.1.toNat) k).1<q.length:=by
 have hF:∀ k,(chF q k).1=k.1:=fun k=>by unfold chF;split <;> rfl
 suffices hh:∃ b,CP c s q k=some b/\(b=qK c s q (chK q (q.length-1-k.1.toNat) k)/\k.1<=(chK q (q.length-1-k.1.toNat) k).1/\(chK q (q.length-1-k.1.toNat) k).1<q.length) by
  obtain⟨b,h1,rfl,h2⟩:=hh
  exact⟨h1,h2⟩
 unfold CP
 refine AR (fun t (st:Cu)=>st.1=k.1+(t:Int)/\chK q (q.length-1-k.1.toNat-t) st=chK q (q.length-1-k.1.toNat) k) _ (q.length-1-k.1.toNat) ?_ ?_ (s:=k) ⟨by simp,by simp⟩
 ·rintro t st ht ⟨h1,h2⟩
  rw[AA (by rw[AD (e:=(q.length:Int)-1) (by omega) (by omega)];omega),AA (by omega)]
  rw[show q.length-1-k.1.toNat-t=(q.length-1-k.1.toNat-(t+1))+1 from by omega,chK] at h2
  by_cases c1:gl [] q st.1.toNat=[]
  ·rw[AA (by rw[c1];rfl),AD (e:=st.1+1) (by omega) (by omega)]
   rw[AA c1] at h2
   exact .inl ⟨_,rfl,by simp only;omega,h2⟩
  ·rw[AB (by have:=l8.2 c1;omega)]
   rw[AB c1] at h2
   right
   refine WV ?_
   rw[<-h2]
   refine⟨_,(AI8 (c:=c) (s:=s) hx hq (by omega) (k:=st) (X:=AAH c s q)).trans (xS hv hx hq hw hc (by rw[hF];omega) (by rw[hF];omega)),rfl,by rw[hF];omega,by rw[hF];omega⟩
 ·rintro st ⟨h1,h2⟩
  rw[AB (by rw[AD (e:=(q.length:Int)-1) (by omega) (by omega)];omega)]
  rw[Nat.sub_self,chK] at h2
  refine WV ?_
  rw[<-h2]
  exact⟨_,(AI8 (c:=c) (s:=s) hx hq (by omega) (k:=st) (X:=AAH c s q)).trans (xS hv hx hq hw hc (by rw[hF];omega) (by rw[hF];omega)),rfl,by rw[hF];omega,by rw[hF];omega⟩
def cmp (c:Cf):Bool:=decide ((ru c ((c.2.1.length:Int)-1)).1=0)
theorem ADU {x:Nat} (h:VV x):C4 x 0=some .eq↔x=0:=by
 have hx:x<9223372036854775808:=by rcases h with h|h <;> omega
 rw[AA1]
 constructor
 ·rintro⟨_,_,h3⟩
  rw[LX hx,LX (by decide)] at h3
  have h4:vv x=vv 0:=by omega
  rcases Nat.eq_zero_or_pos x with h0|h0
  ·exact h0
  ·have:=cF h0;omega
 ·rintro rfl
  exact⟨by decide,by decide,rfl⟩
theorem qL {c:Cf} (g:Good c):DF c=some 0:=by
 have hn:=g.n.2
 have hz:=g.nm.2.1
 rw[xG (by omega) (by omega) g.sh,g.T0]
theorem cO {c:Cf} (g:Good c):CB c=some (cmp c):=by
 have hn:=g.n
 unfold CB
 rw[qL g,A9,AA rfl,AD (e:=(c.2.1.length:Int)-1) (by omega) (by omega),AA (by omega)]
 have hr:gl (0,0,0,0) c.2.1 ((c.2.1.length:Int)-1).toNat=ru c ((c.2.1.length:Int)-1):=rfl
 rw[hr]
 unfold cmp
 congr 1
 rw[o7]
 exact ADU (g.ru _ (by omega) (by omega)).1
def jB (c:Cf) (b n:Int):Int:=if (ru c b).1=0 then 0 else (FR (ru c b).1 n.toNat:Int)
theorem AAI {c:Cf} (g:Good c) {b n:Int} (b0:0<=b) (b1:b<c.2.1.length) (n0:1<=n) (n1:n<=64):0<=jB c b n/\jB c b n<=64:=by
 unfold jB
 rcases (g.ru b b0 b1).1 with h|⟨h0,h1⟩
 ·rw[AA h];omega
 ·have:=AT7 (n:=n.toNat) h1 (by omega)
  rw[AB (by omega)];omega
theorem AI9 {c:Cf} (g:Good c) {b n:Int} (b0:0<=b) (b1:b<c.2.1.length) (n0:1<=n) (n1:n<=64):D_ c b n=some (jB c b n,0):=by
 have hn:=g.n.2
 have hz:=g.nm.2.1
 have hr:gl (0,0,0,0) c.2.1 b.toNat=ru c b:=rfl
 have hv:=(g.ru b b0 b1).1
 unfold D_ jB
 rw[qL g,A9,AB (by simp),AB (by omega),AB (by omega),AB (by omega),AB (by omega),AA (by omega),hr]
 generalize (ru c b).1=x at hv
 rcases hv with rfl|⟨h0,h1⟩
 ·unfold ET
  rw[dN,P0 (by omega)]
  simp only[A9]
  rw[AB (by decide),AB (by omega),AB (by omega),AA (by decide),AA trivial]
  rfl
 ·rw[tH h0 h1 n0 n1,AB (by omega)]
  rfl
def SM (s:Sp) (i:AH) (n:Int):Int:=cl (sz s.1) (i.2.2.2.2+n)-cl (sz s.1) i.2.2.2.2
def GrF (v:Bool) (F u L k f:Int):Prop:=k=0\/(v=true/\u+k<=F-(u+k))\/(v=false/\L<=F-(u+k)/\f+k<=F-(u+k))
instance (v:Bool) (F u L k f:Int):Decidable (GrF v F u L k f):=by unfold GrF;infer_instance
def qM (v:Bool) (s:Sp) (q:Rows) (i:AH) (n:Int):Prop:=GrF v s.2.2.length (used s) (lrg (sz s.1) q.flatten) (SM s i n) (cl (sz s.1) i.2.2.2.2)
instance (v:Bool) (s:Sp) (q:Rows) (i:AH) (n:Int):Decidable (qM v s q i n):=by unfold qM;infer_instance
structure Qq (s:Sp) (q:Rows):Prop where
 vs:VS s
 len:q.length<=1000
 AS3:∀ x∈q,x.length<=1000
 w:∀ i∈q.flatten,0<=i.2.2.2.2/\i.2.2.2.2<=16384
theorem Qq.lrg {s:Sp} {q:Rows} (h:Qq s q):0<=lrg (sz s.1) q.flatten/\Go.Proofs.YthmiilamegpllaaGreat.lrg (sz s.1) q.flatten<=20000:=by
 refine⟨(AVJ _).1,(AO0 _).2 ⟨by omega,fun i hi=> ?_⟩⟩
 obtain⟨w0,w1⟩:=h.w i hi
 obtain⟨z1,z2⟩:=LF h.vs.sh
 have:=O0 z1 w0
 omega
theorem Qq.ref {s:Sp} {q:Rows} (h:Qq s q):FG s q=some (Go.Proofs.YthmiilamegpllaaGreat.lrg (sz s.1) q.flatten):=by
 have h1:q.length<=1000000:=by have:=h.len;omega
 have h2:∀ x∈q,x.length<=1000000:=fun x hx=>by have:=h.AS3 x hx;omega
 have h3:∀ i∈q.flatten,0<=i.2.2.2.2/\i.2.2.2.2<=1000000:=fun i hi=>by have:=h.w i hi;omega
 exact AD4 h.vs h1 h2 h3
theorem jC {c:Cf} {v:Bool} (hr:CB c=some v) {s:Sp} {q:Rows} (h:Qq s q) {i:AH} {n:Int} (w0:0<=i.2.2.2.2) (w1:i.2.2.2.2<=16384) (n0:1<=n) (n1:n<=48):
  BT c s q i n=some (decide (qM v s q i n)):=by
 suffices hh:∃ b,BT c s q i n=some b/\(b=true↔GrF v s.2.2.length (used s) (lrg (sz s.1) q.flatten) (SM s i n) (cl (sz s.1) i.2.2.2.2)) by
  obtain⟨b,h1,h2⟩:=hh
  rw[h1]
  congr 1
  by_cases hG:qM v s q i n
  ·rw[HX hG];exact h2.2 hG
  ·rw[MV hG]
   cases b with
   |true=>exact absurd (h2.1 rfl) hG
   |false=>rfl
 have hn:=h.vs.n.2
 obtain⟨z1,z2⟩:=LF h.vs.sh
 have c1:=O0 z1 (show 0<=i.2.2.2.2+n by omega)
 have c2:=O0 z1 w0
 have c3:=AHQ (z:=sz s.1) (by omega) (show i.2.2.2.2<=i.2.2.2.2+n by omega)
 obtain⟨l0,l1⟩:=h.lrg
 have u0:=AA6 s
 have yW:(DA s.2.2).length<=s.2.2.length:=S4 s.2.2 (-1)
 have hu:(s.2.2.length:Int)-(DA s.2.2).length=used s:=rfl
 unfold BT
 rw[tE h.vs w0 w1 (by omega) (by omega),A9]
 have hk:cl (sz s.1) (i.2.2.2.2+n)-cl (sz s.1) i.2.2.2.2=SM s i n:=rfl
 rw[hk]
 have hk0:0<=SM s i n:=by omega
 have hk1:SM s i n<=20000:=by omega
 generalize SM s i n=k at hk hk0 hk1 ⊢
 by_cases e:k=0
 ·rw[AA e];exact⟨_,rfl,YB rfl (.inl e)⟩
 rw[AB e,ANF hn,hr,h.ref,S5 h.vs w0 (by omega)]
 simp only[A9]
 rw[hu]
 have hub:used s<=64:=by omega
 generalize used s=u at hu u0 hub ⊢
 generalize Go.Proofs.YthmiilamegpllaaGreat.lrg (sz s.1) q.flatten=L at l0 l1 ⊢
 generalize hF:cl (sz s.1) i.2.2.2.2=f at c2 ⊢
 rw[AD (e:=u+k) (by omega) (by omega),AD (e:=(s.2.2.length:Int)-(u+k)) (by omega) (by omega),AD (e:=2*(u+k)) (by omega) (by omega),AD (e:=f+k) (by omega) (by omega)]
 generalize (s.2.2.length:Int)=F at hu hn ⊢
 unfold GrF
 by_cases g0:u+k>F
 ·rw[AA g0]
  refine⟨_,rfl,YA (by decide) ?_⟩
  rintro (h|⟨_,h⟩|⟨_,h,_⟩) <;> omega
 rw[AB g0]
 cases v with
 |true=>
  rw[AA rfl]
  refine⟨_,rfl, ?_⟩
  rw[N2]
  constructor
  ·intro h;exact .inr (.inl ⟨rfl,by omega⟩)
  ·rintro (h|⟨_,h⟩|⟨h,_⟩)
   ·exact absurd h e
   ·omega
   ·cases h
 |false=>
  rw[AB (show ¬false=true by decide)]
  refine⟨_,rfl, ?_⟩
  rw[N2]
  constructor
  ·intro h;refine .inr (.inr ⟨rfl, ?_, ?_⟩) <;> split at h <;> omega
  ·rintro (h|⟨h,_⟩|⟨_,h1,h2⟩)
   ·exact absurd h e
   ·cases h
   ·split <;> omega
def qN (q:Rows):AH:=gl ((0,0,0,0,0):AH) (gl [] q 0) ((gl [] q 0).length-1)
def opn (c:Cf) (s:Sp) (q:Rows):Prop:=gl [] q 0≠[]/\(jB c 0 s.2.2.length=0\/(qN q).2.2.2.2<jB c 0 s.2.2.length*sz s.1)
instance (c:Cf) (s:Sp) (q:Rows):Decidable (opn c s q):=by unfold opn;infer_instance
def H7 (c:Cf) (s:Sp) (q:Rows) (n k:Int):Int×AH:=
 if opn c s q then (if qM (cmp c) s q (qN q) k then (1,qN q) else (3,(0,0,0,0,0)))
 else if (ru c 0).2.1≠0/\(ru c 0).2.1<=(gl [] q 0).length then (3,(0,0,0,0,0))
 else if qM (cmp c) s q (n,0, -1, -1,0) k then (2,(n,0, -1, -1,0)) else (3,(0,0,0,0,0))
theorem AAJ {c:Cf} (g:Good c) {s:Sp} {q:Rows} (h:Qq s q) (hq:1<=q.length) {n k:Int} (k0:1<=k) (k1:k<=48):BU c s q n k=some (H7 c s q n k):=by
 have hn:=h.vs.n
 have hg:=g.n
 have hx:∀ x∈q,x.length<=1000000:=fun x hx=>by have:=h.AS3 x hx;omega
 have hc:=AAI g (b:=0) (n:=s.2.2.length) (by omega) (by omega) (by omega) (by omega)
 unfold BU H7
 rw[AI9 g (b:=0) (n:=s.2.2.length) (by omega) (by omega) (by omega) (by omega),A9,X5 hx (b:=0) (by omega) (by omega),A9]
 simp only[show (0:Int).toNat=0 from rfl]
 have hr:gl (0,0,0,0) c.2.1 0=ru c 0:=rfl
 rw[hr]
 have DC:∀ (T:Option (Int×AH)) (X:Int×AH),Option.bind (BT c s q (n,0, -1, -1,0) k) (fun r5=>if (!r5)=true then some ((3,(0,0,0,0,0)):Int×AH) else some ((2,(n,0, -1, -1,0)):Int×AH))=some (if qM (cmp c) s q (n,0, -1, -1,0) k then (2,(n,0, -1, -1,0)) else (3,(0,0,0,0,0))):=by
  intro T X
  rw[jC (cO g) h (i:=(n,0, -1, -1,0)) (by simp) (by simp) k0 k1,A9]
  by_cases hG:qM (cmp c) s q (n,0, -1, -1,0) k
  ·rw[HX hG,AA hG];rfl
  ·rw[MV hG,AB hG];rfl
 have ADV:(if 0<=(0:Int)/\(0:Int)<(c.2.1.length:Int) then
   if ¬(ru c 0).2.1=0 then
   if 0<=(0:Int)/\(0:Int)<(q.length:Int) then
   if ((gl ([]:List AH) q 0).length:Int)≥(ru c 0).2.1 then
   some ((3,(0,0,0,0,0)):Int×AH)
   else Option.bind (BT c s q (n,0,(-1),(-1),0) k) (fun r5=>
   if (!r5)=true then
   some ((3,(0,0,0,0,0)):Int×AH)
   else some ((2,(n,0,(-1),(-1),0))))
   else none
   else Option.bind (BT c s q (n,0,(-1),(-1),0) k) (fun r6=>
   if (!r6)=true then
   some ((3,(0,0,0,0,0)):Int×AH)
   else some ((2,(n,0,(-1),(-1),0))))
   else none)=some (if (ru c 0).2.1≠0/\(ru c 0).2.1<=(gl [] q 0).length then (3,(0,0,0,0,0))
   else if qM (cmp c) s q (n,0, -1, -1,0) k then (2,(n,0, -1, -1,0)) else (3,(0,0,0,0,0))):=by
  rw[AA (by omega),DC none (0,(0,0,0,0,0))]
  by_cases c1:(ru c 0).2.1=0
  ·have e:¬((ru c 0).2.1≠0/\(ru c 0).2.1<=(gl [] q 0).length):=fun h=>h.1 c1
   rw[AB (I4 c1),AB e]
  ·rw[AA c1,AA (by omega)]
   by_cases c2:((gl ([]:List AH) q 0).length:Int)≥(ru c 0).2.1
   ·rw[AA c2,AA ⟨c1,c2⟩]
   ·have e:¬((ru c 0).2.1≠0/\(ru c 0).2.1<=(gl [] q 0).length):=fun h=>c2 h.2
    rw[AB c2,AB e]
 by_cases h0:gl [] q 0=[]
 ·have EB:¬opn c s q:=fun hh=>hh.1 h0
  have e1:(if gl ([]:List AH) q 0=[] then (((0,0,0,0,0):AH),false) else (gl ((0,0,0,0,0):AH) (gl [] q 0) ((gl [] q 0).length-1),true))=(((0,0,0,0,0):AH),false):=AA h0
  rw[e1,AB (show ¬((((0,0,0,0,0):AH),false):AH×Bool).2=true by decide),AB EB]
  exact ADV
 ·have e1:(if gl ([]:List AH) q 0=[] then (((0,0,0,0,0):AH),false) else (gl ((0,0,0,0,0):AH) (gl [] q 0) ((gl [] q 0).length-1),true))=(qN q,true):=AB h0
  have yU:=l8.2 h0
  have hy:qN q∈q.flatten:=nR.2 ⟨gl [] q 0,BR (by omega),BR (by omega)⟩
  have hyw:=h.w _ hy
  rw[e1,AA rfl,lO h.vs.sh _ hc.1 (by omega),A9]
  by_cases c1:jB c 0 s.2.2.length=0\/(qN q).2.2.2.2<jB c 0 s.2.2.length*sz s.1
  ·have EB:opn c s q:=⟨h0,c1⟩
   rw[HX c1,AA rfl,AA EB,jC (cO g) h (i:=qN q) hyw.1 hyw.2 k0 k1,A9]
   by_cases hG:qM (cmp c) s q (qN q) k
   ·rw[HX hG,AA hG];rfl
   ·rw[MV hG,AB hG];rfl
  ·have EB:¬opn c s q:=fun hh=>c1 hh.2
   rw[MV c1,AB (by decide),AB EB]
   exact ADV
def AIA (c:Cf) (q:Rows):List Int:=(F4 q.length).filter fun b=>decide ((ru c b).2.1≠0/\(ru c b).2.1<(gl [] q b.toNat).length)
theorem AS4 {c:Cf} (g:Good c) {q:Rows} (hq:q.length=c.2.1.length) (hx:∀ x∈q,x.length<=1000000):FP c q=some (AIA c q):=by
 have hg:=g.n
 unfold FP
 rw[qL g,A9,AB (I4 rfl),AB (by omega)]
 refine (AR (fun k (st:List Int×Int)=>st=((F4 k).filter (fun b=>decide ((ru c b).2.1≠0/\(ru c b).2.1<(gl [] q b.toNat).length)),(k:Int))) (fun b=>b=AIA c q) q.length ?_ ?_ (s:=([],0)) rfl).elim fun b hb=>by rw[hb.1,hb.2]
 ·rintro k st hk rfl
  left
  have hll:((F4 k).filter (fun b=>decide ((ru c b).2.1≠0/\(ru c b).2.1<(gl [] q b.toNat).length))).length<=k:=by
   have:=oX (fun b=>decide ((ru c b).2.1≠0/\(ru c b).2.1<(gl [] q b.toNat).length)) (F4 k)
   rw[H4] at this;exact this
  have hr:gl (0,0,0,0) c.2.1 k=ru c (k:Int):=rfl
  simp only[I3]
  rw[AA (by omega),AA (by omega),AA (by omega),hr,AD (e:=(k:Int)+1) (by omega) (by omega),LV,x7]
  by_cases c1:(ru c (k:Int)).2.1=0
  ·rw[AB (I4 c1)]
   refine⟨_,rfl, ?_⟩
   simp [c1]
  ·rw[AA c1]
   by_cases c2:((gl ([]:List AH) q k).length:Int)>(ru c (k:Int)).2.1
   ·rw[AA c2,AA (by simp only[HW];omega)]
    refine⟨_,rfl, ?_⟩
    simp [c1,c2]
   ·rw[AB c2]
    refine⟨_,rfl, ?_⟩
    simp [c1,c2]
 ·rintro st rfl
  simp only
  rw[AB (by omega)]
  exact⟨_,rfl,rfl⟩
inductive Rea (s:Sp) (q:Rows) (r:Ro) (l:List AH):Int->Prop
 |rt (i:Nat) (hi:i<32) (hu:gl false r.1 i=true) (hw:Wn (BQ l) s (gl 0#64 r.2 i)):Rea s q r l (((gl 0#64 r.2 i).toNat:Int)-1)
 |sl (y:Int) (hy:Slot s q y) (hn:(fr s.2.2 (y / sz s.1)).1∉BQ l) (hw:Wn (BQ l) s (gl 0#64 s.2.1 y.toNat)):Rea s q r l (((gl 0#64 s.2.1 y.toNat).toNat:Int)-1)
 |ob (i:AH) (hi:i∈l) (la:List Int) (oa:List (Int×Int)) (pa a:Int) (x:Int×Int) (o:OB s i la oa pa a x) (ha:Rea s q r l a) (j ya:Int) (j1:1<=j) (j2:j<=x.1) (hy:DB (sz s.1) la (pa+j)=some ya) (hw:Wn (BQ l) s (gl 0#64 s.2.1 ya.toNat)):Rea s q r l (((gl 0#64 s.2.1 ya.toNat).toNat:Int)-1)
theorem Rea.rch (s:Sp) (q:Rows) (r:Ro) (l:List AH):Rch (Rea s q r l) s q r l:=
 ⟨fun i hi la oa pa a x o ha j ya j1 j2 hy hw=> .ob i hi la oa pa a x o ha j ya j1 j2 hy hw,fun i hi hu hw=> .rt i hi hu hw,fun y hy hn hw=> .sl y hy hn hw⟩
abbrev AYU (h:Hs) (l:List AH):Int->Prop:=Rea h.2.1 h.2.2.1 h.2.2.2.2.2.1 l
theorem AKV {q:Rows} {j:AH} (hb:j.2.1.toNat<q.length):(addr q j).flatten.Perm (j::q.flatten):=by
 have hg:gl [] (addr q j) j.2.1.toNat=gl [] q j.2.1.toNat++ [j]:=by
  unfold addr;rw[D0 hb,AA rfl]
 have e1:(addr q j).flatten=(q.take j.2.1.toNat).flatten++((gl [] q j.2.1.toNat++ [j])++(q.drop (j.2.1.toNat+1)).flatten):=by
  rw[F_ (addr q j) _ (by rw[cN];exact hb),hg]
  unfold addr
  rw[List.take_set_of_le (ED _),List.drop_set_of_lt (by omega)]
 rw[e1,F_ q _ hb,I6,List.singleton_append,←I6,←I6]
 exact List.perm_middle
def wt (L:Int) (k:Cu) (i:AH):Nat:=if i.2.1<L-1 then (L-i.2.1).toNat else if (k.2.1=true->i.1<=k.2.2) then 1 else 0
theorem AS5 {L:Int} {k:Cu} {i j:AH} (h1:i.1=j.1) (h2:i.2.1=j.2.1):wt L k i=wt L k j:=by
 unfold wt;rw[h1,h2]
structure KOk (q:Rows) (n:Int) (k:Cu):Prop where
 k0:0<=k.1
 k1:k.1<q.length
 bg:k.2.1=true->k.1=(q.length:Int)-1/\k.2.2<n
theorem AOY {s:Sp} {q:Rows} (h:HB s q) {i:AH} (hi:i∈q.flatten) (hb:i.2.1=(q.length:Int)-1):i.1<=xR q:=by
 have hN:=(E_.1 h.bv.ok).1
 obtain⟨-,hr⟩:=hN.row hi
 rw[hb,show ((q.length:Int)-1).toNat=q.length-1 from by omega] at hr
 obtain⟨j,hj,rfl⟩:=F5 (d:=((0,0,0,0,0):AH)) hr
 have hn:=h.bv.n
 unfold xR
 rw[AB (fun he=>by rw[he] at hj;simp at hj)]
 by_cases pD:j=(gl [] q (q.length-1)).length-1
 ·subst pD;exact S9 _
 ·have:=AE8.1 (hN.pw (q.length-1) (by omega)) j ((gl [] q (q.length-1)).length-1) hj (by omega) (by omega)
  rw[<-DZ (d:=((0,0,0,0,0):AH)) hj,←DZ (d:=((0,0,0,0,0):AH)) (show (gl [] q (q.length-1)).length-1< _ by omega)] at this;omega
theorem AOZ {s:Sp} {q:Rows} (h:HB s q) {n:Int} (hn:∀ i∈q.flatten,i.1<n) (n0:0<=n):xR q<n:=by
 have hl:=h.bv.n
 unfold xR
 split
 ·omega
 ·rename_i he
  have:=l8.2 he
  exact hn _ (I2.2 ⟨q.length-1,by omega,BR (by omega)⟩)
theorem AVZ {s:Sp} {q:Rows} (h:HB s q) {n:Int} (hn:∀ i∈q.flatten,i.1<n) (n0:0<=n):∀ (m:Nat) {k:Cu},KOk q n k->m=q.length-1-k.1.toNat→
  KOk q n (chK q m k)/\((chK q m k).1=(q.length:Int)-1->(chK q m k).2.1=true)/\∀ i∈q.flatten,wt q.length (chK q m k) i=wt q.length k i:=by
 have hF:∀ {k:Cu},KOk q n k->KOk q n (chF q k)/\((chF q k).1=(q.length:Int)-1->(chF q k).2.1=true)/\∀ i∈q.flatten,wt q.length (chF q k) i=wt q.length k i:=by
  intro k hk
  unfold chF
  by_cases c1:k.1=(q.length:Int)-1/\k.2.1=false
  ·rw[AA c1]
   refine⟨⟨hk.k0,hk.k1,fun _=>⟨c1.1,AOZ h hn n0⟩⟩,fun _=>rfl,fun i hi=> ?_⟩
   unfold wt
   by_cases c2:i.2.1<(q.length:Int)-1
   ·rw[AA c2,AA c2]
   ·have hN:=(E_.1 h.bv.ok).1
    have:=(hN.row hi).1
    rw[AB c2,AB c2,AA (fun _=>AOY h hi (by omega)),AA (fun h=>by rw[c1.2] at h;cases h)]
  ·rw[AB c1]
   refine⟨hk,fun h1=> ?_,fun _ _=>rfl⟩
   cases h2:k.2.1 with
   |true=>rfl
   |false=>exact absurd ⟨h1,h2⟩ c1
 intro m
 induction m with
 |zero=>intro k hk _;exact hF hk
 |succ m ih=>
  intro k hk hm
  rw[chK]
  by_cases c1:gl [] q k.1.toNat=[]
  ·rw[AA c1]
   have hk0:=hk.k0
   have hk1:=hk.k1
   have hnb:k.2.1=false:=by
    cases h2:k.2.1 with
    |true=>have:=(hk.bg h2).1;omega
    |false=>rfl
   have MC :KOk q n (k.1+1,false,0):=⟨by simp only;omega,by simp only;omega,fun h=>by cases h⟩
   obtain⟨g1,g2,g3⟩:=ih MC (by simp only;omega)
   refine⟨g1,g2,fun i hi=> ?_⟩
   rw[g3 i hi]
   unfold wt
   rw[hnb]
   have e:∀ p:Prop,(false=true->p):=fun p h=>by cases h
   rw[AA (e (i.1<=(k.1+1,false,0).2.2)),AA (e (i.1<=k.2.2))]
  ·rw[AB c1];exact hF hk
theorem AIB {z B:Int}:∀ {L:List AH} {f n:Int} {i:AH},i∈chB z B f n L->i∈L
 | [],_,_,_,h=>h
 |a::r,f,n,i,h=>by
  rw[chB] at h
  split at h
  ·cases h
  ·rcases F7.1 h with rfl|h
   ·exact List.mem_cons_self
   ·exact S7 _ (AIB h)
theorem AIC {z B:Int}:∀ {L:List AH} {f n:Int},(chB z B f n L).length<=L.length
 | [],_,_=>ED _
 |a::r,f,n=>by
  rw[chB]
  split
  ·exact Nat.zero_le _
  ·have:=AIC (z:=z) (B:=B) (L:=r) (f:=f-cl z a.2.2.2.2) (n:=n+1)
   simp only[N3];omega
theorem HV.qq {N:Int} {h:Hs} (v:HV N h):Qq h.2.1 h.2.2.1:=by
 obtain⟨l1,l2,l3⟩:=v.hi.hb.lens
 have oB:=VS.O2 v.vs
 refine⟨v.vs,by omega,fun x hx=>by have:=l3 x hx;omega,fun i hi=> ?_⟩
 have:=(v.hi.hb.fit hi).1.1
 omega
theorem Dn.less {R:Int->Prop} {N:Int} {h:Hs} (v:HV N h) {l:List AH} {B3:AH} {h' :Hs} {u:Int} (tg:Tg h l B3) (d:Dn R h l B3 h' u) {k:Cu} (hk:KOk h.2.2.1 h.2.2.2.1 k) (yF:k.1=(h.2.2.1.length:Int)-1->k.2.1=true)
  (hl:∀ i∈l,i∈chL h.2.2.1 k):ms (wt h.2.2.1.length k) h'.2.2.1.flatten<ms (wt h.2.2.1.length k) h.2.2.1.flatten/\h'.2.2.1.length=h.2.2.1.length/\KOk h'.2.2.1 h'.2.2.2.1 k:=by
 obtain⟨l0,EK,t,to,lb,m,mv,ys,ws,r',T4,st,h1,h2,rfl, -⟩:=d
 have RL:=h1.okN
 have hle:=AAG h.2.2.2.1 B3 to
 refine⟨?_,RL.2,⟨hk.k0,by simp only;rw[RL.2];exact hk.k1,fun hb=>⟨by simp only;rw[RL.2];exact (hk.bg hb).1,by have:=(hk.bg hb).2;simp only;omega⟩⟩⟩
 simp only
 have hm:=BR (d:=((0,0,0,0,0):AH)) (l8.2 tg.ne)
 generalize hI:gl ((0,0,0,0,0):AH) l 0=i0 at hm
 have hi0:=tg.sub _ hm
 have hch:=hl _ hm
 unfold chL at hch
 obtain⟨TE,AYV⟩:=YN.1 hch
 have AYV:=gN AYV
 have hN:=(E_.1 v.hi.hb.bv.ok).1
 have hk0:=hk.k0
 have hk1:=hk.k1
 have hbe:i0.2.1=k.1:=by
  have:=(hN.e k.1.toNat (by omega) i0 TE).1
  omega
 have hrm:ms (wt h.2.2.1.length k) (gJ h.2.2.1 (BQ l)).flatten+wt h.2.2.1.length k i0<=ms (wt h.2.2.1.length k) h.2.2.1.flatten:=by
  rw[cM]
  exact xQ _ _ (by simp only[YK,Decidable.not_not];exact J4.2 ⟨i0,hm,rfl⟩) hi0
 have hw0:1<=wt h.2.2.1.length k i0/\(k.1<(h.2.2.1.length:Int)-1->wt h.2.2.1.length k i0=(h.2.2.1.length-k.1).toNat):=by
  unfold wt
  by_cases c1:i0.2.1<(h.2.2.1.length:Int)-1
  ·rw[AA c1];exact⟨by omega,fun _=>by rw[hbe]⟩
  ·rw[AB c1,AA (fun _=>by omega)];exact⟨ED _,fun _=>by omega⟩
 unfold WU
 by_cases c1:B3.2.2.2.2>0
 ·rw[AA c1,tQ]
  have ht:B3∈h.2.2.1.flatten:=by
   rcases h1.tgt with ht|ht
   ·exact ht
   ·omega
  have:ms (wt h.2.2.1.length k) ((gJ h.2.2.1 (BQ l)).flatten.map fun i=>if i.1=to.1 then to else i)=ms (wt h.2.2.1.length k) (gJ h.2.2.1 (BQ l)).flatten:=by
   unfold ms
   rw[S8]
   congr 1
   refine T7 fun i hi=> ?_
   simp only[Function.comp_apply]
   split
   ·rename_i he
    have:=v.hi.hb.uniq (NH.1 hi).1 ht (by rw[he,h1.ci.seq])
    exact AS5 he.symm (by rw[h1.ci.fS,this])
   ·rfl
  rw[this];omega
 ·rw[AB c1]
  by_cases c2:to.2.2.2.2>0
  ·have htn:B3.1=h.2.2.2.1/\0<=B3.2.1/\B3.2.1<h.2.2.1.length:=by
    rcases h1.tgt with ht|ht
    ·have:=(v.hi.hb.fit ht).2;omega
    ·exact⟨ht.1,ht.2.2⟩
   have htb:=h1.ci.fS
   rw[AA c2,AS2 (AKV (by rw[NG];omega))]
   have e:ms (wt h.2.2.1.length k) (to::(gJ h.2.2.1 (BQ l)).flatten)=wt h.2.2.1.length k to+ms (wt h.2.2.1.length k) (gJ h.2.2.1 (BQ l)).flatten:=by unfold ms;simp
   rw[e]
   suffices wt h.2.2.1.length k to<wt h.2.2.1.length k i0 by omega
   have hql:=v.ql
   have htt:=tg.tb
   rw[hI,hbe] at htt
   obtain⟨-, -,hgt⟩:=v.g.ru k.1 hk0 (by omega)
   unfold FD at hgt
   by_cases c3:k.1<(h.2.2.1.length:Int)-1
   ·have h4:k.1<B3.2.1:=by
     refine AIP fun hn=>hgt (.inr ⟨by omega,.inl (by omega)⟩)
    rw[hw0.2 c3]
    unfold wt
    split
    ·omega
    ·split <;> omega
   ·have h4:B3.2.1=k.1:=by
     refine AIP fun hn=>hgt (.inl ⟨by omega,fun he=>hn (by omega)⟩)
    have hbg:=yF (by omega)
    have:=hk.bg hbg
    have h5:wt h.2.2.1.length k to=0:=by
     unfold wt
     rw[AB (by omega),AB (fun hh=>by have:=hh hbg;rw[h1.ci.seq] at this;omega)]
    omega
  ·rw[AB c2];omega
abbrev vF (h:Hs) (k:Cu):Cu:=chK h.2.2.1 (h.2.2.1.length-1-k.1.toNat) k
abbrev AW0 (h:Hs):Hs:=(h.1,h.2.1,h.2.2.1,h.2.2.2.1,h.2.2.2.2.1,h.2.2.2.2.2.1,0,(h.2.2.2.2.2.2.2.1.1,h.2.2.2.2.2.2.2.1.2.1,h.2.2.2.2.2.2.2.1.2.2.1,h.2.2.2.2.2.2.2.1.2.2.2.1,AG (h.2.2.2.2.2.2.2.1.2.2.2.2.1+1),h.2.2.2.2.2.2.2.1.2.2.2.2.2),h.2.2.2.2.2.2.2.2)
noncomputable def gK (s1:Hs×Cu):Option ((Hs×Cu) ⊕ (Hs×Bool)):=
 Option.bind (CP s1.1.1 s1.1.2.1 s1.1.2.2.1 s1.2) (fun r4=>
 if r4.2.2=true then
 some (Sum.inr ((AW0 s1.1,true)))
 else if (r4.1.length:Int)=0 then
 some (Sum.inr ((s1.1,false)))
 else Option.bind (B8 s1.1 r4.1) (fun r5=>
 bif YE (CF.rs++CF.os) r5 then if ¬r5.2.2=0 then
 some (Sum.inr ((s1.1,false)))
 else some (Sum.inl ((r5.1,r4.2.1))) else Option.bind (B8 s1.1 r4.1) (fun r6=>
 if ¬r6.2.2=0 then
 Option.map Sum.inr (none)
 else some (Sum.inl ((r6.1,r4.2.1))))))
theorem AP0 (h:Hs) (n:Int):E8 h n=Option.bind (BL h) (fun r1=>AM (σ:=Hs×Cu) (β:=Hs×Bool) (fun s1=>
 if n>0 then
 Option.bind (D7 s1.1 n) (fun r2=>
 if (!r2)=true then
 Option.bind (FP s1.1.1 s1.1.2.2.1) (fun r3=>
 if (r3.length:Int)=0 then
 some (Sum.inr ((s1.1,false)))
 else gK s1)
 else gK s1)
 else gK s1) (r1,(0,false,0))):=rfl
def Go1 (h:Hs) (k:Cu) (h1:Hs) (k1:Cu):Prop:=
 ∃ l B3 u,qK h.1 h.2.1 h.2.2.1 (vF h k)=(l,k1,false)/\l≠[]/\Tg h l B3/\Dn (AYU h l) h l B3 h1 u
def AW1 (h:Hs) (k:Cu) (b:Hs×Bool):Prop:=
 (b=(AW0 h,true)/\(qK h.1 h.2.1 h.2.2.1 (vF h k)).2.2=true)∨
 (b=(h,false)/\(qK h.1 h.2.1 h.2.2.1 (vF h k)).2.2=false/\((qK h.1 h.2.1 h.2.2.1 (vF h k)).1=[]\/∃ rep e,B8 h (qK h.1 h.2.1 h.2.2.1 (vF h k)).1=some (hz0,rep,e)/\e≠0))
theorem AP1 (rep:Int×Int×Int×Int) (e:Int):YE (CF.rs++CF.os) (hz0,rep,e)=true:=rfl
theorem AS6 {c:Cf} {s:Sp} {q:Rows} {j:Cu} {i:AH} (h:i∈(qK c s q j).1):i∈chL q j:=by
 unfold qK at h
 split at h
 ·cases h
 ·exact AIB h
theorem AS7 {c:Cf} {s:Sp} {q:Rows} {j:Cu}:(qK c s q j).1.length<=(chL q j).length:=by
 unfold qK
 split
 ·exact Nat.zero_le _
 ·exact AIC
theorem AW2 (c:Cf) (s:Sp) (q:Rows) (j:Cu):(qK c s q j).2.1=j:=by
 unfold qK
 split <;> rfl
theorem HV.choose {N:Int} {h:Hs} (v:HV N h) {k:Cu} (hk:KOk h.2.2.1 h.2.2.2.1 k):CP h.1 h.2.1 h.2.2.1 k=some (qK h.1 h.2.1 h.2.2.1 (vF h k)):=by
 have hq:=v.qq
 have hql:=v.ql
 obtain⟨l1,l2,l3⟩:=v.hi.hb.lens
 exact (AKU v.vs (fun x hx=>by have:=l3 x hx;omega) (by omega) (fun i hi=>by have:=hq.w i hi;omega) (by omega) hk.k0 hk.k1).1
theorem AKW {α:Type} {x y z:α} (b:Bool) (h1:x=z) (h2:y=z):(bif b then x else y)=z:=by
 cases b
 ·exact h2
 ·exact h1
theorem AP2 {N:Int} {h:Hs} (v:HV N h) (hN:N<=4294967295) {k:Cu} (hk:KOk h.2.2.1 h.2.2.2.1 k):∃ x,gK (h,k)=some x/\((∃ h1 k1,x= .inl (h1,k1)/\Go1 h k h1 k1)\/∃ b,x= .inr b/\AW1 h k b):=by
 obtain⟨l1,l2,l3⟩:=v.hi.hb.lens
 unfold gK
 simp only
 rw[v.choose hk,A9]
 have hgo:∀ h1 k1,Go1 h k h1 k1↔∃ l B3 u,qK h.1 h.2.1 h.2.2.1 (vF h k)=(l,k1,false)/\l≠[]/\Tg h l B3/\Dn (AYU h l) h l B3 h1 u:=fun _ _=>Iff.rfl
 have hre:∀ b,AW1 h k b↔(b=(AW0 h,true)/\(qK h.1 h.2.1 h.2.2.1 (vF h k)).2.2=true)∨
  (b=(h,false)/\(qK h.1 h.2.1 h.2.2.1 (vF h k)).2.2=false/\((qK h.1 h.2.1 h.2.2.1 (vF h k)).1=[]\/∃ rep e,B8 h (qK h.1 h.2.1 h.2.2.1 (vF h k)).1=some (hz0,rep,e)/\e≠0)):=fun _=>Iff.rfl
 have hcl:(qK h.1 h.2.1 h.2.2.1 (vF h k)).1.length<=64:=by
  have h1:=AS7 (c:=h.1) (s:=h.2.1) (q:=h.2.2.1) (j:=vF h k)
  have h2:(chL h.2.2.1 (vF h k)).length<=(gl [] h.2.2.1 (vF h k).1.toNat).length:=oX _ _
  by_cases h3:(vF h k).1.toNat<h.2.2.1.length
  ·have:=l3 _ (BR (d:=([]:List AH)) h3);omega
  ·have h4:gl ([]:List AH) h.2.2.1 (vF h k).1.toNat=[]:=by
    unfold gl;rw[qP,SO (by omega)];rfl
   have h5:(gl ([]:List AH) h.2.2.1 (vF h k).1.toNat).length=0:=by rw[h4];rfl
   omega
 generalize hr:qK h.1 h.2.1 h.2.2.1 (vF h k)=r at hgo hre hcl
 by_cases c1:r.2.2=true
 ·rw[AA c1]
  exact⟨_,rfl,.inr ⟨_,rfl,(hre _).2 (.inl ⟨rfl,c1⟩)⟩⟩
 have c1' :r.2.2=false:=by simpa using c1
 rw[AB c1]
 by_cases c2:(r.1.length:Int)=0
 ·rw[AA c2]
  exact⟨_,rfl,.inr ⟨_,rfl,(hre _).2 (.inr ⟨rfl,c1',.inl (List.eq_nil_iff_length_eq_zero.2 (by omega))⟩)⟩⟩
 rw[AB c2]
 obtain⟨h1,rep,e,hd1,hd2⟩:=AYS v hN (l:=r.1) (by omega) (Rea.rch h.2.1 h.2.2.1 h.2.2.2.2.2.1 r.1)
 rw[hd1,A9]
 rcases hd2 with ⟨he,rfl⟩|⟨rfl,B3,u,tg,dn⟩
 ·rw[AP1]
  simp only[cond_true]
  rw[AA he]
  exact⟨_,rfl,.inr ⟨_,rfl,(hre _).2 (.inr ⟨rfl,c1',.inr ⟨rep,e,hd1,he⟩⟩)⟩⟩
 ·have hx:Go1 h k h1 r.2.1:=(hgo _ _).2 ⟨r.1,B3,u,by rw[<-c1'],fun hn=>by rw[hn] at c2;exact c2 rfl,tg,dn⟩
  refine⟨Sum.inl (h1,r.2.1), ?_,.inl ⟨_,_,rfl,hx⟩⟩
  exact AKW _ rfl rfl
def lX (h:Hs) (k:Cu):Nat:=ms (wt h.2.2.1.length k) h.2.2.1.flatten
theorem Go1.ok {N:Int} {h:Hs} (v:HV N h) {k:Cu} (hk:KOk h.2.2.1 h.2.2.2.1 k) {h1:Hs} {k1:Cu} (g:Go1 h k h1 k1):
  HV (N+1) h1/\KOk h1.2.2.1 h1.2.2.2.1 k1/\lX h1 k1<lX h k/\h1.1=h.1/\h1.2.1.1=h.2.1.1/\h1.2.1.2.2.length=h.2.1.2.2.length/\h1.2.2.2.2.2.2.2.2=h.2.2.2.2.2.2.2.2/\h1.2.2.2.2.2.2.1=h.2.2.2.2.2.2.1:=by
 obtain⟨l,B3,u,hc,hl,tg,dn⟩:=g
 have hs:=AW2 h.1 h.2.1 h.2.2.1 (vF h k)
 rw[hc] at hs
 simp only at hs
 obtain⟨g1,g2,g3⟩:=AVZ v.hi.hb v.hi.seq v.hi.n0 (h.2.2.1.length-1-k.1.toNat) hk rfl
 have JB:∀ i∈l,i∈chL h.2.2.1 k1:=by
  intro i hi
  have:=AS6 (c:=h.1) (s:=h.2.1) (q:=h.2.2.1) (j:=vF h k) (i:=i) (by rw[hc];exact hi)
  rw[hs];exact this
 have hk1:chK h.2.2.1 (h.2.2.1.length-1-k.1.toNat) k=k1:=hs.symm
 rw[hk1] at g1 g2 g3
 obtain⟨d1,d2,d3⟩:=dn.less v tg g1 g2 JB
 have hm:lX h k1=lX h k:=AOW g3
 have hv1:=dn.hv v
 obtain⟨l0,EK,t,to,lb,m,mv,ys,ws,r',T4,st,h1,h2,rfl, -⟩:=dn
 refine⟨hv1,d3, ?_,rfl, ?_, ?_,rfl,rfl⟩
 ·rw[<-hm]
  unfold lX
  rw[d2];exact d1
 ·exact h1.aft.2.1
 ·exact h1.aft.2.2.2.1
inductive Rn:Nat->Hs->Cu->Hs->Cu->Prop
 |z (h:Hs) (k:Cu):Rn 0 h k h k
 |s {m:Nat} {h:Hs} {k:Cu} {h1:Hs} {k1:Cu} {h2:Hs} {k2:Cu} (a:Rn m h k h1 k1) (b:Go1 h1 k1 h2 k2):Rn (m+1) h k h2 k2
theorem Rn.ok {N:Int} {h:Hs} (v:HV N h) {k:Cu} (hk:KOk h.2.2.1 h.2.2.2.1 k):∀ {m:Nat} {h1:Hs} {k1:Cu},Rn m h k h1 k1→
  HV (N+m) h1/\KOk h1.2.2.1 h1.2.2.2.1 k1/\lX h1 k1+m<=lX h k/\h1.1=h.1/\h1.2.1.1=h.2.1.1/\h1.2.1.2.2.length=h.2.1.2.2.length/\h1.2.2.2.2.2.2.2.2=h.2.2.2.2.2.2.2.2/\h1.2.2.2.2.2.2.1=h.2.2.2.2.2.2.1:=by
 intro m h1 k1 r
 induction r with
 |z=>exact⟨by simpa using v,hk,ED _,rfl,rfl,rfl,rfl,rfl⟩
 |s a b ih=>
  obtain⟨v1,k1,m1,e1,e2,e3,e4,e5⟩:=ih v hk
  obtain⟨v2,k2,m2,f1,f2,f3,f4,f5⟩:=b.ok v1 k1
  exact⟨by have:=v2;rw[Int.natCast_add];rw[<-Int.add_assoc];exact this,k2,by omega,by rw[f1,e1],by rw[f2,e2],by rw[f3,e3],by rw[f4,e4],by rw[f5,e5]⟩
theorem AS8 {N:Int} {h:Hs} (v:HV N h) (k:Cu):lX h k<=256:=by
 obtain⟨l1,l2,l3⟩:=v.hi.hb.lens
 have hN:=(E_.1 v.hi.hb.bv.ok).1
 have:=ATJ (w:=wt h.2.2.1.length k) (b:=4) (l:=h.2.2.1.flatten) fun i hi=>by
  have:=(hN.row hi).1
  unfold wt
  split
  ·omega
  ·split <;> omega
 unfold lX
 omega
theorem ADW {N:Int} {h:Hs} (v:HV N h) {n:Int} (n0:1<=n) (n1:n<=48):D7 h n=some (decide ((H7 h.1 h.2.1 h.2.2.1 h.2.2.2.1 n).1=3)):=by
 unfold D7
 rw[AAJ v.g v.qq v.hi.hb.bv.n.1 n0 n1];rfl
structure RD (n:Int) (h:Hs) (b:Hs×Bool) (m:Nat) (h1:Hs) (k1:Cu):Prop where
 rn:Rn m h (0,false,0) h1 k1
 fin:(b=(h1,false)/\0<n/\(H7 h1.1 h1.2.1 h1.2.2.1 h1.2.2.2.1 n).1≠3/\AIA h1.1 h1.2.2.1=[])\/AW1 h1 k1 b
theorem KOk.init {N:Int} {h:Hs} (v:HV N h):KOk h.2.2.1 h.2.2.2.1 (0,false,0):=
 ⟨S9 _,by have:=v.hi.hb.bv.n;simp only;omega,fun h=>by cases h⟩
theorem ADX {N:Int} {h:Hs} (v:HV N h) (hN:N<=4294967000) {n:Int} (n0:0<=n) (n1:n<=48):∃ b m h1 k1,E8 h n=some b/\RD n h b m h1 k1/\m<=256:=by
 suffices hh:∃ b,E8 h n=some b/\∃ m h1 k1,RD n h b m h1 k1/\m<=256 by
  obtain⟨b,g1,m,h1,k1,g2⟩:=hh
  exact⟨b,m,h1,k1,g1,g2⟩
 rw[AP0,v.copy,A9]
 have hk:=KOk.init v
 have hml:=AS8 v (0,false,0)
 have step:∀ (m:Nat) (h1:Hs) (k1:Cu),m<=lX h (0,false,0)->Rn m h (0,false,0) h1 k1→
   ((∃ s',gK (h1,k1)=some (.inl s')/\m<lX h (0,false,0)/\Rn (m+1) h (0,false,0) s'.1 s'.2)\/∃ b,gK (h1,k1)=some (.inr b)/\∃ m h1 k1,RD n h b m h1 k1/\m<=256):=by
  intro m h1 k1 hm hr
  obtain⟨v1,kk,m1, -⟩:=hr.ok v hk
  obtain⟨x,yI,hx2⟩:=AP2 v1 (by omega) kk
  rcases hx2 with ⟨h2,k2,rfl,g⟩|⟨b,rfl,g⟩
  ·have:=(g.ok v1 kk).2.2.1
   exact .inl ⟨_,yI,by omega,.s hr g⟩
  ·exact .inr ⟨b,yI,m,h1,k1,⟨hr,.inr g⟩,by omega⟩
 have body:∀ (m:Nat) (st:Hs×Cu),m<=lX h (0,false,0)->Rn m h (0,false,0) st.1 st.2->∀ F,F=(if n>0 then
   Option.bind (D7 st.1 n) (fun r2=>
   if (!r2)=true then
   Option.bind (FP st.1.1 st.1.2.2.1) (fun r3=>
   if (r3.length:Int)=0 then
   some (Sum.inr ((st.1,false)))
   else gK st)
   else gK st)
   else gK st)->((∃ s',F=some (.inl s')/\m<lX h (0,false,0)/\Rn (m+1) h (0,false,0) s'.1 s'.2)\/∃ b,F=some (.inr b)/\∃ m h1 k1,RD n h b m h1 k1/\m<=256):=by
  rintro m ⟨h1,k1⟩ hm hr F rfl
  simp only at hr ⊢
  obtain⟨v1,kk,m1, -⟩:=hr.ok v hk
  have hst:=step m h1 k1 hm hr
  by_cases c1:n>0
  ·rw[AA c1,ADW v1 (by omega) n1,A9]
   by_cases c2:(H7 h1.1 h1.2.1 h1.2.2.1 h1.2.2.2.1 n).1=3
   ·rw[HX c2,AB (by decide)];exact hst
   ·obtain⟨l1,l2,l3⟩:=v1.hi.hb.lens
    rw[MV c2,AA (by decide),AS4 v1.g v1.ql (fun x hx=>by have:=l3 x hx;omega),A9]
    by_cases c3:((AIA h1.1 h1.2.2.1).length:Int)=0
    ·rw[AA c3]
     exact .inr ⟨_,rfl,m,h1,k1,⟨hr,.inl ⟨rfl,c1,c2,List.eq_nil_iff_length_eq_zero.2 (by omega)⟩⟩,by omega⟩
    ·rw[AB c3];exact hst
  ·rw[AB c1];exact hst
 refine AR (fun m (st:Hs×Cu)=>Rn m h (0,false,0) st.1 st.2) _ (lX h (0,false,0)) ?_ ?_ (s:=(h,(0,false,0))) (.z h _)
 ·intro m st hm hr
  rcases body m st (by omega) hr _ rfl with ⟨s',g1,g2,g3⟩|g
  ·exact .inl ⟨s',g1,g3⟩
  ·exact .inr g
 ·intro st hr
  rcases body _ st (ED _) hr _ rfl with ⟨s',g1,g2,g3⟩|g
  ·omega
  ·exact g
end Go.Proofs.YthmiilamegpllaaGreat
namespace Go.Proofs.YthmiilamegpllaaGreat
open Go Go.V3
structure Al (s:Sp) (q:Rows) (n:Int) (i:AH) (r d:Int) (u:Sp) (j:AH) (a:Int) (l l' :List Int) (os:List (Int×Int)) (q' :Rows) (n' :Int):Prop where
 hb:HB s q
 seq:∀ i∈q.flatten,i.1<n
 n0:0<=n
 rd:(0<=r/\r<=15)/\(0<=d/\d<=32)
 fit:D5 s i
 ad:lI s i r d u j a l l'
 has:Has s i l
 RK:DM (sz s.1) s.2.1 l 0 os i.2.2.2.2
 cs:(i∈q.flatten/\q' =rpl q j/\n' =n)\/(i.1=n/\i.2.2.2.2=0/\(0<=i.2.1/\i.2.1<q.length)/\q' =addr q j/\n' =n+1)
section
variable {s:Sp} {q:Rows} {n:Int} {i:AH} {r d:Int} {u:Sp} {j:AH} {a:Int} {l l' :List Int} {os:List (Int×Int)} {q' :Rows} {n' :Int}
theorem Al.z (h:Al s q n i r d u j a l l' os q' n'):sz u.1=sz s.1:=by rw[h.ad.sh]
theorem Al.jf (h:Al s q n i r d u j a l l' os q' n'):D5 u j:=(lI.self h.hb.bv.vs h.fit h.rd.1.1 h.rd.1.2 h.rd.2.1 h.rd.2.2 h.ad).1
theorem Al.jw (h:Al s q n i r d u j a l l' os q' n'):j.1=i.1/\j.2.1=i.2.1/\j.2.2.2.2=i.2.2.2.2+(1+r+d)/\0<=i.2.2.2.2:=⟨h.ad.grown.seq,h.ad.grown.fS,h.ad.grown.words,h.fit.1.2.2.2.2.1⟩
theorem Al.jh (h:Al s q n i r d u j a l l' os q' n'):Has u j l' := .inr ⟨by have:=h.jw;have:=h.rd;omega,h.ad.grown.path⟩
theorem Al.jt (h:Al s q n i r d u j a l l' os q' n'):DM (sz s.1) u.2.1 l' 0 (os++ [(r,d)]) j.2.2.2.2:=by
 obtain⟨l2,h1,h2⟩:=(lI.self h.hb.bv.vs h.fit h.rd.1.1 h.rd.1.2 h.rd.2.1 h.rd.2.2 h.ad).2 os ⟨l,h.has,h.RK⟩
 rw[RX h1 h.jh,h.z] at h2
 exact h2
theorem Al.pre (h:Al s q n i r d u j a l l' os q' n'):∃ e,l' =l++e:=⟨_,h.ad.grown.more⟩
theorem Al.uni (h:Al s q n i r d u j a l l' os q' n') {p:AH} (hp:p∈q.flatten) (he:p.1=i.1):p=i/\i∈q.flatten:=by
 rcases h.cs with ⟨hi,_⟩|⟨hi,_⟩
 ·exact⟨h.hb.uniq hp hi he,hi⟩
 ·have:=h.seq p hp;omega
theorem Al.mem (h:Al s q n i r d u j a l l' os q' n') {p:AH}:p∈q'.flatten↔(p∈q.flatten/\p.1≠i.1)\/p=j:=by
 have hj:=h.jw
 rcases h.cs with ⟨hi,rfl,_⟩|⟨hi,hw,hb,rfl,_⟩
 ·rw[AI5,hj.1]
  constructor
  ·rintro (h1|⟨h1,_⟩)
   ·exact .inl h1
   ·exact .inr h1
  ·rintro (h1|h1)
   ·exact .inl h1
   ·exact .inr ⟨h1,i,hi,rfl⟩
 ·rw[ADO (by omega)]
  constructor
  ·rintro (h1|h1)
   ·exact .inl ⟨h1,fun he=>by have:=h.seq p h1;omega⟩
   ·exact .inr h1
  ·rintro (⟨h1,_⟩|h1)
   ·exact .inl h1
   ·exact .inr h1
theorem Al.wS (h:Al s q n i r d u j a l l' os q' n') {p y:Int} (p0:0<=p) (p1:p<i.2.2.2.2) (hy:DB (sz s.1) l p=some y):gl 0#64 u.2.1 y.toNat=gl 0#64 s.2.1 y.toNat:=by
 have z:=CA s.1
 have wW :DB (sz s.1) l' p=some y:=by rw[h.ad.grown.more];exact CS hy
 have hr:=DD h.hb.bv.vs h.fit h.has p0 hy
 refine h.ad.wr.oth y.toNat fun k k0 k1 he=> ?_
 rw[qU hr.1.1] at he
 have:=JW z h.ad.grown.path.nodup (by have:=h.jw;omega) p0 he wW
 omega
theorem Al.other (h:Al s q n i r d u j a l l' os q' n') {p:AH} (hp:p∈q.flatten) (CJ:p.1≠i.1):D5 u p/\(∀ lp,Has s p lp->Has u p lp/\∀ off x,0<=off->DB (sz s.1) lp off=some x->gl 0#64 u.2.1 x.toNat=gl 0#64 s.2.1 x.toNat)/\∀ os,Full s p os->Full u p os:=lI.other h.hb.bv.vs h.fit h.ad (h.hb.fit hp).1 CJ
theorem Al.obO (h:Al s q n i r d u j a l l' os q' n') {p:AH} (hp:p∈q.flatten) (CJ:p.1≠i.1) {lp:List Int} {op:List (Int×Int)} {pp b:Int} {x:Int×Int} (o:OB s p lp op pp b x):OB u p lp op pp b x:=by
 obtain⟨h1,h2,h3⟩:=h.other hp CJ
 obtain⟨h4,h5⟩:=h2 lp o.has
 refine⟨h4, ?_,o.ta,by rw[h.z];exact o.IP⟩
 rw[h.z]
 exact o.RK.AL fun k y k0 k1 hk=>⟨hk,h5 k y k0 hk⟩
theorem Al.A1A (h:Al s q n i r d u j a l l' os q' n') {p:AH} (hp:p∈q.flatten) (CJ:p.1≠i.1) {lp:List Int} {op:List (Int×Int)} {pp b:Int} {x:Int×Int} (o:OB u p lp op pp b x):OB s p lp op pp b x:=by
 obtain⟨o1,l1,g1,g2⟩:=h.hb.full p hp
 obtain⟨h1,h2,h3⟩:=h.other hp CJ
 obtain⟨h4,h5⟩:=h2 l1 g1
 have ht:DM (sz u.1) u.2.1 l1 0 o1 p.2.2.2.2:=by
  rw[h.z]
  exact g2.AL fun k y k0 k1 hk=>⟨hk,h5 k y k0 hk⟩
 obtain⟨rfl,rfl⟩:=JX h4 ht o
 exact⟨g1,g2,o.ta,by rw[<-h.z];exact o.IP⟩
theorem Al.obS (h:Al s q n i r d u j a l l' os q' n') {p b:Int} {x:Int×Int} (o:OB s i l os p b x):OB u j l' (os++ [(r,d)]) p b x:=by
 obtain⟨e,he⟩:=h.pre
 exact⟨h.jh,by rw[h.z];exact h.jt,TA.app o.ta,by rw[h.z,he];exact CS o.IP⟩
theorem Al.obN (h:Al s q n i r d u j a l l' os q' n'):OB u j l' (os++ [(r,d)]) i.2.2.2.2 a (r,d):=
 ⟨h.jh,by rw[h.z];exact h.jt,(TA.snoc h.RK).2 (.inr ⟨rfl,rfl⟩),by rw[h.z];exact h.ad.grown.IP⟩
theorem Al.cls (h:Al s q n i r d u j a l l' os q' n') {lc:List Int} {oc:List (Int×Int)} {p b:Int} {x:Int×Int} (o:OB u j lc oc p b x):lc=l' /\oc=os++ [(r,d)]/\(OB s i l os p b x\/(p=i.2.2.2.2/\b=a/\x=(r,d))):=by
 obtain⟨rfl,rfl⟩:=JX h.jh (by rw[h.z];exact h.jt) o
 refine⟨rfl,rfl, ?_⟩
 rcases (TA.snoc h.RK).1 o.ta with h1|⟨rfl,rfl⟩
 ·left
  have hr:=h.RK.ta h1
  obtain⟨y,hy,_⟩:=hr.2.1
  obtain⟨e,he⟩:=h.pre
  have h2:=o.IP
  rw[h.z,he,CS hy] at h2
  obtain rfl:=VM h2
  exact⟨h.has,h.RK,h1,hy⟩
 ·right
  have h2:=o.IP
  rw[h.z,h.ad.grown.IP] at h2
  exact⟨rfl,(VM h2).symm,rfl⟩
theorem Al.iso (h:Al s q n i r d u j a l l' os q' n') {b:Int} (hb:IsO s q b):IsO u q' b:=by
 obtain⟨p,hp,k,x,lp,op,o⟩:=hb
 by_cases CJ:p.1=i.1
 ·obtain⟨rfl,hi⟩:=h.uni hp CJ
  obtain⟨rfl,rfl⟩:=JX h.has h.RK o
  exact⟨j,h.mem.2 (.inr rfl),k,x,_,_,h.obS o⟩
 ·exact⟨p,h.mem.2 (.inl ⟨hp,CJ⟩),k,x,lp,op,h.obO hp CJ o⟩
theorem Al.slot (h:Al s q n i r d u j a l l' os q' n') {y:Int} (hy:Slot s q y):Slot u q' y:=by
 obtain⟨p,hp,lp,op,pp,b,x,k,o,k1,k2,ha⟩:=hy
 by_cases CJ:p.1=i.1
 ·obtain⟨rfl,hi⟩:=h.uni hp CJ
  obtain⟨rfl,rfl⟩:=JX h.has h.RK o
  obtain⟨e,he⟩:=h.pre
  exact⟨j,h.mem.2 (.inr rfl),_,_,pp,b,x,k,h.obS o,k1,k2,by rw[h.z,he];exact CS ha⟩
 ·exact⟨p,h.mem.2 (.inl ⟨hp,CJ⟩),lp,op,pp,b,x,k,h.obO hp CJ o,k1,k2,by rw[h.z];exact ha⟩
theorem Al.xO (h:Al s q n i r d u j a l l' os q' n') {y:Int} (hy:Slot u q' y):(Slot s q y/\gl 0#64 u.2.1 y.toNat=gl 0#64 s.2.1 y.toNat)\/gl 0#64 u.2.1 y.toNat=0#64:=by
 obtain⟨p,hp,lp,op,pp,b,x,k,o,k1,k2,ha⟩:=hy
 rw[h.z] at ha
 rcases h.mem.1 hp with ⟨hp,CJ⟩|rfl
 ·have o' :=h.A1A hp CJ o
  have hr:=o'.HJ
  obtain⟨h1,h2,h3⟩:=h.other hp CJ
  exact .inl ⟨⟨p,hp,lp,op,pp,b,x,k,o',k1,k2,ha⟩,(h2 lp o'.has).2 (pp+k) y (by omega) ha⟩
 ·obtain⟨rfl,rfl,h1⟩:=h.cls o
  rcases h1 with o' |⟨rfl,rfl,rfl⟩
  ·have hr:=o'.HJ
   obtain⟨y1,hy1⟩:=AGA h.hb.bv.vs h.fit h.has (p:=pp+k) (by omega) (by omega)
   obtain⟨e,he⟩:=h.pre
   rw[he,CS hy1] at ha
   obtain rfl:=VM ha
   have hi:i∈q.flatten:=by
    rcases h.cs with ⟨hi,_⟩|⟨_,hw,_⟩
    ·exact hi
    ·omega
   exact .inl ⟨⟨i,hi,l,os,pp,b,x,k,o',k1,k2,hy1⟩,h.wS (by omega) (by omega) hy1⟩
  ·simp only at k2
   exact .inr (h.ad.wr.z8 k y k1 (by have:=h.rd;omega) ha)
theorem Al.RZ (h:Al s q n i r d u j a l l' os q' n'):HB u q' :=by
 have hj:=h.jw
 have hv:=h.hb.bv.vs
 have hN:=(E_.1 h.hb.bv.ok).1
 have hq:OkN q' /\q'.length=q.length:=by
  rcases h.cs with ⟨hi,rfl,_⟩|⟨hi,hw,hb,rfl,_⟩
  ·exact⟨hN.rpl (fun p hp he=>by rw[(h.uni hp (by omega)).1];exact hj.2.1.symm) (by have:=h.rd;omega),lV _ _⟩
  ·exact⟨hN.addr (by omega) (by omega) (by have:=h.rd;omega) (fun p hp=>by have:=h.seq p hp;omega),cN _ _⟩
 refine⟨⟨h.ad.vs,by rw[hq.2];exact h.hb.bv.n,E_.2 ⟨hq.1,fun p hp=> ?_⟩,fun x x0 x1 hx=> ?_⟩,fun p hp=> ?_⟩
 ·rcases h.mem.1 hp with ⟨hp,CJ⟩|rfl
  ·exact (h.other hp CJ).1
  ·exact h.jf
 ·have hl:u.2.2.length=s.2.2.length:=h.ad.grown.len
  by_cases he:(fr u.2.2 x).1=i.1
  ·exact C0.2 ⟨j,h.mem.2 (.inr rfl),by rw[he];exact hj.1⟩
  ·have hf:fr u.2.2 x=fr s.2.2 x:=Grown.fr1 hv h.ad.grown h.fit.1.1 x0 (by omega) he
   rw[hf] at hx he ⊢
   obtain⟨p,hp,hpe⟩:=C0.1 (h.hb.bv.cov x x0 (by omega) hx)
   exact C0.2 ⟨p,h.mem.2 (.inl ⟨hp,by rw[hpe];exact he⟩),hpe⟩
 ·rcases h.mem.1 hp with ⟨hp,CJ⟩|rfl
  ·obtain⟨o1,g⟩:=h.hb.full p hp
   exact⟨o1,(h.other hp CJ).2.2 o1 g⟩
  ·exact⟨_,l',h.jh,by rw[h.z];exact h.jt⟩
theorem Al.frm (h:Al s q n i r d u j a l l' os q' n') {p:AH} (hp:p∈q.flatten) {lp:List Int} (yU:Has s p lp) {pp y:Int} (p0:0<=pp) (hy:DB (sz s.1) lp pp=some y):(fr u.2.2 (y / sz s.1)).1=(fr s.2.2 (y / sz s.1)).1/\(fr u.2.2 (y / sz s.1)).2.1=(fr s.2.2 (y / sz s.1)).2.1:=by
 have hr:=DD h.hb.bv.vs (h.hb.fit hp).1 yU p0 hy
 have hj:=h.jw
 by_cases CJ:p.1=i.1
 ·obtain⟨rfl,hi⟩:=h.uni hp CJ
  obtain rfl:=RX yU h.has
  obtain⟨e,he⟩:=h.pre
  have dI :=DD h.ad.vs h.jf h.jh p0 (y:=y) (by rw[h.z,he];exact CS hy)
  rw[h.z] at dI
  rw[dI.2.2.2.1,dI.2.2.2.2,hr.2.2.2.1,hr.2.2.2.2,hj.1,hj.2.1]
  exact⟨rfl,rfl⟩
 ·obtain⟨h1,h2,h3⟩:=h.other hp CJ
  have dI :=DD h.ad.vs h1 (h2 lp yU).1 p0 (y:=y) (by rw[h.z];exact hy)
  rw[h.z] at dI
  rw[dI.2.2.2.1,dI.2.2.2.2,hr.2.2.2.1,hr.2.2.2.2]
  exact⟨rfl,rfl⟩
theorem Al.done (h:Al s q n i r d u j a l l' os q' n') {ss:Ss} {ro:Ro} (hi:HI s q n ss ro):HI u q' n' ss ro/\IsO u q' a/\n' <=n+1/\q'.length=q.length:=by
 have hj:=h.jw
 have hn:n<=n' /\n' <=n+1/\j.1<n' /\q'.length=q.length:=by
  rcases h.cs with ⟨h1,rfl,h2⟩|⟨h1,_,_,rfl,h2⟩
  ·have:=h.seq i h1
   exact⟨by omega,by omega,by omega,lV _ _⟩
  ·exact⟨by omega,by omega,by omega,cN _ _⟩
 refine⟨{ hb:=h.RZ,seq:=fun p hp=> ?_,n0:=by have:=h.n0;omega,ref:=fun y hy=> ?_,ro:=hi.ro,root:=fun k hk hu=>⟨(hi.root k hk hu).1,h.iso (hi.root k hk hu).2⟩,rv:=hi.rv,ins:=fun f g y ND=> ?_,rem:=fun y hy f g hp=> ?_ },⟨j,h.mem.2 (.inr rfl),_,_,_,_,h.obN⟩,hn.2.1,hn.2.2.2⟩
 ·rcases h.mem.1 hp with ⟨hp,_⟩|rfl
  ·have:=h.seq p hp;omega
  ·exact hn.2.2.1
 ·rcases h.xO hy with ⟨h1,h2⟩|h1
  ·rw[h2]
   rcases hi.ref y h1 with h3|h3
   ·exact .inl h3
   ·exact .inr (h.iso h3)
  ·exact .inl h1
 ·obtain⟨h1,h2⟩:=hi.ins f g y ND
  exact⟨h.slot h1,by rw[h.z];exact h2⟩
 ·rcases h.xO hy with ⟨h1,h2⟩|h1
  rotate_left
  ·exact absurd h1 hp.1
  obtain⟨a1,a2,a3,a4,a5,a6,a7⟩:=hp
  rw[h2] at a1 a2 a4
  rw[h.z] at a3 a4
  rw[h.ad.wr.len] at a2
  obtain⟨p,hp,lp,op,pp,b,x,k,o,k1,k2,ha⟩:=id h1
  have hr:=o.HJ
  obtain⟨f1,f2⟩:=h.frm hp o.has (pp:=pp+k) (by omega) ha
  rcases hi.ref y h1 with h3|⟨p',hp',pp',x',lp',op',o'⟩
  ·exact absurd h3 a1
  have dI :=o'.HJ
  obtain⟨g1,g2⟩:=h.frm hp' o'.has (pp:=pp') (by omega) o'.IP
  rw[<-a3] at f1 f2
  rw[<-a4] at g1 g2
  exact hi.rem y h1 f g ⟨a1,a2,a3,a4,by rw[<-f1];exact a5,by rw[<-g1];exact a6,by rw[<-f2,←g2];exact a7⟩
end
end Go.Proofs.YthmiilamegpllaaGreat
namespace Go.Proofs.YthmiilamegpllaaGreat
open Go Go.V3
abbrev gL (h:Hs):Hs:=(h.1,h.2.1,h.2.2.1,h.2.2.2.1,h.2.2.2.2.1,h.2.2.2.2.2.1,h.2.2.2.2.2.2.1,h.2.2.2.2.2.2.2.1,true)
abbrev AKX (h:Hs):Hs:=(h.1,h.2.1,h.2.2.1,h.2.2.2.1,h.2.2.2.2.1,h.2.2.2.2.2.1,if cmp h.1=true then AG (h.2.2.2.2.2.2.1+1) else h.2.2.2.2.2.2.1,(h.2.2.2.2.2.2.2.1.1,h.2.2.2.2.2.2.2.1.2.1,AG (h.2.2.2.2.2.2.2.1.2.2.1+1),h.2.2.2.2.2.2.2.1.2.2.2),h.2.2.2.2.2.2.2.2)
abbrev EH (h:Hs) (n:Int):Int×AH:=H7 h.1 h.2.1 h.2.2.1 h.2.2.2.1 n
def AGF (h:Hs) (n:Int):Int:=if cmp h.1=true/\h.2.2.2.2.2.2.1≥h.1.2.2 then 0 else n
noncomputable def AAK (a1 a2:Int) (j2:Hs):Option ((Int×Hs×AH) ⊕ (Hs×Int×Int)):=
 Option.bind (CB j2.1) (fun r5=>
 if r5=true then
 if j2.2.2.2.2.2.2.1≥j2.1.2.2 then
 Option.bind (FQ j2) (fun r6=>
 Option.bind (BU r6.1.1 r6.1.2.1 r6.1.2.2.1 r6.1.2.2.2.1 (AG ((AG ((1:Int)+a1))+a2))) (fun r7=>
 if r7.1=3 then
 some (Sum.inr ((gL r6.1,0,18)))
 else some (Sum.inl ((r7.1,r6.1,r7.2)))))
 else Option.bind (EA j2 (AG ((AG ((1:Int)+a1))+a2))) (fun r8=>
 Option.bind (BU r8.1.1 r8.1.2.1 r8.1.2.2.1 r8.1.2.2.2.1 (AG ((AG ((1:Int)+a1))+a2))) (fun r9=>
 if r9.1=3 then
 some (Sum.inr ((gL r8.1,0,18)))
 else some (Sum.inl ((r9.1,r8.1,r9.2)))))
 else Option.bind (EA j2 (AG ((AG ((1:Int)+a1))+a2))) (fun LZ=>
 Option.bind (BU LZ.1.1 LZ.1.2.1 LZ.1.2.2.1 LZ.1.2.2.2.1 (AG ((AG ((1:Int)+a1))+a2))) (fun VL=>
 if VL.1=3 then
 some (Sum.inr ((gL LZ.1,0,18)))
 else some (Sum.inl ((VL.1,LZ.1,VL.2))))))
noncomputable def xT (a1 a2:Int) (j1:Int×Hs×AH):Option (Hs×Int×Int):=
 Option.bind (CG j1.2.1.2.1 j1.2.2 (AG ((AG ((1:Int)+a1))+a2))) (fun QU=>
 if ¬QU.2.2.1=0 then
 some (((j1.2.1.1,(j1.2.1.2.1.1,QU.2.2.2),j1.2.1.2.2.1,j1.2.1.2.2.2.1,j1.2.1.2.2.2.2.1,j1.2.1.2.2.2.2.2.1,j1.2.1.2.2.2.2.2.2.1,j1.2.1.2.2.2.2.2.2.2.1,true),0,18))
 else Option.bind (FL (j1.2.1.2.1.1,QU.2.2.2) QU.2.1 a1 a2) (fun UF=>
 if j1.1=2 then
 Option.bind (EY j1.2.1.2.2.1 QU.1) (fun tX=>
 some (((j1.2.1.1,(j1.2.1.2.1.1,UF.2),tX.1,AG (j1.2.1.2.2.2.1+1),j1.2.1.2.2.2.2.1,j1.2.1.2.2.2.2.2.1,j1.2.1.2.2.2.2.2.2.1,(AG (j1.2.1.2.2.2.2.2.2.2.1.1+(AG ((AG ((1:Int)+a1))+a2))),AG (j1.2.1.2.2.2.2.2.2.2.1.2.1+1),j1.2.1.2.2.2.2.2.2.2.1.2.2),j1.2.1.2.2.2.2.2.2.2.2),QU.2.1,0)))
 else Option.bind (CX j1.2.1.2.2.1 QU.1) (fun sZ=>
 some (((j1.2.1.1,(j1.2.1.2.1.1,UF.2),sZ.1,j1.2.1.2.2.2.1,j1.2.1.2.2.2.2.1,j1.2.1.2.2.2.2.2.1,j1.2.1.2.2.2.2.2.2.1,(AG (j1.2.1.2.2.2.2.2.2.2.1.1+(AG ((AG ((1:Int)+a1))+a2))),AG (j1.2.1.2.2.2.2.2.2.2.1.2.1+1),j1.2.1.2.2.2.2.2.2.2.1.2.2),j1.2.1.2.2.2.2.2.2.2.2),QU.2.1,0)))))
theorem AP3 (h:Hs) (a1 a2:Int):IK h a1 a2=(
 if h.2.2.2.2.2.2.2.2=true then
 some (((hz0,0,19):Hs×Int×Int))
 else Option.bind (C9 a1 a2) (fun r1=>
 if ¬r1.2=0 then
 some ((hz0,0,r1.2))
 else Option.bind (BL h) (fun r2=>
 Option.bind (BU r2.1 r2.2.1 r2.2.2.1 r2.2.2.2.1 (AG ((AG ((1:Int)+a1))+a2))) (fun r3=>
 Option.bind (α:=(Int×Hs×AH) ⊕ (Hs×Int×Int)) (if r3.1=3 then
 Option.bind (α:=Hs ⊕ ((Int×Hs×AH) ⊕ (Hs×Int×Int))) (Option.bind (CB r2.1) (fun r4=>
 if r4=true then
 some (Sum.inl ((r2.1,r2.2.1,r2.2.2.1,r2.2.2.2.1,r2.2.2.2.2.1,r2.2.2.2.2.2.1,AG (r2.2.2.2.2.2.2.1+1),(r2.2.2.2.2.2.2.2.1.1,r2.2.2.2.2.2.2.2.1.2.1,AG (r2.2.2.2.2.2.2.2.1.2.2.1+1),r2.2.2.2.2.2.2.2.1.2.2.2),r2.2.2.2.2.2.2.2.2)))
 else some (Sum.inl ((r2.1,r2.2.1,r2.2.2.1,r2.2.2.2.1,r2.2.2.2.2.1,r2.2.2.2.2.2.1,r2.2.2.2.2.2.2.1,(r2.2.2.2.2.2.2.2.1.1,r2.2.2.2.2.2.2.2.1.2.1,AG (r2.2.2.2.2.2.2.2.1.2.2.1+1),r2.2.2.2.2.2.2.2.1.2.2.2),r2.2.2.2.2.2.2.2.2))))) (fun q=>match q with
 |Sum.inl j2=>AAK a1 a2 j2
 |Sum.inr b1=>some b1)
 else some (Sum.inl ((r3.1,r2,r3.2)))) (fun q=>match q with
 |Sum.inl j1=>xT a1 a2 j1
 |Sum.inr b2=>some b2))))):=rfl
def Gcd (h:Hs) (n:Int) (h1:Hs):Prop:=((EH h n).1≠3/\h1=h)\/((EH h n).1=3/\∃ b m hx kx,RD (AGF (AKX h) n) (AKX h) b m hx kx/\m<=256/\h1=b.1)
theorem HV.mono {N M:Int} {h:Hs} (v:HV N h) (hM:N<=M):HV M h:=⟨v.g,v.hi,v.ql,by have:=v.n1;omega⟩
theorem HV.col {N:Int} {h:Hs} (v:HV N h):HV N (AKX h):=⟨v.g,v.hi,v.ql,v.n1⟩
theorem RD.ok {N:Int} {h:Hs} (v:HV N h) {n:Int} {b:Hs×Bool} {m:Nat} {h1:Hs} {k1:Cu} (r:RD n h b m h1 k1):HV (N+m) b.1/\b.1.1=h.1/\b.1.2.1.1=h.2.1.1/\b.1.2.1.2.2.length=h.2.1.2.2.length/\b.1.2.2.2.2.2.2.2.2=h.2.2.2.2.2.2.2.2:=by
 obtain⟨g1,g2,g3,g4,g5,g6,g7,g8⟩:=r.rn.ok v (KOk.init v)
 rcases r.fin with ⟨rfl,_⟩|⟨rfl,_⟩|⟨rfl,_⟩
 ·exact⟨g1,g4,g5,g6,g7⟩
 ·exact⟨⟨g1.g,g1.hi,g1.ql,g1.n1⟩,g4,g5,g6,g7⟩
 ·exact⟨g1,g4,g5,g6,g7⟩
theorem Gcd.ok {N:Int} {h:Hs} (v:HV N h) {n:Int} {h1:Hs} (g:Gcd h n h1):HV (N+256) h1/\h1.1=h.1/\h1.2.1.1=h.2.1.1/\h1.2.1.2.2.length=h.2.1.2.2.length/\h1.2.2.2.2.2.2.2.2=h.2.2.2.2.2.2.2.2:=by
 rcases g with ⟨_,rfl⟩|⟨_,b,m,hx,kx,r,hm,rfl⟩
 ·exact⟨v.mono (by omega),rfl,rfl,rfl,rfl⟩
 ·obtain⟨g1,g2⟩:=r.ok v.col
  exact⟨g1.mono (by omega),g2⟩
theorem AP4 (r d:Int):∃ w e,C9 r d=some (w,e)/\((e=0/\(0<=r/\r<=15)/\(0<=d/\d<=32))\/e=13):=by
 by_cases h:(0<=r/\r<=15)/\(0<=d/\d<=32)
 ·exact⟨_,_,qE h.1.1 h.1.2 h.2.1 h.2.2,.inl ⟨rfl,h⟩⟩
 ·unfold C9
  refine⟨0#64,13, ?_,.inr rfl⟩
  by_cases h1:r<0
  ·rw[AA h1]
  by_cases h2:r>15
  ·rw[AB h1,AA h2]
  by_cases h3:d<0
  ·rw[AB h1,AB h2,AA h3]
  rw[AB h1,AB h2,AB h3,AA (by omega)]
theorem AID {N:Int} {h:Hs} (v:HV N h) (hN:N<=4294967000):∃ b m h1 k1,FQ h=some b/\RD 0 h b m h1 k1/\m<=256:=by
 obtain⟨b,m,h1,k1,g1,g2⟩:=ADX v hN (n:=0) (S9 _) (by omega)
 unfold FQ
 rw[g1]
 exact⟨b,m,h1,k1,rfl,g2⟩
theorem AW3 {N:Int} {h:Hs} (v:HV N h) (hN:N<=4294967000) {n:Int} (n0:1<=n) (n1:n<=48):∃ b c m h1 k1,EA h n=some (b.1,c)/\RD n h b m h1 k1/\m<=256:=by
 obtain⟨b,m,h1,k1,g1,g2,g3⟩:=ADX v hN (n:=n) (by omega) (by omega)
 unfold EA
 rw[g1,A9,ADW (g2.ok v).1 n0 n1]
 exact⟨b,_,m,h1,k1,rfl,g2,g3⟩
theorem AKY {N:Int} {h:Hs} (v:HV N h) (hN:N<=4294967000) {a1 a2:Int} (r0:0<=a1) (r1:a1<=15) (d0:0<=a2) (d1:a2<=32):
  ∃ b m hx kx,RD (AGF h (1+a1+a2)) h b m hx kx/\m<=256/\AAK a1 a2 h=some (if (EH b.1 (1+a1+a2)).1=3 then .inr (gL b.1,0,18) else .inl ((EH b.1 (1+a1+a2)).1,b.1,(EH b.1 (1+a1+a2)).2)):=by
 have hw:AG ((AG ((1:Int)+a1))+a2)=1+a1+a2:=by rw[AD (e:=1+a1) (by omega) (by omega),AD (by omega) (by omega)]
 have AYW:∀ {M:Int} {h1:Hs},HV M h1->BU h1.1 h1.2.1 h1.2.2.1 h1.2.2.2.1 (1+a1+a2)=some (EH h1 (1+a1+a2)):=fun v1=>AAJ v1.g v1.qq v1.hi.hb.bv.n.1 (by omega) (by omega)
 have fin:∀ (h1:Hs),(if (EH h1 (1+a1+a2)).1=3 then (some (Sum.inr ((gL h1,(0:Int),(18:Int)))):Option ((Int×Hs×AH) ⊕ (Hs×Int×Int))) else some (Sum.inl (((EH h1 (1+a1+a2)).1,h1,(EH h1 (1+a1+a2)).2))))=some (if (EH h1 (1+a1+a2)).1=3 then .inr (gL h1,0,18) else .inl ((EH h1 (1+a1+a2)).1,h1,(EH h1 (1+a1+a2)).2)):=by
  intro h1
  split <;> rfl
 unfold AAK
 rw[cO v.g,A9,hw]
 have AYX:∀ (hr:AGF h (1+a1+a2)=1+a1+a2),∃ b m hx kx,RD (AGF h (1+a1+a2)) h b m hx kx/\m<=256/\Option.bind (EA h (1+a1+a2)) (fun LZ=>
   Option.bind (BU LZ.1.1 LZ.1.2.1 LZ.1.2.2.1 LZ.1.2.2.2.1 (1+a1+a2)) (fun VL=>
   if VL.1=3 then
   some (Sum.inr ((gL LZ.1,(0:Int),(18:Int))))
   else some (Sum.inl ((VL.1,LZ.1,VL.2)))))=some (if (EH b.1 (1+a1+a2)).1=3 then .inr (gL b.1,0,18) else .inl ((EH b.1 (1+a1+a2)).1,b.1,(EH b.1 (1+a1+a2)).2)):=by
  intro hr
  obtain⟨b,c,m,hx,kx,g1,g2,g3⟩:=AW3 v hN (n:=1+a1+a2) (by omega) (by omega)
  refine⟨b,m,hx,kx,by rw[hr];exact g2,g3, ?_⟩
  rw[g1,A9]
  simp only
  rw[AYW (g2.ok v).1,A9]
  exact fin b.1
 by_cases c1:cmp h.1=true
 ·rw[AA c1]
  by_cases c2:h.2.2.2.2.2.2.1≥h.1.2.2
  ·rw[AA c2]
   obtain⟨b,m,hx,kx,g1,g2,g3⟩:=AID v hN
   refine⟨b,m,hx,kx,by unfold AGF;rw[AA ⟨c1,c2⟩];exact g2,g3, ?_⟩
   rw[g1,A9,AYW (g2.ok v).1,A9]
   exact fin b.1
  ·rw[AB c2]
   exact AYX (by unfold AGF;rw[AB (fun hh=>c2 hh.2)])
 ·rw[AB c1]
  exact AYX (by unfold AGF;rw[AB (fun hh=>c1 hh.1)])
theorem ADY {N:Int} {h:Hs} (v:HV N h) (hN:N<=4294967295) {n:Int} (hp:(EH h n).1≠3):
  D5 h.2.1 (EH h n).2/\((EH h n).2.2.2.2.2=0->owned h.2.1.2.2 (EH h n).2.1=[])∧
  ((EH h n).1=1/\(EH h n).2∈h.2.2.1.flatten\/(EH h n).1=2/\(EH h n).2=(h.2.2.2.1,0, -1, -1,0)):=by
 have hn0:=v.hi.n0
 have hn1:=v.n1
 unfold EH H7 at*
 by_cases c1:opn h.1 h.2.1 h.2.2.1
 ·rw[AA c1] at hp ⊢
  by_cases c2:qM (cmp h.1) h.2.1 h.2.2.1 (qN h.2.2.1) n
  ·rw[AA c2]
   have hl:=l8.2 c1.1
   have hb:=v.hi.hb.bv.n
   have hy:qN h.2.2.1∈h.2.2.1.flatten:=I2.2 ⟨0,by omega,BR (by omega)⟩
   have hf:=v.hi.hb.fit hy
   exact⟨hf.1,fun hw=>by simp only at hw;omega,.inl ⟨rfl,hy⟩⟩
  ·rw[AB c2] at hp;exact absurd rfl hp
 ·rw[AB c1] at hp ⊢
  by_cases c2:(ru h.1 0).2.1≠0/\(ru h.1 0).2.1<=(gl [] h.2.2.1 0).length
  ·rw[AA c2] at hp;exact absurd rfl hp
  rw[AB c2] at hp ⊢
  by_cases c3:qM (cmp h.1) h.2.1 h.2.2.1 (h.2.2.2.1,0, -1, -1,0) n
  ·rw[AA c3]
   refine⟨AYR _ hn0 (by omega) (by omega) (by omega),fun _=> ?_,.inr ⟨rfl,rfl⟩⟩
   refine List.eq_nil_iff_forall_not_mem.2 fun x hx=> ?_
   obtain⟨⟨x0,x1⟩,hxo⟩:=B0.1 hx
   simp only at hxo
   have:=v.hi.hb.bv.cov x x0 x1 (by rw[hxo];omega)
   obtain⟨i,hi,he⟩:=C0.1 this
   have:=v.hi.seq i hi
   omega
  ·rw[AB c3] at hp;exact absurd rfl hp
def Ald (h:Hs) (i:AH) (r d:Int) (h' :Hs) (a:Int):Prop:=
 ∃ u j l l' os q' n',Al h.2.1 h.2.2.1 h.2.2.2.1 i r d u j a l l' os q' n' /\h' =(h.1,u,q',n',h.2.2.2.2.1,h.2.2.2.2.2.1,h.2.2.2.2.2.2.1,(AG (h.2.2.2.2.2.2.2.1.1+(1+r+d)),AG (h.2.2.2.2.2.2.2.1.2.1+1),h.2.2.2.2.2.2.2.1.2.2),h.2.2.2.2.2.2.2.2)
theorem AP5 {N:Int} {h:Hs} (v:HV N h) (hN:N<=4294967290) {a1 a2:Int} (r0:0<=a1) (r1:a1<=15) (d0:0<=a2) (d1:a2<=32) (hp:(EH h (1+a1+a2)).1≠3):
  (((DA h.2.1.2.2).length:Int)<SM h.2.1 (EH h (1+a1+a2)).2 (1+a1+a2)/\xT a1 a2 ((EH h (1+a1+a2)).1,h,(EH h (1+a1+a2)).2)=some (gL h,0,18))∨
  ∃ h' a,xT a1 a2 ((EH h (1+a1+a2)).1,h,(EH h (1+a1+a2)).2)=some (h',a,0)/\Ald h (EH h (1+a1+a2)).2 a1 a2 h' a:=by
 have hw:AG ((AG ((1:Int)+a1))+a2)=1+a1+a2:=by rw[AD (e:=1+a1) (by omega) (by omega),AD (by omega) (by omega)]
 obtain⟨hf,CO,hk⟩:=ADY v (by omega) hp
 generalize hI:(EH h (1+a1+a2)).2=i at*
 generalize hK:(EH h (1+a1+a2)).1=kd at*
 obtain⟨l1,l2,l3⟩:=v.hi.hb.lens
 have hn0:=v.hi.n0
 have hn1:=v.n1
 have hqn:=v.hi.hb.bv.n
 unfold xT
 simp only[hw]
 rcases z6 v.vs hf CO (n:=1+a1+a2) (by omega) (by omega) with ⟨g1,g2⟩|⟨g1,t,j,a,l,l',g2,g3⟩
 ·left
  rw[g2,A9]
  exact⟨g1,rfl⟩
 ·right
  rw[g2,A9]
  simp only
  rw[AB (I4 trivial)]
  obtain⟨u,m1,m2,m3⟩:=AR9 v.vs r0 r1 d0 d1 hf g3
  have e1:((h.2.1.1,t.2.1,t.2.2):Sp)=t:=by rw[<-g3.sh]
  rw[e1,m1,A9]
  have e2:((h.2.1.1,u.2.1,u.2.2):Sp)=u:=by rw[<-m3.sh]
  simp only
  rw[e2]
  have AYY:∃ os,DM (sz h.2.1.1) h.2.1.2.1 l 0 os i.2.2.2.2:=by
   rcases hk with ⟨_,hm⟩|⟨_,rfl⟩
   ·obtain⟨os,l2,f1,f2⟩:=v.hi.hb.full i hm
    rw[RX f1 g3.has] at f2
    exact⟨os,f2⟩
   ·exact⟨[],rfl⟩
  obtain⟨os,AAD⟩:=AYY
  have AGC:=g3.seq
  have tS:=g3.fS
  rcases hk with ⟨rfl,hm⟩|⟨rfl,hi⟩
  ·rw[AB (by decide),tR (by omega) (fun x hx=>by have:=l3 x hx;omega) (E_.1 v.hi.hb.bv.ok).1 hm AGC.symm tS.symm,A9]
   exact⟨_,_,rfl,u,j,l,l',os,_,_,⟨v.hi.hb,v.hi.seq,v.hi.n0,⟨⟨r0,r1⟩,d0,d1⟩,hf,m3,g3.has,AAD,.inl ⟨hm,rfl,rfl⟩⟩,rfl⟩
  ·have hi1:i.1=h.2.2.2.1:=by rw[hi]
   have hi2:i.2.1=0:=by rw[hi]
   have hi3:i.2.2.2.2=0:=by rw[hi]
   rw[AA rfl,AOT (by omega) (fun x hx=>by have:=l3 x hx;omega) (by omega) (by omega) (fun p hp=>by have:=v.hi.seq p hp;omega),A9,AD (e:=h.2.2.2.1+1) (by omega) (by omega)]
   exact⟨_,_,rfl,u,j,l,l',os,_,_,⟨v.hi.hb,v.hi.seq,v.hi.n0,⟨⟨r0,r1⟩,d0,d1⟩,hf,m3,g3.has,AAD,.inr ⟨hi1,hi3,by omega,rfl,rfl⟩⟩,rfl⟩
theorem Ald.ok {N:Int} {h:Hs} (v:HV N h) {i:AH} {r d:Int} {h' :Hs} {a:Int} (al:Ald h i r d h' a):HV (N+1) h' /\IsO h'.2.1 h'.2.2.1 a/\h'.1=h.1/\h'.2.2.2.2.2.2.2.2=h.2.2.2.2.2.2.2.2/\h'.2.1.1=h.2.1.1/\h'.2.1.2.2.length=h.2.1.2.2.length/\h'.2.2.2.2.2.1=h.2.2.2.2.2.1:=by
 obtain⟨u,j,l,l',os,q',n',h1,rfl⟩:=al
 obtain⟨g1,g2,g3,g4⟩:=h1.done v.hi
 have:=v.n1
 exact⟨⟨v.g,g1,by simp only;rw[g4];exact v.ql,by simp only;omega⟩,g2,rfl,rfl,h1.ad.sh,h1.ad.grown.len,rfl⟩
def AlR (h:Hs) (r d:Int) (h' :Hs) (a e:Int):Prop:=
 ∃ h1,Gcd h (1+r+d) h1/\((e=18/\h' =gL h1/\a=0/\((EH h1 (1+r+d)).1=3\/((DA h1.2.1.2.2).length:Int)<SM h1.2.1 (EH h1 (1+r+d)).2 (1+r+d)))\/(e=0/\(EH h1 (1+r+d)).1≠3/\Ald h1 (EH h1 (1+r+d)).2 r d h' a))
theorem AKZ {N:Int} {h:Hs} (v:HV N h) (hN:N<=4294966000) (hd:h.2.2.2.2.2.2.2.2=false) {r d:Int} (r0:0<=r) (r1:r<=15) (d0:0<=d) (d1:d<=32):∃ h' a e,IK h r d=some (h',a,e)/\AlR h r d h' a e:=by
 have hw:AG ((AG ((1:Int)+r))+d)=1+r+d:=by rw[AD (e:=1+r) (by omega) (by omega),AD (by omega) (by omega)]
 have tail:∀ {h1:Hs},Gcd h (1+r+d) h1->(EH h1 (1+r+d)).1≠3->∃ h' a e,xT r d ((EH h1 (1+r+d)).1,h1,(EH h1 (1+r+d)).2)=some (h',a,e)/\AlR h r d h' a e:=by
  intro h1 g hp
  rcases AP5 (g.ok v).1 (by omega) r0 r1 d0 d1 hp with ⟨g1,g2⟩|⟨h',a,g1,g2⟩
  ·exact⟨_,_,_,g2,h1,g,.inl ⟨rfl,rfl,rfl,.inr g1⟩⟩
  ·exact⟨_,_,_,g1,h1,g,.inr ⟨rfl,hp,g2⟩⟩
 rw[AP3,hd,AB (by decide),qE r0 r1 d0 d1,A9,AB (I4 rfl),v.copy,A9,hw,AAJ v.g v.qq v.hi.hb.bv.n.1 (n:=h.2.2.2.1) (k:=1+r+d) (by omega) (by omega),A9]
 by_cases c1:(H7 h.1 h.2.1 h.2.2.1 h.2.2.2.1 (1+r+d)).1=3
 ·rw[AA c1,cO v.g,A9]
  have key:∀ X:Option ((Int×Hs×AH) ⊕ (Hs×Int×Int)),X=AAK r d (AKX h)->∃ h' a e,(Option.bind X fun q=>match q with
    |Sum.inl j1=>xT r d j1
    |Sum.inr b2=>some b2)=some (h',a,e)/\AlR h r d h' a e:=by
   rintro X rfl
   obtain⟨b,m,hx,kx,g1,g2,g3⟩:=AKY v.col (by omega) r0 r1 d0 d1
   have hg:Gcd h (1+r+d) b.1:= .inr ⟨c1,b,m,hx,kx,g1,g2,rfl⟩
   rw[g3,A9]
   by_cases c2:(EH b.1 (1+r+d)).1=3
   ·rw[AA c2]
    exact⟨_,_,_,rfl,b.1,hg,.inl ⟨rfl,rfl,rfl,.inl c2⟩⟩
   ·rw[AB c2]
    exact tail hg c2
  refine key _ ?_
  unfold AKX
  by_cases c3:cmp h.1=true
  ·rw[AA c3,AA c3];rfl
  ·rw[AB c3,AB c3];rfl
 ·rw[AB c1,A9]
  exact tail (.inl ⟨c1,rfl⟩) c1
end Go.Proofs.YthmiilamegpllaaGreat
namespace Go.Proofs.YthmiilamegpllaaGreat
open Go Go.V3
theorem HI.take {s:Sp} {q:Rows} {n:Int} {ss:Ss} {r:Ro} (h:HI s q n ss r) {i:Nat} (hi:i<32) {w:BitVec 64} (hw:w≠0#64) (ho:IsO s q ((w.toNat:Int)-1)):HI s q n ss (r.1.set i true,r.2.set i w):=by
 have h1:=h.ro.ul
 have h2:=h.ro.rl
 refine { h with ro:=h.ro.set i w,root:=fun k hk hu=> ?_ }
 simp only at hu ⊢
 rw[D0 (by omega)] at hu ⊢
 split
 ·exact⟨hw,ho⟩
 ·rename_i hn
  rw[AB hn] at hu
  exact h.root k hk hu
theorem HI.drop {s:Sp} {q:Rows} {n:Int} {ss:Ss} {r:Ro} (h:HI s q n ss r) {i:Nat} (hi:i<32):HI s q n ss (r.1.set i false,r.2.set i 0#64):=by
 have h1:=h.ro.ul
 have h2:=h.ro.rl
 refine { h with ro:=h.ro.clear hi,root:=fun k hk hu=> ?_ }
 simp only at hu ⊢
 rw[D0 (by omega)] at hu ⊢
 split at hu
 ·cases hu
 ·rename_i hn
  rw[AB hn]
  exact h.root k hk hu
structure Fd (s:Sp) (q:Rows) (i:AH) (l:List Int) (os:List (Int×Int)) (p a:Int) (x:Int×Int) (k y:Int):Prop where
 hb:HB s q
 hi:i∈q.flatten
 o:OB s i l os p a x
 k0:1<=k
 k1:k<=x.1+x.2
 hy:DB (sz s.1) l (p+k)=some y
abbrev X6 (s:Sp) (y:Int) (v:BitVec 64):Sp:=(s.1,s.2.1.set y.toNat v,s.2.2)
section
variable {s:Sp} {q:Rows} {i:AH} {l:List Int} {os:List (Int×Int)} {p a:Int} {x:Int×Int} {k y:Int}
theorem Fd.IP (h:Fd s q i l os p a x k y):(0<=y/\y<s.2.1.length)/\(fr s.2.2 (y / sz s.1)).1=i.1:=by
 have hr:=DD h.hb.bv.vs (h.hb.fit h.hi).1 h.o.has (by have:=h.o.HJ;have:=h.k0;omega) h.hy
 exact⟨hr.1,hr.2.2.2.1⟩
theorem Fd.head (h:Fd s q i l os p a x k y) {i' :AH} (J_ :i' ∈q.flatten) {l' :List Int} {oU :List (Int×Int)} {p' b:Int} {x' :Int×Int} (o' :OB s i' l' oU p' b x'):b≠y:=by
 rintro rfl
 have r1:=h.o.HJ
 have r2:=o'.HJ
 have k0:=h.k0
 have k1:=h.k1
 have c1:=h.IP.2
 have c2:=DD h.hb.bv.vs (h.hb.fit J_).1 o'.has r2.2.2.1 o'.IP
 obtain rfl:=h.hb.uniq J_ h.hi (by rw[<-c2.2.2.2.1,←c1])
 obtain⟨rfl,rfl⟩:=JX o'.has o'.RK h.o
 have:=JW (CA s.1) (cL o'.has) r2.2.2.1 (by omega) o'.IP h.hy
 rcases o'.RK.apart o'.ta h.o.ta with ⟨h3,_⟩|h3|h3 <;> omega
theorem Fd.one (h:Fd s q i l os p a x k y) {i' :AH} (J_ :i' ∈q.flatten) {l' :List Int} {oU :List (Int×Int)} {p' b:Int} {x' :Int×Int} (o' :OB s i' l' oU p' b x') {j:Int} (j0:0<=j) (j1:j<=x'.1+x'.2) (hj:DB (sz s.1) l' (p' +j)=some y):i' =i/\b=a/\x' =x/\j=k/\p' =p:=by
 have r1:=h.o.HJ
 have r2:=o'.HJ
 have k0:=h.k0
 have k1:=h.k1
 have c1:=h.IP.2
 have c2:=DD h.hb.bv.vs (h.hb.fit J_).1 o'.has (by omega) hj
 obtain rfl:=h.hb.uniq J_ h.hi (by rw[<-c2.2.2.2.1,←c1])
 obtain⟨rfl,rfl⟩:=JX o'.has o'.RK h.o
 have:=JW (CA s.1) (cL o'.has) (by omega) (by omega) hj h.hy
 rcases o'.RK.apart o'.ta h.o.ta with ⟨rfl,rfl⟩|h3|h3
 ·have e:=o'.IP
  rw[h.o.IP] at e
  exact⟨rfl,(VM e).symm,rfl,by omega,rfl⟩
 ·omega
 ·omega
theorem Fd.vs (h:Fd s q i l os p a x k y) (v:BitVec 64):VS (X6 s y v):=
 h.hb.bv.vs.word h.IP.1.1 (by rw[h.IP.2];have:=(h.hb.fit h.hi).1.1;omega) v
theorem Fd.wd (h:Fd s q i l os p a x k y) (v:BitVec 64) {z:Int} (z0:0<=z):gl 0#64 (X6 s y v).2.1 z.toNat=if z=y then v else gl 0#64 s.2.1 z.toNat:=by
 have hr:=h.IP.1
 unfold X6
 simp only
 rw[D0 (by omega)]
 by_cases hz:z=y
 ·rw[AA hz,AA (by rw[hz])]
 ·rw[AB hz,AB (by omega)]
theorem Fd.ob (h:Fd s q i l os p a x k y) (v:BitVec 64) {i' :AH} (J_ :i' ∈q.flatten) {l' :List Int} {oU :List (Int×Int)} {p' b:Int} {x' :Int×Int}:OB (X6 s y v) i' l' oU p' b x' ↔OB s i' l' oU p' b x' :=by
 obtain⟨o1,l1,g1,g2⟩:=h.hb.full i' J_
 have hv:=h.hb.bv.vs
 have hf:=(h.hb.fit J_).1
 have ht:DM (sz s.1) (X6 s y v).2.1 l1 0 o1 i'.2.2.2.2:=g2.xN fun p' x' b hp hb=>⟨hb,by
  have o' :OB s i' l1 o1 p' b x' :=⟨g1,g2,hp,hb⟩
  have hr:=DD hv hf g1 o'.HJ.2.2.1 hb
  rw[h.wd v hr.1.1,AB (h.head J_ o')]⟩
 constructor
 ·intro o'
  obtain⟨rfl,rfl⟩:=JX (s:=X6 s y v) g1 ht o'
  exact⟨g1,g2,o'.ta,o'.IP⟩
 ·intro o'
  obtain⟨rfl,rfl⟩:=JX g1 g2 o'
  exact⟨g1,ht,o'.ta,o'.IP⟩
theorem Fd.RZ (h:Fd s q i l os p a x k y) (v:BitVec 64):HB (X6 s y v) q:=by
 have RL:=E_.1 h.hb.bv.ok
 refine⟨⟨h.vs v,h.hb.bv.n,E_.2 ⟨RL.1,fun p hp=>D5.words (by simp) (RL.2 p hp)⟩,h.hb.bv.cov⟩,fun i' J_ => ?_⟩
 obtain⟨o1,l1,g1,g2⟩:=h.hb.full i' J_
 refine⟨o1,l1,g1,g2.xN fun p' x' b hp hb=>⟨hb, ?_⟩⟩
 have o' :OB s i' l1 o1 p' b x' :=⟨g1,g2,hp,hb⟩
 have hr:=DD h.hb.bv.vs (h.hb.fit J_).1 g1 o'.HJ.2.2.1 hb
 rw[h.wd v hr.1.1,AB (h.head J_ o')]
theorem Fd.slot (h:Fd s q i l os p a x k y) (v:BitVec 64) {z:Int}:Slot (X6 s y v) q z↔Slot s q z:=by
 constructor
 ·rintro⟨i',J_,l',oU,p',b,x',j,o',j1,j2,ha⟩
  exact⟨i',J_,l',oU,p',b,x',j,(h.ob v J_).1 o',j1,j2,ha⟩
 ·rintro⟨i',J_,l',oU,p',b,x',j,o',j1,j2,ha⟩
  exact⟨i',J_,l',oU,p',b,x',j,(h.ob v J_).2 o',j1,j2,ha⟩
theorem Fd.iso (h:Fd s q i l os p a x k y) (v:BitVec 64) {b:Int}:IsO (X6 s y v) q b↔IsO s q b:=by
 constructor
 ·rintro⟨i',J_,p',x',l',oU,o'⟩
  exact⟨i',J_,p',x',l',oU,(h.ob v J_).1 o'⟩
 ·rintro⟨i',J_,p',x',l',oU,o'⟩
  exact⟨i',J_,p',x',l',oU,(h.ob v J_).2 o'⟩
theorem Fd.pr (h:Fd s q i l os p a x k y) (v:BitVec 64) {z:Int} {w:BitVec 64} {f g:Int}:Pr (X6 s y v) z w f g↔Pr s z w f g:=by
 unfold Pr X6
 simp only[ER]
theorem Fd.data (h:Fd s q i l os p a x k y) (v:BitVec 64) (hk:x.1<k) {n:Int} {ss:Ss} {r:Ro} (hi:HI s q n ss r):HI (X6 s y v) q n ss r:=by
 have CJ:∀ z,Slot s q z->z≠y:=by
  rintro z ⟨i',J_,l',oU,p',b,x',j,o',j1,j2,ha⟩ rfl
  obtain⟨_,_,rfl,rfl,_⟩:=h.one J_ o' (by omega) (by have:=o'.HJ;omega) ha
  omega
 have hw:∀ z,Slot s q z->gl 0#64 (X6 s y v).2.1 z.toNat=gl 0#64 s.2.1 z.toNat:=by
  intro z hz
  have h1:=CJ z hz
  obtain⟨i',J_,l',oU,p',b,x',j,o',j1,j2,ha⟩:=hz
  have hr:=DD hi.hb.bv.vs (hi.hb.fit J_).1 o'.has (by have:=o'.HJ;omega) ha
  rw[h.wd v hr.1.1,AB h1]
 refine { hb:=h.RZ v,seq:=hi.seq,n0:=hi.n0,ref:=fun z hz=> ?_,ro:=hi.ro,root:=fun k hk hu=>⟨(hi.root k hk hu).1,(h.iso v).2 (hi.root k hk hu).2⟩,rv:=hi.rv,ins:=fun f g z hz=>⟨(h.slot v).2 (hi.ins f g z hz).1,(hi.ins f g z hz).2⟩,rem:=fun z hz f g hp=> ?_ }
 ·have hz' :=(h.slot v).1 hz
  rw[hw z hz']
  rcases hi.ref z hz' with h1|h1
  ·exact .inl h1
  ·exact .inr ((h.iso v).2 h1)
 ·have hz' :=(h.slot v).1 hz
  rw[hw z hz'] at hp
  exact hi.rem z hz' f g ((h.pr v).1 hp)
theorem Fd.ref (h:Fd s q i l os p a x k y) {v:BitVec 64} (hk:k<=x.1) (hv:Rf s q v) {n:Int} {ss:Ss} {r:Ro} (hi:HI s q n ss r) {T4 :Ss} (hr:RV T4) (hs:∀ f g y',In T4 f g y' ↔In ss f g y' \/(y' =y/\Pr (X6 s y v) y v f g)):HI (X6 s y v) q n T4 r:=by
 have O4:Slot s q y:=⟨i,h.hi,l,os,p,a,x,k,h.o,h.k0,hk,h.hy⟩
 have hrf:∀ w,Rf s q w->Rf (X6 s y v) q w:=by
  rintro w (h1|h1)
  ·exact .inl h1
  ·exact .inr ((h.iso v).2 h1)
 have hw:∀ z,Slot s q z->gl 0#64 (X6 s y v).2.1 z.toNat=if z=y then v else gl 0#64 s.2.1 z.toNat:=by
  intro z hz
  obtain⟨i',J_,l',oU,p',b,x',j,o',j1,j2,ha⟩:=hz
  have hr:=DD hi.hb.bv.vs (hi.hb.fit J_).1 o'.has (by have:=o'.HJ;omega) ha
  exact h.wd v hr.1.1
 refine { hb:=h.RZ v,seq:=hi.seq,n0:=hi.n0,ref:=fun z hz=> ?_,ro:=hi.ro,root:=fun k hk hu=>⟨(hi.root k hk hu).1,(h.iso v).2 (hi.root k hk hu).2⟩,rv:=hr,ins:=fun f g z hz=> ?_,rem:=fun z hz f g hp=> ?_ }
 ·have hz' :=(h.slot v).1 hz
  rw[hw z hz']
  split
  ·exact hrf v hv
  ·exact hrf _ (hi.ref z hz')
 ·rcases (hs f g z).1 hz with h1|⟨rfl,h1⟩
  ·exact⟨(h.slot v).2 (hi.ins f g z h1).1,(hi.ins f g z h1).2⟩
  ·exact⟨(h.slot v).2 O4,h1.2.2.1⟩
 ·have hz' :=(h.slot v).1 hz
  rw[hw z hz'] at hp
  by_cases he:z=y
  ·subst he
   rw[AA rfl] at hp
   exact (hs f g z).2 (.inr ⟨rfl,hp⟩)
  ·rw[AB he] at hp
   exact (hs f g z).2 (.inl (hi.rem z hz' f g ((h.pr v).1 hp)))
end
end Go.Proofs.YthmiilamegpllaaGreat
namespace Go.Proofs.YthmiilamegpllaaGreat
open Go Go.V3
abbrev Op:Type:=Int×Int×Int×Int
abbrev An:Type:=Int×BitVec 64
def N1 (u:List Bool) (x:Int) (need:Bool):Int:=if x=0 then (if need=true then 16 else 0) else if x<0\/32<x\/gl false u (x-1).toNat=false then 14 else 0
def vG (r:Ro) (x:Int):BitVec 64:=if x=0 then 0#64 else gl 0#64 r.2 (x-1).toNat
theorem dP {h:Hs} (hr:X2 h.2.2.2.2.2.1) (x:Int) (need:Bool):CQ h x need=some (N1 h.2.2.2.2.2.1.1 x need):=by
 have h1:=hr.ul
 unfold CQ N1
 by_cases c0:x=0
 ·simp only[AA c0]
  cases need <;> rfl
 simp only[AB c0]
 by_cases c1:x<0
 ·rw[AA c1,AA (.inl c1)]
 by_cases c2:x>32
 ·rw[AB c1,AA c2,AA (.inr (.inl c2))]
 rw[AB c1,AB c2,AD (e:=x-1) (by omega) (by omega),AA (by omega)]
 cases hu:gl false h.2.2.2.2.2.1.1 (x-1).toNat with
 |true=>rw[AB (by decide),AB (fun hh=>by rcases hh with hh|hh|hh;omega;omega;cases hh)]
 |false=>rw[AA (by decide),AA (.inr (.inr rfl))]
theorem cP {u:List Bool} {x:Int} (h:N1 u x true=0):1<=x/\x<=32/\gl false u (x-1).toNat=true:=by
 unfold N1 at h
 by_cases c0:x=0
 ·rw[AA c0,AA rfl] at h;omega
 rw[AB c0] at h
 by_cases c1:x<0\/32<x\/gl false u (x-1).toNat=false
 ·rw[AA c1] at h;omega
 refine⟨by omega,by omega, ?_⟩
 cases hu:gl false u (x-1).toNat with
 |true=>rfl
 |false=>exact absurd (.inr (.inr hu)) c1
theorem AIE {u:List Bool} {x:Int} (h:N1 u x false=0):x=0\/(1<=x/\x<=32/\gl false u (x-1).toNat=true):=by
 by_cases c0:x=0
 ·exact .inl c0
 ·refine .inr (cP ?_)
  unfold N1 at h ⊢
  rw[AB c0] at h ⊢
  exact h
theorem X7 {h:Hs} (hr:X2 h.2.2.2.2.2.1) {x:Int} (x0:0<=x) (x1:x<=32):BE h x=some (vG h.2.2.2.2.2.1 x):=by
 have h1:=hr.rl
 unfold BE vG
 by_cases c0:x=0
 ·rw[AA c0,AA c0]
 ·rw[AB c0,AB c0,AD (e:=x-1) (by omega) (by omega),AA (by omega)]
theorem ADZ {r:Ro} (h:X2 r) (w:BitVec 64):
  (∃ i:Nat,i<32/\gl false r.1 i=false/\(∀ j:Nat,j<i->gl false r.1 j=true)/\C_ r w=some ((r.1.set i true,r.2.set i w),(i:Int)+1,0))\/((∀ i:Nat,i<32->gl false r.1 i=true)/\C_ r w=some (([],[]),0,15)):=by
 have h1:=h.ul
 have h2:=h.rl
 unfold C_
 rw[h.valid,A9,AB (by simp),h.copy]
 refine (AR (fun k (st:Int)=>st=(k:Int)/\∀ j:Nat,j<k->gl false r.1 j=true) (fun b=>(∃ i:Nat,i<32/\gl false r.1 i=false/\(∀ j:Nat,j<i->gl false r.1 j=true)/\b=((r.1.set i true,r.2.set i w),(i:Int)+1,(0:Int)))\/((∀ i:Nat,i<32->gl false r.1 i=true)/\b=(([],[]),(0:Int),(15:Int)))) r.1.length ?_ ?_ (s:=0) ⟨rfl,fun j hj=>by omega⟩).elim fun b hb=>by
  rcases hb.2 with ⟨i,a1,a2,a3,a4⟩|⟨a1,a2⟩
  ·exact .inl ⟨i,a1,a2,a3,by rw[hb.1,a4]⟩
  ·exact .inr ⟨a1,by rw[hb.1,a2]⟩
 ·rintro k st hk ⟨rfl,hj⟩
  rw[AA (by omega),AA (by omega)]
  simp only[I3]
  cases hu:gl false r.1 k with
  |true=>
   rw[AB (by simp),AD (by omega) (by omega)]
   refine .inl ⟨_,rfl,rfl,fun j YQ => ?_⟩
   by_cases gC:j=k
   ·rw[gC];exact hu
   ·exact hj j (by omega)
  |false=>
   rw[AA (by simp),A9,AA (by omega),AA (by omega),AD (by omega) (by omega)]
   exact .inr ⟨_,rfl,.inl ⟨k,by omega,hu,hj,rfl⟩⟩
 ·rintro st ⟨rfl,hj⟩
  rw[AB (by omega)]
  exact⟨_,rfl,.inr ⟨fun i hi=>hj i (by omega),rfl⟩⟩
def SN (u:List Bool):Prop:=∀ i:Nat,i<32->gl false u i=true
instance (u:List Bool):Decidable (SN u):=by unfold SN;infer_instance
theorem AE0 (u:List Bool):∀ k:Nat,(xI u k).length=k↔∀ i:Nat,i<k->gl false u i=true
 |0=>⟨fun _ i hi=>by omega,fun _=>rfl⟩
 |k+1=>by
  have hl:=lR u k
  have ih:=AE0 u k
  rw[xI,I5]
  by_cases hu:gl false u k=true
  ·rw[AA hu,HW]
   constructor
   ·intro h i hi
    by_cases c_:i=k
    ·rw[c_];exact hu
    ·exact ih.1 (by omega) i (by omega)
   ·intro h
    rw[ih.2 fun i hi=>h i (by omega)]
  ·rw[AB hu,U7]
   constructor
   ·intro h;omega
   ·intro h;exact absurd (h k (by omega)) hu
theorem xU {h:Hs} (hr:X2 h.2.2.2.2.2.1):EO h=some (decide (SN h.2.2.2.2.2.1.1)):=by
 unfold EO
 rw[nJ hr,A9]
 have:=AE0 h.2.2.2.2.2.1.1 32
 by_cases hf:SN h.2.2.2.2.2.1.1
 ·rw[HX hf,HX (show ((xI h.2.2.2.2.2.1.1 32).length:Int)=32 by have:=this.2 hf;omega)]
 ·rw[MV hf,MV (show ¬((xI h.2.2.2.2.2.1.1 32).length:Int)=32 from fun hh=>hf (this.1 (by omega)))]
abbrev ATL (h:Hs) (r:Ro):Hs:=(h.1,h.2.1,h.2.2.1,h.2.2.2.1,h.2.2.2.2.1,r,h.2.2.2.2.2.2)
def AP6 (h:Hs) (w:BitVec 64) (h' :Hs) (v:BitVec 64):Prop:=
 ∃ i:Nat,i<32/\gl false h.2.2.2.2.2.1.1 i=false/\(∀ j:Nat,j<i->gl false h.2.2.2.2.2.1.1 j=true)/\h' =ATL h (h.2.2.2.2.2.1.1.set i true,h.2.2.2.2.2.1.2.set i w)/\v=BitVec.ofInt 64 ((i:Int)+1)
theorem AP6.hv {N:Int} {h:Hs} (v:HV N h) {w:BitVec 64} {h' :Hs} {x:BitVec 64} (t:AP6 h w h' x) (hw:w≠0#64) (ho:IsO h.2.1 h.2.2.1 ((w.toNat:Int)-1)):HV N h' :=by
 obtain⟨i,h1,h2,_,rfl,_⟩:=t
 exact⟨v.g,v.hi.take h1 hw ho,v.ql,v.n1⟩
theorem AIF {h:Hs} (hr:X2 h.2.2.2.2.2.1) (hf:¬SN h.2.2.2.2.2.1.1) (w:BitVec 64):∃ h' v,Option.bind (C_ h.2.2.2.2.2.1 w) (fun r7=>
  Option.bind (A7 (h.1,h.2.1,h.2.2.1,h.2.2.2.1,h.2.2.2.2.1,r7.1,h.2.2.2.2.2.2) (BitVec.ofInt 64 r7.2.1)) (fun r8=>
  some ((r8.1,r8.2))))=some (h',(0,v))/\AP6 h w h' v:=by
 rcases ADZ hr w with ⟨i,h1,h2,h3,h4⟩|⟨h1,_⟩
 ·rw[h4]
  exact⟨_,_,rfl,i,h1,h2,h3,rfl,rfl⟩
 ·exact absurd h1 hf
theorem OB.AW4 {s:Sp} (hv:VS s) {i:AH} (hf:D5 s i) {l:List Int} {os:List (Int×Int)} {p a:Int} {x:Int×Int} (h:OB s i l os p a x) (k:Int) (b:Bool):
  (¬(0<=k/\k<(if b=true then x.1 else x.2))/\B_ s a k b=some (0,17))\/((0<=k/\k<(if b=true then x.1 else x.2))/\∃ y,DB (sz s.1) l (p+(if b=true then 1+k else 1+x.1+k))=some y/\B_ s a k b=some (y,0)):=by
 obtain⟨⟨⟨r0,r1⟩,d0,d1⟩,h2,h3,h4⟩:=h.HJ
 unfold B_
 rw[h.look hv hf,A9,AB (show ¬¬(((x.1,x.2,(0:Int)):Int×Int×Int).2.2=0) from I4 rfl)]
 cases b with
 |true=>
  simp only[GA]
  by_cases k0:k<0
  ·rw[AA k0];exact .inl ⟨by omega,rfl⟩
  rw[AB k0]
  by_cases k1:k≥x.1
  ·rw[AA k1];exact .inl ⟨by omega,rfl⟩
  rw[AB k1,AD (by omega) (by omega)]
  obtain⟨y,hy⟩:=h.z8 hv hf (k:=1+k) (by omega) (by omega)
  rw[h.go hv hf (by omega) (by omega),hy]
  exact .inr ⟨by omega,y,rfl,rfl⟩
 |false=>
  simp only[T8,I9]
  by_cases k0:k<0
  ·rw[AA k0];exact .inl ⟨by omega,rfl⟩
  rw[AB k0]
  by_cases k1:k≥x.2
  ·rw[AA k1];exact .inl ⟨by omega,rfl⟩
  rw[AB k1,AD (e:=1+x.1) (by omega) (by omega),AD (e:=1+x.1+k) (by omega) (by omega)]
  obtain⟨y,hy⟩:=h.z8 hv hf (k:=1+x.1+k) (by omega) (by omega)
  rw[h.go hv hf (by omega) (by omega),hy]
  exact .inr ⟨by omega,y,rfl,rfl⟩
theorem HV.root {N:Int} {h:Hs} (v:HV N h) {x:Int} (hx:N1 h.2.2.2.2.2.1.1 x true=0):∃ i∈h.2.2.1.flatten,∃ l os p a y,OB h.2.1 i l os p a y/\(vG h.2.2.2.2.2.1 x).toNat=a+1/\AG (AG ((vG h.2.2.2.2.2.1 x).toNat:Int)-1)=a/\0<=a:=by
 obtain⟨x0,x1,hu⟩:=cP hx
 obtain⟨h1,i,hi,p,y,l,os,o⟩:=v.hi.root (x-1).toNat (by omega) hu
 have hw:vG h.2.2.2.2.2.1 x=gl 0#64 h.2.2.2.2.2.1.2 (x-1).toNat:=by unfold vG;rw[AB (by omega)]
 rw[<-hw] at h1 o
 have hr:=DD v.vs (v.hi.hb.fit hi).1 o.has o.HJ.2.2.1 o.IP
 have oB:=VS.O2 v.vs
 have h2:=(LY h1).2
 refine⟨i,hi,l,os,p,_,y,o,by omega, ?_,by omega⟩
 rw[AD (e:=((vG h.2.2.2.2.2.1 x).toNat:Int)) (by omega) (by omega),AD (by omega) (by omega)]
theorem AAL {N:Int} {h:Hs} (v:HV N h) {x:Int} (hx:N1 h.2.2.2.2.2.1.1 x false=0):Rf h.2.1 h.2.2.1 (vG h.2.2.2.2.2.1 x)/\0<=x/\x<=32:=by
 rcases AIE hx with rfl|⟨x0,x1,hu⟩
 ·exact⟨.inl rfl,by omega,by omega⟩
 ·have hw:vG h.2.2.2.2.2.1 x=gl 0#64 h.2.2.2.2.2.1.2 (x-1).toNat:=by unfold vG;rw[AB (by omega)]
  rw[hw]
  exact⟨.inr (v.hi.root (x-1).toNat (by omega) hu).2,by omega,by omega⟩
noncomputable def ATM (h:Hs) (o:Op) (qB:Int×Int):Option (Hs×An):=
 if ¬qB.2=0 then
 Option.bind (A6 h qB.2) (fun r22=>
 some ((r22.1,r22.2)))
 else if 0<=qB.1/\qB.1<(h.2.1.2.1.length:Int) then
 if o.1=4 then
 Option.bind (A7 h (gl (0#64:(BitVec 64)) h.2.1.2.1 qB.1.toNat)) (fun XQ=>
 some ((XQ.1,XQ.2)))
 else if o.1=2 then
 if (gl (0#64:(BitVec 64)) h.2.1.2.1 qB.1.toNat)=(0#64) then
 Option.bind (A7 h (0#64)) (fun r24=>
 some ((r24.1,r24.2)))
 else Option.bind (EO h) (fun r25=>
 if r25=true then
 Option.bind (A6 h 15) (fun uV=>
 some ((uV.1,uV.2)))
 else Option.bind (BL h) (fun qC=>
 Option.bind (C_ qC.2.2.2.2.2.1 (gl (0#64:(BitVec 64)) h.2.1.2.1 qB.1.toNat)) (fun r28=>
 Option.bind (A7 (qC.1,qC.2.1,qC.2.2.1,qC.2.2.2.1,qC.2.2.2.2.1,r28.1,qC.2.2.2.2.2.2) (BitVec.ofInt 64 r28.2.1)) (fun tZ=>
 some ((tZ.1,tZ.2))))))
 else if o.1=3 then
 Option.bind (CQ h o.2.2.2 false) (fun r30=>
 if ¬r30=0 then
 Option.bind (A6 h r30) (fun s7=>
 some ((s7.1,s7.2)))
 else Option.bind (BE h o.2.1) (fun r32=>
 Option.bind (BE h o.2.2.2) (fun r33=>
 Option.bind (D3 h (AG ((AG ((r32.toNat:Int)))-1)) o.2.2.1 r33) (fun r34=>
 Option.bind (A7 r34.1 (0#64)) (fun r35=>
 some ((r35.1,r35.2)))))))
 else Option.bind (BE h o.2.1) (fun r36=>
 Option.bind (DL h (AG ((AG ((r36.toNat:Int)))-1)) o.2.2.1 (BitVec.ofInt 64 o.2.2.2)) (fun r37=>
 Option.bind (A7 r37.1 (0#64)) (fun r38=>
 some ((r38.1,r38.2)))))
 else none
theorem AP7 (h:Hs) (o:Op):E9 h o=Option.bind (BE h o.2.1) (fun r1=>
  Option.bind (B_ h.2.1 (AG ((AG ((r1.toNat:Int)))-1)) o.2.2.1 (decide (o.1=2\/o.1=3))) (ATM h o)):=by
 unfold E9
 by_cases c:o.1=2
 ·rw[AA c,HX (show o.1=2\/o.1=3 from .inl c)];rfl
 ·rw[AB c]
  have:(decide (o.1=2\/o.1=3))=decide (o.1=3):=by rw[o7];omega
  rw[this];rfl
abbrev AS9 (h:Hs) (y:Int) (w:BitVec 64) (T4 :Ss):Hs:=(h.1,X6 h.2.1 y w,h.2.2.1,h.2.2.2.1,T4,h.2.2.2.2.2)
inductive FdR (h:Hs) (o:Op) (i:AH) (l:List Int) (os:List (Int×Int)) (p a:Int) (x:Int×Int):Hs->An->Prop
 |bad (hk:¬(0<=o.2.2.1/\o.2.2.1<(if o.1=2\/o.1=3 then x.1 else x.2))):FdR h o i l os p a x h (17,0#64)
 |rd (c:o.1=4) (k0:0<=o.2.2.1) (k1:o.2.2.1<x.2) (y:Int) (hy:DB (sz h.2.1.1) l (p+(1+x.1+o.2.2.1))=some y):FdR h o i l os p a x h (0,gl 0#64 h.2.1.2.1 y.toNat)
 |rr0 (c:o.1=2) (k0:0<=o.2.2.1) (k1:o.2.2.1<x.1) (y:Int) (hy:DB (sz h.2.1.1) l (p+(1+o.2.2.1))=some y) (hw:gl 0#64 h.2.1.2.1 y.toNat=0#64):FdR h o i l os p a x h (0,0#64)
 |rrf (c:o.1=2) (k0:0<=o.2.2.1) (k1:o.2.2.1<x.1) (y:Int) (hy:DB (sz h.2.1.1) l (p+(1+o.2.2.1))=some y) (hw:gl 0#64 h.2.1.2.1 y.toNat≠0#64) (hf:SN h.2.2.2.2.2.1.1):FdR h o i l os p a x h (15,0#64)
 |rr (c:o.1=2) (k0:0<=o.2.2.1) (k1:o.2.2.1<x.1) (y:Int) (hy:DB (sz h.2.1.1) l (p+(1+o.2.2.1))=some y) (hw:gl 0#64 h.2.1.2.1 y.toNat≠0#64) (hf:¬SN h.2.2.2.2.2.1.1) (h' :Hs) (v:BitVec 64) (t:AP6 h (gl 0#64 h.2.1.2.1 y.toNat) h' v):FdR h o i l os p a x h' (0,v)
 |wrh (c:o.1=3) (k0:0<=o.2.2.1) (k1:o.2.2.1<x.1) (hh:N1 h.2.2.2.2.2.1.1 o.2.2.2 false≠0):FdR h o i l os p a x h (N1 h.2.2.2.2.2.1.1 o.2.2.2 false,0#64)
 |wr (c:o.1=3) (k0:0<=o.2.2.1) (k1:o.2.2.1<x.1) (y:Int) (hy:DB (sz h.2.1.1) l (p+(1+o.2.2.1))=some y) (hh:N1 h.2.2.2.2.2.1.1 o.2.2.2 false=0) (T4 :Ss) (hr:RV T4) (hs:∀ f g y',In T4 f g y' ↔In h.2.2.2.2.1 f g y' \/(y' =y/\Pr (X6 h.2.1 y (vG h.2.2.2.2.2.1 o.2.2.2)) y (vG h.2.2.2.2.2.1 o.2.2.2) f g)):FdR h o i l os p a x (AS9 h y (vG h.2.2.2.2.2.1 o.2.2.2) T4) (0,0#64)
 |wd (c:o.1=5) (k0:0<=o.2.2.1) (k1:o.2.2.1<x.2) (y:Int) (hy:DB (sz h.2.1.1) l (p+(1+x.1+o.2.2.1))=some y):FdR h o i l os p a x (AS9 h y (BitVec.ofInt 64 o.2.2.2) h.2.2.2.2.1) (0,0#64)
theorem AP8 {N:Int} {h:Hs} (v:HV N h) (hd:h.2.2.2.2.2.2.2.2=false) {o:Op} (hc:2<=o.1/\o.1<=5) (hx:N1 h.2.2.2.2.2.1.1 o.2.1 true=0):
  ∃ i∈h.2.2.1.flatten,∃ l os p a x h' an,OB h.2.1 i l os p a x/\(vG h.2.2.2.2.2.1 o.2.1).toNat=a+1/\E9 h o=some (h',an)/\FdR h o i l os p a x h' an:=by
 obtain⟨i,hi,l,os,p,a,x,ob,hw1,hw2,a0⟩:=v.root hx
 obtain⟨x0,x1,hu⟩:=cP hx
 have hf:=(v.hi.hb.fit hi).1
 refine⟨i,hi,l,os,p,a,x, ?_⟩
 suffices hh:∃ h' an,E9 h o=some (h',an)/\FdR h o i l os p a x h' an by
  obtain⟨h',an,g1,g2⟩:=hh
  exact⟨h',an,ob,hw1,g1,g2⟩
 rw[AP7,X7 v.hi.ro (by omega) x1,A9,hw2]
 have hcd:(decide (o.1=2\/o.1=3)=true)↔(o.1=2\/o.1=3):=N2
 have hro:=ob.HJ
 have hIs:FT h a=some true:=ATF v.hi.hb ⟨i,hi,p,x,l,os,ob⟩
 rcases ob.AW4 v.vs hf o.2.2.1 (decide (o.1=2\/o.1=3)) with ⟨g1,g2⟩|⟨g1,y,g2,g3⟩
 ·rw[g2,A9]
  simp only[hcd] at g1
  exact⟨_,_,rfl,.bad g1⟩
 ·simp only[hcd] at g1 g2
  have hyr:=DD v.vs hf ob.has (by split at g2 <;> omega) g2
  have hfd:∀ k,p+k=p+(if o.1=2\/o.1=3 then 1+o.2.2.1 else 1+x.1+o.2.2.1)->Fd h.2.1 h.2.2.1 i l os p a x k y:=by
   intro k hk
   refine⟨v.hi.hb,hi,ob, ?_, ?_,by rw[hk];exact g2⟩
   ·split at hk <;> split at g1 <;> omega
   ·split at hk <;> split at g1 <;> omega
  have g3' :=g3
  rw[g3,A9]
  unfold ATM
  simp only
  rw[AB (I4 trivial),AA hyr.1]
  by_cases c4:o.1=4
  ·rw[AA c4]
   rw[AB (by omega)] at g1 g2
   exact⟨_,_,rfl,.rd c4 g1.1 g1.2 y g2⟩
  rw[AB c4]
  by_cases c2:o.1=2
  ·rw[AA c2]
   rw[AA (.inl c2)] at g1 g2
   by_cases c5:gl 0#64 h.2.1.2.1 y.toNat=0#64
   ·rw[AA c5]
    exact⟨_,_,rfl,.rr0 c2 g1.1 g1.2 y g2 c5⟩
   rw[AB c5,xU v.hi.ro,A9]
   by_cases c6:SN h.2.2.2.2.2.1.1
   ·rw[HX c6,AA rfl]
    exact⟨_,_,rfl,.rrf c2 g1.1 g1.2 y g2 c5 c6⟩
   ·rw[MV c6,AB (by decide),v.copy,A9]
    obtain⟨h',w,t1,t2⟩:=AIF v.hi.ro c6 (gl 0#64 h.2.1.2.1 y.toNat)
    exact⟨_,_,t1,.rr c2 g1.1 g1.2 y g2 c5 c6 h' w t2⟩
  rw[AB c2]
  by_cases c3:o.1=3
  ·rw[AA c3]
   have A1B :=hfd (1+o.2.2.1) (by rw[AA (.inr c3)])
   rw[HX (show o.1=2\/o.1=3 from .inr c3)] at g3'
   rw[AA (.inr c3)] at g1 g2
   rw[dP v.hi.ro,A9]
   by_cases c7:N1 h.2.2.2.2.2.1.1 o.2.2.2 false=0
   rotate_left
   ·rw[AA c7]
    exact⟨_,_,rfl,.wrh c3 g1.1 g1.2 c7⟩
   obtain⟨hrf,y0,y1⟩:=AAL v c7
   rw[AB (I4 c7),X7 v.hi.ro (by omega) x1,A9,X7 v.hi.ro y0 y1,A9,hw2]
   generalize hW:vG h.2.2.2.2.2.1 o.2.2.2=w at hrf
   have oB:w≠0#64->¬(w.toNat>(BitVec.ofInt 64 ((h.2.1.2.1.length:Nat):Int)).toNat)/\FT h (AG (((w-(1#64)).toNat:Int)))=some true:=by
    intro hw
    rcases hrf with h0|h0
    ·exact absurd h0 hw
    obtain⟨i2,hi2,p2,x2,o2⟩:=id h0
    have pZ:=o2.IP v.vs (v.hi.hb.fit hi2).1
    have oB:=VS.O2 v.vs
    have e3:(BitVec.ofInt 64 ((h.2.1.2.1.length:Nat):Int)).toNat=h.2.1.2.1.length:=by
     rw[qV];omega
    obtain⟨e1,e2⟩:=LY hw
    refine⟨by rw[e3];omega, ?_⟩
    rw[e1,show ((w.toNat-1:Nat):Int)=(w.toNat:Int)-1 by omega,AD (by omega) (by omega)]
    exact ATF v.hi.hb h0
   have hvs:=A1B.vs w
   obtain⟨T4,n1,n2,n3⟩:=AI3 hvs v.hi.rv (y:=y) hyr.1.1 (by simp only[ER];exact hyr.1.2) w
   have hWR:D3 h a o.2.2.1 w=some (AS9 h y w T4,0):=by
    unfold D3 GK
    rw[hd,AB (by decide),hIs,A9,AB (by decide),g3',A9,A9]
    simp only
    rw[AB (by decide)]
    by_cases c8:w=0#64
    ·rw[AB (I4 c8),AB (I4 trivial),v.copy,A9,AA hyr.1,n1,A9]
    ·obtain⟨q1,q2⟩:=oB c8
     rw[AA c8,AB q1,q2,A9,AB (by decide),AB (I4 trivial),v.copy,A9,AA hyr.1,n1,A9]
   rw[hWR]
   subst hW
   exact⟨_,_,rfl,.wr c3 g1.1 g1.2 y g2 c7 T4 n2 n3⟩
  ·rw[AB c3]
   have AYZ :=g3'
   rw[MV (show ¬(o.1=2\/o.1=3) by omega)] at AYZ
   rw[AB (by omega)] at g1 g2
   rw[X7 v.hi.ro (by omega) x1,A9,hw2]
   have hWD:DL h a o.2.2.1 (BitVec.ofInt 64 o.2.2.2)=some (AS9 h y (BitVec.ofInt 64 o.2.2.2) h.2.2.2.2.1,0):=by
    unfold DL GK
    rw[hd,AB (by decide),hIs,A9,AB (by decide),AYZ,A9,A9]
    simp only
    rw[AB (I4 trivial),v.copy,A9,AA hyr.1]
   rw[hWD]
   exact⟨_,_,rfl,.wd (by omega) g1.1 g1.2 y g2⟩
theorem xV {z:Int} (hz:0<z):∀ {xs:List AH},(∀ i∈xs,0<=i.2.2.2.2)->WT xs<=tL z xs*z
 | [],_=>by unfold WT tL;simp
 |a::r,h=>by
  have h1:=h a (by simp)
  have h2:=xV hz (xs:=r) fun i hi=>h i (S7 _ hi)
  have h3:=P7 (n:=a.2.2.2.2) hz
  rw[nD,xH,Int.add_mul]
  omega
theorem HB.WT {s:Sp} {q:Rows} (h:HB s q):0<=WT q.flatten/\Go.Proofs.YthmiilamegpllaaGreat.WT q.flatten<=s.2.1.length:=by
 have hw:∀ i∈q.flatten,0<=i.2.2.2.2:=fun i hi=>by have:=(h.fit hi).2;omega
 have hv:=h.bv.vs
 have z:=CA s.1
 have h1:=xV z hw
 have h2:=(ARL h.bv.ok).1
 have h3:used s<=s.2.2.length:=by unfold used;omega
 have h4:tL (sz s.1) q.flatten*sz s.1<=s.2.2.length*sz s.1:=AAO (by omega) (by omega)
 have h5:=hv.w
 exact⟨cH hw,by omega⟩
abbrev AP9 (h:Hs):Hs:=(h.1,h.2.1,h.2.2.1,h.2.2.2.1,h.2.2.2.2.1,h.2.2.2.2.2.1,h.2.2.2.2.2.2.1,(h.2.2.2.2.2.2.2.1.1,h.2.2.2.2.2.2.2.1.2.1,AG (h.2.2.2.2.2.2.2.1.2.2.1+1),h.2.2.2.2.2.2.2.1.2.2.2),h.2.2.2.2.2.2.2.2)
def vH (r d:Int):Prop:=(0<=r/\r<=15)/\(0<=d/\d<=32)
instance (r d:Int):Decidable (vH r d):=by unfold vH;infer_instance
inductive DoR (h:Hs) (o:Op):Hs->An->Prop
 |bad (c:¬(1<=o.1/\o.1<=10)):DoR h o h (20,0#64)
 |size (c:o.1=1) (hs:¬vH o.2.1 o.2.2.1):DoR h o h (13,0#64)
 |APA (c:o.1=1) (hs:vH o.2.1 o.2.2.1) (hf:SN h.2.2.2.2.2.1.1):DoR h o h (15,0#64)
 |nom (c:o.1=1) (hs:vH o.2.1 o.2.2.1) (hf:¬SN h.2.2.2.2.2.1.1) (h' :Hs) (a:Int) (g:AlR h o.2.1 o.2.2.1 h' a 18):DoR h o h' (18,0#64)
 |all (c:o.1=1) (hs:vH o.2.1 o.2.2.1) (hf:¬SN h.2.2.2.2.2.1.1) (h1 h' :Hs) (a:Int) (v:BitVec 64) (g:AlR h o.2.1 o.2.2.1 h1 a 0) (t:AP6 h1 (BitVec.ofInt 64 (a+1)) h' v):DoR h o h' (0,v)
 |col (c:o.1=8) (b:Hs×Bool) (m:Nat) (hx:Hs) (kx:Cu) (r:RD 0 (AP9 h) b m hx kx) (hm:m<=256):DoR h o b.1 (0,0#64)
 |sta (c:o.1=10):DoR h o h (0,BitVec.ofInt 64 (WT h.2.2.1.flatten))
 |eqa (c:o.1=6) (e:N1 h.2.2.2.2.2.1.1 o.2.1 false≠0):DoR h o h (N1 h.2.2.2.2.2.1.1 o.2.1 false,0#64)
 |eqb (c:o.1=6) (e:N1 h.2.2.2.2.2.1.1 o.2.1 false=0) (f:N1 h.2.2.2.2.2.1.1 o.2.2.1 false≠0):DoR h o h (N1 h.2.2.2.2.2.1.1 o.2.2.1 false,0#64)
 |equ (c:o.1=6) (e:N1 h.2.2.2.2.2.1.1 o.2.1 false=0) (f:N1 h.2.2.2.2.2.1.1 o.2.2.1 false=0):DoR h o h (0,if vG h.2.2.2.2.2.1 o.2.1=vG h.2.2.2.2.2.1 o.2.2.1 then 1#64 else 0#64)
 |nH (c:(2<=o.1/\o.1<=5)\/o.1=7\/o.1=9) (e:N1 h.2.2.2.2.2.1.1 o.2.1 true≠0):DoR h o h (N1 h.2.2.2.2.2.1.1 o.2.1 true,0#64)
 |drp (c:o.1=7) (e:N1 h.2.2.2.2.2.1.1 o.2.1 true=0):DoR h o (ATL h (h.2.2.2.2.2.1.1.set (o.2.1-1).toNat false,h.2.2.2.2.2.1.2.set (o.2.1-1).toNat 0#64)) (0,0#64)
 |shp (c:o.1=9) (e:N1 h.2.2.2.2.2.1.1 o.2.1 true=0) (i:AH) (hi:i∈h.2.2.1.flatten) (l:List Int) (os:List (Int×Int)) (p a:Int) (x:Int×Int) (ob:OB h.2.1 i l os p a x) (hw:(vG h.2.2.2.2.2.1 o.2.1).toNat=a+1):DoR h o h (0,BitVec.ofInt 64 (256*x.1+x.2))
 |z8 (c:2<=o.1/\o.1<=5) (e:N1 h.2.2.2.2.2.1.1 o.2.1 true=0) (i:AH) (hi:i∈h.2.2.1.flatten) (l:List Int) (os:List (Int×Int)) (p a:Int) (x:Int×Int) (ob:OB h.2.1 i l os p a x) (hw:(vG h.2.2.2.2.2.1 o.2.1).toNat=a+1) (h' :Hs) (an:An) (f:FdR h o i l os p a x h' an):DoR h o h' an
theorem AlR.hv {N:Int} {h:Hs} (v:HV N h) {r d:Int} {h' :Hs} {a:Int} (g:AlR h r d h' a 0):HV (N+257) h' /\IsO h'.2.1 h'.2.2.1 a/\(0<=a/\a<16384)/\h'.1=h.1/\h'.2.2.2.2.2.2.2.2=h.2.2.2.2.2.2.2.2:=by
 obtain⟨h1,g1,⟨g2,_⟩|⟨_,g2,g3⟩⟩:=g
 ·omega
 ·obtain⟨v1,c1,_,_,d1⟩:=g1.ok v
  obtain⟨v2,i2,c2,d2,_⟩:=g3.ok v1
  obtain⟨i,hi,p,x,o⟩:=id i2
  have hr:=o.IP v2.vs (v2.hi.hb.fit hi).1
  have:=VS.O2 v2.vs
  exact⟨v2.mono (by omega),i2,by omega,by rw[c2,c1],by rw[d2,d1]⟩
theorem AlR.A1C {N:Int} {h:Hs} (v:HV N h) {r d:Int} {h' :Hs} {a:Int} (g:AlR h r d h' a 18):HV (N+256) h' :=by
 obtain⟨h1,g1,⟨_,rfl,_⟩|⟨g2,_⟩⟩:=g
 ·have v1:=(g1.ok v).1
  exact⟨v1.g,v1.hi,v1.ql,v1.n1⟩
 ·omega
theorem Rn.used {h:Hs} {k:Cu}:∀ {m:Nat} {h1:Hs} {k1:Cu},Rn m h k h1 k1->h1.2.2.2.2.2.1.1=h.2.2.2.2.2.1.1:=by
 intro m h1 k1 r
 induction r with
 |z=>rfl
 |s a b ih=>
  obtain⟨l,B3,u,_,_,_,dn⟩:=b
  obtain⟨l0,EK,t,to,lb,m,mv,ys,ws,r',T4,st,g1,_,rfl,_⟩:=dn
  exact g1.ru.trans ih
theorem RD.used {N:Int} {h:Hs} (v:HV N h) {n:Int} {b:Hs×Bool} {m:Nat} {h1:Hs} {k1:Cu} (r:RD n h b m h1 k1):b.1.2.2.2.2.2.1.1=h.2.2.2.2.2.1.1:=by
 have h2:=r.rn.used
 rcases r.fin with ⟨rfl,_⟩|⟨rfl,_⟩|⟨rfl,_⟩ <;> exact h2
theorem Gcd.used {N:Int} {h:Hs} (v:HV N h) {n:Int} {h1:Hs} (g:Gcd h n h1):h1.2.2.2.2.2.1.1=h.2.2.2.2.2.1.1:=by
 rcases g with ⟨_,rfl⟩|⟨_,b,m,hx,kx,r,hm,rfl⟩
 ·rfl
 ·exact RD.used (N:=N) (h:=AKX h) v.col r
theorem AlR.used {N:Int} {h:Hs} (v:HV N h) {r d:Int} {h' :Hs} {a:Int} (g:AlR h r d h' a 0):h'.2.2.2.2.2.1.1=h.2.2.2.2.2.1.1:=by
 obtain⟨h1,g1,⟨g2,_⟩|⟨_,g2,g3⟩⟩:=g
 ·omega
 ·rw[<-g1.used v]
  obtain⟨u,j,l,l',os,q',n',h1,rfl⟩:=g3
  rfl
theorem AZ0 {N:Int} {h:Hs} (v:HV N h) (hN:N<=4294966000) (hd:h.2.2.2.2.2.2.2.2=false) (o:Op):∃ h' an,L7 h o=some (h',an)/\DoR h o h' an:=by
 have hro:=v.hi.ro
 unfold L7
 by_cases c1:o.1<1
 ·rw[AA c1,hd,AB (by decide)]
  exact⟨_,_,rfl,.bad (by omega)⟩
 rw[AB c1]
 by_cases c2:o.1>10
 ·rw[AA c2,hd,AB (by decide)]
  exact⟨_,_,rfl,.bad (by omega)⟩
 rw[AB c2,AB (by rw[hd];decide)]
 by_cases c3:o.1=1
 ·rw[AA c3]
  unfold MP
  obtain⟨w,e,he,hs⟩:=AP4 o.2.1 o.2.2.1
  rw[he,A9]
  rcases hs with ⟨rfl,hs⟩|rfl
  rotate_left
  ·rw[AA (by simp)]
   refine⟨_,_,rfl,.size c3 fun hh=> ?_⟩
   have:=qE hh.1.1 hh.1.2 hh.2.1 hh.2.2
   rw[he] at this
   exact absurd (N5 Prod.snd (VM this)) (by simp)
  rw[AB (show ¬¬((w,(0:Int)).2=0) from I4 rfl),xU hro,A9]
  by_cases c4:SN h.2.2.2.2.2.1.1
  ·rw[HX c4,AA rfl]
   exact⟨_,_,rfl,.APA c3 hs c4⟩
  rw[MV c4,AB (by decide)]
  obtain⟨h1,a,e,ha,g⟩:=AKZ v hN hd hs.1.1 hs.1.2 hs.2.1 hs.2.2
  rw[ha,A9]
  by_cases c5:e=0
  ·subst c5
   rw[AB (show ¬¬((h1,a,(0:Int)).2.2=0) from I4 rfl)]
   obtain⟨v1,i1,ar,_,_⟩:=g.hv v
   have hu:=g.used v
   obtain⟨h',w,t1,t2⟩:=AIF (h:=h1) v1.hi.ro (by rw[hu];exact c4) (BitVec.ofInt 64 (a+1))
   simp only
   rw[AD (e:=a+1) (by omega) (by omega),t1,A9]
   exact⟨_,_,rfl,.all c3 hs c4 h1 _ a w g t2⟩
  ·have he:e=18:=by
    obtain⟨_,_,⟨h3,_⟩|⟨h3,_⟩⟩:=g
    ·exact h3
    ·exact absurd h3 c5
   subst he
   rw[AA (by simp)]
   exact⟨_,_,rfl,.nom c3 hs c4 h1 a g⟩
 rw[AB c3]
 by_cases c4:o.1=8
 ·rw[AA c4]
  unfold KG
  rw[hd,AB (by decide)]
  have vc:HV N (AP9 h):=⟨v.g,v.hi,v.ql,v.n1⟩
  obtain⟨b,m,hx,kx,g1,g2,g3⟩:=AID vc (by omega)
  have e1:(h.1,h.2.1,h.2.2.1,h.2.2.2.1,h.2.2.2.2.1,h.2.2.2.2.2.1,h.2.2.2.2.2.2.1,(h.2.2.2.2.2.2.2.1.1,h.2.2.2.2.2.2.2.1.2.1,AG (h.2.2.2.2.2.2.2.1.2.2.1+1),h.2.2.2.2.2.2.2.1.2.2.2),false)=AP9 h:=by unfold AP9;rw[hd]
  rw[e1,g1]
  exact⟨_,_,rfl,.col c4 b m hx kx g2 g3⟩
 rw[AB c4]
 by_cases c5:o.1=10
 ·rw[AA c5]
  unfold JO
  obtain⟨l1,l2,l3⟩:=v.hi.hb.lens
  have hw:=v.hi.hb.WT
  have:=VS.O2 v.vs
  rw[AKG (by omega) (fun x hx=>by have:=l3 x hx;omega) (fun i hi=>by have:=(v.hi.hb.fit hi).2;omega) (by omega)]
  exact⟨_,_,rfl,.sta c5⟩
 rw[AB c5]
 by_cases c6:o.1=6
 ·rw[AA c6,dP hro,A9]
  by_cases c7:N1 h.2.2.2.2.2.1.1 o.2.1 false=0
  rotate_left
  ·rw[AA c7];exact⟨_,_,rfl,.eqa c6 c7⟩
  rw[AB (I4 c7),dP hro,A9]
  by_cases c8:N1 h.2.2.2.2.2.1.1 o.2.2.1 false=0
  rotate_left
  ·rw[AA c8];exact⟨_,_,rfl,.eqb c6 c7 c8⟩
  obtain⟨_,x0,x1⟩:=AAL v c7
  obtain⟨_,y0,y1⟩:=AAL v c8
  rw[AB (I4 c8),X7 hro x0 x1,A9,X7 hro y0 y1,A9]
  unfold MR
  have:=DoR.equ c6 c7 c8
  refine⟨_,_, ?_,this⟩
  by_cases c9:vG h.2.2.2.2.2.1 o.2.1=vG h.2.2.2.2.2.1 o.2.2.1
  ·rw[HX c9,AA rfl,AA c9];rfl
  ·rw[MV c9,AB (by decide),AB c9];rfl
 rw[AB c6,dP hro,A9]
 by_cases c7:N1 h.2.2.2.2.2.1.1 o.2.1 true=0
 rotate_left
 ·rw[AA c7];exact⟨_,_,rfl,.nH (by omega) c7⟩
 obtain⟨x0,x1,hu⟩:=cP c7
 rw[AB (I4 c7)]
 by_cases c8:o.1=7
 ·rw[AA c8,v.copy,A9,AOC hro x0 x1 hu]
  exact⟨_,_,rfl,.drp c8 c7⟩
 rw[AB c8]
 by_cases c9:o.1=9
 ·rw[AA c9,X7 hro (by omega) x1,A9]
  obtain⟨i,hi,l,os,p,a,x,ob,hw1,hw2,a0⟩:=v.root c7
  have hr:=ob.HJ
  rw[hw2,ob.look v.vs (v.hi.hb.fit hi).1,A9]
  simp only
  rw[AD (e:=256*x.1) (by omega) (by omega),AD (e:=256*x.1+x.2) (by omega) (by omega)]
  exact⟨_,_,rfl,.shp c9 c7 i hi l os p a x ob hw1⟩
 rw[AB c9]
 obtain⟨i,hi,l,os,p,a,x,h',an,ob,hw,g1,g2⟩:=AP8 v hd (o:=o) (by omega) c7
 rw[g1]
 exact⟨_,_,rfl,.z8 (by omega) c7 i hi l os p a x ob hw h' an g2⟩
theorem AL0 {a:Int} (a0:0<=a) (a1:a<16384):(BitVec.ofInt 64 (a+1)).toNat=a.toNat+1:=by
 rw[qV];omega
theorem FdR.hv {N:Int} {h:Hs} (v:HV N h) {o:Op} {i:AH} (hi:i∈h.2.2.1.flatten) {l:List Int} {os:List (Int×Int)} {p a:Int} {x:Int×Int} (ob:OB h.2.1 i l os p a x) {h' :Hs} {an:An} (f:FdR h o i l os p a x h' an):
  HV N h' /\an.1≠18/\h'.1=h.1/\h'.2.2.2.2.2.2.2.2=h.2.2.2.2.2.2.2.2/\h'.2.1.1=h.2.1.1/\h'.2.1.2.2.length=h.2.1.2.2.length:=by
 have hro:=ob.HJ
 cases f with
 |bad hk=>exact⟨v,by simp,rfl,rfl,rfl,rfl⟩
 |rd c k0 k1 y hy=>exact⟨v,by simp,rfl,rfl,rfl,rfl⟩
 |rr0 c k0 k1 y hy hw=>exact⟨v,by simp,rfl,rfl,rfl,rfl⟩
 |rrf c k0 k1 y hy hw hf=>exact⟨v,by simp,rfl,rfl,rfl,rfl⟩
 |rr c k0 k1 y hy hw hf h2 v' t=>
  have O4:Slot h.2.1 h.2.2.1 y:=⟨i,hi,l,os,p,a,x,1+o.2.2.1,ob,by omega,by omega,hy⟩
  have ho:=(v.hi.ref y O4).resolve_left hw
  have hv' :=t.hv v hw ho
  obtain⟨i',_,_,_,rfl,_⟩:=t
  exact⟨hv',by simp,rfl,rfl,rfl,rfl⟩
 |wrh c k0 k1 hh=>
  refine⟨v, ?_,rfl,rfl,rfl,rfl⟩
  simp only
  unfold N1
  split
  ·split <;> omega
  ·split <;> omega
 |wr c k0 k1 y hy hh T4 hr hs=>
  have fd:Fd h.2.1 h.2.2.1 i l os p a x (1+o.2.2.1) y:=⟨v.hi.hb,hi,ob,by omega,by omega,hy⟩
  exact⟨⟨v.g,fd.ref (by omega) (AAL v hh).1 v.hi hr hs,v.ql,v.n1⟩,by simp,rfl,rfl,rfl,rfl⟩
 |wd c k0 k1 y hy=>
  have fd:Fd h.2.1 h.2.2.1 i l os p a x (1+x.1+o.2.2.1) y:=⟨v.hi.hb,hi,ob,by omega,by omega,hy⟩
  exact⟨⟨v.g,fd.data _ (by omega) v.hi,v.ql,v.n1⟩,by simp,rfl,rfl,rfl,rfl⟩
theorem DoR.hv {N:Int} {h:Hs} (v:HV N h) {o:Op} {h' :Hs} {an:An} (g:DoR h o h' an):HV (N+257) h' /\(an.1≠18->h'.2.2.2.2.2.2.2.2=h.2.2.2.2.2.2.2.2)/\h'.1=h.1/\h'.2.1.1=h.2.1.1/\h'.2.1.2.2.length=h.2.1.2.2.length:=by
 have vs:HV (N+257) h:=v.mono (by omega)
 cases g with
 |bad c=>exact⟨vs,fun _=>rfl,rfl,rfl,rfl⟩
 |size c hs=>exact⟨vs,fun _=>rfl,rfl,rfl,rfl⟩
 |APA c hs hf=>exact⟨vs,fun _=>rfl,rfl,rfl,rfl⟩
 |nom c hs hf h2 a g=>
  refine⟨(g.A1C v).mono (by omega),fun hh=>absurd rfl hh, ?_⟩
  obtain⟨h1,g1,⟨_,rfl,_⟩|⟨g2,_⟩⟩:=g
  ·obtain⟨_,c1,c2,c3,_⟩:=g1.ok v
   exact⟨c1,c2,c3⟩
  ·omega
 |all c hs hf h1 h2 a v' g t=>
  obtain⟨v1,i1,ar,c1,d1⟩:=g.hv v
  have e:=AL0 ar.1 ar.2
  have hv' :=t.hv v1 (fun h0=>by rw[h0] at e;have:(0#64).toNat=0:=rfl;omega) (by rw[e];rw[show ((a.toNat+1:Nat):Int)-1=a by omega];exact i1)
  obtain⟨i',_,_,_,rfl,_⟩:=t
  refine⟨hv',fun _=>d1,c1, ?_⟩
  obtain⟨h2,g1,⟨g2,_⟩|⟨_,g2,g3⟩⟩:=g
  ·omega
  ·obtain⟨v2,_,c2,c3,_⟩:=g1.ok v
   obtain⟨_,_,_,_,c4,c5,_⟩:=g3.ok v2
   exact⟨by simp only;rw[c4,c2],by simp only;rw[c5,c3]⟩
 |col c b m hx kx r hm=>
  obtain⟨g1,g2,g3,g4,g5⟩:=r.ok (N:=N) (h:=AP9 h) ⟨v.g,v.hi,v.ql,v.n1⟩
  exact⟨g1.mono (by omega),fun _=>g5,g2,g3,g4⟩
 |sta c=>exact⟨vs,fun _=>rfl,rfl,rfl,rfl⟩
 |eqa c e=>exact⟨vs,fun _=>rfl,rfl,rfl,rfl⟩
 |eqb c e f=>exact⟨vs,fun _=>rfl,rfl,rfl,rfl⟩
 |equ c e f=>exact⟨vs,fun _=>rfl,rfl,rfl,rfl⟩
 |nH c e=>exact⟨vs,fun _=>rfl,rfl,rfl,rfl⟩
 |drp c e=>
  obtain⟨x0,x1,hu⟩:=cP e
  exact⟨⟨v.g,v.hi.drop (i:=(o.2.1-1).toNat) (by omega),v.ql,by have:=v.n1;simp only;omega⟩,fun _=>rfl,rfl,rfl,rfl⟩
 |shp c e i hi l os p a x ob hw=>exact⟨vs,fun _=>rfl,rfl,rfl,rfl⟩
 |z8 c e i hi l os p a x ob hw h2 an2 f=>
  obtain⟨g1,g2,g3,g4,g5⟩:=f.hv v hi ob
  exact⟨g1.mono (by omega),fun _=>g4,g3,g5⟩
end Go.Proofs.YthmiilamegpllaaGreat
