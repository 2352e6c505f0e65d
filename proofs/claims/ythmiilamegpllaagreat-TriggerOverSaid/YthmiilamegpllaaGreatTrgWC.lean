/- A law of the statements is proved here, without any condition. -/
import Derived.Test.YthmiilamegpllaaGreatHeaW
import Derived.Test.YthmiilamegpllaaGreatHeaZ
import Derived.Test.YthmiilamegpllaaGreatSpE
import Derived.Test.YthmiilamegpllaaGreatRows
set_option linter.unusedVariables false
set_option linter.unusedSimpArgs false
set_option maxRecDepth 100000
namespace Go.Proofs.YthmiilamegpllaaGreat
open Go Go.V3
noncomputable section
def DB (a0:DL):Option Bool:=
AI (σ:=(Int×Int)) (β:=Bool) (fun s1=>
if s1.2<(a0.length:Int) then
if 0<=s1.2/\s1.2<(a0.length:Int) then
some (Sum.inl ((AG (s1.1+((gl ([]:(List AB)) a0 s1.2.toNat).length:Int)),AG (s1.2+1))))
else none
else Option.map Sum.inr (if (a0.length:Int)<=8 then
some (decide (s1.1<=40))
else some (false))) ((0,0))
@[reducible] def G9:FnI:=BK [I2] [FN] fun x=>DB x
def NM:Cx:=BE [(11,(1,1))] [] [] [(0,B8 [(3,AP),(8,AP)] [] [] (FI [(5,1),(9,8)]) [] 1)] []
theorem L4:CV 8 G9:=okW NM [.tmp 2] 24 1 (BD AM.nil A_.nil) Tryz.func8
def AU :Option Bool:=
Option.bind (DI (⟨#[102,105,120,101,100]⟩:ByteArray) 25) (fun r1=>
Option.bind (FT r1.1 3 16) (fun r2=>
Option.bind (C0 r1.1 r2.1.2.1 r2.1.2.2.1 0 5) (fun r3=>
if r3.2.2=0 then
if r3.1=2 then
some (decide (r3.2.1.2.2.1=(-1)))
else some (false)
else some (false))))
@[reducible] def DN:FnI:=BK [] [FN] fun x=>AU 
def G_:Cx:=BE [(1,(1,1)),(3,(9,1)),(6,(10,1)),(9,(0,1)),(14,(2,7))] [] [(15,GY),(26,IN),(27,IL)] [] []
theorem GK:CV 9 DN:=okW G_ [.tmp 0] 38 11 (BD (.cons HC (.cons J4 (.cons JV AM.nil))) A_.nil) Tryz.func9
def SC (a0:D7) (a1:DL):Option (List Int):=
Option.bind (H8 a0) (fun r1=>
if ¬r1=0 then
some ([])
else if ¬(a1.length:Int)=(a0.2.1.length:Int) then
some ([])
else AI (σ:=GB) (β:=(List Int)) (fun s1=>
if s1.2<(a0.2.1.length:Int) then
if 0<=s1.2/\s1.2<(a0.2.1.length:Int) then
if ¬(((gl ((0,0,0,0):AJ) a0.2.1 s1.2.toNat).2).1)=0 then
if 0<=s1.2/\s1.2<(a1.length:Int) then
if ((gl ([]:(List AB)) a1 s1.2.toNat).length:Int)>(((gl ((0,0,0,0):AJ) a0.2.1 s1.2.toNat).2).1) then
if (s1.1.length+([s1.2]:List Int).length)*8<=140737488355328 then
some (Sum.inl ((s1.1++([s1.2]:List Int),AG (s1.2+1))))
else none
else some (Sum.inl ((s1.1,AG (s1.2+1))))
else none
else some (Sum.inl ((s1.1,AG (s1.2+1))))
else none
else some (Sum.inr (s1.1))) (([],0)))
@[reducible] def gI:FnI:=BK [PD,I2] [I3] fun x=>SC x.1 x.2
def yZ:Cx:=BE [(2,(2,1)),(7,(4,1)),(34,(5,1)),(42,(6,1)),(43,(7,1))] [43] [(31,NG)] [(0,B8 [(5,I3),(22,AP)] [] [] (FI [(6,2),(23,22)]) [] 3)] []
theorem uD:CV 24 gI:=okW yZ [.tmp 4] 46 6 (BD (.cons OW AM.nil) A_.nil) Tryz.func24
def H4 (a0:(List Int)) (a1:(List Int)):Option Bool:=
if ¬(a0.length:Int)=(a1.length:Int) then
some (false)
else AI (σ:=Int) (β:=Bool) (fun s1=>
if s1<(a0.length:Int) then
if 0<=s1/\s1<(a0.length:Int) then
if 0<=s1/\s1<(a1.length:Int) then
if ¬(gl (0:Int) a0 s1.toNat)=(gl (0:Int) a1 s1.toNat) then
some (Sum.inr (false))
else some (Sum.inl (AG (s1+1)))
else none
else none
else some (Sum.inr (true))) (0)
@[reducible] def PN:FnI:=BK [SR,SR] [FN] fun x=>H4 x.1 x.2
def Y3:Cx:=BE [] [] [] [(0,B8 [(13,AP)] [] [] (FI [(4,2),(14,12)]) [] 2)] []
theorem XT:CV 23 PN:=okW Y3 [.tmp 4] 26 0 (BD AM.nil A_.nil) Tryz.func23
def IW (a0:D7) (a1:DL) (a2:(List Int)) (a3:Int) (a4:Int):Option Bool:=
Option.bind (DB a1) (fun r1=>
if (!r1)=true then
Option.bind (AU) (fun r2=>
some (r2))
else if (a0.2.1.length:Int)>20 then
Option.bind (AU) (fun r3=>
some (r3))
else if (a0.1.size:Int)>300 then
Option.bind (AU) (fun r4=>
some (r4))
else Option.bind (GQ a2) (fun r5=>
Option.bind (FV r5) (fun r6=>
if (([]:List AJ).length+r6.1.1.2.1.length)*32<=140737488355328 then
Option.bind (B4 a3 ((([]:List AJ)++r6.1.1.2.1).length:Int)) (fun r7=>
Option.bind (B4 a4 4) (fun r8=>
if 0<=r7/\r7<((([]:List AJ)++r6.1.1.2.1).length:Int) then
AI (σ:=Int) (β:=Bool) (fun s1=>
if s1<(([r6.1.1,(r6.1.1.1,(([]:List AJ)++r6.1.1.2.1).set r7.toNat ((gl ((0,0,0,0):AJ) (([]:List AJ)++r6.1.1.2.1) r7.toNat).1,r8,(((gl ((0,0,0,0):AJ) (([]:List AJ)++r6.1.1.2.1) r7.toNat).2).2)),r6.1.1.2.2),a0]:List D7).length:Int) then
if 0<=s1/\s1<(([r6.1.1,(r6.1.1.1,(([]:List AJ)++r6.1.1.2.1).set r7.toNat ((gl ((0,0,0,0):AJ) (([]:List AJ)++r6.1.1.2.1) r7.toNat).1,r8,(((gl ((0,0,0,0):AJ) (([]:List AJ)++r6.1.1.2.1) r7.toNat).2).2)),r6.1.1.2.2),a0]:List D7).length:Int) then
AI (σ:=Int) (β:=(Int ⊕ Bool)) (fun s2=>
if s2<(([r6.1.2.2.1,a1]:List DL).length:Int) then
if 0<=s2/\s2<(([r6.1.2.2.1,a1]:List DL).length:Int) then
Option.bind (SC ((gl ((⟨#[]⟩,[],0):D7) ([r6.1.1,(r6.1.1.1,(([]:List AJ)++r6.1.1.2.1).set r7.toNat ((gl ((0,0,0,0):AJ) (([]:List AJ)++r6.1.1.2.1) r7.toNat).1,r8,(((gl ((0,0,0,0):AJ) (([]:List AJ)++r6.1.1.2.1) r7.toNat).2).2)),r6.1.1.2.2),a0]:List D7) s1.toNat).1,((gl ((⟨#[]⟩,[],0):D7) ([r6.1.1,(r6.1.1.1,(([]:List AJ)++r6.1.1.2.1).set r7.toNat ((gl ((0,0,0,0):AJ) (([]:List AJ)++r6.1.1.2.1) r7.toNat).1,r8,(((gl ((0,0,0,0):AJ) (([]:List AJ)++r6.1.1.2.1) r7.toNat).2).2)),r6.1.1.2.2),a0]:List D7) s1.toNat).2)) (gl ([]:DL) ([r6.1.2.2.1,a1]:List DL) s2.toNat)) (fun r9=>
Option.bind (DV ((gl ((⟨#[]⟩,[],0):D7) ([r6.1.1,(r6.1.1.1,(([]:List AJ)++r6.1.1.2.1).set r7.toNat ((gl ((0,0,0,0):AJ) (([]:List AJ)++r6.1.1.2.1) r7.toNat).1,r8,(((gl ((0,0,0,0):AJ) (([]:List AJ)++r6.1.1.2.1) r7.toNat).2).2)),r6.1.1.2.2),a0]:List D7) s1.toNat).1,((gl ((⟨#[]⟩,[],0):D7) ([r6.1.1,(r6.1.1.1,(([]:List AJ)++r6.1.1.2.1).set r7.toNat ((gl ((0,0,0,0):AJ) (([]:List AJ)++r6.1.1.2.1) r7.toNat).1,r8,(((gl ((0,0,0,0):AJ) (([]:List AJ)++r6.1.1.2.1) r7.toNat).2).2)),r6.1.1.2.2),a0]:List D7) s1.toNat).2)) (gl ([]:DL) ([r6.1.2.2.1,a1]:List DL) s2.toNat)) (fun JJ=>
Option.bind (H4 r9 JJ) (fun QR=>
if (!QR)=true then
some (Sum.inr (Sum.inr (false)))
else some (Sum.inl (AG (s2+1))))))
else none
else some (Sum.inr (Sum.inl (AG (s1+1))))) (0)
else none
else Option.map Sum.inr (Option.bind (AU) (fun OF=>
some (OF)))) (0)
else none))
else none)))
@[reducible] def NN:FnI:=BK [PD,I2,SR,AP,AP] [FN] fun x=>IW x.1 x.2.1 x.2.2.1 x.2.2.2.1 x.2.2.2.2
def V6:Cx:=BE [(5,(3,1)),(11,(17,1)),(12,(18,1)),(13,(19,1)),(15,(23,1)),(36,(4,2)),(37,(6,11)),(44,(20,1)),(61,(21,1)),(66,(22,1)),(70,(24,1)),(75,(25,1)),(78,(26,1)),(81,(27,1))] [44] [(8,G9),(9,DN),(10,IP),(11,I5),(14,FQ),(23,PN),(24,gI),(25,N5)] [(0,B8 [(63,AP)] [] [] (FI [(10,1),(15,1),(17,1),(64,22)]) [] 22),(2,B8 [(72,AP)] [] [] (FI [(10,1),(17,1),(73,12)]) [] 25)] []
theorem U9:CV 6 NN:=okW V6 [.tmp 10] 87 25 (BD (.cons L4 (.cons GK (.cons J6 (.cons KS (.cons GP (.cons XT (.cons uD (.cons S9 AM.nil)))))))) A_.nil) Tryz.func6
end
end Go.Proofs.YthmiilamegpllaaGreat
namespace Go.Proofs.YthmiilamegpllaaGreat
open Go Go.V3
theorem AQK (a:List Int) (h:a.length<=1000000):H4 a a=some true:=by
 unfold H4
 rw[AD (H_ rfl)]
 refine hO a.length (fun k hk=> ?_) ?_
 ·rw[AA (by omega),AA (by omega),AA (by omega),AD (H_ rfl),AE (by omega) (by omega)]
 ·rw[AD (by omega)]
theorem AYI {c:Cf} (ca:Ca c) {q:Rows} (hq:q.length<=1000000):∃ l,SC c q=some l/\DV c q=some l/\l.length<=1000:=by
 have hcn:=ca.n
 unfold SC DV
 rw[yI ca.n ca.sh,iB ca.n ca.sz ca.sh,AZ,AZ]
 by_cases c1:UZ c=0
 rotate_left
 ·rw[AA c1,AA c1];exact⟨_,rfl,rfl,by simp⟩
 rw[AD (H_ c1),AD (H_ c1)]
 by_cases c2:(q.length:Int)=(c.2.1.length:Int)
 rotate_left
 ·rw[AA c2,AA c2];exact⟨_,rfl,rfl,by simp⟩
 rw[AD (H_ c2),AD (H_ c2)]
 have yD:∀ k,((EI k).filter (fun b=>decide ((ru c b).2.1≠0/\(ru c b).2.1<(gl [] q b.toNat).length))).length<=k:=by
  intro k
  have:=mO (fun b=>decide ((ru c b).2.1≠0/\(ru c b).2.1<(gl [] q b.toNat).length)) (EI k)
  rw[GZ] at this;exact this
 refine⟨tD c q, ?_, ?_,by have:=yD q.length;unfold tD;omega⟩
 ·refine (AO (fun k (st:List Int×Int)=>st=((EI k).filter (fun b=>decide ((ru c b).2.1≠0/\(ru c b).2.1<(gl [] q b.toNat).length)),(k:Int))) (fun b=>b=tD c q) q.length ?_ ?_ (s:=([],0)) rfl).elim fun b hb=>by rw[hb.1,hb.2]
  ·rintro k st hk rfl
   left
   have yD:=yD k
   have hr:gl (0,0,0,0) c.2.1 k=ru c (k:Int):=rfl
   simp only[HX]
   rw[AA (by omega),AA (by omega),hr,AE (e:=(k:Int)+1) (by omega) (by omega),H9,tH]
   by_cases c1:(ru c (k:Int)).2.1=0
   ·rw[AD (H_ c1)]
    refine⟨_,rfl, ?_⟩
    simp [c1]
   ·rw[AA c1,AA (by omega)]
    by_cases c2:((gl ([]:List AH) q k).length:Int)>(ru c (k:Int)).2.1
    ·rw[AA c2,AA (by simp only[IC];omega)]
     refine⟨_,rfl, ?_⟩
     simp [c1,c2]
    ·rw[AD c2]
     refine⟨_,rfl, ?_⟩
     simp [c1,c2]
  ·rintro st rfl
   simp only
   rw[AD (by omega)]
   exact⟨_,rfl,rfl⟩
 ·refine (AO (fun k (st:List Int×Int)=>st=((EI k).filter (fun b=>decide ((ru c b).2.1≠0/\(ru c b).2.1<(gl [] q b.toNat).length)),(k:Int))) (fun b=>b=tD c q) q.length ?_ ?_ (s:=([],0)) rfl).elim fun b hb=>by rw[hb.1,hb.2]
  ·rintro k st hk rfl
   left
   have yD:=yD k
   have hr:gl (0,0,0,0) c.2.1 k=ru c (k:Int):=rfl
   simp only[HX]
   rw[AA (by omega),AA (by omega),AA (by omega),hr,AE (e:=(k:Int)+1) (by omega) (by omega),H9,tH]
   by_cases c1:(ru c (k:Int)).2.1=0
   ·rw[AD (H_ c1)]
    refine⟨_,rfl, ?_⟩
    simp [c1]
   ·rw[AA c1]
    by_cases c2:((gl ([]:List AH) q k).length:Int)>(ru c (k:Int)).2.1
    ·rw[AA c2,AA (by simp only[IC];omega)]
     refine⟨_,rfl, ?_⟩
     simp [c1,c2]
    ·rw[AD c2]
     refine⟨_,rfl, ?_⟩
     simp [c1,c2]
  ·rintro st rfl
   simp only
   rw[AD (by omega)]
   exact⟨_,rfl,rfl⟩
theorem rP {q:Rows} (hq:q.length<=9223372036854775807):∃ b,DB q=some b/\(b=true->q.length<=8):=by
 unfold DB
 refine AO (fun k (st:Int×Int)=>k<=q.length/\st.2=(k:Int)) (fun b=>b=true->q.length<=8) q.length ?_ ?_ (s:=(0,0)) ⟨by omega,rfl⟩
 ·rintro k ⟨a,st⟩ hk ⟨_,h⟩
  simp only at h ⊢
  subst h
  rw[AA (by omega),AA (by omega),AE (e:=(k:Int)+1) (by omega) (by omega)]
  exact .inl ⟨_,rfl,by omega,rfl⟩
 ·rintro⟨a,st⟩ ⟨_,h⟩
  simp only at h ⊢
  subst h
  rw[AD (by omega)]
  by_cases h8:(q.length:Int)<=8
  ·rw[AA h8];exact⟨_,rfl,fun _=>by omega⟩
  ·rw[AD h8];exact⟨_,rfl,fun h=>by cases h⟩
theorem RY {α β:Type} {d:α} {xs:List α} {f:Int->Option (Int ⊕ β)} {r:β} (hs:∀ (k:Nat) x,k<xs.length->x∈xs->gl d xs k=x->f (k:Int)=some (.inl ((k:Int)+1))) (he:f (xs.length:Int)=some (.inr r)):AI f 0=some r:=
 hO xs.length (fun k hk=>hs k _ hk (BN hk) rfl) he
abbrev cfT:Ty:= .pair .str (.pair (.slice (.pair .QT (.pair (.int .i64) (.pair (.int .i64) (.int .i64))))) (.int .i64))
theorem AL7 {c:Cf} (w:Wf cfT c) (h1:c.2.1.length<=20) (h2:c.1.size<=300):Ca c:=by
 refine⟨by omega,by omega,fun b b0 b1=> ?_⟩
 exact (w.2.1.2 _ (BN (d:=((0,0,0,0):Ru)) (xs:=c.2.1) (k:=b.toNat) (by omega))).1
theorem JD:AU=some true:=by
 unfold AU
 obtain⟨c,hc,g⟩:=AEC (j:=2) (by decide) (p:=25) (by omega) (by omega)
 have e:DI (⟨#[102,105,120,101,100]⟩:ByteArray) 25=some (c,0):=hc
 have v:=pJ g (s:=3) (n:=16) (by omega) (by omega)
 rw[e,AZ,pK g (by omega) (by omega),AZ]
 have hd:=rO v (by omega) g (by simp) (k:=5) (by omega) (by omega)
 have hp:F3 c (WM c 3 16).2.1 (WM c 3 16).2.2.1 (WM c 3 16).2.2.2.1 5=(2,(0,0, -1, -1,0)):=by
  have hg:=g.n
  have h0:gl ([]:List AH) (List.replicate c.2.1.length []) 0=[]:=O4 (by omega)
  have hl:=(g.ru 0 (by omega) (by omega)).2.1
  unfold FX at hl
  unfold F3
  rw[AD (fun hh=>hh.1 h0),AD (fun hh=>by
   have h1:=hh.2
   have:((gl ([]:List AH) (WM c 3 16).2.2.1 0).length:Int)=0:=by rw[show gl ([]:List AH) (WM c 3 16).2.2.1 0=[] from h0];rfl
   have h2:=hh.1
   omega),AA]
  have tP:(List.replicate c.2.1.length ([]:List AH)).flatten=[]:=by simp
  unfold pR GrF QN
  simp only[tP]
  have hus:used (WM c 3 16).2.1=0:=by
   show used ((3,List.replicate ((16:Int)*sz 3).toNat 0#64,List.replicate (16:Int).toNat (-1, -1, -1)):Sp)=0
   decide+kernel
  rw[hus]
  have h1:cl (sz 3) (0+5)-cl (sz 3) 0=1:=by decide
  have h2:cl (sz 3) 0=0:=by decide
  have h3:lrg (sz 3) []=0:=rfl
  simp only[h2,h3,XV]
  have h1' :cl (sz 3) (0+5)-0=1:=by decide
  cases cmp c with
  |true=>exact .inr (.inl ⟨rfl,by decide⟩)
  |false=>exact .inr (.inr ⟨rfl,by decide,by decide⟩)
 rw[hp] at hd
 rw[hd]
 rfl
theorem uE (y0:Cf) (w0:Wf cfT y0) (y1:Rows) (w1:Wf (.slice (.slice (.pair (.int .i64) (.pair (.int .i64) (.pair (.int .i64) (.pair (.int .i64) (.int .i64))))))) y1) (y2:List Int) (w2:Wf (.slice (.int .i64)) y2) (y3:Int) (w3:I64 y3) (y4:Int) (w4:I64 y4):IW y0 y1 y2 y3 y4=some true:=by
 unfold IW
 obtain⟨b,e0,hb⟩:=rP (q:=y1) w1.1
 rw[e0,AZ]
 by_cases WU:b=true
 rotate_left
 ·rw[AA (by simpa using WU),JD];rfl
 rw[AD (by simp [WU])]
 have hr8:=hb WU
 by_cases c1:(y0.2.1.length:Int)>20
 ·rw[AA c1,JD];rfl
 rw[AD c1]
 by_cases c2:(y0.1.size:Int)>300
 ·rw[AA c2,JD];rfl
 rw[AD c2]
 obtain⟨d,e1,hd⟩:=uX y2 w2.1
 obtain⟨c,h,g,d',e2,hp,_⟩:=vB hd
 obtain⟨v,_,hc,_,_,hfn⟩:=hp.ok
 rw[e1,AZ,e2,AZ]
 simp only
 have gc:Good h.1:=v.g
 have hg:=gc.n
 obtain⟨l1,l2,l3⟩:=v.hi.hb.lens
 have e4:([]:List (Nat×Int×Int×Int))++h.1.2.1=h.1.2.1:=rfl
 rw[AA (by simp only[VG];omega),e4]
 obtain⟨r,e5,r0,r1,_⟩:=O9 y3 (m:=(h.1.2.1.length:Int)) (by omega) (by omega)
 obtain⟨m,e6,m0,m1,_⟩:=O9 y4 (m:=4) (by omega) (by omega)
 rw[e5,AZ,e6,AZ,AA ⟨r0,r1⟩]
 have hca:∀ x∈[h.1,(h.1.1,h.1.2.1.set r.toNat ((gl ((0,0,0,0):Ru) h.1.2.1 r.toNat).1,m,(gl ((0,0,0,0):Ru) h.1.2.1 r.toNat).2.2),h.1.2.2),y0],Ca x:=by
  intro x hx
  simp only[GA,pU,cT] at hx
  rcases hx with rfl|rfl|rfl
  ·exact gc.ca
  ·refine⟨by simp only[EW];omega,gc.ca.sz,fun b b0 b1=> ?_⟩
   simp only[EW] at b1
   show (gl ((0,0,0,0):Ru) (h.1.2.1.set r.toNat _) b.toNat).1< _
   rw[D5 (by omega)]
   split
   ·exact gc.sh r r0 r1
   ·exact gc.sh b b0 b1
  ·exact AL7 w0 (by omega) (by omega)
 have hq:∀ x∈[h.2.2.1,y1],x.length<=1000000:=by
  intro x hx
  simp only[GA,pU,cT] at hx
  rcases hx with rfl|rfl <;> omega
 have hl3:([h.1,(h.1.1,h.1.2.1.set r.toNat ((gl ((0,0,0,0):Ru) h.1.2.1 r.toNat).1,m,(gl ((0,0,0,0):Ru) h.1.2.1 r.toNat).2.2),h.1.2.2),y0]:List Cf).length=3:=rfl
 have lB:([h.2.2.1,y1]:List Rows).length=2:=rfl
 generalize ([h.1,(h.1.1,h.1.2.1.set r.toNat ((gl ((0,0,0,0):Ru) h.1.2.1 r.toNat).1,m,(gl ((0,0,0,0):Ru) h.1.2.1 r.toNat).2.2),h.1.2.2),y0]:List Cf)=XS at hca hl3 ⊢
 generalize ([h.2.2.1,y1]:List Rows)=QS at hq lB ⊢
 refine RY (xs:=XS) (d:=((⟨#[]⟩,[],0):Cf)) (fun k x hk hx hgx=> ?_) (by rw[AD (by omega),JD];rfl)
 simp only[HX]
 rw[AA (by omega),AA (by omega),hgx,show (x.1,x.2)=x from rfl]
 refine RY (xs:=QS) (d:=([]:Rows)) (fun j y hj hy hgy=> ?_) (by rw[AD (by omega),AE (by omega) (by omega)])
 simp only[HX]
 obtain⟨ov,o1,o2,o3⟩:=AYI (hca x hx) (hq y hy)
 rw[AA (by omega),AA (by omega),hgy,o1,AZ,o2,AZ,AQK _ (by omega),AZ,AD (by decide),AE (e:=(j:Int)+1) (by omega) (by omega)]
namespace triggerOver
open Go.ChangeShapes Go.WideShapes Go.ChangeAt Go.RowKit Go.V3
theorem own:ownKnob Tryz.prog.godebug=none:=by kernel_rfl
theorem laidOut:laidOutB Tryz.prog=true:=by kernel_rfl
set_option maxRecDepth 100000 in
theorem lifted (os:Os) (started:os.Started) (H:Type) (enc:TypeId×Value->H):
  ReturnsInHanded {} Tryz.checked os 6 .any (Rows.triggerOverSpec.pre6 enc Tryz.prog Tryz.f6 Rows.triggerOverRow.domain false) (Rows.triggerOverSpec.post enc Tryz.prog Tryz.f6 false true false false):=by
 refine returnsInHanded_of_change (C:=Tryz.checked) own started (by kernel_rfl) Tryz.func6
  (ChangeSpec.witness6 (enc:=enc) (C:=Tryz.checked) false ⟨#[], #[.agg #[.string ⟨#[]⟩,.slice none 0 0,.int .i64 0],.slice none 0 0,.slice none 0 0,.int .i64 0,.int .i64 0],[]⟩ 8 (by kernel_rfl) (by kernel_rfl) (by kernel_rfl) (by kernel_rfl)) ?_
 intro W base args ds gs before yX hW A2F _
 have hT:xS nX W:=xS.nil W
 have I1:∀ (j:Nat) t v,Tryz.f6.params[j]? =some t->args[j]? =some v->Value.okWide Tryz.prog W .any base t v:=yX
 have hW' :=hW
 obtain⟨p,q,hA0,hV,rfl,hfz,JE⟩:=hW
 have hA:DataW.TrodAll enc Tryz.prog W 0 (fun _=>true) true Tryz.f6.params.toList args.toList ds p:=hA0
 rw[Tryz.params6] at hA I1
 obtain⟨v0,vs0,d0,ds0,p0,q0,MA,rfl,rfl,h0,r0⟩:=trodAll_cons hA
 obtain⟨v1,vs1,d1,ds1,p1,q1,rfl,rfl,rfl,h1,r1⟩:=trodAll_cons r0
 obtain⟨v2,vs2,d2,ds2,p2,q2,rfl,rfl,rfl,h2,r2⟩:=trodAll_cons r1
 obtain⟨v3,vs3,d3,ds3,p3,q3,rfl,rfl,rfl,h3,r3⟩:=trodAll_cons r2
 obtain⟨v4,vs4,d4,ds4,p4,q4,rfl,rfl,rfl,h4,r4⟩:=trodAll_cons r3
 obtain⟨rfl,rfl,rfl⟩:=trodAll_nil r4
 obtain rfl:args= #[v0,v1,v2,v3,v4]:=by cases args;simp_all
 obtain⟨rfl,rfl⟩:=trodVars_none hV
 have k0:=h0
 have lt0:∀ x∈p0,x.block<W.heap.size:=by obtain⟨m,hm⟩:=k0;exact DataW.trod_lt m _ _ _ hm
 obtain⟨y0,R0,w0⟩:=LR 40 (.pair .str (.pair (.slice (.pair .QT (.pair (.int .i64) (.pair (.int .i64) (.int .i64))))) (.int .i64))) (by kernel_rfl) (I1 0 24 v0 rfl rfl) k0
 have k1:=h1
 have lt1:∀ x∈p1,x.block<W.heap.size:=by obtain⟨m,hm⟩:=k1;exact DataW.trod_lt m _ _ _ hm
 obtain⟨y1,R1,w1⟩:=LR 40 (.slice (.slice (.pair (.int .i64) (.pair (.int .i64) (.pair (.int .i64) (.pair (.int .i64) (.int .i64))))))) (by kernel_rfl) (I1 1 29 v1 rfl rfl) k1
 have k2:=h2
 have lt2:∀ x∈p2,x.block<W.heap.size:=by obtain⟨m,hm⟩:=k2;exact DataW.trod_lt m _ _ _ hm
 obtain⟨y2,R2,w2⟩:=LR 40 (.slice (.int .i64)) (by kernel_rfl) (I1 2 30 v2 rfl rfl) k2
 have k3:=h3
 have lt3:∀ x∈p3,x.block<W.heap.size:=by obtain⟨m,hm⟩:=k3;exact DataW.trod_lt m _ _ _ hm
 obtain⟨y3,R3,w3⟩:=LR 40 (.int .i64) (by kernel_rfl) (I1 3 3 v3 rfl rfl) k3
 have k4:=h4
 have lt4:∀ x∈p4,x.block<W.heap.size:=by obtain⟨m,hm⟩:=k4;exact DataW.trod_lt m _ _ _ hm
 obtain⟨y4,R4,w4⟩:=LR 40 (.int .i64) (by kernel_rfl) (I1 4 3 v4 rfl rfl) k4
 have A5:=zP.nil W
 obtain⟨m4,A4⟩:=A5.cons (t:=(.int .i64)) (.inr ⟨rfl,GO (t:=3) rfl (I1 4 3 v4 rfl rfl)⟩) y4 R4
 obtain⟨m3,A3⟩:=A4.cons (t:=(.int .i64)) (.inr ⟨rfl,GO (t:=3) rfl (I1 3 3 v3 rfl rfl)⟩) y3 R3
 obtain⟨m2,A2⟩:=A3.cons (t:=(.slice (.int .i64))) (.inr ⟨rfl,GO (t:=30) rfl (I1 2 30 v2 rfl rfl)⟩) y2 R2
 obtain⟨m1,A1⟩:=A2.cons (t:=(.slice (.slice (.pair (.int .i64) (.pair (.int .i64) (.pair (.int .i64) (.pair (.int .i64) (.int .i64)))))))) (.inr ⟨rfl,GO (t:=29) rfl (I1 1 29 v1 rfl rfl)⟩) y1 R1
 obtain⟨m0,A0⟩:=A1.cons (t:=(.pair .str (.pair (.slice (.pair .QT (.pair (.int .i64) (.pair (.int .i64) (.int .i64))))) (.int .i64)))) (.inl ⟨rfl,ADD (t:=24) rfl (I1 0 24 v0 rfl rfl)⟩) y0 R0
 refine (nW (fi:=NN) U9 hT (r:=(true:Bool)) (vals:= #[v0,v1,v2,v3,v4]) (w:=W) A0 (uE y0 w0 y1 w1 y2 w2 y3 (LM w3) y4 (LM w4)) (fun _=>rfl)).mono fun e W' ⟨he,uC⟩=> ?_
 subst he
 simp only[HH] at hW'
 exact⟨_,rfl,_,_,_,[],_,[],hW',trodAll_mk1 (shut_bool Tryz.underlying4 _),(trodAll_cons_mk (Below.trod laidOut (by kernel_rfl) (MM (by kernel_rfl)) k0 uC lt0) (trodAll_cons_mk (Below.trod laidOut (by kernel_rfl) (MM (by kernel_rfl)) k1 uC lt1) (trodAll_cons_mk (Below.trod laidOut (by kernel_rfl) (MM (by kernel_rfl)) k2 uC lt2) (trodAll_cons_mk (Below.trod laidOut (by kernel_rfl) (MM (by kernel_rfl)) k3 uC lt3) (trodAll_cons_mk (Below.trod laidOut (by kernel_rfl) (MM (by kernel_rfl)) k4 uC lt4) trodAll_mk0))))),rfl,uC.frame _,fun h=>by cases h⟩
theorem proved:Rows.TriggerOverSaid:=
 OpenClaim.holds_of_wide 6 Tryz.f6 rfl rfl rfl rfl rfl rfl rfl ⟨rfl,rfl,rfl,rfl,rfl⟩ rfl rfl rfl rfl rfl (by kernel_rfl) Tryz.func6 (by kernel_rfl)
  (MM (by kernel_rfl)) (by unfold Func.isWrapper;first|(rw[AA (by decide+kernel)];kernel_rfl)|(rw[AD (by decide+kernel)];exact⟨rfl,rfl⟩))
  (fun os started H enc _=>lifted os started H enc)
end triggerOver
end Go.Proofs.YthmiilamegpllaaGreat
