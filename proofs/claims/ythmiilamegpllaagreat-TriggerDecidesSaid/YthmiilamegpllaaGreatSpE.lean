import Derived.Test.YthmiilamegpllaaGreatHeaW
import Derived.Test.YthmiilamegpllaaGreatV3P
import Derived.Test.YthmiilamegpllaaGreatRows
set_option linter.unusedVariables false
set_option linter.unusedSimpArgs false
namespace Go.Proofs.YthmiilamegpllaaGreat
open Go Go.V3
def Has (s:Sp) (i:AH) (l:List Int):Prop:=(i.2.2.2.2=0/\l=[])\/(i.2.2.2.2≠0/\Pa s.2.2 i.2.2.1 l)
structure sZ (s:Sp) (i:AH) (l d r0:List Int) (fs:List Fr) (F L:Int):Prop where
 vs:VS (s.1,s.2.1,fs)
 len:fs.length=s.2.2.length
 split:DX s.2.2=d++r0
 fre:DX fs=r0
 path:(l++d=[]/\F= -1/\L= -1)\/(l++d≠[]/\Pa fs F (l++d)/\(l++d).getLast? =some L/\(fr fs F).1=i.1/\(fr fs F).2.1=i.2.1*4294967296+i.1)
 own:(owned fs i.1).length=(l++d).length
 oth:∀ q,q≠i.1->q≠-1->owned fs q=owned s.2.2 q
 frs:∀ x:Int,0<=x->x<s.2.2.length->(fr s.2.2 x).1≠-1->(fr s.2.2 x).1≠i.1->fr fs x=fr s.2.2 x
theorem Pa.head {fs:List Fr} {l:List Int} {i:Int} (h:Pa fs i l) (hl:l≠[]):0<=i/\i<fs.length/\i∈l:=by
 cases l with
 |nil=>exact absurd rfl hl
 |cons a r=>obtain⟨rfl,h0,h1,_⟩:=h;exact⟨h0,h1,by simp⟩
theorem sZ.step {s:Sp} {i:AH} {l d r:List Int} {f:Int} {fs:List Fr} {F L:Int} (h:sZ s i l d (f::r) fs F L) (q0:0<=i.1) (q1:i.1<=4294967295) (b0:0<=i.2.1) (b1:i.2.1<4):
  (F= -1->sZ s i l (d++ [f]) r (fs.set f.toNat (i.1,i.2.1*4294967296+i.1, -1)) f f)∧
  (F≠-1->(0<=L/\L<fs.length)/\sZ s i l (d++ [f]) r ((fs.set f.toNat (i.1,i.2.1*4294967296+i.1, -1)).set L.toNat
   ((fr (fs.set f.toNat (i.1,i.2.1*4294967296+i.1, -1)) L).1,(fr (fs.set f.toNat (i.1,i.2.1*4294967296+i.1, -1)) L).2.1,f)) F f):=by
 obtain⟨⟨f0,f1⟩,f2,f3⟩:=mF h.fre
 obtain⟨v1,nx1⟩:=h.vs.take (f:=f) (o:=i.1) (b:=i.2.1) f0 f1 f2 q0 q1 b0 b1
 simp only at v1 nx1
 obtain⟨o1,o2,o3⟩:=AKI (fs:=fs) (o:=i.1) (st:=i.2.1*4294967296+i.1) h.fre (by omega)
 have MY:∀ x:Int,0<=x->fr (fs.set f.toNat (i.1,i.2.1*4294967296+i.1, -1)) x=if x=f then (i.1,i.2.1*4294967296+i.1, -1) else fr fs x:=fun x hx=>XI f0 f1 hx
 have yC:=(h.vs.free (i:=f) f0 f1 f2).1
 have nxf:nx (fs.set f.toNat (i.1,i.2.1*4294967296+i.1, -1)) f= -1:=by
  rw[nx1 f f0 f1,I4 f0 f1];rw[show fr fs f=_ from yC]
 have pf:Pa (fs.set f.toNat (i.1,i.2.1*4294967296+i.1, -1)) f [f]:=⟨rfl,f0,by simpa using f1,nxf⟩
 have ATC:DX s.2.2=(d++ [f])++r:=by rw[h.split];simp
 have A19:∀ x:Int,0<=x->x<s.2.2.length->(fr s.2.2 x).1≠-1->(fr s.2.2 x).1≠i.1->fr (fs.set f.toNat (i.1,i.2.1*4294967296+i.1, -1)) x=fr s.2.2 x:=by
  intro x x0 x1 x2 x3
  have hx:=h.frs x x0 x1 x2 x3
  rw[MY x x0,AD,hx]
  rintro rfl
  rw[hx] at f2;exact x2 f2
 refine⟨fun hF=> ?_,fun hF=> ?_⟩
 ·have U5:l++d=[]:=by
   rcases h.path with h1|h1
   ·exact h1.1
   ·have:=(Pa.head h1.2.1 h1.1).1;omega
  refine⟨v1,by simp [h.len],ATC,o1,.inr ?_, ?_,fun q h1 h2=>(o3 q h1 h2).trans (h.oth q h1 h2),A19⟩
  ·rw[<-J_,U5,tJ,MY f f0,AA rfl]
   exact⟨by simp,pf,rfl,rfl,rfl⟩
  ·rw[o2,h.own,←J_,U5];rfl
 ·rcases h.path with h1|⟨h1,h2,h3,h4,h5⟩
  ·exact absurd h1.2.1 hF
  obtain⟨l1,l2⟩:=Pa.last h2 h3
  obtain⟨L0,L1⟩:=Pa.mem h2 l2
  obtain⟨F0,F1,F2⟩:=Pa.head h2 h1
  have C1:=h.vs.owner h2 L l2
  simp only at C1
  rw[h4,h5] at C1
  have hLf:L≠f:=by rintro rfl;rw[C1.1] at f2;omega
  have e1:fr (fs.set f.toNat (i.1,i.2.1*4294967296+i.1, -1)) L=fr fs L:=by rw[MY L L0,AD hLf]
  have e2:fr (fs.set f.toNat (i.1,i.2.1*4294967296+i.1, -1)) f=(i.1,i.2.1*4294967296+i.1, -1):=by rw[MY f f0,AA rfl]
  have hlen:(fs.set f.toNat (i.1,i.2.1*4294967296+i.1, -1)).length=fs.length:=by simp
  obtain⟨v2,p2⟩:=v1.link (a:=L) (f:=f) (lf:=[f]) L0 (by simp only;omega) f0 (by simp only;omega) (by simp only;rw[e1,C1.1];omega) (by simp only;rw[nx1 L L0 L1];exact l1)
   (by simp only;rw[e1,e2,C1.1]) (by simp only;rw[e1,e2,C1.2]) (by
    simp only
    intro j j0 j1 hj
    rw[nx1 j j0 (by omega)] at hj
    have CU:nx fs j≠-1:=by omega
    rw[I4 j0 (by omega)] at hj CU
    rcases h.vs.fr j j0 (by simp only;omega) with ⟨g1,_⟩|g1
    ·rw[show fr fs j=_ from g1] at CU;exact CU rfl
    ·have:=(g1.2.2.2.2 CU).1
     simp only at this
     rw[hj,f2] at this
     have:=g1.1.1
     simp only at this
     omega) pf (by simp [hLf])
  simp only at v2 p2
  have ow:∀ q,owned ((fs.set f.toNat (i.1,i.2.1*4294967296+i.1, -1)).set L.toNat ((fr (fs.set f.toNat (i.1,i.2.1*4294967296+i.1, -1)) L).1,(fr (fs.set f.toNat (i.1,i.2.1*4294967296+i.1, -1)) L).2.1,f)) q=owned (fs.set f.toNat (i.1,i.2.1*4294967296+i.1, -1)) q:=fun q=>by
   refine AKJ L0 (by omega) ?_ q
   rfl
  refine⟨⟨L0,L1⟩,v2,by simp [h.len],ATC, ?_,.inr ⟨by simp, ?_,by simp, ?_, ?_⟩, ?_, ?_, ?_⟩
  ·exact (ow (-1)).trans o1
  ·have:=p2 (l++d) F (h2.congr (by simp) nx1)
   rw[AA l2] at this
   rw[<-J_];exact this
  ·rw[XI L0 (by omega) F0]
   split
   ·rw[e1,C1.1]
   ·rw[MY F F0,AD]
    ·exact h4
    ·rintro rfl;rw[h4] at f2;omega
  ·rw[XI L0 (by omega) F0]
   split
   ·rw[e1];exact C1.2
   ·rw[MY F F0,AD]
    ·exact h5
    ·rintro rfl;rw[h4] at f2;omega
  ·rw[ow,o2,h.own];simp;omega
  ·intro q g1 g2
   rw[ow,o3 q g1 g2];exact h.oth q g1 g2
  ·intro x x0 x1 x2 x3
   rw[XI L0 (by omega) x0,AD]
   ·exact A19 x x0 x1 x2 x3
   ·rintro rfl
    have:=A19 x x0 x1 x2 x3
    rw[e1] at this
    rw[<-this,C1.1] at x3
    exact x3 rfl
def AHK (q st:Int) (x:List Fr×Int×Int):List Fr×Int×Int:=match DX x.1 with
 | []=>x
 |f::_=>if x.2.1= -1 then (x.1.set f.toNat (q,st, -1),f,f) else
   ((x.1.set f.toNat (q,st, -1)).set x.2.2.toNat ((fr (x.1.set f.toNat (q,st, -1)) x.2.2).1,(fr (x.1.set f.toNat (q,st, -1)) x.2.2).2.1,f),x.2.1,f)
def gw (q st:Int):Nat->List Fr×Int×Int->List Fr×Int×Int
 |0,x=>x
 |k+1,x=>AHK q st (gw q st k x)
structure Grown (s:Sp) (i:AH) (n:Int) (t:Sp) (j:AH) (a:Int) (l l' :List Int):Prop where
 vs:VS t
 fit:EJ t j
 sh:t.1=s.1
 ws:t.2.1=s.2.1
 len:t.2.2.length=s.2.2.length
 seq:j.1=i.1
 j9:j.2.1=i.2.1
 words:j.2.2.2.2=i.2.2.2.2+n
 first:i.2.2.2.2≠0->j.2.2.1=i.2.2.1
 has:Has s i l
 path:Pa t.2.2 j.2.2.1 l'
 more:l' =l++(DX s.2.2).take (l'.length-l.length)
 fre:DX t.2.2=(DX s.2.2).drop (l'.length-l.length)
 A7R:(l.length:Int)=cl (sz s.1) i.2.2.2.2
 A1A :(l'.length:Int)=cl (sz s.1) (i.2.2.2.2+n)
 own:(owned t.2.2 i.1).length=l'.length
 oth:∀ q,q≠i.1->q≠-1->owned t.2.2 q=owned s.2.2 q
 frs:∀ x:Int,0<=x->x<s.2.2.length->(fr s.2.2 x).1≠-1->(fr s.2.2 x).1≠i.1->fr t.2.2 x=fr s.2.2 x
 J9:DY (sz s.1) l' i.2.2.2.2=some a
 gw:(t.2.2,j.2.2.1,j.2.2.2.1)=gw i.1 (i.2.1*4294967296+i.1) (cl (sz s.1) (i.2.2.2.2+n)-cl (sz s.1) i.2.2.2.2).toNat (s.2.2,i.2.2.1,i.2.2.2.1)
theorem EJ.has {s:Sp} {i:AH} (h:EJ s i) (hv:VS s):∃ l,Has s i l/\(l.length:Int)=cl (sz s.1) i.2.2.2.2/\(i.2.2.2.2≠0->l.length=(owned s.2.2 i.1).length/\l.getLast? =some i.2.2.2.1/\l≠[]):=by
 rcases h.2 with ⟨h1,h2,h3⟩|⟨h1,h2,h3,h4,l,h5,h6,h7,h8⟩
 ·exact⟨[],.inl ⟨h1,rfl⟩,by rw[h1,ANA (CM _)];rfl,fun h=>absurd h1 h⟩
 ·refine⟨l,.inr ⟨h1,h5⟩,h6,fun _=>⟨h7,h8, ?_⟩⟩
  rintro rfl;simp at h8
theorem yE {s:Sp} (h:VS s) {i:AH} (h0:0<=i.2.2.2.2) (h1:i.2.2.2.2<=16384) {n:Int} (n0:0<=n) (n1:n<=1000):ER s i n=some (cl (sz s.1) (i.2.2.2.2+n)-cl (sz s.1) i.2.2.2.2):=by
 have z:=CM s.1
 have z2:=LF h.sh
 have c1:=OX (n:=i.2.2.2.2+n) z
 have c2:=YW z (show 0<=i.2.2.2.2+n by omega)
 have c3:=YW z h0
 have c4:=OX (n:=i.2.2.2.2) z
 have b1:cl (sz s.1) (i.2.2.2.2+n)*1<=cl (sz s.1) (i.2.2.2.2+n)*sz s.1:=AEW (by omega) c2
 have b2:cl (sz s.1) i.2.2.2.2*1<=cl (sz s.1) i.2.2.2.2*sz s.1:=AEW (by omega) c3
 unfold ER
 rw[AE (e:=i.2.2.2.2+n) (by omega) (by omega),AN8 h.sh (by omega) (by omega),RR h h0 (by omega)]
 simp only[AZ]
 rw[AE (by omega) (by omega)]
theorem AE2 {s:Sp} (h:VS s) {i:AH} (hf:EJ s i) (C1:i.2.2.2.2=0->owned s.2.2 i.1=[]) {n:Int} (n0:1<=n) (n1:n<=48):
  (((DX s.2.2).length:Int)<cl (sz s.1) (i.2.2.2.2+n)-cl (sz s.1) i.2.2.2.2/\CR s i n=some ((0,0,0,0,0),0,4,s.2.1,s.2.2))∨
  (cl (sz s.1) (i.2.2.2.2+n)-cl (sz s.1) i.2.2.2.2<=(DX s.2.2).length/\∃ t j a l l',CR s i n=some (j,a,0,t.2.1,t.2.2)/\Grown s i n t j a l l'):=by
 have pQ:=VS.PO h
 have hn:=h.n.2
 have z:=CM s.1
 have z2:=LF h.sh
 obtain⟨⟨q0,q1,b0,b1,w0,w1⟩,tM⟩:=id hf
 obtain⟨l,hl1,lB,hl3⟩:=hf.has h
 have sB:=AN9 z (show i.2.2.2.2<=i.2.2.2.2+n by omega)
 have A7M:(DX s.2.2).length<=s.2.2.length:=VD s.2.2 (-1)
 unfold CR
 rw[yE h w0 (by omega) (by omega) (by omega),uV hn]
 simp only[AZ]
 by_cases hc:cl (sz s.1) (i.2.2.2.2+n)-cl (sz s.1) i.2.2.2.2>((DX s.2.2).length:Int)
 ·rw[AA hc];exact .inl ⟨hc,rfl⟩
 rw[AD hc]
 refine .inr ⟨by omega, ?_⟩
 have A1B:sZ s i l [] (DX s.2.2) s.2.2 i.2.2.1 i.2.2.2.1:=by
  refine⟨h,rfl,rfl,rfl, ?_, ?_,fun q _ _=>rfl,fun x _ _ _ _=>rfl⟩
  ·rcases hl1 with ⟨g1,rfl⟩|⟨g1,g2⟩
   ·rcases tM with ⟨_,g3,g4⟩|⟨g3,_⟩
    ·exact .inl ⟨rfl,g3,g4⟩
    ·exact absurd g1 g3
   ·rcases tM with ⟨g3,_⟩|⟨_,g3,g4,g5,_⟩
    ·exact absurd g3 g1
    ·rw[HH]
     exact .inr ⟨(hl3 g1).2.2,g2,(hl3 g1).2.1,g4,g5⟩
  ·rw[HH]
   by_cases hw:i.2.2.2.2=0
   ·rw[C1 hw]
    rcases hl1 with ⟨g1,rfl⟩|⟨g1,_⟩
    ·rfl
    ·exact absurd hw g1
   ·exact (hl3 hw).1.symm
 generalize A4F:cl (sz s.1) (i.2.2.2.2+n)-cl (sz s.1) i.2.2.2.2=need at hc ⊢
 have hx:=RP (β:=((Int×Int×Int×Int×Int)×Int×Int×(List (BitVec 64))×(List (Int×Int×Int)))) (f:=fun s1:Int×(Int×Int×Int×Int×Int)×(List (BitVec 64))×(List (Int×Int×Int))=>
   if s1.1>0 then
   Option.bind (IK (s.1,s1.2.2) s1.2.1.1 s1.2.1.2.1) (fun r3=>
   if s1.2.1.2.2.1=(-1) then
   some (Sum.inl ((AG (s1.1-1),(s1.2.1.1,s1.2.1.2.1,r3.1,r3.1,s1.2.1.2.2.2.2),r3.2.1,r3.2.2)))
   else if 0<=s1.2.1.2.2.2.1/\s1.2.1.2.2.2.1<(r3.2.2.length:Int) then
   some (Sum.inl ((AG (s1.1-1),(s1.2.1.1,s1.2.1.2.1,s1.2.1.2.2.1,r3.1,s1.2.1.2.2.2.2),r3.2.1,r3.2.2.set s1.2.1.2.2.2.1.toNat ((gl (0,0,0) r3.2.2 s1.2.1.2.2.2.1.toNat).1,((gl (0,0,0) r3.2.2 s1.2.1.2.2.2.1.toNat).2).1,r3.1))))
   else none)
   else Option.map Sum.inr (if True then
   Option.bind (BF (s.1,s1.2.2) (AG (s1.2.1.2.2.1*2 ^ min (BitVec.ofInt 64 s.1).toNat 64)) i.2.2.2.2) (fun r4=>
   some (((s1.2.1.1,s1.2.1.2.1,s1.2.1.2.2.1,s1.2.1.2.2.2.1,AG (s1.2.1.2.2.2.2+n)),r4.1,0,s1.2.2.1,s1.2.2.2)))
   else none))
  (fun m st=>st.1=(m:Int)/\(m:Int)<=need/\∃ d r0,(d.length:Int)+m=need/\st.2.1.1=i.1/\st.2.1.2.1=i.2.1/\st.2.1.2.2.2.2=i.2.2.2.2/\st.2.2.1=s.2.1/\sZ s i l d r0 st.2.2.2 st.2.1.2.2.1 st.2.1.2.2.2.1/\(i.2.2.2.2≠0->st.2.1.2.2.1=i.2.2.1)/\(st.2.2.2,st.2.1.2.2.1,st.2.1.2.2.2.1)=gw i.1 (i.2.1*4294967296+i.1) d.length (s.2.2,i.2.2.1,i.2.2.2.1))
  (fun b=>∃ t j a l',b=(j,a,0,t.2.1,t.2.2)/\Grown s i n t j a l l') ?_ need.toNat (need,i,s.2.1,s.2.2) ⟨by omega,by omega,[],DX s.2.2,by simp;omega,rfl,rfl,rfl,rfl,A1B,fun _=>rfl,rfl⟩
 ·obtain⟨b,hb,t,j,a,l',rfl,hg⟩:=hx
  exact⟨t,j,a,l,l',hb,hg⟩
 ·rintro m ⟨k,⟨sq,bt,F,L,wd⟩,ws,fs⟩ ⟨e1,e2,d,r0,e3,e4,e5,e6,e7,hg,AE3,hgw⟩
  simp only at e1 e4 e5 e6 e7 hg AE3 hgw ⊢
  subst e1 e4 e5 e6 e7
  by_cases hm:m=0
  ·subst hm
   left
   rw[AD (by omega),AA trivial,P4 h.sh]
   have hld:((l++d).length:Int)=cl (sz s.1) (i.2.2.2.2+n):=by simp;omega
   have XF:0<cl (sz s.1) (i.2.2.2.2+n):=AKP z (by omega)
   rcases hg.path with h1|⟨g1,g2,g3,g4,g5⟩
   ·rw[h1.1] at hld;simp at hld;omega
   obtain⟨F0,F1,_⟩:=Pa.head g2 g1
   have hFz:=LN h.sh F0 (show F<=64 by have:=hg.len;omega)
   have hFw:F*sz s.1<s.2.1.length:=by
    rw[h.w]
    exact AL8 (by have:=hg.len;omega) z
   have ha:=RQ z (g:=F) (o:=0) (by omega) z
   rw[aJ] at ha
   have hcs:=OX (n:=i.2.2.2.2+n) z
   obtain⟨g,hg1,hg2⟩:=TR z (l:=l++d) (off:=i.2.2.2.2) w0 (by rw[hld];omega)
   have hgo:=kS hg.vs (a:=F*sz s.1) (k:=i.2.2.2.2) hFz.1 hFw (by simp only;rw[ha.1,g4];omega) w0 (by omega) (l:=l++d) (by simp only;rw[ha.1];exact g2)
   simp only at hgo
   rw[ha.2,Int.zero_add,hg2] at hgo
   rw[AE (e:=F*sz s.1) (by omega) (by omega),hgo,AE (by omega) (by omega)]
   refine⟨_,rfl,(s.1,s.2.1,fs),(i.1,i.2.1,F,L,i.2.2.2.2+n),_,l++d,rfl, ?_⟩
   have yD:=Pa.length g2
   have hlw:i.2.2.2.2+n<=s.2.1.length:=by
    have:cl (sz s.1) (i.2.2.2.2+n)*sz s.1<=s.2.2.length*sz s.1:=AEV (by have:=hg.len;omega) (by omega)
    rw[h.w];omega
   have PL:(l++d).length-l.length=d.length:=by simp
   refine⟨hg.vs,⟨⟨q0,q1,b0,b1,by simp only;omega,hlw⟩,.inr ⟨by simp only;omega,⟨F0,by simp only;omega⟩,g4,g5,l++d,g2,hld,hg.own.symm,g3⟩⟩,rfl,rfl,hg.len,rfl,rfl,rfl,AE3,hl1,g2, ?_, ?_,lB,hld,hg.own,hg.oth,hg.frs,hg2, ?_⟩
   ·rw[PL,hg.split,List.take_left]
   ·rw[PL,hg.split,List.drop_left];exact hg.fre
   ·have e:need.toNat=d.length:=by omega
    rw[A4F,e];exact hgw
  ·right
   rw[AA (by omega)]
   have hr0:0<r0.length:=by
    have:=PR List.length hg.split
    simp at this
    omega
   cases r0 with
   |nil=>simp at hr0
   |cons f r=>
    rw[AX5 (by have:=hg.len;simp only;omega) (show DX (s.1,s.2.1,fs).2.2=f::r from hg.fre) q0 q1 b0 b1]
    simp only[AZ]
    obtain⟨s1,s2⟩:=hg.step q0 q1 b0 b1
    rw[AE (e:=(m:Int)-1) (by omega) (by omega)]
    have nT:gw i.1 (i.2.1*4294967296+i.1) (d++ [f]).length (s.2.2,i.2.2.1,i.2.2.2.1)=AHK i.1 (i.2.1*4294967296+i.1) (fs,F,L):=by
     rw[JK]
     show AHK _ _ (gw _ _ _ _)=_
     rw[hgw]
    have A4G:DX fs=f::r:=hg.fre
    by_cases hF:F= -1
    ·rw[AA hF]
     refine⟨m-1,_,by omega,rfl,by simp only;omega,by omega,d++ [f],r,by simp;omega,rfl,rfl,rfl,rfl,s1 hF,fun hw=> ?_,by rw[nT];simp only[AHK,A4G,AA hF]⟩
     have:=AE3 hw
     rcases tM with ⟨g1,_⟩|⟨_,g1,_⟩
     ·exact absurd g1 hw
     ·omega
    ·obtain⟨⟨s3,s4⟩,s5⟩:=s2 hF
     rw[AD hF,AA ⟨s3,by simpa using s4⟩]
     exact⟨m-1,_,by omega,rfl,by simp only;omega,by omega,d++ [f],r,by simp;omega,rfl,rfl,rfl,rfl,s5,AE3,by rw[nT];simp only[AHK,A4G,AD hF];rfl⟩
theorem ATD (s:Sp) (i:AH) (n:Int):
  (¬(VS s/\EJ s i/\1<=n/\n<=48)/\C_ s i n=some ((0,[],[]),(0,0,0,0,0),0,1))∨
  ((VS s/\EJ s i/\1<=n/\n<=48)/\(
   (i.2.2.2.2=0/\owned s.2.2 i.1≠[]/\C_ s i n=some ((0,[],[]),(0,0,0,0,0),0,5))∨
   ((i.2.2.2.2=0->owned s.2.2 i.1=[])/\(
    (((DX s.2.2).length:Int)<cl (sz s.1) (i.2.2.2.2+n)-cl (sz s.1) i.2.2.2.2/\C_ s i n=some ((0,[],[]),(0,0,0,0,0),0,4))∨
    (cl (sz s.1) (i.2.2.2.2+n)-cl (sz s.1) i.2.2.2.2<=(DX s.2.2).length/\∃ t j a l l',C_ s i n=some (t,j,a,0)/\Grown s i n t j a l l'))))):=by
 unfold C_
 obtain⟨b,h1,h2⟩:=AE1 s i
 rw[h1]
 simp only[AZ]
 by_cases hb:b=true
 rotate_left
 ·rw[AA (by simpa using hb)]
  exact .inl ⟨fun h=>hb (h2.2 ⟨h.1,h.2.1⟩),rfl⟩
 obtain⟨hv,hf⟩:=h2.1 hb
 rw[AD (by simp [hb])]
 by_cases c1:n<1
 ·rw[AA c1];exact .inl ⟨fun h=>by omega,rfl⟩
 rw[AD c1]
 by_cases c2:n>48
 ·rw[AA c2];exact .inl ⟨fun h=>by omega,rfl⟩
 rw[AD c2]
 refine .inr ⟨⟨hv,hf,by omega,by omega⟩, ?_⟩
 have key:(i.2.2.2.2=0->owned s.2.2 i.1=[])->∃ x,Option.bind (DR s) (fun r5=>
   Option.bind (CR r5 i n) (fun r6=>
   if ¬r6.2.2.1=0 then
   some (((0,[],[]),(0,0,0,0,0),0,r6.2.2.1))
   else some (((r5.1,r6.2.2.2),r6.1,r6.2.1,0))))=some x∧
    ((((DX s.2.2).length:Int)<cl (sz s.1) (i.2.2.2.2+n)-cl (sz s.1) i.2.2.2.2/\x=((0,[],[]),(0,0,0,0,0),0,4))∨
    (cl (sz s.1) (i.2.2.2.2+n)-cl (sz s.1) i.2.2.2.2<=(DX s.2.2).length/\∃ t j a l l',x=(t,j,a,0)/\Grown s i n t j a l l')):=by
  intro C1
  rw[VS.copy hv]
  simp only[AZ]
  rcases AE2 hv hf C1 (n:=n) (by omega) (by omega) with ⟨g1,g2⟩|⟨g1,t,j,a,l,l',g2,g3⟩
  ·rw[g2]
   exact⟨_,rfl,.inl ⟨g1,rfl⟩⟩
  ·rw[g2]
   simp only[AZ]
   rw[AD (by simp)]
   refine⟨_,rfl,.inr ⟨g1,t,j,a,l,l', ?_,g3⟩⟩
   rw[<-g3.sh]
 by_cases hw:i.2.2.2.2=0
 ·rw[AA hw]
  obtain⟨c,g1,g2⟩:=AX6 (s:=s) hv.n.2 i.1
  rw[g1]
  simp only[AZ]
  by_cases hc:c=true
  ·rw[AA hc];exact .inl ⟨hw,g2.1 hc,rfl⟩
  ·rw[AD hc]
   have C1:owned s.2.2 i.1=[]:=vF fun h=>hc (g2.2 h)
   obtain⟨x,k1,k2⟩:=key fun _=>C1
   rw[k1]
   refine .inr ⟨fun _=>C1, ?_⟩
   rcases k2 with ⟨k2,rfl⟩|⟨k2,t,j,a,l,l',rfl,k3⟩
   ·exact .inl ⟨k2,rfl⟩
   ·exact .inr ⟨k2,t,j,a,l,l',rfl,k3⟩
 ·rw[AD hw]
  obtain⟨x,k1,k2⟩:=key fun h=>absurd h hw
  rw[k1]
  refine .inr ⟨fun h=>absurd h hw, ?_⟩
  rcases k2 with ⟨k2,rfl⟩|⟨k2,t,j,a,l,l',rfl,k3⟩
  ·exact .inl ⟨k2,rfl⟩
  ·exact .inr ⟨k2,t,j,a,l,l',rfl,k3⟩
theorem XD {z:Int} (hz:0<z):∀ {l:List Int} {off a:Int},0<=off->DY z l off=some a->a / z∈l
 | [],_,_,_,h=>by cases h
 |g::r,off,a,h0,h=>by
  rw[DY] at h
  split at h
  ·rename_i h1
   simp only[BA] at h
   subst h
   rw[(RQ hz h0 h1).1];simp
  ·exact UY _ (XD hz (by omega) h)
theorem K_ {z:Int} (hz:0<z):∀ {l:List Int} {o1 o2 a:Int},l.Nodup->0<=o1->0<=o2->DY z l o1=some a->DY z l o2=some a->o1=o2
 | [],_,_,_,_,_,_,h,_=>by cases h
 |g::r,o1,o2,a,hd,h1,h2,e1,e2=>by
  obtain⟨n1,n2⟩:=WD.1 hd
  rw[DY] at e1 e2
  by_cases c1:o1<z
  ·rw[AA c1] at e1
   simp only[BA] at e1
   by_cases c2:o2<z
   ·rw[AA c2] at e2
    simp only[BA] at e2
    omega
   ·rw[AD c2] at e2
    have:=XD hz (by omega) e2
    rw[<-e1,(RQ hz h1 c1).1] at this
    exact absurd this n1
  ·rw[AD c1] at e1
   by_cases c2:o2<z
   ·rw[AA c2] at e2
    simp only[BA] at e2
    have:=XD hz (by omega) e1
    rw[<-e2,(RQ hz h2 c2).1] at this
    exact absurd this n1
   ·rw[AD c2] at e2
    have:=K_ hz n2 (by omega) (by omega) e1 e2
    omega
theorem RS:∀ {l m:List Int},l.Nodup->(∀ x∈l,x∈m)->l.length<=m.length
 | [],_,_,_=>by simp
 |a::r,m,hd,h=>by
  obtain⟨n1,n2⟩:=WD.1 hd
  have ha:=h a (by simp)
  have:=RS (m:=m.erase a) n2 (fun x hx=>(List.mem_erase_of_ne (show x≠a from fun e=>n1 (e ▸ hx))).2 (h x (by simp [hx])))
  rw[AQO ha] at this
  have:0<m.length:=AQS ha
  simp
  omega
def gZ (r d:Int):BitVec 64:=BitVec.ofInt 64 ((1+r+d)*256+r*2)
theorem uW {r d:Int} (r0:0<=r) (r1:r<=15) (d0:0<=d) (d1:d<=32):DT r d=some (gZ r d,0):=by
 unfold DT
 rw[AD (by omega),AD (by omega),AD (by omega),AD (by omega),AE (e:=1+r) (by omega) (by omega),AE (e:=1+r+d) (by omega) (by omega),AE (e:=(1+r+d)*256) (by omega) (by omega),AE (e:=r*2) (by omega) (by omega),AE (by omega) (by omega)]
 rfl
structure ANC (z:Int) (ws ws' :List (BitVec 64)) (l:List Int) (at' m:Int) (w:BitVec 64):Prop where
 len:ws'.length=ws.length
 head:∀ x,DY z l at' =some x->gl 0#64 ws' x.toNat=w
 fld:∀ k x,1<=k->k<=m->DY z l (at' +k)=some x->gl 0#64 ws' x.toNat=0#64
 oth:∀ x:Nat,(∀ k,0<=k->k<=m->DY z l (at' +k)≠some (x:Int))->gl 0#64 ws' x=gl 0#64 ws x
theorem AX7 {s:Sp} (h:VS s) {a r d:Int} (a0:0<=a) (a1:a<s.2.1.length) (hu:(fr s.2.2 (a / sz s.1)).1≠-1) {l:List Int} (hl:Pa s.2.2 (a / sz s.1) l)
  (r0:0<=r) (r1:r<=15) (d0:0<=d) (d1:d<=32) {e:Int} (he:DY (sz s.1) l (a%sz s.1+(r+d))=some e):
  ∃ ws,GR s a r d=some (0,ws,s.2.2)/\VS (s.1,ws,s.2.2)/\ANC (sz s.1) s.2.1 ws l (a%sz s.1) (r+d) (gZ r d):=by
 have pQ:=VS.PO h
 have z:=CM s.1
 have m0:=mW a (show sz s.1≠0 by omega)
 have m1:=rQ a z
 have DO:=ADY z (by omega) he
 have CU:l≠[]:=by rintro rfl;cases he
 have xP:DY (sz s.1) l (a%sz s.1)=some a:=by
  cases l with
  |nil=>exact absurd rfl CU
  |cons b q=>
   obtain⟨rfl,_⟩:=hl
   rw[DY,AA m1,AAJ,ALH]
 have hpl:∀ k,0<=k->k<=r+d->∃ x,DY (sz s.1) l (a%sz s.1+k)=some x/\0<=x/\x<s.2.1.length/\(fr s.2.2 (x / sz s.1)).1≠-1:=by
  intro k k0 k1
  obtain⟨g,hg1,hg2⟩:=TR z (l:=l) (off:=a%sz s.1+k) (by omega) (by omega)
  have hm:=XD z (by omega) hg2
  obtain⟨x0,x1⟩:=hl.mem hm
  refine⟨_,hg2, ?_, ?_, ?_⟩
  ·have:=(ACA z).1 x0;omega
  ·rw[h.w];exact (AF0 z).1 x1
  ·rw[(h.owner hl _ hm).1];exact hu
 unfold GR
 rw[uW r0 r1 d0 d1,AE (e:=r+d) (by omega) (by omega)]
 simp only[AZ]
 rw[AD (by simp),kS h a0 a1 hu (by omega) (by omega) hl,he]
 simp only[AZ,cK]
 rw[AD (by simp),AA ⟨a0,a1⟩]
 have hx:=AO (β:=Int×List (BitVec 64)×List (Int×Int×Int)) (f:=fun s1:Int×List (BitVec 64)=>
   if s1.1<=r+d then
   Option.bind (BF (s.1,s1.2,s.2.2) a s1.1) (fun r3=>
   if 0<=r3.1/\r3.1<(s1.2.length:Int) then
   some (Sum.inl ((AG (s1.1+1),s1.2.set r3.1.toNat (0#64))))
   else none)
   else some (Sum.inr ((0,s1.2,s.2.2))))
  (fun k st=>st.1=(k:Int)+1/\(k:Int)<=r+d/\VS (s.1,st.2,s.2.2)/\ANC (sz s.1) s.2.1 st.2 l (a%sz s.1) k (gZ r d))
  (fun b=>∃ ws,b=(0,ws,s.2.2)/\VS (s.1,ws,s.2.2)/\ANC (sz s.1) s.2.1 ws l (a%sz s.1) (r+d) (gZ r d)) (r+d).toNat ?_ ?_ (s:=(1,s.2.1.set a.toNat (gZ r d)))
  ⟨rfl,by simp;omega,h.word a0 hu _, ?_⟩
 ·obtain⟨b,hb,ws,rfl,h1,h2⟩:=hx
  exact⟨ws,hb,h1,h2⟩
 ·rintro k ⟨q,ws⟩ hk ⟨h1,h2,h3,h4⟩
  simp only at h1 h3 h4 ⊢
  subst h1
  obtain⟨x,x0,x1,x2,x3⟩:=hpl (k+1) (by omega) (by omega)
  have hgo:=kS h3 (a:=a) (k:=(k:Int)+1) a0 (by simp only;rw[h4.len];exact a1) hu (by omega) (by omega) (l:=l) hl
  simp only at hgo
  rw[x0] at hgo
  rw[AA (by omega),hgo]
  simp only[AZ,cK]
  rw[AA ⟨x1,by rw[h4.len];exact x2⟩,AE (by omega) (by omega)]
  refine .inl ⟨_,rfl,by simp only;omega,by omega,h3.word x1 x3 _,by simpa using h4.len,fun y hy=> ?_,fun j y j0 j1 hy=> ?_,fun y hy=> ?_⟩
  ·have hxy:y.toNat≠x.toNat:=by
    intro he
    rw[xP] at hy
    simp only[BA] at hy
    subst hy
    have:x=a:=by omega
    subst this
    have:=K_ z hl.nodup m0 (by omega) xP x0
    omega
   rw[D5 (by rw[h4.len];omega),AD hxy]
   exact h4.head y hy
  ·rw[D5 (by rw[h4.len];omega)]
   by_cases kL:j=k+1
   ·subst kL
    rw[x0] at hy
    simp only[BA] at hy
    rw[AA (by rw[hy])]
   ·split
    ·rfl
    ·exact h4.fld j y j0 (by omega) hy
  ·rw[D5 (by rw[h4.len];omega),AD]
   ·exact h4.oth y fun j j0 j1=>hy j j0 (by omega)
   ·intro he
    exact hy (k+1) (by omega) (by omega) (by rw[x0];congr 1;omega)
 ·rintro⟨q,ws⟩ ⟨h1,h2,h3,h4⟩
  simp only at h1 h3 h4 ⊢
  rw[AD (by omega)]
  rw[show (((r+d).toNat:Nat):Int)=r+d from by omega] at h4
  exact⟨_,rfl,ws,rfl,h3,h4⟩
 ·refine⟨by simp,fun x hx=> ?_,fun k x k0 k1=>by simp at k1;omega,fun x hx=> ?_⟩
  ·rw[xP] at hx
   simp only[BA] at hx
   subst hx
   rw[D5 (by omega),AA rfl]
  ·rw[D5 (by omega),AD]
   rintro rfl
   exact hx 0 (by omega) (by simp) (by rw[aJ,xP];congr 1;omega)
def EB (z:Int) (ws:List (BitVec 64)) (l:List Int):Int->List (Int×Int)->Int->Prop
 |at',[],w=>at' =w
 |at',o::r,w=>((0<=o.1/\o.1<=15)/\(0<=o.2/\o.2<=32))/\(∃ a,DY z l at' =some a/\gl 0#64 ws a.toNat=gZ o.1 o.2)/\EB z ws l (at' +(1+o.1+o.2)) r w
theorem EB.le {z:Int} {ws:List (BitVec 64)} {l:List Int}:∀ {os:List (Int×Int)} {at' w:Int},EB z ws l at' os w->at' <=w
 | [],_,_,h=>by rw[EB] at h;omega
 |o::r,at',w,h=>by have:=h.2.2.le;have:=h.1;omega
theorem EB.CK {z:Int} {ws ws' :List (BitVec 64)} {l l' :List Int}:∀ {os:List (Int×Int)} {at' w:Int},EB z ws l at' os w→
  (∀ p a,at' <=p->p<w->DY z l p=some a->DY z l' p=some a/\gl 0#64 ws' a.toNat=gl 0#64 ws a.toNat)->EB z ws' l' at' os w
 | [],_,_,h,_=>h
 |o::r,at',w,h,hk=>by
  obtain⟨h1,⟨a,h2,h3⟩,h4⟩:=h
  have:=h4.le
  obtain⟨k1,k2⟩:=hk at' a (by omega) (by omega) h2
  exact⟨h1,⟨a,k1,k2.trans h3⟩,h4.CK fun p b p0 p1 hp=>hk p b (by omega) p1 hp⟩
theorem EB.snoc {z:Int} {ws:List (BitVec 64)} {l:List Int} {r d a:Int} (hr:0<=r/\r<=15) (hd:0<=d/\d<=32):∀ {os:List (Int×Int)} {at' w:Int},EB z ws l at' os w->DY z l w=some a->gl 0#64 ws a.toNat=gZ r d→
  EB z ws l at' (os++ [(r,d)]) (w+(1+r+d))
 | [],at',w,h,ha,hw=>by
  rw[EB] at h
  subst h
  exact⟨⟨hr,hd⟩,⟨a,ha,hw⟩,rfl⟩
 |o::q,at',w,h,ha,hw=>⟨h.1,h.2.1,h.2.2.snoc hr hd ha hw⟩
def Full (s:Sp) (i:AH) (os:List (Int×Int)):Prop:=∃ l,Has s i l/\EB (sz s.1) s.2.1 l 0 os i.2.2.2.2
theorem Grown.other {s:Sp} {i:AH} {n:Int} {t:Sp} {j:AH} {a:Int} {l l' :List Int} (h:VS s) (g:Grown s i n t j a l l') {p:AH} (hp:EJ s p) (CU:p.1≠i.1):
  EJ t p/\(∀ lp,Has s p lp->Has t p lp/\∀ x∈lp,(fr t.2.2 x).1=p.1):=by
 have C1:∀ lp,p.2.2.2.2≠0->Pa s.2.2 p.2.2.1 lp->(∀ x∈lp,fr t.2.2 x=fr s.2.2 x/\(fr t.2.2 x).1=p.1)/\Pa t.2.2 p.2.2.1 lp:=by
  intro lp hw hpa
  rcases hp.2 with ⟨h1,_⟩|⟨_,h2,h3,h4,_⟩
  ·exact absurd h1 hw
  ·have hx:∀ x∈lp,fr t.2.2 x=fr s.2.2 x/\(fr t.2.2 x).1=p.1:=by
    intro x hx
    obtain⟨x0,x1⟩:=hpa.mem hx
    have ho:=(h.owner hpa x hx).1
    rw[h3] at ho
    have:=hp.1.1
    have e:=g.frs x x0 x1 (by omega) (by omega)
    exact⟨e,by rw[e];exact ho⟩
   refine⟨hx,hpa.mE g.len fun x hm=> ?_⟩
   obtain⟨x0,x1⟩:=hpa.mem hm
   rw[I4 x0 x1,I4 x0 (by rw[g.len];exact x1),(hx x hm).1]
 refine⟨⟨by rw[g.ws];exact hp.1, ?_⟩, ?_⟩
 ·rcases hp.2 with h1|⟨h1,h2,h3,h4,lp,h5,h6,h7,h8⟩
  ·exact .inl h1
  ·obtain⟨k1,k2⟩:=C1 lp h1 h5
   have A6N:lp≠[]:=by rintro rfl;simp at h8
   obtain⟨f0,f1,f2⟩:=Pa.head h5 A6N
   refine .inr ⟨h1,by rw[g.len];exact h2, ?_, ?_,lp,k2,by rw[g.sh];exact h6, ?_,h8⟩
   ·rw[(k1 _ f2).1];exact h3
   ·rw[(k1 _ f2).1];exact h4
   ·rw[g.oth p.1 CU (by have:=hp.1.1;omega)];exact h7
 ·intro lp hlp
  rcases hlp with ⟨h1,rfl⟩|⟨h1,h2⟩
  ·exact⟨.inl ⟨h1,rfl⟩,fun x hx=>by cases hx⟩
  ·obtain⟨k1,k2⟩:=C1 lp h1 h2
   exact⟨.inr ⟨h1,k2⟩,fun x hx=>(k1 x hx).2⟩
theorem APN {s:Sp} {i:AH} (h:VS s) (hf:EJ s i) (hw:i.2.2.2.2≠0) {x:Int} (hx:x∈owned s.2.2 i.1) {l:List Int} (hl:Has s i l):x∈l:=by
 rcases hl with ⟨h1,_⟩|⟨_,hp⟩
 ·exact absurd h1 hw
 rcases hf.2 with ⟨h1,_⟩|⟨_,_,h3,_,l2,h5,_,h7,_⟩
 ·exact absurd h1 hw
 have:=hp.fn h5
 subst this
 apply vF
 intro hn
 have KP:∀ y∈l,y∈(owned s.2.2 i.1).erase x:=by
  intro y hy
  rw[(TQ _ _).mem_erase_iff]
  refine⟨fun e=>hn (e ▸ hy),CB.2 ⟨hp.mem hy,by rw[(h.owner hp y hy).1];exact h3⟩⟩
 have hle:=RS hp.nodup KP
 rw[AQO hx] at hle
 have:0<(owned s.2.2 i.1).length:=AQS hx
 omega
structure Mk (s:Sp) (l:List (AH)) (i:AH):Prop where
 vs:VS s
 sh:s.1<=4
 n:s.2.2.length<=10
 fits:∀ p∈l,EJ s p/\0<p.2.2.2.2/\p.2.1<3/\p.1<i.1/\∃ os,Full s p os
 cur:EJ s i
 own:i.2.2.2.2=0->owned s.2.2 i.1=[]
 full:∃ os,Full s i os
 all:∀ x:Int,0<=x->x<s.2.2.length->(fr s.2.2 x).1≠-1->(fr s.2.2 x).1=i.1\/∃ p∈l,p.1=(fr s.2.2 x).1
structure oX (s:Sp) (i:AH) (r d:Int) (u:Sp) (j:AH) (a:Int) (l l' :List Int):Prop where
 grown:Grown s i (1+r+d) (s.1,s.2.1,u.2.2) j a l l'
 vs:VS u
 sh:u.1=s.1
 wr:ANC (sz s.1) s.2.1 u.2.1 l' i.2.2.2.2 (r+d) (gZ r d)
theorem EJ.words {s:Sp} {ws:List (BitVec 64)} {p:AH} (hl:ws.length=s.2.1.length) (h:EJ s p):EJ (s.1,ws,s.2.2) p:=by
 refine⟨?_,h.2⟩
 obtain⟨a,b,c,d,e,f⟩:=h.1
 exact⟨a,b,c,d,e,by simp only;omega⟩
theorem AX8 {s:Sp} (h:VS s) {i:AH} {r d:Int} (r0:0<=r) (r1:r<=15) (d0:0<=d) (d1:d<=32) {t:Sp} {j:AH} {a:Int} {l l' :List Int} (hf:EJ s i) (g:Grown s i (1+r+d) t j a l l'):
  ∃ u,GR t a r d=some (0,u.2.1,u.2.2)/\u.2.2=t.2.2/\oX s i r d u j a l l' :=by
 have z:=CM s.1
 have hw:=hf.1.2.2.2.2.1
 have hgr:Grown s i (1+r+d) (s.1,s.2.1,t.2.2) j a l l' :=by
  rw[<-g.sh,←g.ws];exact g
 have DO:=ADY z hw g.J9
 obtain⟨l2,p1,⟨p2,p3,p4⟩,p5⟩:=QL z g.path hw g.J9 (bC 0)
 have nT:∀ k,0<=k->DY (sz s.1) l2 (a%sz s.1+k)=DY (sz s.1) l' (i.2.2.2.2+k):=by
  intro k k0
  obtain⟨l3,q1,_,q2⟩:=QL z g.path hw g.J9 k0
  rw[p1.fn q1];exact q2
 have hc:=OX (n:=i.2.2.2.2+(1+r+d)) z
 rw[<-g.A1A] at hc
 obtain⟨_,_,A6O⟩:=TR z (l:=l') (off:=i.2.2.2.2+(r+d)) (by omega) (by omega)
 have C1:∀ x∈l',(fr t.2.2 x).1=i.1:=by
  intro x hx
  have AP2:=g.fit
  have:=(g.vs.owner g.path x hx).1
  rcases AP2.2 with ⟨h1,_⟩|⟨_,_,h3,_⟩
  ·rw[g.words] at h1;omega
  ·rw[this,h3,g.seq]
 have hu:(fr t.2.2 (a / sz t.1)).1≠-1:=by
  rw[g.sh,C1 _ p4];have:=hf.1.1;omega
 have ha0:0<=a:=by
  have:=(ACA z).1 p2;omega
 have ha1:a<t.2.1.length:=by
  rw[g.vs.w,g.sh];exact (AF0 z).1 p3
 obtain⟨ws,h1,h2,h3⟩:=AX7 g.vs ha0 ha1 hu (l:=l2) (by rw[g.sh];exact p1) r0 r1 d0 d1 (e:=_) (by rw[g.sh,nT _ (by omega)];exact A6O)
 refine⟨(t.1,ws,t.2.2),h1,rfl,hgr,h2,g.sh, ?_⟩
 rw[g.sh,g.ws] at h3
 refine⟨h3.len,fun x hx=>h3.head x ?_,fun k x k0 k1 hx=>h3.fld k x k0 k1 (by rw[nT k (by omega)];exact hx),fun x hx=>h3.oth x fun k k0 k1=>by rw[nT k k0];exact hx k k0 k1⟩
 rw[<-aJ (a%sz s.1),nT 0 (by omega),aJ];exact hx
theorem oX.other {s:Sp} {i:AH} {r d:Int} {u:Sp} {j:AH} {a:Int} {l l' :List Int} (h:VS s) (hi:EJ s i) (g:oX s i r d u j a l l') {p:AH} (hp:EJ s p) (CU:p.1≠i.1):
  EJ u p/\(∀ lp,Has s p lp->Has u p lp/\∀ off x,0<=off->DY (sz s.1) lp off=some x->gl 0#64 u.2.1 x.toNat=gl 0#64 s.2.1 x.toNat)/\∀ os,Full s p os->Full u p os:=by
 have z:=CM s.1
 have hlen:=g.wr.len
 obtain⟨k1,k2⟩:=g.grown.other h hp CU
 have hu:u=(s.1,u.2.1,u.2.2):=by rw[<-g.sh]
 have AP2:EJ u p:=by
  rw[hu]
  exact EJ.words (s:=(s.1,s.2.1,u.2.2)) hlen k1
 have hw:∀ lp,Has s p lp->Has u p lp/\∀ off x,0<=off->DY (sz s.1) lp off=some x->gl 0#64 u.2.1 x.toNat=gl 0#64 s.2.1 x.toNat:=by
  intro lp hlp
  obtain⟨k3,k4⟩:=k2 lp hlp
  refine⟨k3,fun off x o0 hx=> ?_⟩
  have hm:=XD z o0 hx
  have hx0:0<=x:=by
   have hpa:Pa u.2.2 p.2.2.1 lp:=by
    rcases k3 with ⟨_,rfl⟩|⟨_,k3⟩
    ·cases hm
    ·exact k3
   have:=(ACA z).1 (hpa.mem hm).1;omega
  refine g.wr.oth x.toNat fun k q0 q1 he=> ?_
  rw[vJ hx0] at he
  have hm2:=XD z (by have:=hi.1.2.2.2.2.1;omega) he
  have o1:=k4 _ hm
  have o2:=(g.grown.vs.owner g.grown.path _ hm2).1
  have o3:(fr u.2.2 j.2.2.1).1=j.1:=by
   rcases g.grown.fit.2 with ⟨h1,_⟩|⟨_,_,h3,_⟩
   ·have:=g.grown.words;have:=hi.1.2.2.2.2.1;have:=g.wr
    have hl:=ADY z hi.1.2.2.2.2.1 g.grown.J9
    have lB:=g.grown.A1A
    exfalso
    have XF:l'.length≠0:=by
     intro h0;rw[h0] at hl;simp at hl;omega
    have h7:i.2.2.2.2+(1+r+d)=0:=by omega
    rw[h7,ANA z] at lB;omega
   ·exact h3
  simp only at o2
  rw[o1,o3,g.grown.seq] at o2
  exact CU o2
 refine⟨AP2,hw, ?_⟩
 rintro os ⟨lp,hlp,ht⟩
 obtain⟨k3,k4⟩:=hw lp hlp
 refine⟨lp,k3, ?_⟩
 rw[g.sh]
 exact ht.CK fun q x q0 q1 hq=>⟨hq,k4 q x q0 hq⟩
theorem oX.self {s:Sp} {i:AH} {r d:Int} {u:Sp} {j:AH} {a:Int} {l l' :List Int} (h:VS s) (hi:EJ s i) (r0:0<=r) (r1:r<=15) (d0:0<=d) (d1:d<=32) (g:oX s i r d u j a l l'):
  EJ u j/\∀ os,Full s i os->Full u j (os++ [(r,d)]):=by
 have z:=CM s.1
 have hu:u=(s.1,u.2.1,u.2.2):=by rw[<-g.sh]
 refine⟨by rw[hu];exact EJ.words (s:=(s.1,s.2.1,u.2.2)) g.wr.len g.grown.fit, ?_⟩
 rintro os ⟨lp,hlp,ht⟩
 have yD:lp=l:=by
  rcases hlp with ⟨h1,rfl⟩|⟨h1,h2⟩
  ·rcases g.grown.has with ⟨_,rfl⟩|⟨h3,_⟩
   ·rfl
   ·exact absurd h1 h3
  ·rcases g.grown.has with ⟨h3,_⟩|⟨_,h4⟩
   ·exact absurd h3 h1
   ·exact h2.fn h4
 subst yD
 refine⟨l',.inr ⟨by rw[g.grown.words];have:=hi.1.2.2.2.2.1;omega,g.grown.path⟩, ?_⟩
 rw[g.sh,g.grown.words]
 refine EB.snoc ⟨r0,r1⟩ ⟨d0,d1⟩ (ht.CK fun q x q0 q1 hq=> ?_) g.grown.J9 (g.wr.head a g.grown.J9)
 have QW :DY (sz s.1) l' q=some x:=by rw[g.grown.more];exact C5 hq
 refine⟨QW,g.wr.oth x.toNat fun k k0 k1 he=> ?_⟩
 have hm:=XD z q0 QW
 have hx0:0<=x:=by have:=(ACA z).1 (g.grown.path.mem hm).1;omega
 rw[vJ hx0] at he
 have:=K_ z g.grown.path.nodup (by omega) q0 he QW
 omega
structure Made (s:Sp) (l:List AH):Prop where
 vs:VS s
 sh:s.1<=4
 n:s.2.2.length<=10
 cnt:l.length<=4
 fits:∀ p∈l,EJ s p/\0<p.2.2.2.2/\p.2.1<3/\p.1<15/\∃ os,Full s p os
 asc:l.Pairwise fun a b=>a.1<b.1
 all:∀ x:Int,0<=x->x<s.2.2.length->(fr s.2.2 x).1≠-1->∃ p∈l,p.1=(fr s.2.2 x).1
theorem hO {β:Type} {f:Int->Option (Int ⊕ β)} (n:Nat) (hs:∀ k:Nat,k<n->f k=some (.inl ((k:Int)+1))) {r:β} (he:f n=some (.inr r)):AI f 0=some r:=by
 refine MZ (fun m i=>i=(n:Int)-m/\m<=n) (n:=n) ?_ ⟨by omega,by omega⟩
 rintro m i ⟨rfl,hm⟩
 by_cases h0:m=0
 ·subst h0
  left;simpa using he
 ·right
  refine⟨m-1,(n:Int)-m+1,by omega, ?_, ?_,by omega⟩
  ·have:=hs (n-m) (by omega)
   rw[show ((n-m:Nat):Int)=(n:Int)-m from by omega] at this
   exact this
  ·omega
theorem BN {α:Type} {d:α} {xs:List α} {k:Nat} (h:k<xs.length):gl d xs k∈xs:=by
 rw[D8 h];exact AFE h
def StB (s:Sp) (b:Int):Prop:=∀ i:Int,0<=i->i<s.2.2.length→-b<=(fr s.2.2 i).2.1/\(fr s.2.2 i).2.1<=b
theorem StB.stI {s:Sp} {b:Int} (h:StB s b) (hb:b<=9223372036854775807):StI s:=fun i h0 h1=>by have:=(h i h0 h1).2;omega
theorem VS.stB {s:Sp} (h:VS s):StB s 17179869184:=by
 intro i h0 h1
 rcases h.fr i h0 h1 with ⟨hf,_⟩|hu
 ·rw[show fr s.2.2 i=_ from hf];decide
 ·obtain⟨_,_,b,_,_,hb⟩:=hu.1;have:=hu.1.1;have:=hu.1.2.1;omega
theorem StB.set {s:Sp} {b:Int} (h:StB s b) {j:Int} (j0:0<=j) (j1:j<s.2.2.length) {x:Fr} {b' :Int} (hb:b<=b') (hx: -b' <=x.2.1/\x.2.1<=b') {ws:List (BitVec 64)} {k:Int}:StB (k,ws,s.2.2.set j.toNat x) b' :=by
 intro i i0 i1
 simp only[EW] at i1
 simp only
 rw[XI j0 j1 i0]
 split
 ·exact hx
 ·have:=h i i0 i1;omega
theorem APO {s:Sp} {b:Int} (hb0:0<=b) (hb:b<=1152921504606846976) (h:StB s b) (n0:1<=s.2.2.length) (n1:s.2.2.length<=1000) (w0:1<=s.2.1.length) (w1:s.2.1.length<=100000) (uK: -1000<=s.1/\s.1<=1000) (ATE at' by' :Int):
  ∃ u,HM s ATE at' by' =some u/\StB u (b+17179869184)/\u.2.2.length=s.2.2.length/\s.2.1.length<=u.2.1.length/\u.2.1.length<=s.2.1.length+1/\(s.1-1<=u.1/\u.1<=s.1+1):=by
 unfold HM
 rw[AN7 (by omega) (by omega)]
 simp only[AZ]
 obtain⟨f,e1,f0,f1,_⟩:=O9 at' (m:=s.2.2.length) (by omega) (by omega)
 rw[e1]
 simp only[AZ]
 obtain⟨c,e2,c0,c1,_⟩:=O9 ATE (m:=8) (by omega) (by omega)
 rw[e2]
 simp only[AZ]
 have MY:gl ((0,0,0):Int×Int×Int) s.2.2 f.toNat=fr s.2.2 f:=rfl
 have hf:=h f f0 f1
 have same:StB s (b+17179869184):=fun i i0 i1=>by have:=h i i0 i1;omega
 by_cases h0:c=0
 ·rw[AA h0]
  obtain⟨x,e3,x0,x1,_⟩:=O9 by' (m:=6) (by omega) (by omega)
  rw[e3]
  simp only[AZ]
  rw[AA ⟨f0,f1⟩,MY]
  exact⟨_,rfl,h.set f0 f1 (by omega) (by simp only;omega),by simp,by simp,by simp,by simp only;omega⟩
 rw[AD h0]
 by_cases h1:c=1
 ·rw[AA h1,AA ⟨f0,f1⟩]
  obtain⟨x,e3,x0,x1,_⟩:=O9 by' (m:=4) (by omega) (by omega)
  rw[e3]
  simp only[AZ]
  rw[AA ⟨x0,by simpa using x1⟩,AA ⟨f0,f1⟩,MY]
  have hx: -1<=gl (0:Int) [1,(-1),4294967296,17179869184] x.toNat/\gl (0:Int) [1,(-1),4294967296,17179869184] x.toNat<=17179869184:=by
   have:x=0\/x=1\/x=2\/x=3:=by omega
   rcases this with rfl|rfl|rfl|rfl <;> simp [gl]
  rw[AE (by omega) (by omega)]
  exact⟨_,rfl,h.set f0 f1 (by omega) (by simp only;omega),by simp,by simp,by simp,by simp only;omega⟩
 rw[AD h1]
 by_cases h2:c=2
 ·rw[AA h2,AE (e:=(s.2.2.length:Int)+2) (by omega) (by omega)]
  obtain⟨x,e3,x0,x1,_⟩:=O9 by' (m:=(s.2.2.length:Int)+2) (by omega) (by omega)
  rw[e3]
  simp only[AZ]
  rw[AA ⟨f0,f1⟩,MY]
  exact⟨_,rfl,h.set f0 f1 (by omega) (by simp only;omega),by simp,by simp,by simp,by simp only;omega⟩
 rw[AD h2]
 by_cases h3:c=3
 ·rw[AA h3]
  obtain⟨x,e3,x0,x1,_⟩:=O9 at' (m:=s.2.1.length) (by omega) (by omega)
  rw[e3]
  simp only[AZ]
  rw[AA ⟨x0,x1⟩]
  exact⟨_,rfl,same,by simp,by simp,by simp,by simp only;omega⟩
 rw[AD h3]
 by_cases h4:c=4
 ·rw[AA h4,AA (by simp;omega)]
  exact⟨_,rfl,same,by simp,by simp,by simp,by simp only;omega⟩
 rw[AD h4]
 by_cases h5:c=5
 ·rw[AA h5]
  obtain⟨x,e3,x0,x1,_⟩:=O9 by' (m:=3) (by omega) (by omega)
  rw[e3]
  simp only[AZ]
  rw[AE (e:=x-1) (by omega) (by omega),AE (by omega) (by omega)]
  exact⟨_,rfl,same,by simp,by simp,by simp,by simp only;omega⟩
 rw[AD h5]
 by_cases h6:c=6
 ·rw[AA h6,AA ⟨f0,f1⟩]
  exact⟨_,rfl,h.set f0 f1 (by omega) (by simp only;omega),by simp,by simp,by simp,by simp only;omega⟩
 rw[AD h6]
 exact⟨_,rfl,same,rfl,by simp,by simp,by omega⟩
theorem VS.spoilt {s:Sp} (h:VS s) (ATE at' by' :Int):∃ u,HM s ATE at' by' =some u/\StB u 34359738368/\u.2.2.length=s.2.2.length/\s.2.1.length<=u.2.1.length/\u.2.1.length<=16385/\(2<=u.1/\u.1<=9):=by
 have hn:=h.n
 have hw:=h.w
 have pQ:=VS.PO h
 have z:=LF h.sh
 have hm:(s.2.2.length:Int)*8<=s.2.2.length*sz s.1:=AEW (by omega) (by omega)
 have uK:=h.sh
 obtain⟨u,h1,h2,h3,h4,h5,h6⟩:=APO (by omega) (by omega) (VS.stB h) (by omega) (by omega) (by omega) (by omega) ⟨by omega,by omega⟩ ATE at' by'
 exact⟨u,h1,h2,h3,h4,by omega,by omega⟩
theorem ATF (s:Sp):KU s=some (decide (s.2.1.length<=3000/\s.2.2.length<=80)):=by
 unfold KU
 by_cases h:(s.2.1.length:Int)<=3000
 ·rw[AA h];congr 1;rw[a_,NO,NO];omega
 ·rw[AD h];congr 1;rw[a_,NO];simp;omega
theorem uX (l:List Int) (h:l.length<=maxLen):∃ d,GQ l=some d/\TS d:=by
 unfold GQ
 exact⟨_,rfl,by simp,by unfold maxLen at h;simp only;omega⟩
abbrev spT:Ty:= .pair (.int .i64) (.pair (.slice .u64) (.slice frT))
theorem A1C {x:Int} (h:Wf (.int .i64) x):I64 x:=LM h
theorem AX9 {s:Sp} (h:Wf spT s):StI s:=by
 intro i h0 h1
 have:=h.2.2.2 (fr s.2.2 i) (by unfold fr;exact BN (by omega))
 exact (A1C this.2.1).2
theorem hP {α:Type} (xs:List α) (k:Nat):B9 xs k (xs.length-k)=xs.drop k:=by
 unfold B9
 rw[AF5 (by simp)]
theorem ATG {s:Sp} (h:3<=s.1/\s.1<=8):W4 s=some (sz s.1):=by
 obtain⟨z1,z2⟩:=LF h
 unfold W4
 rw[ABQ]
 simp only[AZ]
 rw[AD (by simp [h]),AA trivial,P4 h,rX,AE (by omega) (by omega)]
theorem VS.AE4 {s:Sp} (h:VS s):I9 s=some true:=by
 obtain⟨b,h1,h2⟩:=ABR s h.stI
 rw[h1,h2.2 h]
theorem ABS {s:Sp} (h:¬VS s) (hI:StI s):I9 s=some false/\F5 s=some false:=by
 obtain⟨b,h1,h2⟩:=ABR s hI
 obtain⟨c,h3,h4⟩:=rA s
 have hb:b=false:=by cases b with|false=>rfl|true=>exact absurd (h2.1 rfl) h
 have hc:c=false:=by cases c with|false=>rfl|true=>exact absurd (h4.1 rfl) h
 rw[h1,h3,hb,hc];exact⟨rfl,rfl⟩
theorem ATH {s:Sp} (hn:s.2.2.length<=64):∃ w,Z4 s=some w/\AKK s.2.2 w:=by
 unfold Z4
 refine AO (fun k (st:BitVec 64×Int)=>st.2=(k:Int)/\k<=s.2.2.length/\∀ j,j<64->st.1.getLsbD j=decide (j<k/\(fr s.2.2 j).1= -1)) (fun b=>AKK s.2.2 b) s.2.2.length ?_ ?_ ⟨rfl,by omega,fun j hj=>by simp⟩
 ·rintro k ⟨w,i⟩ hk ⟨h1,_,h2⟩
  simp only at h1 h2 ⊢
  subst h1
  have MY:gl (0,0,0) s.2.2 (k:Int).toNat=fr s.2.2 k:=rfl
  rw[AA (by omega),AA (by omega),MY,AE (by omega) (by omega)]
  by_cases hf:(fr s.2.2 k).1= -1
  ·rw[AA hf,AA (by omega),AA trivial]
   refine .inl ⟨_,rfl,by simp only;omega,by omega,fun j hj=> ?_⟩
   simp only
   rw[ABO (by omega) (by omega),HX,AN3 _ _ (by omega),h2 j hj]
   by_cases e:k=j
   ·subst e;simp [hf]
   ·simp only[e,decide_false,Bool.or_false,tI]
    constructor
    ·rintro⟨a,b⟩;exact⟨by omega,b⟩
    ·rintro⟨a,b⟩;exact⟨by omega,b⟩
  ·rw[AD hf]
   refine .inl ⟨_,rfl,by simp only;omega,by omega,fun j hj=> ?_⟩
   simp only
   rw[h2 j hj,tI]
   constructor
   ·rintro⟨a,b⟩;exact⟨by omega,b⟩
   ·rintro⟨a,b⟩
    refine⟨?_,b⟩
    have:j≠k:=fun e=>hf (by rw[<-e];exact b)
    omega
 ·rintro⟨w,i⟩ ⟨h1,_,h2⟩
  simp only at h1 h2 ⊢
  rw[AD (by omega)]
  exact⟨_,rfl,h2⟩
theorem APP (w:BitVec 64):(AHJ w).length<=64:=by
 have:=mO (fun i=>w.getLsbD i) (List.range 64)
 rw[List.length_range] at this
 exact this
theorem ATI {s:Sp} (hn:s.2.2.length<=64):K1 s=some ((s.2.2.length:Int)-(DX s.2.2).length):=by
 have hl:(DX s.2.2).length<=s.2.2.length:=VD s.2.2 (-1)
 unfold K1
 rw[uV hn]
 simp only[AZ]
 rw[AE (by omega) (by omega)]
def A1D (s:Sp) (o st:Int):Prop:=∀ x:Int,0<=x->x<s.2.2.length->(fr s.2.2 x).1=o->(fr s.2.2 x).2.1=st
theorem AXA {β:Type} {f:Int×List (BitVec 64)->Option ((Int×List (BitVec 64)) ⊕ β)} {ws:List (BitVec 64)} {a n:Nat} {r:β}
  (hs:∀ k:Nat,k<n->f (((a+k:Nat):Int),zr ws a k)=some (.inl (((a+k+1:Nat):Int),(zr ws a k).set (a+k) 0#64))) (he:f (((a+n:Nat):Int),zr ws a n)=some (.inr r)):AI f ((a:Int),ws)=some r:=by
 refine MZ (fun m (st:Int×List (BitVec 64))=>m<=n/\st=(((a+(n-m):Nat):Int),zr ws a (n-m))) (n:=n) ?_ ⟨by omega,by simp [zr]⟩
 rintro m st ⟨hm,rfl⟩
 by_cases h0:m=0
 ·subst h0;exact .inl he
 ·refine .inr ⟨m-1,_,by omega,hs _ (by omega),by omega, ?_⟩
  have e:n-(m-1)=(n-m)+1:=by omega
  rw[e,zr]
  rfl
theorem AKQ {s:Sp} (h:VS s) {k:Nat} (hk:k<s.2.2.length):((k*(sz s.1).toNat:Nat):Int)=(k:Int)*sz s.1/\(((k+1)*(sz s.1).toNat:Nat):Int)=((k:Int)+1)*sz s.1/\k*(sz s.1).toNat+(sz s.1).toNat<=s.2.1.length/\(k+1)*(sz s.1).toNat=k*(sz s.1).toNat+(sz s.1).toNat:=by
 have hz:=CM s.1
 have hzn:((sz s.1).toNat:Int)=sz s.1:=vJ (by omega)
 have e1:((k*(sz s.1).toNat:Nat):Int)=(k:Int)*sz s.1:=by rw[ALT,hzn]
 have e2:(((k+1)*(sz s.1).toNat:Nat):Int)=((k:Int)+1)*sz s.1:=by rw[ALT,hzn];rfl
 have e3:(k+1)*(sz s.1).toNat=k*(sz s.1).toNat+(sz s.1).toNat:=by rw[cS,Nat.one_mul]
 have e4:=(dR h.sh (by omega:(0:Int)<=(k:Int)+1) (by omega:(k:Int)+1<=s.2.2.length)).2
 have:=h.w
 exact⟨e1,e2,by omega,e3⟩
theorem APQ {s:Sp} (h:VS s) (o:Int) (oz:o≠-1):HP s o=some (gvN s.2.2 o s.2.2.length,(gv s o).2):=by
 have hn:=h.n.2
 have hw:=VS.PO h
 unfold HP
 refine (AO (fun k (st:Int×Sp)=>k<=s.2.2.length/\st=(gvN s.2.2 o k,(k:Int),gvW s o k,gvF s.2.2 o k)) (fun b=>b=(gvN s.2.2 o s.2.2.length,(gv s o).2)) s.2.2.length ?_ ?_ (s:=((0:Int),(0:Int),s.2.1,s.2.2)) ⟨by omega,rfl⟩).elim fun b hb=>by rw[hb.1,hb.2]
 ·rintro k st hk ⟨_,rfl⟩
  have MY:gl (0,0,0) (gvF s.2.2 o k) (k:Int).toNat=fr (gvF s.2.2 o k) k:=rfl
  have A6P:fr (gvF s.2.2 o k) k=fr s.2.2 k:=by rw[AKN s.2.2 o k (by omega) k (by omega),AD (by omega)]
  have hc:=AKM s.2.2 o k
  obtain⟨z1,z2,z3,z4⟩:=AKQ h hk
  simp only
  rw[AA (by omega),AA (by rw[oW];omega),MY,A6P,AE (e:=(k:Int)+1) (by omega) (by omega)]
  left
  by_cases ho:(fr s.2.2 k).1=o
  ·rw[AD (H_ ho),AA (by rw[oW];omega),AA trivial,P4 h.sh,←z1,←z2,AE (e:=gvN s.2.2 o k+1) (by omega) (by omega),AE (e:=((k*(sz s.1).toNat:Nat):Int)) (by omega) (by omega),AE (e:=(((k+1)*(sz s.1).toNat:Nat):Int)) (by omega) (by omega)]
   refine⟨(gvN s.2.2 o k+1,(k:Int)+1,zr (gvW s o k) (k*(sz s.1).toNat) (sz s.1).toNat,(gvF s.2.2 o k).set k (-1, -1, -1)), ?_,by omega, ?_⟩
   ·refine AXA (a:=k*(sz s.1).toNat) (n:=(sz s.1).toNat) (fun m hm=> ?_) ?_
    ·simp only
     rw[AA trivial,AA (by omega),AA (by rw[AKL,ADZ];omega),AE (by omega) (by omega)]
     rfl
    ·simp only
     rw[AA trivial,AD (by omega)]
     rfl
   ·simp only[gvN,gvW,gvF,AA ho]
    rfl
  ·rw[AA ho]
   refine⟨_,rfl,by omega, ?_⟩
   simp only[gvN,gvW,gvF,AD ho]
   rfl
 ·rintro st ⟨_,rfl⟩
  simp only
  rw[AD (by omega)]
  exact⟨_,rfl,rfl⟩
theorem A1D.none {s:Sp} {o st:Int} (h:owned s.2.2 o=[]):A1D s o st:=by
 intro x x0 x1 hx
 have:x∈owned s.2.2 o:=CB.2 ⟨⟨x0,x1⟩,hx⟩
 rw[h] at this;cases this
theorem AHL {s:Sp} {f:Int} (h0:0<=f) (h1:f<s.2.2.length):W8 s f=some (decide ((fr s.2.2 f).1= -1)):=by
 unfold W8
 rw[AA ⟨h0,h1⟩];rfl
theorem ATJ (s:Sp) (f:Int):hD s f=some (decide (0<=f/\f<s.2.2.length)):=by
 unfold hD
 by_cases h:f≥0
 ·rw[AA h];congr 1;rw[a_,NO,NO];omega
 ·rw[AD h];congr 1;rw[a_,NO];simp;omega
theorem ATK {s:Sp} (h:VS s) {f:Int} (f0:0<=f) (f1:f<s.2.2.length) (hu:(fr s.2.2 f).1≠-1) {l:List Int} (hl:Pa s.2.2 f l):PK s f=some (l,0):=by
 have hn:=h.n.2
 have yD:=hl.length
 unfold PK
 rw[VS.AE4 h,ATJ,AHL f0 f1]
 simp only[AZ]
 rw[AD (by simp),AD (by simp [f0,f1]),AD (by simpa using hu)]
 refine MZ (fun k (st:List Int×Int)=>∃ l2,l=st.1++l2/\Pa s.2.2 st.2 l2/\l2.length=k) (n:=l.length) ?_ ⟨l,rfl,hl,rfl⟩
 rintro k ⟨acc,f⟩ ⟨l2,h1,h2,h3⟩
 simp only at h1 h2 ⊢
 cases l2 with
 |nil=>
  left
  rw[Pa] at h2
  rw[AD (by omega),h1,HH]
 |cons a r=>
  right
  obtain⟨rfl,g0,g1,g2⟩:=h2
  have:=PR List.length h1
  simp at this h3
  have MY:(gl (0,0,0) s.2.2 f.toNat).2.2=nx s.2.2 f:=(I4 g0 g1).symm
  rw[AA g0,AA (by simp;omega),AA ⟨g0,g1⟩,MY]
  exact⟨k-1,_,by omega,rfl,r,by simp [h1],g2,by omega⟩
theorem AHM {n s:Int} (hs:3<=s/\s<=8) (h0:0<=n) (h1:n<=1000000):V4 n s=some (cl (sz s) n):=by
 obtain⟨z1,z2⟩:=LF hs
 unfold V4
 rw[AD (by omega),AD (by omega),AD (by omega),AD (by omega),AA trivial,AA trivial,P4 hs,rX,AE (e:=sz s) (by omega) (by omega),AE (e:=n+sz s) (by omega) (by omega),AE (by omega) (by omega)]
 rfl
theorem Z6 {s:Sp} (h:VS s) {i:AH} (h0:0<=i.2.2.2.2) (h1:i.2.2.2.2<=1000000):K9 s i=some (cl (sz s.1) i.2.2.2.2):=by
 unfold K9
 rw[AHM h.sh h0 h1];rfl
theorem QM {z w:Int} (z1:8<=z) (h:0<=w):0<=cl z w/\cl z w<=w+z:=by
 have c2:=YW (show 0<z by omega) h
 have c1:=OX (n:=w) (show 0<z by omega)
 have b1:cl z w*1<=cl z w*z:=AEW (by omega) c2
 omega
theorem APR {s:Sp} (h:VS s) {i:AH} (h0:0<=i.2.2.2.2) (h1:i.2.2.2.2<=16384) {n:Int} (n0:0<=n) (n1:n<=1000):XB s i n=some (cl (sz s.1) (i.2.2.2.2+n)-cl (sz s.1) i.2.2.2.2):=by
 obtain⟨z1,z2⟩:=LF h.sh
 have c1:=QM z1 (show 0<=i.2.2.2.2+n by omega)
 have c2:=QM z1 h0
 unfold XB
 rw[AE (e:=i.2.2.2.2+n) (by omega) (by omega),AHM h.sh (by omega) (by omega),Z6 h h0 (by omega)]
 simp only[AZ]
 rw[AE (by omega) (by omega)]
theorem ATL {s:Sp} (hn:s.2.2.length<=64) (q:Int):Z1 s q=some ((owned s.2.2 q).length:Int):=by
 unfold Z1
 refine (AO (fun k (st:Int×Int)=>st.2=(k:Int)/\k<=s.2.2.length/\st.1=gvN s.2.2 q k) (fun b=>b=((owned s.2.2 q).length:Int)) s.2.2.length ?_ ?_ (s:=((0:Int),(0:Int))) ⟨rfl,by omega,rfl⟩).elim fun b h=>by rw[h.1,h.2]
 ·rintro k ⟨c,i⟩ hk ⟨h1,_,h2⟩
  simp only at h1 h2 ⊢
  subst h1
  have MY:gl (0,0,0) s.2.2 (k:Int).toNat=fr s.2.2 k:=rfl
  have hc:=AKM s.2.2 q k
  rw[AA (by omega),AA (by omega),MY,AE (e:=(k:Int)+1) (by omega) (by omega),AE (e:=c+1) (by omega) (by omega)]
  by_cases hf:(fr s.2.2 k).1=q
  ·rw[AA hf]
   exact .inl ⟨_,rfl,by simp only;omega,by omega,by simp only[gvN,AA hf];omega⟩
  ·rw[AD hf]
   exact .inl ⟨_,rfl,by simp only;omega,by omega,by simp only[gvN,AD hf];omega⟩
 ·rintro⟨c,i⟩ ⟨h1,_,h2⟩
  simp only at h1 h2 ⊢
  rw[AD (by omega)]
  exact⟨_,rfl,by rw[h2,AT7];rfl⟩
theorem ABT {s:Sp} (hI:StI s) (i:AH):∃ b,KM s i=some b/\(b=true↔VS s/\EJ s i):=by
 by_cases h:VS s
 rotate_left
 ·unfold KM
  rw[(ABS h hI).1]
  exact⟨_,rfl,BY fun hh=>h hh.1⟩
 suffices hs:∃ b,KM s i=some b/\(b=true↔EJ s i) by
  obtain⟨b,h1,h2⟩:=hs
  exact⟨b,h1,h2.trans ⟨fun x=>⟨h,x⟩,fun x=>x.2⟩⟩
 have pQ:=VS.PO h
 have hn:=h.n.2
 unfold KM
 rw[VS.AE4 h]
 simp only[AZ]
 rw[AD (by simp)]
 by_cases c1:i.1<0
 ·rw[AA c1];exact⟨_,rfl,BY fun h=>by have:=h.1.1;omega⟩
 rw[AD c1]
 by_cases c2:i.1>4294967295
 ·rw[AA c2];exact⟨_,rfl,BY fun h=>by have:=h.1.2.1;omega⟩
 rw[AD c2]
 by_cases c3:i.2.1<0
 ·rw[AA c3];exact⟨_,rfl,BY fun h=>by have:=h.1.2.2.1;omega⟩
 rw[AD c3]
 by_cases c4:i.2.1≥4
 ·rw[AA c4];exact⟨_,rfl,BY fun h=>by have:=h.1.2.2.2.1;omega⟩
 rw[AD c4]
 by_cases c5:i.2.2.2.2<0
 ·rw[AA c5];exact⟨_,rfl,BY fun h=>by have:=h.1.2.2.2.2.1;omega⟩
 rw[AD c5]
 by_cases c7:i.2.2.2.2=0
 ·have hr:0<=i.1/\i.1<=4294967295/\0<=i.2.1/\i.2.1<4/\0<=i.2.2.2.2/\i.2.2.2.2<=s.2.1.length:=⟨by omega,by omega,by omega,by omega,by omega,by omega⟩
  rw[AA c7]
  by_cases c8:i.2.2.1= -1
  ·rw[AA c8]
   refine⟨_,rfl, ?_⟩
   rw[NO]
   exact⟨fun hh=>⟨hr,.inl ⟨c7,c8,hh⟩⟩,fun hh=>by rcases hh.2 with h1|h1;exact h1.2.2;exact absurd c7 h1.1⟩
  ·rw[AD c8]
   exact⟨_,rfl,BY fun hh=>by rcases hh.2 with h1|h1;exact c8 h1.2.1;exact h1.1 c7⟩
 rw[AD c7]
 have only:EJ s i->(0<=i.2.2.1/\i.2.2.1<s.2.2.length)/\(fr s.2.2 i.2.2.1).1=i.1/\(fr s.2.2 i.2.2.1).2.1=i.2.1*4294967296+i.1∧
   ∃ l,Pa s.2.2 i.2.2.1 l/\(l.length:Int)=cl (sz s.1) i.2.2.2.2/\l.length=(owned s.2.2 i.1).length/\l.getLast? =some i.2.2.2.1:=fun hh=>by
  rcases hh.2 with h1|h1
  ·exact absurd h1.1 c7
  ·exact h1.2
 have A6Q:¬((0<=i.2.2.1/\i.2.2.1<s.2.2.length)/\(fr s.2.2 i.2.2.1).1≠-1)->∃ e,e≠0/\PK s i.2.2.1=some ([],e):=by
  intro hb
  unfold PK
  rw[VS.AE4 h,ATJ]
  simp only[AZ]
  rw[AD (by simp)]
  by_cases q:0<=i.2.2.1/\i.2.2.1<s.2.2.length
  ·rw[AD (by simp [q]),AHL q.1 q.2]
   simp only[AZ]
   have hf:(fr s.2.2 i.2.2.1).1= -1:=vF fun hf=>hb ⟨q,hf⟩
   rw[AA (by simp [hf])]
   exact⟨_,by decide,rfl⟩
  ·rw[AA (by simp only[TZ,aY];exact q)]
   exact⟨_,by decide,rfl⟩
 by_cases c8:(0<=i.2.2.1/\i.2.2.1<s.2.2.length)/\(fr s.2.2 i.2.2.1).1≠-1
 rotate_left
 ·obtain⟨e,e1,e2⟩:=A6Q c8
  rw[e2]
  simp only[AZ]
  rw[AA e1]
  refine⟨_,rfl,BY fun hh=> ?_⟩
  obtain⟨o1,o2,_⟩:=only hh
  have:=hh.1.1
  exact c8 ⟨o1,by omega⟩
 obtain⟨⟨q0,q1⟩,q2⟩:=c8
 obtain⟨l,hl⟩:=h.acy i.2.2.1 q0 q1
 have yD:=hl.length
 have hlp:0<l.length:=by
  cases l with
  |nil=>rw[Pa] at hl;omega
  |cons=>simp
 rw[ATK h q0 q1 q2 hl]
 simp only[AZ]
 rw[AD (by simp)]
 by_cases c6:i.2.2.2.2>s.2.1.length
 ·rw[AA c6];exact⟨_,rfl,BY fun h=>by have:=h.1.2.2.2.2.2;omega⟩
 rw[AD c6]
 have hr:0<=i.1/\i.1<=4294967295/\0<=i.2.1/\i.2.1<4/\0<=i.2.2.2.2/\i.2.2.2.2<=s.2.1.length:=⟨by omega,by omega,by omega,by omega,by omega,by omega⟩
 have hg:=ANB (l:=l) hlp
 rw[AE (e:=(l.length:Int)-1) (by omega) (by omega),AA (by omega),show ((l.length:Int)-1).toNat=l.length-1 from by omega]
 by_cases d1:gl 0 l (l.length-1)=i.2.2.2.1
 rotate_left
 ·rw[AA d1]
  exact⟨_,rfl,BY fun hh=>by obtain⟨l',p1,_,_,p2⟩:=(only hh).2.2.2;rw[<-hl.fn p1,←hg] at p2;exact d1 (by simpa using p2)⟩
 rw[AD (H_ d1),Z6 h (by omega) (by omega)]
 simp only[AZ]
 by_cases d2:(l.length:Int)=cl (sz s.1) i.2.2.2.2
 rotate_left
 ·rw[AA d2]
  exact⟨_,rfl,BY fun hh=>by obtain⟨l',p1,p2,_⟩:=(only hh).2.2.2;rw[hl.fn p1] at d2;exact d2 p2⟩
 rw[AD (H_ d2),ATL hn]
 simp only[AZ]
 by_cases d3:(l.length:Int)=((owned s.2.2 i.1).length:Int)
 rotate_left
 ·rw[AA d3]
  exact⟨_,rfl,BY fun hh=>by obtain⟨l',p1,_,p2,_⟩:=(only hh).2.2.2;rw[hl.fn p1] at d3;exact d3 (by omega)⟩
 have MY:gl (0,0,0) s.2.2 i.2.2.1.toNat=fr s.2.2 i.2.2.1:=rfl
 rw[AD (H_ d3),AA ⟨q0,q1⟩,MY,AE (e:=i.2.1*4294967296) (by omega) (by omega),AE (e:=i.2.1*4294967296+i.1) (by omega) (by omega)]
 by_cases d4:(fr s.2.2 i.2.2.1).1=i.1
 rotate_left
 ·rw[AD d4];exact⟨_,rfl,BY fun hh=>d4 (only hh).2.1⟩
 rw[AA d4]
 refine⟨_,rfl, ?_⟩
 rw[NO]
 constructor
 ·intro d5
  exact⟨hr,.inr ⟨c7,⟨q0,q1⟩,d4,d5,l,hl,d2,by omega,by rw[<-hg,d1]⟩⟩
 ·intro hh;exact (only hh).2.2.1
theorem sZ.st {s:Sp} {i:AH} {l d r0:List Int} {fs:List Fr} {F L:Int} (h:sZ s i l d r0 fs F L):A1D (s.1,s.2.1,fs) i.1 (i.2.1*4294967296+i.1):=by
 intro x x0 x1 hx
 simp only at x1 hx ⊢
 have hm:x∈owned fs i.1:=CB.2 ⟨⟨x0,x1⟩,hx⟩
 have XF:0<(owned fs i.1).length:=AQS hm
 have C1:=h.own
 rcases h.path with h1|⟨h1,h2,h3,h4,h5⟩
 ·rw[h1.1] at C1;simp at C1;rw[C1] at hm;cases hm
 ·have OU:x∈l++d:=by
   apply vF
   intro hn
   have KP:∀ y∈l++d,y∈(owned fs i.1).erase x:=by
    intro y hy
    rw[(TQ _ _).mem_erase_iff]
    refine⟨fun e=>hn (e ▸ hy),CB.2 ⟨h2.mem hy, ?_⟩⟩
    have:=(h.vs.owner h2 y hy).1
    simp only at this
    rw[this];exact h4
   have hle:=RS h2.nodup KP
   rw[AQO hm] at hle
   omega
  have:=(h.vs.owner h2 x OU).2
  simp only at this
  rw[this];exact h5
end Go.Proofs.YthmiilamegpllaaGreat
namespace Go.V3
open Go
def vv (r:Nat):Nat:=if r<4503599627370496 then r else (4503599627370496+r%4503599627370496)*2 ^ (r / 4503599627370496-1)
theorem AXB (r:Nat):vv r<vv (r+1):=by
 unfold vv
 by_cases h:r<4503599627370496
 ·rw[AA h]
  by_cases h2:r+1<4503599627370496
  ·rw[AA h2];omega
  ·have:r+1=4503599627370496:=by omega
   rw[AD h2,this];show r<(4503599627370496+4503599627370496%4503599627370496)*2 ^ (4503599627370496 / 4503599627370496-1)
   rw[show (4503599627370496+4503599627370496%4503599627370496)*2 ^ (4503599627370496 / 4503599627370496-1)=4503599627370496 from by decide];exact h
 ·rw[AD h,AD (by omega)]
  by_cases h2:r%4503599627370496+1<4503599627370496
  ·have e1:(r+1) / 4503599627370496=r / 4503599627370496:=by omega
   have e2:(r+1)%4503599627370496=r%4503599627370496+1:=by omega
   rw[e1,e2]
   exact AL9 (by omega) (mV _)
  ·have e1:(r+1) / 4503599627370496=r / 4503599627370496+1:=by omega
   have e2:(r+1)%4503599627370496=0:=by omega
   have e3:r / 4503599627370496+1-1=(r / 4503599627370496-1)+1:=by omega
   rw[e1,e2,e3,AFK]
   have hp:=mV (r / 4503599627370496-1)
   have:(4503599627370496+0)*(2 ^ (r / 4503599627370496-1)*2)=(2*4503599627370496)*2 ^ (r / 4503599627370496-1):=by rw[NP,kG 2 4503599627370496,vU,kG 2]
   rw[this]
   exact AL9 (by omega) hp
theorem fV {a b:Nat} (h:a<b):vv a<vv b:=by
 induction b with
 |zero=>omega
 |succ b ih=>
  have:=AXB b
  rcases IA a b with h1|h1
  ·have:=ih h1;omega
  ·have:a=b:=by omega
   subst this;assumption
theorem rC {a b:Nat}:vv a<vv b↔a<b:=by
 constructor
 ·intro h
  rcases IA a b with h1|h1
  ·exact h1
  ·rcases AQZ h1 with rfl|h2
   ·omega
   ·have:=fV h2;omega
 ·exact fV
theorem hU:vv 0=0:=by decide
def j_ (w:Nat):Nat:=w%9223372036854775808
def oY (w:Nat):Bool:=w / 9223372036854775808%2==1
def oZ (w:Nat):Int:=if oY w=true then -(vv (j_ w):Int) else (vv (j_ w):Int)
def isNum (w:Nat):Prop:=j_ w<=9218868437227405312
instance (w:Nat):Decidable (isNum w):=by unfold isNum;infer_instance
theorem yF {w:Nat} (h:j_ w<9218868437227405312):∃ m:Nat,∃ e:Nat,FloatKind.f64.format.read w= .number (oY w) m (-1074+(e:Int))/\m*2 ^ e=vv (j_ w):=by
 unfold Ieee.Format.read
 have hb:FloatKind.f64.format.binade=4503599627370496:=by decide
 have hs:FloatKind.f64.format.signWeight=9223372036854775808:=by decide
 have hi:FloatKind.f64.format.infRung=9218868437227405312:=by decide
 have hl:FloatKind.f64.format.leastPlace= -1074:=by decide
 simp only[hb,hs,hi,hl]
 unfold vv
 by_cases h1:w%9223372036854775808<4503599627370496
 ·rw[AA h1,AA (show j_ w<4503599627370496 from h1)]
  exact⟨_,0,rfl,by simp [j_]⟩
 ·rw[AD h1,AA (show w%9223372036854775808<9218868437227405312 from h),AD (show ¬j_ w<4503599627370496 from h1)]
  exact⟨_,w%9223372036854775808 / 4503599627370496-1,rfl,rfl⟩
theorem o7 {w:Nat} (h:j_ w=9218868437227405312):FloatKind.f64.format.read w= .infinity (oY w):=by
 unfold Ieee.Format.read
 have hb:FloatKind.f64.format.binade=4503599627370496:=by decide
 have hs:FloatKind.f64.format.signWeight=9223372036854775808:=by decide
 have hi:FloatKind.f64.format.infRung=9218868437227405312:=by decide
 simp only[hb,hs,hi]
 have h' :w%9223372036854775808=9218868437227405312:=h
 rw[h',AD (by decide),AD (by decide),AA rfl]
 rfl
theorem AHN {w:Nat} (h:¬isNum w):∃ f,FloatKind.f64.format.read w= .nan (oY w) f:=by
 unfold Ieee.Format.read
 have hb:FloatKind.f64.format.binade=4503599627370496:=by decide
 have hs:FloatKind.f64.format.signWeight=9223372036854775808:=by decide
 have hi:FloatKind.f64.format.infRung=9218868437227405312:=by decide
 simp only[hb,hs,hi]
 have h' :9218868437227405312<w%9223372036854775808:=by unfold isNum j_ at h;omega
 rw[AD (by omega),AD (by omega),AD (by omega)]
 exact⟨_,rfl⟩
theorem APS {a b c:Int} (hc:0<c):compare (a*c) (b*c)=compare a b:=by
 rcases Int.lt_trichotomy a b with h|h|h
 ·rw[rS.2 h,rS.2 (AL8 h hc)]
 ·subst h;rw[AFC.2 rfl,AFC.2 rfl]
 ·rw[rT.2 h,rT.2 (AL8 h hc)]
theorem o8 (s:Bool) (m:Nat) (e b:Nat) (h:b<=e):Ieee.signed s m (e-b)*(2:Int) ^ b=if s=true then -((m*2 ^ e:Nat):Int) else ((m*2 ^ e:Nat):Int):=by
 have he:2 ^ e=2 ^ (e-b)*2 ^ b:=by rw[<-vY];congr 1;omega
 have:((m*2 ^ e:Nat):Int)=((m <<< (e-b):Nat):Int)*(2:Int) ^ b:=by
  rw[Nat.shiftLeft_eq,he,←vU]
  simp
 unfold Ieee.signed
 cases s
 ·simp only[VF,KA];exact this.symm
 ·simp only[HJ]
  rw[this,Int.neg_mul]
theorem ABU {r:Nat} (h:r<9218868437227405312):vv r<vv 9218868437227405312:=fV h
theorem AKR:0<vv 9218868437227405312:=by have:=fV (a:=0) (b:=9218868437227405312) (by decide);rw[hU] at this;exact this
theorem AE5 {a b:Nat} (ha:isNum a) (hb:isNum b):DJ a b=some (compare (oZ a) (oZ b)):=by
 unfold DJ Ieee.Format.order
 have XF:=AKR
 have la:j_ a<9218868437227405312\/j_ a=9218868437227405312:=by unfold isNum at ha;omega
 have lb:j_ b<9218868437227405312\/j_ b=9218868437227405312:=by unfold isNum at hb;omega
 rcases la with la|la
 ·obtain⟨m,e,r1,v1⟩:=yF la
  have p1:=ABU la
  rcases lb with lb|lb
  ·obtain⟨n,f,r2,v2⟩:=yF lb
   rw[r1,r2]
   unfold Ieee.Datum.order
   simp only
   congr 1
   have k1:(-1074+(e:Int)-min (-1074+(e:Int)) (-1074+(f:Int))).toNat=e-min e f:=by omega
   have k2:(-1074+(f:Int)-min (-1074+(e:Int)) (-1074+(f:Int))).toNat=f-min e f:=by omega
   rw[k1,k2,←APS (c:=(2:Int) ^ (min e f)) (Int.pow_pos (by decide)),o8 _ _ _ _ (by omega),o8 _ _ _ _ (by omega),v1,v2]
   rfl
  ·rw[r1,o7 lb]
   unfold Ieee.Datum.order
   simp only
   congr 1
   unfold oZ
   rw[lb]
   cases oY a <;> cases oY b <;> simp only[VF,KA,HJ]
   ·exact (rS.2 (by omega)).symm
   ·exact (rT.2 (by omega)).symm
   ·exact (rS.2 (by omega)).symm
   ·exact (rT.2 (by omega)).symm
 ·rcases lb with lb|lb
  ·obtain⟨n,f,r2,v2⟩:=yF lb
   have p2:=ABU lb
   rw[o7 la,r2]
   unfold Ieee.Datum.order
   simp only
   congr 1
   unfold oZ
   rw[la]
   cases oY a <;> cases oY b <;> simp only[VF,KA,HJ]
   ·exact (rT.2 (by omega)).symm
   ·exact (rT.2 (by omega)).symm
   ·exact (rS.2 (by omega)).symm
   ·exact (rS.2 (by omega)).symm
  ·rw[o7 la,o7 lb]
   unfold Ieee.Datum.order
   simp only
   congr 1
   unfold oZ
   rw[la,lb]
   cases oY a <;> cases oY b <;> simp only[VF,KA,HJ,Bool.toNat_true,Bool.toNat_false]
   ·exact (AFC.2 rfl).symm
   ·exact (rT.2 (by omega)).symm
   ·exact (rS.2 (by omega)).symm
   ·exact (AFC.2 rfl).symm
theorem AE6 {a b:Nat} (h:¬(isNum a/\isNum b)):DJ a b=none:=by
 unfold DJ Ieee.Format.order
 by_cases ha:isNum a
 ·have hb:¬isNum b:=fun hb=>h ⟨ha,hb⟩
  obtain⟨f,r2⟩:=AHN hb
  rw[r2]
  unfold Ieee.Datum.order
  cases FloatKind.f64.format.read a <;> rfl
 ·obtain⟨f,r1⟩:=AHN ha
  rw[r1]
  unfold Ieee.Datum.order
  rfl
theorem ATM {a b:Nat}:DJ a b=some .lt↔isNum a/\isNum b/\oZ a<oZ b:=by
 by_cases h:isNum a/\isNum b
 ·rw[AE5 h.1 h.2]
  simp only[BA,rS,h,mZ]
 ·rw[AE6 h]
  simp only[reduceCtorEq,false_iff]
  exact fun k=>h ⟨k.1,k.2.1⟩
theorem ATN {a b:Nat}:DJ a b=some .gt↔isNum a/\isNum b/\oZ b<oZ a:=by
 by_cases h:isNum a/\isNum b
 ·rw[AE5 h.1 h.2]
  simp only[BA,rT,h,mZ]
 ·rw[AE6 h]
  simp only[reduceCtorEq,false_iff]
  exact fun k=>h ⟨k.1,k.2.1⟩
theorem AE7 {a b:Nat}:DJ a b=some .eq↔isNum a/\isNum b/\oZ a=oZ b:=by
 by_cases h:isNum a/\isNum b
 ·rw[AE5 h.1 h.2]
  simp only[BA,AFC,h,mZ]
 ·rw[AE6 h]
  simp only[reduceCtorEq,false_iff]
  exact fun k=>h ⟨k.1,k.2.1⟩
theorem AND {m d:Nat} (h0:4503599627370496<=m) (h1:m<2*4503599627370496):(m*2 ^ d).log2=52+d:=by
 have hp:=mV d
 rw[Nat.log2_eq_iff (by have:=Nat.mul_pos (show 0<m by omega) hp;omega)]
 rw[vY,show (2:Nat) ^ 52=4503599627370496 from by decide,show 52+d+1=53+d from by omega,vY,show (2:Nat) ^ 53=2*4503599627370496 from by decide]
 exact⟨vI _ h0,AL9 h1 hp⟩
theorem AXC {q m:Nat} (h:m<2*4503599627370496) (hq:q<=2045):q*4503599627370496+m<=9218868437227405312:=by omega
theorem kT {m d:Nat} {place:Int} (h0:4503599627370496<=m) (h1:m<2*4503599627370496) (hp: -1074<=place+d) (hq:place+d+1074<2046):
  FloatKind.f64.format.nearest false (m*2 ^ d) place=(place+d+1074).toNat*4503599627370496+m:=by
 have XF:=mV d
 have hm:m*2 ^ d≠0:=by have:=Nat.mul_pos (show 0<m by omega) XF;omega
 have hb:FloatKind.f64.format.binade=4503599627370496:=by decide
 have hi:FloatKind.f64.format.infRung=9218868437227405312:=by decide
 have hl:FloatKind.f64.format.leastPlace= -1074:=by decide
 have hf:FloatKind.f64.format.fractionBits=52:=by decide
 unfold Ieee.Format.nearest
 rw[AD hm]
 simp only[hb,hi,hl,hf,AND h0 h1]
 have e1:max (place+((52+d:Nat):Int)-((52:Nat):Int)) (-1074)=place+d:=by omega
 rw[e1]
 have e2:(place-(place+(d:Int))).toNat=0:=by omega
 have e3:(place+(d:Int)-place).toNat=d:=by omega
 rw[e2,e3,Nat.shiftLeft_zero]
 have e4:Ieee.Toward.even.cut false (m*2 ^ d) d=m:=by
  unfold Ieee.Toward.cut
  have g:(1:Nat) <<< min d ((m*2 ^ d).log2+2)=2 ^ d:=by
   rw[AND h0 h1,show min d (52+d+2)=d from by omega,Nat.shiftLeft_eq,Nat.one_mul]
  simp only[g]
  rw[Nat.mul_mod_left,AR0 _ XF]
  have c1:decide (2 ^ d<2*0)=false:=by simp
  have c2:(2 ^ d==2*0)=false:=by simp
  rw[c1,c2]
  simp
 rw[e4]
 have e5:(place+(d:Int)- -1074).toNat=(place+d+1074).toNat:=by congr 1
 rw[e5]
 have ATO:(place+(d:Int)+1074).toNat<=2045:=by omega
 have e6:(place+(d:Int)+1074).toNat*4503599627370496<=2045*4503599627370496:=vI _ ATO
 generalize (place+(d:Int)+1074).toNat=q at ATO e6 ⊢
 rw[Nat.min_eq_left (AXC h1 ATO)]
 rfl
theorem h_ {e f:Nat} (he:1<=e) (he2:e<2047) (hf:f<4503599627370496):FloatKind.f64.format.read (e*4503599627370496+f)= .number false (4503599627370496+f) (-1074+((e-1:Nat):Int)):=by
 unfold Ieee.Format.read
 have hb:FloatKind.f64.format.binade=4503599627370496:=by decide
 have hs:FloatKind.f64.format.signWeight=9223372036854775808:=by decide
 have hi:FloatKind.f64.format.infRung=9218868437227405312:=by decide
 have hl:FloatKind.f64.format.leastPlace= -1074:=by decide
 simp only[hb,hs,hi,hl]
 have e1:(e*4503599627370496+f)%9223372036854775808=e*4503599627370496+f:=a9 (by omega)
 have e2:(e*4503599627370496+f) / 9223372036854775808=0:=kC (by omega)
 have e3:(e*4503599627370496+f)%4503599627370496=f:=by omega
 have e4:(e*4503599627370496+f) / 4503599627370496=e:=by omega
 rw[e1,e2,AD (by omega),AA (by omega),e3,e4]
 rfl
theorem ATP {a:Nat} (ha:a<4503599627370496):FloatKind.f64.format.read a= .number false a (-1074):=by
 unfold Ieee.Format.read
 have hb:FloatKind.f64.format.binade=4503599627370496:=by decide
 have hs:FloatKind.f64.format.signWeight=9223372036854775808:=by decide
 have hi:FloatKind.f64.format.infRung=9218868437227405312:=by decide
 have hl:FloatKind.f64.format.leastPlace= -1074:=by decide
 simp only[hb,hs,hi,hl]
 have e1:a%9223372036854775808=a:=a9 (by omega)
 have e2:a / 9223372036854775808=0:=kC (by omega)
 rw[e1,e2,AA ha]
 rfl
theorem ATQ {f:Nat} (hf:f<4503599627370496):GL .mul (1022*4503599627370496+f) (1076*4503599627370496)=some (1075*4503599627370496+f):=by
 have h2:=h_ (e:=1076) (f:=0) (by omega) (by omega) (by omega)
 rw[NP] at h2
 show Ieee.Format.mul _ _ _=_
 unfold Ieee.Format.mul
 rw[h_ (by omega) (by omega) hf,h2]
 simp only[Ieee.Datum.product,cR,Ieee.Format.write]
 have:=kT (m:=4503599627370496+f) (d:=52) (place:= -52) (by omega) (by omega) (by omega) (by omega)
 rw[show (2:Nat) ^ 52=4503599627370496+0 from by decide] at this
 rw[show (-1074+((1022-1:Nat):Int)+(-1074+((1076-1:Nat):Int)))= -52 from by decide]
 rw[show (false ^^ false)=false from rfl,this]
 congr 1
 show (1074:Nat)*4503599627370496+(4503599627370496+f)=_
 omega
theorem log2_lt {a:Nat} (h0:0<a) (h1:a<4503599627370496):a.log2<=51/\4503599627370496<=a*2 ^ (52-a.log2)/\a*2 ^ (52-a.log2)<2*4503599627370496:=by
 have hl:a.log2<52:=(Nat.log2_lt (by omega)).2 (by rw[show (2:Nat) ^ 52=4503599627370496 from by decide];exact h1)
 have q0:=Nat.log2_self_le (n:=a) (by omega)
 have q1:=Nat.lt_log2_self (n:=a)
 have e:(2:Nat) ^ a.log2*2 ^ (52-a.log2)=4503599627370496:=by rw[<-vY,show a.log2+(52-a.log2)=52 from by omega]
 have e2:(2:Nat) ^ (a.log2+1)*2 ^ (52-a.log2)=2*4503599627370496:=by rw[AFK,kG (2 ^ a.log2) 2,vU,e]
 refine⟨by omega, ?_, ?_⟩
 ·calc 4503599627370496=2 ^ a.log2*2 ^ (52-a.log2):=e.symm
   _<=a*2 ^ (52-a.log2):=vI _ q0
 ·calc a*2 ^ (52-a.log2)<2 ^ (a.log2+1)*2 ^ (52-a.log2):=AL9 q1 (mV _)
   _=2*4503599627370496:=e2
theorem mul_sub {a:Nat} (h0:0<a) (h1:a<4503599627370496):GL .mul a (1075*4503599627370496)=some (a.log2*4503599627370496+a*2 ^ (52-a.log2)):=by
 obtain⟨l0,l1,l2⟩:=log2_lt h0 h1
 have h2:=h_ (e:=1075) (f:=0) (by omega) (by omega) (by omega)
 rw[NP] at h2
 show Ieee.Format.mul _ _ _=_
 unfold Ieee.Format.mul
 rw[ATP h1,h2]
 simp only[Ieee.Datum.product,cR,Ieee.Format.write]
 have:=kT (m:=a*2 ^ (52-a.log2)) (d:=a.log2) (place:= -1074) l1 l2 (by omega) (by omega)
 rw[vU,←vY,show 52-a.log2+a.log2=52 from by omega,show (2:Nat) ^ 52=4503599627370496+0 from by decide] at this
 rw[show (-1074+(-1074+((1075-1:Nat):Int)))= -1074 from by decide]
 rw[show (false ^^ false)=false from rfl,this]
 rw[show (-1074+(a.log2:Int)+1074).toNat=a.log2 from by omega]
theorem yG {f:Nat} (hf:f<4503599627370496):Y4 (1075*4503599627370496+f)=some ((4503599627370496+f:Nat):Int):=by
 unfold Y4
 show ((FloatKind.f64.format.read (1075*4503599627370496+f)).toInt .zero)=_
 rw[h_ (by omega) (by omega) hf]
 unfold Ieee.Datum.toInt Ieee.Datum.integral
 simp only
 rw[show (-1074+((1075-1:Nat):Int))=0 from by decide,show (0:Int).toNat=0 from rfl,show (-(0:Int)).toNat=0 from rfl,Nat.shiftLeft_zero]
 unfold Ieee.Toward.cut Ieee.signed
 simp
theorem ANE {w:Nat} (h:w<9223372036854775808):oY w=false/\j_ w=w:=by
 unfold oY j_
 rw[kC h,a9 h]
 exact⟨rfl,rfl⟩
theorem NK {w:Nat} (h:w<9223372036854775808):oZ w=(vv w:Int):=by
 obtain⟨h1,h2⟩:=ANE h
 unfold oZ
 rw[h1,h2];simp
theorem AXD {w:Nat} (h:w<18446744073709551616):oY w=decide (9223372036854775808<=w):=by
 unfold oY
 by_cases h1:9223372036854775808<=w
 ·have:w / 9223372036854775808=1:=by omega
  rw[this];simp [h1]
 ·have:w / 9223372036854775808=0:=by omega
  rw[this];simp [h1]
theorem ANF {w:Nat} (h:w<18446744073709551616):DJ w 0=some .gt↔0<w/\w<=9218868437227405312:=by
 rw[ATN,NK (w:=0) (by omega),hU]
 have hz:isNum 0:=by decide
 unfold oZ isNum
 rw[AXD h]
 by_cases h1:9223372036854775808<=w
 ·simp only[h1,decide_true,HJ]
  constructor
  ·rintro⟨_,_,h2⟩;omega
  ·rintro⟨_,h2⟩;omega
 ·obtain⟨_,h2⟩:=ANE (w:=w) (by omega)
  simp only[h1,decide_false,VF,KA,h2]
  constructor
  ·rintro⟨h3,_,h4⟩
   refine⟨?_,h3⟩
   rcases ALO w with rfl|h5
   ·rw[hU] at h4;omega
   ·exact h5
  ·rintro⟨h3,h4⟩
   have:=fV h3
   rw[hU] at this
   exact⟨h4,hz,by omega⟩
theorem A1E {w:Nat} (h:w<=9218868437227405312):(DJ w 4607182418800017408=some .lt\/DJ w 4607182418800017408=some .eq)↔w<=4607182418800017408:=by
 have h1:isNum w:=by unfold isNum;rw[(ANE (w:=w) (by omega)).2];exact h
 have h2:isNum 4607182418800017408:=by decide
 rw[ATM,AE7,NK (by omega),NK (by omega)]
 constructor
 ·rintro (⟨_,_,h3⟩|⟨_,_,h3⟩)
  ·have:=rC.1 (show vv w<vv 4607182418800017408 by omega);omega
  ·rcases IA 4607182418800017408 w with h4|h4
   ·have:=fV h4;omega
   ·exact h4
 ·intro h3
  rcases AQZ h3 with h4|h4
  ·exact .inr ⟨h1,h2,by rw[h4]⟩
  ·have:=fV h4
   exact .inl ⟨h1,h2,by omega⟩
def P74:Nat:=1074
theorem ATR:P74=1074:=rfl
def FR (x:Nat) (n:Nat):Nat:=max 1 (vv x*n / 2 ^ P74)
theorem AXE {x y a b:Nat} (h:x<=y) (h2:a<=b):FR x a<=FR y b:=by
 have hv:vv x<=vv y:=by
  rcases AQZ h with rfl|h3
  ·exact EY _
  ·exact Nat.le_of_lt (fV h3)
 have:=Nat.div_le_div_right (c:=2 ^ P74) (AFH hv h2)
 unfold FR
 omega
theorem A1F:vv 4607182418800017408=2 ^ P74:=by decide+kernel
theorem A1G {n:Nat} (h:1<=n):FR 4607182418800017408 n=n:=by
 unfold FR
 rw[A1F,kG,AR0 _ (mV _)]
 omega
theorem AZ9 {x n:Nat} (h:x<=4607182418800017408) (hn:1<=n):1<=FR x n/\FR x n<=n:=by
 have:=AXE h (EY n)
 rw[A1G hn] at this
 exact⟨by unfold FR;omega,this⟩
theorem AE8 {x n:Nat} (h0:4503599627370496<=x) (h1:x<=4607182418800017408):vv x*n / 2 ^ P74=(4503599627370496+x%4503599627370496)*n / 2 ^ (1075-x / 4503599627370496):=by
 have he:x / 4503599627370496<=1023:=by omega
 have wG:1<=x / 4503599627370496:=by omega
 unfold vv
 rw[AD (by omega)]
 have e:(2:Nat) ^ P74=2 ^ (x / 4503599627370496-1)*2 ^ (1075-x / 4503599627370496):=by rw[<-vY,ATR];congr 1;omega
 rw[e,←vO]
 rw[vU,kG (2 ^ _) n,←vU,AR0 _ (mV _)]
theorem AE9 {k d:Nat} (hk:k<2 ^ 64) (hd:64<=d):k / 2 ^ d=0:=
 kC (tG hk (AQU (by omega) hd))
theorem ATS {x n:Nat} (h1:x<4503599627370496) (hn:n<=64):FR x n=1:=by
 unfold FR vv
 rw[AA h1]
 have:x*n<=4503599627370496*64:=AFH (by omega) hn
 rw[AE9 (by omega) (by rw[ATR];omega)]
 rfl
theorem A1H {x n:Nat} (h0:4503599627370496<=x) (h1:x<=4607182418800017408) (hn:n<=64) (hd:64<=1075-x / 4503599627370496):FR x n=1:=by
 unfold FR
 rw[AE8 h0 h1]
 have:(4503599627370496+x%4503599627370496)*n<=(2*4503599627370496)*64:=AFH (by omega) hn
 rw[AE9 (by omega) hd]
 rfl
end Go.V3
namespace Go.Proofs.YthmiilamegpllaaGreat
open Go Go.V3
theorem uY {q:Nat} (h:q<9223372036854775808):AG (q:Int)=q:=AE (by omega) (by omega)
theorem bn {w:Nat} (h:w<18446744073709551616):(BitVec.ofNat 64 w).toNat=w:=by rw[tF];omega
theorem A1I {w:Nat} (h:w<9223372036854775808):(((BitVec.ofNat 64 w) >>> (52#64).toNat) &&& (2047#64)).toNat=w / 4503599627370496:=by
 rw[vT,AF4,bn (by omega),AF2]
 show w / 2 ^ 52 &&& 2047=_
 rw[show (2047:Nat)=2 ^ 11-1 from rfl,AO6,show (2:Nat) ^ 52=4503599627370496 from by decide,show (2:Nat) ^ 11=2048 from by decide]
 omega
theorem A6R {w:Nat} (h:w<18446744073709551616):((BitVec.ofNat 64 w) &&& (4503599627370495#64)).toNat=w%4503599627370496:=by
 rw[vT,bn h]
 show w &&& 4503599627370495=_
 rw[show (4503599627370495:Nat)=2 ^ 52-1 from by decide,AO6]
theorem A6S {f:Nat} (h:f<4503599627370496):f|||4503599627370496=4503599627370496+f:=by
 have:=Nat.two_pow_add_eq_or_of_lt (i:=52) (b:=f) (by rw[show (2:Nat) ^ 52=4503599627370496 from by decide];exact h) 1
 rw[vZ,show (2:Nat) ^ 52=4503599627370496 from by decide] at this
 rw[Nat.or_comm,←this]
theorem A4H {w:Nat} (h:w<18446744073709551616):(((BitVec.ofNat 64 w) &&& (4503599627370495#64))|||(4503599627370496#64)).toNat=4503599627370496+w%4503599627370496:=by
 rw[BitVec.toNat_or,A6R h]
 exact A6S (SE _ (by omega))
theorem A4I {w:Nat} (h:w<9223372036854775808):((BitVec.ofNat 64 w) &&& ~~~(9223372036854775808#64)).toNat=w:=by
 rw[show ~~~(9223372036854775808#64)=9223372036854775807#64 from by decide,vT,bn (by omega)]
 show w &&& 9223372036854775807=_
 rw[show (9223372036854775807:Nat)=2 ^ 63-1 from by decide,AO6,show (2:Nat) ^ 63=9223372036854775808 from by decide]
 omega
theorem A4J {w:Nat} (h:w<9223372036854775808):w &&& 2 ^ 63=0:=by
 apply Nat.eq_of_testBit_eq
 intro i
 rw[Nat.testBit_and,Nat.testBit_two_pow]
 by_cases e:63=i
 ·subst e;rw[Nat.testBit_lt_two_pow (by rw[show (2:Nat) ^ 63=9223372036854775808 from by decide];exact h)];simp
 ·simp [e]
theorem ATT {w:Nat} (h:w<9223372036854775808):(((BitVec.ofNat 64 w) &&& ~~~(9218868437227405312#64))|||(4602678819172646912#64)).toNat=1022*4503599627370496+w%4503599627370496:=by
 rw[show ~~~(9218868437227405312#64)=9227875636482146303#64 from by decide,BitVec.toNat_or,vT,bn (by omega)]
 show (w &&& 9227875636482146303)|||4602678819172646912=_
 have e:w &&& 9227875636482146303=w%4503599627370496:=by
  rw[show (9227875636482146303:Nat)=2 ^ 63|||(2 ^ 52-1) from by decide,Nat.and_or_distrib_left,A4J h,AO6,Nat.zero_or]
 rw[e]
 have hf:w%4503599627370496<2 ^ 52:=by rw[show (2:Nat) ^ 52=4503599627370496 from by decide];exact SE _ (by omega)
 rw[show (4602678819172646912:Nat)=2 ^ 52*1022 from by decide,Nat.or_comm,←Nat.two_pow_add_eq_or_of_lt hf,show (2:Nat) ^ 52=4503599627370496 from by decide,kG]
theorem ATU {k n:Nat} {s:Int} (h:k*n<9223372036854775808) (hk:k<9223372036854775808) (hn:n<9223372036854775808) (s0:0<=s) (s1:s<=100000):
  (((BitVec.ofInt 64 (k:Int))*(BitVec.ofInt 64 (n:Int))) >>> (BitVec.ofInt 64 s).toNat).toNat=k*n / 2 ^ s.toNat:=by
 have es:(BitVec.ofInt 64 s).toNat=s.toNat:=by rw[vK];omega
 rw[AF4,AF2,es,BitVec.toNat_mul,AF7,AF7,bn (by omega),bn (by omega),show (2:Nat) ^ 64=18446744073709551616 from by decide,a9 (by omega)]
theorem A4K {q:Nat} (h:q<9223372036854775808):(if AG (q:Int)>1 then AG (q:Int) else 1)=((max 1 q:Nat):Int):=by
 rw[uY h]
 split <;> omega
def VV (x:Nat):Prop:=x=0\/(0<x/\x<=4607182418800017408)
instance (x:Nat):Decidable (VV x):=by unfold VV;infer_instance
theorem RT {x:Nat} (h:x<18446744073709551616):NT x=some (decide (VV x)):=by
 unfold NT
 rw[AA h]
 by_cases h0:x=0
 ·subst h0;decide
 have hb:¬BitVec.ofNat 64 x=0#64:=fun e=>h0 (by have:=PR BitVec.toNat e;rw[bn h] at this;exact this)
 rw[AD hb]
 by_cases h1:DJ x 0=some .gt
 ·rw[AA h1]
  obtain⟨h2,h3⟩:=(ANF h).1 h1
  congr 1
  rw[tI,A1E h3]
  unfold VV
  constructor
  ·intro h4;exact .inr ⟨h2,h4⟩
  ·rintro (h4|h4)
   ·exact absurd h4 h0
   ·exact h4.2
 ·rw[AD h1]
  congr 1
  symm
  rw[aY]
  rintro (h4|h4)
  ·exact h0 h4
  ·exact h1 ((ANF h).2 ⟨h4.1,by omega⟩)
theorem iA (x:Nat):JU x=NT x:=rfl
theorem not_zero {x:Nat} (h0:0<x) (h1:x<=4607182418800017408):¬DJ x 0=some .eq:=by
 rw[AE7,NK (by omega),NK (by omega),hU]
 rintro⟨_,_,h⟩
 have:=fV h0
 rw[hU] at this
 omega
theorem AKS {x:Nat} (h1:x<=4607182418800017408):isNum x:=by unfold isNum;rw[(ANE (w:=x) (by omega)).2];omega
theorem ATV {x:Nat} (h0:0<x) (h1:x<=4607182418800017408):∃ f e,f<4503599627370496/\W_ x=some (1022*4503599627370496+f,e)/\(4503599627370496<=x->f=x%4503599627370496/\e=(x / 4503599627370496:Nat)-1022)/\(x<4503599627370496→-1073<=e/\e≤-1022):=by
 have hx:x<9223372036854775808:=by omega
 have A4L:YT x=some x:=by unfold YT;rw[AA (by omega),A4I hx]
 unfold W_ fS fQ fR T6
 rw[AD (not_zero h0 h1),AA rfl,A4L]
 simp only[AZ]
 have c1:¬DJ x 9218868437227405311=some .gt:=by
  rw[ATN,NK (w:=x) hx,NK (w:=9218868437227405311) (by omega)]
  rintro⟨_,_,h⟩
  have:=rC.1 (show vv 9218868437227405311<vv x by omega)
  omega
 have c2:DJ x x=some .eq:=AE7.2 ⟨AKS h1,AKS h1,rfl⟩
 have c3:DJ x 4503599627370496=some .lt↔x<4503599627370496:=by
  rw[ATM,NK (w:=x) hx,NK (w:=4503599627370496) (by omega)]
  constructor
  ·rintro⟨_,_,h⟩;exact rC.1 (by omega)
  ·intro h;exact⟨AKS h1,by decide,by have:=fV h;omega⟩
 rw[AD (by simp [c1]),AD (by simp [c2])]
 by_cases hb:x<4503599627370496
 ·rw[AA (c3.2 hb),show (4841369599423283200:Nat)=1075*4503599627370496 from by decide,mul_sub h0 hb]
  obtain⟨l0,l1,l2⟩:=log2_lt h0 hb
  rw[AA AR1,mT,AZ]
  have hw:x.log2*4503599627370496+x*2 ^ (52-x.log2)<9223372036854775808:=by
   have:x.log2*4503599627370496<=51*4503599627370496:=vI _ l0
   omega
  have hd:(x.log2*4503599627370496+x*2 ^ (52-x.log2)) / 4503599627370496=x.log2+1:=by omega
  rw[AA (by omega),AA trivial,ATT hw,A1I hw,hd,uY (q:=x.log2+1) (by omega),AE (e:=((x.log2+1:Nat):Int)-1023) (by omega) (by omega),AE (e:=((x.log2+1:Nat):Int)-1023+1) (by omega) (by omega),AE (by omega) (by omega),AZ]
  have hwb:=SE (x.log2*4503599627370496+x*2 ^ (52-x.log2)) (show 0<4503599627370496 by omega)
  generalize (x.log2*4503599627370496+x*2 ^ (52-x.log2))%4503599627370496=w at hwb ⊢
  generalize hE: -52+(((x.log2+1:Nat):Int)-1023+1)=E
  clear hw hd l1 l2 c3 c2 c1 A4L
  refine⟨w,E,hwb, ?_,fun h=> ?_,fun _=> ?_⟩
  ·dsimp only
  ·omega
  ·omega
 ·rw[AD (fun h=>hb (c3.1 h)),AZ]
  rw[AA (by omega),AA trivial,ATT hx,A1I hx,uY (q:=x / 4503599627370496) (by omega),AE (e:=((x / 4503599627370496:Nat):Int)-1023) (by omega) (by omega),AE (e:=((x / 4503599627370496:Nat):Int)-1023+1) (by omega) (by omega),AE (by omega) (by omega),AZ]
  exact⟨x%4503599627370496,0+(((x / 4503599627370496:Nat):Int)-1023+1),SE _ (by omega),by dsimp only,fun _=>⟨rfl,by omega⟩,fun h=>absurd h hb⟩
theorem AKT {x:Nat} (h0:0<x) (h1:x<=4607182418800017408) {n:Int} (n0:1<=n) (n1:n<=64):OR x n=some (((FR x n.toNat:Nat):Int),0):=by
 obtain⟨f,e,hf,hx,e1,e2⟩:=ATV h0 h1
 obtain⟨m,rfl⟩:∃ m:Nat,n=(m:Int):=⟨n.toNat,by omega⟩
 unfold OR
 rw[RT (by omega)]
 simp only[AZ]
 rw[AD (by simp only[TZ,aY];exact H_ (.inr ⟨h0,h1⟩)),AD (by omega),AD (by omega),AD (not_zero h0 h1),hx]
 simp only[AZ]
 rw[show (4845873199050653696:Nat)=1076*4503599627370496 from by decide,ATQ hf]
 simp only[AR1,mT]
 have OU:fIn .u64 (1075*4503599627370496+f)=true:=by
  unfold fIn
  rw[yG hf]
  simp only[JL]
  show 0<=_/\_<=(18446744073709551615:Int)
  omega
 have hkn:(4503599627370496+f)*m<=(2*4503599627370496)*64:=AFH (by omega) (by omega)
 rw[AA trivial,AA OU,AA trivial,yG hf]
 simp only[mT]
 have he: -1073<=e/\e<=1:=by
  rcases IA x 4503599627370496 with h|h
  ·have:=e2 h;omega
  ·have:=e1 h;omega
 rw[AE (e:=53-e) (by omega) (by omega),ATU (by omega) (by omega) (by omega) (by omega) (by omega)]
 have hq:(4503599627370496+f)*m / 2 ^ (53-e).toNat<9223372036854775808:=Nat.lt_of_le_of_lt (Nat.div_le_self _ _) (by omega)
 rw[A4K hq]
 congr 2
 rw[HX]
 rcases IA x 4503599627370496 with h|h
 ·rw[ATS h (by omega),AE9 (by omega) (by have:=e2 h;omega)]
  rfl
 ·obtain⟨rfl,rfl⟩:=e1 h
  unfold FR
  rw[AE8 h h1]
  congr 4
  omega
theorem yH {x:Nat} (h0:0<x) (h1:x<=4607182418800017408) {n:Int} (n0:1<=n) (n1:n<=64):FK x n=some (((FR x n.toNat:Nat):Int),0):=by
 have hx:x<9223372036854775808:=by omega
 obtain⟨m,rfl⟩:∃ m:Nat,n=(m:Int):=⟨n.toNat,by omega⟩
 have hkn:(4503599627370496+x%4503599627370496)*m<=(2*4503599627370496)*64:=AFH (by omega) (by omega)
 unfold FK
 rw[iA,RT (by omega)]
 simp only[AZ]
 rw[AD (by simp only[TZ,aY];exact H_ (.inr ⟨h0,h1⟩)),AD (by omega),AD (by omega),AD (not_zero h0 h1),AA (by omega),AA trivial,A1I hx,uY (q:=x / 4503599627370496) (by omega),HX]
 have z0:(if AG (((0#64).toNat:Nat):Int)>1 then AG (((0#64).toNat:Nat):Int) else 1)=1:=by decide
 by_cases hb:4503599627370496<=x
 ·rw[AA (by omega),AE (e:=1075-((x / 4503599627370496:Nat):Int)) (by omega) (by omega)]
  by_cases hd:1075-((x / 4503599627370496:Nat):Int)<64
  ·rw[AA hd,AA trivial]
   have hp:=ATU (k:=4503599627370496+x%4503599627370496) (n:=m) (s:=1075-((x / 4503599627370496:Nat):Int)) (by omega) (by omega) (by omega) (by omega) (by omega)
   have hv:((BitVec.ofNat 64 x) &&& (4503599627370495#64))|||(4503599627370496#64)=BitVec.ofInt 64 ((4503599627370496+x%4503599627370496:Nat):Int):=by
    apply ACB
    rw[A4H (by omega),AF7,bn (by omega)]
   have hq:(4503599627370496+x%4503599627370496)*m / 2 ^ (1075-((x / 4503599627370496:Nat):Int)).toNat<9223372036854775808:=Nat.lt_of_le_of_lt (Nat.div_le_self _ _) (by omega)
   rw[hv,hp,A4K hq]
   congr 2
   unfold FR
   rw[AE8 hb h1]
   congr 4
   omega
  ·rw[AD hd,z0,A1H hb h1 (by omega) (by omega)]
   rfl
 ·rw[AD (by omega),AD (by decide),z0,ATS (by omega) (by omega)]
  rfl
theorem A1J (s:ByteArray) (p:Nat) (h:128<=(s.get! p).toNat):128<=(Utf8.decode s p).1:=by
 unfold Utf8.decode
 simp only[NP]
 rw[AD (by omega)]
 repeat' split
 all_goals (first|(simp only[Utf8.runeError];omega)|(simp_all;omega)|skip)
theorem A1K (s:ByteArray) (p:Nat) (h:(s.get! p).toNat<128):Utf8.decode s p=((s.get! p).toNat,1):=by
 unfold Utf8.decode
 simp only[NP]
 rw[AA h]
theorem AXF (s:ByteArray) {p:Nat} (h:p<s.size):LB s p=((s.get! p).toNat:Int):=by
 unfold LB
 have h' :p<s.data.size:=h
 rw[AQN h',mT]
 show _=(((s.data)[p]!).toNat:Int)
 rw[getElem!_pos s.data p h']
def okb (s:ByteArray) (i:Nat):Prop:=(97<=LB s i/\LB s i<=122)\/(i≠0/\(LB s i=45\/(48<=LB s i/\LB s i<=57)))
def mG (s:ByteArray):Prop:=1<=s.size/\s.size<=16/\∀ i,i<s.size->okb s i
theorem ATW (s:ByteArray):∃ b,LO s=some b/\(b=true↔mG s):=by
 unfold LO
 by_cases c1:(s.size:Int)<1
 ·rw[AA c1];exact⟨_,rfl,aK (by decide) fun h=>by have:=h.1;omega⟩
 rw[AD c1]
 by_cases c2:(s.size:Int)>16
 ·rw[AA c2];exact⟨_,rfl,aK (by decide) fun h=>by have:=h.2.1;omega⟩
 rw[AD c2,AA (by omega),show (0:Int).toNat=0 from rfl]
 by_cases c3:LB s 0<97
 ·rw[AA c3];exact⟨_,rfl,aK (by decide) fun h=>by rcases h.2.2 0 (by omega) with h|h;omega;exact h.1 rfl⟩
 rw[AD c3,AA (by omega)]
 by_cases c4:LB s 0>122
 ·rw[AA c4];exact⟨_,rfl,aK (by decide) fun h=>by rcases h.2.2 0 (by omega) with h|h;omega;exact h.1 rfl⟩
 rw[AD c4]
 refine RP (fun n (p:Nat)=>n=s.size-p/\p<=s.size/\∀ i,i<p->okb s i) (fun b=>b=true↔mG s) ?_ s.size 0 ⟨by omega,by omega,fun i h=>by omega⟩
 rintro n p ⟨h1,h2,h3⟩
 by_cases hp:p<s.size
 rotate_left
 ·left
  rw[NZ hp]
  exact⟨true,rfl,aL rfl ⟨by omega,by omega,fun i hi=>h3 i (by omega)⟩⟩
 rw[IV hp]
 have hg:=AXF s hp
 have bad:¬okb s p->∃ b,(some (Sum.inr false):Option (Nat ⊕ Bool))=some (.inr b)/\(b=true↔mG s):=fun hb=>⟨false,rfl,aK (by decide) fun h=>hb (h.2.2 p hp)⟩
 by_cases hb:(s.get! p).toNat<128
 ·rw[A1K s p hb]
  simp only[cond_true]
  rw[<-hg]
  have good:okb s p->∃ m s',m<n/\(some (Sum.inl (p+1)):Option (Nat ⊕ Bool))=some (.inl s')/\m=s.size-s' /\s' <=s.size/\∀ i,i<s' ->okb s i:=fun hk=>⟨n-1,p+1,by omega,rfl,by omega,by omega,fun i hi=>by
   by_cases e:i=p
   ·rw[e];exact hk
   ·exact h3 i (by omega)⟩
  have hz:p=0->97<=LB s p/\LB s p<=122:=by rintro rfl;omega
  by_cases hk:okb s p
  ·right
   have:(97<=LB s p/\LB s p<=122)\/(LB s p=45\/(48<=LB s p/\LB s p<=57)):=hk.imp id fun h=>h.2
   repeat' split
   all_goals first|exact good hk|(exfalso;omega)
  ·left
   have:¬((97<=LB s p/\LB s p<=122)\/(LB s p=45\/(48<=LB s p/\LB s p<=57))):=by
    intro h
    rcases h with h|h
    ·exact hk (.inl h)
    ·by_cases e:p=0
     ·exact hk (.inl (hz e))
     ·exact hk (.inr ⟨e,h⟩)
   repeat' split
   all_goals first|exact bad hk|(exfalso;omega)
 ·have hd:=A1J s p (by omega)
  simp only[cond_true]
  left
  have hk:¬okb s p:=by unfold okb;omega
  rw[AD (by omega),AA (by omega),AD (by omega),AA (by omega),AA (by omega)]
  exact bad hk
theorem APT (s:ByteArray) (hs:s.size<=1000000):∃ b,JT s=some b/\(b=true↔mG s):=by
 unfold JT
 refine RP (fun n (i:Int)=>∃ p:Nat,i=(p:Int)/\n=s.size-p/\p<=s.size/\∀ j,j<p->okb s j) (fun b=>b=true↔mG s) ?_ s.size 0 ⟨0,rfl,by omega,by omega,fun i h=>by omega⟩
 rintro n i ⟨p,rfl,h1,h2,h3⟩
 by_cases hp:p<s.size
 rotate_left
 ·left
  rw[AD (by omega)]
  by_cases c1:(s.size:Int)≥1
  ·rw[AA c1]
   refine⟨_,rfl, ?_⟩
   rw[NO]
   exact⟨fun h=>⟨by omega,by omega,fun j hj=>h3 j (by omega)⟩,fun h=>by have:=h.2.1;omega⟩
  ·rw[AD c1]
   exact⟨_,rfl,aK (by decide) fun h=>by have:=h.1;omega⟩
 rw[AA (by omega),AA (by omega),HX,AE (by omega) (by omega)]
 have bad:¬okb s p->∃ b,(some (Sum.inr false):Option (Int ⊕ Bool))=some (.inr b)/\(b=true↔mG s):=fun hb=>⟨false,rfl,aK (by decide) fun h=>hb (h.2.2 p hp)⟩
 have good:okb s p->∃ m s',m<n/\(some (Sum.inl ((p:Int)+1)):Option (Int ⊕ Bool))=some (.inl s')/\∃ q:Nat,s' =(q:Int)/\m=s.size-q/\q<=s.size/\∀ j,j<q->okb s j:=fun hk=>⟨n-1,_,by omega,rfl,p+1,rfl,by omega,by omega,fun i hi=>by
  by_cases e:i=p
  ·rw[e];exact hk
  ·exact h3 i (by omega)⟩
 by_cases hk:okb s p
 ·right
  have NW :=hk
  unfold okb at NW
  repeat' split
  all_goals first|exact good hk|(exfalso;omega)
 ·left
  have NW :=hk
  unfold okb at NW
  repeat' split
  all_goals first|exact bad hk|(exfalso;omega)
abbrev Ru:Type:=Nat×Int×Int×Int
abbrev Cf:Type:=ByteArray×List Ru×Int
def ru (c:Cf) (b:Int):Ru:=gl (0,0,0,0) c.2.1 b.toNat
def FX (r:Ru) (b last:Int):Prop:=r.2.1<0\/64<r.2.1\/r.2.2.1<0\/64<r.2.2.1\/(b=last/\r.2.1≠0)
def FY (r:Ru) (b last:Int):Prop:=(b=last/\r.2.2.2≠b)\/(b<last/\(r.2.2.2<=b\/last<r.2.2.2))
instance (r:Ru) (b last:Int):Decidable (FX r b last):=by unfold FX;infer_instance
instance (r:Ru) (b last:Int):Decidable (FY r b last):=by unfold FY;infer_instance
def Z7 (r:Ru) (b last:Int):Int:=if ¬VV r.1 then 6 else if FX r b last then 9 else if FY r b last then 10 else 0
def Sh (c:Cf):Prop:=∀ b:Int,0<=b->b<c.2.1.length->(ru c b).1<18446744073709551616
theorem AHO (a:Int):OP a=some (decide (0<=a/\a<=64)):=by
 unfold OP
 by_cases h:a≥0
 ·rw[AA h];simp [h]
 ·rw[AD h];congr 1;symm;rw[aY];omega
theorem AXG {c:Cf} (hn:c.2.1.length<=1000) (hs:Sh c) {b:Int} (b0:0<=b) (b1:b<c.2.1.length):U6 c b=some (Z7 (ru c b) b ((c.2.1.length:Int)-1)):=by
 have hr:gl (0,0,0,0) c.2.1 b.toNat=ru c b:=rfl
 unfold U6
 rw[AA ⟨b0,b1⟩,hr,RT (hs b b0 b1)]
 simp only[AZ]
 unfold Z7
 by_cases hv:VV (ru c b).1
 rotate_left
 ·rw[AA (by simp [hv]),AA hv]
 rw[AD (by simp [hv]),AD (H_ hv),AHO,AHO,AE (by omega) (by omega)]
 simp only[AZ]
 generalize ru c b=r
 obtain⟨x,l,q,t⟩:=r
 have hL:FX (x,l,q,t) b ((c.2.1.length:Int)-1)↔¬(0<=l/\l<=64)\/¬(0<=q/\q<=64)\/(b=(c.2.1.length:Int)-1/\l≠0):=by
  unfold FX
  simp only
  omega
 have hT:FY (x,l,q,t) b ((c.2.1.length:Int)-1)↔(b=(c.2.1.length:Int)-1/\t≠b)\/(b<(c.2.1.length:Int)-1/\(t<=b\/(c.2.1.length:Int)-1<t)):=m9
 simp only
 by_cases c1:0<=l/\l<=64
 rotate_left
 ·rw[AA (by simp only[TZ,aY];exact c1),AA (hL.2 (.inl c1))]
 rw[AD (by simp only[TZ,aY];exact H_ c1)]
 by_cases c2:0<=q/\q<=64
 rotate_left
 ·rw[AA (by simp only[TZ,aY];exact c2),AA (hL.2 (.inr (.inl c2)))]
 rw[AD (by simp only[TZ,aY];exact H_ c2)]
 by_cases c3:b=(c.2.1.length:Int)-1
 ·rw[AA c3]
  by_cases c4:l=0
  ·have nl:¬FX (x,l,q,t) b ((c.2.1.length:Int)-1):=fun h=>by have:=hL.1 h;omega
   rw[AD (H_ c4),AA c3,AD nl]
   by_cases c5:t=b
   ·have nt:¬FY (x,l,q,t) b ((c.2.1.length:Int)-1):=fun h=>by have:=hT.1 h;omega
    rw[AD (H_ c5),AD (by omega),AD nt]
   ·rw[AA c5,AA (hT.2 (.inl ⟨c3,c5⟩))]
  ·rw[AA c4,AA (hL.2 (.inr (.inr ⟨c3,c4⟩)))]
 ·have nl:¬FX (x,l,q,t) b ((c.2.1.length:Int)-1):=fun h=>by have:=hL.1 h;omega
  rw[AD c3,AD c3,AA (by omega),AD nl]
  by_cases c5:t<=b
  ·rw[AA c5,AA (hT.2 (.inr ⟨by omega,.inl c5⟩))]
  ·rw[AD c5]
   by_cases c6:t>(c.2.1.length:Int)-1
   ·rw[AA c6,AA (hT.2 (.inr ⟨by omega,.inr c6⟩))]
   ·have nt:¬FY (x,l,q,t) b ((c.2.1.length:Int)-1):=fun h=>by have:=hT.1 h;omega
    rw[AD c6,AD nt]
def fe (c:Cf):Nat->Int->Int
 |0,_=>0
 |m+1,b=>if Z7 (ru c b) b ((c.2.1.length:Int)-1)≠0 then Z7 (ru c b) b ((c.2.1.length:Int)-1) else fe c m (b+1)
theorem AEA (c:Cf):∀ (m:Nat) (b:Int),fe c m b=0->∀ k:Int,b<=k->k<b+m->Z7 (ru c k) k ((c.2.1.length:Int)-1)=0
 |0,b,_,k,h1,h2=>by omega
 |m+1,b,h,k,h1,h2=>by
  rw[fe] at h
  by_cases e:Z7 (ru c b) b ((c.2.1.length:Int)-1)=0
  ·rw[AD (H_ e)] at h
   by_cases hk:k=b
   ·rw[hk];exact e
   ·exact AEA c m (b+1) h k (by omega) (by omega)
  ·rw[AA e] at h;exact absurd h e
theorem AZA (c:Cf):∀ (m:Nat) (b:Int),(∀ k:Int,b<=k->k<b+m->Z7 (ru c k) k ((c.2.1.length:Int)-1)=0)->fe c m b=0
 |0,b,_=>rfl
 |m+1,b,h=>by
  rw[fe,AD (H_ (h b (by omega) (by omega)))]
  exact AZA c m (b+1) fun k h1 h2=>h k (by omega) (by omega)
def Aim (c:Cf) (b:Int):Prop:=∃ k:Int,(0<=k/\k<c.2.1.length)/\k≠b/\(ru c k).2.2.2=b
def Z8 (c:Cf):Prop:=((ru c ((c.2.1.length:Int)-1)).1=0/\(c.2.2<1\/64<c.2.2))\/((ru c ((c.2.1.length:Int)-1)).1≠0/\c.2.2≠0)
open Classical in
noncomputable def UZ (c:Cf):Int:=
 if ¬mG c.1 then 7 else if ¬(1<=c.2.1.length/\c.2.1.length<=4) then 8 else if fe c c.2.1.length 0≠0 then fe c c.2.1.length 0 else if ¬(∀ b:Int,1<=b->b<c.2.1.length->Aim c b) then 10 else if Z8 c then 9 else 0
theorem AHP {c:Cf} (hn:c.2.1.length<=1000) (b:Int):∃ r,NU c b=some r/\(r=true↔Aim c b):=by
 unfold NU
 refine RP (fun n (i:Int)=>∃ p:Nat,i=(p:Int)/\n=c.2.1.length-p/\p<=c.2.1.length/\∀ k:Int,0<=k->k<p->¬(k≠b/\(ru c k).2.2.2=b)) (fun r=>r=true↔Aim c b) ?_ c.2.1.length 0 ⟨0,rfl,by omega,by omega,fun i _ h=>by omega⟩
 rintro n i ⟨p,rfl,h1,h2,h3⟩
 by_cases hp:p<c.2.1.length
 rotate_left
 ·left
  rw[AD (by omega)]
  refine⟨_,rfl,aK (by decide) ?_⟩
  rintro⟨k,⟨k0,k1⟩,k2⟩
  exact h3 k k0 (by omega) k2
 have hr:gl (0,0,0,0) c.2.1 (p:Int).toNat=ru c p:=rfl
 rw[AA (by omega),AA (by omega),hr,AE (by omega) (by omega)]
 have good:¬((p:Int)≠b/\(ru c p).2.2.2=b)->∃ m s',m<n/\(some (Sum.inl ((p:Int)+1)):Option (Int ⊕ Bool))=some (.inl s')/\∃ q:Nat,s' =(q:Int)/\m=c.2.1.length-q/\q<=c.2.1.length/\∀ k:Int,0<=k->k<q->¬(k≠b/\(ru c k).2.2.2=b):=fun hk=>⟨n-1,_,by omega,rfl,p+1,rfl,by omega,by omega,fun k k0 k1=>by
  by_cases e:k=p
  ·rw[e];exact hk
  ·exact h3 k k0 (by omega)⟩
 by_cases c1:(p:Int)=b
 ·rw[AD (H_ c1)]
  exact .inr (good fun h=>h.1 c1)
 ·rw[AA c1]
  by_cases c2:(ru c p).2.2.2=b
  ·rw[AA c2]
   exact .inl ⟨_,rfl,aL rfl ⟨p,⟨by omega,by omega⟩,c1,c2⟩⟩
  ·rw[AD c2]
   exact .inr (good fun h=>c2 h.2)
theorem AEB {x:Nat} (h:VV x):DJ x 0=some .eq↔x=0:=by
 rcases h with rfl|⟨h0,h1⟩
 ·exact aL (by decide) rfl
 ·exact aK (not_zero h0 h1) (by omega)
theorem ATX {c:Cf} (h1:1<=c.2.1.length) (hfe:fe c c.2.1.length 0=0) {b:Int} (b0:0<=b) (b1:b<c.2.1.length):VV (ru c b).1:=by
 have:=AEA c _ _ hfe b b0 (by omega)
 unfold Z7 at this
 exact vF fun h=>by rw[AA h] at this;exact absurd this (by decide)
open Classical in
theorem yI {c:Cf} (hn:c.2.1.length<=1000) (hs:Sh c):H8 c=some (UZ c):=by
 unfold H8 UZ
 obtain⟨nb,n1,n2⟩:=ATW c.1
 rw[n1]
 simp only[AZ]
 by_cases hnm:mG c.1
 rotate_left
 ·rw[AA (by simp only[TZ];cases nb with|false=>rfl|true=>exact absurd (n2.1 rfl) hnm),AA hnm]
 rw[AD (by simp [n2.2 hnm]),AD (H_ hnm)]
 by_cases c1:(c.2.1.length:Int)<1
 ·rw[AA c1,AA (by omega)]
 rw[AD c1]
 by_cases c2:(c.2.1.length:Int)>4
 ·rw[AA c2,AA (by omega)]
 rw[AD c2,AD (show ¬¬(1<=c.2.1.length/\c.2.1.length<=4) from by omega)]
 refine MZ (fun m (i:Int)=>∃ p:Nat,i=(p:Int)/\m=c.2.1.length-p/\p<=c.2.1.length/\fe c (c.2.1.length-p) p=fe c c.2.1.length 0) (n:=c.2.1.length) ?_ ⟨0,rfl,by omega,by omega,by simp⟩
 rintro m i ⟨p,rfl,h1,h2,h3⟩
 by_cases hp:p<c.2.1.length
 ·rw[AA (by omega),AXG hn hs (by omega) (by omega)]
  simp only[AZ]
  obtain⟨d,hd⟩:∃ d,c.2.1.length-p=d+1:=⟨c.2.1.length-p-1,by omega⟩
  rw[hd,fe] at h3
  by_cases he:Z7 (ru c p) p ((c.2.1.length:Int)-1)=0
  ·rw[AD (H_ he)] at h3
   rw[AD (H_ he),AE (by omega) (by omega)]
   refine .inr ⟨m-1,_,by omega,rfl,p+1,rfl,by omega,by omega, ?_⟩
   rw[show c.2.1.length-(p+1)=d from by omega]
   exact h3
  ·rw[AA he] at h3
   rw[AA he,AA (by rw[<-h3];exact he),h3]
   exact .inl rfl
 ·have hp' :p=c.2.1.length:=by omega
  subst hp'
  rw[mX,fe] at h3
  rw[AD (by omega),AD (H_ h3.symm)]
  left
  suffices hx:AI (σ:=Int) (β:=Int) _ 1=some (if ¬(∀ b:Int,1<=b->b<c.2.1.length->Aim c b) then 10 else if Z8 c then 9 else 0) by
   rw[hx];rfl
  refine MZ (fun m (i:Int)=>∃ p:Nat,i=(p:Int)/\1<=p/\m=c.2.1.length-p/\p<=c.2.1.length/\∀ b:Int,1<=b->b<p->Aim c b) (n:=c.2.1.length-1) ?_ ⟨1,rfl,by omega,by omega,by omega,fun b b0 b1=>by omega⟩
  rintro m i ⟨p,rfl,q1,q2,q3,q4⟩
  by_cases hp:p<c.2.1.length
  ·rw[AA (by omega)]
   obtain⟨r,r1,r2⟩:=AHP hn (p:Int)
   rw[r1]
   simp only[AZ]
   by_cases ha:Aim c p
   ·rw[AD (by simp [r2.2 ha]),AE (by omega) (by omega)]
    exact .inr ⟨m-1,_,by omega,rfl,p+1,rfl,by omega,by omega,by omega,fun b b0 b1=>by
     by_cases e:b=p
     ·rw[e];exact ha
     ·exact q4 b b0 (by omega)⟩
   ·rw[AA (by simp only[TZ];cases r with|false=>rfl|true=>exact absurd (r2.1 rfl) ha),AA (fun h=>ha (h p (by omega) (by omega)))]
    exact .inl rfl
  ·rw[AD (by omega),AD (H_ fun b b0 b1=>q4 b b0 (by omega)),AE (e:=(c.2.1.length:Int)-1) (by omega) (by omega),AA (by omega)]
   left
   have hr:gl (0,0,0,0) c.2.1 ((c.2.1.length:Int)-1).toNat=ru c ((c.2.1.length:Int)-1):=rfl
   have hz:=AEB (ATX (by omega) h3.symm (b:=(c.2.1.length:Int)-1) (by omega) (by omega))
   rw[hr]
   unfold Z8
   simp only[hz]
   by_cases z:(ru c ((c.2.1.length:Int)-1)).1=0
   ·rw[AA z]
    by_cases f1:c.2.2<1
    ·rw[AA f1,AA (.inl ⟨z,.inl f1⟩)];rfl
    ·rw[AD f1]
     by_cases f2:c.2.2>64
     ·rw[AA f2,AA f2,AA (.inl ⟨z,.inr f2⟩)];rfl
     ·rw[AD f2,AD (H_ z),AD (by rintro (⟨_,h⟩|⟨h,_⟩);omega;exact h z)];rfl
   ·rw[AD z,AA z]
    by_cases f1:c.2.2=0
    ·rw[AD (H_ f1),AD (by rintro (⟨h,_⟩|⟨_,h⟩);exact z h;exact h f1)];rfl
    ·rw[AA f1,AA (.inr ⟨z,f1⟩)];rfl
theorem AXH:∀ p:Fin 101,(match GL .quo (cV (p.1:Int)) 4636737291354636288 with|some w=>decide (p.1=0\/(0<w/\w<=4607182418800017408))|none=>false)=true:=by decide+kernel
theorem ANG {p:Int} (h0:1<=p) (h1:p<=100):∃ w,GJ p=some (w,0)/\0<w/\w<=4607182418800017408:=by
 have:=AXH ⟨p.toNat,by omega⟩
 rw[show (((⟨p.toNat,by omega⟩:Fin 101).1:Nat):Int)=p from vJ (by omega)] at this
 unfold GJ
 rw[AD (by omega),AD (by omega)]
 cases h:GL .quo (cV p) 4636737291354636288 with
 |none=>rw[h] at this;cases this
 |some w=>
  rw[h] at this
  simp only[JL] at this
  rw[AA AR1]
  refine⟨w,rfl, ?_⟩
  rcases this with h2|h2
  ·omega
  ·exact h2
theorem ATY {d:List Int×Int} (hd:TS d):∃ x d',K7 d=some (x,d')/\(0<x/\x<=4607182418800017408)/\TS d' :=by
 unfold K7
 obtain⟨r1,d1,e1,a0,a1,hd1⟩:=FW hd (n:=4) (by omega) (by omega)
 rw[e1]
 simp only[AZ]
 by_cases c:r1=0
 ·rw[AA c]
  obtain⟨r2,d2,e2,b0,b1,hd2⟩:=FW hd1 (n:=5) (by omega) (by omega)
  rw[e2]
  simp only[AZ]
  rw[AA ⟨b0,by simp;omega⟩]
  refine⟨_,_,rfl, ?_,hd2⟩
  have hm:=BN (d:=(0:Nat)) (xs:=[4602678819172646912,4593671619917905920,4607182418800017408,4599676419421066581,4562254508917369340]) (k:=r2.toNat) (by simp;omega)
  generalize gl (0:Nat) [4602678819172646912,4593671619917905920,4607182418800017408,4599676419421066581,4562254508917369340] r2.toNat=x at hm ⊢
  simp only[GA,pU,cT] at hm
  omega
 ·rw[AD c]
  obtain⟨r2,d2,e2,b0,b1,hd2⟩:=FW hd1 (n:=100) (by omega) (by omega)
  rw[e2]
  simp only[AZ]
  rw[AE (by omega) (by omega)]
  obtain⟨w,w1,w2⟩:=ANG (p:=1+r2) (by omega) (by omega)
  rw[w1]
  exact⟨_,_,rfl,w2,hd2⟩
structure Good (c:Cf):Prop where
 nm:mG c.1
 n:1<=c.2.1.length/\c.2.1.length<=4
 ru:∀ b:Int,0<=b->b<c.2.1.length->VV (ru c b).1/\¬FX (ru c b) b ((c.2.1.length:Int)-1)/\¬FY (ru c b) b ((c.2.1.length:Int)-1)
 aim:∀ b:Int,1<=b->b<c.2.1.length->Aim c b
 fin:¬Z8 c
theorem Good.sh {c:Cf} (h:Good c):Sh c:=fun b b0 b1=>by
 rcases (h.ru b b0 b1).1 with e|⟨_,e⟩ <;> omega
theorem Good.UZ {c:Cf} (h:Good c):UZ c=0:=by
 unfold Go.Proofs.YthmiilamegpllaaGreat.UZ
 rw[AD (H_ h.nm),AD (H_ h.n)]
 have hfe:fe c c.2.1.length 0=0:=AZA c _ _ fun k k0 k1=>by
  obtain⟨a,b,d⟩:=h.ru k k0 (by omega)
  unfold Z7
  rw[AD (H_ a),AD b,AD d]
 rw[AD (H_ hfe),AD (H_ h.aim),AD h.fin]
theorem Good.check {c:Cf} (h:Good c):H8 c=some 0:=by
 rw[yI (by have:=h.n.2;omega) h.sh,h.UZ]
theorem Good.full {c:Cf} (h:Good c) (hf:c.2.2>0) {f:Int} (f0:1<=f) (f1:f<=5):Good (c.1,c.2.1,f):=by
 refine⟨h.nm,h.n,h.ru,h.aim, ?_⟩
 have:=h.fin
 rintro (⟨_,h2⟩|⟨h1,h2⟩)
 ·simp only at h2;omega
 ·exact this (.inr ⟨h1,by omega⟩)
theorem yJ {s:ByteArray} (h:decide (1<=s.size/\s.size<=16/\∀ i:Fin s.size,(97<=LB s i.1/\LB s i.1<=122)\/(i.1≠0/\(LB s i.1=45\/(48<=LB s i.1/\LB s i.1<=57))))=true):mG s:=by
 rw[NO] at h
 exact⟨h.1,h.2.1,fun i hi=>h.2.2 ⟨i,hi⟩⟩
theorem AZB {s:ByteArray} {x:Nat} {q f:Int} (hs:mG s) (hx:VV x) (hq:0<=q/\q<=64) (hf:¬((x=0/\(f<1\/64<f))\/(x≠0/\f≠0))):Good (s,[(x,0,q,0)],f):=by
 refine⟨hs,⟨by simp,by simp⟩, ?_, ?_,hf⟩
 ·intro b b0 b1
  simp only[O0,VG] at b1 ⊢
  obtain rfl:b=0:=by omega
  refine⟨hx, ?_, ?_⟩
  ·show ¬FX (x,0,q,0) _ _
   unfold FX;simp only;omega
  ·show ¬FY (x,0,q,0) _ _
   unfold FY;simp only;omega
 ·intro b b0 b1
  simp only[O0,VG] at b1
  omega
theorem ATZ {s:ByteArray} {x y:Nat} {l q k f:Int} (hs:mG s) (hx:VV x) (hy:VV y) (hl:0<=l/\l<=64) (hq:0<=q/\q<=64) (hk:0<=k/\k<=64) (hf:¬((y=0/\(f<1\/64<f))\/(y≠0/\f≠0))):Good (s,[(x,l,q,1),(y,0,k,1)],f):=by
 refine⟨hs,⟨by simp,by simp⟩, ?_, ?_,hf⟩
 ·intro b b0 b1
  simp only[O0,VG] at b1 ⊢
  have:b=0\/b=1:=by omega
  rcases this with rfl|rfl
  ·refine⟨hx, ?_, ?_⟩
   ·show ¬FX (x,l,q,1) _ _
    unfold FX;simp only;omega
   ·show ¬FY (x,l,q,1) _ _
    unfold FY;simp only;omega
  ·refine⟨hy, ?_, ?_⟩
   ·show ¬FX (y,0,k,1) _ _
    unfold FX;simp only;omega
   ·show ¬FY (y,0,k,1) _ _
    unfold FY;simp only;omega
 ·intro b b0 b1
  simp only[O0,VG] at b1
  obtain rfl:b=1:=by omega
  exact⟨0,⟨by omega,by simp⟩,by omega,rfl⟩
theorem A4M {s:ByteArray} {x y z:Nat} {q k f:Int} (hs:mG s) (hx:VV x) (hy:VV y) (hz:VV z) (hq:0<=q/\q<=64) (hk:0<=k/\k<=64) (hf:¬((z=0/\(f<1\/64<f))\/(z≠0/\f≠0))):Good (s,[(x,0,q,1),(y,0,k,2),(z,0,0,2)],f):=by
 refine⟨hs,⟨by simp,by simp⟩, ?_, ?_,hf⟩
 ·intro b b0 b1
  simp only[O0,VG] at b1 ⊢
  have:b=0\/b=1\/b=2:=by omega
  rcases this with rfl|rfl|rfl
  ·refine⟨hx, ?_, ?_⟩
   ·show ¬FX (x,0,q,1) _ _
    unfold FX;simp only;omega
   ·show ¬FY (x,0,q,1) _ _
    unfold FY;simp only;omega
  ·refine⟨hy, ?_, ?_⟩
   ·show ¬FX (y,0,k,2) _ _
    unfold FX;simp only;omega
   ·show ¬FY (y,0,k,2) _ _
    unfold FY;simp only;omega
  ·refine⟨hz, ?_, ?_⟩
   ·show ¬FX (z,0,0,2) _ _
    unfold FX;simp only;omega
   ·show ¬FY (z,0,0,2) _ _
    unfold FY;simp only;omega
 ·intro b b0 b1
  simp only[O0,VG] at b1
  have:b=1\/b=2:=by omega
  rcases this with rfl|rfl
  ·exact⟨0,⟨by omega,by simp⟩,by omega,rfl⟩
  ·exact⟨1,⟨by omega,by simp⟩,by omega,rfl⟩
theorem AEC {j:Nat} (hj:j<6) {p:Int} (p0:1<=p) (p1:p<=100):∃ c,DI (gl (⟨#[]⟩:ByteArray) [⟨#[115,101,109,105,115,112,97,99,101]⟩,⟨#[97,112,112,101,108]⟩,⟨#[102,105,120,101,100]⟩,⟨#[111,108,100,101,114,45,102,105,114,115,116]⟩,⟨#[120,120]⟩,⟨#[120,120,49,48,48]⟩] j) p=some (c,0)/\Good c:=by
 obtain⟨w,w1,w2,w3⟩:=ANG p0 p1
 have hw:VV w:= .inr ⟨w2,w3⟩
 have h0:VV 0:= .inl rfl
 unfold DI
 rw[w1]
 simp only[AZ]
 rw[AD (by simp)]
 have:j=0\/j=1\/j=2\/j=3\/j=4\/j=5:=by omega
 rcases this with rfl|rfl|rfl|rfl|rfl|rfl
 ·rw[AA (by decide),AD (by omega)]
  exact⟨_,rfl,AZB (yJ (by decide)) h0 (by omega) (by omega)⟩
 ·rw[AD (by decide),AA (by decide),AD (by omega)]
  exact⟨_,rfl,ATZ (yJ (by decide)) h0 h0 (by omega) (by omega) (by omega) (by omega)⟩
 ·rw[AD (by decide),AD (by decide),AA (by decide),AD (by omega)]
  exact⟨_,rfl,ATZ (yJ (by decide)) hw h0 (by omega) (by omega) (by omega) (by omega)⟩
 ·rw[AD (by decide),AD (by decide),AD (by decide),AA (by decide),AD (by omega)]
  exact⟨_,rfl,AZB (yJ (by decide)) hw (by omega) (by omega)⟩
 ·rw[AD (by decide),AD (by decide),AD (by decide),AD (by decide),AA (by decide),AD (by omega)]
  exact⟨_,rfl,ATZ (yJ (by decide)) hw hw (by omega) (by omega) (by omega) (by omega)⟩
 ·rw[AD (by decide),AD (by decide),AD (by decide),AD (by decide),AD (by decide),AA (by decide),AD (by omega)]
  exact⟨_,rfl,A4M (yJ (by decide)) hw hw h0 (by omega) (by omega) (by omega)⟩
def Part (n b:Int) (c:Cf):Prop:=
 c.1=⟨#[111,119,110]⟩/\(c.2.1.length:Int)=b/\(b<n->c.2.2=0)∧
 (∀ k:Int,0<=k->k<b->VV (ru c k).1/\(0<=(ru c k).2.1/\(ru c k).2.1<=64)/\(0<=(ru c k).2.2.1/\(ru c k).2.2.1<=64)/\(k<n-1->(ru c k).2.2.2=k+1)/\(k=n-1->(ru c k).2.1=0/\(ru c k).2.2.2=k))∧
 (b=n->¬(((ru c (n-1)).1=0/\(c.2.2<1\/64<c.2.2))\/((ru c (n-1)).1≠0/\c.2.2≠0)))
theorem Part.good {n:Int} {c:Cf} (n0:1<=n) (n1:n<=4) (h:Part n n c):Good c:=by
 obtain⟨h1,h2,h3,h4,h5⟩:=h
 refine⟨by rw[h1];exact yJ (by decide),⟨by omega,by omega⟩, ?_, ?_, ?_⟩
 ·intro b b0 b1
  obtain⟨a1,a2,a3,a4,a5⟩:=h4 b b0 (by omega)
  rw[h2]
  refine⟨a1, ?_, ?_⟩
  ·unfold FX;omega
  ·unfold FY;omega
 ·intro b b0 b1
  exact⟨b-1,⟨by omega,by omega⟩,by omega,by have:=(h4 (b-1) (by omega) (by omega)).2.2.2.1 (by omega);omega⟩
 ·unfold Z8
  rw[h2]
  exact h5 rfl
theorem A1L {s:ByteArray} {l:List Ru} {r:Ru} {f f' :Int} {k:Int} (k0:0<=k) (k1:k<l.length):ru (s,l++ [r],f) k=ru (s,l,f') k:=by
 unfold ru gl
 simp only[vE]
 rw[WA (by omega)]
theorem A1M {s:ByteArray} {l:List Ru} {r:Ru} {f:Int}:ru (s,l++ [r],f) l.length=r:=by
 unfold ru gl
 simp
theorem Part.more {n b:Int} {c:Cf} (h:Part n b c) (hb:b<n) {x:Nat} {l q t f:Int} (hx:VV x) (hl:0<=l/\l<=64) (hq:0<=q/\q<=64) (ht:b<n-1->t=b+1) (ht2:b=n-1->l=0/\t=b) (hf:b<n-1->f=0) (tM:b=n-1->¬((x=0/\(f<1\/64<f))\/(x≠0/\f≠0))):
  Part n (b+1) (c.1,c.2.1++ [(x,l,q,t)],f):=by
 obtain⟨h1,h2,h3,h4,h5⟩:=h
 have DZ:ru (c.1,c.2.1++ [(x,l,q,t)],f) b=(x,l,q,t):=by rw[<-h2];exact A1M
 refine⟨h1,by simp;omega,fun h=>hf (by omega), ?_, ?_⟩
 ·intro k k0 k1
  by_cases e:k=b
  ·rw[e,DZ]
   exact⟨hx,hl,hq,ht,ht2⟩
  ·rw[A1L (f' :=c.2.2) k0 (by omega)]
   exact h4 k k0 (by omega)
 ·intro e
  rw[show n-1=b from by omega,DZ]
  exact tM (by omega)
theorem AXI {α β:Type} {x:Option (α×β)} {Q:α->Prop} {R:β->Prop} (h:∃ b,x=some b/\Q b.1/\R b.2):∃ c d',x=some (c,d')/\Q c/\R d' :=by
 obtain⟨⟨c,d'⟩,h1,h2⟩:=h
 exact⟨c,d',h1,h2⟩
theorem APU {d:List Int×Int} (hd:TS d):∃ c d',J5 d=some (c,d')/\Good c/\TS d' :=by
 unfold J5
 obtain⟨r1,d1,e1,a0,a1,hd1⟩:=FW hd (n:=3) (by omega) (by omega)
 rw[e1,AZ]
 by_cases c1:r1>0
 ·rw[AA c1]
  unfold OD
  obtain⟨r3,d3,e3,b0,b1,hd3⟩:=FW hd1 (n:=6) (by omega) (by omega)
  rw[AZ,e3,AZ,AA ⟨b0,by simp;omega⟩]
  obtain⟨r4,d4,e4,f0,f1,hd4⟩:=FW hd3 (n:=100) (by omega) (by omega)
  rw[e4,AZ]
  obtain⟨r5,d5,e5,g0,g1,hd5⟩:=FW hd4 (n:=6) (by omega) (by omega)
  rw[e5,AZ,AA ⟨g0,by simp;omega⟩,AE (e:=1+r4) (by omega) (by omega)]
  have hp:1<=gl (0:Int) [10,15,25,30,50,1+r4] r5.toNat/\gl (0:Int) [10,15,25,30,50,1+r4] r5.toNat<=100:=by
   have hm:=BN (d:=(0:Int)) (xs:=[10,15,25,30,50,1+r4]) (k:=r5.toNat) (by simp;omega)
   generalize gl (0:Int) [10,15,25,30,50,1+r4] r5.toNat=x at hm ⊢
   simp only[GA,pU,cT] at hm
   omega
  obtain⟨c,k1,k2⟩:=AEC (j:=r3.toNat) (by omega) hp.1 hp.2
  rw[k1,AZ]
  by_cases c2:c.2.2>0
  ·rw[AA c2]
   obtain⟨r6,d6,e6,m0,m1,hd6⟩:=FW hd5 (n:=5) (by omega) (by omega)
   rw[e6,AZ,AZ,AE (e:=1+r6) (by omega) (by omega)]
   exact⟨_,_,rfl,k2.full c2 (by omega) (by omega),hd6⟩
  ·rw[AD c2,AZ]
   exact⟨_,_,rfl,k2,hd5⟩
 ·rw[AD c1]
  obtain⟨r8,d8,e8,b0,b1,hd8⟩:=FW hd1 (n:=4) (by omega) (by omega)
  rw[e8,AZ,AE (e:=1+r8) (by omega) (by omega),AE (e:=1+r8-1) (by omega) (by omega)]
  generalize hn:1+r8=n
  have n0:1<=n:=by omega
  have n1:n<=4:=by omega
  refine AXI (Q:=Good) (R:=TS) ?_
  refine RP (β:=Cf×(List Int×Int)) (fun m (st:Int×(List Int×Int)×Cf)=>0<=st.1/\st.1<=n/\(m:Int)=n-st.1/\TS st.2.1/\Part n st.1 st.2.2) (fun b=>Good b.1/\TS b.2) ?_ n.toNat ((0:Int),d8,((⟨#[111,119,110]⟩,[],0):Cf)) ⟨by simp,by simp only;omega,by simp only;omega,hd8,rfl,rfl,fun _=>rfl,fun k k0 k1=>by simp only at k1;omega,fun h=>by simp only at h;omega⟩
  rintro m ⟨b,dk,c⟩ ⟨b0,b1,hm,hdk,X_⟩
  simp only at b0 b1 hm hdk X_ ⊢
  have hlen:=X_.2.1
  by_cases hb:b<n
  rotate_left
  ·rw[AD hb]
   have:b=n:=by omega
   rw[this] at X_
   exact .inl ⟨_,rfl,X_.good n0 n1,hdk⟩
  rw[AA hb]
  right
  obtain⟨r9,d9,e9,p0,p1,hd9⟩:=FW hdk (n:=3) (by omega) (by omega)
  rw[e9,AZ,AE (e:=b+1) (by omega) (by omega)]
  obtain⟨JJ,d10,e10,q0,q1,A4N⟩:=FW hd9 (n:=3) (by omega) (by omega)
  rw[e10,AZ]
  have bD:∀ r:Ru,(c.2.1.length+([r]:List Ru).length)*32<=140737488355328:=fun r=>by
   simp only[O0,VG];omega
  have tl:∀ (x:Nat) (dk2:List Int×Int),VV x->TS dk2->∃ (dk3:List Int×Int) (c' :Cf),(if b<n-1 then
    Option.bind (AF dk2 3) (fun OF=>
    if OF.1=0 then
    Option.bind (AF OF.2 2) (fun Q6=>
    if b=n-1 then
    if DJ x 0=some .eq then
    Option.bind (AF Q6.2 6) (fun mN=>
    if (c.2.1.length+([(x,AG ((1:Int)+Q6.1),r9,b)]:List Ru).length)*32<=140737488355328 then
    some (Sum.inl ((b+1,mN.2,(c.1,c.2.1++([(x,AG ((1:Int)+Q6.1),r9,b)]:List Ru),AG ((1:Int)+mN.1)))))
    else none)
    else if (c.2.1.length+([(x,AG ((1:Int)+Q6.1),r9,b)]:List Ru).length)*32<=140737488355328 then
    some (Sum.inl ((b+1,Q6.2,(c.1,c.2.1++([(x,AG ((1:Int)+Q6.1),r9,b)]:List Ru),c.2.2))))
    else none
    else if (c.2.1.length+([(x,AG ((1:Int)+Q6.1),r9,b+1)]:List Ru).length)*32<=140737488355328 then
    some (Sum.inl ((b+1,Q6.2,(c.1,c.2.1++([(x,AG ((1:Int)+Q6.1),r9,b+1)]:List Ru),c.2.2))))
    else none)
    else if b=n-1 then
    if DJ x 0=some .eq then
    Option.bind (AF OF.2 6) (fun l4=>
    if (c.2.1.length+([(x,0,r9,b)]:List Ru).length)*32<=140737488355328 then
    some (Sum.inl ((b+1,l4.2,(c.1,c.2.1++([(x,0,r9,b)]:List Ru),AG ((1:Int)+l4.1)))))
    else none)
    else if (c.2.1.length+([(x,0,r9,b)]:List Ru).length)*32<=140737488355328 then
    some (Sum.inl ((b+1,OF.2,(c.1,c.2.1++([(x,0,r9,b)]:List Ru),c.2.2))))
    else none
    else if (c.2.1.length+([(x,0,r9,b+1)]:List Ru).length)*32<=140737488355328 then
    some (Sum.inl ((b+1,OF.2,(c.1,c.2.1++([(x,0,r9,b+1)]:List Ru),c.2.2))))
    else none)
    else if b=n-1 then
    if DJ x 0=some .eq then
    Option.bind (AF dk2 6) (fun uS=>
    if (c.2.1.length+([(x,0,r9,b)]:List Ru).length)*32<=140737488355328 then
    some (Sum.inl ((b+1,uS.2,(c.1,c.2.1++([(x,0,r9,b)]:List Ru),AG ((1:Int)+uS.1)))))
    else none)
    else if (c.2.1.length+([(x,0,r9,b)]:List Ru).length)*32<=140737488355328 then
    some (Sum.inl ((b+1,dk2,(c.1,c.2.1++([(x,0,r9,b)]:List Ru),c.2.2))))
    else none
    else if (c.2.1.length+([(x,0,r9,b+1)]:List Ru).length)*32<=140737488355328 then
    some (Sum.inl ((b+1,dk2,(c.1,c.2.1++([(x,0,r9,b+1)]:List Ru),c.2.2))))
    else none:Option ((Int×(List Int×Int)×Cf) ⊕ (Cf×(List Int×Int))))=some (Sum.inl (b+1,dk3,c'))/\TS dk3/\Part n (b+1) c' :=by
   intro x dk2 hx A1N
   by_cases c2:b<n-1
   ·have c3:¬b=n-1:=by omega
    have hc0:c.2.2=0:=X_.2.2.1 hb
    rw[AA c2]
    obtain⟨OF,d12,e12,s0,s1,A4O⟩:=FW A1N (n:=3) (by omega) (by omega)
    rw[e12,AZ]
    by_cases c4:OF=0
    ·rw[AA c4]
     obtain⟨Q6,d13,e13,t0,t1,A6T⟩:=FW A4O (n:=2) (by omega) (by omega)
     rw[e13,AZ,AD c3,AA (bD _),AE (e:=1+Q6) (by omega) (by omega)]
     exact⟨_,_,rfl,A6T,X_.more hb hx (by omega) (by omega) (fun _=>rfl) (fun h=>absurd h c3) (fun _=>hc0) (fun h=>absurd h c3)⟩
    ·rw[AD c4,AD c3,AA (bD _)]
     exact⟨_,_,rfl,A4O,X_.more hb hx (by omega) (by omega) (fun _=>rfl) (fun h=>absurd h c3) (fun _=>hc0) (fun h=>absurd h c3)⟩
   ·have c3:b=n-1:=by omega
    have hc0:c.2.2=0:=X_.2.2.1 hb
    rw[AD c2,AA c3]
    by_cases c4:DJ x 0=some .eq
    ·rw[AA c4]
     have hx0:=(AEB hx).1 c4
     obtain⟨uS,d16,e16,t0,t1,A6U⟩:=FW A1N (n:=6) (by omega) (by omega)
     rw[e16,AZ,AA (bD _),AE (e:=1+uS) (by omega) (by omega)]
     exact⟨_,_,rfl,A6U,X_.more hb hx (by omega) (by omega) (fun h=>by omega) (fun _=>⟨rfl,rfl⟩) (fun h=>by omega) (fun _=>by omega)⟩
    ·rw[AD c4,AA (bD _)]
     have hx0:x≠0:=fun h=>c4 ((AEB hx).2 h)
     exact⟨_,_,rfl,A1N,X_.more hb hx (by omega) (by omega) (fun h=>by omega) (fun _=>⟨rfl,rfl⟩) (fun h=>by omega) (fun _=>by omega)⟩
  by_cases c5:JJ>0
  ·rw[AA c5]
   obtain⟨x,d11,e11,hx,A6V⟩:=ATY A4N
   rw[e11,AZ,AZ]
   obtain⟨dk3,c',t1,t2,t3⟩:=tl x d11 (.inr hx) A6V
   exact⟨m-1,_,by omega,t1,by simp only;omega,by simp only;omega,by simp only;omega,t2,t3⟩
  ·rw[AD c5,AZ]
   obtain⟨dk3,c',t1,t2,t3⟩:=tl 0 d10 (.inl rfl) A4N
   exact⟨m-1,_,by omega,t1,by simp only;omega,by simp only;omega,by simp only;omega,t2,t3⟩
theorem AU0 {x:Nat} {l q t b last:Int} {n:Nat} (hx:x<18446744073709551616) (hn:(n:Int)=last+1) (b1:b<=last) {α:Type} (ok mark:Option (α ⊕ Int)) (XU:mark=mark):
  (if (!(decide (VV x)))=true then
   some (Sum.inr (6))
   else if l<0 then
   some (Sum.inr (9))
   else if l>64 then
   some (Sum.inr (9))
   else if q<0 then
   some (Sum.inr (9))
   else if q>64 then
   some (Sum.inr (9))
   else if b=last then
   if ¬l=0 then
   some (Sum.inr (9))
   else if b=last then
   if ¬t=b then
   some (Sum.inr (10))
   else if ¬(b=last) then
   if t<=b then
   some (Sum.inr (10))
   else if t≥(n:Int) then
   some (Sum.inr (10))
   else if ¬(b=last) then
   mark
   else ok
   else if ¬(b=last) then
   mark
   else ok
   else if ¬(b=last) then
   if t<=b then
   some (Sum.inr (10))
   else if t≥(n:Int) then
   some (Sum.inr (10))
   else if ¬(b=last) then
   mark
   else ok
   else if ¬(b=last) then
   mark
   else ok
   else if b=last then
   if ¬t=b then
   some (Sum.inr (10))
   else if ¬(b=last) then
   if t<=b then
   some (Sum.inr (10))
   else if t≥(n:Int) then
   some (Sum.inr (10))
   else if ¬(b=last) then
   mark
   else ok
   else if ¬(b=last) then
   mark
   else ok
   else if ¬(b=last) then
   if t<=b then
   some (Sum.inr (10))
   else if t≥(n:Int) then
   some (Sum.inr (10))
   else if ¬(b=last) then
   mark
   else ok
   else if ¬(b=last) then
   mark
   else ok:Option (α ⊕ Int))=if Z7 (x,l,q,t) b last≠0 then some (Sum.inr (Z7 (x,l,q,t) b last)) else if b=last then ok else mark:=by
 have hL:FX (x,l,q,t) b last↔l<0\/64<l\/q<0\/64<q\/(b=last/\l≠0):=m9
 have hT:FY (x,l,q,t) b last↔(b=last/\t≠b)\/(b<last/\(t<=b\/last<t)):=m9
 unfold Z7
 simp only
 by_cases hv:VV x
 rotate_left
 ·rw[AA (by simp [hv]),AA hv,AA (by decide)]
 rw[AD (by simp [hv]),AD (H_ hv)]
 by_cases c1:FX (x,l,q,t) b last
 ·rw[AA c1,AA (show (9:Int)≠0 from by decide)]
  have c1' :=hL.1 c1
  by_cases d1:l<0
  ·rw[AA d1]
  rw[AD d1]
  by_cases d2:l>64
  ·rw[AA d2]
  rw[AD d2]
  by_cases d3:q<0
  ·rw[AA d3]
  rw[AD d3]
  by_cases d4:q>64
  ·rw[AA d4]
  rw[AD d4,AA (by omega),AA (by omega)]
 ·have c1' :¬(l<0\/64<l\/q<0\/64<q\/(b=last/\l≠0)):=fun h=>c1 (hL.2 h)
  rw[AD c1,AD (show ¬l<0 by omega),AD (show ¬l>64 by omega),AD (show ¬q<0 by omega),AD (show ¬q>64 by omega)]
  by_cases e:b=last
  ·rw[AA e,AD (show ¬¬l=0 by omega),AA e,AA e]
   by_cases d5:t=b
   ·have nt:¬FY (x,l,q,t) b last:=fun h=>by have:=hT.1 h;omega
    rw[AD (H_ d5),AD (H_ e),AD (H_ e),AD nt,AD (by decide)]
   ·rw[AA d5,AA (hT.2 (.inl ⟨e,d5⟩)),AA (by decide)]
  ·rw[AD e,AD e,AD e,AA e]
   by_cases d5:t<=b
   ·rw[AA d5,AA (hT.2 (.inr ⟨by omega,.inl d5⟩)),AA (by decide)]
   ·rw[AD d5]
    by_cases d6:t≥(n:Int)
    ·rw[AA d6,AA (hT.2 (.inr ⟨by omega,.inr (by omega)⟩)),AA (by decide)]
    ·have nt:¬FY (x,l,q,t) b last:=fun h=>by have:=hT.1 h;omega
     rw[AD d6,AA e,AD nt,AD (by decide)]
theorem yK (c:Cf) {k:Int} (h:Z7 (ru c k) k ((c.2.1.length:Int)-1)=0):¬FY (ru c k) k ((c.2.1.length:Int)-1):=by
 unfold Z7 at h
 intro ht
 by_cases hv:VV (ru c k).1
 ·rw[AD (H_ hv)] at h
  by_cases hl:FX (ru c k) k ((c.2.1.length:Int)-1)
  ·rw[AA hl] at h;exact absurd h (by decide)
  ·rw[AD hl,AA ht] at h;exact absurd h (by decide)
 ·rw[AA hv] at h;exact absurd h (by decide)
open Classical in
theorem iB {c:Cf} (hn:c.2.1.length<=1000) (bD:c.1.size<=1000000) (hs:Sh c):DA c=some (UZ c):=by
 unfold DA UZ
 obtain⟨nb,n1,n2⟩:=APT c.1 bD
 rw[n1,AZ]
 by_cases hnm:mG c.1
 rotate_left
 ·rw[AA (by simp only[TZ];cases nb with|false=>rfl|true=>exact absurd (n2.1 rfl) hnm),AA hnm]
 rw[AD (by simp [n2.2 hnm]),AD (H_ hnm)]
 by_cases c1:(c.2.1.length:Int)<1
 ·rw[AA c1,AA (by omega)]
 rw[AD c1]
 by_cases c2:(c.2.1.length:Int)>4
 ·rw[AA c2,AA (by omega)]
 rw[AD c2,AD (show ¬¬(1<=c.2.1.length/\c.2.1.length<=4) from by omega),AA (by simp),AE (e:=(c.2.1.length:Int)-1) (by omega) (by omega)]
 have hr:∀ i:Int,gl (0,0,0,0) c.2.1 i.toNat=ru c i:=fun _=>rfl
 refine MZ (fun m (st:Int×List Bool)=>∃ p:Nat,st.1=(p:Int)/\m=c.2.1.length-p/\p<=c.2.1.length/\fe c (c.2.1.length-p) p=fe c c.2.1.length 0/\st.2.length=4/\(∀ k:Int,0<=k->k<p->Z7 (ru c k) k ((c.2.1.length:Int)-1)=0)∧
  ∀ j:Nat,j<4->(gl false st.2 j=true↔(j=0\/∃ k:Int,(0<=k/\k<p/\k<(c.2.1.length:Int)-1)/\(ru c k).2.2.2=(j:Int)))) (n:=c.2.1.length) ?_ ⟨0,rfl,by omega,by omega,by simp,rfl,fun k k0 k1=>by omega, ?_⟩
 ·rintro m ⟨i,am⟩ ⟨p,rfl,h1,h2,h3,h4,h5,h6⟩
  simp only at h4 h6 ⊢
  by_cases hp:p<c.2.1.length
  ·have f1:m-1<m/\m-1=c.2.1.length-(p+1)/\p+1<=c.2.1.length:=by clear h6 h5;omega
   rw[AA (by clear h6 h5;omega),AA (by clear h6 h5;omega),hr,iA,RT (hs p (by clear h6 h5;omega) (by clear h6 h5;omega)),AZ,AE (e:=(p:Int)+1) (by clear h6 h5;omega) (by clear h6 h5;omega)]
   have A4P:=AU0 (x:=(ru c p).1) (l:=(ru c p).2.1) (q:=(ru c p).2.2.1) (t:=(ru c p).2.2.2) (b:=(p:Int)) (last:=(c.2.1.length:Int)-1) (n:=c.2.1.length) (hs p (by clear h6 h5;omega) (by clear h6 h5;omega)) (by clear h6 h5;omega) (by clear h6 h5;omega)
    (α:=Int×List Bool) (some (Sum.inl ((p:Int)+1,am))) (if (0<=(ru c p).2.2.2/\(ru c p).2.2.2<((4:Nat):Int))/\(ru c p).2.2.2<(am.length:Int) then some (Sum.inl ((p:Int)+1,am.set (ru c p).2.2.2.toNat true)) else none) rfl
   rw[A4P,show ((ru c p).1,(ru c p).2.1,(ru c p).2.2.1,(ru c p).2.2.2)=ru c p from rfl]
   obtain⟨d,hd⟩:∃ d,c.2.1.length-p=d+1:=⟨c.2.1.length-p-1,by clear h6 h5;omega⟩
   rw[hd,fe] at h3
   by_cases he:Z7 (ru c p) p ((c.2.1.length:Int)-1)=0
   ·rw[AD (H_ he)] at h3
    rw[AD (H_ he)]
    have hd' :c.2.1.length-(p+1)=d:=by clear h6 h5;omega
    have h5' :∀ k:Int,0<=k->k<((p+1:Nat):Int)->Z7 (ru c k) k ((c.2.1.length:Int)-1)=0:=fun k k0 k1=>by
     by_cases e:k=p
     ·rw[e];exact he
     ·exact h5 k k0 (by clear h6 h5;omega)
    right
    by_cases hl:(p:Int)=(c.2.1.length:Int)-1
    ·rw[AA hl]
     refine⟨m-1,_,f1.1,rfl,p+1,rfl,f1.2.1,f1.2.2,by rw[hd'];exact h3,h4,h5',fun j hj=> ?_⟩
     rw[h6 j hj]
     constructor
     ·rintro (h|⟨k,k1,k2⟩)
      ·exact .inl h
      ·exact .inr ⟨k,⟨k1.1,by clear h6 h5;omega,k1.2.2⟩,k2⟩
     ·rintro (h|⟨k,k1,k2⟩)
      ·exact .inl h
      ·exact .inr ⟨k,⟨k1.1,by clear h6 h5;omega,k1.2.2⟩,k2⟩
    ·have ht:=yK c he
     have hT:¬(((p:Int)=(c.2.1.length:Int)-1/\(ru c p).2.2.2≠p)\/((p:Int)<(c.2.1.length:Int)-1/\((ru c p).2.2.2<=p\/(c.2.1.length:Int)-1<(ru c p).2.2.2))):=ht
     have A1O:(p:Int)<(ru c p).2.2.2/\(ru c p).2.2.2<4:=by clear h6 h5;omega
     rw[AD hl,AA (by rw[h4];clear h6 h5;omega)]
     refine⟨m-1,_,f1.1,rfl,p+1,rfl,f1.2.1,f1.2.2,by rw[hd'];exact h3,by simpa using h4,h5',fun j hj=> ?_⟩
     simp only
     have WI:gl false (am.set (ru c p).2.2.2.toNat true) j=if j=(ru c p).2.2.2.toNat then true else gl false am j:=by
      unfold gl
      simp only[vE,vL]
      by_cases e:(ru c p).2.2.2.toNat=j
      ·rw[AA e,AA (by rw[h4];exact e ▸ hj),AA e.symm];rfl
      ·rw[AD e,AD (fun h=>e h.symm)]
     rw[WI]
     by_cases e:j=(ru c p).2.2.2.toNat
     ·rw[AA e]
      exact aL rfl (.inr ⟨p,⟨by clear h6 h5;omega,by clear h6 h5;omega,by clear h6 h5;omega⟩,by clear h6 h5;omega⟩)
     ·rw[AD e,h6 j hj]
      constructor
      ·rintro (h|⟨k,k1,k2⟩)
       ·exact .inl h
       ·exact .inr ⟨k,⟨k1.1,by clear h6 h5;omega,k1.2.2⟩,k2⟩
      ·rintro (h|⟨k,k1,k2⟩)
       ·exact .inl h
       ·by_cases ek:k=p
        ·rw[ek] at k2;exact absurd k2 (by clear h6 h5;omega)
        ·exact .inr ⟨k,⟨k1.1,by clear h6 h5;omega,k1.2.2⟩,k2⟩
   ·rw[AA he] at h3
    rw[AA he,AA (by rw[<-h3];exact he),h3]
    exact .inl rfl
  ·have hp' :p=c.2.1.length:=by clear h6 h5;omega
   subst hp'
   rw[mX,fe] at h3
   rw[AD (by clear h6 h5;omega),AD (H_ h3.symm)]
   left
   have A4Q:∀ b:Nat,1<=b->b<c.2.1.length->(gl false am b=true↔Aim c b):=by
    intro b b0 b1
    rw[h6 b (by clear h6 h5;omega)]
    constructor
    ·rintro (h|⟨k,⟨k0,k1,k2⟩,k3⟩)
     ·exact absurd h (by clear h6 h5;omega)
     ·have hT:¬((k=(c.2.1.length:Int)-1/\(ru c k).2.2.2≠k)\/(k<(c.2.1.length:Int)-1/\((ru c k).2.2.2<=k\/(c.2.1.length:Int)-1<(ru c k).2.2.2))):=yK c (h5 k k0 k1)
      exact⟨k,⟨k0,k1⟩,by clear h6 h5;omega,k3⟩
    ·rintro⟨k,⟨k0,k1⟩,k2,k3⟩
     have hT:¬((k=(c.2.1.length:Int)-1/\(ru c k).2.2.2≠k)\/(k<(c.2.1.length:Int)-1/\((ru c k).2.2.2<=k\/(c.2.1.length:Int)-1<(ru c k).2.2.2))):=yK c (h5 k k0 k1)
     exact .inr ⟨k,⟨k0,k1,by clear h6 h5;omega⟩,k3⟩
   have h60:gl false am 0=true:=(h6 0 (by omega)).2 (.inl rfl)
   clear h6
   suffices hx:AI (σ:=Int) (β:=Int) _ 0=some (if ¬(∀ b:Int,1<=b->b<c.2.1.length->Aim c b) then 10 else if Z8 c then 9 else 0) by
    rw[hx];rfl
   refine MZ (fun m (i:Int)=>∃ p:Nat,i=(p:Int)/\m=c.2.1.length-p/\p<=c.2.1.length/\∀ b:Int,1<=b->b<p->Aim c b) (n:=c.2.1.length) ?_ ⟨0,rfl,by omega,by omega,fun b b0 b1=>by omega⟩
   rintro m i ⟨p,rfl,q2,q3,q4⟩
   by_cases hp:p<c.2.1.length
   ·rw[AA (by omega),AA (by rw[h4];omega),HX]
    by_cases ha:gl false am p=true
    ·rw[AD (by simp [ha]),AE (by omega) (by omega)]
     refine .inr ⟨m-1,_,by omega,rfl,p+1,rfl,by omega,by omega,fun b b0 b1=> ?_⟩
     by_cases e:b=p
     ·rw[e];exact (A4Q p (by omega) hp).1 ha
     ·exact q4 b b0 (by omega)
    ·have hp0:p≠0:=by rintro rfl;exact ha h60
     rw[AA (by simpa using ha),AA (fun h=>ha ((A4Q p (by omega) hp).2 (h p (by omega) (by omega))))]
     exact .inl rfl
   ·rw[AD (by omega),AD (H_ fun b b0 b1=>q4 b b0 (by omega)),AA (by omega)]
    left
    have hz:=AEB (ATX (by omega) h3.symm (b:=(c.2.1.length:Int)-1) (by omega) (by omega))
    rw[hr]
    unfold Z8
    simp only[hz]
    by_cases z:(ru c ((c.2.1.length:Int)-1)).1=0
    ·rw[AA z]
     by_cases f1:c.2.2<1
     ·rw[AA f1,AA (.inl ⟨z,.inl f1⟩)];rfl
     ·rw[AD f1]
      by_cases f2:c.2.2>64
      ·rw[AA f2,AA (.inl ⟨z,.inr f2⟩)];rfl
      ·rw[AD f2,AD (H_ z),AD (by rintro (⟨_,h⟩|⟨h,_⟩);omega;exact h z)];rfl
    ·rw[AD z,AA z]
     by_cases f1:c.2.2=0
     ·rw[AD (H_ f1),AD (by rintro (⟨h,_⟩|⟨_,h⟩);exact z h;exact h f1)];rfl
     ·rw[AA f1,AA (.inr ⟨z,f1⟩)];rfl
 ·intro j hj
  have:j=0\/j=1\/j=2\/j=3:=by omega
  rcases this with rfl|rfl|rfl|rfl
  ·exact aL rfl (.inl rfl)
  all_goals exact aK (by decide) (by rintro (h|⟨k,k1,_⟩);omega;omega)
abbrev Rows:Type:=List (List AH)
theorem HF {α:Type} (q:List (List α)) (k:Nat) (hk:k<q.length):q.flatten=(q.take k).flatten++(gl [] q k++(q.drop (k+1)).flatten):=by
 rw[D8 hk,←List.flatten_cons,←AA6 hk,←ALL,AA8]
theorem FZ {α:Type} {d:α} (x:List α) (j:Nat) (hj:j<x.length):x.take (j+1)=x.take j++ [gl d x j]:=by
 rw[D8 hj,List.take_append_getElem hj]
theorem uZ {α:Type} {d:α} (x:List α) (j:Nat) (hj:j<x.length):x=x.take j++gl d x j::x.drop (j+1):=by
 rw[D8 hj,←AA6 hj,AA8]
theorem AU1 {α γ β:Type} {q:List (List γ)} {d:γ} {F:α->γ->α} {a0:α} {r:α->β} {out:α×Int->Option ((α×Int) ⊕ β)} {cO:Nat->α×Int->Option ((α×Int) ⊕ ((α×Int) ⊕ β))}
  (h1:∀ k a,k<q.length->out (a,(k:Int))=AI (cO k) (a,0))
  (h2:∀ (k j:Nat) a,k<q.length->j<(gl [] q k).length->(∃ pre suf,q.flatten=pre++gl d (gl [] q k) j::suf/\a=pre.foldl F a0)->cO k (a,(j:Int))=some (.inl (F a (gl d (gl [] q k) j),(j:Int)+1)))
  (h3:∀ (k:Nat) a,k<q.length->cO k (a,((gl [] q k).length:Int))=some (.inr (.inl (a,(k:Int)+1))))
  (h4:∀ a,out (a,(q.length:Int))=some (.inr (r a))):AI out (a0,0)=some (r (q.flatten.foldl F a0)):=by
 refine (AO (fun k (st:α×Int)=>k<=q.length/\st=((q.take k).flatten.foldl F a0,(k:Int))) (fun b=>b=r (q.flatten.foldl F a0)) q.length ?_ ?_ (s:=(a0,0)) ⟨by omega,by simp⟩).elim fun b hb=>by rw[hb.1,hb.2]
 ·rintro k st hk ⟨_,rfl⟩
  left
  refine⟨_, ?_,by omega,rfl⟩
  rw[h1 k _ hk]
  refine (AO (fun j (st:α×Int)=>j<=(gl [] q k).length/\st=(((q.take k).flatten++(gl [] q k).take j).foldl F a0,(j:Int))) (fun b=>b=Sum.inl ((q.take (k+1)).flatten.foldl F a0,((k+1:Nat):Int))) (gl [] q k).length ?_ ?_ (s:=((q.take k).flatten.foldl F a0,0)) ⟨by omega,by simp⟩).elim fun b hb=>by rw[hb.1,hb.2]
  ·rintro j st hj ⟨_,rfl⟩
   left
   refine⟨_,h2 k j _ hk hj ⟨(q.take k).flatten++(gl [] q k).take j,(gl [] q k).drop (j+1)++(q.drop (k+1)).flatten, ?_,rfl⟩,by omega, ?_⟩
   ·rw[HF q k hk]
    conv=>lhs;rw[uZ (d:=d) (gl [] q k) j hj]
    simp
   ·rw[FZ (d:=d) _ j hj,←J_,AAE (l' :=[_])]
    rfl
  ·rintro st ⟨_,rfl⟩
   refine⟨_,h3 k _ hk, ?_⟩
   rw[SD,FZ (d:=[]) q k hk]
   simp
 ·rintro st ⟨_,rfl⟩
  exact⟨_,h4 _,by rw[SD]⟩
def YX (xs:List AH):Int:=xs.foldl (fun n i=>n+i.2.2.2.2) 0
def lrg (z:Int) (xs:List AH):Int:=xs.foldl (fun n i=>max n (cl z i.2.2.2.2)) 0
theorem rD (xs:List AH) (a:Int):xs.foldl (fun n i=>n+i.2.2.2.2) a=a+YX xs:=by
 unfold YX
 induction xs generalizing a with
 |nil=>simp
 |cons x xs ih=>rw[kE,kE,ih,ih (0+_)];omega
theorem rE (x:AH) (xs:List AH):YX (x::xs)=x.2.2.2.2+YX xs:=by
 show List.foldl _ (0+x.2.2.2.2) xs=_
 rw[rD];omega
theorem AU2 (xs ys:List AH):YX (xs++ys)=YX xs+YX ys:=by
 unfold YX
 rw[AAE,rD];rfl
theorem fW {xs:List AH} (h:∀ i∈xs,0<=i.2.2.2.2):0<=YX xs:=by
 induction xs with
 |nil=>decide
 |cons x xs ih=>
  rw[rE]
  have:=h x (vQ ..)
  have:=ih fun i hi=>h i (UY _ hi)
  omega
theorem AU3 {z m:Int} (xs:List AH):lrg z xs<=m↔0<=m/\∀ i∈xs,cl z i.2.2.2.2<=m:=by
 have key:∀ (xs:List AH) (a:Int),xs.foldl (fun n i=>max n (cl z i.2.2.2.2)) a<=m↔a<=m/\∀ i∈xs,cl z i.2.2.2.2<=m:=by
  intro xs
  induction xs with
  |nil=>intro a;simp
  |cons x xs ih=>
   intro a
   rw[kE,ih,List.forall_mem_cons,Int.max_le,and_assoc]
 exact key xs 0
theorem A1P {z:Int} (xs:List AH):0<=lrg z xs/\∀ i∈xs,cl z i.2.2.2.2<=lrg z xs:=(AU3 xs).1 (bC _)
theorem APV {q:Rows} (hq:q.length<=1000000) (hx:∀ x∈q,x.length<=1000000) (hw:∀ i∈q.flatten,0<=i.2.2.2.2) (hs:YX q.flatten<=1000000):J2 q=some (YX q.flatten):=by
 unfold J2
 apply AU1 (q:=q) (d:=((0,0,0,0,0):AH)) (F:=fun n i=>n+i.2.2.2.2) (r:=id)
 ·intro k a hk
  simp only
  rw[AA (by omega),AA (by omega)]
 ·intro k j a hk hj ha
  obtain⟨pre,suf,e,rfl⟩:=ha
  have h0:0<=YX pre:=fW fun i hi=>hw i (by rw[e];exact AAB _ hi)
  have h1:=hw (gl ((0,0,0,0,0):AH) (gl [] q k) j) (by rw[e];simp)
  have h2:0<=YX suf:=fW fun i hi=>hw i (by rw[e];exact List.mem_append_right _ (UY _ hi))
  rw[e,AU2,rE] at hs
  have hl:=hx (gl [] q k) (BN hk)
  simp only[HX]
  rw[AA (by omega),AA (by omega),rD,AE (by omega) (by omega),AE (by omega) (by omega)]
 ·intro k a hk
  simp only[HX]
  rw[AD (by omega),AE (by omega) (by omega)]
 ·intro a
  simp only
  rw[AD (by omega)];rfl
theorem AHQ {s:Sp} (hv:VS s) {q:Rows} (hq:q.length<=1000000) (hx:∀ x∈q,x.length<=1000000) (hw:∀ i∈q.flatten,0<=i.2.2.2.2/\i.2.2.2.2<=1000000):GI s q=some (lrg (sz s.1) q.flatten):=by
 unfold GI
 apply AU1 (q:=q) (d:=((0,0,0,0,0):AH)) (F:=fun n i=>max n (cl (sz s.1) i.2.2.2.2)) (r:=id)
 ·intro k a hk
  simp only
  rw[AA (by omega),AA (by omega)]
 ·intro k j a hk hj ha
  obtain⟨pre,suf,e,rfl⟩:=ha
  have h1:=hw (gl ((0,0,0,0,0):AH) (gl [] q k) j) (by rw[e];simp)
  have hl:=hx (gl [] q k) (BN hk)
  simp only[HX]
  generalize gl ((0,0,0,0,0):AH) (gl [] q k) j=i at h1 ⊢
  rw[AA (by omega),AA (by omega),RR hv (i:=(i.1,i.2.1,i.2.2.1,i.2.2.2)) h1.1 h1.2,AZ,AE (by omega) (by omega)]
  simp only
  congr 3
  omega
 ·intro k a hk
  simp only[HX]
  rw[AD (by omega),AE (by omega) (by omega)]
 ·intro a
  simp only
  rw[AD (by omega)];rfl
theorem AHR {s:Sp} (hv:VS s) {q:Rows} (hq:q.length<=1000000) (hx:∀ x∈q,x.length<=1000000) (hw:∀ i∈q.flatten,0<=i.2.2.2.2/\i.2.2.2.2<=1000000):SA s q=some (lrg (sz s.1) q.flatten):=by
 unfold SA
 apply AU1 (q:=q) (d:=((0,0,0,0,0):AH)) (F:=fun n i=>max n (cl (sz s.1) i.2.2.2.2)) (r:=id)
 ·intro k a hk
  simp only
  rw[AA (by omega),AA (by omega)]
 ·intro k j a hk hj ha
  obtain⟨pre,suf,e,rfl⟩:=ha
  have h1:=hw (gl ((0,0,0,0,0):AH) (gl [] q k) j) (by rw[e];simp)
  have hl:=hx (gl [] q k) (BN hk)
  simp only[HX]
  generalize gl ((0,0,0,0,0):AH) (gl [] q k) j=i at h1 ⊢
  rw[AA (by omega),AA (by omega),Z6 hv (i:=(i.1,i.2.1,i.2.2.1,i.2.2.2)) h1.1 h1.2,AZ,AE (by omega) (by omega)]
  simp only
  congr 3
  omega
 ·intro k a hk
  simp only[HX]
  rw[AD (by omega),AE (by omega) (by omega)]
 ·intro a
  simp only
  rw[AD (by omega)];rfl
theorem YY {q:Rows} (hq:q.length<=1000000) (hx:∀ x∈q,x.length<=1000000):DU q=some q:=by
 unfold DU
 refine (AO (fun k (st:Rows×Int)=>k<=q.length/\st=(q.take k,(k:Int))) (fun b=>b=q) q.length ?_ ?_ (s:=([],0)) ⟨by omega,by simp⟩).elim fun b hb=>by rw[hb.1,hb.2]
 ·rintro k st hk ⟨_,rfl⟩
  have hl:=hx (gl [] q k) (BN hk)
  left
  refine⟨_, ?_,by omega,rfl⟩
  simp only[HX]
  rw[AA (by omega),AA (by omega),AA (by simp;omega),AA (by simp;omega),tJ,FZ (d:=[]) q k hk,AE (by omega) (by omega)]
  rfl
 ·rintro st ⟨_,rfl⟩
  simp only
  rw[AD (by omega),SD]
  exact⟨_,rfl,rfl⟩
theorem o9 {q:Rows} (hx:∀ x∈q,x.length<=1000000) {b:Int} (b0:0<=b) (b1:b<q.length):
  (gl [] q b.toNat=[]/\BO q b=some (((0,0,0,0,0):AH),false))\/(∃ y,y∈gl [] q b.toNat/\BO q b=some (y,true)):=by
 have hl:=hx (gl [] q b.toNat) (BN (by omega))
 unfold BO
 rw[AD (by omega),AD (by omega),AA (by omega)]
 by_cases h:gl [] q b.toNat=[]
 ·rw[AA (by rw[h];rfl)];exact .inl ⟨h,rfl⟩
 ·have hp:=mQ.2 h
  rw[AD (by omega),AA (by omega),AA (by omega),AE (e:=((gl [] q b.toNat).length:Int)-1) (by omega) (by omega),AA (by omega)]
  exact .inr ⟨gl ((0,0,0,0,0):AH) (gl [] q b.toNat) ((gl [] q b.toNat).length-1),BN (by omega),by rw[show (((gl [] q b.toNat).length:Int)-1).toNat=(gl [] q b.toNat).length-1 from by omega]⟩
theorem AHS {q:Rows} (hq:q.length<=1000000) (hx:∀ x∈q,x.length<=1000000) {j:AH} (b0:0<=j.2.1) (b1:j.2.1<q.length):
  ((∀ i∈gl [] q j.2.1.toNat,i.1≠j.1)/\C9 q j=some ([],5))∨
  (∃ k,k<(gl [] q j.2.1.toNat).length/\(gl ((0,0,0,0,0):AH) (gl [] q j.2.1.toNat) k).1=j.1/\C9 q j=some (q.set j.2.1.toNat ((gl [] q j.2.1.toNat).set k j),0)):=by
 have hl:=hx (gl [] q j.2.1.toNat) (BN (by omega))
 unfold C9
 rw[AD (by omega),AD (by omega),YY hq hx,AZ,AA (by omega)]
 have hg:q.getD j.2.1.toNat []=gl [] q j.2.1.toNat:=rfl
 rw[hg]
 generalize gl [] q j.2.1.toNat=x at hl ⊢
 have key:=AO (β:=Rows×Int) (fun k (st:Int)=>k<=x.length/\st=(k:Int)/\∀ m,m<k->(gl ((0,0,0,0,0):AH) x m).1≠j.1) (fun b=>((∀ i∈x,i.1≠j.1)/\b=([],5))\/(∃ k,k<x.length/\(gl ((0,0,0,0,0):AH) x k).1=j.1/\b=(q.set j.2.1.toNat (x.set k j),0))) x.length (s:=0) (f:=fun s1=>
   if s1<(x.length:Int) then
   if 0<=s1/\s1<(x.length:Int) then
   if (gl ((0,0,0,0,0):AH) x s1.toNat).1=j.1 then
   if 0<=j.2.1/\j.2.1<(q.length:Int) then
   if j.2.1.toNat=j.2.1.toNat then
   if 0<=s1/\s1<(x.length:Int) then
   some (Sum.inr ((q.set j.2.1.toNat (x.set s1.toNat j),0)))
   else none
   else none
   else none
   else some (Sum.inl (AG (s1+1)))
   else none
   else some (Sum.inr (([],5)))) ?_ ?_ ⟨by omega,rfl,fun m hm=>by omega⟩
 ·obtain⟨b,h1,h2⟩:=key
  rcases h2 with ⟨h2,rfl⟩|⟨k,h2,h3,rfl⟩
  ·exact .inl ⟨h2,h1⟩
  ·exact .inr ⟨k,h2,h3,h1⟩
 ·rintro k st hk ⟨_,rfl,CU⟩
  simp only[HX]
  rw[AA (by omega),AA (by omega)]
  by_cases e:(gl ((0,0,0,0,0):AH) x k).1=j.1
  ·rw[AA e,AA (by omega),AA trivial,AA (by omega)]
   exact .inr ⟨_,rfl,.inr ⟨k,hk,e,rfl⟩⟩
  ·rw[AD e,AE (by omega) (by omega)]
   refine .inl ⟨_,rfl,by omega,by omega,fun m hm=> ?_⟩
   by_cases em:m=k
   ·rw[em];exact e
   ·exact CU m (by omega)
 ·rintro st ⟨_,rfl,CU⟩
  simp only
  rw[AD (by omega)]
  refine⟨_,rfl,.inl ⟨fun i hi=> ?_,rfl⟩⟩
  obtain⟨m,hm,rfl⟩:=mP hi
  rw[<-D8 (d:=((0,0,0,0,0):AH)) hm]
  exact CU m hm
theorem AXJ {q:Rows} (hq:q.length<=1000000) (hx:∀ x∈q,x.length<=1000000) {j:AH} (b0:0<=j.2.1) (b1:j.2.1<q.length) (hj:∀ i∈gl [] q j.2.1.toNat,i.1<j.1):
  FU q j=some (q.set j.2.1.toNat (gl [] q j.2.1.toNat++ [j]),0):=by
 have hl:=hx (gl [] q j.2.1.toNat) (BN (by omega))
 have hg:q.getD j.2.1.toNat []=gl [] q j.2.1.toNat:=rfl
 unfold FU
 rw[AD (by omega),AD (by omega)]
 rcases o9 hx b0 b1 with ⟨_,h⟩|⟨y,hy,h⟩
 ·rw[h,AZ,AD (by simp),YY hq hx,AZ,AA (by omega),hg,AA (by simp;omega),AA (by omega),AA rfl]
 ·have:=hj y hy
  rw[h,AZ,AA rfl,AD (by simp only;omega),YY hq hx,AZ,AA (by omega),hg,AA (by simp;omega),AA (by omega),AA rfl]
def used (s:Sp):Int:=(s.2.2.length:Int)-(DX s.2.2).length
theorem AED (s:Sp):0<=used s:=by
 have:(DX s.2.2).length<=s.2.2.length:=VD s.2.2 (-1)
 unfold used;omega
theorem AZC {γ σ τ β:Type} {q:List (List γ)} {d:γ} {ok:Nat->Nat->Prop} {Q:γ->Prop} (hQ:∀ k j,k<q.length->j<(gl [] q k).length->ok k j->Q (gl d (gl [] q k) j))
  {so:Nat->List γ->σ} {si:Nat->Nat->List γ->τ} {out:σ->Option (σ ⊕ β)} {cO:Nat->List γ->τ->Option (τ ⊕ (σ ⊕ β))} {r bad:β} {s0:σ} (h0:s0=so 0 [])
  (h1:∀ k seen,k<q.length->out (so k seen)=AI (cO k seen) (si k 0 seen))
  (h2:∀ k j fX seen,k<q.length->j<(gl [] q k).length->seen=(q.take k).flatten++(gl [] q k).take j->(∀ x∈seen,Q x)->(∀ k' j',(k' <k\/(k' =k/\j' <j))->j' <(gl [] q k').length->ok k' j')->ok k j->cO k fX (si k j seen)=some (.inl (si k (j+1) (seen++ [gl d (gl [] q k) j]))))
  (h2' :∀ k j fX seen,k<q.length->j<(gl [] q k).length->seen=(q.take k).flatten++(gl [] q k).take j->(∀ x∈seen,Q x)->(∀ k' j',(k' <k\/(k' =k/\j' <j))->j' <(gl [] q k').length->ok k' j')->¬ok k j->cO k fX (si k j seen)=some (.inr (.inr bad)))
  (h3:∀ k fX seen,k<q.length->cO k fX (si k (gl [] q k).length seen)=some (.inr (.inl (so (k+1) seen))))
  (h4:(∀ k j,k<q.length->j<(gl [] q k).length->ok k j)->(∀ x∈q.flatten,Q x)->out (so q.length q.flatten)=some (.inr r)):
  ((∀ k j,k<q.length->j<(gl [] q k).length->ok k j)->AI out s0=some r)/\(¬(∀ k j,k<q.length->j<(gl [] q k).length->ok k j)->AI out s0=some bad):=by
 subst h0
 have key:=AO (f:=out) (fun k (st:σ)=>k<=q.length/\st=so k (q.take k).flatten/\(∀ k' j,k' <k->j<(gl [] q k').length->ok k' j)/\∀ x∈(q.take k).flatten,Q x)
  (fun b=>((∀ k j,k<q.length->j<(gl [] q k).length->ok k j)/\b=r)\/(¬(∀ k j,k<q.length->j<(gl [] q k).length->ok k j)/\b=bad)) q.length ?_ ?_ (s:=so 0 []) ⟨by omega,by simp,fun _ _ h=>by omega,by simp⟩
 ·obtain⟨b,e,h⟩:=key
  rw[e]
  exact⟨fun ha=>by rcases h with ⟨_,rfl⟩|⟨h,_⟩;exact rfl;exact absurd ha h,fun ha=>by rcases h with ⟨h,_⟩|⟨_,rfl⟩;exact absurd h ha;exact rfl⟩
 ·rintro k st hk ⟨_,rfl,ho,hq⟩
  rw[h1 k _ hk]
  have inner:=AO (f:=cO k (q.take k).flatten) (fun j (st:τ)=>j<=(gl [] q k).length/\st=si k j ((q.take k).flatten++(gl [] q k).take j)/\(∀ j',j' <j->ok k j')/\∀ x∈(q.take k).flatten++(gl [] q k).take j,Q x)
   (fun b=>(b=Sum.inl (so (k+1) ((q.take k).flatten++gl [] q k))/\(∀ j,j<(gl [] q k).length->ok k j)/\∀ x∈(q.take k).flatten++gl [] q k,Q x)\/(b=Sum.inr bad/\∃ j,j<(gl [] q k).length/\¬ok k j)) (gl [] q k).length ?_ ?_ (s:=si k 0 (q.take k).flatten) ⟨by omega,by simp,fun _ h=>by omega,by simpa using hq⟩
  ·obtain⟨b,e,h⟩:=inner
   rw[e]
   have ht:(q.take (k+1)).flatten=(q.take k).flatten++gl [] q k:=by rw[FZ (d:=[]) q k hk];simp
   rcases h with ⟨rfl,h,hx⟩|⟨rfl,j,hj,hn⟩
   ·left
    refine⟨_,rfl,by omega,by rw[ht],fun k' j NW hj=> ?_,by rw[ht];exact hx⟩
    by_cases e:k' =k
    ·subst e;exact h j hj
    ·exact ho k' j (by omega) hj
   ·exact .inr ⟨_,rfl,.inr ⟨fun ha=>hn (ha k j hk hj),rfl⟩⟩
  ·rintro j st hj ⟨_,rfl,ho',QW⟩
   have hp:∀ k' j',(k' <k\/(k' =k/\j' <j))->j' <(gl [] q k').length->ok k' j' :=by
    rintro k' j' (h|⟨rfl,h⟩) hl
    ·exact ho k' j' h hl
    ·exact ho' j' h
   by_cases QV:ok k j
   ·rw[h2 k j _ _ hk hj rfl QW hp QV]
    have ht:(q.take k).flatten++(gl [] q k).take (j+1)=(q.take k).flatten++(gl [] q k).take j++ [gl d (gl [] q k) j]:=by rw[FZ (d:=d) _ j hj,J_]
    refine .inl ⟨_,rfl,by omega,by rw[ht],fun j' bH => ?_, ?_⟩
    ·by_cases e:j' =j
     ·subst e;exact QV
     ·exact ho' j' (by omega)
    ·rw[ht]
     intro x hx
     rcases FG.1 hx with hx|hx
     ·exact QW x hx
     ·rw[HA.1 hx];exact hQ k j hk hj QV
   ·rw[h2' k j _ _ hk hj rfl QW hp QV]
    exact .inr ⟨_,rfl,.inr ⟨rfl,j,hj,QV⟩⟩
  ·rintro st ⟨_,rfl,ho',QW⟩
   rw[h3 k _ _ hk]
   rw[SD] at QW ⊢
   exact⟨_,rfl,.inl ⟨rfl,ho',QW⟩⟩
 ·rintro st ⟨_,rfl,ho,hq⟩
  rw[SD] at hq ⊢
  rw[h4 ho hq]
  exact⟨_,rfl,.inl ⟨ho,rfl⟩⟩
theorem APW (m:List (Int×Bool)) (k:Int) (v:Bool) (n:Int):MS (X6 m k v) n=if n=k then some v else MS m n:=by
 induction m with
 |nil=>by_cases h:n=k <;> simp [X6,MS,h]
 |cons p r ih=>
  obtain⟨a,b⟩:=p
  by_cases h:k=a
  ·subst h
   by_cases hn:n=k <;> simp [X6,MS,hn]
  ·by_cases hn:n=a
   ·subst hn
    simp [X6,MS,h]
    intro he;exact absurd he.symm h
   ·simp only[X6,AD h,MS,AD hn,ih]
def mpS (xs:List AH):List (Int×Bool):=xs.foldl (fun m i=>X6 m i.1 true) []
theorem AHT (xs:List AH) (x:AH):mpS (xs++ [x])=X6 (mpS xs) x.1 true:=by
 unfold mpS;rw[AAE];rfl
theorem AEE (xs:List AH) (n:Int):(MS (mpS xs) n).getD false=true↔n∈xs.map (·.1):=by
 have h:∀ (ys:List AH) (m:List (Int×Bool)),(MS (ys.foldl (fun m i=>X6 m i.1 true) m) n).getD false=true↔n∈ys.map (·.1)\/(MS m n).getD false=true:=by
  intro ys
  induction ys with
  |nil=>intro m;simp
  |cons y ys ih=>
   intro m
   rw[kE,ih,APW]
   by_cases e:n=y.1
   ·simp [e]
   ·simp [e]
 have:=h xs []
 simpa [mpS,MS] using this
theorem fY (i:AH):(i.1,i.2.1,i.2.2.1,i.2.2.2)=i:=rfl
def okS (s:Sp) (q:Rows) (k j:Nat):Prop:=
 (gl ((0,0,0,0,0):AH) (gl [] q k) j).2.1=(k:Int)/\1<=(gl ((0,0,0,0,0):AH) (gl [] q k) j).2.2.2.2/\(0<j->(gl ((0,0,0,0,0):AH) (gl [] q k) (j-1)).1<(gl ((0,0,0,0,0):AH) (gl [] q k) j).1)∧
  (gl ((0,0,0,0,0):AH) (gl [] q k) j).1∉((q.take k).flatten++(gl [] q k).take j).map (·.1)/\EJ s (gl ((0,0,0,0,0):AH) (gl [] q k) j)
def aX (s:Sp) (q:Rows):Prop:=∀ k j,k<q.length->j<(gl [] q k).length->okS s q k j
def Cov (s:Sp) (q:Rows):Prop:=∀ x:Int,0<=x->x<s.2.2.length->(fr s.2.2 x).1≠-1->(fr s.2.2 x).1∈q.flatten.map (·.1)
structure BV (s:Sp) (q:Rows):Prop where
 vs:VS s
 n:1<=q.length/\q.length<=4
 ok:aX s q
 cov:Cov s q
def WL (z:Int) (xs:List AH):Int:=xs.foldl (fun n i=>n+cl z i.2.2.2.2) 0
theorem APX (z:Int) (xs:List AH) (a:Int):xs.foldl (fun n i=>n+cl z i.2.2.2.2) a=a+WL z xs:=by
 unfold WL
 induction xs generalizing a with
 |nil=>simp
 |cons x xs ih=>rw[kE,kE,ih,ih (0+_)];omega
theorem rF (z:Int) (x:AH) (xs:List AH):WL z (x::xs)=cl z x.2.2.2.2+WL z xs:=by
 show List.foldl _ (0+cl z x.2.2.2.2) xs=_
 rw[APX];omega
theorem APY (z:Int) (xs:List AH) (x:AH):WL z (xs++ [x])=WL z xs+cl z x.2.2.2.2:=by
 unfold WL;rw[AAE];rfl
theorem yL {z:Int} (z1:8<=z/\z<=256):∀ {xs:List AH},(∀ i∈xs,0<=i.2.2.2.2/\i.2.2.2.2<=16384)->0<=WL z xs/\WL z xs<=(xs.length:Int)*20000
 | [],_=>by simp [WL]
 |x::xs,h=>by
  have i1:=yL z1 (xs:=xs) fun i hi=>h i (UY _ hi)
  have hx:=h x (vQ ..)
  have h1:=YW (show 0<z by omega) hx.1
  have h2:=OX (n:=x.2.2.2.2) (show 0<z by omega)
  have h3:cl z x.2.2.2.2*1<=cl z x.2.2.2.2*z:=AEW (by omega) h1
  rw[rF,O0,AFF,v_]
  omega
theorem rG {s:Sp} {q:Rows} {k j:Nat} (hk:k<q.length) (hj:j<=(gl [] q k).length) (h:∀ k' j',(k' <k\/(k' =k/\j' <j))->j' <(gl [] q k').length->okS s q k' j'):(((q.take k).flatten++(gl [] q k).take j).map (·.1)).Nodup:=by
 have row:∀ m,(((q.take m).flatten).map (·.1)).Nodup->∀ n,n<=(gl [] q m).length->(∀ j',j' <n->okS s q m j')->(((q.take m).flatten++(gl [] q m).take n).map (·.1)).Nodup:=by
  intro m h0 n
  induction n with
  |zero=>intro _ _;simpa using h0
  |succ n ih=>
   intro hn ho
   have h1:=ih (by omega) fun j' bH =>ho j' (by omega)
   have h2:=(ho n (by omega)).2.2.2.1
   rw[FZ (d:=((0,0,0,0,0):AH)) _ n (by omega),←J_,bA,RF]
   refine⟨h1,by simp,fun a ha b hb e=> ?_⟩
   simp only[MN,vX,HA] at hb
   subst hb;subst e;exact h2 ha
 have rows:∀ m,m<=k->(((q.take m).flatten).map (·.1)).Nodup:=by
  intro m
  induction m with
  |zero=>intro _;simp
  |succ m ih=>
   intro hm
   have:=row m (ih (by omega)) _ (EY _) fun j' bH =>h m j' (.inl (by omega)) bH
   rw[SD] at this
   rw[FZ (d:=[]) q m (by omega)]
   simpa using this
 exact row k (rows k (EY _)) j hj fun j' bH =>h k j' (.inr ⟨rfl,bH⟩) (by omega)
theorem ANH {s:Sp} {q:Rows} {k j:Nat} (hk:k<q.length) (hj:j<=(gl [] q k).length) (h:∀ k' j',(k' <k\/(k' =k/\j' <j))->j' <(gl [] q k').length->okS s q k' j'):∀ i∈(q.take k).flatten++(gl [] q k).take j,EJ s i/\1<=i.2.2.2.2:=by
 have one:∀ k' j',okS s q k' j' ->EJ s (gl ((0,0,0,0,0):AH) (gl [] q k') j')/\1<=(gl ((0,0,0,0,0):AH) (gl [] q k') j').2.2.2.2:=fun k' j' ho=>⟨ho.2.2.2.2,ho.2.1⟩
 intro i hi
 rcases FG.1 hi with hi|hi
 ·obtain⟨x,hx,hix⟩:=mU.1 hi
  obtain⟨m,hm,rfl⟩:=mP hx
  obtain⟨n,hn,rfl⟩:=mP hix
  rw[rV] at hm
  have hg:gl [] q m=(q.take k)[m]:=by rw[D8 (by omega),List.getElem_take]
  have:=one m n (h m n (.inl (by omega)) (by rw[hg];exact hn))
  rw[hg,D8 hn] at this
  exact this
 ·obtain⟨n,hn,rfl⟩:=mP hi
  rw[rV] at hn
  have:=one k n (h k n (.inr ⟨rfl,by omega⟩) (by omega))
  rw[D8 (by omega)] at this
  rw[List.getElem_take]
  exact this
theorem aX.nodup {s:Sp} {q:Rows} (h:aX s q):(q.flatten.map (·.1)).Nodup:=by
 by_cases hq:q=[]
 ·subst hq;simp
 have hl:=mQ.2 hq
 have:=rG (s:=s) (q:=q) (k:=q.length-1) (j:=(gl [] q (q.length-1)).length) (by omega) (EY _) fun k' j' hk hj=>h k' j' (by rcases hk with h|h <;> omega) hj
 rw[SD] at this
 have e:=FZ (d:=[]) q (q.length-1) (by omega)
 rw[show q.length-1+1=q.length from by omega,SD] at e
 rw[e];simpa using this
theorem aX.fit {s:Sp} {q:Rows} (h:aX s q):∀ i∈q.flatten,EJ s i/\1<=i.2.2.2.2:=by
 intro i hi
 obtain⟨x,hx,hix⟩:=mU.1 hi
 obtain⟨k,hk,rfl⟩:=mP hx
 obtain⟨j,hj,rfl⟩:=mP hix
 have hg:gl [] q k=q[k]:=D8 hk
 have:=h k j hk (by rw[hg];exact hj)
 unfold okS at this
 rw[hg,D8 hj] at this
 exact⟨this.2.2.2.2,this.2.1⟩
theorem APZ {s:Sp} {xs:List AH} (hf:∀ i∈xs,EJ s i/\1<=i.2.2.2.2):WL (sz s.1) xs=((xs.flatMap fun p=>owned s.2.2 p.1).length:Int):=by
 induction xs with
 |nil=>simp [WL]
 |cons p l ih=>
  obtain⟨hf1,hw⟩:=hf p (vQ ..)
  have i1:=ih fun p hp=>hf p (UY _ hp)
  rcases hf1.2 with ⟨g1,_⟩|⟨_,_,_,_,m,_,m2,m3,_⟩
  ·omega
  rw[rF,AFA,JK,AFF,i1]
  omega
theorem rH {s:Sp} {xs:List AH} (hn:(xs.map (·.1)).Nodup):(xs.flatMap fun p=>owned s.2.2 p.1).Nodup:=by
 unfold List.Nodup at hn ⊢
 rw[List.pairwise_flatMap]
 rw[ALR] at hn
 refine⟨fun p _=>TQ _ _,hn.imp fun {a b} hab x hx y hy e=> ?_⟩
 have e1:=(CB.1 hx).2
 have e2:=(CB.1 hy).2
 rw[e] at e1;exact hab (e1.symm.trans e2)
theorem count_le {s:Sp} (h:VS s) {xs:List AH} (hf:∀ i∈xs,EJ s i/\1<=i.2.2.2.2) (hn:(xs.map (·.1)).Nodup):xs.length<=64:=by
 have h1:∀ ys:List AH,(∀ i∈ys,EJ s i/\1<=i.2.2.2.2)->ys.length<=(ys.flatMap fun p=>owned s.2.2 p.1).length:=by
  intro ys
  induction ys with
  |nil=>intro _;simp
  |cons p l ih=>
   intro hf
   obtain⟨hf1,hw⟩:=hf p (vQ ..)
   have i1:=ih fun p hp=>hf p (UY _ hp)
   have hc:=AKP (CM s.1) (show 0<p.2.2.2.2 by omega)
   rcases hf1.2 with ⟨g1,_⟩|⟨_,_,_,_,m,_,m2,m3,_⟩
   ·omega
   rw[AFA,JK,O0]
   omega
 have h2:=RS (m:=EI s.2.2.length) (rH (s:=s) hn) (fun x hx=>by
  obtain⟨p,_,hx⟩:=AAF.1 hx
  exact NJ.2 (CB.1 hx).1)
 rw[GZ] at h2
 have:=h1 xs hf
 have:=h.n
 omega
def s_ (fs:List Fr):List Int:=(EI fs.length).filter fun i=>decide ((fr fs i).1≠-1)
theorem rI {fs:List Fr} {i:Int}:i∈s_ fs↔(0<=i/\i<fs.length)/\(fr fs i).1≠-1:=by
 unfold s_;rw[bB,NJ,NO]
theorem ABV (s:Sp):((s_ s.2.2).length:Int)=used s:=by
 have h:∀ (p:Int->Bool) (l:List Int),(l.filter p).length+(l.filter fun i=> !p i).length=l.length:=by
  intro p l
  induction l with
  |nil=>rfl
  |cons a l ih=>cases hp:p a <;> simp [hp] <;> omega
 have h1:=h (fun i=>decide ((fr s.2.2 i).1= -1)) (EI s.2.2.length)
 rw[GZ] at h1
 have e:(fun i=> !decide ((fr s.2.2 i).1= -1))=fun i=>decide ((fr s.2.2 i).1≠-1):=by funext i;simp
 rw[e] at h1
 unfold used DX owned s_
 omega
theorem AHU (fs:List Fr):(s_ fs).Nodup:=List.Pairwise.filter _ ((rB _).imp fun h=>by omega)
theorem ANI {s:Sp} {q:Rows} (h:aX s q):WL (sz s.1) q.flatten<=used s/\(used s=WL (sz s.1) q.flatten↔Cov s q):=by
 have hf:=h.fit
 have hn:=h.nodup
 have KP:∀ x∈q.flatten.flatMap fun p=>owned s.2.2 p.1,x∈s_ s.2.2:=by
  intro x hx
  obtain⟨p,hp,hx⟩:=AAF.1 hx
  have:=CB.1 hx
  refine rI.2 ⟨this.1, ?_⟩
  have:=(hf p hp).1.1.1
  omega
 have hle:=RS (rH (s:=s) hn) KP
 have h1:=APZ hf
 have h2:=ABV s
 refine⟨by omega,fun he=> ?_,fun hc=> ?_⟩
 ·intro x x0 x1 hu
  refine vF fun XU=> ?_
  have hx:x∉q.flatten.flatMap fun p=>owned s.2.2 p.1:=by
   intro hx
   obtain⟨p,hp,hx⟩:=AAF.1 hx
   exact XU (DD.2 ⟨p,hp,(CB.1 hx).2.symm⟩)
  have:=RS (l:=x::q.flatten.flatMap fun p=>owned s.2.2 p.1) (m:=s_ s.2.2) (WD.2 ⟨hx,rH hn⟩) (fun y hy=>by
   rcases GA.1 hy with rfl|hy
   ·exact rI.2 ⟨⟨x0,x1⟩,hu⟩
   ·exact KP y hy)
  simp only[O0] at this
  omega
 ·have:=RS (m:=q.flatten.flatMap fun p=>owned s.2.2 p.1) (AHU s.2.2) (fun x hx=>by
   obtain⟨⟨x0,x1⟩,hu⟩:=rI.1 hx
   obtain⟨p,hp,e⟩:=DD.1 (hc x x0 x1 hu)
   exact AAF.2 ⟨p,hp,CB.2 ⟨⟨x0,x1⟩,e.symm⟩⟩)
  omega
theorem AHV {X:Option Bool} {P A C:Prop} {r:Bool} (hr:r=true↔C) (h:(A->X=some r)/\(¬A->X=some false)) (hp:P↔A/\C):∃ b,X=some b/\(b=true↔P):=by
 by_cases ha:A
 ·exact⟨r,h.1 ha,hr.trans ⟨fun hc=>hp.2 ⟨ha,hc⟩,fun hh=>(hp.1 hh).2⟩⟩
 ·exact⟨false,h.2 ha,BY fun hh=>ha (hp.1 hh).1⟩
theorem AQ0 {s:Sp} (hI:StI s) {q:Rows} (hx:∀ x∈q,x.length<=9223372036854775807):∃ b,W9 s q=some b/\(b=true↔BV s q):=by
 unfold W9
 by_cases h:VS s
 rotate_left
 ·rw[(ABS h hI).1]
  exact⟨_,rfl,BY fun hh=>h hh.vs⟩
 rw[VS.AE4 h,AZ,AD (by simp)]
 by_cases c1:(q.length:Int)<1
 ·rw[AA c1];exact⟨_,rfl,BY fun hh=>by have:=hh.n;omega⟩
 rw[AD c1]
 by_cases c2:(q.length:Int)>4
 ·rw[AA c2];exact⟨_,rfl,BY fun hh=>by have:=hh.n;omega⟩
 rw[AD c2]
 have hn:=h.n
 obtain⟨r,hr⟩:∃ r:Bool,r=true↔Cov s q:=⟨@decide (Cov s q) (Classical.propDecidable _),by simp⟩
 refine AHV (A:=aX s q) hr ?_ ⟨fun hh=>⟨hh.ok,hh.cov⟩,fun hh=>⟨h,by omega,hh.1,hh.2⟩⟩
 apply AZC (q:=q) (d:=((0,0,0,0,0):AH)) (ok:=okS s q) (Q:=fun _=>True) (fun _ _ _ _ _=>trivial) (so:=fun k seen=>((k:Int),mpS seen)) (si:=fun k j seen=>((j:Int),mpS seen)) rfl
 ·intro k seen hk
  simp only
  rw[AA (by omega),AA (by omega)]
  simp only[HX]
  rfl
 ·intro k j fX seen hk hj hs _ hp QV
  have hl:=hx (gl [] q k) (BN hk)
  obtain⟨o1,o2,o3,o4,o5⟩:=QV
  have hs4:¬(MS (mpS seen) (gl ((0,0,0,0,0):AH) (gl [] q k) j).1).getD false=true:=by rw[AEE,hs];exact o4
  obtain⟨b,v1,v2⟩:=ABT hI (gl ((0,0,0,0,0):AH) (gl [] q k) j)
  have hb:b=true:=v2.2 ⟨h,o5⟩
  subst hb
  simp only[HX]
  rw[AA (by omega),AA (by omega),AD (H_ o1),AD (by omega)]
  by_cases hj0:(j:Int)>0
  ·rw[AA hj0,AE (e:=(j:Int)-1) (by omega) (by omega),AA (by omega),show ((j:Int)-1).toNat=j-1 from by omega,AD (by have:=o3 (by omega);omega),AD hs4,fY,v1,AZ,AD (by simp),AE (by omega) (by omega),AHT]
   rfl
  ·rw[AD hj0,AD hs4,fY,v1,AZ,AD (by simp),AE (by omega) (by omega),AHT]
   rfl
 ·intro k j fX seen hk hj hs _ hp QV
  have hl:=hx (gl [] q k) (BN hk)
  have hg:=AEE seen (gl ((0,0,0,0,0):AH) (gl [] q k) j).1
  obtain⟨b,v1,v2⟩:=ABT hI (gl ((0,0,0,0,0):AH) (gl [] q k) j)
  simp only[HX]
  rw[AA (by omega),AA (by omega)]
  by_cases o1:(gl ((0,0,0,0,0):AH) (gl [] q k) j).2.1=(k:Int)
  rotate_left
  ·rw[AA o1]
  rw[AD (H_ o1)]
  by_cases o2:(gl ((0,0,0,0,0):AH) (gl [] q k) j).2.2.2.2<1
  ·rw[AA o2]
  rw[AD o2]
  have rest:(0<j->(gl ((0,0,0,0,0):AH) (gl [] q k) (j-1)).1<(gl ((0,0,0,0,0):AH) (gl [] q k) j).1)->(if (MS (mpS seen) (gl ((0,0,0,0,0):AH) (gl [] q k) j).1).getD false=true then
    some (Sum.inr (Sum.inr false)) else Option.bind (KM s (gl ((0,0,0,0,0):AH) (gl [] q k) j)) (fun r2=>if (!r2)=true then some (Sum.inr (Sum.inr false)) else some (Sum.inl (AG ((j:Int)+1),X6 (mpS seen) (gl ((0,0,0,0,0):AH) (gl [] q k) j).1 true))))=(some (Sum.inr (Sum.inr false)):Option ((Int×List (Int×Bool)) ⊕ ((Int×List (Int×Bool)) ⊕ Bool))):=by
   intro o3
   by_cases o4:(MS (mpS seen) (gl ((0,0,0,0,0):AH) (gl [] q k) j).1).getD false=true
   ·rw[AA o4]
   rw[AD o4,v1,AZ]
   have hb:b=false:=by
    rw[<-ALS,v2]
    exact fun hh=>QV ⟨o1,by omega,o3,by rw[<-hs];exact fun hx=>o4 (hg.2 hx),hh.2⟩
   rw[hb,AA (by simp)]
  by_cases hj0:(j:Int)>0
  ·rw[AA hj0,AE (e:=(j:Int)-1) (by omega) (by omega),AA (by omega),show ((j:Int)-1).toNat=j-1 from by omega]
   by_cases o3:(gl ((0,0,0,0,0):AH) (gl [] q k) (j-1)).1≥(gl ((0,0,0,0,0):AH) (gl [] q k) j).1
   ·rw[AA o3]
   ·rw[AD o3]
    exact rest fun _=>by omega
  ·rw[AD hj0]
   exact rest fun _=>by omega
 ·intro k fX seen hk
  simp only[HX]
  rw[AD (by omega),AE (by omega) (by omega)]
  rfl
 ·intro ZD _
  simp only
  rw[AD (by omega)]
  have fin:=AO (β:=Bool) (fun k (st:Int)=>k<=s.2.2.length/\st=(k:Int)/\∀ x:Int,0<=x->x<k->(fr s.2.2 x).1≠-1->(fr s.2.2 x).1∈q.flatten.map (·.1)) (fun b=>b=r) s.2.2.length (s:=0) (f:=fun s3=>
   if s3<(s.2.2.length:Int) then
   if 0<=s3/\s3<(s.2.2.length:Int) then
   if ¬(gl ((0,0,0):Fr) s.2.2 s3.toNat).1= -1 then
   if (!(MS (mpS q.flatten) (gl ((0,0,0):Fr) s.2.2 s3.toNat).1).getD false)=true then
   some (Sum.inr false)
   else some (Sum.inl (AG (s3+1)))
   else some (Sum.inl (AG (s3+1)))
   else none
   else some (Sum.inr true)) ?_ ?_ ⟨by omega,rfl,fun x _ hx=>by omega⟩
  ·obtain⟨b,e,rfl⟩:=fin
   rw[e];rfl
  ·rintro k st hk ⟨_,rfl,hc⟩
   have MY:gl ((0,0,0):Fr) s.2.2 (k:Int).toNat=fr s.2.2 k:=rfl
   rw[MY]
   have hg:=AEE q.flatten (fr s.2.2 k).1
   rw[AA (by omega),AA (by omega)]
   by_cases hu:(fr s.2.2 k).1= -1
   ·rw[AD (H_ hu),AE (by omega) (by omega)]
    refine .inl ⟨_,rfl,by omega,by omega,fun x x0 x1 hx=> ?_⟩
    by_cases e:x=k
    ·subst e;exact absurd hu hx
    ·exact hc x x0 (by omega) hx
   ·rw[AA hu]
    by_cases hm:(MS (mpS q.flatten) (fr s.2.2 k).1).getD false=true
    ·rw[AD (by simp [hm]),AE (by omega) (by omega)]
     refine .inl ⟨_,rfl,by omega,by omega,fun x x0 x1 hx=> ?_⟩
     by_cases e:x=k
     ·subst e;exact hg.1 hm
     ·exact hc x x0 (by omega) hx
    ·rw[AA (by simpa using hm)]
     refine .inr ⟨_,rfl, ?_⟩
     symm
     rw[<-ALS,hr]
     exact fun hc=>hm (hg.2 (hc k (by omega) (by omega) hu))
  ·rintro st ⟨_,rfl,hc⟩
   rw[AD (by omega)]
   exact⟨_,rfl,(hr.2 fun x x0 x1 hu=>hc x x0 x1 hu).symm⟩
theorem YZ {β:Type} {ys:List Int} {v:Int} {bad r:β} {f:Int->Option (Int ⊕ β)} (hs:∀ k:Nat,k<ys.length->f k=if gl 0 ys k=v then some (.inr bad) else some (.inl ((k:Int)+1))) (he:v∉ys->f ys.length=some (.inr r)):
  (v∈ys->AI f 0=some bad)/\(v∉ys->AI f 0=some r):=by
 have key:=AO (f:=f) (fun k (st:Int)=>k<=ys.length/\st=(k:Int)/\∀ j,j<k->gl 0 ys j≠v) (fun b=>(v∈ys/\b=bad)\/(v∉ys/\b=r)) ys.length ?_ ?_ (s:=0) ⟨by omega,rfl,fun _ h=>by omega⟩
 ·obtain⟨b,e,h⟩:=key
  rw[e]
  exact⟨fun hm=>by rcases h with ⟨_,rfl⟩|⟨h,_⟩;exact rfl;exact absurd hm h,fun hm=>by rcases h with ⟨h,_⟩|⟨_,rfl⟩;exact absurd h hm;exact rfl⟩
 ·rintro k st hk ⟨_,rfl,hn⟩
  rw[hs k hk]
  by_cases e:gl 0 ys k=v
  ·rw[AA e];exact .inr ⟨_,rfl,.inl ⟨by rw[<-e];exact BN hk,rfl⟩⟩
  ·rw[AD e]
   refine .inl ⟨_,rfl,by omega,by omega,fun j hj=> ?_⟩
   by_cases ej:j=k
   ·subst ej;exact e
   ·exact hn j (by omega)
 ·rintro st ⟨_,rfl,hn⟩
  have hm:v∉ys:=by
   intro hm
   obtain⟨j,hj,rfl⟩:=mP hm
   exact hn j hj (D8 hj)
  rw[he hm]
  exact⟨_,rfl,.inr ⟨hm,rfl⟩⟩
theorem AKU (fs:List Fr) (k:Nat):(((EI (k+1)).filter fun i=>decide ((fr fs i).1≠-1)).length:Int)=(((EI k).filter fun i=>decide ((fr fs i).1≠-1)).length:Int)+(if (fr fs k).1= -1 then 0 else 1):=by
 rw[H9,tH,JK]
 by_cases h:(fr fs k).1= -1 <;> simp [h]
theorem AQ1 {s:Sp} (h:VS s) {q:Rows} (hx:∀ x∈q,x.length<=9223372036854775807):∃ b,J7 s q=some b/\(b=true↔BV s q):=by
 unfold J7
 by_cases c1:(q.length:Int)<1
 ·rw[AA c1];exact⟨_,rfl,BY fun hh=>by have:=hh.n;omega⟩
 rw[AD c1]
 by_cases c2:(q.length:Int)>4
 ·rw[AA c2];exact⟨_,rfl,BY fun hh=>by have:=hh.n;omega⟩
 rw[AD c2]
 have hn:=h.n
 have pQ:=VS.PO h
 have z:=LF h.sh
 obtain⟨r,hr⟩:∃ r:Bool,r=true↔Cov s q:=⟨@decide (Cov s q) (Classical.propDecidable _),by simp⟩
 refine AHV (A:=aX s q) hr ?_ ⟨fun hh=>⟨hh.ok,hh.cov⟩,fun hh=>⟨h,by omega,hh.1,hh.2⟩⟩
 have hQ0:∀ k j,k<q.length->j<(gl [] q k).length->okS s q k j->0<=(gl ((0,0,0,0,0):AH) (gl [] q k) j).2.2.2.2/\(gl ((0,0,0,0,0):AH) (gl [] q k) j).2.2.2.2<=16384:=fun k j hk hj ho=>by
  have:=ho.2.2.2.2.1;omega
 apply AZC (q:=q) (d:=((0,0,0,0,0):AH)) (ok:=okS s q) (Q:=fun i=>0<=i.2.2.2.2/\i.2.2.2.2<=16384) hQ0 (so:=fun k seen=>(WL (sz s.1) seen,seen.map (·.1),(k:Int))) (si:=fun k j seen=>(WL (sz s.1) seen,seen.map (·.1),(j:Int))) rfl
 ·intro k seen hk
  simp only
  rw[AA (by omega),AA (by omega)]
  simp only[HX]
  rfl
 ·intro k j fX seen hk hj hs hQ hp QV
  have hl:=hx (gl [] q k) (BN hk)
  have QO:seen.length<=64:=by
   rw[hs]
   exact count_le h (ANH hk (by omega) hp) (rG hk (by omega) hp)
  obtain⟨o1,o2,o3,o4,o5⟩:=QV
  rw[<-hs] at o4
  obtain⟨b,v1,v2⟩:=AE0 h (gl ((0,0,0,0,0):AH) (gl [] q k) j)
  have hb:b=true:=v2.2 o5
  subst hb
  have hfs:=yL z hQ
  have hc0:=YW (show 0<sz s.1 by omega) o5.1.2.2.2.2.1
  have hc1:=OX (n:=(gl ((0,0,0,0,0):AH) (gl [] q k) j).2.2.2.2) (show 0<sz s.1 by omega)
  have hc2:cl (sz s.1) (gl ((0,0,0,0,0):AH) (gl [] q k) j).2.2.2.2*1<=cl (sz s.1) (gl ((0,0,0,0,0):AH) (gl [] q k) j).2.2.2.2*sz s.1:=AEW (by omega) hc0
  have hwb:=o5.1.2.2.2.2.2
  have MY:=RR h (i:=gl ((0,0,0,0,0):AH) (gl [] q k) j) (by omega) (by omega)
  simp only[HX]
  rw[AA (by omega),AA (by omega),AD (H_ o1),AD (by omega),fY,v1,AZ,AD (by simp)]
  have body:∀ {f:Int->Option (Int ⊕ ((Int×List Int×Int) ⊕ ((Int×List Int×Int) ⊕ Bool)))},(∀ m:Nat,m<(seen.map (·.1)).length->f m=if gl 0 (seen.map (·.1)) m=(gl ((0,0,0,0,0):AH) (gl [] q k) j).1 then some (.inr (.inr (.inr false))) else some (.inl ((m:Int)+1)))→
    f (seen.map (·.1)).length=Option.map Sum.inr (if ((seen.map (·.1)).length+([(gl ((0,0,0,0,0):AH) (gl [] q k) j).1]:List Int).length)*8<=140737488355328 then Option.bind (BU s (gl ((0,0,0,0,0):AH) (gl [] q k) j)) (fun r2=>some (Sum.inl (AG (WL (sz s.1) seen+r2),seen.map (·.1)++ [(gl ((0,0,0,0,0):AH) (gl [] q k) j).1],AG ((j:Int)+1)))) else none)→
    AI f 0=some (Sum.inl (WL (sz s.1) (seen++ [gl ((0,0,0,0,0):AH) (gl [] q k) j]),(seen++ [gl ((0,0,0,0,0):AH) (gl [] q k) j]).map (·.1),((j+1:Nat):Int))):=by
   intro f hf he
   refine (YZ (v:=(gl ((0,0,0,0,0):AH) (gl [] q k) j).1) hf (fun _=> ?_)).2 o4
   rw[he,AA (by simp;omega),MY,AZ,AE (e:=(j:Int)+1) (by omega) (by omega),AE (by omega) (by omega),APY,bA]
   rfl
  by_cases hj0:(j:Int)>0
  ·rw[AA hj0,AE (e:=(j:Int)-1) (by omega) (by omega),AA (by omega),show ((j:Int)-1).toNat=j-1 from by omega,AD (by have:=o3 (by omega);omega)]
   refine body (fun m hm=> ?_) ?_
   ·simp only[HX]
    rw[AA (by omega),AA (by omega),AE (by rw[RG] at hm;omega) (by rw[RG] at hm;omega)]
   ·rw[AD (by omega)]
  ·rw[AD hj0]
   refine body (fun m hm=> ?_) ?_
   ·simp only[HX]
    rw[AA (by omega),AA (by omega),AE (by rw[RG] at hm;omega) (by rw[RG] at hm;omega)]
   ·rw[AD (by omega)]
 ·intro k j fX seen hk hj hs hQ hp QV
  have hl:=hx (gl [] q k) (BN hk)
  have QO:seen.length<=64:=by
   rw[hs]
   exact count_le h (ANH hk (by omega) hp) (rG hk (by omega) hp)
  obtain⟨b,v1,v2⟩:=AE0 h (gl ((0,0,0,0,0):AH) (gl [] q k) j)
  simp only[HX]
  rw[AA (by omega),AA (by omega)]
  by_cases o1:(gl ((0,0,0,0,0):AH) (gl [] q k) j).2.1=(k:Int)
  rotate_left
  ·rw[AA o1]
  rw[AD (H_ o1)]
  by_cases o2:(gl ((0,0,0,0,0):AH) (gl [] q k) j).2.2.2.2<1
  ·rw[AA o2]
  rw[AD o2,fY,v1,AZ]
  by_cases o5:EJ s (gl ((0,0,0,0,0):AH) (gl [] q k) j)
  rotate_left
  ·rw[AA (by
    have:b=false:=by rw[<-ALS,v2];exact o5
    simp [this])]
  rw[AD (by simp [v2.2 o5])]
  have body:∀ {f:Int->Option (Int ⊕ ((Int×List Int×Int) ⊕ ((Int×List Int×Int) ⊕ Bool)))},(0<j->(gl ((0,0,0,0,0):AH) (gl [] q k) (j-1)).1<(gl ((0,0,0,0,0):AH) (gl [] q k) j).1)->(∀ m:Nat,m<(seen.map (·.1)).length->f m=if gl 0 (seen.map (·.1)) m=(gl ((0,0,0,0,0):AH) (gl [] q k) j).1 then some (.inr (.inr (.inr false))) else some (.inl ((m:Int)+1)))→
    AI f 0=some (Sum.inr (Sum.inr false)):=by
   intro f o3 hf
   have o4:(gl ((0,0,0,0,0):AH) (gl [] q k) j).1∈seen.map (·.1):=vF fun o4=>QV ⟨o1,by omega,o3,by rw[<-hs];exact o4,o5⟩
   exact (YZ (r:=Sum.inr (Sum.inr false)) hf (fun hn=>absurd o4 hn)).1 o4
  by_cases hj0:(j:Int)>0
  ·rw[AA hj0,AE (e:=(j:Int)-1) (by omega) (by omega),AA (by omega),show ((j:Int)-1).toNat=j-1 from by omega]
   by_cases o3:(gl ((0,0,0,0,0):AH) (gl [] q k) (j-1)).1≥(gl ((0,0,0,0,0):AH) (gl [] q k) j).1
   ·rw[AA o3]
   ·rw[AD o3]
    refine body (fun _=>by omega) (fun m hm=> ?_)
    simp only[HX]
    rw[AA (by omega),AA (by omega),AE (by rw[RG] at hm;omega) (by rw[RG] at hm;omega)]
  ·rw[AD hj0]
   refine body (fun _=>by omega) (fun m hm=> ?_)
   simp only[HX]
   rw[AA (by omega),AA (by omega),AE (by rw[RG] at hm;omega) (by rw[RG] at hm;omega)]
 ·intro k fX seen hk
  have hl:=hx (gl [] q k) (BN hk)
  simp only[HX]
  rw[AD (by omega),AE (by omega) (by omega)]
  rfl
 ·intro ZD _
  simp only
  rw[AD (by omega)]
  have fin:=AO (β:=Bool) (fun k (st:Int×Int)=>k<=s.2.2.length/\st=((((EI k).filter fun i=>decide ((fr s.2.2 i).1≠-1)).length:Int),(k:Int))) (fun b=>b=r) s.2.2.length (s:=(0,0)) (f:=fun s5=>
   if s5.2<(s.2.2.length:Int) then
   if 0<=s5.2/\s5.2<(s.2.2.length:Int) then
   if ¬(gl ((0,0,0):Fr) s.2.2 s5.2.toNat).1= -1 then
   some (Sum.inl (AG (s5.1+1),AG (s5.2+1)))
   else some (Sum.inl (s5.1,AG (s5.2+1)))
   else none
   else some (Sum.inr (decide (s5.1=WL (sz s.1) q.flatten)))) ?_ ?_ ⟨by omega,rfl⟩
  ·obtain⟨b,e,rfl⟩:=fin
   rw[e];rfl
  ·rintro k st hk ⟨_,rfl⟩
   have MY:gl ((0,0,0):Fr) s.2.2 (k:Int).toNat=fr s.2.2 k:=rfl
   have hs:=AKU s.2.2 k
   have hle:((EI k).filter fun i=>decide ((fr s.2.2 i).1≠-1)).length<=(EI k).length:=mO _ _
   rw[GZ] at hle
   simp only[MY]
   rw[AA (by omega),AA (by omega),AE (e:=(k:Int)+1) (by omega) (by omega)]
   by_cases hu:(fr s.2.2 k).1= -1
   ·rw[AD (H_ hu)]
    rw[AA hu] at hs
    exact .inl ⟨_,rfl,by omega,by rw[hs,aJ];rfl⟩
   ·rw[AA hu,AE (by omega) (by omega)]
    rw[AD hu] at hs
    exact .inl ⟨_,rfl,by omega,by rw[hs];rfl⟩
  ·rintro st ⟨_,rfl⟩
   simp only
   rw[AD (by omega)]
   refine⟨_,rfl, ?_⟩
   have hu:=ABV s
   unfold s_ at hu
   rw[hu,a_,NO,hr]
   exact (ANI ZD).2
theorem AQ2 {s:Sp} {q:Rows} (hx:∀ x∈q,x.length<=9223372036854775807):∃ b,J8 s q=some b/\(b=true↔BV s q):=by
 unfold J8
 obtain⟨b,e,hb⟩:=rA s
 rw[e,AZ]
 by_cases h:VS s
 ·rw[AA (hb.2 h)]
  obtain⟨c,e2,hc⟩:=AQ1 h hx
  rw[e2];exact⟨_,rfl,hc⟩
 ·rw[AD fun hh=>h (hb.1 hh)]
  exact⟨_,rfl,BY fun hh=>h hh.vs⟩
theorem AZD {γ σ τ β:Type} {q:List (List γ)} {d:γ} {p:γ->Prop} [DecidablePred p] {so:Nat->σ} {si:Nat->Nat->τ} {out:σ->Option (σ ⊕ β)} {cO:Nat->τ->Option (τ ⊕ (σ ⊕ β))} {res:Nat->Nat->β} {no:β} {s0:σ} (h0:s0=so 0)
  (h1:∀ k,k<q.length->out (so k)=AI (cO k) (si k 0))
  (h2:∀ k j,k<q.length->j<(gl [] q k).length->cO k (si k j)=if p (gl d (gl [] q k) j) then some (.inr (.inr (res k j))) else some (.inl (si k (j+1))))
  (h3:∀ k,k<q.length->cO k (si k (gl [] q k).length)=some (.inr (.inl (so (k+1)))))
  (h4:out (so q.length)=some (.inr no)):
  ((∀ x∈q.flatten,¬p x)/\AI out s0=some no)\/∃ k j,k<q.length/\j<(gl [] q k).length/\p (gl d (gl [] q k) j)/\(∀ x∈(q.take k).flatten++(gl [] q k).take j,¬p x)/\AI out s0=some (res k j):=by
 subst h0
 have key:=AO (f:=out) (fun k (st:σ)=>k<=q.length/\st=so k/\∀ x∈(q.take k).flatten,¬p x)
  (fun b=>((∀ x∈q.flatten,¬p x)/\b=no)\/∃ k j,k<q.length/\j<(gl [] q k).length/\p (gl d (gl [] q k) j)/\(∀ x∈(q.take k).flatten++(gl [] q k).take j,¬p x)/\b=res k j) q.length ?_ ?_ (s:=so 0) ⟨by omega,rfl,by simp⟩
 ·obtain⟨b,e,h⟩:=key
  rw[e]
  rcases h with ⟨h,rfl⟩|⟨k,j,hk,hj,hp,hb,rfl⟩
  ·exact .inl ⟨h,rfl⟩
  ·exact .inr ⟨k,j,hk,hj,hp,hb,rfl⟩
 ·rintro k st hk ⟨_,rfl,hq⟩
  rw[h1 k hk]
  have inner:=AO (f:=cO k) (fun j (st:τ)=>j<=(gl [] q k).length/\st=si k j/\∀ x∈(q.take k).flatten++(gl [] q k).take j,¬p x)
   (fun b=>(b=Sum.inl (so (k+1))/\∀ x∈(q.take k).flatten++gl [] q k,¬p x)\/(∃ j,j<(gl [] q k).length/\p (gl d (gl [] q k) j)/\(∀ x∈(q.take k).flatten++(gl [] q k).take j,¬p x)/\b=Sum.inr (res k j))) (gl [] q k).length ?_ ?_ (s:=si k 0) ⟨by omega,rfl,by simpa using hq⟩
  ·obtain⟨b,e,h⟩:=inner
   rw[e]
   rcases h with ⟨rfl,hx⟩|⟨j,hj,hp,hb,rfl⟩
   ·refine .inl ⟨_,rfl,by omega,rfl, ?_⟩
    rw[FZ (d:=[]) q k hk]
    simpa using hx
   ·exact .inr ⟨_,rfl,.inr ⟨k,j,hk,hj,hp,hb,rfl⟩⟩
  ·rintro j st hj ⟨_,rfl,QW⟩
   rw[h2 k j hk hj]
   by_cases hp:p (gl d (gl [] q k) j)
   ·rw[AA hp];exact .inr ⟨_,rfl,.inr ⟨j,hj,hp,QW,rfl⟩⟩
   ·rw[AD hp]
    refine .inl ⟨_,rfl,by omega,rfl,fun x hx=> ?_⟩
    rw[FZ (d:=d) _ j hj,←J_] at hx
    rcases FG.1 hx with hx|hx
    ·exact QW x hx
    ·rw[HA.1 hx];exact hp
  ·rintro st ⟨_,rfl,QW⟩
   rw[h3 k hk]
   rw[SD] at QW
   exact⟨_,rfl,.inl ⟨rfl,QW⟩⟩
 ·rintro st ⟨_,rfl,hq⟩
  rw[SD] at hq
  rw[h4]
  exact⟨_,rfl,.inl ⟨hq,rfl⟩⟩
def Found (q:Rows) (n:Int) (k j:Nat):Prop:=k<q.length/\j<(gl [] q k).length/\(gl ((0,0,0,0,0):AH) (gl [] q k) j).1=n/\∀ x∈(q.take k).flatten++(gl [] q k).take j,x.1≠n
theorem AU4 {α:Type} {d:α} (q:List α) (k:Nat):q.set k (q.getD k d)=q:=by
 apply WC
 intro i
 rw[vL]
 by_cases h:k=i
 ·subst h
  rw[AA rfl]
  by_cases hk:k<q.length
  ·rw[AA hk,vE,OT hk];rfl
  ·rw[AD hk,UX (by omega)]
 ·rw[AD h]
theorem AXK {α:Type} (x:List α) (k:Nat) (hk:k<x.length):B9 x 0 (k-0)++B9 x (k+1) (x.length-(k+1))=x.eraseIdx k:=by
 rw[List.eraseIdx_eq_take_drop_succ]
 unfold B9
 rw[AAH,AFI,AF5 (l:=x.drop (k+1)) (by rw[AFD];omega)]
theorem A1Q (q:Rows) (b:Int):oS q b=some (decide (0<=b/\b<q.length)):=by
 unfold oS
 by_cases h:b≥0
 ·rw[AA h];congr 1;rw[a_,NO,NO];omega
 ·rw[AD h];congr 1;rw[a_,NO];simp;omega
theorem AKV {q:Rows} (hq:q.length<=1000000) (hx:∀ x∈q,x.length<=1000000) (n:Int):((∀ x∈q.flatten,x.1≠n)/\EH q n=some ([],5))\/∃ k j,Found q n k j/\EH q n=some (q.set k ((gl [] q k).eraseIdx j),0):=by
 unfold EH
 rw[YY hq hx,AZ]
 have key:=AZD (q:=q) (d:=((0,0,0,0,0):AH)) (p:=fun i=>i.1=n) (so:=fun k=>((k:Int),q)) (si:=fun _ j=>(j:Int)) (res:=fun k j=>(q.set k ((gl [] q k).eraseIdx j),(0:Int))) (no:=(([]:Rows),(5:Int))) (s0:=((0:Int),q)) rfl
  (out:=fun s1=>if s1.1<(q.length:Int) then
   if 0<=s1.1/\s1.1<(s1.2.length:Int) then
   AI (σ:=Int) (β:=((Int×Rows) ⊕ (Rows×Int))) (fun s2=>
   if s2<((s1.2.getD s1.1.toNat []).length:Int) then
   if 0<=s2/\s2<((s1.2.getD s1.1.toNat []).length:Int) then
   if (gl ((0,0,0,0,0):AH) (s1.2.getD s1.1.toNat []) s2.toNat).1=n then
   if Bd none (some s2) s2.toNat ((s1.2.getD s1.1.toNat []).length) then
   if Bd (some (AG (s2+1))) none ((s1.2.getD s1.1.toNat []).length) ((s1.2.getD s1.1.toNat []).length) then
   if ((B9 (s1.2.getD s1.1.toNat []) 0 (s2.toNat-0)).length+(B9 (s1.2.getD s1.1.toNat []) ((AG (s2+1)).toNat) (((s1.2.getD s1.1.toNat []).length)-((AG (s2+1)).toNat))).length)*40<=140737488355328 then
   if 0<=s1.1/\s1.1<(s1.2.length:Int) then
   if s1.1.toNat=s1.1.toNat then
   some (Sum.inr (Sum.inr (s1.2.set s1.1.toNat ((B9 (s1.2.getD s1.1.toNat []) 0 (s2.toNat-0))++(B9 (s1.2.getD s1.1.toNat []) ((AG (s2+1)).toNat) (((s1.2.getD s1.1.toNat []).length)-((AG (s2+1)).toNat)))),0)))
   else none
   else none
   else none
   else none
   else none
   else some (Sum.inl (AG (s2+1)))
   else none
   else some (Sum.inr (Sum.inl (AG (s1.1+1),s1.2.set s1.1.toNat (s1.2.getD s1.1.toNat []))))) 0
   else none
   else some (Sum.inr ([],5)))
  (cO:=fun (k:Nat) s2=>if s2<((gl [] q k).length:Int) then
   if 0<=s2/\s2<((gl [] q k).length:Int) then
   if (gl ((0,0,0,0,0):AH) (gl [] q k) s2.toNat).1=n then
   if Bd none (some s2) s2.toNat ((gl [] q k).length) then
   if Bd (some (AG (s2+1))) none ((gl [] q k).length) ((gl [] q k).length) then
   if ((B9 (gl [] q k) 0 (s2.toNat-0)).length+(B9 (gl [] q k) ((AG (s2+1)).toNat) (((gl [] q k).length)-((AG (s2+1)).toNat))).length)*40<=140737488355328 then
   if 0<=(k:Int)/\(k:Int)<(q.length:Int) then
   if k=k then
   some (Sum.inr (Sum.inr (q.set k ((B9 (gl [] q k) 0 (s2.toNat-0))++(B9 (gl [] q k) ((AG (s2+1)).toNat) (((gl [] q k).length)-((AG (s2+1)).toNat)))),0)))
   else none
   else none
   else none
   else none
   else none
   else some (Sum.inl (AG (s2+1)))
   else none
   else some (Sum.inr (Sum.inl (AG ((k:Int)+1),q.set k (q.getD k [])))))
  (fun k hk=>by simp only[HX];rw[AA (by omega),AA (by omega)];rfl)
  (fun k j hk hj=>by
   have hl:=hx (gl [] q k) (BN hk)
   have hs1:(B9 (gl [] q k) 0 (j-0)).length<=1000000:=by unfold B9;simp;omega
   have hs2:(B9 (gl [] q k) (j+1) ((gl [] q k).length-(j+1))).length<=1000000:=by unfold B9;simp;omega
   simp only[HX]
   rw[AA (by omega),AA (by omega),AE (e:=(j:Int)+1) (by omega) (by omega),show ((j:Int)+1).toNat=j+1 from by omega,AA (show Bd none (some (j:Int)) j (gl [] q k).length from ⟨by omega,trivial⟩),AA (show Bd (some ((j:Int)+1)) none (gl [] q k).length (gl [] q k).length from ⟨trivial,by omega⟩),AA (show ((B9 (gl [] q k) 0 (j-0)).length+(B9 (gl [] q k) (j+1) ((gl [] q k).length-(j+1))).length)*40<=140737488355328 from by omega),AA (show 0<=(k:Int)/\(k:Int)<(q.length:Int) from by omega),AA trivial,AXK _ _ hj]
   rfl)
  (fun k hk=>by rw[AD (by omega),AE (by omega) (by omega),AU4];rfl)
  (by simp only;rw[AD (by omega)])
 rcases key with ⟨h,e⟩|⟨k,j,hk,hj,hp,hb,e⟩
 ·exact .inl ⟨h,e⟩
 ·exact .inr ⟨k,j,⟨hk,hj,hp,hb⟩,e⟩
theorem AEF {q:Rows} (hx:∀ x∈q,x.length<=1000000) {b:Nat} (hb:b<q.length):NH q (b:Int)=some (if gl [] q b=[] then (((0,0,0,0,0):AH),false) else (gl ((0,0,0,0,0):AH) (gl [] q b) ((gl [] q b).length-1),true)):=by
 have hl:=hx (gl [] q b) (BN hb)
 unfold NH
 rw[A1Q,AZ,AD (by simp;omega),AA (by omega)]
 simp only[HX]
 by_cases h:gl [] q b=[]
 ·rw[AA (by rw[h];rfl),AA h]
 ·have hp:=mQ.2 h
  rw[AD (by omega),AD h,AA (by omega),AA (by omega),AE (e:=((gl [] q b).length:Int)-1) (by omega) (by omega),AA (by omega),show (((gl [] q b).length:Int)-1).toNat=(gl [] q b).length-1 from by omega]
theorem AU5 {s:Sp} (h:3<=s.1/\s.1<=8) (i:AH) {k:Int} (k0:0<=k) (k1:k<=1000000):Z3 s i k=some (decide (k=0\/i.2.2.2.2<k*sz s.1)):=by
 have z:=LF h
 have h1:=LN h k0 k1
 unfold Z3
 by_cases hk:k=0
 ·rw[AA hk];simp [hk]
 ·rw[AD hk,ATG h,AZ,AE (by omega) (by omega)]
  simp [hk]
theorem AU6 {s:Sp} (h:3<=s.1/\s.1<=8):KW s=some (sz s.1):=by
 have z:=LF h
 unfold KW
 rw[q_,AZ,AD (by simp [h]),AA trivial,P4 h,rX,AE (by omega) (by omega)]
theorem fZ {s:Sp} (h:3<=s.1/\s.1<=8) (i:AH) {k:Int} (k0:0<=k) (k1:k<=1000000):FD s i k=some (decide (k=0\/i.2.2.2.2<k*sz s.1)):=by
 have z:=LF h
 have h1:=LN h k0 k1
 unfold FD
 by_cases hk:k=0
 ·rw[AA hk];simp [hk]
 ·rw[AD hk,AU6 h,AZ,AE (by omega) (by omega)]
  simp [hk]
def hd (w:BitVec 64):Option (Int×Int):=
 if w.toNat%2=1 then none
 else if w.toNat%256 / 2<=15/\1+w.toNat%256 / 2<=w.toNat / 256/\w.toNat / 256<=33+w.toNat%256 / 2 then
  some (((w.toNat%256 / 2:Nat):Int),((w.toNat / 256-1-w.toNat%256 / 2:Nat):Int))
 else none
theorem Z9 {w:BitVec 64} {o:Int×Int} (h:hd w=some o):(0<=o.1/\o.1<=15)/\(0<=o.2/\o.2<=32):=by
 unfold hd at h
 split at h
 ·cases h
 ·split at h
  ·simp only[BA] at h
   subst h
   simp only
   omega
  ·cases h
theorem AEG {r d:Int} (r0:0<=r) (r1:r<=15) (d0:0<=d) (d1:d<=32):hd (gZ r d)=some (r,d):=by
 have e:(gZ r d).toNat=((1+r+d)*256+r*2).toNat:=by
  unfold gZ
  rw[vK]
  omega
 obtain⟨r,rfl⟩:=AQQ r0
 obtain⟨d,rfl⟩:=AQQ d0
 have e' :(gZ r d).toNat=(1+r+d)*256+r*2:=by rw[e];omega
 have q1:(gZ r d).toNat / 256=1+r+d:=by omega
 have q2:(gZ r d).toNat%256 / 2=r:=by omega
 have q3:(gZ r d).toNat%2=0:=by omega
 unfold hd
 rw[q1,q2,q3,AD (by omega),AA (by omega)]
 congr 1
 refine Prod.ext ?_ ?_ <;> simp only <;> omega
def A6W (w:BitVec 64) (x:Int×Int×Int×Bool×Int):Prop:=
 (∃ o,hd w=some o/\x=(o.1,o.2,0,false,0))\/(hd w=none/\(x.2.2.2.2≠0\/(x.2.2.2.2=0/\x.2.2.2.1=true)))
theorem AXL (w:BitVec 64):∃ x,ED w=some x/\A6W w x:=by
 have hw:=w.isLt
 have e2:(w%2#64).toNat=w.toNat%2:=by rw[AF9];rfl
 have e2' :(w%2#64=1#64)↔w.toNat%2=1:=by
  rw[<-BitVec.toNat_inj,e2];rfl
 have d2:(w / 2#64).toNat=w.toNat / 2:=by rw[vR];rfl
 have A1R:(w / 256#64).toNat=w.toNat / 256:=by rw[vR];rfl
 have A1S:(w%256#64 / 2#64).toNat=w.toNat%256 / 2:=by rw[vR,AF9];rfl
 unfold ED
 rw[AA (by decide)]
 by_cases h1:w.toNat%2=1
 ·have hh:hd w=none:=by unfold hd;rw[AA h1]
  rw[AA (e2'.2 h1),AA (by decide)]
  split
  ·exact⟨_,rfl,.inr ⟨hh,.inl (by simp)⟩⟩
  ·rw[AA (by decide)]
   exact⟨_,rfl,.inr ⟨hh,.inr ⟨rfl,rfl⟩⟩⟩
 ·rw[AD (fun h=>h1 (e2'.1 h)),AA (by decide),AA (by decide),AA (by decide),A1R,A1S]
  have n48:(48#64).toNat=48:=rfl
  rw[n48]
  by_cases h2:w.toNat / 256>48
  ·rw[AA h2]
   refine⟨_,rfl,.inr ⟨?_,.inl (by simp)⟩⟩
   unfold hd;rw[AD h1,AD (by omega)]
  rw[AD h2,AE (e:=((w.toNat%256 / 2:Nat):Int)) (by omega) (by omega),AE (e:=((w.toNat / 256:Nat):Int)) (by omega) (by omega)]
  by_cases h3:((w.toNat%256 / 2:Nat):Int)>15
  ·rw[AA h3]
   refine⟨_,rfl,.inr ⟨?_,.inl (by simp)⟩⟩
   unfold hd;rw[AD h1,AD (by omega)]
  rw[AD h3,AE (e:=(1:Int)+((w.toNat%256 / 2:Nat):Int)) (by omega) (by omega)]
  by_cases h4:((w.toNat / 256:Nat):Int)<1+((w.toNat%256 / 2:Nat):Int)
  ·rw[AA h4]
   refine⟨_,rfl,.inr ⟨?_,.inl (by simp)⟩⟩
   unfold hd;rw[AD h1,AD (by omega)]
  rw[AD h4,AE (e:=((w.toNat / 256:Nat):Int)-1) (by omega) (by omega),AE (e:=((w.toNat / 256:Nat):Int)-1-((w.toNat%256 / 2:Nat):Int)) (by omega) (by omega)]
  by_cases h5:((w.toNat / 256:Nat):Int)-1-((w.toNat%256 / 2:Nat):Int)>32
  ·rw[AA h5]
   refine⟨_,rfl,.inr ⟨?_,.inl (by simp)⟩⟩
   unfold hd;rw[AD h1,AD (by omega)]
  rw[AD h5]
  refine⟨_,rfl,.inl ⟨(((w.toNat%256 / 2:Nat):Int),((w.toNat / 256-1-w.toNat%256 / 2:Nat):Int)), ?_, ?_⟩⟩
  ·unfold hd;rw[AD h1,AA (by omega)]
  ·simp only[DH,and_true,mZ]
   omega
def ob (z W:Int) (ws:List (BitVec 64)) (l:List Int):Nat->Int->Option (List (Int×Int))
 |0,at' =>if at' <W then none else some []
 |n+1,at' =>if at' <W then
   (match DY z l at' with
   |none=>none
   |some a=>match hd (gl 0#64 ws a.toNat) with
    |none=>none
    |some o=>if o.1+o.2+1>W-at' then none else (ob z W ws l n (at' +(1+o.1+o.2))).map ((a,1+o.1+o.2)::·))
  else some []
theorem AQ3 {σ τ β:Type} {z W:Int} {ws:List (BitVec 64)} {l:List Int} {f:σ->Option (σ ⊕ β)} {en:Int->τ->σ} {bad good:τ->β} {step:Int->Int->τ->τ} (J:Nat->Int->τ->Prop)
  (rJ:∀ (k:Nat) at' st,0<=at' ->at' <W->(k:Int)<=at' ->J k at' st->(∀ a o,DY z l at' =some a->hd (gl 0#64 ws a.toNat)=some o->W-at' <o.1+o.2+1)->∃ st',f (en at' st)=some (.inr (bad st')))
  (hgo:∀ (k:Nat) at' st a o,0<=at' ->at' <W->(k:Int)<=at' ->J k at' st->DY z l at' =some a->hd (gl 0#64 ws a.toNat)=some o->o.1+o.2+1<=W-at' →
   f (en at' st)=some (.inl (en (at' +(1+o.1+o.2)) (step a (1+o.1+o.2) st)))/\J (k+1) (at' +(1+o.1+o.2)) (step a (1+o.1+o.2) st))
  (he:∀ (k:Nat) st,(k:Int)<=W->J k W st->f (en W st)=some (.inr (good st))):
  ∀ (n:Nat) (k:Nat) (at' :Int) (st:τ),0<=at' ->at' <=W->W-at' <=n->(k:Int)<=at' ->J k at' st→
   (ob z W ws l n at' =none->∃ st',AI f (en at' st)=some (bad st'))∧
   ∀ os,ob z W ws l n at' =some os->AI f (en at' st)=some (good (os.foldl (fun st o=>step o.1 o.2 st) st))/\J (k+os.length) W (os.foldl (fun st o=>step o.1 o.2 st) st)/\((k+os.length:Nat):Int)<=W:=by
 intro n
 induction n with
 |zero=>
  intro k at' st h0 h1 h2 hk hJ
  have:at' =W:=by omega
  subst this
  unfold ob
  rw[AD (by omega)]
  refine⟨fun h=>(by cases h),fun os h=> ?_⟩
  simp only[BA] at h
  subst h
  rw[SP,he k st hk hJ]
  exact⟨rfl,hJ,hk⟩
 |succ n ih=>
  intro k at' st h0 h1 h2 hk hJ
  by_cases hW:at' <W
  ·unfold ob
   rw[AA hW]
   cases ha:DY z l at' with
   |none=>
    obtain⟨st',hb⟩:=rJ k at' st h0 hW hk hJ (fun a o h=>by rw[ha] at h;cases h)
    refine⟨fun _=>⟨st',by rw[SP,hb]⟩,fun os h=>(by cases h)⟩
   |some a=>
    simp only
    cases ho:hd (gl 0#64 ws a.toNat) with
    |none=>
     obtain⟨st',hb⟩:=rJ k at' st h0 hW hk hJ (fun a' o h h' =>by rw[ha] at h;cases h;rw[ho] at h';cases h')
     refine⟨fun _=>⟨st',by rw[SP,hb]⟩,fun os h=>(by cases h)⟩
    |some o=>
     simp only
     have hr:=Z9 ho
     by_cases hs:o.1+o.2+1>W-at'
     ·rw[AA hs]
      obtain⟨st',hb⟩:=rJ k at' st h0 hW hk hJ (fun a' o' h h' =>by rw[ha] at h;cases h;rw[ho] at h';cases h';omega)
      refine⟨fun _=>⟨st',by rw[SP,hb]⟩,fun os h=>(by cases h)⟩
     ·rw[AD hs]
      obtain⟨e1,e2⟩:=hgo k at' st a o h0 hW hk hJ ha ho (by omega)
      obtain⟨i1,i2⟩:=ih (k+1) (at' +(1+o.1+o.2)) (step a (1+o.1+o.2) st) (by omega) (by omega) (by omega) (by omega) e2
      have el:AI f (en at' st)=AI f (en (at' +(1+o.1+o.2)) (step a (1+o.1+o.2) st)):=by rw[SP,e1]
      rw[el]
      cases hq:ob z W ws l n (at' +(1+o.1+o.2)) with
      |none=>exact⟨fun _=>i1 hq,fun os h=>(by cases h)⟩
      |some q=>
       refine⟨fun h=>(by cases h),fun os h=> ?_⟩
       simp only[cR,BA] at h
       subst h
       obtain⟨j1,j2,j3⟩:=i2 q hq
       refine⟨j1, ?_, ?_⟩
       ·rw[O0,show k+(q.length+1)=k+1+q.length by omega];exact j2
       ·rw[O0,show k+(q.length+1)=k+1+q.length by omega];exact j3
  ·have:at' =W:=by omega
   subst this
   unfold ob
   rw[AD (by omega)]
   refine⟨fun h=>(by cases h),fun os h=> ?_⟩
   simp only[BA] at h
   subst h
   rw[SP,he k st hk hJ]
   exact⟨rfl,hJ,hk⟩
structure At (s:Sp) (i:AH) (l:List Int) (at' a:Int):Prop where
 J9:DY (sz s.1) l at' =some a
 a0:0<=a
 a1:a<s.2.1.length
 AZE:BF s (i.2.2.1*sz s.1) at' =some (a,0)
 rgo:∀ k,0<=k->k<=1000->BF s a k=some (cK (DY (sz s.1) l (at' +k)))
theorem AU7 {s:Sp} (h:VS s) {i:AH} (hf:EJ s i) {l:List Int} (hl:Has s i l) {at' :Int} (h0:0<=at') (h1:at' <i.2.2.2.2):∃ a,At s i l at' a:=by
 have pQ:=VS.PO h
 have hn:=h.n.2
 have z:=CM s.1
 obtain⟨z1,z2⟩:=LF h.sh
 obtain⟨⟨q0,q1,b0,b1,w0,w1⟩,tM⟩:=id hf
 rcases hl with ⟨hw,_⟩|⟨hw,hp⟩
 ·omega
 rcases tM with ⟨hw',_⟩|⟨_,⟨f0,f1⟩,fo,fs,l',hp',hlen,_⟩
 ·omega
 obtain rfl:=hp.fn hp'
 have hsp:=OX (n:=i.2.2.2.2) z
 rw[<-hlen] at hsp
 obtain⟨g, -,ha⟩:=TR z h0 (show at' <l.length*sz s.1 by omega)
 have hFz:=LN h.sh f0 (show i.2.2.1<=64 by omega)
 have hFw:i.2.2.1*sz s.1<s.2.1.length:=by
  rw[h.w]
  exact AL8 (by omega) z
 have hb:=RQ z (g:=i.2.2.1) (o:=0) (by omega) z
 rw[aJ] at hb
 have hgo:=kS h (a:=i.2.2.1*sz s.1) (k:=at') hFz.1 hFw (by rw[hb.1,fo];omega) h0 (by omega) (l:=l) (by rw[hb.1];exact hp)
 rw[hb.2,Int.zero_add,ha] at hgo
 obtain⟨l2,p2,⟨c0,c1,c2⟩,p3⟩:=QL z hp h0 ha (k:=0) (bC _)
 have ho:=h.owner hp _ c2
 have m0:=mW (g*sz s.1+at' %sz s.1) (show sz s.1≠0 by omega)
 have m1:=rQ (g*sz s.1+at' %sz s.1) z
 have ed:=ALH (g*sz s.1+at' %sz s.1) (sz s.1)
 generalize g*sz s.1+at' %sz s.1=a at*
 have ec:sz s.1*(a / sz s.1)=a / sz s.1*sz s.1:=AAJ _ _
 have n0:=AFG c0 (Int.le_of_lt z)
 have n1:(a / sz s.1+1)*sz s.1<=s.2.2.length*sz s.1:=AEV (by omega) (by omega)
 rw[JG,←h.w] at n1
 refine⟨a,ha,by omega,by omega,hgo,fun k k0 k1=> ?_⟩
 obtain⟨l3,p4, -,p5⟩:=QL z hp h0 ha (k:=k) k0
 rw[kS h (by omega) (by omega) (by rw[ho.1,fo];omega) k0 (by omega) p4,p5]
theorem AHW {s:Sp} {i:AH} {l:List Int} {at' a:Int} (h:At s i l at' a):
  (hd (gl 0#64 s.2.1 a.toNat)=none/\∃ x,BW s a=some x/\x.2.2≠0)∨
  (∃ o,hd (gl 0#64 s.2.1 a.toNat)=some o/\((∃ y,DY (sz s.1) l (at' +(o.1+o.2))=some y/\BW s a=some (o.1,o.2,0))\/(DY (sz s.1) l (at' +(o.1+o.2))=none/\BW s a=some (0,0,2)))):=by
 have a0:=h.a0
 have a1:=h.a1
 have hg:=h.rgo 0 (by omega) (by omega)
 rw[aJ,h.J9] at hg
 obtain⟨x,hx,hr⟩:=AXL (gl 0#64 s.2.1 a.toNat)
 unfold BW
 rw[hg,AZ,AD (by simp [cK]),AA ⟨a0,a1⟩,hx,AZ]
 rcases hr with ⟨o,h1,rfl⟩|⟨h1,h2⟩
 ·right
  refine⟨o,h1, ?_⟩
  obtain⟨⟨r0,r1⟩,d0,d1⟩:=Z9 h1
  have hq:=h.rgo (o.1+o.2) (by omega) (by omega)
  rw[AD (by simp),AD (by simp),AE (by simp only;omega) (by simp only;omega),hq,AZ]
  cases DY (sz s.1) l (at' +(o.1+o.2)) with
  |none=>right;exact⟨rfl,by rw[AA (by simp [cK])]⟩
  |some y=>left;exact⟨y,rfl,by rw[AD (by simp [cK])]⟩
 ·left
  refine⟨h1, ?_⟩
  rcases h2 with h2|⟨h2,h3⟩
  ·rw[AA h2];exact⟨_,rfl,by simp⟩
  ·rw[AD (H_ h2),AA h3];exact⟨_,rfl,by simp⟩
theorem AU8 {σ τ β:Type} {z W:Int} {ws:List (BitVec 64)} {l:List Int} {f:σ->Option (σ ⊕ β)} {en:Int->τ->σ} {bad good:τ->β} {step:Int->Int->τ->τ} (J:Nat->Int->τ->Prop)
  (rJ:∀ (k:Nat) at' st,0<=at' ->at' <W->(k:Int)<=at' ->J k at' st->(∀ a o,DY z l at' =some a->hd (gl 0#64 ws a.toNat)=some o->W-at' <o.1+o.2+1)->∃ st',f (en at' st)=some (.inr (bad st')))
  (hgo:∀ (k:Nat) at' st a o,0<=at' ->at' <W->(k:Int)<=at' ->J k at' st->DY z l at' =some a->hd (gl 0#64 ws a.toNat)=some o->o.1+o.2+1<=W-at' →
   f (en at' st)=some (.inl (en (at' +(1+o.1+o.2)) (step a (1+o.1+o.2) st)))/\J (k+1) (at' +(1+o.1+o.2)) (step a (1+o.1+o.2) st))
  (he:∀ (k:Nat) st,(k:Int)<=W->J k W st->f (en W st)=some (.inr (good st))) (hW:0<=W) {st:τ} (hJ:J 0 0 st) {Q:β->Prop}
  (hb:ob z W ws l W.toNat 0=none->∀ st',Q (bad st')) (hg:∀ os,ob z W ws l W.toNat 0=some os->Q (good (os.foldl (fun st o=>step o.1 o.2 st) st))):
  ∃ b,AI f (en 0 st)=some b/\Q b:=by
 obtain⟨h1,h2⟩:=AQ3 J rJ hgo he W.toNat 0 0 st (by omega) hW (by omega) (by omega) hJ
 cases h:ob z W ws l W.toNat 0 with
 |none=>
  obtain⟨st',h3⟩:=h1 h
  exact⟨_,h3,hb h st'⟩
 |some q=>
  obtain⟨h3, -⟩:=h2 q h
  exact⟨_,h3,hg q h⟩
theorem A4R {α:Type} {x:Option α} {y:α} (h:∃ b,x=some b/\b=y):x=some y:=by
 obtain⟨b,h1,h2⟩:=h
 rw[h1,h2]
def obs (s:Sp) (i:AH) (l:List Int):Option (List (Int×Int)):=ob (sz s.1) i.2.2.2.2 s.2.1 l i.2.2.2.2.toNat 0
theorem AU9 {z W:Int} {ws:List (BitVec 64)} {l:List Int}:∀ {n:Nat} {at' :Int} {os:List (Int×Int)},0<=at' ->at' <=W->ob z W ws l n at' =some os→
  (∀ o∈os,∃ p q,at' <=p/\DY z l p=some o.1/\hd (gl 0#64 ws o.1.toNat)=some q/\o.2=1+q.1+q.2/\p+o.2<=W)/\at' +(os.map (·.2)).sum=W/\at' +os.length<=W
 |0,at',os,h0,h1,h=>by
  unfold ob at h
  split at h
  ·cases h
  ·simp only[BA] at h;subst h;simp;omega
 |n+1,at',os,h0,h1,h=>by
  unfold ob at h
  split at h
  rotate_left
  ·simp only[BA] at h;subst h;simp;omega
  split at h
  ·cases h
  rename_i a ha
  split at h
  ·cases h
  rename_i o ho
  have hr:=Z9 ho
  split at h
  ·cases h
  cases hq:ob z W ws l n (at' +(1+o.1+o.2)) with
  |none=>rw[hq] at h;cases h
  |some q=>
   rw[hq] at h
   simp only[cR,BA] at h
   subst h
   obtain⟨i1,i2,i3⟩:=AU9 (by omega) (by omega) hq
   refine⟨fun x hx=> ?_,by simp only[MN,vW];omega,by simp only[O0];omega⟩
   rcases GA.1 hx with rfl|hx
   ·exact⟨at',o,bC _,ha,ho,rfl,by simp only;omega⟩
   ·obtain⟨p,q',p1,p2,p3,p4,p5⟩:=i1 x hx
    exact⟨p,q',by omega,p2,p3,p4,p5⟩
theorem AXM {s:Sp} (h:VS s) {i:AH} (hf:EJ s i) {l:List Int} {os:List (Int×Int)} (ho:obs s i l=some os):os.length<=16384/\(os.map (·.2)).sum=i.2.2.2.2:=by
 have pQ:=VS.PO h
 obtain⟨⟨_,_,_,_,w0,w1⟩,_⟩:=id hf
 obtain⟨-,h2,h3⟩:=AU9 (by omega) w0 ho
 omega
theorem AUA (os:List (Int×Int)) (st:List Int):os.foldl (fun st o=>st++ [o.1]) st=st++os.map (·.1):=by
 induction os generalizing st with
 |nil=>simp
 |cons o r ih=>rw[kE,ih,MN,J_];rfl
theorem AXN {s:Sp} (h:VS s) {i:AH} (hf:EJ s i) {l:List Int} (hl:Has s i l):
  JC s i=some (match obs s i l with|none=>([],12)|some os=>(os.map (·.1),0)):=by
 have pQ:=VS.PO h
 have hn:=h.n.2
 obtain⟨⟨_,_,_,_,w0,w1⟩,tM⟩:=id hf
 have hF:i.2.2.2.2≠0->0<=i.2.2.1/\i.2.2.1<s.2.2.length:=fun hw=>by
  rcases tM with ⟨hw',_⟩|⟨_,f,_⟩
  ·omega
  ·exact f
 have AZF:i.2.2.2.2≠0->AG (i.2.2.1*2 ^ min (BitVec.ofInt 64 s.1).toNat 64)=i.2.2.1*sz s.1:=fun hw=>by
  obtain⟨f0,f1⟩:=hF hw
  have:=LN h.sh f0 (show i.2.2.1<=64 by omega)
  rw[P4 h.sh,AE (by omega) (by omega)]
 unfold JC
 refine A4R (AU8 (τ:=List Int) (β:=List Int×Int) (z:=sz s.1) (W:=i.2.2.2.2) (ws:=s.2.1) (l:=l) (en:=fun a st=>(st,a)) (bad:=fun st=>([],12)) (good:=fun st=>(st,0)) (step:=fun a _ st=>st++ [a]) (fun k _ st=>st.length=k) ?_ ?_ ?_ w0 (st:=[]) rfl ?_ ?_)
 ·intro k at' st h0 h1 hk hJ XU
  obtain⟨a,ha⟩:=AU7 h hf hl h0 h1
  simp only
  rw[AA h1,AA trivial,AZF (by omega),ha.AZE,AZ]
  rcases AHW ha with ⟨g1,x,g2,g3⟩|⟨o,g1,⟨y,g2,g3⟩|⟨g2,g3⟩⟩
  ·rw[g2,AZ,AA g3];exact⟨st,rfl⟩
  ·have hr:=Z9 g1
   have:=XU a o ha.J9 g1
   rw[g3,AZ,AD (by simp)]
   simp only
   rw[AE (e:=at' +1) (by omega) (by omega),AE (e:=at' +1+o.1) (by omega) (by omega),AE (e:=at' +1+o.1+o.2) (by omega) (by omega),AA (by omega)]
   exact⟨st,rfl⟩
  ·rw[g3,AZ,AA (by simp)];exact⟨st,rfl⟩
 ·intro k at' st a o h0 h1 hk hJ had ho AP2
  obtain⟨a',ha⟩:=AU7 h hf hl h0 h1
  obtain rfl:a=a' :=by have:=ha.J9;rw[had] at this;simpa using this
  have hr:=Z9 ho
  simp only
  rw[AA h1,AA trivial,AZF (by omega),ha.AZE,AZ]
  rcases AHW ha with ⟨g1,x,g2,g3⟩|⟨o',g1,⟨y,g2,g3⟩|⟨g2,g3⟩⟩
  ·rw[ho] at g1;cases g1
  ·obtain rfl:o=o' :=by rw[ho] at g1;simpa using g1
   rw[g3,AZ,AD (by simp)]
   simp only
   rw[AE (e:=at' +1) (by omega) (by omega),AE (e:=at' +1+o.1) (by omega) (by omega),AE (e:=at' +1+o.1+o.2) (by omega) (by omega),AD (by omega),
    AA (by simp only[IC];omega),AE (e:=(1:Int)+o.1) (by omega) (by omega),AE (e:=(1:Int)+o.1+o.2) (by omega) (by omega),AE (e:=at' +(1+o.1+o.2)) (by omega) (by omega)]
   exact⟨rfl,by simp [hJ]⟩
  ·obtain rfl:o=o' :=by rw[ho] at g1;simpa using g1
   obtain⟨a2,ha2⟩:=AU7 h hf hl (at' :=at' +(o.1+o.2)) (by omega) (by omega)
   rw[ha2.J9] at g2;cases g2
 ·intro k st hk hJ
  simp only
  rw[AD (by omega)]
 ·intro hn st'
  rw[show obs s i l=none from hn]
 ·intro os hs
  rw[show obs s i l=some os from hs,AUA]
  rfl
def ads (z:Int) (l:List Int):Int->List (Int×Int)->List (Int×Int)
 |_,[]=>[]
 |at',o::r=>((DY z l at').getD 0,1+o.1+o.2)::ads z l (at' +(1+o.1+o.2)) r
theorem AHX {z:Int} {ws:List (BitVec 64)} {l:List Int} {W:Int}:∀ {os:List (Int×Int)} {at' :Int} {n:Nat},EB z ws l at' os W->W-at' <=n->ob z W ws l n at' =some (ads z l at' os)
 | [],at',n,h,hn=>by
  rw[EB] at h
  subst h
  cases n <;> (unfold ob;rw[AD (by omega)];rfl)
 |o::r,at',n,h,hn=>by
  obtain⟨⟨⟨r0,r1⟩,d0,d1⟩,⟨a,h2,h3⟩,h4⟩:=h
  have hle:=h4.le
  cases n with
  |zero=>omega
  |succ n=>
   unfold ob
   rw[AA (by omega),h2]
   simp only
   rw[h3,AEG r0 r1 d0 d1]
   simp only
   rw[AD (by omega),AHX h4 (by omega),cR]
   simp only[ads,h2,mT]
theorem T7 {s:Sp} {i:AH} {l l' :List Int} (h:Has s i l) (h' :Has s i l'):l=l' :=by
 rcases h with ⟨h1,rfl⟩|⟨h1,h2⟩ <;> rcases h' with ⟨h3,rfl⟩|⟨h3,h4⟩
 ·rfl
 ·exact absurd h1 h3
 ·exact absurd h3 h1
 ·exact h2.fn h4
theorem AUB {s:Sp} {i:AH} {l:List Int} (hl:Has s i l) (hw:0<=i.2.2.2.2) {os:List (Int×Int)} (h:Full s i os):EB (sz s.1) s.2.1 l 0 os i.2.2.2.2/\obs s i l=some (ads (sz s.1) l 0 os):=by
 obtain⟨l',h1,h2⟩:=h
 obtain rfl:=T7 hl h1
 exact⟨h2,AHX h2 (by omega)⟩
abbrev Se:Type:=Int×Int×List Int
abbrev Ss:Type:=List Se
abbrev Ro:Type:=List Bool×List (BitVec 64)
def Lx (a b:Se):Prop:=a.1<b.1\/(a.1=b.1/\a.2.1<b.2.1)
instance (a b:Se):Decidable (Lx a b):=by unfold Lx;infer_instance
structure RV (l:Ss):Prop where
 pw:l.Pairwise Lx
 e:∀ x∈l,(0<=x.1/\x.1<64)/\(0<=x.2.1/\x.2.1<64)/\x.2.2.Pairwise (·< ·)/\∀ y∈x.2.2,0<=y/\y<16384
def In (l:Ss) (f g y:Int):Prop:=∃ x∈l,x.1=f/\x.2.1=g/\y∈x.2.2
theorem rK {n:Nat} {l:List Int} (h:l.Pairwise (·< ·)) (hb:∀ y∈l,0<=y/\y<n):l.length<=n:=
 SU n l (h.imp fun h=>Int.ne_of_lt h) hb
theorem RV.len {l:Ss} (h:RV l):l.length<=4096:=by
 have:(l.map fun x=>x.1*64+x.2.1).length<=4096:=by
  refine rK (ALR.2 ?_) ?_
  ·refine (List.Pairwise.imp_of_mem (S:=fun a b=>a.1*64+a.2.1<b.1*64+b.2.1) ?_ h.pw)
   intro a b ha hb hl
   have e1:=h.e a ha
   have e2:=h.e b hb
   rcases hl with hl|⟨hl,lB⟩ <;> omega
  ·intro y hy
   obtain⟨x,hx,rfl⟩:=DD.1 hy
   have e1:=h.e x hx
   omega
 rw[RG] at this
 exact this
theorem RV.A1T {l:Ss} (h:RV l) {x:Se} (hx:x∈l):x.2.2.length<=16384:=rK (h.e x hx).2.2.1 (h.e x hx).2.2.2
theorem AUC {l:Ss} (hl:l.length<=1000000) (hx:∀ x∈l,x.2.2.length<=1000000):EE l=some l:=by
 unfold EE
 refine (AO (fun k (st:Ss×Int)=>k<=l.length/\st=(l.take k,(k:Int))) (fun b=>b=l) l.length ?_ ?_ (s:=([],0)) ⟨by omega,by simp⟩).elim fun b hb=>by rw[hb.1,hb.2]
 ·rintro k st hk ⟨_,rfl⟩
  have hl:=hx (gl (0,0,[]) l k) (BN hk)
  left
  refine⟨_, ?_,by omega,rfl⟩
  simp only[HX]
  rw[AA (by omega),AA (by omega),AA (by simp;omega),AA (by simp;omega),tJ,FZ (d:=(0,0,[])) l k hk,AE (by omega) (by omega)]
  rfl
 ·rintro st ⟨_,rfl⟩
  simp only
  rw[AD (by omega),SD]
  exact⟨_,rfl,rfl⟩
theorem RV.copy {l:Ss} (h:RV l):EE l=some l:=
 AUC (by have:=h.len;omega) fun x hx=>by have:=h.A1T hx;omega
theorem AEH {l:List Int} (hl:l.length<=1000000) (v:Int):EN l v=some (decide (v∈l)):=by
 unfold EN
 obtain⟨h1,h2⟩:=YZ (β:=Bool) (ys:=l) (v:=v) (bad:=true) (r:=false) (f:=fun s1=>
  if s1<(l.length:Int) then
  if 0<=s1/\s1<(l.length:Int) then
  if (gl (0:Int) l s1.toNat)=v then
  some (Sum.inr (true))
  else some (Sum.inl (AG (s1+1)))
  else none
  else some (Sum.inr (false))) (fun k hk=>by
   simp only[HX]
   rw[AA (by omega),AA (by omega),AE (by omega) (by omega)]) (fun _=>by
   rw[AD (by omega)])
 by_cases h:v∈l
 ·rw[IV h];exact h1 h
 ·rw[NZ h];exact h2 h
def ins (l:List Int) (v:Int):List Int:=if v∈l then l else l.filter (·< v)++(v::l.filter (v< ·))
theorem iC {l:List Int} {v x:Int}:x∈ins l v↔x=v\/x∈l:=by
 unfold ins
 split
 ·rename_i h
  constructor
  ·exact .inr
  ·rintro (rfl|h')
   ·exact h
   ·exact h'
 ·rename_i h
  simp only[FG,bB,GA,JL]
  constructor
  ·rintro (⟨h1,_⟩|rfl|⟨h1,_⟩)
   ·exact .inr h1
   ·exact .inl rfl
   ·exact .inr h1
  ·rintro (rfl|h1)
   ·exact .inr (.inl rfl)
   ·rcases Int.lt_trichotomy x v with h2|rfl|h2
    ·exact .inl ⟨h1,h2⟩
    ·exact absurd h1 h
    ·exact .inr (.inr ⟨h1,h2⟩)
theorem AUD {l:List Int} {v:Int} (h:l.Pairwise (·< ·)):(ins l v).Pairwise (·< ·):=by
 unfold ins
 split
 ·exact h
 ·rw[vP,cQ]
  refine⟨h.sublist AAC,⟨fun x hx=> ?_,h.sublist AAC⟩,fun a ha b hb=> ?_⟩
  ·simpa using (bB.1 hx).2
  ·have h1:a<v:=by simpa using (bB.1 ha).2
   rcases GA.1 hb with rfl|hb
   ·exact h1
   ·have:v<b:=by simpa using (bB.1 hb).2
    omega
theorem Z_ {α:Type} (xs:List α) (k:Nat):B9 xs 0 (k-0)=xs.take k:=by
 unfold B9;simp
theorem A1U {l:List Int} (h:l.Pairwise (·< ·)) (v:Int):∃ k,k<=l.length/\l.filter (·< v)=l.take k/\l.filter (fun x=>¬x<v)=l.drop k/\(∀ j,j<k->gl 0 l j<v)/\(k<l.length->¬gl 0 l k<v):=by
 induction l with
 |nil=>exact⟨0,by simp,rfl,rfl,fun j hj=>by omega,fun h=>by simp at h⟩
 |cons a r ih=>
  obtain⟨h1,h2⟩:=cQ.1 h
  obtain⟨k,k1,k2,k3,k4,k5⟩:=ih h2
  by_cases ha:a<v
  ·refine⟨k+1,by simp;omega, ?_, ?_, ?_, ?_⟩
   ·rw[vN,AA (by simpa using ha),List.take_succ_cons,k2]
   ·rw[vN,AD (by simpa using ha),List.drop_succ_cons,k3]
   ·intro j hj
    cases j with
    |zero=>exact ha
    |succ j=>exact k4 j (by omega)
   ·intro hk
    exact k5 (by simpa using hk)
  ·have hr:∀ x∈r,¬x<v:=fun x hx=>by have:=h1 x hx;omega
   refine⟨0,by simp, ?_, ?_,fun j hj=>by omega,fun _=>ha⟩
   ·rw[vN,AD (by simpa using ha),List.take_zero,List.filter_eq_nil_iff]
    intro x hx
    simpa using hr x hx
   ·rw[vN,AA (by simpa using ha),AAH]
    congr 1
    rw[ALM]
    intro x hx
    simpa using hr x hx
theorem ANJ {l:List Int} (h:l.Pairwise (·< ·)) (hl:l.length<=1000000) (v:Int):EG l v=some (ins l v):=by
 obtain⟨k,k1,k2,k3,k4,k5⟩:=A1U h v
 have key:(if v∈l then l else l.take k++ [v]++l.drop k)=ins l v:=by
  unfold ins
  split
  ·rfl
  ·rename_i hn
   rw[k2,J_,ALI,←k3]
   congr 2
   refine rR fun x hx=> ?_
   simp only[tI]
   constructor
   ·intro h1;by_cases h2:x=v
    ·subst h2;exact absurd hx hn
    ·omega
   ·intro h1;omega
 have OU:v∈l↔k<l.length/\gl 0 l k=v:=by
  constructor
  ·intro hm
   have hd:v∈l.drop k:=by rw[<-k3,bB];exact⟨hm,by simp⟩
   have hk:k<l.length:=by
    rcases IA k l.length with h1|h1
    ·exact h1
    ·rw[List.drop_eq_nil_of_le h1] at hd;cases hd
   refine⟨hk, ?_⟩
   have hs:=uZ (d:=0) l k hk
   rw[AA6 hk,←D8 (d:=0) hk] at hd
   rcases GA.1 hd with hd|hd
   ·exact hd.symm
   ·have:=k5 hk
    have h2:gl 0 l k<v:=by
     have hp:(l.drop k).Pairwise (·< ·):=h.sublist (List.drop_sublist k l)
     rw[AA6 hk,←D8 (d:=0) hk,cQ] at hp
     exact hp.1 _ hd
    omega
  ·rintro⟨h1,rfl⟩;exact BN h1
 rw[<-key]
 unfold EG
 refine (AO (fun j (st:Int)=>st=(j:Int)) (fun b=>b=if v∈l then l else l.take k++ [v]++l.drop k) k ?_ ?_ (s:=0) rfl).elim fun b hb=>by rw[hb.1,hb.2]
 ·rintro j st hj rfl
  left
  rw[AA (by omega),AA (by omega),HX,AA (k4 j hj),AE (by omega) (by omega)]
  exact⟨_,rfl,rfl⟩
 ·rintro st rfl
  have l1:(l.take k).length=k:=by rw[rV];omega
  have l2:(l.drop k).length=l.length-k:=by rw[AFD]
  have b1:Bd none (some (k:Int)) k l.length:=⟨by omega,trivial⟩
  have b2:Bd (some (k:Int)) none l.length l.length:=⟨trivial,by omega⟩
  by_cases hk:k<l.length
  ·rw[AA (by omega),AA (by omega)]
   simp only[HX]
   rw[AD (k5 hk),AA (by omega),AA (by omega)]
   by_cases he:gl 0 l k=v
   ·rw[AA he,AA (OU.2 ⟨hk,he⟩)]
    exact⟨_,rfl,rfl⟩
   ·rw[AD he,AD (fun hm=>he (OU.1 hm).2),AA b1,Z_,hP,AA (by simp;omega),AA (by simp;omega),AA b2,AA (by simp;omega)]
    exact⟨_,rfl,by rw[tJ]⟩
  ·have hn:v∉l:=fun hm=>hk (OU.1 hm).1
   rw[AD (by omega),AD (by omega)]
   simp only[HX]
   rw[AD hn,AA b1,Z_,hP,AA (by simp;omega),AA (by simp;omega),AA b2,AA (by simp;omega)]
   exact⟨_,rfl,by rw[tJ]⟩
theorem VE (a b:Se):FL a b=some (decide (Lx a b)):=by
 unfold FL
 by_cases h:a.1<b.1
 ·rw[AA h,IV (show Lx a b from Or.inl h)]
 ·rw[AD h]
  by_cases h2:a.1=b.1
  ·rw[AA h2]
   congr 1
   rw[tI]
   exact⟨fun h3=>Or.inr ⟨h2,h3⟩,fun h3=>by rcases h3 with h3|h3 <;> omega⟩
  ·rw[AD h2,NZ (fun h3=>by rcases h3 with h3|h3 <;> omega)]
theorem Lx.trans {a b c:Se} (h:Lx a b) (h' :Lx b c):Lx a c:=by
 unfold Lx at*
 omega
theorem A6X {l:Ss} (p:Se):∃ k,k<=l.length/\(∀ j,j<k->Lx (gl (0,0,[]) l j) p)/\(k<l.length->¬Lx (gl (0,0,[]) l k) p):=by
 induction l with
 |nil=>exact⟨0,by simp,fun j hj=>by omega,fun h=>by simp at h⟩
 |cons a r ih=>
  obtain⟨k,k1,k2,k3⟩:=ih
  by_cases ha:Lx a p
  ·refine⟨k+1,by simp;omega,fun j hj=> ?_,fun hk=> ?_⟩
   ·cases j with
    |zero=>exact ha
    |succ j=>exact k2 j (by omega)
   ·exact k3 (by simpa using hk)
  ·exact⟨0,by simp,fun j hj=>by omega,fun _=>ha⟩
theorem tA {α:Type} {d:α} {l:List α} {k:Nat} {x:α} (h:x∈l.take k):∃ j,j<k/\j<l.length/\gl d l j=x:=by
 obtain⟨j,hj,rfl⟩:=ACD.1 h
 rw[rV] at hj
 exact⟨j,by omega,by omega,by rw[List.getElem_take,D8 (by omega)]⟩
theorem A1V {l:Ss} (h:RV l) {f g y:Int} (hf:0<=f/\f<64) (hg:0<=g/\g<64) (hy:0<=y/\y<16384):
  ∃ l',JB l f g y=some l' /\RV l' /\∀ f' g' y',In l' f' g' y' ↔In l f' g' y' \/(f' =f/\g' =g/\y' =y):=by
 have hlen:=h.len
 obtain⟨k,k1,k2,k3⟩:=A6X (l:=l) (f,g,[])
 have l1:(l.take k).length=k:=by rw[rV];omega
 have l2:(l.drop k).length=l.length-k:=by rw[AFD]
 have b1:Bd none (some (k:Int)) k l.length:=⟨by omega,trivial⟩
 have b2:Bd (some (k:Int)) none l.length l.length:=⟨trivial,by omega⟩
 by_cases hc:k<l.length/\¬Lx (f,g,[]) (gl (0,0,[]) l k)
 ·obtain⟨hk,hn⟩:=hc
  have hx:=BN (d:=((0,0,[]):Se)) hk
  have e:=h.e _ hx
  have hs:=h.A1T hx
  have k3' :=k3 hk
  have ek:(gl (0,0,[]) l k).1=f/\(gl (0,0,[]) l k).2.1=g:=by
   unfold Lx at hn k3'
   simp only at hn k3'
   omega
  refine⟨l.set k (f,g,ins (gl (0,0,[]) l k).2.2 y), ?_, ?_, ?_⟩
  ·unfold JB
   refine (AO (fun j (st:Int)=>st=(j:Int)) (fun b=>b=l.set k (f,g,ins (gl (0,0,[]) l k).2.2 y)) k ?_ ?_ (s:=0) rfl).elim fun b hb=>by rw[hb.1,hb.2]
   ·rintro j st hj rfl
    left
    rw[AA (by omega),AA (by omega),HX,VE,AZ,AA (IV (k2 j hj)),AE (by omega) (by omega)]
    exact⟨_,rfl,rfl⟩
   ·rintro st rfl
    rw[AA (by omega),AA (by omega)]
    simp only[HX]
    rw[VE,AZ,AD (by rw[JL];exact k3'),h.copy,AZ,AA (by omega),AA (by omega),VE,AZ,AA (by rw[NZ hn];rfl),AA (by omega),ANJ e.2.2.1 (by omega),AZ,AA (by omega),ek.1,ek.2]
    exact⟨_,rfl,rfl⟩
  ·constructor
   ·have e1:∀ l:Ss,l.Pairwise Lx↔(l.map fun x=>(x.1,x.2.1)).Pairwise fun a b=>a.1<b.1\/(a.1=b.1/\a.2<b.2):=fun l=>by rw[ALR];rfl
    rw[e1,List.map_set]
    have e2:(l.map fun x:Se=>(x.1,x.2.1)).set k (f,g)=l.map fun x:Se=>(x.1,x.2.1):=by
     refine List.ext_getElem (by simp) fun j j1 j2=> ?_
     rw[List.getElem_set]
     split
     ·rename_i hj;subst hj
      rw[vM,←D8 (d:=((0,0,[]):Se)) hk,ek.1,ek.2]
     ·rfl
    rw[e2,←e1]
    exact h.pw
   ·intro x hx'
    rcases ALA hx' with hx' |rfl
    ·exact h.e x hx'
    ·refine⟨hf,hg,AUD e.2.2.1,fun z hz=> ?_⟩
     rcases iC.1 hz with rfl|hz
     ·exact hy
     ·exact e.2.2.2 z hz
  ·intro f' g' y'
   constructor
   ·rintro⟨x,hx',rfl,rfl,hz⟩
    rcases ALA hx' with hx' |rfl
    ·exact .inl ⟨x,hx',rfl,rfl,hz⟩
    ·rcases iC.1 hz with rfl|hz
     ·exact .inr ⟨rfl,rfl,rfl⟩
     ·exact .inl ⟨_,hx,ek.1,ek.2,hz⟩
   ·have hm:(f,g,ins (gl (0,0,[]) l k).2.2 y)∈l.set k (f,g,ins (gl (0,0,[]) l k).2.2 y):=List.mem_set hk _
    rintro (⟨x,hx',rfl,rfl,hz⟩|⟨rfl,rfl,rfl⟩)
    ·obtain⟨j,hj,rfl⟩:=ACD.1 hx'
     by_cases kL:j=k
     ·subst kL
      rw[<-D8 (d:=((0,0,[]):Se)) hj] at hz ⊢
      exact⟨_,hm,ek.1.symm,ek.2.symm,iC.2 (.inr hz)⟩
     ·refine⟨l[j], ?_,rfl,rfl,hz⟩
      rw[ACD]
      exact⟨j,by rw[EW];exact hj,by rw[List.getElem_set_ne (Ne.symm kL)]⟩
    ·exact⟨_,hm,rfl,rfl,iC.2 (.inl rfl)⟩
 ·have hr:k<l.length->Lx (f,g,[]) (gl (0,0,[]) l k):=fun hk=>AC9 fun hn=>hc ⟨hk,hn⟩
  have ACS:∀ x∈l.drop k,Lx (f,g,[]) x:=by
   intro x hx
   have hk:k<l.length:=by
    rcases IA k l.length with h1|h1
    ·exact h1
    ·rw[List.drop_eq_nil_of_le h1] at hx;cases hx
   have hp:(l.drop k).Pairwise Lx:=h.pw.sublist (List.drop_sublist k l)
   rw[AA6 hk,←D8 (d:=((0,0,[]):Se)) hk] at hx hp
   rcases GA.1 hx with rfl|hx
   ·exact hr hk
   ·exact (hr hk).trans ((cQ.1 hp).1 x hx)
  refine⟨l.take k++ [(f,g,[y])]++l.drop k, ?_, ?_, ?_⟩
  ·unfold JB
   refine (AO (fun j (st:Int)=>st=(j:Int)) (fun b=>b=l.take k++ [(f,g,[y])]++l.drop k) k ?_ ?_ (s:=0) rfl).elim fun b hb=>by rw[hb.1,hb.2]
   ·rintro j st hj rfl
    left
    rw[AA (by omega),AA (by omega),HX,VE,AZ,AA (IV (k2 j hj)),AE (by omega) (by omega)]
    exact⟨_,rfl,rfl⟩
   ·rintro st rfl
    by_cases hk:k<l.length
    ·rw[AA (by omega),AA (by omega)]
     simp only[HX]
     rw[VE,AZ,AD (by rw[JL];exact k3 hk),h.copy,AZ,AA (by omega),AA (by omega),VE,AZ,AD (by rw[IV (hr hk)];simp),AA b2,hP,AA (by simp;omega),AA b1,Z_,AA (by simp;omega),AA (by simp;omega),tJ]
     exact⟨_,rfl,rfl⟩
    ·rw[AD (by omega),h.copy,AZ,AD (by omega)]
     simp only[HX]
     rw[AA b2,hP,AA (by simp;omega),AA b1,Z_,AA (by simp;omega),AA (by simp;omega),tJ]
     exact⟨_,rfl,rfl⟩
  ·have hs:l.take k++l.drop k=l:=AA8 k l
   have hp:=h.pw
   rw[<-hs,vP] at hp
   constructor
   ·rw[J_,ALI,vP,cQ]
    refine⟨hp.1,⟨fun x hx=>ACS x hx,hp.2.1⟩,fun a ha b hb=> ?_⟩
    obtain⟨j,j1,j2,rfl⟩:=tA (d:=((0,0,[]):Se)) ha
    rcases GA.1 hb with rfl|hb
    ·exact k2 j j1
    ·exact hp.2.2 _ ha _ hb
   ·intro x hx
    simp only[FG,HA] at hx
    rcases hx with (hx|rfl)|hx
    ·exact h.e x (AA9 hx)
    ·refine⟨hf,hg,ALE _ _,fun z hz=> ?_⟩
     rw[HA.1 hz];exact hy
    ·exact h.e x (AAA hx)
  ·intro f' g' y'
   have XE:∀ x:Se,x∈l.take k++ [(f,g,[y])]++l.drop k↔x∈l\/x=(f,g,[y]):=by
    intro x
    rw[FG,FG,HA]
    have:x∈l↔x∈l.take k\/x∈l.drop k:=by rw[<-FG,AA8]
    rw[this]
    constructor
    ·rintro ((h1|h1)|h1)
     ·exact .inl (.inl h1)
     ·exact .inr h1
     ·exact .inl (.inr h1)
    ·rintro ((h1|h1)|h1)
     ·exact .inl (.inl h1)
     ·exact .inr h1
     ·exact .inl (.inr h1)
   constructor
   ·rintro⟨x,hx,rfl,rfl,hz⟩
    rcases (XE x).1 hx with hx|rfl
    ·exact .inl ⟨x,hx,rfl,rfl,hz⟩
    ·exact .inr ⟨rfl,rfl,HA.1 hz⟩
   ·rintro (⟨x,hx,rfl,rfl,hz⟩|⟨rfl,rfl,rfl⟩)
    ·exact⟨x,(XE x).2 (.inl hx),rfl,rfl,hz⟩
    ·exact⟨_,(XE _).2 (.inr rfl),rfl,rfl,HA.2 rfl⟩
theorem f_ {α:Type} {d:α} (p:α->Bool) (l:List α) {k:Nat} (hk:k<l.length):(l.take (k+1)).filter p=(l.take k).filter p++(if p (gl d l k)=true then [gl d l k] else []):=by
 rw[FZ (d:=d) l k hk,tH,vN,List.filter_nil]
theorem T8 {α:Type} (p:α->Bool) (l:List α) (k:Nat):((l.take k).filter p).length<=l.length:=by
 refine kF (mO _ _) ?_
 rw[rV];omega
def o_ (l:Ss) (F:List Int):Ss:=l.filter fun x=>decide (x.1∉F/\x.2.1∉F)
theorem AXO {l:Ss} (h:RV l) {F:List Int} (hF:F.length<=1000000):KY l F=some (o_ l F):=by
 have hlen:=h.len
 unfold KY
 rw[h.copy,AZ]
 refine (AO (fun k (st:Ss×Int)=>st=((l.take k).filter (fun x=>decide (x.1∉F/\x.2.1∉F)),(k:Int))) (fun b=>b=o_ l F) l.length ?_ ?_ (s:=([],0)) (by simp)).elim fun b hb=>by rw[hb.1,hb.2]
 ·rintro k st hk rfl
  left
  have hb:=T8 (fun x:Se=>decide (x.1∉F/\x.2.1∉F)) l k
  simp only[HX]
  rw[AA (by omega),AA (by omega),AEH hF,AZ,AEH hF]
  rw[f_ (d:=((0,0,[]):Se)) _ l hk]
  by_cases h1:(gl ((0,0,[]):Se) l k).1∈F
  ·rw[AD (by rw[IV h1];simp),AD (by rw[JL];exact fun hh=>hh.1 h1),AE (by omega) (by omega),HH]
   exact⟨_,rfl,rfl⟩
  ·rw[AA (by rw[NZ h1];rfl),AZ]
   by_cases h2:(gl ((0,0,[]):Se) l k).2.1∈F
   ·rw[AD (by rw[IV h2];simp),AD (by rw[JL];exact fun hh=>hh.2 h2),AE (by omega) (by omega),HH]
    exact⟨_,rfl,rfl⟩
   ·rw[AA (by rw[NZ h2];rfl),AA (IV ⟨h1,h2⟩),AA (by simp only[IC];omega),AE (by omega) (by omega)]
    exact⟨_,rfl,rfl⟩
 ·rintro st rfl
  simp only
  rw[AD (by omega),SD]
  exact⟨_,rfl,rfl⟩
theorem RV.drop {l:Ss} (h:RV l) (F:List Int):RV (o_ l F):=
 ⟨h.pw.sublist AAC,fun x hx=>h.e x (bB.1 hx).1⟩
theorem ANK {l:Ss} {F:List Int} {f g y:Int}:In (o_ l F) f g y↔In l f g y/\f∉F/\g∉F:=by
 constructor
 ·rintro⟨x,hx,rfl,rfl,hy⟩
  obtain⟨h1,h2⟩:=bB.1 hx
  exact⟨⟨x,h1,rfl,rfl,hy⟩,MM h2⟩
 ·rintro⟨⟨x,hx,rfl,rfl,hy⟩,h2⟩
  exact⟨x,bB.2 ⟨hx,IV h2⟩,rfl,rfl,hy⟩
def InF (l:Ss) (F:List Int) (y:Int):Prop:=∃ f g,In l f g y/\g∈F/\f∉F
theorem pA {l:Ss} {k:Nat} (hk:k<l.length) {f g y:Int}:In (l.take (k+1)) f g y↔In (l.take k) f g y\/((gl (0,0,[]) l k).1=f/\(gl (0,0,[]) l k).2.1=g/\y∈(gl (0,0,[]) l k).2.2):=by
 rw[FZ (d:=((0,0,[]):Se)) l k hk]
 constructor
 ·rintro⟨x,hx,h1,h2,h3⟩
  rcases FG.1 hx with hx|hx
  ·exact .inl ⟨x,hx,h1,h2,h3⟩
  ·rw[HA.1 hx] at h1 h2 h3
   exact .inr ⟨h1,h2,h3⟩
 ·rintro (⟨x,hx,h1,h2,h3⟩|⟨h1,h2,h3⟩)
  ·exact⟨x,FG.2 (.inl hx),h1,h2,h3⟩
  ·exact⟨_,FG.2 (.inr (HA.2 rfl)),h1,h2,h3⟩
theorem AXP {l:Ss} (h:RV l) {F:List Int} (hF:F.length<=1000000):
  ∃ out n,KX l F=some (out,n)/\out.Pairwise (·< ·)/\(∀ y∈out,0<=y/\y<16384)/\∀ y,y∈out↔InF l F y:=by
 have hlen:=h.len
 unfold KX
 have key:=AO (f:=fun s1:List Int×Int×Int=>
  if s1.2.2<(l.length:Int) then
  if 0<=s1.2.2/\s1.2.2<(l.length:Int) then
  Option.bind (EN F (((gl ((0,0,[]):(Int×Int×(List Int))) l s1.2.2.toNat).2).1)) (fun r1=>
  if r1=true then
  Option.bind (EN F ((gl ((0,0,[]):(Int×Int×(List Int))) l s1.2.2.toNat).1)) (fun r2=>
  if (!r2)=true then
  AI (σ:=((List Int)×Int)) (β:=(((List Int)×Int×Int) ⊕ ((List Int)×Int))) (fun s2=>
  if s2.2<((((gl ((0,0,[]):(Int×Int×(List Int))) l s1.2.2.toNat).2).2).length:Int) then
  if 0<=s2.2/\s2.2<((((gl ((0,0,[]):(Int×Int×(List Int))) l s1.2.2.toNat).2).2).length:Int) then
  Option.bind (EG s2.1 (gl (0:Int) (((gl ((0,0,[]):(Int×Int×(List Int))) l s1.2.2.toNat).2).2) s2.2.toNat)) (fun r3=>
  some (Sum.inl ((r3,AG (s2.2+1)))))
  else none
  else some (Sum.inr (Sum.inl ((s2.1,AG (s1.2.1+((((gl ((0,0,[]):(Int×Int×(List Int))) l s1.2.2.toNat).2).2).length:Int)),AG (s1.2.2+1)))))) ((s1.1,0))
  else some (Sum.inl ((s1.1,s1.2.1,AG (s1.2.2+1)))))
  else some (Sum.inl ((s1.1,s1.2.1,AG (s1.2.2+1)))))
  else none
  else some (Sum.inr ((s1.1,s1.2.1))))
  (fun k (st:List Int×Int×Int)=>st.2.2=(k:Int)/\st.1.Pairwise (·< ·)/\(∀ y∈st.1,0<=y/\y<16384)/\∀ y,y∈st.1↔InF (l.take k) F y)
  (fun b=>b.1.Pairwise (·< ·)/\(∀ y∈b.1,0<=y/\y<16384)/\∀ y,y∈b.1↔InF l F y) l.length ?_ ?_ (s:=([],0,0)) ⟨rfl,List.Pairwise.nil,by simp,fun y=>by simp [InF,In]⟩
 ·obtain⟨b,e,h1,h2,h3⟩:=key
  exact⟨b.1,b.2,e,h1,h2,h3⟩
 ·rintro k ⟨out,n,kk⟩ hk ⟨e1,h1,h2,h3⟩
  simp only at e1 h1 h2 h3
  subst e1
  have hx:=BN (d:=((0,0,[]):Se)) hk
  have e:=h.e _ hx
  have hs:=h.A1T hx
  left
  simp only[HX]
  rw[AA (by omega),AA (by omega),AEH hF,AZ]
  have skip:¬((gl ((0,0,[]):Se) l k).2.1∈F/\(gl ((0,0,[]):Se) l k).1∉F)->∀ y,y∈out↔InF (l.take (k+1)) F y:=by
   intro hn y
   rw[h3 y]
   constructor
   ·rintro⟨f,g,a1,a2⟩
    exact⟨f,g,(pA hk).2 (.inl a1),a2⟩
   ·rintro⟨f,g,a1,a2,a3⟩
    rcases (pA hk).1 a1 with a1|⟨rfl,rfl,_⟩
    ·exact⟨f,g,a1,a2,a3⟩
    ·exact absurd ⟨a2,a3⟩ hn
  by_cases g1:(gl ((0,0,[]):Se) l k).2.1∈F
  rotate_left
  ·rw[AD (by rw[NZ g1];simp),AE (by omega) (by omega)]
   exact⟨_,rfl,rfl,h1,h2,skip fun hh=>g1 hh.1⟩
  rw[AA (IV g1),AEH hF,AZ]
  by_cases g2:(gl ((0,0,[]):Se) l k).1∈F
  ·rw[AD (by rw[IV g2];simp),AE (by omega) (by omega)]
   exact⟨_,rfl,rfl,h1,h2,skip fun hh=>hh.2 g2⟩
  rw[AA (by rw[NZ g2];rfl)]
  generalize hX:gl ((0,0,[]):Se) l k=X at*
  have inner:=AO (β:=((List Int×Int×Int) ⊕ (List Int×Int))) (f:=fun s2:List Int×Int=>
   if s2.2<(X.2.2.length:Int) then
   if 0<=s2.2/\s2.2<(X.2.2.length:Int) then
   Option.bind (EG s2.1 (gl (0:Int) X.2.2 s2.2.toNat)) (fun r3=>
   some (Sum.inl ((r3,AG (s2.2+1)))))
   else none
   else some (Sum.inr (Sum.inl ((s2.1,AG (n+(X.2.2.length:Int)),AG ((k:Int)+1))))))
   (fun j (st:List Int×Int)=>st.2=(j:Int)/\st.1.Pairwise (·< ·)/\(∀ y∈st.1,0<=y/\y<16384)/\∀ y,y∈st.1↔(y∈out\/y∈X.2.2.take j))
   (fun b=>∃ o,b=Sum.inl (o,AG (n+(X.2.2.length:Int)),(k:Int)+1)/\o.Pairwise (·< ·)/\(∀ y∈o,0<=y/\y<16384)/\∀ y,y∈o↔(y∈out\/y∈X.2.2)) X.2.2.length ?_ ?_ (s:=(out,0)) ⟨rfl,h1,h2,fun y=>by simp⟩
  ·obtain⟨b,e',o,rfl,q1,q2,q3⟩:=inner
   rw[e']
   refine⟨_,rfl,rfl,q1,q2,fun y=> ?_⟩
   rw[q3 y,h3 y]
   constructor
   ·rintro (⟨f,g,a1,a2⟩|a1)
    ·exact⟨f,g,(pA hk).2 (.inl a1),a2⟩
    ·exact⟨X.1,X.2.1,(pA hk).2 (.inr ⟨by rw[hX],by rw[hX],by rw[hX];exact a1⟩),g1,g2⟩
   ·rintro⟨f,g,a1,a2,a3⟩
    rcases (pA hk).1 a1 with a1|⟨rfl,rfl,a4⟩
    ·exact .inl ⟨f,g,a1,a2,a3⟩
    ·rw[hX] at a4;exact .inr a4
  ·rintro j ⟨o,jj⟩ hj ⟨e1,q1,q2,q3⟩
   simp only at e1 q1 q2 q3
   subst e1
   have ho:=rK (n:=16384) q1 q2
   left
   simp only[HX]
   rw[AA (by omega),AA (by omega),ANJ q1 (by omega),AZ,AE (by omega) (by omega)]
   refine⟨_,rfl,rfl,AUD q1,fun y hy=> ?_,fun y=> ?_⟩
   ·rcases iC.1 hy with rfl|hy
    ·exact e.2.2.2 _ (BN hj)
    ·exact q2 y hy
   ·simp only
    rw[iC,q3 y,FZ (d:=0) _ j hj,FG,HA]
    constructor
    ·rintro (a|a|a)
     ·exact .inr (.inr a)
     ·exact .inl a
     ·exact .inr (.inl a)
    ·rintro (a|a|a)
     ·exact .inr (.inl a)
     ·exact .inr (.inr a)
     ·exact .inl a
  ·rintro⟨o,jj⟩ ⟨e1,q1,q2,q3⟩
   simp only at e1 q1 q2 q3
   subst e1
   simp only
   rw[AD (by omega),AE (e:=(k:Int)+1) (by omega) (by omega)]
   rw[SD] at q3
   exact⟨_,rfl,o,rfl,q1,q2,q3⟩
 ·rintro⟨out,n,kk⟩ ⟨e1,h1,h2,h3⟩
  simp only at e1 h1 h2 h3
  subst e1
  simp only
  rw[AD (by omega)]
  rw[SD] at h3
  exact⟨_,rfl,h1,h2,h3⟩
structure aA (r:Ro):Prop where
 ul:r.1.length=32
 rl:r.2.length=32
 z:∀ i:Nat,i<32->gl false r.1 i=false->gl 0#64 r.2 i=0#64
theorem aA.valid {r:Ro} (h:aA r):HQ r=some true:=by
 have h1:=h.ul
 have h2:=h.rl
 unfold HQ
 rw[AD (by omega),AD (by omega)]
 refine hO r.1.length (fun k hk=> ?_) ?_
 ·rw[AA (by omega),AA (by omega),HX]
  cases hu:gl false r.1 k with
  |true=>rw[AD (by simp),AE (by omega) (by omega)]
  |false=>rw[AA (by simp),AA (by omega),AD (H_ (h.z k (by omega) hu)),AE (by omega) (by omega)]
 ·rw[AD (by omega)]
theorem aA.copy {r:Ro} (h:aA r):GS r=some r:=by
 have h1:=h.ul
 have h2:=h.rl
 unfold GS
 rw[AA (by simp;omega),AA (by simp;omega),tJ,tJ]
theorem aA.set {r:Ro} (h:aA r) (i:Nat) (w:BitVec 64):aA (r.1.set i true,r.2.set i w):=by
 refine⟨by rw[EW];exact h.ul,by rw[EW];exact h.rl,fun j hj hu=> ?_⟩
 simp only at hu ⊢
 have h1:=h.ul
 have h2:=h.rl
 by_cases hi:i<32
 ·rw[D5 (by omega)] at hu ⊢
  split at hu
  ·cases hu
  ·rename_i hn;rw[AD hn];exact h.z j hj hu
 ·rw[ALC (by omega)] at hu ⊢
  exact h.z j hj hu
theorem aA.clear {r:Ro} (h:aA r) {i:Nat} (hi:i<32):aA (r.1.set i false,r.2.set i 0#64):=by
 refine⟨by rw[EW];exact h.ul,by rw[EW];exact h.rl,fun j hj hu=> ?_⟩
 simp only at hu ⊢
 have h1:=h.ul
 have h2:=h.rl
 rw[D5 (by omega)] at hu ⊢
 split
 ·rfl
 ·rename_i hn;rw[AD hn] at hu;exact h.z j hj hu
theorem AUE {r:Ro} (h:aA r) {x:Int} (x0:1<=x) (x1:x<=32) (hu:gl false r.1 (x-1).toNat=true):K3 r x=some ((r.1.set (x-1).toNat false,r.2.set (x-1).toNat 0#64),0):=by
 have h1:=h.ul
 have h2:=h.rl
 unfold K3 OC
 rw[h.valid,AZ,AD (by simp),AD (by omega),AD (by omega),AE (by omega) (by omega),AA (by omega),AD (by rw[hu];simp),AZ,AD (by simp),h.copy,AZ,AA (by omega),AA (by omega)]
def liv (u:List Bool):Nat->List Int
 |0=>[]
 |k+1=>liv u k++(if gl false u k=true then [(k:Int)+1] else [])
theorem pB (u:List Bool):∀ k,(liv u k).length<=k
 |0=>EY _
 |k+1=>by
  have:=pB u k
  rw[liv,JK]
  split <;> simp only[IC,VG] <;> omega
theorem u4 {u:List Bool} {x:Int}:∀ {k},x∈liv u k↔∃ j:Nat,j<k/\gl false u j=true/\x=(j:Int)+1
 |0=>by simp [liv]
 |k+1=>by
  rw[liv,FG,u4]
  constructor
  ·rintro (⟨j,a,b,c⟩|a)
   ·exact⟨j,by omega,b,c⟩
   ·split at a
    ·rename_i hu
     exact⟨k,by omega,hu,HA.1 a⟩
    ·cases a
  ·rintro⟨j,a,b,c⟩
   by_cases hj:j=k
   ·subst hj;right;rw[AA b,c];exact HA.2 rfl
   ·exact .inl ⟨j,by omega,b,c⟩
theorem rL {r:Ro} (h:aA r):GU r=some (liv r.1 32):=by
 have h1:=h.ul
 unfold GU
 refine (AO (fun k (st:List Int×Int)=>st=(liv r.1 k,(k:Int))) (fun b=>b=liv r.1 32) r.1.length ?_ ?_ (s:=([],0)) rfl).elim fun b hb=>by rw[hb.1,hb.2]
 ·rintro k st hk rfl
  have:=pB r.1 k
  left
  simp only[HX]
  rw[AA (by omega),AA (by omega),AE (by omega) (by omega),liv]
  split
  ·rw[AA (by simp only[IC];omega)]
   exact⟨_,rfl,rfl⟩
  ·exact⟨_,rfl,by rw[HH];rfl⟩
 ·rintro st rfl
  simp only
  rw[AD (by omega),h1]
  exact⟨_,rfl,rfl⟩
def AXQ (o:Option Int):Int:=o.getD (-1)
def fwd (b:Int):BitVec 64:=BitVec.ofInt 64 (b*2+1)
theorem ANL {b:Int} (h0:0<=b) (h1:b<=16383):(fwd b).toNat=b.toNat*2+1:=by
 unfold fwd
 rw[vK]
 omega
theorem AKW {b:Int} (h0:0<=b) (h1:b<=16383):hd (fwd b)=none:=by
 unfold hd
 rw[AA (by rw[ANL h0 h1];omega)]
def B3 (l:List AH):List Int:=l.map (·.1)
def AZG (C:List Int) (fs:List Fr) (w:BitVec 64):Prop:=∀ j,j<64->w.getLsbD j=decide (j<fs.length/\(fr fs j).1∈C)
def Wn (C:List Int) (s:Sp) (x:BitVec 64):Prop:=x≠0#64/\(x.toNat:Int)<=s.2.1.length/\(fr s.2.2 (((x.toNat:Int)-1) / sz s.1)).1∈C
instance (C:List Int) (s:Sp) (x:BitVec 64):Decidable (Wn C s x):=by unfold Wn;infer_instance
theorem NL {x:BitVec 64} (h:x≠0#64):(x-1#64).toNat=x.toNat-1/\1<=x.toNat:=by
 have h1:x.toNat≠0:=fun he=>h (ACB (by rw[he];rfl))
 have o1:(1#64).toNat=1:=rfl
 exact⟨by rw[BitVec.toNat_sub_of_le (by rw[BitVec.le_def,o1];omega),o1],by omega⟩
def cpy (z:Int) (la:List Int) (oa:Int) (lb:List Int) (ob:Int):Nat->List (BitVec 64)->List (BitVec 64)
 |0,ws=>ws
 |k+1,ws=>(cpy z la oa lb ob k ws).set (AXQ (DY z lb (ob+k))).toNat (gl 0#64 (cpy z la oa lb ob k ws) (AXQ (DY z la (oa+k))).toNat)
theorem aB {z:Int} {la lb:List Int} {oa ob:Int}:∀ (k:Nat) (ws:List (BitVec 64)),(cpy z la oa lb ob k ws).length=ws.length
 |0,_=>rfl
 |k+1,ws=>by simp only[cpy,EW,aB k ws]
structure Cy (C:List Int) (s:Sp) (to:AH):Prop where
 vs:VS s
 fit:EJ s to
 own:to.2.2.2.2=0->owned s.2.2 to.1=[]
 out:to.1∉C
 nn:∀ q∈C,0<=q
abbrev hwd (s:Sp) (x:BitVec 64):BitVec 64:=gl 0#64 s.2.1 ((x.toNat:Int)-1).toNat
def dcd (w:BitVec 64):Int×Int×Int×Bool×Int:=
 if w.toNat%2=1 then (if w.toNat / 2≥16384 then (0,0,0,false,12) else (0,0,((w.toNat / 2:Nat):Int),true,0))
 else match hd w with
  |some o=>(o.1,o.2,0,false,0)
  |none=>(0,0,0,false,12)
theorem u5 (w:BitVec 64):ED w=some (dcd w):=by
 have hw:=w.isLt
 have e2:(w%2#64).toNat=w.toNat%2:=by rw[AF9];rfl
 have e2' :(w%2#64=1#64)↔w.toNat%2=1:=by
  rw[<-BitVec.toNat_inj,e2];rfl
 have d2:(w / 2#64).toNat=w.toNat / 2:=by rw[vR];rfl
 have A1R:(w / 256#64).toNat=w.toNat / 256:=by rw[vR];rfl
 have A1S:(w%256#64 / 2#64).toNat=w.toNat%256 / 2:=by rw[vR,AF9];rfl
 unfold ED dcd
 rw[AA (by decide)]
 by_cases h1:w.toNat%2=1
 ·rw[AA (e2'.2 h1),AA (by decide),AA h1,d2,show (16384#64).toNat=16384 from rfl]
  split
  ·rfl
  ·rw[AA (by decide),AE (by omega) (by omega)]
 ·rw[AD (fun h=>h1 (e2'.1 h)),AD h1,AA (by decide),AA (by decide),AA (by decide),A1R,A1S,show (48#64).toNat=48 from rfl]
  unfold hd
  rw[AD h1]
  by_cases h2:w.toNat / 256>48
  ·rw[AA h2,AD (by omega)]
  rw[AD h2,AE (e:=((w.toNat%256 / 2:Nat):Int)) (by omega) (by omega),AE (e:=((w.toNat / 256:Nat):Int)) (by omega) (by omega)]
  by_cases h3:((w.toNat%256 / 2:Nat):Int)>15
  ·rw[AA h3,AD (by omega)]
  rw[AD h3,AE (e:=(1:Int)+((w.toNat%256 / 2:Nat):Int)) (by omega) (by omega)]
  by_cases h4:((w.toNat / 256:Nat):Int)<1+((w.toNat%256 / 2:Nat):Int)
  ·rw[AA h4,AD (by omega)]
  rw[AD h4,AE (e:=((w.toNat / 256:Nat):Int)-1) (by omega) (by omega),AE (e:=((w.toNat / 256:Nat):Int)-1-((w.toNat%256 / 2:Nat):Int)) (by omega) (by omega)]
  by_cases h5:((w.toNat / 256:Nat):Int)-1-((w.toNat%256 / 2:Nat):Int)>32
  ·rw[AA h5,AD (by omega)]
  rw[AD h5,AA (by omega)]
  simp only[BA,DH,and_true,mZ]
  omega
theorem yM {w:BitVec 64} {o:Int×Int} (h:hd w=some o):dcd w=(o.1,o.2,0,false,0):=by
 unfold dcd
 rw[AD,h]
 intro h1
 unfold hd at h
 rw[AA h1] at h
 cases h
theorem AXR {b:Int} (h0:0<=b) (h1:b<=16383):dcd (fwd b)=(0,0,b,true,0):=by
 unfold dcd
 have:=ANL h0 h1
 rw[AA (by omega),AD (by omega)]
 simp only[DH,and_true,mZ]
 omega
theorem AHY {b:Int} (h0:0<=b) (h1:b<=16383):EX b=some (fwd b,0):=by
 unfold EX fwd
 rw[AD (by omega),AD (by omega),AE (e:=2*b) (by omega) (by omega),AE (by omega) (by omega),AAJ]
inductive MvR (C:List Int) (s:Sp) (to:AH) (x:BitVec 64):BitVec 64->Int->Sp->AH->List (Int×Int)->Prop
 |out (h:¬Wn C s x):MvR C s to x x 0 s to []
 |AUF (h:Wn C s x) (h0:(dcd (hwd s x)).2.2.2.2=0) (h1:(dcd (hwd s x)).2.2.2.1=true):MvR C s to x (BitVec.ofInt 64 (dcd (hwd s x)).2.2.1+1#64) 0 s to []
 |bad (h:Wn C s x) (h0:(dcd (hwd s x)).2.2.2.2≠0):MvR C s to x 0#64 12 s to []
 |AUG (h:Wn C s x) {r d:Int} (hh:hd (hwd s x)=some (r,d)) {la:List Int} (hl:Pa s.2.2 (((x.toNat:Int)-1) / sz s.1) la) (ha:DY (sz s.1) la (((x.toNat:Int)-1)%sz s.1+(r+d))=none):MvR C s to x 0#64 12 s to []
 |full (h:Wn C s x) {r d:Int} (hh:hd (hwd s x)=some (r,d)) {la:List Int} (hl:Pa s.2.2 (((x.toNat:Int)-1) / sz s.1) la) {e:Int} (ha:DY (sz s.1) la (((x.toNat:Int)-1)%sz s.1+(r+d))=some e)
   (hf:((DX s.2.2).length:Int)<cl (sz s.1) (to.2.2.2.2+(1+r+d))-cl (sz s.1) to.2.2.2.2):MvR C s to x 0#64 4 s to []
 |ABW (h:Wn C s x) {r d:Int} (hh:hd (hwd s x)=some (r,d)) {la:List Int} (hl:Pa s.2.2 (((x.toNat:Int)-1) / sz s.1) la) {e:Int} (ha:DY (sz s.1) la (((x.toNat:Int)-1)%sz s.1+(r+d))=some e)
   {u:Sp} {zA :AH} {b:Int} {l l' :List Int} (hg:Grown s to (1+r+d) u zA b l l'):
   MvR C s to x (BitVec.ofInt 64 b+1#64) 0 (s.1,(cpy (sz s.1) la (((x.toNat:Int)-1)%sz s.1) l' to.2.2.2.2 (1+r+d).toNat s.2.1).set ((x.toNat:Int)-1).toNat (fwd b),u.2.2) zA [((x.toNat:Int)-1,b)]
theorem SB {s:Sp} (h:VS s) {l:List Int} {i off a:Int} (hp:Pa s.2.2 i l) (h0:0<=off) (ha:DY (sz s.1) l off=some a):(0<=a/\a<s.2.1.length)/\a / sz s.1∈l:=by
 have z:=CM s.1
 have hm:=XD z h0 ha
 obtain⟨g0,g1⟩:=hp.mem hm
 have e1:a=a / sz s.1*sz s.1+a%sz s.1:=by rw[AAJ];exact (ALH a (sz s.1)).symm
 have m0:=mW a (show sz s.1≠0 by omega)
 have m1:=rQ a z
 have e2:0<=a / sz s.1*sz s.1:=AFG g0 (by omega)
 have e3:(a / sz s.1+1)*sz s.1<=s.2.2.length*sz s.1:=AEV (by omega) (by omega)
 rw[<-h.w,v_] at e3
 exact⟨⟨by omega,by omega⟩,hm⟩
theorem AHZ {z:Int} (hz:0<z) {l:List Int} {p q e:Int} (h:DY z l q=some e) (p0:0<=p) (pq:p<=q):∃ y,DY z l p=some y:=by
 have:=ADY hz (by omega) h
 obtain⟨g,_,hg⟩:=TR hz (l:=l) (off:=p) p0 (by omega)
 exact⟨_,hg⟩
theorem Grown.AUH {s:Sp} {i:AH} {n:Int} {u:Sp} {j:AH} {b:Int} {l l' :List Int} (hi:0<=i.2.2.2.2) (n0:1<=n) (g:Grown s i n u j b l l'):∀ x∈l',(fr u.2.2 x).1=i.1:=by
 intro x hx
 have h1:=(g.vs.owner g.path x hx).1
 rcases g.fit.2 with ⟨h2,_⟩|⟨_,_,h2,_⟩
 ·rw[g.words] at h2;omega
 ·rw[h1,h2,g.seq]
theorem Grown.AKX {s:Sp} {i:AH} {n:Int} {u:Sp} {j:AH} {b:Int} {l l' :List Int} (hi:0<=i.2.2.2.2) (n0:1<=n) (g:Grown s i n u j b l l') {k:Int} (k0:0<=k) (kn:k<n):
  ∃ y,DY (sz s.1) l' (i.2.2.2.2+k)=some y:=by
 have z:=CM s.1
 have hc:=OX (n:=i.2.2.2.2+n) z
 rw[<-g.A1A] at hc
 obtain⟨g',_,hg⟩:=TR z (l:=l') (off:=i.2.2.2.2+k) (by omega) (by omega)
 exact⟨_,hg⟩
theorem Grown.AUI {s:Sp} {i:AH} {n:Int} {u:Sp} {j:AH} {b:Int} {l l' :List Int} (h:VS s) (g:Grown s i n u j b l l') {f:Int} {la:List Int} (hl:Pa s.2.2 f la) (h0:0<=(fr s.2.2 f).1) (h1:(fr s.2.2 f).1≠i.1):
  Pa u.2.2 f la/\∀ x∈la,fr u.2.2 x=fr s.2.2 x:=by
 have hx:∀ x∈la,fr u.2.2 x=fr s.2.2 x:=by
  intro x hx
  obtain⟨x0,x1⟩:=hl.mem hx
  have:=(h.owner hl x hx).1
  exact g.frs x x0 x1 (by omega) (by omega)
 refine⟨hl.mE g.len fun x hm=> ?_,hx⟩
 obtain⟨x0,x1⟩:=hl.mem hm
 rw[I4 x0 (by rw[g.len];exact x1),I4 x0 x1,hx x hm]
theorem MvR.cy {C:List Int} {s:Sp} {to:AH} (hc:Cy C s to) {x v:BitVec 64} {e:Int} {t:Sp} {zA :AH} {mm:List (Int×Int)} (h:MvR C s to x v e t zA mm):
  Cy C t zA /\(∀ m,AZG C s.2.2 m->AZG C t.2.2 m)/\t.1=s.1/\t.2.1.length=s.2.1.length/\t.2.2.length=s.2.2.length/\zA.1=to.1/\mm.length<=1/\(∀ k:Int,0<=k->k<s.2.2.length->((fr t.2.2 k).1∈C↔(fr s.2.2 k).1∈C)):=by
 cases h with
 |out|AUF|bad|AUG|full=>exact⟨hc,fun _ h=>h,rfl,rfl,rfl,rfl,by simp,fun _ _ _=>m9⟩
 | @ABW hw r d hh la hl e' ha u _ b l l' g=>
  have z:=CM s.1
  have hto:=hc.fit.1
  obtain⟨x0,x1,x2⟩:=id hw
  have e2:=(NL x0).2
  obtain⟨⟨r0,r1⟩,d0,d1⟩:=Z9 hh
  simp only at r0 r1 d0 d1
  generalize hA:(x.toNat:Int)-1=A at*
  have hq:=hc.nn _ x2
  have CU:(fr s.2.2 (A / sz s.1)).1≠to.1:=fun he=>hc.out (he ▸ x2)
  obtain⟨pu,pfr⟩:=g.AUI hc.vs hl hq CU
  have OU:=g.AUH hto.2.2.2.2.1 (by omega)
  have hvu:VS (s.1,s.2.1,u.2.2):=by have:=g.vs;rw[<-g.sh,←g.ws];exact this
  have MY:∀ k:Int,0<=k->k<s.2.2.length->((fr u.2.2 k).1∈C↔(fr s.2.2 k).1∈C):=by
   intro k k0 k1
   constructor
   ·intro hk
    have h1:(fr u.2.2 k).1≠to.1:=fun he=>hc.out (he ▸ hk)
    have h2:=hc.nn _ hk
    have h3:k∈owned u.2.2 (fr u.2.2 k).1:=CB.2 ⟨⟨k0,by rw[g.len];exact k1⟩,rfl⟩
    rw[g.oth _ h1 (by omega)] at h3
    rw[(CB.1 h3).2];exact hk
   ·intro hk
    have h1:(fr s.2.2 k).1≠to.1:=fun he=>hc.out (he ▸ hk)
    have h2:=hc.nn _ hk
    rw[g.frs k k0 k1 (by omega) h1];exact hk
  have hvc:∀ k:Nat,(k:Int)<=1+r+d->VS (s.1,cpy (sz s.1) la (A%sz s.1) l' to.2.2.2.2 k s.2.1,u.2.2):=by
   intro k
   induction k with
   |zero=>intro _;exact hvu
   |succ k ih=>
    intro hk
    have h4:=ih (by omega)
    obtain⟨p,hp⟩:=g.AKX hto.2.2.2.2.1 (by omega) (k:=(k:Int)) (by omega) (by omega)
    obtain⟨⟨p0,p1⟩,p2⟩:=SB h4 g.path (by omega) hp
    simp only at p2
    simp only[cpy]
    rw[hp]
    exact h4.word p0 (by simp only;rw[OU _ p2];omega) _
  have hv1:=hvc (1+r+d).toNat (by omega)
  have hAm:A / sz s.1∈la:=by
   cases la with
   |nil=>rw[Pa] at hl;have:=HU hc.vs (a:=A) (by omega) (by omega);omega
   |cons f r' =>obtain⟨hf,_⟩:=hl;rw[hf];simp
  have hv2:=hv1.word (x:=A) (by omega) (by simp only;rw[pfr _ hAm];omega) (fwd b)
  simp only at hv2
  refine⟨⟨hv2, ?_, ?_,by rw[g.seq];exact hc.out,hc.nn⟩, ?_,rfl, ?_,g.len,g.seq,by simp,MY⟩
  ·have:=EJ.words (s:=u) (ws:=(cpy (sz s.1) la (A%sz s.1) l' to.2.2.2.2 (1+r+d).toNat s.2.1).set A.toNat (fwd b)) (by rw[EW,aB,g.ws]) g.fit
   rw[g.sh] at this
   exact this
  ·intro h0
   rw[g.words] at h0;omega
  ·intro m hm j hj
   rw[hm j hj,tI]
   simp only[g.len]
   constructor
   ·rintro⟨h1,h2⟩;exact⟨h1,(MY j (by omega) (by omega)).2 h2⟩
   ·rintro⟨h1,h2⟩;exact⟨h1,(MY j (by omega) (by omega)).1 h2⟩
  ·simp only[EW,aB]
theorem AI0 {α:Type} {d x:α} {xs:List α} {j k:Nat} (h:k≠j):gl d (xs.set j x) k=gl d xs k:=by
 by_cases hj:j<xs.length
 ·rw[D5 hj,AD h]
 ·rw[ALC (by omega)]
theorem rM {z:Int} {la:List Int} {oa:Int} {lb:List Int} {ob j:Int} (j0:0<=j):∀ {k:Nat} {ws:List (BitVec 64)},(∀ i:Nat,i<k->∃ y,DY z lb (ob+i)=some y/\0<=y/\y≠j)->gl 0#64 (cpy z la oa lb ob k ws) j.toNat=gl 0#64 ws j.toNat
 |0,_,_=>rfl
 |k+1,ws,h=>by
  obtain⟨y,h1,h2,h3⟩:=h k (by omega)
  simp only[cpy]
  rw[h1,AI0 (by show j.toNat≠y.toNat;omega),rM j0 fun i hi=>h i (by omega)]
theorem AUJ {z:Int} (hz:0<z) {la:List Int} {oa:Int} {lb:List Int} {ob:Int} (JE:lb.Nodup) (ob0:0<=ob):∀ {k:Nat} {ws:List (BitVec 64)},(∀ i:Nat,i<k->∃ y x,DY z lb (ob+i)=some y/\(0<=y/\y<ws.length)/\DY z la (oa+i)=some x/\0<=x/\∀ i' :Nat,i' <k->DY z lb (ob+i')≠some x)→
  ∀ i:Nat,i<k->∀ y x,DY z lb (ob+i)=some y->DY z la (oa+i)=some x->gl 0#64 (cpy z la oa lb ob k ws) y.toNat=gl 0#64 ws x.toNat
 |0,_,_,i,hi,_,_,_,_=>by omega
 |k+1,ws,h,i,hi,y,x,hy,hx=>by
  obtain⟨y',x',h1,⟨h2,h3⟩,h4,h5,h6⟩:=h k (by omega)
  simp only[cpy]
  rw[h1,h4,show AXQ (some y')=y' from rfl,show AXQ (some x')=x' from rfl]
  by_cases gS:i=k
  ·subst gS
   rw[h1] at hy;rw[h4] at hx
   obtain rfl:=XW hy
   obtain rfl:=XW hx
   rw[D5 (by rw[aB];omega),AA rfl]
   refine rM h5 fun i' LQ => ?_
   obtain⟨y2,x2,g1,⟨g2,g3⟩,g4,g5,g6⟩:=h i' (by omega)
   exact⟨y2,g1,g2,fun he=>h6 i' (by omega) (he ▸ g1)⟩
  ·obtain⟨y2,x2,g1,⟨g2,g3⟩,g4,g5,g6⟩:=h i hi
   rw[hy] at g1
   obtain rfl:=XW g1
   have CU:y≠y' :=by
    intro he
    subst he
    have:=K_ hz JE (by omega) (by omega) hy h1
    omega
   rw[AI0 (by omega)]
   refine AUJ hz JE ob0 (fun i' LQ => ?_) i (by omega) y x hy hx
   obtain⟨y3,x3,k1,k2,k3,k4,k5⟩:=h i' (by omega)
   exact⟨y3,x3,k1,k2,k3,k4,fun i'' A7S =>k5 i'' (by omega)⟩
theorem AI1 {C:List Int} {s:Sp} {to:AH} (hc:Cy C s to) {x:BitVec 64} (hw:Wn C s x) {r d:Int} (hh:hd (hwd s x)=some (r,d)) {la:List Int} (hl:Pa s.2.2 (((x.toNat:Int)-1) / sz s.1) la) {e:Int} (ha:DY (sz s.1) la (((x.toNat:Int)-1)%sz s.1+(r+d))=some e)
  {u:Sp} {zA :AH} {b:Int} {l l' :List Int} (hg:Grown s to (1+r+d) u zA b l l') {ws:List (BitVec 64)} (hws:ws=(cpy (sz s.1) la (((x.toNat:Int)-1)%sz s.1) l' to.2.2.2.2 (1+r+d).toNat s.2.1).set ((x.toNat:Int)-1).toNat (fwd b)):
  (∀ j:Int,0<=j->j≠(x.toNat:Int)-1->(∀ i,0<=i->i<1+r+d->DY (sz s.1) l' (to.2.2.2.2+i)≠some j)->gl 0#64 ws j.toNat=gl 0#64 s.2.1 j.toNat)∧
  (∀ i,0<=i->i<1+r+d->∀ y q,DY (sz s.1) l' (to.2.2.2.2+i)=some y->DY (sz s.1) la (((x.toNat:Int)-1)%sz s.1+i)=some q->gl 0#64 ws y.toNat=gl 0#64 s.2.1 q.toNat)∧
  gl 0#64 ws ((x.toNat:Int)-1).toNat=fwd b∧
  (∀ y i,DY (sz s.1) l' i=some y->0<=i->(fr s.2.2 (y / sz s.1)).1∉C):=by
 have z:=CM s.1
 have hto:=hc.fit.1
 obtain⟨x0,x1,x2⟩:=id hw
 have e2:=(NL x0).2
 obtain⟨⟨r0,r1⟩,d0,d1⟩:=Z9 hh
 simp only at r0 r1 d0 d1
 generalize hA:(x.toNat:Int)-1=A at*
 have hq:=hc.nn _ x2
 have CU:(fr s.2.2 (A / sz s.1)).1≠to.1:=fun he=>hc.out (he ▸ x2)
 obtain⟨pu,pfr⟩:=hg.AUI hc.vs hl hq CU
 have OU:=hg.AUH hto.2.2.2.2.1 (by omega)
 have hvu:VS (s.1,s.2.1,u.2.2):=by have:=hg.vs;rw[<-hg.sh,←hg.ws];exact this
 have m0:=mW A (show sz s.1≠0 by omega)
 have ARR:∀ y i,DY (sz s.1) l' i=some y->0<=i->(fr s.2.2 (y / sz s.1)).1∉C:=by
  intro y i hy i0 hC
  obtain⟨_,hm⟩:=SB hvu hg.path i0 hy
  simp only at hm
  have h1:=OU _ hm
  obtain⟨f0,f1⟩:=hg.path.mem hm
  rw[hg.len] at f1
  have h3:=hc.nn _ hC
  by_cases h4:(fr s.2.2 (y / sz s.1)).1=to.1
  ·exact hc.out (h4 ▸ hC)
  ·have:=hg.frs _ f0 f1 (by omega) h4
   rw[this] at h1;exact h4 h1
 have hla:∀ q i,DY (sz s.1) la i=some q->0<=i->(fr s.2.2 (q / sz s.1)).1∈C/\0<=q:=by
  intro q i hy i0
  obtain⟨hr,hm⟩:=SB hc.vs hl i0 hy
  rw[(hc.vs.owner hl _ hm).1];exact⟨x2,hr.1⟩
 have AUK:∀ i:Nat,(i:Int)<1+r+d->∃ y,DY (sz s.1) l' (to.2.2.2.2+i)=some y/\0<=y/\y<s.2.1.length:=by
  intro i hi
  obtain⟨y,hy⟩:=hg.AKX hto.2.2.2.2.1 (by omega) (k:=(i:Int)) (by omega) hi
  obtain⟨⟨y0,y1⟩,_⟩:=SB hvu hg.path (by omega) hy
  exact⟨y,hy,y0,y1⟩
 have JE:=hg.path.nodup
 have hAC:∀ i,0<=i->DY (sz s.1) l' i≠some A:=fun i i0 hi=>ARR _ _ hi i0 x2
 subst hws
 refine⟨fun j j0 j1 j2=> ?_,fun i i0 i1 y q hy QW => ?_, ?_,ARR⟩
 ·rw[AI0 (by omega)]
  refine rM j0 fun i hi=> ?_
  obtain⟨y,g1,g2,g3⟩:=AUK i (by omega)
  exact⟨y,g1,g2,fun he=>j2 i (by omega) (by omega) (he ▸ g1)⟩
 ·have hyA:y≠A:=fun he=>hAC _ (by omega) (he ▸ hy)
  obtain⟨⟨y0,y1⟩,_⟩:=SB hvu hg.path (by omega) hy
  rw[AI0 (by omega)]
  have hi:((i.toNat:Nat):Int)=i:=by omega
  refine AUJ z JE hto.2.2.2.2.1 (fun i' LQ => ?_) i.toNat (by omega) y q (by rw[hi];exact hy) (by rw[hi];exact QW)
  obtain⟨y',g1,g2,g3⟩:=AUK i' (by omega)
  obtain⟨q',k1⟩:=AHZ z ha (p:=A%sz s.1+i') (by omega) (by omega)
  obtain⟨k2,k3⟩:=hla _ _ k1 (by omega)
  exact⟨y',q',g1,⟨g2,g3⟩,k1,k3,fun i'' _ he=>ARR _ _ he (by omega) k2⟩
 ·rw[D5 (by rw[aB];omega),AA rfl]
theorem mH {s:Sp} (h:VS s) {l:List AH} (hl:l.length<=1000000) (x:BitVec 64):DM s l x=some (decide (Wn (B3 l) s x)):=by
 have pQ:=VS.PO h
 have hn:=h.n.2
 have z:=CM s.1
 unfold DM
 by_cases hx:x=0#64
 ·rw[AA hx,NZ (fun hh:Wn (B3 l) s x=>hh.1 hx)]
 obtain⟨e1,e2⟩:=NL hx
 have e3:(BitVec.ofInt 64 ((s.2.1.length:Nat):Int)).toNat=s.2.1.length:=by
  rw[vK];omega
 rw[AD hx,e3,e1]
 by_cases hl' :x.toNat>s.2.1.length
 ·rw[AA hl',NZ (fun hh:Wn (B3 l) s x=>by have:=hh.2.1;omega)]
 obtain⟨f0,f1⟩:=HU h (a:=(x.toNat:Int)-1) (by omega) (by omega)
 have e4:((x.toNat-1:Nat):Int)=(x.toNat:Int)-1:=by omega
 rw[AD hl',AA trivial,e4,AE (e:=(x.toNat:Int)-1) (by omega) (by omega),P4 h.sh,AA ⟨f0,f1⟩]
 have hf:(gl ((0,0,0):Fr) s.2.2 (((x.toNat:Int)-1) / sz s.1).toNat)=fr s.2.2 (((x.toNat:Int)-1) / sz s.1):=rfl
 rw[hf]
 have hwn:Wn (B3 l) s x↔(fr s.2.2 (((x.toNat:Int)-1) / sz s.1)).1∈B3 l:=⟨fun hh=>hh.2.2,fun hh=>⟨hx,by omega,hh⟩⟩
 have AS6:∀ k,k<l.length->gl 0 (B3 l) k=(gl ((0,0,0,0,0):AH) l k).1:=by
  intro k hk
  rw[D8 (by unfold B3;rw[RG];exact hk),D8 hk]
  unfold B3
  rw[vM]
 have QO:(B3 l).length=l.length:=by unfold B3;rw[RG]
 generalize (fr s.2.2 (((x.toNat:Int)-1) / sz s.1)).1=q at*
 obtain⟨h1,h2⟩:=YZ (β:=Bool) (ys:=B3 l) (v:=q) (bad:=true) (r:=false) (f:=fun s1=>
  if s1<(l.length:Int) then
  if 0<=s1/\s1<(l.length:Int) then
  if q=((gl ((0,0,0,0,0):AH) l s1.toNat).1) then
  some (Sum.inr (true))
  else some (Sum.inl (AG (s1+1)))
  else none
  else some (Sum.inr (false))) (fun k hk=>by
   simp only[HX]
   rw[AA (by omega),AA (by omega),AE (by omega) (by omega),AS6 k (by omega)]
   by_cases he:q=(gl ((0,0,0,0,0):AH) l k).1
   ·rw[AA he,AA he.symm]
   ·rw[AD he,AD (fun h=>he h.symm)]) (fun _=>by
   rw[AD (by omega)])
 by_cases hq:q∈B3 l
 ·rw[IV (hwn.2 hq)];exact h1 hq
 ·rw[NZ (fun hh=>hq (hwn.1 hh))];exact h2 hq
abbrev Wk:Type:=Sp×List AH×AH×List (Int×Int)×Int
theorem ABX {w:Wk} (h:w.2.2.2.2≠0) (x:BitVec 64):CG w x=some (x,w):=by
 unfold CG
 rw[AA h]
theorem AI2 {l:List AH} (yD:l.length<=1000000) {s:Sp} {to:AH} (hc:Cy (B3 l) s to) {mv:List (Int×Int)} (hmv:mv.length<=1000000) (x:BitVec 64):
  ∃ v v' e t zA mm,MvR (B3 l) s to x v e t zA mm/\CG ((s,l,to,mv,0):Wk) x=some (v',((t,l,zA,mv++mm,e):Wk))/\(e=0->v' =v):=by
 have pQ:=VS.PO hc.vs
 have hn:=hc.vs.n.2
 have z:=CM s.1
 obtain⟨z1,z2⟩:=LF hc.vs.sh
 have hto:=hc.fit.1
 unfold CG
 rw[AD (by simp)]
 simp only
 rw[mH hc.vs yD,AZ]
 by_cases hw:Wn (B3 l) s x
 rotate_left
 ·rw[NZ hw,AA (show (!false)=true from rfl)]
  exact⟨x,x,0,s,to,[],.out hw,by rw[HH],fun _=>rfl⟩
 rw[IV hw]
 obtain⟨x0,x1,x2⟩:=id hw
 obtain⟨e1,e2⟩:=NL x0
 have e4:((x.toNat-1:Nat):Int)=(x.toNat:Int)-1:=by omega
 rw[AD (show ¬(!true)=true by decide),e1,e4,AE (e:=(x.toNat:Int)-1) (by omega) (by omega)]
 generalize hA:(x.toNat:Int)-1=A at x2
 have A0:0<=A:=by omega
 have A1:A<s.2.1.length:=by omega
 rw[AA ⟨A0,A1⟩]
 have hA' :hwd s x=gl 0#64 s.2.1 A.toNat:=by rw[<-hA]
 rw[u5,AZ]
 obtain⟨f0,f1⟩:=HU hc.vs A0 A1
 obtain⟨la,hl⟩:=hc.vs.acy (A / sz s.1) f0 f1
 have m0:=mW A (show sz s.1≠0 by omega)
 have hq:=hc.nn _ x2
 have ANM:=kS hc.vs A0 A1 (by omega) (k:=0) (by omega) (by omega) hl
 rw[aJ] at ANM
 have A6Y:∃ y,DY (sz s.1) la (A%sz s.1)=some y:=by
  cases la with
  |nil=>rw[Pa] at hl;omega
  |cons f r' =>exact⟨_,by rw[DY,AA (rQ A z)]⟩
 obtain⟨y0,hy0⟩:=A6Y
 rw[hy0] at ANM
 have hLk:∀ o:Int×Int,hd (gl 0#64 s.2.1 A.toNat)=some o->BW s A=some (match DY (sz s.1) la (A%sz s.1+(o.1+o.2)) with|none=>(0,0,2)|some _=>(o.1,o.2,0)):=by
  intro o ho
  obtain⟨⟨r0,r1⟩,d0,d1⟩:=Z9 ho
  unfold BW
  rw[ANM,AZ,AD (by simp [cK]),AA ⟨A0,A1⟩,u5,AZ,yM ho,AD (by simp),AD (by simp),AE (by simp only;omega) (by simp only;omega),kS hc.vs A0 A1 (by omega) (k:=o.1+o.2) (by omega) (by omega) hl,AZ]
  cases DY (sz s.1) la (A%sz s.1+(o.1+o.2)) with
  |none=>rw[AA (by simp [cK])]
  |some y=>rw[AD (by simp [cK])]
 cases hh:hd (gl 0#64 s.2.1 A.toNat) with
 |none=>
  have rJ:dcd (gl 0#64 s.2.1 A.toNat)=(0,0,0,false,12)\/∃ b,dcd (gl 0#64 s.2.1 A.toNat)=(0,0,b,true,0):=by
   unfold dcd
   rw[hh]
   split
   ·split
    ·exact .inl rfl
    ·exact .inr ⟨_,rfl⟩
   ·exact .inl rfl
  rcases rJ with hb|⟨b,hb⟩
  ·rw[hb,AD (by simp)]
   have:BW s A=some (0,0,12):=by
    unfold BW
    rw[ANM,AZ,AD (by simp [cK]),AA ⟨A0,A1⟩,u5,AZ,hb,AA (by simp)]
   rw[this,AZ,AA (by simp)]
   exact⟨0#64,x,12,s,to,[],.bad hw (by rw[hA',hb];simp),by rw[HH],fun h=>by cases h⟩
  ·rw[hb,AA rfl,AA rfl]
   have UA :0<=b/\b<=16383:=by
    unfold dcd at hb
    rw[hh] at hb
    split at hb
    ·split at hb
     ·simp at hb
     ·simp only[DH,and_true,mZ] at hb
      omega
    ·simp at hb
   refine⟨_,_,0,s,to,[],.AUF hw (by rw[hA',hb]) (by rw[hA',hb]),by rw[HH],fun _=> ?_⟩
   rw[hA',hb]
   simp only
   rw[AE (by omega) (by omega)]
   exact BitVec.ofInt_add b 1
 |some o=>
  obtain⟨r,d⟩:=o
  obtain⟨⟨r0,r1⟩,d0,d1⟩:=Z9 hh
  simp only at r0 r1 d0 d1
  rw[yM hh,AA rfl,AD (by simp),hLk _ hh]
  simp only
  cases had:DY (sz s.1) la (A%sz s.1+(r+d)) with
  |none=>
   simp only
   rw[AZ,AA (by simp)]
   exact⟨0#64,x,12,s,to,[],.AUG hw (by rw[hA'];exact hh) (by rw[hA];exact hl) (by rw[hA];exact had),by rw[HH],fun h=>by cases h⟩
  |some e=>
   simp only
   rw[AZ,AD (by simp)]
   simp only
   rw[AE (e:=1+r) (by omega) (by omega),AE (e:=1+r+d) (by omega) (by omega),AE (e:=r+d) (by omega) (by omega)]
   rcases AE2 hc.vs hc.fit hc.own (n:=1+r+d) (by omega) (by omega) with ⟨g1,g2⟩|⟨g1,u,zA,b,l1,l',g2,g⟩
   ·rw[g2,AZ,AA (by simp)]
    exact⟨0#64,x,4,s,to,[],.full hw (by rw[hA'];exact hh) (by rw[hA];exact hl) (by rw[hA];exact had) g1,by rw[HH],fun h=>by cases h⟩
   ·rw[g2,AZ,AD (by simp)]
    simp only[g.ws]
    obtain⟨pu,pfr⟩:=g.AUI hc.vs hl hq (fun he=>hc.out (he ▸ x2))
    have OU:=g.AUH hto.2.2.2.2.1 (by omega)
    have uK:=g.sh
    have hb:=SB (s:=u) g.vs g.path hto.2.2.2.2.1 (by rw[uK];exact g.J9)
    rw[g.ws] at hb
    have hAm:A / sz s.1∈la:=by
     cases la with
     |nil=>rw[Pa] at hl;omega
     |cons f r' =>obtain⟨hf,_⟩:=hl;rw[hf];simp
    have hvu:VS (s.1,s.2.1,u.2.2):=by have:=g.vs;rw[<-uK,←g.ws];exact this
    have uJ:(fr u.2.2 (b / sz s.1)).1=to.1:=OU _ (by rw[<-uK];exact hb.2)
    have hbz:b%sz s.1+0=b%sz s.1:=aJ _
    obtain⟨lb,q1,_,q2⟩:=QL z g.path hto.2.2.2.2.1 g.J9 (bC 0)
    have key:∃ bb,AI (σ:=Int×List (BitVec 64)) (β:=BitVec 64×Wk) (fun s1=>
      if s1.1<=r+d then
      Option.bind (BF (s.1,s1.2,u.2.2) A s1.1) (fun r5=>
      Option.bind (BF (s.1,s1.2,u.2.2) b s1.1) (fun r6=>
      if 0<=r5.1/\r5.1<(s1.2.length:Int) then
      if 0<=r6.1/\r6.1<(s1.2.length:Int) then
      some (Sum.inl ((AG (s1.1+1),s1.2.set r6.1.toNat (gl (0#64:(BitVec 64)) s1.2 r5.1.toNat))))
      else none
      else none))
      else Option.map Sum.inr (Option.bind (EX b) (fun r7=>
      if 0<=A/\A<(s1.2.length:Int) then
      if (mv.length+([(A,b)]:List (Int×Int)).length)*16<=140737488355328 then
      some ((BitVec.ofInt 64 (AG (b+1)),((s.1,s1.2.set A.toNat r7.1,u.2.2),l,zA,mv++([(A,b)]:List (Int×Int)),(0:Int))))
      else none
      else none))) ((0,s.2.1))=some bb/\bb=(BitVec.ofInt 64 b+1#64,(((s.1,(cpy (sz s.1) la (A%sz s.1) l' to.2.2.2.2 (1+r+d).toNat s.2.1).set A.toNat (fwd b),u.2.2),l,zA,mv++ [(A,b)],0):Wk)):=by
     refine AO (fun k (st:Int×List (BitVec 64))=>st.1=(k:Int)/\(k:Int)<=1+r+d/\st.2=cpy (sz s.1) la (A%sz s.1) l' to.2.2.2.2 k s.2.1/\VS (s.1,st.2,u.2.2)) _ (1+r+d).toNat ?_ ?_ ⟨rfl,by omega,rfl,hvu⟩
     ·rintro k ⟨i,ws⟩ hk ⟨h1,h2,h3,h4⟩
      simp only at h1 h3 h4 ⊢
      subst h1
      have hlen:ws.length=s.2.1.length:=by rw[h3,aB]
      obtain⟨p,hp⟩:=g.AKX hto.2.2.2.2.1 (by omega) (k:=(k:Int)) (by omega) (by omega)
      obtain⟨q,QW⟩:=AHZ z had (p:=A%sz s.1+k) (by omega) (by omega)
      obtain⟨⟨p0,p1⟩,p2⟩:=SB h4 g.path (by omega) hp
      obtain⟨⟨q0,q1'⟩,q2'⟩:=SB h4 pu (by omega) QW
      simp only at p1 q1' p2
      have go1:=kS h4 (a:=A) (k:=(k:Int)) A0 (by simp only;omega) (by simp only;rw[pfr _ hAm];omega) (by omega) (by omega) pu
      simp only at go1
      rw[QW,show cK (some q)=(q,0) from rfl] at go1
      obtain⟨lk,r1',_,r2'⟩:=QL z g.path hto.2.2.2.2.1 g.J9 (k:=(k:Int)) (by omega)
      have go2:=kS h4 (a:=b) (k:=(k:Int)) hb.1.1 (by simp only;omega) (by simp only;rw[uJ];omega) (by omega) (by omega) r1'
      simp only at go2
      rw[r2',hp,show cK (some p)=(p,0) from rfl] at go2
      rw[AA (by omega),go1,AZ,go2,AZ]
      simp only
      rw[AA (show 0<=q/\q<(ws.length:Int) from ⟨q0,q1'⟩),AA (show 0<=p/\p<(ws.length:Int) from ⟨p0,p1⟩),AE (e:=(k:Int)+1) (by omega) (by omega)]
      refine .inl ⟨_,rfl,by simp only;omega,by omega, ?_, ?_⟩
      ·simp only[cpy]
       rw[hp,QW,←h3];rfl
      ·exact h4.word p0 (by simp only;rw[OU _ p2];omega) _
     ·rintro⟨i,ws⟩ ⟨h1,h2,h3,h4⟩
      simp only at h1 h3 h4 ⊢
      have hlen:ws.length=s.2.1.length:=by rw[h3,aB]
      rw[AD (by omega),AHY hb.1.1 (by omega),AZ,AA ⟨A0,by omega⟩,AA (by simp only[IC];omega)]
      refine⟨_,rfl, ?_⟩
      rw[h3,AE (e:=b+1) (by omega) (by omega)]
      congr 1
      exact BitVec.ofInt_add b 1
    obtain⟨bb,k1,rfl⟩:=key
    refine⟨_,_,0,_,_,_,.ABW hw (by rw[hA'];exact hh) (by rw[hA];exact hl) (by rw[hA];exact had) g, ?_,fun _=>rfl⟩
    rw[hA]
    exact k1
def TA:Int->List (Int×Int)->Int->Int×Int->Prop
 |_,[],_,_=>False
 |a,o::r,p,x=>(p=a/\x=o)\/TA (a+(1+o.1+o.2)) r p x
theorem EB.ta {z:Int} {ws:List (BitVec 64)} {l:List Int} {W:Int}:∀ {os:List (Int×Int)} {a p:Int} {x:Int×Int},EB z ws l a os W->TA a os p x→
  ((0<=x.1/\x.1<=15)/\(0<=x.2/\x.2<=32))/\(∃ y,DY z l p=some y/\gl 0#64 ws y.toNat=gZ x.1 x.2)/\a<=p/\p+(1+x.1+x.2)<=W
 | [],_,_,_,_,h=>h.elim
 |o::r,a,p,x,h,hx=>by
  obtain⟨h1,h2,h3⟩:=h
  rcases hx with ⟨rfl,rfl⟩|hx
  ·exact⟨h1,h2,bC _,h3.le⟩
  ·obtain⟨i1,i2,i3,i4⟩:=h3.ta hx
   exact⟨i1,i2,by omega,i4⟩
theorem EB.apart {z:Int} {ws:List (BitVec 64)} {l:List Int} {W:Int}:∀ {os:List (Int×Int)} {a p p' :Int} {x x' :Int×Int},EB z ws l a os W->TA a os p x->TA a os p' x' →
  (p=p' /\x=x')\/p+(1+x.1+x.2)<=p' \/p' +(1+x'.1+x'.2)<=p
 | [],_,_,_,_,_,_,h,_=>h.elim
 |o::r,a,p,p',x,x',h,hx,hx' =>by
  obtain⟨h1,h2,h3⟩:=h
  rcases hx with ⟨rfl,rfl⟩|hx <;> rcases hx' with ⟨rfl,rfl⟩|hx'
  ·exact .inl ⟨rfl,rfl⟩
  ·exact .inr (.inl (h3.ta hx').2.2.1)
  ·exact .inr (.inr (h3.ta hx).2.2.1)
  ·exact h3.apart hx hx'
theorem EB.fn {z:Int} {ws:List (BitVec 64)} {l:List Int} {W:Int}:∀ {os tB :List (Int×Int)} {a:Int},EB z ws l a os W->EB z ws l a tB W->os=tB
 | [],[],_,_,_=>rfl
 | [],o::r,a,h,h' =>by
  obtain⟨h1,_,h3⟩:=h'
  have:=h3.le
  rw[EB] at h;omega
 |o::r,[],a,h',h=>by
  obtain⟨h1,_,h3⟩:=h'
  have:=h3.le
  rw[EB] at h;omega
 |o::r,o' ::r',a,h,h' =>by
  obtain⟨⟨⟨a0,a1⟩,b0,b1⟩,⟨y,h2,h3⟩,h4⟩:=h
  obtain⟨⟨⟨a0',a1'⟩,b0',b1'⟩,⟨y',h2',h3'⟩,h4'⟩:=h'
  rw[h2] at h2'
  obtain rfl:=XW h2'
  rw[h3] at h3'
  have e1:=AEG a0 a1 b0 b1
  rw[h3',AEG a0' a1' b0' b1'] at e1
  have e2:o' =o:=XW e1
  subst e2
  rw[h4.fn h4']
theorem TA.snoc {z:Int} {ws:List (BitVec 64)} {l:List Int} {W:Int} {x y:Int×Int} {p:Int}:∀ {os:List (Int×Int)} {a:Int},EB z ws l a os W->(TA a (os++ [x]) p y↔TA a os p y\/(p=W/\y=x))
 | [],a,h=>by
  rw[EB] at h;subst h
  simp [TA]
 |o::r,a,h=>by
  rw[rU]
  simp only[TA]
  rw[TA.snoc h.2.2]
  constructor
  ·rintro (h|h|h)
   ·exact .inl (.inl h)
   ·exact .inl (.inr h)
   ·exact .inr h
  ·rintro ((h|h)|h)
   ·exact .inl h
   ·exact .inr (.inl h)
   ·exact .inr (.inr h)
structure OB (s:Sp) (i:AH) (l:List Int) (os:List (Int×Int)) (p a:Int) (x:Int×Int):Prop where
 has:Has s i l
 TT:EB (sz s.1) s.2.1 l 0 os i.2.2.2.2
 ta:TA 0 os p x
 J9:DY (sz s.1) l p=some a
def Obj (s:Sp) (i:AH) (p a:Int) (x:Int×Int):Prop:=∃ l os,OB s i l os p a x
theorem D0 {s:Sp} (h:VS s) {i:AH} (hf:EJ s i) {l:List Int} (hl:Has s i l) {p y:Int} (p0:0<=p) (hy:DY (sz s.1) l p=some y):
  (0<=y/\y<s.2.1.length)/\y / sz s.1∈l/\(0<=y / sz s.1/\y / sz s.1<s.2.2.length)/\(fr s.2.2 (y / sz s.1)).1=i.1/\(fr s.2.2 (y / sz s.1)).2.1=i.2.1*4294967296+i.1:=by
 rcases hl with ⟨_,rfl⟩|⟨hw,hp⟩
 ·cases hy
 ·obtain⟨h1,h2⟩:=SB h hp p0 hy
  have h3:=h.owner hp _ h2
  rcases hf.2 with ⟨hw',_⟩|⟨_,_,f1,f2,_⟩
  ·exact absurd hw' hw
  ·exact⟨h1,h2,hp.mem h2,by rw[h3.1,f1],by rw[h3.2,f2]⟩
theorem AKY {s:Sp} (h:VS s) {i:AH} (hf:EJ s i) {l:List Int} (hl:Has s i l) {p:Int} (p0:0<=p) (p1:p<i.2.2.2.2):∃ y,DY (sz s.1) l p=some y:=by
 have z:=CM s.1
 obtain⟨l',h1,h2,_⟩:=hf.has h
 obtain rfl:=T7 hl h1
 have hc:=OX (n:=i.2.2.2.2) z
 rw[<-h2] at hc
 obtain⟨g,_,hg⟩:=TR z (l:=l) (off:=p) p0 (by omega)
 exact⟨_,hg⟩
theorem gA {s:Sp} {i:AH} {l:List Int} (hl:Has s i l):l.Nodup:=by
 rcases hl with ⟨_,rfl⟩|⟨_,hp⟩
 ·exact iF
 ·exact hp.nodup
theorem OB.IZ {s:Sp} {i:AH} {l:List Int} {os:List (Int×Int)} {p a:Int} {x:Int×Int} (h:OB s i l os p a x):
  ((0<=x.1/\x.1<=15)/\(0<=x.2/\x.2<=32))/\gl 0#64 s.2.1 a.toNat=gZ x.1 x.2/\0<=p/\p+(1+x.1+x.2)<=i.2.2.2.2:=by
 obtain⟨h1,⟨y,h2,h3⟩,h4,h5⟩:=h.TT.ta h.ta
 have:=h.J9
 rw[h2] at this
 obtain rfl:=XW this
 exact⟨h1,h3,h4,h5⟩
theorem OB.fld {s:Sp} (hv:VS s) {i:AH} (hf:EJ s i) {l:List Int} {os:List (Int×Int)} {p a:Int} {x:Int×Int} (h:OB s i l os p a x) {k:Int} (k0:0<=k) (k1:k<=x.1+x.2):∃ y,DY (sz s.1) l (p+k)=some y:=by
 obtain⟨h1,h2,h3,h4⟩:=h.IZ
 exact AKY hv hf h.has (by omega) (by omega)
theorem OB.go {s:Sp} (hv:VS s) {i:AH} (hf:EJ s i) {l:List Int} {os:List (Int×Int)} {p a:Int} {x:Int×Int} (h:OB s i l os p a x) {k:Int} (k0:0<=k) (k1:k<=1000):
  BF s a k=some (cK (DY (sz s.1) l (p+k))):=by
 have z:=CM s.1
 obtain⟨h1,h2,h3,h4⟩:=h.IZ
 obtain⟨⟨a0,a1⟩,am,_,ho,_⟩:=D0 hv hf h.has h3 h.J9
 rcases h.has with ⟨hw,_⟩|⟨hw,hp⟩
 ·omega
 obtain⟨l2,q1,q2,q3⟩:=QL z hp h3 h.J9 k0
 rw[kS hv a0 a1 (by rw[ho];have:=hf.1.1;omega) k0 (by omega) q1,q3]
theorem AZH {s:Sp} {i:AH} {l:List Int} {os:List (Int×Int)} {p a:Int} {x:Int×Int} (h:OB s i l os p a x):hd (gl 0#64 s.2.1 a.toNat)=some x:=by
 obtain⟨⟨⟨a0,a1⟩,b0,b1⟩,h2,_⟩:=h.IZ
 rw[h2,AEG a0 a1 b0 b1]
theorem OB.look {s:Sp} (hv:VS s) {i:AH} (hf:EJ s i) {l:List Int} {os:List (Int×Int)} {p a:Int} {x:Int×Int} (h:OB s i l os p a x):BW s a=some (x.1,x.2,0):=by
 obtain⟨⟨⟨r0,r1⟩,d0,d1⟩,h2,h3,h4⟩:=h.IZ
 obtain⟨⟨a0,a1⟩,_⟩:=D0 hv hf h.has h3 h.J9
 have g0:=h.go hv hf (k:=0) (by omega) (by omega)
 rw[aJ,h.J9] at g0
 obtain⟨y,hy⟩:=h.fld hv hf (k:=x.1+x.2) (by omega) (by omega)
 have g1:=h.go hv hf (k:=x.1+x.2) (by omega) (by omega)
 rw[hy] at g1
 unfold BW
 rw[g0,AZ,AD (by simp [cK]),AA ⟨a0,a1⟩,u5,AZ,yM (AZH h),AD (by simp),AD (by simp)]
 simp only
 rw[AE (by omega) (by omega),g1,AZ,AD (by simp [cK])]
theorem OB.place {s:Sp} (hv:VS s) {i:AH} (hf:EJ s i) {l:List Int} {os:List (Int×Int)} {p a:Int} {x:Int×Int} (h:OB s i l os p a x) (k:Int) (b:Bool):
  (∃ e,e≠0/\e≠19/\CL s a k b=some (0,e))\/(∃ m y,(if b=true then 1<=m/\m<=x.1 else x.1<m/\m<=x.1+x.2)/\DY (sz s.1) l (p+m)=some y/\CL s a k b=some (y,0)):=by
 obtain⟨⟨⟨r0,r1⟩,d0,d1⟩,h2,h3,h4⟩:=h.IZ
 unfold CL
 rw[h.look hv hf,AZ,AD (by simp)]
 cases b with
 |true=>
  rw[AA rfl]
  by_cases k0:k<0
  ·rw[AA k0];exact .inl ⟨17,by omega,by omega,rfl⟩
  rw[AD k0]
  by_cases k1:k≥x.1
  ·rw[AA k1];exact .inl ⟨17,by omega,by omega,rfl⟩
  rw[AD k1,AE (by omega) (by omega)]
  obtain⟨y,hy⟩:=h.fld hv hf (k:=1+k) (by omega) (by omega)
  rw[h.go hv hf (by omega) (by omega),hy]
  exact .inr ⟨1+k,y,by rw[AA rfl];omega,hy,rfl⟩
 |false=>
  rw[AD (by decide)]
  by_cases k0:k<0
  ·rw[AA k0];exact .inl ⟨17,by omega,by omega,rfl⟩
  rw[AD k0]
  by_cases k1:k≥x.2
  ·rw[AA k1];exact .inl ⟨17,by omega,by omega,rfl⟩
  simp only
  rw[AD k1,AE (e:=1+x.1) (by omega) (by omega),AE (e:=1+x.1+k) (by omega) (by omega)]
  obtain⟨y,hy⟩:=h.fld hv hf (k:=1+x.1+k) (by omega) (by omega)
  rw[h.go hv hf (by omega) (by omega),hy]
  exact .inr ⟨1+x.1+k,y,by rw[AD (by decide)];omega,hy,rfl⟩
def pC (z:Int) (l:List Int) (p:Int):Nat->List Int
 |0=>[]
 |k+1=>pC z l p k++ [(cK (DY z l (p+(1+(k:Int))))).1]
theorem OS (z:Int) (l:List Int) (p:Int):∀ k,(pC z l p k).length=k
 |0=>rfl
 |k+1=>by rw[pC,JK,OS z l p k];rfl
theorem u6 {z:Int} {l:List Int} {p:Int}:∀ {k j:Nat},j<k->gl 0 (pC z l p k) j=(cK (DY z l (p+(1+(j:Int))))).1
 |0,j,h=>by omega
 |k+1,j,h=>by
  rw[pC]
  by_cases hj:j<k
  ·rw[ZJ (by rw[OS];exact hj),u6 hj]
  ·obtain rfl:j=k:=by omega
   rw[D8 (by rw[JK,OS];simp),AA7 (by rw[OS];exact EY _)]
   simp only[OS,mX,AQT]
theorem OB.fields {s:Sp} (hv:VS s) {i:AH} (hf:EJ s i) {l:List Int} {os:List (Int×Int)} {p a:Int} {x:Int×Int} (h:OB s i l os p a x):
  CO s a=some (pC (sz s.1) l p x.1.toNat,0):=by
 obtain⟨⟨⟨r0,r1⟩,d0,d1⟩,h2,h3,h4⟩:=h.IZ
 unfold CO
 rw[h.look hv hf,AZ,AD (by simp)]
 refine (AO (fun k (st:List Int×Int)=>st=(pC (sz s.1) l p k,(k:Int))) (fun b=>b=(pC (sz s.1) l p x.1.toNat,(0:Int))) x.1.toNat ?_ ?_ (s:=([],0)) rfl).elim fun b hb=>by rw[hb.1,hb.2]
 ·rintro k st hk rfl
  left
  simp only
  rw[AA (by omega),AE (e:=1+(k:Int)) (by omega) (by omega),h.go hv hf (by omega) (by omega),AZ,AA (by simp only[OS,IC];omega),AE (by omega) (by omega)]
  exact⟨_,rfl,rfl⟩
 ·rintro st rfl
  simp only
  rw[AD (by omega)]
  exact⟨_,rfl,rfl⟩
theorem ANN {z:Int} {ws:List (BitVec 64)} {l:List Int} {W:Int}:∀ {os:List (Int×Int)} {at' :Int} {a:Int},EB z ws l at' os W->(a∈(ads z l at' os).map (·.1)↔∃ p x,TA at' os p x/\DY z l p=some a)
 | [],at',a,h=>by simp [ads,TA]
 |o::r,at',a,h=>by
  obtain⟨_,⟨y,h2,_⟩,h4⟩:=h
  simp only[ads,MN,GA,TA]
  rw[ANN h4,h2]
  constructor
  ·rintro (rfl|⟨p,x,h5,h6⟩)
   ·exact⟨at',o,.inl ⟨rfl,rfl⟩,h2⟩
   ·exact⟨p,x,.inr h5,h6⟩
  ·rintro⟨p,x,(⟨rfl,rfl⟩|h5),h6⟩
   ·rw[h2] at h6;exact .inl (XW h6).symm
   ·exact .inr ⟨p,x,h5,h6⟩
theorem A1W {s:Sp} (hv:VS s) {i:AH} (hf:EJ s i) {os:List (Int×Int)} (h:Full s i os):
  ∃ la,JC s i=some (la,0)/\la.length<=16384/\∀ a,a∈la↔∃ p x,Obj s i p a x:=by
 obtain⟨l,h1,h2⟩:=h
 obtain⟨-,h3⟩:=AUB h1 hf.1.2.2.2.2.1 ⟨l,h1,h2⟩
 have h4:=AXN hv hf h1
 rw[h3] at h4
 refine⟨_,h4,by rw[RG];exact (AXM hv hf h3).1,fun a=> ?_⟩
 rw[ANN h2]
 constructor
 ·rintro⟨p,x,h5,h6⟩;exact⟨p,x,l,os,h1,h2,h5,h6⟩
 ·rintro⟨p,x,l',tB,g⟩
  obtain rfl:=T7 h1 g.has
  obtain rfl:=h2.fn g.TT
  exact⟨p,x,g.ta,g.J9⟩
theorem map_inj {α:Type} {l:List α} {f:α->Int} (h:(l.map f).Nodup) {x y:α} (hx:x∈l) (hy:y∈l) (he:f x=f y):x=y:=by
 obtain⟨i,hi,rfl⟩:=ACD.1 hx
 obtain⟨j,hj,rfl⟩:=ACD.1 hy
 have h1:(l.map f)[i]'(by rw[RG];exact hi)=(l.map f)[j]'(by rw[RG];exact hj):=by rw[vM,vM];exact he
 have:=(List.getElem_inj h).1 h1
 subst this;rfl
theorem AI3 {q:Rows} (hq:q.length<=1000000) (hx:∀ x∈q,x.length<=1000000) (n:Int):
  ((∀ x∈q.flatten,x.1≠n)/\FC q n=some ((0,0,0,0,0),false))\/∃ i∈q.flatten,i.1=n/\FC q n=some (i,true):=by
 unfold FC
 have key:=AZD (q:=q) (d:=((0,0,0,0,0):AH)) (p:=fun i=>i.1=n) (so:=fun k=>(k:Int)) (si:=fun _ j=>(j:Int)) (res:=fun k j=>(gl ((0,0,0,0,0):AH) (gl [] q k) j,true)) (no:=(((0,0,0,0,0):AH),false)) (s0:=(0:Int)) rfl
  (out:=fun s1=>if s1<(q.length:Int) then
   if 0<=s1/\s1<(q.length:Int) then
   AI (σ:=Int) (β:=(Int ⊕ (AH×Bool))) (fun s2=>
   if s2<((gl ([]:(List AH)) q s1.toNat).length:Int) then
   if 0<=s2/\s2<((gl ([]:(List AH)) q s1.toNat).length:Int) then
   if ((gl ((0,0,0,0,0):AH) (gl ([]:(List AH)) q s1.toNat) s2.toNat).1)=n then
   some (Sum.inr (Sum.inr ((((gl ((0,0,0,0,0):AH) (gl ([]:(List AH)) q s1.toNat) s2.toNat).1,((gl ((0,0,0,0,0):AH) (gl ([]:(List AH)) q s1.toNat) s2.toNat).2).1,(((gl ((0,0,0,0,0):AH) (gl ([]:(List AH)) q s1.toNat) s2.toNat).2).2).1,((((gl ((0,0,0,0,0):AH) (gl ([]:(List AH)) q s1.toNat) s2.toNat).2).2).2)),true))))
   else some (Sum.inl (AG (s2+1)))
   else none
   else some (Sum.inr (Sum.inl (AG (s1+1))))) (0)
   else none
   else some (Sum.inr (((0,0,0,0,0),false))))
  (cO:=fun (k:Nat) s2=>if s2<((gl ([]:(List AH)) q k).length:Int) then
   if 0<=s2/\s2<((gl ([]:(List AH)) q k).length:Int) then
   if ((gl ((0,0,0,0,0):AH) (gl ([]:(List AH)) q k) s2.toNat).1)=n then
   some (Sum.inr (Sum.inr ((((gl ((0,0,0,0,0):AH) (gl ([]:(List AH)) q k) s2.toNat).1,((gl ((0,0,0,0,0):AH) (gl ([]:(List AH)) q k) s2.toNat).2).1,(((gl ((0,0,0,0,0):AH) (gl ([]:(List AH)) q k) s2.toNat).2).2).1,((((gl ((0,0,0,0,0):AH) (gl ([]:(List AH)) q k) s2.toNat).2).2).2)),true))))
   else some (Sum.inl (AG (s2+1)))
   else none
   else some (Sum.inr (Sum.inl (AG ((k:Int)+1)))))
  (fun k hk=>by simp only[HX];rw[AA (by omega),AA (by omega)];rfl)
  (fun k j hk hj=>by
   have hl:=hx (gl [] q k) (BN hk)
   simp only[HX]
   rw[AA (by omega),AA (by omega),AE (e:=(j:Int)+1) (by omega) (by omega)]
   rfl)
  (fun k hk=>by rw[AD (by omega),AE (by omega) (by omega)];rfl)
  (by rw[AD (by omega)])
 rcases key with ⟨h,e⟩|⟨k,j,hk,hj,hp,hb,e⟩
 ·exact .inl ⟨h,e⟩
 ·exact .inr ⟨_,mU.2 ⟨_,BN hk,BN hj⟩,hp,e⟩
def IsO (s:Sp) (q:Rows) (a:Int):Prop:=∃ i∈q.flatten,∃ p x,Obj s i p a x
structure HB (s:Sp) (q:Rows):Prop where
 bv:BV s q
 full:∀ i∈q.flatten,∃ os,Full s i os
theorem HB.fit {s:Sp} {q:Rows} (h:HB s q) {i:AH} (hi:i∈q.flatten):EJ s i/\1<=i.2.2.2.2:=h.bv.ok.fit i hi
theorem HB.uniq {s:Sp} {q:Rows} (h:HB s q) {i j:AH} (hi:i∈q.flatten) (hj:j∈q.flatten) (he:i.1=j.1):i=j:=map_inj h.bv.ok.nodup hi hj he
theorem pD {q:Rows} {n:Nat} (h:q.flatten.length<=n):∀ x∈q,x.length<=n:=by
 intro x hx
 have:x.length<=q.flatten.length:=by
  obtain⟨k,hk,rfl⟩:=ACD.1 hx
  rw[<-D8 (d:=[]) hk,HF q k hk,JK,JK]
  omega
 omega
theorem HB.lens {s:Sp} {q:Rows} (h:HB s q):q.length<=4/\q.flatten.length<=64/\∀ x∈q,x.length<=64:=by
 have:=count_le h.bv.vs h.bv.ok.fit h.bv.ok.nodup
 exact⟨h.bv.n.2,this,pD this⟩
theorem HB.find {s:Sp} {q:Rows} (h:HB s q) {i:AH} (hi:i∈q.flatten):FC q i.1=some (i,true):=by
 obtain⟨h1,h2,h3⟩:=h.lens
 rcases AI3 (q:=q) (by omega) (fun x hx=>by have:=h3 x hx;omega) i.1 with ⟨h4,_⟩|⟨j,h4,h5,h6⟩
 ·exact absurd rfl (h4 i hi)
 ·rw[h.uniq hi h4 h5.symm];rw[h.uniq hi h4 h5.symm] at h6;exact h6
theorem Obj.J9 {s:Sp} (h:VS s) {i:AH} (hf:EJ s i) {p a:Int} {x:Int×Int} (ho:Obj s i p a x):
  (0<=a/\a<s.2.1.length)/\(0<=a / sz s.1/\a / sz s.1<s.2.2.length)/\(fr s.2.2 (a / sz s.1)).1=i.1/\(fr s.2.2 (a / sz s.1)).2.1=i.2.1*4294967296+i.1:=by
 obtain⟨l,os,g⟩:=ho
 obtain⟨h1,_,h3,h4,h5⟩:=D0 h hf g.has g.IZ.2.2.1 g.J9
 exact⟨h1,h3,h4,h5⟩
abbrev Hs:Type:=(ByteArray×List (Nat×Int×Int×Int)×Int)×Sp×Rows×Int×Ss×Ro×Int×(Int×Int×Int×Int×Int×Int×Int×Int×Int)×Bool
theorem AZI {h:Hs} (hb:HB h.2.1 h.2.2.1) {a:Int} (ha:IsO h.2.1 h.2.2.1 a):GX h a=some true:=by
 have hv:=hb.bv.vs
 have pQ:=VS.PO hv
 have hn:=hv.n.2
 obtain⟨i,hi,p,x,ho⟩:=ha
 obtain⟨hf,hw⟩:=hb.fit hi
 obtain⟨⟨a0,a1⟩,⟨f0,f1⟩,ho1,_⟩:=ho.J9 hv hf
 obtain⟨os,hfu⟩:=hb.full i hi
 obtain⟨la,g1,g2,g3⟩:=A1W hv hf hfu
 have hm:=(g3 a).2 ⟨p,x,ho⟩
 unfold GX
 rw[AD (by omega),AD (by omega),AA trivial,P4 hv.sh,AA ⟨f0,f1⟩]
 have MY:(gl ((0,0,0):Fr) h.2.1.2.2 (a / sz h.2.1.1).toNat)=fr h.2.1.2.2 (a / sz h.2.1.1):=rfl
 rw[MY,ho1,hb.find hi,AZ,AD (by simp),g1,AZ]
 simp only
 refine (YZ (β:=Bool) (ys:=la) (v:=a) (bad:=true) (r:=false) (fun k hk=> ?_) (fun _=> ?_)).1 hm
 ·simp only[HX]
  rw[AA (by omega),AA (by omega),AE (by omega) (by omega)]
 ·rw[AD (by omega)]
def Pr (s:Sp) (y:Int) (w:BitVec 64) (f g:Int):Prop:=
 w≠0#64/\(w.toNat:Int)<=s.2.1.length/\f=y / sz s.1/\g=((w.toNat:Int)-1) / sz s.1/\(fr s.2.2 f).1≠-1/\(fr s.2.2 g).1≠-1/\(fr s.2.2 g).2.1<(fr s.2.2 f).2.1
theorem AXS {s:Sp} (h:VS s) {y:Int} (y0:0<=y) (y1:y<s.2.1.length) (w:BitVec 64):
  ∃ r,KZ s y w=some r/\((r.2.2=true/\Pr s y w r.1 r.2.1)\/(r.2.2=false/\∀ f g,¬Pr s y w f g)):=by
 have pQ:=VS.PO h
 have hn:=h.n.2
 unfold KZ
 by_cases hx:w=0#64
 ·rw[AA hx];exact⟨_,rfl,.inr ⟨rfl,fun f g hh=>hh.1 hx⟩⟩
 obtain⟨e1,e2⟩:=NL hx
 have e3:(BitVec.ofInt 64 ((s.2.1.length:Nat):Int)).toNat=s.2.1.length:=by
  rw[vK];omega
 rw[AD hx,e3,e1]
 by_cases hl' :w.toNat>s.2.1.length
 ·rw[AA hl'];exact⟨_,rfl,.inr ⟨rfl,fun f g hh=>by have:=hh.2.1;omega⟩⟩
 obtain⟨f0,f1⟩:=HU h y0 y1
 obtain⟨g0,g1⟩:=HU h (a:=(w.toNat:Int)-1) (by omega) (by omega)
 have e4:((w.toNat-1:Nat):Int)=(w.toNat:Int)-1:=by omega
 rw[AD hl',AD (by omega),AD (by omega),AA trivial,AA trivial,e4,AE (e:=(w.toNat:Int)-1) (by omega) (by omega),P4 h.sh,AA ⟨f0,f1⟩,AA ⟨g0,g1⟩]
 have hf1:(gl ((0,0,0):Fr) s.2.2 (y / sz s.1).toNat)=fr s.2.2 (y / sz s.1):=rfl
 have tM:(gl ((0,0,0):Fr) s.2.2 (((w.toNat:Int)-1) / sz s.1).toNat)=fr s.2.2 (((w.toNat:Int)-1) / sz s.1):=rfl
 rw[hf1,tM]
 by_cases h1:(fr s.2.2 (y / sz s.1)).1= -1
 ·rw[AD (H_ h1)]
  exact⟨_,rfl,.inr ⟨rfl,fun f g hh=>by obtain⟨_,_,rfl,_,hh,_⟩:=hh;exact hh h1⟩⟩
 rw[AA h1]
 by_cases h2:(fr s.2.2 (((w.toNat:Int)-1) / sz s.1)).1= -1
 ·rw[AD (H_ h2)]
  exact⟨_,rfl,.inr ⟨rfl,fun f g hh=>by obtain⟨_,_,_,rfl,_,hh,_⟩:=hh;exact hh h2⟩⟩
 rw[AA h2]
 by_cases h3:(fr s.2.2 (y / sz s.1)).2.1>(fr s.2.2 (((w.toNat:Int)-1) / sz s.1)).2.1
 ·exact⟨_,rfl,.inl ⟨IV h3,hx,by omega,rfl,rfl,h1,h2,h3⟩⟩
 ·exact⟨_,rfl,.inr ⟨NZ h3,fun f g hh=>by obtain⟨_,_,rfl,rfl,_,_,hh⟩:=hh;exact h3 hh⟩⟩
theorem Pr.fn {s:Sp} {y:Int} {w:BitVec 64} {f g f' g' :Int} (h:Pr s y w f g) (h' :Pr s y w f' g'):f=f' /\g=g' :=⟨by rw[h.2.2.1,h'.2.2.1],by rw[h.2.2.2.1,h'.2.2.2.1]⟩
theorem Pr.IZ {s:Sp} (h:VS s) {y:Int} (y0:0<=y) (y1:y<s.2.1.length) {w:BitVec 64} {f g:Int} (hp:Pr s y w f g):(0<=f/\f<64)/\(0<=g/\g<64):=by
 obtain⟨h0,h1,rfl,rfl,_⟩:=hp
 have:=(NL h0).2
 have:=HU h y0 y1
 have:=HU h (a:=(w.toNat:Int)-1) (by omega) (by omega)
 have:=h.n.2
 omega
theorem ANO {s:Sp} (h:VS s) {ss:Ss} (hs:RV ss) {y:Int} (y0:0<=y) (y1:y<s.2.1.length) (w:BitVec 64):
  ∃ V9,CS s ss y w=some (V9,s.2.1,s.2.2)/\RV V9 /\∀ f g y',In V9 f g y' ↔In ss f g y' \/(y' =y/\Pr s y w f g):=by
 have pQ:=VS.PO h
 obtain⟨r,h1,h2⟩:=AXS h y0 y1 w
 unfold CS
 rw[h1,AZ]
 rcases h2 with ⟨h2,h3⟩|⟨h2,h3⟩
 ·obtain⟨a,b⟩:=h3.IZ h y0 y1
  obtain⟨V9,g1,g2,g3⟩:=A1V hs a b (y:=y) (by omega)
  rw[AD (by rw[h2];simp),g1,AZ]
  refine⟨V9,rfl,g2,fun f g y' => ?_⟩
  rw[g3]
  constructor
  ·rintro (h|⟨rfl,rfl,rfl⟩)
   ·exact .inl h
   ·exact .inr ⟨rfl,h3⟩
  ·rintro (h|⟨rfl,h⟩)
   ·exact .inl h
   ·obtain⟨rfl,rfl⟩:=h.fn h3
    exact .inr ⟨rfl,rfl,rfl⟩
 ·rw[AA (by rw[h2];rfl)]
  refine⟨ss,rfl,hs,fun f g y' =>⟨.inl, ?_⟩⟩
  rintro (h|⟨_,h⟩)
  ·exact h
  ·exact absurd h (h3 _ _)
theorem AEI {l:List AH} {k:Nat} (hk:k<l.length):gl 0 (B3 l) k=(gl ((0,0,0,0,0):AH) l k).1:=by
 rw[D8 (by unfold B3;rw[RG];exact hk),D8 hk]
 unfold B3
 rw[vM]
theorem pE (l:List AH):(B3 l).length=l.length:=by unfold B3;rw[RG]
def yN (s:Sp) (C:List Int) (k:Nat):List Int:=(EI k).filter fun f=>decide ((fr s.2.2 f).1∈C)
theorem AEJ (s:Sp) (C:List Int) (k:Nat):(yN s C k).length<=k:=by
 unfold yN
 refine kF (mO _ _) ?_
 rw[GZ];exact EY _
theorem tC {s:Sp} (h:VS s) {l:List AH} (hl:l.length<=1000000):
  G8 s l=some (yN s (B3 l) s.2.2.length):=by
 have hn:=h.n.2
 have QO:=pE l
 unfold G8
 refine (AO (fun k (st:List Int×Int)=>st=(yN s (B3 l) k,(k:Int))) (fun b=>b=yN s (B3 l) s.2.2.length) s.2.2.length ?_ ?_ (s:=([],0)) rfl).elim fun b hb=>by rw[hb.1,hb.2]
 ·rintro k st hk rfl
  have hc:=AEJ s (B3 l) k
  left
  simp only[HX]
  rw[AA (by omega),AA (by omega)]
  have hs:yN s (B3 l) (k+1)=if (fr s.2.2 k).1∈B3 l then yN s (B3 l) k++ [(k:Int)] else yN s (B3 l) k:=by
   unfold yN
   rw[H9,tH,vN,List.filter_nil]
   split
   ·rename_i h1;rw[AA (MM h1)]
   ·rename_i h1;rw[AD (fun h2=>h1 (IV h2)),HH]
  have MY:gl ((0,0,0):Fr) s.2.2 k=fr s.2.2 k:=rfl
  rw[hs,MY,AE (e:=(k:Int)+1) (by omega) (by omega)]
  generalize (fr s.2.2 k).1=q
  generalize yN s (B3 l) k=X at hc
  have inner:=AO (β:=((List Int×Int) ⊕ (List Int))) (f:=fun s2:List Int×Int=>
   if s2.2<(l.length:Int) then
   if 0<=s2.2/\s2.2<(l.length:Int) then
   if q=((gl ((0,0,0,0,0):AH) l s2.2.toNat).1) then
   if (s2.1.length+([(k:Int)]:List Int).length)*8<=140737488355328 then
   some (Sum.inr (Sum.inl ((s2.1++([(k:Int)]:List Int),(k:Int)+1))))
   else none
   else some (Sum.inl ((s2.1,AG (s2.2+1))))
   else none
   else some (Sum.inr (Sum.inl ((s2.1,(k:Int)+1)))))
   (fun j (st:List Int×Int)=>st=(X,(j:Int))/\∀ m:Nat,m<j->gl 0 (B3 l) m≠q)
   (fun b=>b=Sum.inl (if q∈B3 l then X++ [(k:Int)] else X,(k:Int)+1)) l.length ?_ ?_ (s:=(X,0)) ⟨rfl,fun m hm=>by omega⟩
  ·obtain⟨b,e,rfl⟩:=inner
   exact⟨_,e,rfl⟩
  ·rintro j st hj ⟨rfl,hm⟩
   simp only[HX]
   rw[AA (by omega),AA (by omega),←AEI hj]
   by_cases he:q=gl 0 (B3 l) j
   ·rw[AA he,AA (by simp only[IC];omega),AA (by rw[he];exact BN (by omega))]
    exact .inr ⟨_,rfl,rfl⟩
   ·rw[AD he,AE (e:=(j:Int)+1) (by omega) (by omega)]
    refine .inl ⟨_,rfl,rfl,fun m hm' => ?_⟩
    by_cases hmj:m=j
    ·subst hmj;exact fun h=>he h.symm
    ·exact hm m (by omega)
  ·rintro st ⟨rfl,hm⟩
   simp only
   rw[AD (by omega),AD]
   ·exact⟨_,rfl,rfl⟩
   ·intro hq
    obtain⟨m,h1,h2⟩:=ACD.1 hq
    refine hm m (by omega) ?_
    rw[D8 h1];exact h2
 ·rintro st rfl
  simp only
  rw[AD (by omega)]
  exact⟨_,rfl,rfl⟩
theorem aC {s:Sp} {C:List Int} {f:Int}:f∈yN s C s.2.2.length↔(0<=f/\f<s.2.2.length)/\(fr s.2.2 f).1∈C:=by
 unfold yN
 rw[bB,NJ,JL]
theorem ABY {β:Type} {f:List Int×Int->Option ((List Int×Int) ⊕ β)} (r:List Int->β) (xs:List Int) (p:Int->Bool) (hl:xs.length<=1000000)
  (hs:∀ (k:Nat) acc,k<xs.length->acc.length<=xs.length->f (acc,(k:Int))=some (.inl (if p (gl 0 xs k)=true then acc++ [gl 0 xs k] else acc,(k:Int)+1)))
  (he:∀ acc,f (acc,(xs.length:Int))=some (.inr (r acc))):AI f ([],0)=some (r (xs.filter p)):=by
 refine (AO (fun k (st:List Int×Int)=>st=((xs.take k).filter p,(k:Int))) (fun b=>b=r (xs.filter p)) xs.length ?_ ?_ (s:=([],0)) (by simp)).elim fun b hb=>by rw[hb.1,hb.2]
 ·rintro k st hk rfl
  left
  rw[hs k _ hk (T8 _ _ _)]
  refine⟨_,rfl, ?_⟩
  rw[f_ (d:=0) p xs hk]
  split <;> simp
 ·rintro st rfl
  rw[he,SD]
  exact⟨_,rfl,rfl⟩
theorem AI4 {s:Sp} (h:VS s) {r:Ro} (hr:aA r) {l:List AH} (hl:l.length<=1000000):
  IT s r l=some ((liv r.1 32).filter fun x=>decide (Wn (B3 l) s (gl 0#64 r.2 (x-1).toNat))):=by
 have hrl:=hr.rl
 have hlen:=pB r.1 32
 have hm:∀ x∈liv r.1 32,1<=x/\x<=32:=fun x hx=>by
  obtain⟨j,j1,j2,j3⟩:=u4.1 hx
  omega
 have hL:=rL hr
 generalize liv r.1 32=L at*
 unfold IT
 rw[hL,AZ]
 refine ABY id L _ (by omega) (fun k acc hk ha=> ?_) (fun acc=> ?_)
 ·have hj:=hm _ (BN (d:=(0:Int)) hk)
  simp only[HX]
  rw[AA (by omega),AA (by omega),AE (e:=gl 0 L k-1) (by omega) (by omega),AA (by omega),mH h hl,AZ,AE (e:=(k:Int)+1) (by omega) (by omega)]
  split
  ·rw[AA (by simp only[IC];omega)]
  ·rfl
 ·simp only
  rw[AD (by omega)]
  rfl
theorem AUL {s:Sp} {l:List AH} {p:BitVec 64->Bool} (hp:∀ w,DM s l w=some (p w)) {out:List Int} (ho:out.length<=16384) (h3:∀ y∈out,0<=y) (n:Int):
  AI (σ:=((List Int)×Int)) (β:=((List Int)×Int)) (fun s1=>
   if s1.2<(out.length:Int) then
   if 0<=s1.2/\s1.2<(out.length:Int) then
   if (gl (0:Int) out s1.2.toNat)<(s.2.1.length:Int) then
   if 0<=(gl (0:Int) out s1.2.toNat)/\(gl (0:Int) out s1.2.toNat)<(s.2.1.length:Int) then
   Option.bind (DM s l (gl (0#64:(BitVec 64)) s.2.1 ((gl (0:Int) out s1.2.toNat).toNat))) (fun r3=>
   if r3=true then
   if (s1.1.length+([gl (0:Int) out s1.2.toNat]:List Int).length)*8<=140737488355328 then
   some (Sum.inl ((s1.1++([gl (0:Int) out s1.2.toNat]:List Int),AG (s1.2+1))))
   else none
   else some (Sum.inl ((s1.1,AG (s1.2+1)))))
   else none
   else some (Sum.inl ((s1.1,AG (s1.2+1))))
   else none
   else some (Sum.inr ((s1.1,n)))) (([],0))=some (out.filter fun y:Int=>decide (y<s.2.1.length/\p (gl 0#64 s.2.1 y.toNat)=true),n):=by
 refine ABY (fun o=>(o,n)) out (fun y=>decide (y<s.2.1.length/\p (gl 0#64 s.2.1 y.toNat)=true)) (by omega) (fun k acc hk ha=> ?_) (fun acc=> ?_)
 ·have hg:=h3 _ (BN (d:=(0:Int)) hk)
  simp only[HX]
  rw[AA (by omega),AA (by omega),AE (e:=(k:Int)+1) (by omega) (by omega)]
  by_cases h5:gl 0 out k<(s.2.1.length:Int)
  ·rw[AA h5,AA ⟨hg,h5⟩,hp,AZ]
   by_cases h6:p (gl 0#64 s.2.1 (gl 0 out k).toNat)=true
   ·rw[AA h6,AA (by simp only[IC];omega),AA (IV ⟨h5,h6⟩)]
   ·rw[AD h6,AD (by rw[JL];exact fun h=>h6 h.2)]
  ·rw[AD h5,AD (by rw[JL];exact fun h=>h5 h.1)]
 ·simp only
  rw[AD (by omega)]
theorem AI5 {s:Sp} (h:VS s) {ss:Ss} (hr:RV ss) {l:List AH} (hl:l.length<=1000000):
  ∃ ys n,IU s ss l=some (ys,n)/\ys.Pairwise (·< ·)/\∀ y,y∈ys↔InF ss (yN s (B3 l) s.2.2.length) y/\(0<=y/\y<s.2.1.length)/\Wn (B3 l) s (gl 0#64 s.2.1 y.toNat):=by
 have hn:=h.n.2
 have pQ:=VS.PO h
 have hc:=AEJ s (B3 l) s.2.2.length
 obtain⟨out,n,h1,h2,h3,h4⟩:=AXP hr (F:=yN s (B3 l) s.2.2.length) (by omega)
 have hol:=rK (n:=16384) h2 h3
 have key:=AUL (s:=s) (l:=l) (p:=fun w=>decide (Wn (B3 l) s w)) (fun w=>mH h hl w) hol (fun y hy=>(h3 y hy).1) n
 refine⟨_,n, ?_,(h2.sublist AAC:(out.filter fun y:Int=>decide (y<s.2.1.length/\decide (Wn (B3 l) s (gl 0#64 s.2.1 y.toNat))=true)).Pairwise (·< ·)),fun y=> ?_⟩
 ·unfold IU
  rw[tC h hl,AZ,h1,AZ]
  exact key
 ·rw[bB,h4,JL,JL]
  constructor
  ·rintro⟨a,b,c⟩
   have:=h3 y ((h4 y).2 a)
   exact⟨a,⟨this.1,b⟩,c⟩
  ·rintro⟨a,⟨_,b⟩,c⟩;exact⟨a,b,c⟩
end Go.Proofs.YthmiilamegpllaaGreat
