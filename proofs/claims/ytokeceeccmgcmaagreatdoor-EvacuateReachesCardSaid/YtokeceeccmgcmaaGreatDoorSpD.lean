import Derived.Test.YtokeceeccmgcmaaGreatDoorHeaW
import Derived.Test.YtokeceeccmgcmaaGreatDoorV3P
import Derived.Test.YtokeceeccmgcmaaGreatDoorRows
import Derived.Test.YtokeceeccmgcmaaGreatDoorTie
import Derived.Test.YtokeceeccmgcmaaGreatDoorCards
import Derived.SevenTiedAt
set_option linter.unusedVariables false
set_option linter.unusedSimpArgs false
namespace Go.Proofs.YtokeceeccmgcmaaGreatDoor
open Go Go.V3
theorem gU (a:Int) {m:Int} (h0:0<m) (h1:m<=4611686018427387904):∃ r,DT a m=some r/\0<=r/\r<m/\r=a%m:=by
 have u:=Int.tmod_lt_of_pos a h0
 have l:=Int.lt_tmod_of_pos a h0
 have e:Int.tmod a m=if 0<=a\/m ∣ a then a%m else a%m-m:=by
  rw[Int.tmod_eq_emod]
  split <;> omega
 have p0:=oA a (show m≠0 by omega)
 have p1:=u4 a h0
 unfold DT
 rw[ab]
 by_cases hn:a.tmod m<0
 ·rw[AA hn]
  rw[ah]
  exact⟨_,rfl,by omega,by omega,by split at e <;> omega⟩
 ·rw[AE hn]
  exact⟨_,rfl,by omega,u,by split at e <;> omega⟩
def OR (d:List Int×Int):Prop:=0<=d.2/\(d.1.length:Int)<=9223372036854775807
variable {n:Int} {d:List Int×Int}
theorem ED (h:OR d) (h0:0<n) (h1:n<=4611686018427387904):∃ r d',AF d n=some (r,d')/\0<=r/\r<n/\OR d' :=by
 unfold AF
 obtain⟨h2,h3⟩:=h
 by_cases hc:d.2≥d.1.length
 ·rw[AA hc];exact⟨_,_,rfl,by omega,h0,h2,h3⟩
 ·rw[AE hc,ah (e:=d.2+1),show d.2+1-1=d.2 from by omega,ah,ab]
  obtain⟨r,h4,h5,h6,_⟩:=gU (gl (0:Int) d.1 d.2.toNat) h0 h1
  rw[h4]
  exact⟨_,_,rfl,h5,h6,by show (0:Int)<=d.2+1;omega,h3⟩
variable {ws:List (BitVec 64)}
theorem ATR (h:ws.length<=1000000):JV ws=some ws:=by
 unfold JV
 rw[AA (by simp;omega)];rfl
variable {s:Sp}
theorem ANK (h:s.2.1.length<=1000000) (h2:s.2.2.length<=1000000):BG s=some s:=by
 unfold BG
 rw[ATR h]
 simp only[AW]
 rw[AA (by simp;omega)];rfl
theorem VS.IK (h:VS s):s.2.1.length<=16384:=by
 have:=(II h.sh (by omega:0<=(s.2.2.length:Int)) (show (s.2.2.length:Int)<=64 by have:=h.n.2;omega)).2
 have:=h.w
 omega
theorem VS.copy (h:VS s):BG s=some s:=ANK (by have:=VS.IK h;omega) (by have:=h.n.2;omega)
theorem VS.valid (h:VS s):C8 s=some true:=by
 obtain⟨b,h1,h2⟩:=i_ s
 rw[h1,h2.2 h]
theorem ANL {s:Int} (hs:3<=s/\s<=8) (hn:2<=n/\n<=64):
  I9 s n=some ((s,List.replicate (n*sz s).toNat 0#64,List.replicate n.toNat (-1, -1, -1)),0):=by
 obtain⟨q1,q2⟩:=II hs (by omega:0<=n) hn.2
 unfold I9 za6
 rw[sP]
 simp only[AW]
 rw[AE (by simp [hs]),af,af,AA trivial,JK hs,ah,ab,ab]
 refine LI (fun k st=>st.1=n-k/\(k:Int)<=n/\st.2.length=n.toNat/\∀ j,j<st.1.toNat->st.2[j]? =some (-1, -1, -1)) (n:=n.toNat) ?_ ⟨by omega,by omega,by simp,fun j hj=>by simp at hj⟩
 rintro k ⟨i,xs⟩ ⟨h1,h2,h3,h4⟩
 simp only at h1 h2 h3 h4 ⊢
 rw[V5]
 by_cases hk:k=0
 ·left
  rw[af]
  have:i.toNat=n.toNat:=by omega
  rw[this] at h4
  rw[AAN h3 h4]
 ·right
  refine⟨k-1,_,by omega,by rw[ab,ab], ?_,by omega, ?_, ?_⟩
  ·simp only;rw[ah];omega
  ·simp [h3]
  ·simp only
   rw[ah]
   intro j hj
   rw[wR]
   split
   ·rw[ab]
   ·exact h4 j (by omega)
theorem wD (hn:s.2.2.length<=64):DZ s=some (C1 s.2.2):=by
 unfold DZ
 refine (AK (fun k (st:List Int×Int)=>st.2=(k:Int)/\k<=s.2.2.length/\st.1=(GK k).filter fun i=>decide ((fr s.2.2 i).1= -1)) (fun b=>b=C1 s.2.2) s.2.2.length ?_ ?_ ⟨rfl,by omega,rfl⟩).elim fun b h=>by rw[h.1,h.2]
 ·rintro k ⟨acc,i⟩ hk ⟨h1,_,h2⟩
  simp only at h1 h2 ⊢
  subst h1
  have hl:acc.length<=k:=by
   have:=rF (fun i=>decide ((fr s.2.2 i).1= -1)) (GK k)
   rw[IE] at this;rw[h2];exact this
  have MO:gl (0,0,0) s.2.2 (k:Int).toNat=fr s.2.2 k:=rfl
  rw[ab,ab,MO,ah,KO,AAB]
  by_cases hf:(fr s.2.2 k).1= -1
  ·rw[AA hf,AA (by simp;omega)]
   exact .inl ⟨_,rfl,by simp only;omega,by omega,by simp [h2,hf]⟩
  ·rw[AE hf]
   exact .inl ⟨_,rfl,by simp only;omega,by omega,by simp [h2,hf]⟩
 ·rintro⟨acc,i⟩ ⟨h1,_,h2⟩
  simp only at h1 h2 ⊢
  rw[af]
  exact⟨_,rfl,h2⟩
variable {b f:Int}
theorem AXG (hn:s.2.2.length<=64) {r:List Int} (hf:C1 s.2.2=f::r) {o:Int} (o0:0<=o) (o1:o<=4294967295) (b0:0<=b) (b1:b<4):
  IN s o b=some (f,s.2.1,s.2.2.set f.toNat (o,b*4294967296+o, -1)):=by
 obtain⟨⟨h0,h1⟩,h2,h3⟩:=WY hf
 unfold IN
 refine LI (fun k (i:Int)=>i=f-k/\(k:Int)<=f) (n:=f.toNat) ?_ ⟨by omega,by omega⟩
 rintro k i ⟨hi,hk⟩
 have MO:gl (0,0,0) s.2.2 i.toNat=fr s.2.2 i:=rfl
 rw[ab,ab,MO]
 by_cases h0:k=0
 ·left
  have:i=f:=by omega
  subst this
  rw[AA h2,ab,ah (e:=b*4294967296),ah]
 ·right
  rw[AE (h3 i (by omega) (by omega)),ah]
  exact⟨k-1,_,by omega,rfl,by omega,by omega⟩
variable {l:List Int}
theorem ATS (hn:s.2.2.length<=64) {i:Int} (hp:Pa s.2.2 i l):JT s i=some l:=by
 unfold JT
 have hl:=hp.length
 refine LI (fun k (st:List Int×Int)=>∃ l2,l=st.1++l2/\Pa s.2.2 st.2 l2/\l2.length=k) (n:=l.length) ?_ ⟨l,rfl,hp,rfl⟩
 rintro k ⟨acc,f⟩ ⟨l2,h1,h2,h3⟩
 simp only at h1 h2 ⊢
 cases l2 with
 |nil=>
  left
  rw[Pa] at h2
  rw[AE (by simp [h2]),h1,FP]
 |cons a r=>
  right
  obtain⟨rfl,g0,g1,g2⟩:=h2
  have:=KL List.length h1
  simp at this h3
  have MO:(gl (0,0,0) s.2.2 f.toNat).2.2=nx s.2.2 f:=(HS g0 g1).symm
  rw[ab,AA (by simp;omega),AA ⟨g0,g1⟩,MO]
  exact⟨k-1,_,by omega,rfl,r,by simp [h1],g2,by omega⟩
def cl (z n:Int):Int:=(n+z-1) / z
theorem ANM {s:Int} (hs:3<=s/\s<=8) (h0:0<=n) (h1:n<=1000000):IM n s=some (cl (sz s) n):=by
 obtain⟨z1,z2⟩:=MF hs
 unfold IM
 rw[af,af,af,af,AA trivial,AA trivial,JK hs,lP,ah (e:=sz s),ah (e:=n+sz s),ah]
 rfl
theorem ANN {z m:Int} (hz:0<z) (h:n<=m):cl z n<=cl z m:=Int.ediv_le_ediv hz (by omega)
theorem SH {z:Int} (hz:0<z):cl z 0=0:=AR7 (by omega) (by omega)
theorem J7 {z:Int} (hz:0<z):n<=cl z n*z/\cl z n*z<n+z:=by
 have h1:=AB9 (n+z-1) z
 have h2:=oA (n+z-1) (show z≠0 by omega)
 have h3:=u4 (n+z-1) hz
 unfold cl
 rw[tO] at h1
 omega
theorem AER {z:Int} (hz:0<z) (h:0<n):0<cl z n:=by
 obtain⟨h1,h2⟩:=J7 (n:=n) hz
 apply AA5
 intro hc
 have:cl z n*z<=0*z:=rE (by omega) (by omega)
 omega
theorem sT {z:Int} (hz:0<z) (h:0<=n):0<=cl z n:=Int.ediv_nonneg (by omega) (by omega)
def DB (s:Sp) (i:AI):Prop:=
 (0<=i.1/\i.1<=4294967295/\0<=i.2.1/\i.2.1<4/\0<=i.2.2.2.2/\i.2.2.2.2<=s.2.1.length)∧
 ((i.2.2.2.2=0/\i.2.2.1= -1/\i.2.2.2.1= -1)∨
  (i.2.2.2.2≠0/\(0<=i.2.2.1/\i.2.2.1<s.2.2.length)/\(fr s.2.2 i.2.2.1).1=i.1/\(fr s.2.2 i.2.2.1).2.1=i.2.1*4294967296+i.1∧
  ∃ l,Pa s.2.2 i.2.2.1 l/\(l.length:Int)=cl (sz s.1) i.2.2.2.2/\l.length=(owned s.2.2 i.1).length/\l.getLast? =some i.2.2.2.1))
variable {i:AI}
theorem V1 (h:VS s) (h0:0<=i.2.2.2.2) (h1:i.2.2.2.2<=1000000):CF s i=some (cl (sz s.1) i.2.2.2.2):=by
 unfold CF
 rw[ANM h.sh h0 h1];rfl
theorem ANO (h:0<l.length):some (gl 0 l (l.length-1))=l.getLast? :=by
 rw[List.getLast?_eq_getElem?,AE7 (d:=0) (by omega)]
theorem AES (h:VS s) (i:AI):∃ b,C3 s i=some b/\(b=true↔DB s i):=by
 have W7:=VS.IK h
 have hn:=h.n.2
 unfold C3
 by_cases c1:i.1<0
 ·rw[AA c1];exact⟨_,rfl,B5 fun h=>by have:=h.1.1;omega⟩
 rw[AE c1]
 by_cases c2:i.1>4294967295
 ·rw[AA c2];exact⟨_,rfl,B5 fun h=>by have:=h.1.2.1;omega⟩
 rw[AE c2]
 by_cases c3:i.2.1<0
 ·rw[AA c3];exact⟨_,rfl,B5 fun h=>by have:=h.1.2.2.1;omega⟩
 rw[AE c3]
 by_cases c4:i.2.1≥4
 ·rw[AA c4];exact⟨_,rfl,B5 fun h=>by have:=h.1.2.2.2.1;omega⟩
 rw[AE c4]
 by_cases c5:i.2.2.2.2<0
 ·rw[AA c5];exact⟨_,rfl,B5 fun h=>by have:=h.1.2.2.2.2.1;omega⟩
 rw[AE c5]
 by_cases c6:i.2.2.2.2>s.2.1.length
 ·rw[AA c6];exact⟨_,rfl,B5 fun h=>by have:=h.1.2.2.2.2.2;omega⟩
 rw[AE c6]
 have hr:0<=i.1/\i.1<=4294967295/\0<=i.2.1/\i.2.1<4/\0<=i.2.2.2.2/\i.2.2.2.2<=s.2.1.length:=⟨by omega,by omega,by omega,by omega,by omega,by omega⟩
 by_cases c7:i.2.2.2.2=0
 ·rw[AA c7]
  by_cases c8:i.2.2.1= -1
  ·rw[AA c8]
   refine⟨_,rfl, ?_⟩
   rw[P5]
   exact⟨fun hh=>⟨hr,.inl ⟨c7,c8,hh⟩⟩,fun hh=>by rcases hh.2 with h1|h1;exact h1.2.2;exact absurd c7 h1.1⟩
  ·rw[AE c8]
   exact⟨_,rfl,B5 fun hh=>by rcases hh.2 with h1|h1;exact c8 h1.2.1;exact h1.1 c7⟩
 rw[AE c7]
 have only:DB s i->(0<=i.2.2.1/\i.2.2.1<s.2.2.length)/\(fr s.2.2 i.2.2.1).1=i.1/\(fr s.2.2 i.2.2.1).2.1=i.2.1*4294967296+i.1∧
   ∃ l,Pa s.2.2 i.2.2.1 l/\(l.length:Int)=cl (sz s.1) i.2.2.2.2/\l.length=(owned s.2.2 i.1).length/\l.getLast? =some i.2.2.2.1:=fun hh=>by
  rcases hh.2 with h1|h1
  ·exact absurd h1.1 c7
  ·exact h1.2
 by_cases c8:i.2.2.1<0
 ·rw[AA c8];exact⟨_,rfl,B5 fun hh=>by have:=(only hh).1.1;omega⟩
 rw[AE c8]
 by_cases c9:i.2.2.1≥s.2.2.length
 ·rw[AA c9];exact⟨_,rfl,B5 fun hh=>by have:=(only hh).1.2;omega⟩
 have MO:gl (0,0,0) s.2.2 i.2.2.1.toNat=fr s.2.2 i.2.2.1:=rfl
 rw[AE c9,ab,MO,ah (e:=i.2.1*4294967296),ah (e:=i.2.1*4294967296+i.1)]
 by_cases d1:(fr s.2.2 i.2.2.1).1=i.1
 rotate_left
 ·rw[AA d1];exact⟨_,rfl,B5 fun hh=>d1 (only hh).2.1⟩
 rw[AE (by simp [d1])]
 by_cases d2:(fr s.2.2 i.2.2.1).2.1=i.2.1*4294967296+i.1
 rotate_left
 ·rw[AA d2];exact⟨_,rfl,B5 fun hh=>d2 (only hh).2.2.1⟩
 rw[AE (by simp [d2])]
 obtain⟨l,hl⟩:=h.acy i.2.2.1 (by omega) (by omega)
 have lE:=hl.length
 rw[ATS hn hl,V1 h (by omega) (by omega)]
 simp only[AW]
 refine AK (fun k (st:Int×Int)=>st.2=(k:Int)/\k<=s.2.2.length/\0<=st.1/\st.1<=k/\st.1=(((GK k).filter fun j=>decide ((fr s.2.2 j).1=i.1)).length:Nat)) _ s.2.2.length ?_ ?_ ⟨rfl,by omega,by simp,by simp,rfl⟩
 ·rintro k ⟨c,j⟩ hk ⟨h1,_,h2,h3,h4⟩
  simp only at h1 h2 h3 h4 ⊢
  subst h1
  have hfk:gl (0,0,0) s.2.2 (k:Int).toNat=fr s.2.2 k:=rfl
  rw[ab,ab,hfk,ah (e:=(k:Int)+1),ah (e:=c+1),KO,AAB]
  by_cases hf:(fr s.2.2 k).1=i.1
  ·rw[AA hf]
   exact .inl ⟨_,rfl,by simp only;omega,by omega,by simp only;omega,by simp only;omega,by simp [h4,hf]⟩
  ·rw[AE hf]
   exact .inl ⟨_,rfl,by simp only;omega,by omega,by simp only;omega,by simp only;omega,by simp [h4,hf]⟩
 ·rintro⟨c,j⟩ ⟨h1,_,h2,h3,h4⟩
  simp only at h1 h2 h3 h4 ⊢
  have h5:c=((owned s.2.2 i.1).length:Int):=h4
  rw[af]
  refine map_inr ?_
  by_cases e1:(l.length:Int)=cl (sz s.1) i.2.2.2.2
  rotate_left
  ·rw[AE e1]
   exact⟨_,rfl,B5 fun hh=>by obtain⟨l',p1,p2,_⟩:=(only hh).2.2.2;rw[hl.fn p1] at e1;exact e1 p2⟩
  rw[AA e1]
  by_cases e2:(l.length:Int)=c
  rotate_left
  ·rw[AE e2]
   exact⟨_,rfl,B5 fun hh=>by obtain⟨l',p1,_,p2,_⟩:=(only hh).2.2.2;rw[hl.fn p1] at e2;exact e2 (by omega)⟩
  have hp:=AER (BU s.1) (show 0<i.2.2.2.2 by omega)
  rw[AA e2,ah,ab]
  refine⟨_,rfl, ?_⟩
  rw[P5,show ((l.length:Int)-1).toNat=l.length-1 from by omega]
  have hg:=ANO (l:=l) (by omega)
  constructor
  ·intro he
   exact⟨hr,.inr ⟨c7,by omega,d1,d2,l,hl,e1,by omega,by rw[<-hg,he]⟩⟩
  ·intro hh
   obtain⟨l',p1,_,_,p2⟩:=(only hh).2.2.2
   rw[<-hl.fn p1,←hg] at p2
   simpa using p2
theorem AET (s:Sp) (i:AI):∃ b,JU s i=some b/\(b=true↔VS s/\DB s i):=by
 unfold JU
 obtain⟨b,h1,h2⟩:=i_ s
 rw[h1]
 simp only[AW]
 by_cases hb:b=true
 ·rw[AA hb]
  obtain⟨c,h3,h4⟩:=AES (h2.1 hb) i
  rw[h3]
  exact⟨c,rfl,h4.trans ⟨fun h=>⟨h2.1 hb,h⟩,fun h=>h.2⟩⟩
 ·rw[AE hb]
  exact⟨_,rfl,B5 fun h=>hb (h2.2 h.1)⟩
theorem ANP (hn:s.2.2.length<=64) (q:Int):∃ b,GS s q=some b/\(b=true↔owned s.2.2 q≠[]):=by
 unfold GS
 refine AK (fun k (i:Int)=>i=(k:Int)/\k<=s.2.2.length/\∀ j:Int,0<=j->j<k->(fr s.2.2 j).1≠q) _ s.2.2.length ?_ ?_ ⟨rfl,by omega,fun j h0 h1=>by omega⟩
 ·rintro k i hk ⟨rfl,_,hj⟩
  have hfk:gl (0,0,0) s.2.2 (k:Int).toNat=fr s.2.2 k:=rfl
  rw[ab,ab,hfk,ah]
  by_cases hf:(fr s.2.2 k).1=q
  ·rw[AA hf]
   refine .inr ⟨_,rfl,oJ rfl fun he=> ?_⟩
   have:(k:Int)∈owned s.2.2 q:=B6.2 ⟨⟨by omega,by omega⟩,hf⟩
   rw[he] at this;cases this
  ·rw[AE hf]
   refine .inl ⟨_,rfl,by omega,by omega,fun j j0 j1=> ?_⟩
   by_cases WC:j=k
   ·rw[WC];exact hf
   ·exact hj j j0 (by omega)
 ·rintro i ⟨rfl,_,hj⟩
  rw[af]
  refine⟨_,rfl,B5 fun he=> ?_⟩
  obtain⟨x,hx⟩:=List.exists_mem_of_ne_nil _ he
  obtain⟨⟨x0,x1⟩,x2⟩:=B6.1 hx
  exact hj x x0 x1 x2
variable {a:Int}
theorem EP (h:VS s) (h0:0<=a) (h1:a<s.2.1.length):0<=a / sz s.1/\a / sz s.1<s.2.2.length:=
 ⟨Int.ediv_nonneg h0 (by have:=BU s.1;omega),(AFS (BU s.1)).2 (by rw[<-h.w];exact h1)⟩
theorem AL5 {s:Int} (hs:3<=s/\s<=8) (h0:0<=a) (h1:a<=9223372036854775807):xE .and a (sz s-1)=a%sz s:=AKR s.toNat (by omega) h0 h1
def VR:Option Int->Int×Int
 |some a=>(a,0)
 |none=>(0,2)
theorem bW (h:VS s) {k:Int} (h0:0<=a) (h1:a<s.2.1.length) (hu:(fr s.2.2 (a / sz s.1)).1≠-1) (k0:0<=k) (k1:k<=9223372036854775807) (hl:Pa s.2.2 (a / sz s.1) l):
  AX s a k=some (VR (CM (sz s.1) l (a%sz s.1+k))):=by
 have W7:=VS.IK h
 have hn:=h.n.2
 obtain⟨z1,z2⟩:=MF h.sh
 obtain⟨f0,f1⟩:=EP h h0 h1
 have m0:=oA a (show sz s.1≠0 by omega)
 have m1:=u4 a (show 0<sz s.1 by omega)
 have MO:gl (0,0,0) s.2.2 (a / sz s.1).toNat=fr s.2.2 (a / sz s.1):=rfl
 unfold AX za5
 rw[af,af,af,AA trivial,AA trivial,JK h.sh,AA ⟨f0,f1⟩,MO,AE hu,lP,ah (e:=sz s.1),ah (e:=sz s.1-1),AL5 h.sh h0 (by omega)]
 refine LI (fun m (st:Int×Int×Int)=>(0<=st.1/\st.1<=k)/\0<=st.2.2/\st.2.2<sz s.1/\∃ l2,l2.length=m/\l2≠[]/\Pa s.2.2 st.2.1 l2/\CM (sz s.1) l2 (st.2.2+st.1)=CM (sz s.1) l (a%sz s.1+k)) (n:=l.length) ?_ ⟨⟨k0,YT _⟩,m0,m1,l,rfl, ?_,hl,rfl⟩
 ·rintro m ⟨k',f,at'⟩ ⟨⟨g0,g7⟩,g1,g2,l2,g3,g6,g4,g5⟩
  simp only at g0 g7 g1 g2 g4 g5 ⊢
  rw[ah (e:=sz s.1-at'),HP]
  cases l2 with
  |nil=>exact absurd rfl g6
  |cons b r=>
   obtain⟨rfl,i0,i1,i2⟩:=g4
   have VY:(gl (0,0,0) s.2.2 f.toNat).2.2=nx s.2.2 f:=(HS i0 i1).symm
   have fm:=II h.sh i0 (show f<=64 by omega)
   rw[CM] at g5
   by_cases hk:k' ≥sz s.1-at'
   ·rw[AA hk,AA trivial,AA ⟨i0,i1⟩,VY,ah]
    rw[af] at g5
    by_cases hx:nx s.2.2 f= -1
    ·rw[AA hx]
     left
     rw[hx] at i2
     have:r=[]:=i2.fn (show Pa s.2.2 (-1) [] from rfl)
     subst this
     rw[<-g5]
     rfl
    ·rw[AE hx]
     right
     refine⟨m-1,_,by simp at g3;omega,rfl,⟨by simp only;omega,by simp only;omega⟩,by simp only;omega,by simp only;omega,r,by simp at g3;omega, ?_,i2, ?_⟩
     ·rintro rfl;rw[Pa] at i2;exact hx i2
     ·simp only;rw[<-g5];congr 1;omega
   ·rw[AE hk,AA trivial,ah (e:=f*sz s.1),ah (e:=f*sz s.1+at'),ah]
    rw[ab] at g5
    left
    rw[<-g5]
    show some _=some _
    congr 2
    show _=(_,_)
    congr 1;omega
 ·rintro rfl;rw[Pa] at hl;omega
def Has (s:Sp) (i:AI) (l:List Int):Prop:=(i.2.2.2.2=0/\l=[])\/(i.2.2.2.2≠0/\Pa s.2.2 i.2.2.1 l)
structure X_ (s:Sp) (i:AI) (l d r0:List Int) (fs:List Fr) (F L:Int):Prop where
 vs:VS (s.1,s.2.1,fs)
 len:fs.length=s.2.2.length
 split:C1 s.2.2=d++r0
 fre:C1 fs=r0
 path:(l++d=[]/\F= -1/\L= -1)\/(l++d≠[]/\Pa fs F (l++d)/\(l++d).getLast? =some L/\(fr fs F).1=i.1/\(fr fs F).2.1=i.2.1*4294967296+i.1)
 own:(owned fs i.1).length=(l++d).length
 oth:∀ q,q≠i.1->q≠-1->owned fs q=owned s.2.2 q
 frs:∀ x:Int,0<=x->x<s.2.2.length->(fr s.2.2 x).1≠-1->(fr s.2.2 x).1≠i.1->fr fs x=fr s.2.2 x
variable {fs:List Fr}
theorem Pa.head {i:Int} (h:Pa fs i l) (hl:l≠[]):0<=i/\i<fs.length/\i∈l:=by
 cases l with
 |nil=>exact absurd rfl hl
 |cons a r=>obtain⟨rfl,h0,h1,_⟩:=h;exact⟨h0,h1,by simp⟩
theorem X_.step {d r:List Int} {F L:Int} (h:X_ s i l d (f::r) fs F L) (q0:0<=i.1) (q1:i.1<=4294967295) (b0:0<=i.2.1) (b1:i.2.1<4):
  (F= -1->X_ s i l (d++ [f]) r (fs.set f.toNat (i.1,i.2.1*4294967296+i.1, -1)) f f)∧
  (F≠-1->(0<=L/\L<fs.length)/\X_ s i l (d++ [f]) r ((fs.set f.toNat (i.1,i.2.1*4294967296+i.1, -1)).set L.toNat
   ((fr (fs.set f.toNat (i.1,i.2.1*4294967296+i.1, -1)) L).1,(fr (fs.set f.toNat (i.1,i.2.1*4294967296+i.1, -1)) L).2.1,f)) F f):=by
 obtain⟨⟨f0,f1⟩,f2,f3⟩:=WY h.fre
 obtain⟨v1,nx1⟩:=h.vs.take (f:=f) (o:=i.1) (b:=i.2.1) f0 f1 f2 q0 q1 b0 b1
 simp only at v1 nx1
 obtain⟨o1,o2,o3⟩:=AKZ (fs:=fs) (o:=i.1) (st:=i.2.1*4294967296+i.1) h.fre (by omega)
 have MO:∀ x:Int,0<=x->fr (fs.set f.toNat (i.1,i.2.1*4294967296+i.1, -1)) x=if x=f then (i.1,i.2.1*4294967296+i.1, -1) else fr fs x:=fun x hx=>YI f0 f1 hx
 have mA:=(h.vs.free (i:=f) f0 f1 f2).1
 have nxf:nx (fs.set f.toNat (i.1,i.2.1*4294967296+i.1, -1)) f= -1:=by
  rw[nx1 f f0 f1,HS f0 f1];rw[show fr fs f=_ from mA]
 have pf:Pa (fs.set f.toNat (i.1,i.2.1*4294967296+i.1, -1)) f [f]:=⟨rfl,f0,by simpa using f1,nxf⟩
 have ATT:C1 s.2.2=(d++ [f])++r:=by rw[h.split];simp
 have A1M:∀ x:Int,0<=x->x<s.2.2.length->(fr s.2.2 x).1≠-1->(fr s.2.2 x).1≠i.1->fr (fs.set f.toNat (i.1,i.2.1*4294967296+i.1, -1)) x=fr s.2.2 x:=by
  intro x x0 x1 x2 x3
  have hx:=h.frs x x0 x1 x2 x3
  rw[MO x x0,AE,hx]
  rintro rfl
  rw[hx] at f2;exact x2 f2
 refine⟨fun hF=> ?_,fun hF=> ?_⟩
 ·have VJ:l++d=[]:=by
   rcases h.path with h1|h1
   ·exact h1.1
   ·have:=(Pa.head h1.2.1 h1.1).1;omega
  refine⟨v1,by simp [h.len],ATT,o1,.inr ?_, ?_,fun q h1 h2=>(o3 q h1 h2).trans (h.oth q h1 h2),A1M⟩
  ·rw[<-I0,VJ,dR,MO f f0,AA rfl]
   exact⟨by simp,pf,rfl,rfl,rfl⟩
  ·rw[o2,h.own,←I0,VJ];rfl
 ·rcases h.path with h1|⟨h1,h2,h3,h4,h5⟩
  ·exact absurd h1.2.1 hF
  obtain⟨l1,l2⟩:=Pa.last h2 h3
  obtain⟨L0,L1⟩:=Pa.mem h2 l2
  obtain⟨F0,F1,F2⟩:=Pa.head h2 h1
  have C6:=h.vs.owner h2 L l2
  simp only at C6
  rw[h4,h5] at C6
  have hLf:L≠f:=by rintro rfl;rw[C6.1] at f2;omega
  have e1:fr (fs.set f.toNat (i.1,i.2.1*4294967296+i.1, -1)) L=fr fs L:=by rw[MO L L0,AE hLf]
  have e2:fr (fs.set f.toNat (i.1,i.2.1*4294967296+i.1, -1)) f=(i.1,i.2.1*4294967296+i.1, -1):=by rw[MO f f0,AA rfl]
  have hlen:(fs.set f.toNat (i.1,i.2.1*4294967296+i.1, -1)).length=fs.length:=by simp
  obtain⟨v2,p2⟩:=v1.link (a:=L) (f:=f) (lf:=[f]) L0 (by simp only;omega) f0 (by simp only;omega) (by simp only;rw[e1,C6.1];omega) (by simp only;rw[nx1 L L0 L1];exact l1)
   (by simp only;rw[e1,e2,C6.1]) (by simp only;rw[e1,e2,C6.2]) (by
    simp only
    intro j j0 j1 hj
    rw[nx1 j j0 (by omega)] at hj
    have CW:nx fs j≠-1:=by omega
    rw[HS j0 (by omega)] at hj CW
    rcases h.vs.fr j j0 (by simp only;omega) with ⟨g1,_⟩|g1
    ·rw[show fr fs j=_ from g1] at CW;exact CW rfl
    ·have:=(g1.2.2.2.2 CW).1
     simp only at this
     rw[hj,f2] at this
     have:=g1.1.1
     simp only at this
     omega) pf (by simp [hLf])
  simp only at v2 p2
  have ow:∀ q,owned ((fs.set f.toNat (i.1,i.2.1*4294967296+i.1, -1)).set L.toNat ((fr (fs.set f.toNat (i.1,i.2.1*4294967296+i.1, -1)) L).1,(fr (fs.set f.toNat (i.1,i.2.1*4294967296+i.1, -1)) L).2.1,f)) q=owned (fs.set f.toNat (i.1,i.2.1*4294967296+i.1, -1)) q:=fun q=>by
   refine AL0 L0 (by omega) ?_ q
   rfl
  refine⟨⟨L0,L1⟩,v2,by simp [h.len],ATT, ?_,.inr ⟨by simp, ?_,by simp, ?_, ?_⟩, ?_, ?_, ?_⟩
  ·exact (ow (-1)).trans o1
  ·have:=p2 (l++d) F (h2.congr (by simp) nx1)
   rw[AA l2] at this
   rw[<-I0];exact this
  ·rw[YI L0 (by omega) F0]
   split
   ·rw[e1,C6.1]
   ·rw[MO F F0,AE]
    ·exact h4
    ·rintro rfl;rw[h4] at f2;omega
  ·rw[YI L0 (by omega) F0]
   split
   ·rw[e1];exact C6.2
   ·rw[MO F F0,AE]
    ·exact h5
    ·rintro rfl;rw[h4] at f2;omega
  ·rw[ow,o2,h.own];simp;omega
  ·intro q g1 g2
   rw[ow,o3 q g1 g2];exact h.oth q g1 g2
  ·intro x x0 x1 x2 x3
   rw[YI L0 (by omega) x0,AE]
   ·exact A1M x x0 x1 x2 x3
   ·rintro rfl
    have:=A1M x x0 x1 x2 x3
    rw[e1] at this
    rw[<-this,C6.1] at x3
    exact x3 rfl
def qC (q st:Int) (x:List Fr×Int×Int):List Fr×Int×Int:=match C1 x.1 with
 | []=>x
 |f::_=>if x.2.1= -1 then (x.1.set f.toNat (q,st, -1),f,f) else
   ((x.1.set f.toNat (q,st, -1)).set x.2.2.toNat ((fr (x.1.set f.toNat (q,st, -1)) x.2.2).1,(fr (x.1.set f.toNat (q,st, -1)) x.2.2).2.1,f),x.2.1,f)
def gw (q st:Int):Nat->List Fr×Int×Int->List Fr×Int×Int
 |0,x=>x
 |k+1,x=>qC q st (gw q st k x)
structure Grown (s:Sp) (i:AI) (n:Int) (t:Sp) (j:AI) (a:Int) (l l' :List Int):Prop where
 vs:VS t
 fit:DB t j
 sh:t.1=s.1
 ws:t.2.1=s.2.1
 len:t.2.2.length=s.2.2.length
 seq:j.1=i.1
 XK:j.2.1=i.2.1
 words:j.2.2.2.2=i.2.2.2.2+n
 first:i.2.2.2.2≠0->j.2.2.1=i.2.2.1
 has:Has s i l
 path:Pa t.2.2 j.2.2.1 l'
 more:l' =l++(C1 s.2.2).take (l'.length-l.length)
 fre:C1 t.2.2=(C1 s.2.2).drop (l'.length-l.length)
 A1N:(l.length:Int)=cl (sz s.1) i.2.2.2.2
 AI4 :(l'.length:Int)=cl (sz s.1) (i.2.2.2.2+n)
 own:(owned t.2.2 i.1).length=l'.length
 oth:∀ q,q≠i.1->q≠-1->owned t.2.2 q=owned s.2.2 q
 frs:∀ x:Int,0<=x->x<s.2.2.length->(fr s.2.2 x).1≠-1->(fr s.2.2 x).1≠i.1->fr t.2.2 x=fr s.2.2 x
 FZ:CM (sz s.1) l' i.2.2.2.2=some a
 gw:(t.2.2,j.2.2.1,j.2.2.2.1)=gw i.1 (i.2.1*4294967296+i.1) (cl (sz s.1) (i.2.2.2.2+n)-cl (sz s.1) i.2.2.2.2).toNat (s.2.2,i.2.2.1,i.2.2.2.1)
theorem DB.has (h:DB s i) (hv:VS s):∃ l,Has s i l/\(l.length:Int)=cl (sz s.1) i.2.2.2.2/\(i.2.2.2.2≠0->l.length=(owned s.2.2 i.1).length/\l.getLast? =some i.2.2.2.1/\l≠[]):=by
 rcases h.2 with ⟨h1,h2,h3⟩|⟨h1,h2,h3,h4,l,h5,h6,h7,h8⟩
 ·exact⟨[],.inl ⟨h1,rfl⟩,by rw[h1,SH (BU _)];rfl,fun h=>absurd h1 h⟩
 ·refine⟨l,.inr ⟨h1,h5⟩,h6,fun _=>⟨h7,h8, ?_⟩⟩
  rintro rfl;simp at h8
theorem AI5 (h:VS s) (h0:0<=i.2.2.2.2) (h1:i.2.2.2.2<=16384) (n0:0<=n) (n1:n<=1000):HU s i n=some (cl (sz s.1) (i.2.2.2.2+n)-cl (sz s.1) i.2.2.2.2):=by
 have z:=BU s.1
 have z2:=MF h.sh
 have c1:=J7 (n:=i.2.2.2.2+n) z
 have c2:=sT z (show 0<=i.2.2.2.2+n by omega)
 have c3:=sT z h0
 have c4:=J7 (n:=i.2.2.2.2) z
 have b1:cl (sz s.1) (i.2.2.2.2+n)*1<=cl (sz s.1) (i.2.2.2.2+n)*sz s.1:=AOM (by omega) c2
 have b2:cl (sz s.1) i.2.2.2.2*1<=cl (sz s.1) i.2.2.2.2*sz s.1:=AOM (by omega) c3
 unfold HU
 rw[ah (e:=i.2.2.2.2+n),ANM h.sh (by omega) (by omega),V1 h h0 (by omega)]
 simp only[AW]
 rw[ah]
theorem AEU (h:VS s) (hf:DB s i) (C6:i.2.2.2.2=0->owned s.2.2 i.1=[]) (n0:1<=n) (n1:n<=48):
  (((C1 s.2.2).length:Int)<cl (sz s.1) (i.2.2.2.2+n)-cl (sz s.1) i.2.2.2.2/\C4 s i n=some ((0,0,0,0,0),0,4,s.2.1,s.2.2))∨
  (cl (sz s.1) (i.2.2.2.2+n)-cl (sz s.1) i.2.2.2.2<=(C1 s.2.2).length/\∃ t j a l l',C4 s i n=some (j,a,0,t.2.1,t.2.2)/\Grown s i n t j a l l'):=by
 have W7:=VS.IK h
 have hn:=h.n.2
 have z:=BU s.1
 have z2:=MF h.sh
 obtain⟨⟨q0,q1,b0,b1,w0,w1⟩,n6⟩:=id hf
 obtain⟨l,hl1,b_,hl3⟩:=hf.has h
 have eB:=ANN z (show i.2.2.2.2<=i.2.2.2.2+n by omega)
 have A4S:(C1 s.2.2).length<=s.2.2.length:=V0 s.2.2 (-1)
 unfold C4
 rw[AI5 h w0 (by omega) (by omega) (by omega),wD hn]
 simp only[AW]
 by_cases hc:cl (sz s.1) (i.2.2.2.2+n)-cl (sz s.1) i.2.2.2.2>((C1 s.2.2).length:Int)
 ·rw[AA hc];exact .inl ⟨hc,rfl⟩
 rw[AE hc]
 refine .inr ⟨by omega, ?_⟩
 have zI:X_ s i l [] (C1 s.2.2) s.2.2 i.2.2.1 i.2.2.2.1:=by
  refine⟨h,rfl,rfl,rfl, ?_, ?_,fun q _ _=>rfl,fun x _ _ _ _=>rfl⟩
  ·rcases hl1 with ⟨g1,rfl⟩|⟨g1,g2⟩
   ·rcases n6 with ⟨_,g3,g4⟩|⟨g3,_⟩
    ·exact .inl ⟨rfl,g3,g4⟩
    ·exact absurd g1 g3
   ·rcases n6 with ⟨g3,_⟩|⟨_,g3,g4,g5,_⟩
    ·exact absurd g3 g1
    ·rw[FP]
     exact .inr ⟨(hl3 g1).2.2,g2,(hl3 g1).2.1,g4,g5⟩
  ·rw[FP]
   by_cases hw:i.2.2.2.2=0
   ·rw[C6 hw]
    rcases hl1 with ⟨g1,rfl⟩|⟨g1,_⟩
    ·rfl
    ·exact absurd hw g1
   ·exact (hl3 hw).1.symm
 generalize AZK:cl (sz s.1) (i.2.2.2.2+n)-cl (sz s.1) i.2.2.2.2=need at hc ⊢
 have hx:=PW (β:=((Int×Int×Int×Int×Int)×Int×Int×(List (BitVec 64))×(List (Int×Int×Int)))) (f:=fun s1:Int×(Int×Int×Int×Int×Int)×(List (BitVec 64))×(List (Int×Int×Int))=>
   if s1.1>0 then
   (IN (s.1,s1.2.2) s1.2.1.1 s1.2.1.2.1).bind (fun r3=>
   if s1.2.1.2.2.1=(-1) then
   some (Sum.inl ((AG (s1.1-1),(s1.2.1.1,s1.2.1.2.1,r3.1,r3.1,s1.2.1.2.2.2.2),r3.2.1,r3.2.2)))
   else if 0<=s1.2.1.2.2.2.1/\s1.2.1.2.2.2.1<(r3.2.2.length:Int) then
   some (Sum.inl ((AG (s1.1-1),(s1.2.1.1,s1.2.1.2.1,s1.2.1.2.2.1,r3.1,s1.2.1.2.2.2.2),r3.2.1,r3.2.2.set s1.2.1.2.2.2.1.toNat ((gl (0,0,0) r3.2.2 s1.2.1.2.2.2.1.toNat).1,((gl (0,0,0) r3.2.2 s1.2.1.2.2.2.1.toNat).2).1,r3.1))))
   else none)
   else Option.map Sum.inr (if True then
   (AX (s.1,s1.2.2) (AG (s1.2.1.2.2.1*2 ^ min (BitVec.ofInt 64 s.1).toNat 64)) i.2.2.2.2).bind (fun r4=>
   some (((s1.2.1.1,s1.2.1.2.1,s1.2.1.2.2.1,s1.2.1.2.2.2.1,AG (s1.2.1.2.2.2.2+n)),r4.1,0,s1.2.2.1,s1.2.2.2)))
   else none))
  (fun m st=>st.1=(m:Int)/\(m:Int)<=need/\∃ d r0,(d.length:Int)+m=need/\st.2.1.1=i.1/\st.2.1.2.1=i.2.1/\st.2.1.2.2.2.2=i.2.2.2.2/\st.2.2.1=s.2.1/\X_ s i l d r0 st.2.2.2 st.2.1.2.2.1 st.2.1.2.2.2.1/\(i.2.2.2.2≠0->st.2.1.2.2.1=i.2.2.1)/\(st.2.2.2,st.2.1.2.2.1,st.2.1.2.2.2.1)=gw i.1 (i.2.1*4294967296+i.1) d.length (s.2.2,i.2.2.1,i.2.2.2.1))
  (fun b=>∃ t j a l',b=(j,a,0,t.2.1,t.2.2)/\Grown s i n t j a l l') ?_ need.toNat (need,i,s.2.1,s.2.2) ⟨by omega,by omega,[],C1 s.2.2,by simp;omega,rfl,rfl,rfl,rfl,zI,fun _=>rfl,rfl⟩
 ·obtain⟨b,hb,t,j,a,l',rfl,hg⟩:=hx
  exact⟨t,j,a,l,l',hb,hg⟩
 ·rintro m ⟨k,⟨sq,bt,F,L,wd⟩,ws,fs⟩ ⟨e1,e2,d,r0,e3,e4,e5,e6,e7,hg,WZ,hgw⟩
  simp only at e1 e4 e5 e6 e7 hg WZ hgw ⊢
  subst e1 e4 e5 e6 e7
  by_cases hm:m=0
  ·subst hm
   left
   rw[af,AA trivial,JK h.sh]
   have hld:((l++d).length:Int)=cl (sz s.1) (i.2.2.2.2+n):=by simp;omega
   have aA:0<cl (sz s.1) (i.2.2.2.2+n):=AER z (by omega)
   rcases hg.path with h1|⟨g1,g2,g3,g4,g5⟩
   ·rw[h1.1] at hld;simp at hld;omega
   obtain⟨F0,F1,_⟩:=Pa.head g2 g1
   have hFz:=II h.sh F0 (show F<=64 by have:=hg.len;omega)
   have hFw:F*sz s.1<s.2.1.length:=by
    rw[h.w]
    exact AFV (by have:=hg.len;omega) z
   have ha:=PO z (g:=F) (o:=0) (by omega) z
   rw[b7] at ha
   have hcs:=J7 (n:=i.2.2.2.2+n) z
   obtain⟨g,hg1,vS⟩:=LN z (l:=l++d) (off:=i.2.2.2.2) w0 (by rw[hld];omega)
   have hgo:=bW hg.vs (a:=F*sz s.1) (k:=i.2.2.2.2) hFz.1 hFw (by simp only;rw[ha.1,g4];omega) w0 (by omega) (l:=l++d) (by simp only;rw[ha.1];exact g2)
   simp only at hgo
   rw[ha.2,xD,vS] at hgo
   rw[ah (e:=F*sz s.1),hgo,ah]
   refine⟨_,rfl,(s.1,s.2.1,fs),(i.1,i.2.1,F,L,i.2.2.2.2+n),_,l++d,rfl, ?_⟩
   have lE:=Pa.length g2
   have hlw:i.2.2.2.2+n<=s.2.1.length:=by
    have:cl (sz s.1) (i.2.2.2.2+n)*sz s.1<=s.2.2.length*sz s.1:=rE (by have:=hg.len;omega) (by omega)
    rw[h.w];omega
   have N3:(l++d).length-l.length=d.length:=by simp
   refine⟨hg.vs,⟨⟨q0,q1,b0,b1,by simp only;omega,hlw⟩,.inr ⟨by simp only;omega,⟨F0,by simp only;omega⟩,g4,g5,l++d,g2,hld,hg.own.symm,g3⟩⟩,rfl,rfl,hg.len,rfl,rfl,rfl,WZ,hl1,g2, ?_, ?_,b_,hld,hg.own,hg.oth,hg.frs,vS, ?_⟩
   ·rw[N3,hg.split,List.take_left]
   ·rw[N3,hg.split,List.drop_left];exact hg.fre
   ·have e:need.toNat=d.length:=by omega
    rw[AZK,e];exact hgw
  ·right
   rw[ab]
   have vG:0<r0.length:=by
    have:=KL List.length hg.split
    simp at this
    omega
   cases r0 with
   |nil=>simp at vG
   |cons f r=>
    rw[AXG (by have:=hg.len;simp only;omega) (show C1 (s.1,s.2.1,fs).2.2=f::r from hg.fre) q0 q1 b0 b1]
    simp only[AW]
    obtain⟨s1,s2⟩:=hg.step q0 q1 b0 b1
    rw[ah (e:=(m:Int)-1)]
    have M_:gw i.1 (i.2.1*4294967296+i.1) (d++ [f]).length (s.2.2,i.2.2.1,i.2.2.2.1)=qC i.1 (i.2.1*4294967296+i.1) (fs,F,L):=by
     rw[PQ]
     show qC _ _ (gw _ _ _ _)=_
     rw[hgw]
    have AEV:C1 fs=f::r:=hg.fre
    by_cases hF:F= -1
    ·rw[AA hF]
     refine⟨m-1,_,by omega,rfl,by simp only;omega,by omega,d++ [f],r,by simp;omega,rfl,rfl,rfl,rfl,s1 hF,fun hw=> ?_,by rw[M_];simp only[qC,AEV,AA hF]⟩
     have:=WZ hw
     rcases n6 with ⟨g1,_⟩|⟨_,g1,_⟩
     ·exact absurd g1 hw
     ·omega
    ·obtain⟨⟨s3,s4⟩,s5⟩:=s2 hF
     rw[AE hF,AA ⟨s3,by simpa using s4⟩]
     exact⟨m-1,_,by omega,rfl,by simp only;omega,by omega,d++ [f],r,by simp;omega,rfl,rfl,rfl,rfl,s5,WZ,by rw[M_];simp only[qC,AEV,AE hF];rfl⟩
variable {l':List Int} {j:AI} {t:Sp}
theorem Grown.unique {t2:Sp} {j2:AI} {a2:Int} {l2 l2':List Int} (g:Grown s i n t j a l l') (h:Grown s i n t2 j2 a2 l2 l2'):t=t2/\j=j2/\a=a2:=by
 have e:=g.gw.trans h.gw.symm
 obtain⟨t0,t1,fs⟩:=t
 obtain⟨u0,u1,fs2⟩:=t2
 obtain⟨q,b,F,L,w⟩:=j
 obtain⟨q2,b2,F2,L2,w2⟩:=j2
 simp only[DG] at e
 obtain⟨rfl,rfl,rfl⟩:=e
 obtain rfl:=g.sh.trans h.sh.symm
 obtain rfl:=g.ws.trans h.ws.symm
 obtain rfl:=g.seq.trans h.seq.symm
 obtain rfl:=g.XK.trans h.XK.symm
 obtain rfl:=g.words.trans h.words.symm
 obtain rfl:=g.path.fn h.path
 exact⟨rfl,rfl,HO (g.FZ.symm.trans h.FZ)⟩
theorem ATU (s:Sp) (i:AI) (n:Int):
  (¬(VS s/\DB s i/\1<=n/\n<=48)/\DR s i n=some ((0,[],[]),(0,0,0,0,0),0,1))∨
  ((VS s/\DB s i/\1<=n/\n<=48)/\(
   (i.2.2.2.2=0/\owned s.2.2 i.1≠[]/\DR s i n=some ((0,[],[]),(0,0,0,0,0),0,5))∨
   ((i.2.2.2.2=0->owned s.2.2 i.1=[])/\(
    (((C1 s.2.2).length:Int)<cl (sz s.1) (i.2.2.2.2+n)-cl (sz s.1) i.2.2.2.2/\DR s i n=some ((0,[],[]),(0,0,0,0,0),0,4))∨
    (cl (sz s.1) (i.2.2.2.2+n)-cl (sz s.1) i.2.2.2.2<=(C1 s.2.2).length/\∃ t j a l l',DR s i n=some (t,j,a,0)/\Grown s i n t j a l l'))))):=by
 unfold DR za7
 obtain⟨b,h1,h2⟩:=AET s i
 rw[h1]
 simp only[AW]
 by_cases hb:b=true
 rotate_left
 ·rw[AA (by simpa using hb)]
  exact .inl ⟨fun h=>hb (h2.2 ⟨h.1,h.2.1⟩),rfl⟩
 obtain⟨hv,hf⟩:=h2.1 hb
 rw[AE (by simp [hb])]
 by_cases c1:n<1
 ·rw[AA c1];exact .inl ⟨fun h=>by omega,rfl⟩
 rw[AE c1]
 by_cases c2:n>48
 ·rw[AA c2];exact .inl ⟨fun h=>by omega,rfl⟩
 rw[AE c2]
 refine .inr ⟨⟨hv,hf,by omega,by omega⟩, ?_⟩
 have key:(i.2.2.2.2=0->owned s.2.2 i.1=[])->∃ x,(BG s).bind (fun r5=>
   (C4 r5 i n).bind (fun r6=>
   if ¬r6.2.2.1=0 then
   some (((0,[],[]),(0,0,0,0,0),0,r6.2.2.1))
   else some (((r5.1,r6.2.2.2),r6.1,r6.2.1,0))))=some x∧
    ((((C1 s.2.2).length:Int)<cl (sz s.1) (i.2.2.2.2+n)-cl (sz s.1) i.2.2.2.2/\x=((0,[],[]),(0,0,0,0,0),0,4))∨
    (cl (sz s.1) (i.2.2.2.2+n)-cl (sz s.1) i.2.2.2.2<=(C1 s.2.2).length/\∃ t j a l l',x=(t,j,a,0)/\Grown s i n t j a l l')):=by
  intro C6
  rw[VS.copy hv]
  simp only[AW]
  rcases AEU hv hf C6 (n:=n) (by omega) (by omega) with ⟨g1,g2⟩|⟨g1,t,j,a,l,l',g2,g3⟩
  ·rw[g2]
   exact⟨_,rfl,.inl ⟨g1,rfl⟩⟩
  ·rw[g2]
   simp only[AW]
   rw[AE (by simp)]
   refine⟨_,rfl,.inr ⟨g1,t,j,a,l,l', ?_,g3⟩⟩
   rw[<-g3.sh]
 by_cases hw:i.2.2.2.2=0
 ·rw[AA hw]
  obtain⟨c,g1,g2⟩:=ANP (s:=s) hv.n.2 i.1
  rw[g1]
  simp only[AW]
  by_cases hc:c=true
  ·rw[AA hc];exact .inl ⟨hw,g2.1 hc,rfl⟩
  ·rw[AE hc]
   have C6:owned s.2.2 i.1=[]:=AA5 fun h=>hc (g2.2 h)
   obtain⟨x,k1,k2⟩:=key fun _=>C6
   rw[k1]
   refine .inr ⟨fun _=>C6, ?_⟩
   rcases k2 with ⟨k2,rfl⟩|⟨k2,t,j,a,l,l',rfl,k3⟩
   ·exact .inl ⟨k2,rfl⟩
   ·exact .inr ⟨k2,t,j,a,l,l',rfl,k3⟩
 ·rw[AE hw]
  obtain⟨x,k1,k2⟩:=key fun h=>absurd h hw
  rw[k1]
  refine .inr ⟨fun h=>absurd h hw, ?_⟩
  rcases k2 with ⟨k2,rfl⟩|⟨k2,t,j,a,l,l',rfl,k3⟩
  ·exact .inl ⟨k2,rfl⟩
  ·exact .inr ⟨k2,t,j,a,l,l',rfl,k3⟩
theorem YA {z:Int} (hz:0<z):∀ {l:List Int} {off a:Int},0<=off->CM z l off=some a->a / z∈l
 | [],_,_,_,h=>by cases h
 |g::r,off,a,h0,h=>by
  rw[CM] at h
  split at h
  ·rename_i h1
   simp only[A_] at h
   subst h
   rw[(PO hz h0 h1).1];simp
  ·exact YB _ (YA hz (by omega) h)
theorem F9 {z:Int} (hz:0<z):∀ {l:List Int} {o1 o2 a:Int},l.Nodup->0<=o1->0<=o2->CM z l o1=some a->CM z l o2=some a->o1=o2
 | [],_,_,_,_,_,_,h,_=>by cases h
 |g::r,o1,o2,a,hd,h1,h2,e1,e2=>by
  obtain⟨n1,n2⟩:=VE.1 hd
  rw[CM] at e1 e2
  by_cases c1:o1<z
  ·rw[AA c1] at e1
   simp only[A_] at e1
   by_cases c2:o2<z
   ·rw[AA c2] at e2
    simp only[A_] at e2
    omega
   ·rw[AE c2] at e2
    have:=YA hz (by omega) e2
    rw[<-e1,(PO hz h1 c1).1] at this
    exact absurd this n1
  ·rw[AE c1] at e1
   by_cases c2:o2<z
   ·rw[AA c2] at e2
    simp only[A_] at e2
    have:=YA hz (by omega) e1
    rw[<-e2,(PO hz h2 c2).1] at this
    exact absurd this n1
   ·rw[AE c2] at e2
    have:=F9 hz n2 (by omega) (by omega) e1 e2
    omega
theorem R9:∀ {l m:List Int},l.Nodup->(∀ x∈l,x∈m)->l.length<=m.length
 | [],_,_,_=>by simp
 |a::r,m,hd,h=>by
  obtain⟨n1,n2⟩:=VE.1 hd
  have ha:=h a (by simp)
  have:=R9 (m:=m.erase a) n2 (fun x hx=>(List.mem_erase_of_ne (show x≠a from fun e=>n1 (e ▸ hx))).2 (h x (by simp [hx])))
  rw[AR6 ha] at this
  have:0<m.length:=AR8 ha
  simp
  omega
def Y9 (r d:Int):BitVec 64:=BitVec.ofInt 64 ((1+r+d)*256+r*2)
variable {r:Int}
theorem wE {d:Int} (r0:0<=r) (r1:r<=15) (d0:0<=d) (d1:d<=32):D1 r d=some (Y9 r d,0):=by
 unfold D1
 rw[af,af,af,af,ah (e:=1+r),ah (e:=1+r+d),ah (e:=(1+r+d)*256),ah (e:=r*2),ah]
 rfl
structure ANQ (z:Int) (ws ws' :List (BitVec 64)) (l:List Int) (at' m:Int) (w:BitVec 64):Prop where
 len:ws'.length=ws.length
 head:∀ x,CM z l at' =some x->gl 0#64 ws' x.toNat=w
 vN:∀ k x,1<=k->k<=m->CM z l (at' +k)=some x->gl 0#64 ws' x.toNat=0#64
 oth:∀ x:Nat,(∀ k,0<=k->k<=m->CM z l (at' +k)≠some (x:Int))->gl 0#64 ws' x=gl 0#64 ws x
variable {e:Int}
theorem AXH (h:VS s) {d:Int} (a0:0<=a) (a1:a<s.2.1.length) (hu:(fr s.2.2 (a / sz s.1)).1≠-1) (hl:Pa s.2.2 (a / sz s.1) l)
  (r0:0<=r) (r1:r<=15) (d0:0<=d) (d1:d<=32) (he:CM (sz s.1) l (a%sz s.1+(r+d))=some e):
  ∃ ws,EI s a r d=some (0,ws,s.2.2)/\VS (s.1,ws,s.2.2)/\ANQ (sz s.1) s.2.1 ws l (a%sz s.1) (r+d) (Y9 r d):=by
 have W7:=VS.IK h
 have z:=BU s.1
 have m0:=oA a (show sz s.1≠0 by omega)
 have m1:=u4 a z
 have DY:=AEP z (by omega) he
 have CW:l≠[]:=by rintro rfl;cases he
 have yP:CM (sz s.1) l (a%sz s.1)=some a:=by
  cases l with
  |nil=>exact absurd rfl CW
  |cons b q=>
   obtain⟨rfl,_⟩:=hl
   rw[CM,AA m1,tO,AB9]
 have hpl:∀ k,0<=k->k<=r+d->∃ x,CM (sz s.1) l (a%sz s.1+k)=some x/\0<=x/\x<s.2.1.length/\(fr s.2.2 (x / sz s.1)).1≠-1:=by
  intro k k0 k1
  obtain⟨g,hg1,vS⟩:=LN z (l:=l) (off:=a%sz s.1+k) (by omega) (by omega)
  have hm:=YA z (by omega) vS
  obtain⟨x0,x1⟩:=hl.mem hm
  refine⟨_,vS, ?_, ?_, ?_⟩
  ·have:=(AD9 z).1 x0;omega
  ·rw[h.w];exact (AFS z).1 x1
  ·rw[(h.owner hl _ hm).1];exact hu
 unfold EI
 rw[wE r0 r1 d0 d1,ah (e:=r+d)]
 simp only[AW]
 rw[AE (by simp),bW h a0 a1 hu (by omega) (by omega) hl,he]
 simp only[AW,VR]
 rw[AE (by simp),AA ⟨a0,a1⟩]
 have hx:=AK (β:=Int×List (BitVec 64)×List (Int×Int×Int)) (f:=fun s1:Int×List (BitVec 64)=>
   if s1.1<=r+d then
   (AX (s.1,s1.2,s.2.2) a s1.1).bind (fun r3=>
   if 0<=r3.1/\r3.1<(s1.2.length:Int) then
   some (Sum.inl ((AG (s1.1+1),s1.2.set r3.1.toNat (0#64))))
   else none)
   else some (Sum.inr ((0,s1.2,s.2.2))))
  (fun k st=>st.1=(k:Int)+1/\(k:Int)<=r+d/\VS (s.1,st.2,s.2.2)/\ANQ (sz s.1) s.2.1 st.2 l (a%sz s.1) k (Y9 r d))
  (fun b=>∃ ws,b=(0,ws,s.2.2)/\VS (s.1,ws,s.2.2)/\ANQ (sz s.1) s.2.1 ws l (a%sz s.1) (r+d) (Y9 r d)) (r+d).toNat ?_ ?_ (s:=(1,s.2.1.set a.toNat (Y9 r d)))
  ⟨rfl,by simp;omega,h.word a0 hu _, ?_⟩
 ·obtain⟨b,hb,ws,rfl,h1,h2⟩:=hx
  exact⟨ws,hb,h1,h2⟩
 ·rintro k ⟨q,ws⟩ hk ⟨h1,h2,h3,h4⟩
  simp only at h1 h3 h4 ⊢
  subst h1
  obtain⟨x,x0,x1,x2,x3⟩:=hpl (k+1) (by omega) (by omega)
  have hgo:=bW h3 (a:=a) (k:=(k:Int)+1) a0 (by simp only;rw[h4.len];exact a1) hu (by omega) (by omega) (l:=l) hl
  simp only at hgo
  rw[x0] at hgo
  rw[ab,hgo]
  simp only[AW,VR]
  rw[AA ⟨x1,by rw[h4.len];exact x2⟩,ah]
  refine .inl ⟨_,rfl,by simp only;omega,by omega,h3.word x1 x3 _,by simpa using h4.len,fun y hy=> ?_,fun j y j0 j1 hy=> ?_,fun y hy=> ?_⟩
  ·have hxy:y.toNat≠x.toNat:=by
    intro he
    rw[yP] at hy
    simp only[A_] at hy
    subst hy
    have:x=a:=by omega
    subst this
    have:=F9 z hl.nodup m0 (by omega) yP x0
    omega
   rw[DS (by rw[h4.len];omega),AE hxy]
   exact h4.head y hy
  ·rw[DS (by rw[h4.len];omega)]
   by_cases WC:j=k+1
   ·subst WC
    rw[x0] at hy
    simp only[A_] at hy
    rw[AA (by rw[hy])]
   ·split
    ·rfl
    ·exact h4.vN j y j0 (by omega) hy
  ·rw[DS (by rw[h4.len];omega),AE]
   ·exact h4.oth y fun j j0 j1=>hy j j0 (by omega)
   ·intro he
    exact hy (k+1) (by omega) (by omega) (by rw[x0];congr 1;omega)
 ·rintro⟨q,ws⟩ ⟨h1,h2,h3,h4⟩
  simp only at h1 h3 h4 ⊢
  rw[af]
  rw[show (((r+d).toNat:Nat):Int)=r+d from by omega] at h4
  exact⟨_,rfl,ws,rfl,h3,h4⟩
 ·refine⟨by simp,fun x hx=> ?_,fun k x k0 k1=>by simp at k1;omega,fun x hx=> ?_⟩
  ·rw[yP] at hx
   simp only[A_] at hx
   subst hx
   rw[DS (by omega),AA rfl]
  ·rw[DS (by omega),AE]
   rintro rfl
   exact hx 0 (by omega) (by simp) (by rw[b7,yP];congr 1;omega)
theorem AXI (h:VS s) {d:Int} (hm:EI s a r d=some (0,ws,s.2.2)):FL s a r d=some ((s.1,ws,s.2.2),0):=by
 unfold FL
 rw[VS.valid h,VS.copy h]
 simp only[AW]
 rw[AE (by simp),hm]
 simp only[AW]
 rw[AE (by simp)]
def DK (z:Int) (ws:List (BitVec 64)) (l:List Int):Int->List (Int×Int)->Int->Prop
 |at',[],w=>at' =w
 |at',o::r,w=>((0<=o.1/\o.1<=15)/\(0<=o.2/\o.2<=32))/\(∃ a,CM z l at' =some a/\gl 0#64 ws a.toNat=Y9 o.1 o.2)/\DK z ws l (at' +(1+o.1+o.2)) r w
theorem DK.le {z:Int} {ws:List (BitVec 64)} {l:List Int}:∀ {os:List (Int×Int)} {at' w:Int},DK z ws l at' os w->at' <=w
 | [],_,_,h=>by rw[DK] at h;omega
 |o::r,at',w,h=>by have:=h.2.2.le;have:=h.1;omega
theorem DK.CQ {z:Int} {ws ws' :List (BitVec 64)} {l l' :List Int}:∀ {os:List (Int×Int)} {at' w:Int},DK z ws l at' os w→
  (∀ p a,at' <=p->p<w->CM z l p=some a->CM z l' p=some a/\gl 0#64 ws' a.toNat=gl 0#64 ws a.toNat)->DK z ws' l' at' os w
 | [],_,_,h,_=>h
 |o::r,at',w,h,hk=>by
  obtain⟨h1,⟨a,h2,h3⟩,h4⟩:=h
  have:=h4.le
  obtain⟨k1,k2⟩:=hk at' a (by omega) (by omega) h2
  exact⟨h1,⟨a,k1,k2.trans h3⟩,h4.CQ fun p b p0 p1 hp=>hk p b (by omega) p1 hp⟩
theorem DK.snoc {z:Int} {ws:List (BitVec 64)} {l:List Int} {r d a:Int} (hr:0<=r/\r<=15) (hd:0<=d/\d<=32):∀ {os:List (Int×Int)} {at' w:Int},DK z ws l at' os w->CM z l w=some a->gl 0#64 ws a.toNat=Y9 r d→
  DK z ws l at' (os++ [(r,d)]) (w+(1+r+d))
 | [],at',w,h,ha,hw=>by
  rw[DK] at h
  subst h
  exact⟨⟨hr,hd⟩,⟨a,ha,hw⟩,rfl⟩
 |o::q,at',w,h,ha,hw=>⟨h.1,h.2.1,h.2.2.snoc hr hd ha hw⟩
def Full (s:Sp) (i:AI) (os:List (Int×Int)):Prop:=∃ l,Has s i l/\DK (sz s.1) s.2.1 l 0 os i.2.2.2.2
theorem Grown.other (h:VS s) (g:Grown s i n t j a l l') {p:AI} (hp:DB s p) (CW:p.1≠i.1):
  DB t p/\(∀ lp,Has s p lp->Has t p lp/\∀ x∈lp,(fr t.2.2 x).1=p.1):=by
 have C6:∀ lp,p.2.2.2.2≠0->Pa s.2.2 p.2.2.1 lp->(∀ x∈lp,fr t.2.2 x=fr s.2.2 x/\(fr t.2.2 x).1=p.1)/\Pa t.2.2 p.2.2.1 lp:=by
  intro lp hw hpa
  rcases hp.2 with ⟨h1,_⟩|⟨_,h2,h3,h4,_⟩
  ·exact absurd h1 hw
  ·have hx:∀ x∈lp,fr t.2.2 x=fr s.2.2 x/\(fr t.2.2 x).1=p.1:=by
    intro x hx
    obtain⟨x0,x1⟩:=hpa.mem hx
    have ho:=(h.owner hpa x hx).1
    rw[h3] at ho
    have:=hp.1.1
    have e:=g.frs x x0 x1 (by omega) (by omega)
    exact⟨e,by rw[e];exact ho⟩
   refine⟨hx,hpa.gT g.len fun x hm=> ?_⟩
   obtain⟨x0,x1⟩:=hpa.mem hm
   rw[HS x0 x1,HS x0 (by rw[g.len];exact x1),(hx x hm).1]
 refine⟨⟨by rw[g.ws];exact hp.1, ?_⟩, ?_⟩
 ·rcases hp.2 with h1|⟨h1,h2,h3,h4,lp,h5,h6,h7,h8⟩
  ·exact .inl h1
  ·obtain⟨k1,k2⟩:=C6 lp h1 h5
   have A6Z:lp≠[]:=by rintro rfl;simp at h8
   obtain⟨f0,f1,f2⟩:=Pa.head h5 A6Z
   refine .inr ⟨h1,by rw[g.len];exact h2, ?_, ?_,lp,k2,by rw[g.sh];exact h6, ?_,h8⟩
   ·rw[(k1 _ f2).1];exact h3
   ·rw[(k1 _ f2).1];exact h4
   ·rw[g.oth p.1 CW (by have:=hp.1.1;omega)];exact h7
 ·intro lp hlp
  rcases hlp with ⟨h1,rfl⟩|⟨h1,h2⟩
  ·exact⟨.inl ⟨h1,rfl⟩,fun x hx=>by cases hx⟩
  ·obtain⟨k1,k2⟩:=C6 lp h1 h2
   exact⟨.inr ⟨h1,k2⟩,fun x hx=>(k1 x hx).2⟩
theorem APW (h:VS s) (hf:DB s i) (hw:i.2.2.2.2≠0) {x:Int} (hx:x∈owned s.2.2 i.1) (hl:Has s i l):x∈l:=by
 rcases hl with ⟨h1,_⟩|⟨_,hp⟩
 ·exact absurd h1 hw
 rcases hf.2 with ⟨h1,_⟩|⟨_,_,h3,_,l2,h5,_,h7,_⟩
 ·exact absurd h1 hw
 have:=hp.fn h5
 subst this
 apply AA5
 intro hn
 have GR:∀ y∈l,y∈(owned s.2.2 i.1).erase x:=by
  intro y hy
  rw[(T5 _ _).mem_erase_iff]
  refine⟨fun e=>hn (e ▸ hy),B6.2 ⟨hp.mem hy,by rw[(h.owner hp y hy).1];exact h3⟩⟩
 have hle:=R9 hp.nodup GR
 rw[AR6 hx] at hle
 have:0<(owned s.2.2 i.1).length:=AR8 hx
 omega
structure Mk (s:Sp) (l:List (AI)) (i:AI):Prop where
 vs:VS s
 sh:s.1<=4
 n:s.2.2.length<=10
 fits:∀ p∈l,DB s p/\0<p.2.2.2.2/\p.2.1<3/\p.1<i.1/\∃ os,Full s p os
 cur:DB s i
 own:i.2.2.2.2=0->owned s.2.2 i.1=[]
 full:∃ os,Full s i os
 all:∀ x:Int,0<=x->x<s.2.2.length->(fr s.2.2 x).1≠-1->(fr s.2.2 x).1=i.1\/∃ p∈l,p.1=(fr s.2.2 x).1
structure gV (s:Sp) (i:AI) (r d:Int) (u:Sp) (j:AI) (a:Int) (l l' :List Int):Prop where
 grown:Grown s i (1+r+d) (s.1,s.2.1,u.2.2) j a l l'
 vs:VS u
 sh:u.1=s.1
 wr:ANQ (sz s.1) s.2.1 u.2.1 l' i.2.2.2.2 (r+d) (Y9 r d)
theorem DB.words {p:AI} (hl:ws.length=s.2.1.length) (h:DB s p):DB (s.1,ws,s.2.2) p:=by
 refine⟨?_,h.2⟩
 obtain⟨a,b,c,d,e,f⟩:=h.1
 exact⟨a,b,c,d,e,by simp only;omega⟩
theorem ANR (h:VS s) {d:Int} (r0:0<=r) (r1:r<=15) (d0:0<=d) (d1:d<=32) (hf:DB s i) (g:Grown s i (1+r+d) t j a l l'):
  ∃ u,EI t a r d=some (0,u.2.1,u.2.2)/\u.2.2=t.2.2/\gV s i r d u j a l l' :=by
 have z:=BU s.1
 have hw:=hf.1.2.2.2.2.1
 have hgr:Grown s i (1+r+d) (s.1,s.2.1,t.2.2) j a l l' :=by
  rw[<-g.sh,←g.ws];exact g
 have DY:=AEP z hw g.FZ
 obtain⟨l2,p1,⟨p2,p3,p4⟩,p5⟩:=KF z g.path hw g.FZ (YT 0)
 have M_:∀ k,0<=k->CM (sz s.1) l2 (a%sz s.1+k)=CM (sz s.1) l' (i.2.2.2.2+k):=by
  intro k k0
  obtain⟨l3,q1,_,q2⟩:=KF z g.path hw g.FZ k0
  rw[p1.fn q1];exact q2
 have hc:=J7 (n:=i.2.2.2.2+(1+r+d)) z
 rw[<-g.AI4] at hc
 obtain⟨_,_,A70⟩:=LN z (l:=l') (off:=i.2.2.2.2+(r+d)) (by omega) (by omega)
 have C6:∀ x∈l',(fr t.2.2 x).1=i.1:=by
  intro x hx
  have AAJ:=g.fit
  have:=(g.vs.owner g.path x hx).1
  rcases AAJ.2 with ⟨h1,_⟩|⟨_,_,h3,_⟩
  ·rw[g.words] at h1;omega
  ·rw[this,h3,g.seq]
 have hu:(fr t.2.2 (a / sz t.1)).1≠-1:=by
  rw[g.sh,C6 _ p4];have:=hf.1.1;omega
 have ha0:0<=a:=by
  have:=(AD9 z).1 p2;omega
 have ha1:a<t.2.1.length:=by
  rw[g.vs.w,g.sh];exact (AFS z).1 p3
 obtain⟨ws,h1,h2,h3⟩:=AXH g.vs ha0 ha1 hu (l:=l2) (by rw[g.sh];exact p1) r0 r1 d0 d1 (e:=_) (by rw[g.sh,M_ _ (by omega)];exact A70)
 refine⟨(t.1,ws,t.2.2),h1,rfl,hgr,h2,g.sh, ?_⟩
 rw[g.sh,g.ws] at h3
 refine⟨h3.len,fun x hx=>h3.head x ?_,fun k x k0 k1 hx=>h3.vN k x k0 k1 (by rw[M_ k (by omega)];exact hx),fun x hx=>h3.oth x fun k k0 k1=>by rw[M_ k k0];exact hx k k0 k1⟩
 rw[<-b7 (a%sz s.1),M_ 0 (by omega),b7];exact hx
theorem A1O (h:VS s) {d:Int} (r0:0<=r) (r1:r<=15) (d0:0<=d) (d1:d<=32) (hf:DB s i) (g:Grown s i (1+r+d) t j a l l'):
  ∃ u,FL t a r d=some (u,0)/\gV s i r d u j a l l' :=by
 obtain⟨u,h1,h2,h3⟩:=ANR h r0 r1 d0 d1 hf g
 rw[h2] at h1
 refine⟨u, ?_,h3⟩
 rw[AXI g.vs h1,show (t.1,u.2.1,t.2.2)=u from by rw[g.sh,←h3.sh,←h2]]
theorem gV.other {s:Sp} {i:AI} {r d:Int} {u:Sp} {j:AI} {a:Int} {l l' :List Int} (h:VS s) (hi:DB s i) (g:gV s i r d u j a l l') {p:AI} (hp:DB s p) (CW:p.1≠i.1):
  DB u p/\(∀ lp,Has s p lp->Has u p lp/\∀ off x,0<=off->CM (sz s.1) lp off=some x->gl 0#64 u.2.1 x.toNat=gl 0#64 s.2.1 x.toNat)/\∀ os,Full s p os->Full u p os:=by
 have z:=BU s.1
 have hlen:=g.wr.len
 obtain⟨k1,k2⟩:=g.grown.other h hp CW
 have hu:u=(s.1,u.2.1,u.2.2):=by rw[<-g.sh]
 have AAJ:DB u p:=by
  rw[hu]
  exact DB.words (s:=(s.1,s.2.1,u.2.2)) hlen k1
 have hw:∀ lp,Has s p lp->Has u p lp/\∀ off x,0<=off->CM (sz s.1) lp off=some x->gl 0#64 u.2.1 x.toNat=gl 0#64 s.2.1 x.toNat:=by
  intro lp hlp
  obtain⟨k3,k4⟩:=k2 lp hlp
  refine⟨k3,fun off x o0 hx=> ?_⟩
  have hm:=YA z o0 hx
  have hx0:0<=x:=by
   have hpa:Pa u.2.2 p.2.2.1 lp:=by
    rcases k3 with ⟨_,rfl⟩|⟨_,k3⟩
    ·cases hm
    ·exact k3
   have:=(AD9 z).1 (hpa.mem hm).1;omega
  refine g.wr.oth x.toNat fun k q0 q1 he=> ?_
  rw[wQ hx0] at he
  have hm2:=YA z (by have:=hi.1.2.2.2.2.1;omega) he
  have o1:=k4 _ hm
  have o2:=(g.grown.vs.owner g.grown.path _ hm2).1
  have o3:(fr u.2.2 j.2.2.1).1=j.1:=by
   rcases g.grown.fit.2 with ⟨h1,_⟩|⟨_,_,h3,_⟩
   ·have:=g.grown.words;have:=hi.1.2.2.2.2.1;have:=g.wr
    have hl:=AEP z hi.1.2.2.2.2.1 g.grown.FZ
    have b_:=g.grown.AI4
    exfalso
    have aA:l'.length≠0:=by
     intro h0;rw[h0] at hl;simp at hl;omega
    have h7:i.2.2.2.2+(1+r+d)=0:=by omega
    rw[h7,SH z] at b_;omega
   ·exact h3
  simp only at o2
  rw[o1,o3,g.grown.seq] at o2
  exact CW o2
 refine⟨AAJ,hw, ?_⟩
 rintro os ⟨lp,hlp,ht⟩
 obtain⟨k3,k4⟩:=hw lp hlp
 refine⟨lp,k3, ?_⟩
 rw[g.sh]
 exact ht.CQ fun q x q0 q1 hq=>⟨hq,k4 q x q0 hq⟩
variable {u:Sp}
theorem gV.self {d:Int} (h:VS s) (hi:DB s i) (r0:0<=r) (r1:r<=15) (d0:0<=d) (d1:d<=32) (g:gV s i r d u j a l l'):
  DB u j/\∀ os,Full s i os->Full u j (os++ [(r,d)]):=by
 have z:=BU s.1
 have hu:u=(s.1,u.2.1,u.2.2):=by rw[<-g.sh]
 refine⟨by rw[hu];exact DB.words (s:=(s.1,s.2.1,u.2.2)) g.wr.len g.grown.fit, ?_⟩
 rintro os ⟨lp,hlp,ht⟩
 have lE:lp=l:=by
  rcases hlp with ⟨h1,rfl⟩|⟨h1,h2⟩
  ·rcases g.grown.has with ⟨_,rfl⟩|⟨h3,_⟩
   ·rfl
   ·exact absurd h1 h3
  ·rcases g.grown.has with ⟨h3,_⟩|⟨_,h4⟩
   ·exact absurd h3 h1
   ·exact h2.fn h4
 subst lE
 refine⟨l',.inr ⟨by rw[g.grown.words];have:=hi.1.2.2.2.2.1;omega,g.grown.path⟩, ?_⟩
 rw[g.sh,g.grown.words]
 refine DK.snoc ⟨r0,r1⟩ ⟨d0,d1⟩ (ht.CQ fun q x q0 q1 hq=> ?_) g.grown.FZ (g.wr.head a g.grown.FZ)
 have SR :CM (sz s.1) l' q=some x:=by rw[g.grown.more];exact CK hq
 refine⟨SR,g.wr.oth x.toNat fun k k0 k1 he=> ?_⟩
 have hm:=YA z q0 SR
 have hx0:0<=x:=by have:=(AD9 z).1 (g.grown.path.mem hm).1;omega
 rw[wQ hx0] at he
 have:=F9 z g.grown.path.nodup (by omega) q0 he SR
 omega
structure Made (s:Sp) (l:List AI):Prop where
 vs:VS s
 sh:s.1<=4
 n:s.2.2.length<=10
 cnt:l.length<=4
 fits:∀ p∈l,DB s p/\0<p.2.2.2.2/\p.2.1<3/\p.1<15/\∃ os,Full s p os
 asc:l.Pairwise fun a b=>a.1<b.1
 all:∀ x:Int,0<=x->x<s.2.2.length->(fr s.2.2 x).1≠-1->∃ p∈l,p.1=(fr s.2.2 x).1
theorem ACR (h:∀ x:Int,0<=x->x<fs.length->(fr fs x).1= -1) (q:Int) (hq:q≠-1):owned fs q=[]:=by
 apply AJA.2
 intro x hx
 obtain⟨⟨x0,x1⟩,x2⟩:=B6.1 hx
 rw[h x x0 x1] at x2
 exact hq x2.symm
variable {β:Type}
theorem ZV {f:Int->Option (Int ⊕ β)} (n:Nat) (hs:∀ k:Nat,k<n->f k=some (.inl ((k:Int)+1))) {r:β} (he:f n=some (.inr r)):AH f 0=some r:=by
 refine LI (fun m i=>i=(n:Int)-m/\m<=n) (n:=n) ?_ ⟨by omega,by omega⟩
 rintro m i ⟨rfl,hm⟩
 by_cases h0:m=0
 ·subst h0
  left;simpa using he
 ·right
  refine⟨m-1,(n:Int)-m+1,by omega, ?_, ?_,by omega⟩
  ·have:=hs (n-m) (by omega)
   rw[show ((n-m:Nat):Int)=(n:Int)-m from by omega] at this
   exact this
  ·omega
variable {k:Nat} {α:Type}
theorem B3 {d:α} {xs:List α} (h:k<xs.length):gl d xs k∈xs:=by
 rw[DJ h];exact ABI h
def StB (s:Sp) (b:Int):Prop:=∀ i:Int,0<=i->i<s.2.2.length→-b<=(fr s.2.2 i).2.1/\(fr s.2.2 i).2.1<=b
theorem StB.stI (h:StB s b) (hb:b<=9223372036854775807):StI s:=fun i h0 h1=>by have:=(h i h0 h1).2;omega
theorem StB.set {s:Sp} {b:Int} (h:StB s b) {j:Int} (j0:0<=j) (j1:j<s.2.2.length) {x:Fr} {b' :Int} (hb:b<=b') (hx: -b' <=x.2.1/\x.2.1<=b') {ws:List (BitVec 64)} {k:Int}:StB (k,ws,s.2.2.set j.toNat x) b' :=by
 intro i i0 i1
 simp only[EG] at i1
 simp only
 rw[YI j0 j1 i0]
 split
 ·exact hx
 ·have:=h i i0 i1;omega
theorem AEW (l:List Int) (h:l.length<=maxLen):∃ d,IJ l=some d/\OR d:=by
 unfold IJ
 exact⟨_,rfl,by simp,by unfold maxLen at h;simp only;omega⟩
theorem jA (xs:List α) (k:Nat):BF xs k (xs.length-k)=xs.drop k:=by
 unfold BF
 rw[AFY (by simp)]
theorem ATV (h:3<=s.1/\s.1<=8):S9 s=some (sz s.1):=by
 obtain⟨z1,z2⟩:=MF h
 unfold S9 za5
 rw[sQ]
 simp only[AW]
 rw[AE (by simp [h]),AA trivial,JK h,lP,ah]
theorem VS.AEX (h:VS s):H8 s=some true:=by
 obtain⟨b,h1,h2⟩:=sR s h.stI
 rw[h1,h2.2 h]
theorem APX (h:¬VS s) (hI:StI s):H8 s=some false/\C8 s=some false:=by
 obtain⟨b,h1,h2⟩:=sR s hI
 obtain⟨c,h3,h4⟩:=i_ s
 have hb:b=false:=by cases b with|false=>rfl|true=>exact absurd (h2.1 rfl) h
 have hc:c=false:=by cases c with|false=>rfl|true=>exact absurd (h4.1 rfl) h
 rw[h1,h3,hb,hc];exact⟨rfl,rfl⟩
theorem ATW (h:s.2.1.length<=1000000) (h2:s.2.2.length<=1000000):VO s=some s:=by
 unfold VO N1
 rw[AA (by simp;omega)]
 simp only[AW]
 rw[AA (by simp;omega)];rfl
theorem zJ (a:List (BitVec 64)) (ha:a.length<=1000000):IQ a a=some true:=by
 unfold IQ
 rw[AE (by simp)]
 refine ZV a.length (fun k hk=> ?_) (by rw[af])
 rw[ab,ab,ab,AE (by simp),ah]
theorem APY (s:Sp) (h1:s.2.1.length<=1000000) (h2:s.2.2.length<=1000000):K9 s s=some true:=by
 unfold K9 zao
 rw[AE (by simp),AE (by simp),zJ _ h1]
 simp only[AW]
 rw[AE (by simp)]
 refine ZV s.2.2.length (fun k hk=> ?_) (by rw[af])
 rw[ab,ab,ab,AE (by simp [Z2]),ah]
def tzK (k:Nat):Option Int:=(AJT ((BitVec.twoPow 64 k)*(285870213051353865#64)) (fun (v1:BitVec 64)=>
if True then
if 0<=((v1 >>> (58#64).toNat).toNat:Int)/\((v1 >>> (58#64).toNat).toNat:Int)<((64:Nat):Int) then
if 0+((v1 >>> (58#64).toNat).toNat:Int).toNat<ATB.size then
AJT (AG (AWM ATB (0+((v1 >>> (58#64).toNat).toNat:Int).toNat))) (fun (v2:Int)=>
some (v2))
else none
else none
else none))
theorem A1P:∀ k:Fin 64,tzK k.1=some (k.1:Int):=by decide+kernel
variable {w:BitVec 64}
theorem A4T (hw:w≠0#64):∃ k:Nat,k<64/\F5 w=some (k:Int)/\KP w=k::KP (w &&& (w-1#64)):=by
 obtain⟨k,hk,h1,h2⟩:=APV hw
 refine⟨k,hk, ?_,h1⟩
 unfold F5
 rw[AE hw,BitVec.zero_sub,h2]
 exact A1P ⟨k,hk⟩
theorem ACS (w:BitVec 64):(KP w).length<=64:=by
 have:=rF (fun i=>w.getLsbD i) (List.range 64)
 rw[AG2] at this
 exact this
theorem ATX (hn:s.2.2.length<=64):K0 s=some ((s.2.2.length:Int)-(C1 s.2.2).length):=by
 have hl:(C1 s.2.2).length<=s.2.2.length:=V0 s.2.2 (-1)
 unfold K0
 rw[wD hn]
 simp only[AW]
 rw[ah]
def A1Q (s:Sp) (o st:Int):Prop:=∀ x:Int,0<=x->x<s.2.2.length->(fr s.2.2 x).1=o->(fr s.2.2 x).2.1=st
theorem AXJ {f:Int×List (BitVec 64)->Option ((Int×List (BitVec 64)) ⊕ β)} {a n:Nat} {r:β}
  (hs:∀ k:Nat,k<n->f (((a+k:Nat):Int),zr ws a k)=some (.inl (((a+k+1:Nat):Int),(zr ws a k).set (a+k) 0#64))) (he:f (((a+n:Nat):Int),zr ws a n)=some (.inr r)):AH f ((a:Int),ws)=some r:=by
 refine LI (fun m (st:Int×List (BitVec 64))=>m<=n/\st=(((a+(n-m):Nat):Int),zr ws a (n-m))) (n:=n) ?_ ⟨by omega,by simp [zr]⟩
 rintro m st ⟨hm,rfl⟩
 by_cases h0:m=0
 ·subst h0;exact .inl he
 ·refine .inr ⟨m-1,_,by omega,hs _ (by omega),by omega, ?_⟩
  have e:n-(m-1)=(n-m)+1:=by omega
  rw[e,zr]
  rfl
theorem AL6 (h:VS s) (hk:k<s.2.2.length):((k*(sz s.1).toNat:Nat):Int)=(k:Int)*sz s.1/\(((k+1)*(sz s.1).toNat:Nat):Int)=((k:Int)+1)*sz s.1/\k*(sz s.1).toNat+(sz s.1).toNat<=s.2.1.length/\(k+1)*(sz s.1).toNat=k*(sz s.1).toNat+(sz s.1).toNat:=by
 have hz:=BU s.1
 have hzn:((sz s.1).toNat:Int)=sz s.1:=wQ (by omega)
 have e1:((k*(sz s.1).toNat:Nat):Int)=(k:Int)*sz s.1:=by rw[AM5,hzn]
 have e2:(((k+1)*(sz s.1).toNat:Nat):Int)=((k:Int)+1)*sz s.1:=by rw[AM5,hzn];rfl
 have e3:(k+1)*(sz s.1).toNat=k*(sz s.1).toNat+(sz s.1).toNat:=by rw[SL,Nat.one_mul]
 have e4:=(eX h.sh (by omega:(0:Int)<=(k:Int)+1) (by omega:(k:Int)+1<=s.2.2.length)).2
 have:=h.w
 exact⟨e1,e2,by omega,e3⟩
theorem APZ (h:VS s) (o:Int) (oz:o≠-1):HZ s o=some (gvN s.2.2 o s.2.2.length,(gv s o).2):=by
 have hn:=h.n.2
 have hw:=VS.IK h
 unfold HZ
 refine (AK (fun k (st:Int×Sp)=>k<=s.2.2.length/\st=(gvN s.2.2 o k,(k:Int),gvW s o k,gvF s.2.2 o k)) (fun b=>b=(gvN s.2.2 o s.2.2.length,(gv s o).2)) s.2.2.length ?_ ?_ (s:=((0:Int),(0:Int),s.2.1,s.2.2)) ⟨by omega,rfl⟩).elim fun b hb=>by rw[hb.1,hb.2]
 ·rintro k st hk ⟨_,rfl⟩
  have MO:gl (0,0,0) (gvF s.2.2 o k) (k:Int).toNat=fr (gvF s.2.2 o k) k:=rfl
  have A71:fr (gvF s.2.2 o k) k=fr s.2.2 k:=by rw[AL3 s.2.2 o k (by omega) k (by omega),af]
  have hc:=AL2 s.2.2 o k
  obtain⟨z1,z2,z3,z4⟩:=AL6 h hk
  simp only
  rw[ab,AA (by rw[qB];omega),MO,A71,ah (e:=(k:Int)+1)]
  left
  by_cases ho:(fr s.2.2 k).1=o
  ·rw[AE (DQ ho),AA (by rw[qB];omega),AA trivial,JK h.sh,←z1,←z2,ah (e:=gvN s.2.2 o k+1),ah (e:=((k*(sz s.1).toNat:Nat):Int)),ah (e:=(((k+1)*(sz s.1).toNat:Nat):Int))]
   refine⟨(gvN s.2.2 o k+1,(k:Int)+1,zr (gvW s o k) (k*(sz s.1).toNat) (sz s.1).toNat,(gvF s.2.2 o k).set k (-1, -1, -1)), ?_,by omega, ?_⟩
   ·refine AXJ (a:=k*(sz s.1).toNat) (n:=(sz s.1).toNat) (fun m hm=> ?_) ?_
    ·simp only
     rw[AA trivial,ab,AA (by rw[AL1,AEQ];omega),ah]
     rfl
    ·simp only
     rw[AA trivial,af]
     rfl
   ·simp only[gvN,gvW,gvF,AA ho]
    rfl
  ·rw[AA ho]
   refine⟨_,rfl,by omega, ?_⟩
   simp only[gvN,gvW,gvF,AE ho]
   rfl
 ·rintro st ⟨_,rfl⟩
  simp only
  rw[af]
  exact⟨_,rfl,rfl⟩
theorem A1Q.none {o st:Int} (h:owned s.2.2 o=[]):A1Q s o st:=by
 intro x x0 x1 hx
 have:x∈owned s.2.2 o:=B6.2 ⟨⟨x0,x1⟩,hx⟩
 rw[h] at this;cases this
theorem zK (h0:0<=f) (h1:f<s.2.2.length):TZ s f=some (decide ((fr s.2.2 f).1= -1)):=by
 unfold TZ zao
 rw[AA ⟨h0,h1⟩];rfl
theorem ATY (s:Sp) (f:Int):iY s f=some (decide (0<=f/\f<s.2.2.length)):=by
 unfold iY
 by_cases h:f≥0
 ·rw[AA h];congr 1;rw[jN,P5,P5];omega
 ·rw[AE h];congr 1;rw[jN,P5];simp;omega
theorem ATZ (h:VS s) {k:Int} (h0:0<=a) (h1:a<s.2.1.length) (hu:(fr s.2.2 (a / sz s.1)).1≠-1) (k0:0<=k) (k1:k<=9223372036854775807) (hl:Pa s.2.2 (a / sz s.1) l):
  T1 s a k=some (VR (CM (sz s.1) l (a%sz s.1+k))):=by
 have W7:=VS.IK h
 have hn:=h.n.2
 have z:=BU s.1
 obtain⟨z1,z2⟩:=MF h.sh
 obtain⟨f0,f1⟩:=EP h h0 h1
 have m0:=oA a (show sz s.1≠0 by omega)
 have m1:=u4 a z
 unfold T1
 rw[VS.AEX h]
 simp only[AW]
 rw[AE (by simp),af,af,af,AA trivial,ATV h.sh,JK h.sh]
 simp only[AW]
 rw[zK f0 f1]
 simp only[AW]
 rw[AE (by simpa using hu),ah (e:=sz s.1-1),AL5 h.sh h0 (by omega)]
 by_cases hk:k>s.2.1.length
 ·rw[AA hk,zG z (by omega)]
  ·rfl
  ·have b_:=hl.length
   have:(l.length:Int)*sz s.1<=s.2.2.length*sz s.1:=rE (by omega) (by omega)
   rw[<-h.w] at this
   omega
 rw[AE hk,ah (e:=a%sz s.1+k)]
 refine LI (fun m (st:Int×Int)=>(0<=st.2/\st.2<=a%sz s.1+k)/\∃ l2,l2.length=m/\Pa s.2.2 st.1 l2/\CM (sz s.1) l2 st.2=CM (sz s.1) l (a%sz s.1+k)) (n:=l.length) ?_ ⟨⟨by simp only;omega,YT _⟩,l,rfl,hl,rfl⟩
 rintro m ⟨g,q⟩ ⟨⟨g0,g1⟩,l2,g2,g3,g4⟩
 simp only at g0 g1 g3 g4 ⊢
 cases l2 with
 |nil=>
  left
  rw[Pa] at g3
  rw[af,←g4];rfl
 |cons b r=>
  obtain⟨rfl,i0,i1,i2⟩:=g3
  have VY:(gl (0,0,0) s.2.2 g.toNat).2.2=nx s.2.2 g:=(HS i0 i1).symm
  have fm:=II h.sh i0 (show g<=64 by omega)
  rw[CM] at g4
  rw[AA i0]
  by_cases hq:q<sz s.1
  ·left
   rw[AA hq] at g4
   rw[AA hq,AA trivial,ah (e:=g*sz s.1),ah,←g4];rfl
  ·right
   rw[AE hq] at g4
   rw[AE hq,AA ⟨i0,i1⟩,VY,ah]
   exact⟨m-1,_,by simp at g2;omega,rfl,⟨by simp only;omega,by simp only;omega⟩,r,by simp at g2;omega,i2,g4⟩
theorem AU0 (h:VS s) (f0:0<=f) (f1:f<s.2.2.length) (hu:(fr s.2.2 f).1≠-1) (hl:Pa s.2.2 f l):P3 s f=some (l,0):=by
 have hn:=h.n.2
 have lE:=hl.length
 unfold P3
 rw[VS.AEX h,ATY,zK f0 f1]
 simp only[AW]
 rw[AE (by simp),AE (by simp [f0,f1]),AE (by simpa using hu)]
 refine LI (fun k (st:List Int×Int)=>∃ l2,l=st.1++l2/\Pa s.2.2 st.2 l2/\l2.length=k) (n:=l.length) ?_ ⟨l,rfl,hl,rfl⟩
 rintro k ⟨acc,f⟩ ⟨l2,h1,h2,h3⟩
 simp only at h1 h2 ⊢
 cases l2 with
 |nil=>
  left
  rw[Pa] at h2
  rw[af,h1,FP]
 |cons a r=>
  right
  obtain⟨rfl,g0,g1,g2⟩:=h2
  have:=KL List.length h1
  simp at this h3
  have MO:(gl (0,0,0) s.2.2 f.toNat).2.2=nx s.2.2 f:=(HS g0 g1).symm
  rw[AA g0,AA (by simp;omega),AA ⟨g0,g1⟩,MO]
  exact⟨k-1,_,by omega,rfl,r,by simp [h1],g2,by omega⟩
theorem AU1 {s:Int} (hs:3<=s/\s<=8) (h0:0<=n) (h1:n<=1000000):aY n s=some (cl (sz s) n):=by
 obtain⟨z1,z2⟩:=MF hs
 unfold aY
 rw[af,af,af,af,AA trivial,AA trivial,JK hs,lP,ah (e:=sz s),ah (e:=n+sz s),ah]
 rfl
theorem AL7 (h:VS s) (h0:0<=i.2.2.2.2) (h1:i.2.2.2.2<=1000000):VM s i=some (cl (sz s.1) i.2.2.2.2):=by
 unfold VM
 rw[AU1 h.sh h0 h1];rfl
theorem ZW {z w:Int} (z1:8<=z) (h:0<=w):0<=cl z w/\cl z w<=w+z:=by
 have c2:=sT (show 0<z by omega) h
 have c1:=J7 (n:=w) (show 0<z by omega)
 have b1:cl z w*1<=cl z w*z:=AOM (by omega) c2
 omega
theorem AU2 (hn:s.2.2.length<=64) (q:Int):aZ s q=some ((owned s.2.2 q).length:Int):=by
 unfold aZ
 refine (AK (fun k (st:Int×Int)=>st.2=(k:Int)/\k<=s.2.2.length/\st.1=gvN s.2.2 q k) (fun b=>b=((owned s.2.2 q).length:Int)) s.2.2.length ?_ ?_ (s:=((0:Int),(0:Int))) ⟨rfl,by omega,rfl⟩).elim fun b h=>by rw[h.1,h.2]
 ·rintro k ⟨c,i⟩ hk ⟨h1,_,h2⟩
  simp only at h1 h2 ⊢
  subst h1
  have MO:gl (0,0,0) s.2.2 (k:Int).toNat=fr s.2.2 k:=rfl
  have hc:=AL2 s.2.2 q k
  rw[ab,ab,MO,ah (e:=(k:Int)+1),ah (e:=c+1)]
  by_cases hf:(fr s.2.2 k).1=q
  ·rw[AA hf]
   exact .inl ⟨_,rfl,by simp only;omega,by omega,by simp only[gvN,AA hf];omega⟩
  ·rw[AE hf]
   exact .inl ⟨_,rfl,by simp only;omega,by omega,by simp only[gvN,AE hf];omega⟩
 ·rintro⟨c,i⟩ ⟨h1,_,h2⟩
  simp only at h1 h2 ⊢
  rw[af]
  exact⟨_,rfl,by rw[h2,ATO];rfl⟩
theorem AU3 (h:VS s) (f0:0<=f) (f1:f<s.2.2.length):T0 s f=some (f*sz s.1,0):=by
 have hn:=h.n.2
 have hm:=II h.sh f0 (show f<=64 by omega)
 unfold T0 WW
 rw[sQ]
 simp only[AW]
 rw[AA (by simp [h.sh])]
 simp only[AW]
 rw[AE (by simp;omega),af,af,AA trivial,JK h.sh,ah]
theorem sU (hI:StI s) (i:AI):∃ b,NO s i=some b/\(b=true↔VS s/\DB s i):=by
 by_cases h:VS s
 rotate_left
 ·unfold NO
  rw[(APX h hI).1]
  exact⟨_,rfl,B5 fun hh=>h hh.1⟩
 suffices hs:∃ b,NO s i=some b/\(b=true↔DB s i) by
  obtain⟨b,h1,h2⟩:=hs
  exact⟨b,h1,h2.trans ⟨fun x=>⟨h,x⟩,fun x=>x.2⟩⟩
 have W7:=VS.IK h
 have hn:=h.n.2
 unfold NO
 rw[VS.AEX h]
 simp only[AW]
 rw[AE (by simp)]
 by_cases c1:i.1<0
 ·rw[AA c1];exact⟨_,rfl,B5 fun h=>by have:=h.1.1;omega⟩
 rw[AE c1]
 by_cases c2:i.1>4294967295
 ·rw[AA c2];exact⟨_,rfl,B5 fun h=>by have:=h.1.2.1;omega⟩
 rw[AE c2]
 by_cases c3:i.2.1<0
 ·rw[AA c3];exact⟨_,rfl,B5 fun h=>by have:=h.1.2.2.1;omega⟩
 rw[AE c3]
 by_cases c4:i.2.1≥4
 ·rw[AA c4];exact⟨_,rfl,B5 fun h=>by have:=h.1.2.2.2.1;omega⟩
 rw[AE c4]
 by_cases c5:i.2.2.2.2<0
 ·rw[AA c5];exact⟨_,rfl,B5 fun h=>by have:=h.1.2.2.2.2.1;omega⟩
 rw[AE c5]
 by_cases c7:i.2.2.2.2=0
 ·have hr:0<=i.1/\i.1<=4294967295/\0<=i.2.1/\i.2.1<4/\0<=i.2.2.2.2/\i.2.2.2.2<=s.2.1.length:=⟨by omega,by omega,by omega,by omega,by omega,by omega⟩
  rw[AA c7]
  by_cases c8:i.2.2.1= -1
  ·rw[AA c8]
   refine⟨_,rfl, ?_⟩
   rw[P5]
   exact⟨fun hh=>⟨hr,.inl ⟨c7,c8,hh⟩⟩,fun hh=>by rcases hh.2 with h1|h1;exact h1.2.2;exact absurd c7 h1.1⟩
  ·rw[AE c8]
   exact⟨_,rfl,B5 fun hh=>by rcases hh.2 with h1|h1;exact c8 h1.2.1;exact h1.1 c7⟩
 rw[AE c7]
 have only:DB s i->(0<=i.2.2.1/\i.2.2.1<s.2.2.length)/\(fr s.2.2 i.2.2.1).1=i.1/\(fr s.2.2 i.2.2.1).2.1=i.2.1*4294967296+i.1∧
   ∃ l,Pa s.2.2 i.2.2.1 l/\(l.length:Int)=cl (sz s.1) i.2.2.2.2/\l.length=(owned s.2.2 i.1).length/\l.getLast? =some i.2.2.2.1:=fun hh=>by
  rcases hh.2 with h1|h1
  ·exact absurd h1.1 c7
  ·exact h1.2
 have A72:¬((0<=i.2.2.1/\i.2.2.1<s.2.2.length)/\(fr s.2.2 i.2.2.1).1≠-1)->∃ e,e≠0/\P3 s i.2.2.1=some ([],e):=by
  intro hb
  unfold P3
  rw[VS.AEX h,ATY]
  simp only[AW]
  rw[AE (by simp)]
  by_cases q:0<=i.2.2.1/\i.2.2.1<s.2.2.length
  ·rw[AE (by simp [q]),zK q.1 q.2]
   simp only[AW]
   have hf:(fr s.2.2 i.2.2.1).1= -1:=AA5 fun hf=>hb ⟨q,hf⟩
   rw[AA (by simp [hf])]
   exact⟨_,by decide,rfl⟩
  ·rw[AA (by simp only[b6,wM];exact q)]
   exact⟨_,by decide,rfl⟩
 by_cases c8:(0<=i.2.2.1/\i.2.2.1<s.2.2.length)/\(fr s.2.2 i.2.2.1).1≠-1
 rotate_left
 ·obtain⟨e,e1,e2⟩:=A72 c8
  rw[e2]
  simp only[AW]
  rw[AA e1]
  refine⟨_,rfl,B5 fun hh=> ?_⟩
  obtain⟨o1,o2,_⟩:=only hh
  have:=hh.1.1
  exact c8 ⟨o1,by omega⟩
 obtain⟨⟨q0,q1⟩,q2⟩:=c8
 obtain⟨l,hl⟩:=h.acy i.2.2.1 q0 q1
 have lE:=hl.length
 have hlp:0<l.length:=by
  cases l with
  |nil=>rw[Pa] at hl;omega
  |cons=>simp
 rw[AU0 h q0 q1 q2 hl]
 simp only[AW]
 rw[AE (by simp)]
 by_cases c6:i.2.2.2.2>s.2.1.length
 ·rw[AA c6];exact⟨_,rfl,B5 fun h=>by have:=h.1.2.2.2.2.2;omega⟩
 rw[AE c6]
 have hr:0<=i.1/\i.1<=4294967295/\0<=i.2.1/\i.2.1<4/\0<=i.2.2.2.2/\i.2.2.2.2<=s.2.1.length:=⟨by omega,by omega,by omega,by omega,by omega,by omega⟩
 have hg:=ANO (l:=l) hlp
 rw[ah (e:=(l.length:Int)-1),ab,show ((l.length:Int)-1).toNat=l.length-1 from by omega]
 by_cases d1:gl 0 l (l.length-1)=i.2.2.2.1
 rotate_left
 ·rw[AA d1]
  exact⟨_,rfl,B5 fun hh=>by obtain⟨l',p1,_,_,p2⟩:=(only hh).2.2.2;rw[<-hl.fn p1,←hg] at p2;exact d1 (by simpa using p2)⟩
 rw[AE (DQ d1),AL7 h (by omega) (by omega)]
 simp only[AW]
 by_cases d2:(l.length:Int)=cl (sz s.1) i.2.2.2.2
 rotate_left
 ·rw[AA d2]
  exact⟨_,rfl,B5 fun hh=>by obtain⟨l',p1,p2,_⟩:=(only hh).2.2.2;rw[hl.fn p1] at d2;exact d2 p2⟩
 rw[AE (DQ d2),AU2 hn]
 simp only[AW]
 by_cases d3:(l.length:Int)=((owned s.2.2 i.1).length:Int)
 rotate_left
 ·rw[AA d3]
  exact⟨_,rfl,B5 fun hh=>by obtain⟨l',p1,_,p2,_⟩:=(only hh).2.2.2;rw[hl.fn p1] at d3;exact d3 (by omega)⟩
 have MO:gl (0,0,0) s.2.2 i.2.2.1.toNat=fr s.2.2 i.2.2.1:=rfl
 rw[AE (DQ d3),AA ⟨q0,q1⟩,MO,ah (e:=i.2.1*4294967296),ah (e:=i.2.1*4294967296+i.1)]
 by_cases d4:(fr s.2.2 i.2.2.1).1=i.1
 rotate_left
 ·rw[AE d4];exact⟨_,rfl,B5 fun hh=>d4 (only hh).2.1⟩
 rw[AA d4]
 refine⟨_,rfl, ?_⟩
 rw[P5]
 constructor
 ·intro d5
  exact⟨hr,.inr ⟨c7,⟨q0,q1⟩,d4,d5,l,hl,d2,by omega,by rw[<-hg,d1]⟩⟩
 ·intro hh;exact (only hh).2.2.1
theorem X_.st {d r0:List Int} {F L:Int} (h:X_ s i l d r0 fs F L):A1Q (s.1,s.2.1,fs) i.1 (i.2.1*4294967296+i.1):=by
 intro x x0 x1 hx
 simp only at x1 hx ⊢
 have hm:x∈owned fs i.1:=B6.2 ⟨⟨x0,x1⟩,hx⟩
 have aA:0<(owned fs i.1).length:=AR8 hm
 have C6:=h.own
 rcases h.path with h1|⟨h1,h2,h3,h4,h5⟩
 ·rw[h1.1] at C6;simp at C6;rw[C6] at hm;cases hm
 ·have MR:x∈l++d:=by
   apply AA5
   intro hn
   have GR:∀ y∈l++d,y∈(owned fs i.1).erase x:=by
    intro y hy
    rw[(T5 _ _).mem_erase_iff]
    refine⟨fun e=>hn (e ▸ hy),B6.2 ⟨h2.mem hy, ?_⟩⟩
    have:=(h.vs.owner h2 y hy).1
    simp only at this
    rw[this];exact h4
   have hle:=R9 h2.nodup GR
   rw[AR6 hm] at hle
   omega
  have:=(h.vs.owner h2 x MR).2
  simp only at this
  rw[this];exact h5
theorem X_.start (h:VS s) (hf:DB s i) (C6:i.2.2.2.2=0->owned s.2.2 i.1=[]) (hl1:Has s i l) (hl3:i.2.2.2.2≠0->l.length=(owned s.2.2 i.1).length/\l.getLast? =some i.2.2.2.1/\l≠[]):X_ s i l [] (C1 s.2.2) s.2.2 i.2.2.1 i.2.2.2.1:=by
 refine⟨h,rfl,rfl,rfl, ?_, ?_,fun q _ _=>rfl,fun x _ _ _ _=>rfl⟩
 ·rcases hl1 with ⟨g1,rfl⟩|⟨g1,g2⟩
  ·rcases hf.2 with ⟨_,g3,g4⟩|⟨g3,_⟩
   ·exact .inl ⟨rfl,g3,g4⟩
   ·exact absurd g1 g3
  ·rcases hf.2 with ⟨g3,_⟩|⟨_,g3,g4,g5,_⟩
   ·exact absurd g3 g1
   ·rw[FP]
    exact .inr ⟨(hl3 g1).2.2,g2,(hl3 g1).2.1,g4,g5⟩
 ·rw[FP]
  by_cases hw:i.2.2.2.2=0
  ·rw[C6 hw]
   rcases hl1 with ⟨g1,rfl⟩|⟨g1,_⟩
   ·rfl
   ·exact absurd hw g1
  ·exact (hl3 hw).1.symm
theorem X_.done {d r0:List Int} {F L:Int} (h:VS s) (hf:DB s i) (n0:1<=n) (n1:n<=48) (hl1:Has s i l) (b_:(l.length:Int)=cl (sz s.1) i.2.2.2.2)
  (hg:X_ s i l d r0 fs F L) (hd:(d.length:Int)=cl (sz s.1) (i.2.2.2.2+n)-cl (sz s.1) i.2.2.2.2) (WZ:i.2.2.2.2≠0->F=i.2.2.1) (hgw:(fs,F,L)=gw i.1 (i.2.1*4294967296+i.1) d.length (s.2.2,i.2.2.1,i.2.2.2.1)):
  (0<=F/\F<fs.length)/\(fr fs F).1=i.1/\∃ a,Grown s i n (s.1,s.2.1,fs) (i.1,i.2.1,F,L,i.2.2.2.2+n) a l (l++d):=by
 have W7:=VS.IK h
 have hn:=h.n.2
 have z:=BU s.1
 obtain⟨⟨q0,q1,b0,b1,w0,w1⟩,n6⟩:=id hf
 have hld:((l++d).length:Int)=cl (sz s.1) (i.2.2.2.2+n):=by simp;omega
 have aA:0<cl (sz s.1) (i.2.2.2.2+n):=AER z (by omega)
 rcases hg.path with h1|⟨g1,g2,g3,g4,g5⟩
 ·rw[h1.1] at hld;simp at hld;omega
 obtain⟨F0,F1,_⟩:=Pa.head g2 g1
 have hcs:=J7 (n:=i.2.2.2.2+n) z
 obtain⟨g,hg1,vS⟩:=LN z (l:=l++d) (off:=i.2.2.2.2) w0 (by rw[hld];omega)
 have lE:=Pa.length g2
 have hlw:i.2.2.2.2+n<=s.2.1.length:=by
  have:cl (sz s.1) (i.2.2.2.2+n)*sz s.1<=s.2.2.length*sz s.1:=rE (by have:=hg.len;omega) (by omega)
  rw[h.w];omega
 have N3:(l++d).length-l.length=d.length:=by simp
 refine⟨⟨F0,F1⟩,g4,_,hg.vs,⟨⟨q0,q1,b0,b1,by simp only;omega,hlw⟩,.inr ⟨by simp only;omega,⟨F0,by simp only;omega⟩,g4,g5,l++d,g2,hld,hg.own.symm,g3⟩⟩,rfl,rfl,hg.len,rfl,rfl,rfl,WZ,hl1,g2, ?_, ?_,b_,hld,hg.own,hg.oth,hg.frs,vS, ?_⟩
 ·rw[N3,hg.split,List.take_left]
 ·rw[N3,hg.split,List.drop_left];exact hg.fre
 ·have e:(cl (sz s.1) (i.2.2.2.2+n)-cl (sz s.1) i.2.2.2.2).toNat=d.length:=by omega
  rw[e];exact hgw
end Go.Proofs.YtokeceeccmgcmaaGreatDoor
namespace Go.V3
open Go
def vv (r:Nat):Nat:=if r<4503599627370496 then r else (4503599627370496+r%4503599627370496)*2 ^ (r / 4503599627370496-1)
theorem AXK (r:Nat):vv r<vv (r+1):=by
 unfold vv
 by_cases h:r<4503599627370496
 ·rw[AA h]
  by_cases h2:r+1<4503599627370496
  ·rw[AA h2];omega
  ·have:r+1=4503599627370496:=by omega
   rw[AE h2,this];show r<(4503599627370496+4503599627370496%4503599627370496)*2 ^ (4503599627370496 / 4503599627370496-1)
   rw[show (4503599627370496+4503599627370496%4503599627370496)*2 ^ (4503599627370496 / 4503599627370496-1)=4503599627370496 from by decide];exact h
 ·rw[AE h,af]
  by_cases h2:r%4503599627370496+1<4503599627370496
  ·have e1:(r+1) / 4503599627370496=r / 4503599627370496:=by omega
   have e2:(r+1)%4503599627370496=r%4503599627370496+1:=by omega
   rw[e1,e2]
   exact Nat.mul_lt_mul_of_pos_right (by omega) (ABK _)
  ·have e1:(r+1) / 4503599627370496=r / 4503599627370496+1:=by omega
   have e2:(r+1)%4503599627370496=0:=by omega
   have e3:r / 4503599627370496+1-1=(r / 4503599627370496-1)+1:=by omega
   rw[e1,e2,e3,Nat.pow_succ]
   have hp:=ABK (r / 4503599627370496-1)
   have:(4503599627370496+0)*(2 ^ (r / 4503599627370496-1)*2)=(2*4503599627370496)*2 ^ (r / 4503599627370496-1):=by rw[P6,tP 2 4503599627370496,AG7,tP 2]
   rw[this]
   exact Nat.mul_lt_mul_of_pos_right (by omega) hp
theorem mB {a b:Nat} (h:a<b):vv a<vv b:=by
 induction b with
 |zero=>omega
 |succ b ih=>
  have:=AXK b
  rcases IG a b with h1|h1
  ·have:=ih h1;omega
  ·have:a=b:=by omega
   subst this;assumption
theorem AQ0 {a b:Nat}:vv a<vv b↔a<b:=by
 constructor
 ·intro h
  rcases IG a b with h1|h1
  ·exact h1
  ·rcases ARK h1 with rfl|h2
   ·omega
   ·have:=mB h2;omega
 ·exact mB
theorem jB:vv 0=0:=by decide
def lF (w:Nat):Nat:=w%9223372036854775808
def qD (w:Nat):Bool:=w / 9223372036854775808%2==1
def qE (w:Nat):Int:=if qD w=true then -(vv (lF w):Int) else (vv (lF w):Int)
def isNum (w:Nat):Prop:=lF w<=9218868437227405312
instance (w:Nat):Decidable (isNum w):=by unfold isNum;infer_instance
theorem zL {w:Nat} (h:lF w<9218868437227405312):∃ m:Nat,∃ e:Nat,FloatKind.f64.format.read w= .number (qD w) m (-1074+(e:Int))/\m*2 ^ e=vv (lF w):=by
 unfold Ieee.Format.read
 have hb:FloatKind.f64.format.binade=4503599627370496:=by decide
 have hs:FloatKind.f64.format.signWeight=9223372036854775808:=by decide
 have hi:FloatKind.f64.format.infRung=9218868437227405312:=by decide
 have hl:FloatKind.f64.format.leastPlace= -1074:=by decide
 simp only[hb,hs,hi,hl]
 unfold vv
 by_cases h1:w%9223372036854775808<4503599627370496
 ·rw[AA h1,AA (show lF w<4503599627370496 from h1)]
  exact⟨_,0,rfl,by simp [lF]⟩
 ·rw[AE h1,AA (show w%9223372036854775808<9218868437227405312 from h),AE (show ¬lF w<4503599627370496 from h1)]
  exact⟨_,w%9223372036854775808 / 4503599627370496-1,rfl,rfl⟩
theorem qF {w:Nat} (h:lF w=9218868437227405312):FloatKind.f64.format.read w= .infinity (qD w):=by
 unfold Ieee.Format.read
 have hb:FloatKind.f64.format.binade=4503599627370496:=by decide
 have hs:FloatKind.f64.format.signWeight=9223372036854775808:=by decide
 have hi:FloatKind.f64.format.infRung=9218868437227405312:=by decide
 simp only[hb,hs,hi]
 have h' :w%9223372036854775808=9218868437227405312:=h
 rw[h',AE (by decide),AE (by decide),AA rfl]
 rfl
theorem AI6 {w:Nat} (h:¬isNum w):∃ f,FloatKind.f64.format.read w= .nan (qD w) f:=by
 unfold Ieee.Format.read
 have hb:FloatKind.f64.format.binade=4503599627370496:=by decide
 have hs:FloatKind.f64.format.signWeight=9223372036854775808:=by decide
 have hi:FloatKind.f64.format.infRung=9218868437227405312:=by decide
 simp only[hb,hs,hi]
 have h' :9218868437227405312<w%9223372036854775808:=by unfold isNum lF at h;omega
 rw[af,af,af]
 exact⟨_,rfl⟩
variable {a b:Int}
theorem AQ1 {c:Int} (hc:0<c):compare (a*c) (b*c)=compare a b:=by
 rcases Int.lt_trichotomy a b with h|h|h
 ·rw[tL.2 h,tL.2 (AFV h hc)]
 ·subst h;rw[AG4.2 rfl,AG4.2 rfl]
 ·rw[tM.2 h,tM.2 (AFV h hc)]
theorem qG (s:Bool) (m:Nat) (e b:Nat) (h:b<=e):Ieee.signed s m (e-b)*(2:Int) ^ b=if s=true then -((m*2 ^ e:Nat):Int) else ((m*2 ^ e:Nat):Int):=by
 have he:2 ^ e=2 ^ (e-b)*2 ^ b:=by rw[<-Nat.pow_add];congr 1;omega
 have:((m*2 ^ e:Nat):Int)=((m <<< (e-b):Nat):Int)*(2:Int) ^ b:=by
  rw[Nat.shiftLeft_eq,he,←AG7]
  simp
 unfold Ieee.signed
 cases s
 ·simp only[W_,KK];exact this.symm
 ·simp only[HP]
  rw[this,Int.neg_mul]
theorem ACT {r:Nat} (h:r<9218868437227405312):vv r<vv 9218868437227405312:=mB h
theorem AL8:0<vv 9218868437227405312:=by have:=mB (a:=0) (b:=9218868437227405312) (by decide);rw[jB] at this;exact this
theorem AEY {a b:Nat} (ha:isNum a) (hb:isNum b):FD a b=some (compare (qE a) (qE b)):=by
 unfold FD Ieee.Format.order
 have aA:=AL8
 have la:lF a<9218868437227405312\/lF a=9218868437227405312:=by unfold isNum at ha;omega
 have lb:lF b<9218868437227405312\/lF b=9218868437227405312:=by unfold isNum at hb;omega
 rcases la with la|la
 ·obtain⟨m,e,r1,v1⟩:=zL la
  have p1:=ACT la
  rcases lb with lb|lb
  ·obtain⟨n,f,r2,v2⟩:=zL lb
   rw[r1,r2]
   unfold Ieee.Datum.order
   simp only
   congr 1
   have k1:(-1074+(e:Int)-min (-1074+(e:Int)) (-1074+(f:Int))).toNat=e-min e f:=by omega
   have k2:(-1074+(f:Int)-min (-1074+(e:Int)) (-1074+(f:Int))).toNat=f-min e f:=by omega
   rw[k1,k2,←AQ1 (c:=(2:Int) ^ (min e f)) (Int.pow_pos (by decide)),qG _ _ _ _ (by omega),qG _ _ _ _ (by omega),v1,v2]
   rfl
  ·rw[r1,qF lb]
   unfold Ieee.Datum.order
   simp only
   congr 1
   unfold qE
   rw[lb]
   cases qD a <;> cases qD b <;> simp only[W_,KK,HP]
   ·exact (tL.2 (by omega)).symm
   ·exact (tM.2 (by omega)).symm
   ·exact (tL.2 (by omega)).symm
   ·exact (tM.2 (by omega)).symm
 ·rcases lb with lb|lb
  ·obtain⟨n,f,r2,v2⟩:=zL lb
   have p2:=ACT lb
   rw[qF la,r2]
   unfold Ieee.Datum.order
   simp only
   congr 1
   unfold qE
   rw[la]
   cases qD a <;> cases qD b <;> simp only[W_,KK,HP]
   ·exact (tM.2 (by omega)).symm
   ·exact (tM.2 (by omega)).symm
   ·exact (tL.2 (by omega)).symm
   ·exact (tL.2 (by omega)).symm
  ·rw[qF la,qF lb]
   unfold Ieee.Datum.order
   simp only
   congr 1
   unfold qE
   rw[la,lb]
   cases qD a <;> cases qD b <;> simp only[W_,KK,HP,Bool.toNat_true,Bool.toNat_false]
   ·exact (AG4.2 rfl).symm
   ·exact (tM.2 (by omega)).symm
   ·exact (tL.2 (by omega)).symm
   ·exact (AG4.2 rfl).symm
theorem AEZ {a b:Nat} (h:¬(isNum a/\isNum b)):FD a b=none:=by
 unfold FD Ieee.Format.order
 by_cases ha:isNum a
 ·have hb:¬isNum b:=fun hb=>h ⟨ha,hb⟩
  obtain⟨f,r2⟩:=AI6 hb
  rw[r2]
  unfold Ieee.Datum.order
  cases FloatKind.f64.format.read a <;> rfl
 ·obtain⟨f,r1⟩:=AI6 ha
  rw[r1]
  unfold Ieee.Datum.order
  rfl
theorem A1R {a b:Nat}:FD a b=some .lt↔isNum a/\isNum b/\qE a<qE b:=by
 by_cases h:isNum a/\isNum b
 ·rw[AEY h.1 h.2]
  simp only[A_,tL,h,lQ]
 ·rw[AEZ h]
  simp only[reduceCtorEq,false_iff]
  exact fun k=>h ⟨k.1,k.2.1⟩
theorem A1S {a b:Nat}:FD a b=some .gt↔isNum a/\isNum b/\qE b<qE a:=by
 by_cases h:isNum a/\isNum b
 ·rw[AEY h.1 h.2]
  simp only[A_,tM,h,lQ]
 ·rw[AEZ h]
  simp only[reduceCtorEq,false_iff]
  exact fun k=>h ⟨k.1,k.2.1⟩
theorem AL9 {a b:Nat}:FD a b=some .eq↔isNum a/\isNum b/\qE a=qE b:=by
 by_cases h:isNum a/\isNum b
 ·rw[AEY h.1 h.2]
  simp only[A_,AG4,h,lQ]
 ·rw[AEZ h]
  simp only[reduceCtorEq,false_iff]
  exact fun k=>h ⟨k.1,k.2.1⟩
theorem AU4 {w:Nat} (h:w<9223372036854775808):qD w=false/\lF w=w:=by
 unfold qD lF
 rw[AM4 h,rG h]
 exact⟨rfl,rfl⟩
theorem W0 {w:Nat} (h:w<9223372036854775808):qE w=(vv w:Int):=by
 obtain⟨h1,h2⟩:=AU4 h
 unfold qE
 rw[h1,h2];simp
theorem AXL {w:Nat} (h:w<18446744073709551616):qD w=decide (9223372036854775808<=w):=by
 unfold qD
 by_cases h1:9223372036854775808<=w
 ·have:w / 9223372036854775808=1:=by omega
  rw[this];simp [h1]
 ·have:w / 9223372036854775808=0:=by omega
  rw[this];simp [h1]
theorem ANS {w:Nat} (h:w<18446744073709551616):FD w 0=some .gt↔0<w/\w<=9218868437227405312:=by
 rw[A1S,W0 (w:=0) (by omega),jB]
 have hz:isNum 0:=by decide
 unfold qE isNum
 rw[AXL h]
 by_cases h1:9223372036854775808<=w
 ·simp only[h1,decide_true,HP]
  constructor
  ·rintro⟨_,_,h2⟩;omega
  ·rintro⟨_,h2⟩;omega
 ·obtain⟨_,h2⟩:=AU4 (w:=w) (by omega)
  simp only[h1,decide_false,W_,KK,h2]
  constructor
  ·rintro⟨h3,_,h4⟩
   refine⟨?_,h3⟩
   rcases ALY w with rfl|h5
   ·rw[jB] at h4;omega
   ·exact h5
  ·rintro⟨h3,h4⟩
   have:=mB h3
   rw[jB] at this
   exact⟨h4,hz,by omega⟩
theorem A1T {w:Nat} (h:w<=9218868437227405312):(FD w 4607182418800017408=some .lt\/FD w 4607182418800017408=some .eq)↔w<=4607182418800017408:=by
 have h1:isNum w:=by unfold isNum;rw[(AU4 (w:=w) (by omega)).2];exact h
 have h2:isNum 4607182418800017408:=by decide
 rw[A1R,AL9,W0 (by omega),W0 (by omega)]
 constructor
 ·rintro (⟨_,_,h3⟩|⟨_,_,h3⟩)
  ·have:=AQ0.1 (show vv w<vv 4607182418800017408 by omega);omega
  ·rcases IG 4607182418800017408 w with h4|h4
   ·have:=mB h4;omega
   ·exact h4
 ·intro h3
  rcases ARK h3 with h4|h4
  ·exact .inr ⟨h1,h2,by rw[h4]⟩
  ·have:=mB h4
   exact .inl ⟨h1,h2,by omega⟩
def P74:Nat:=1074
theorem AU5:P74=1074:=rfl
def FR (x:Nat) (n:Nat):Nat:=max 1 (vv x*n / 2 ^ P74)
theorem AXM {x y a b:Nat} (h:x<=y) (h2:a<=b):FR x a<=FR y b:=by
 have hv:vv x<=vv y:=by
  rcases ARK h with rfl|h3
  ·exact EH _
  ·exact Nat.le_of_lt (mB h3)
 have:=Nat.div_le_div_right (c:=2 ^ P74) (AM8 hv h2)
 unfold FR
 omega
theorem A1U:vv 4607182418800017408=2 ^ P74:=by decide+kernel
theorem A1V {n:Nat} (h:1<=n):FR 4607182418800017408 n=n:=by
 unfold FR
 rw[A1U,tP,Nat.mul_div_cancel _ (ABK _)]
 omega
theorem AZL {x n:Nat} (h:x<=4607182418800017408) (hn:1<=n):1<=FR x n/\FR x n<=n:=by
 have:=AXM h (EH n)
 rw[A1V hn] at this
 exact⟨by unfold FR;omega,this⟩
theorem ANT {x n:Nat} (h0:4503599627370496<=x) (h1:x<=4607182418800017408):vv x*n / 2 ^ P74=(4503599627370496+x%4503599627370496)*n / 2 ^ (1075-x / 4503599627370496):=by
 have he:x / 4503599627370496<=1023:=by omega
 have tW:1<=x / 4503599627370496:=by omega
 unfold vv
 rw[af]
 have e:(2:Nat) ^ P74=2 ^ (x / 4503599627370496-1)*2 ^ (1075-x / 4503599627370496):=by rw[<-Nat.pow_add,AU5];congr 1;omega
 rw[e,←Nat.div_div_eq_div_mul]
 rw[AG7,tP (2 ^ _) n,←AG7,Nat.mul_div_cancel _ (ABK _)]
variable {k:Nat}
theorem ANU {d:Nat} (hk:k<2 ^ 64) (hd:64<=d):k / 2 ^ d=0:=
 AM4 (oB hk (ALT (by omega) hd))
theorem A1W {x n:Nat} (h1:x<4503599627370496) (hn:n<=64):FR x n=1:=by
 unfold FR vv
 rw[AA h1]
 have:x*n<=4503599627370496*64:=AM8 (by omega) hn
 rw[ANU (by omega) (by rw[AU5];omega)]
 rfl
theorem A1X {x n:Nat} (h0:4503599627370496<=x) (h1:x<=4607182418800017408) (hn:n<=64) (hd:64<=1075-x / 4503599627370496):FR x n=1:=by
 unfold FR
 rw[ANT h0 h1]
 have:(4503599627370496+x%4503599627370496)*n<=(2*4503599627370496)*64:=AM8 (by omega) hn
 rw[ANU (by omega) hd]
 rfl
end Go.V3
namespace Go.Proofs.YtokeceeccmgcmaaGreatDoor
open Go Go.V3
theorem ANV {q:Nat} (h:q<9223372036854775808):AG (q:Int)=q:=ah
theorem bn {w:Nat} (h:w<18446744073709551616):(BitVec.ofNat 64 w).toNat=w:=by rw[uZ];omega
theorem A73 {w:Nat} (h:w<9223372036854775808):(((BitVec.ofNat 64 w) >>> (52#64).toNat) &&& (2047#64)).toNat=w / 4503599627370496:=by
 rw[ABJ,AR5,bn (by omega),AR4]
 show w / 2 ^ 52 &&& 2047=_
 rw[show (2047:Nat)=2 ^ 11-1 from rfl,AR1,show (2:Nat) ^ 52=4503599627370496 from by decide,show (2:Nat) ^ 11=2048 from by decide]
 omega
theorem A74 {w:Nat} (h:w<18446744073709551616):((BitVec.ofNat 64 w) &&& (4503599627370495#64)).toNat=w%4503599627370496:=by
 rw[ABJ,bn h]
 show w &&& 4503599627370495=_
 rw[show (4503599627370495:Nat)=2 ^ 52-1 from by decide,AR1]
theorem A75 {f:Nat} (h:f<4503599627370496):f|||4503599627370496=4503599627370496+f:=by
 have:=Nat.two_pow_add_eq_or_of_lt (i:=52) (b:=f) (by rw[show (2:Nat) ^ 52=4503599627370496 from by decide];exact h) 1
 rw[tQ,show (2:Nat) ^ 52=4503599627370496 from by decide] at this
 rw[Nat.or_comm,←this]
theorem A4U {w:Nat} (h:w<18446744073709551616):(((BitVec.ofNat 64 w) &&& (4503599627370495#64))|||(4503599627370496#64)).toNat=4503599627370496+w%4503599627370496:=by
 rw[BitVec.toNat_or,A74 h]
 exact A75 (ABP _ (by omega))
variable {k:Nat}
theorem A1Y {n:Nat} {s:Int} (h:k*n<9223372036854775808) (hk:k<9223372036854775808) (hn:n<9223372036854775808) (s0:0<=s) (s1:s<=100000):
  (((BitVec.ofInt 64 (k:Int))*(BitVec.ofInt 64 (n:Int))) >>> (BitVec.ofInt 64 s).toNat).toNat=k*n / 2 ^ s.toNat:=by
 have es:(BitVec.ofInt 64 s).toNat=s.toNat:=by rw[jK];omega
 rw[AR5,AR4,es,BitVec.toNat_mul,AG0,AG0,bn (by omega),bn (by omega),show (2:Nat) ^ 64=18446744073709551616 from by decide,rG (by omega)]
theorem A76 {q:Nat} (h:q<9223372036854775808):(if AG (q:Int)>1 then AG (q:Int) else 1)=((max 1 q:Nat):Int):=by
 rw[ANV h]
 split <;> omega
def VV (x:Nat):Prop:=x=0\/(0<x/\x<=4607182418800017408)
instance (x:Nat):Decidable (VV x):=by unfold VV;infer_instance
@[reducible] noncomputable def bD (x:Nat):Option Bool:=GB x
theorem jC {x:Nat} (h:x<18446744073709551616):bD x=some (decide (VV x)):=by
 unfold bD
 unfold GB
 rw[AA h]
 by_cases h0:x=0
 ·subst h0;decide
 have hb:¬BitVec.ofNat 64 x=0#64:=fun e=>h0 (by have:=KL BitVec.toNat e;rw[bn h] at this;exact this)
 rw[AE hb]
 by_cases h1:FD x 0=some .gt
 ·rw[AA h1]
  obtain⟨h2,h3⟩:=(ANS h).1 h1
  congr 1
  rw[jL,A1T h3]
  unfold VV
  constructor
  ·intro h4;exact .inr ⟨h2,h4⟩
  ·rintro (h4|h4)
   ·exact absurd h4 h0
   ·exact h4.2
 ·rw[AE h1]
  congr 1
  symm
  rw[wM]
  rintro (h4|h4)
  ·exact h0 h4
  ·exact h1 ((ANS h).2 ⟨h4.1,by omega⟩)
theorem jD (x:Nat):GB x=bD x:=rfl
theorem not_zero {x:Nat} (h0:0<x) (h1:x<=4607182418800017408):¬FD x 0=some .eq:=by
 rw[AL9,W0 (by omega),W0 (by omega),jB]
 rintro⟨_,_,h⟩
 have:=mB h0
 rw[jB] at this
 omega
variable {n:Int}
theorem zM {x:Nat} (h0:0<x) (h1:x<=4607182418800017408) (n0:1<=n) (n1:n<=64):FU x n=some (((FR x n.toNat:Nat):Int),0):=by
 have hx:x<9223372036854775808:=by omega
 obtain⟨m,rfl⟩:∃ m:Nat,n=(m:Int):=⟨n.toNat,by omega⟩
 have hkn:(4503599627370496+x%4503599627370496)*m<=(2*4503599627370496)*64:=AM8 (by omega) (by omega)
 unfold FU zaf
 rw[jD,jC (by omega)]
 simp only[AW]
 rw[AE (by simp only[b6,wM];exact DQ (.inr ⟨h0,h1⟩)),af,af,AE (not_zero h0 h1),ab,AA trivial,A73 hx,ANV (q:=x / 4503599627370496) (by omega),HM]
 have z0:(if AG (((0#64).toNat:Nat):Int)>1 then AG (((0#64).toNat:Nat):Int) else 1)=1:=by decide
 by_cases hb:4503599627370496<=x
 ·rw[ab,ah (e:=1075-((x / 4503599627370496:Nat):Int))]
  by_cases hd:1075-((x / 4503599627370496:Nat):Int)<64
  ·rw[AA hd,AA trivial]
   have hp:=A1Y (k:=4503599627370496+x%4503599627370496) (n:=m) (s:=1075-((x / 4503599627370496:Nat):Int)) (by omega) (by omega) (by omega) (by omega) (by omega)
   have hv:((BitVec.ofNat 64 x) &&& (4503599627370495#64))|||(4503599627370496#64)=BitVec.ofInt 64 ((4503599627370496+x%4503599627370496:Nat):Int):=by
    apply AB8
    rw[A4U (by omega),AG0,bn (by omega)]
   have hq:(4503599627370496+x%4503599627370496)*m / 2 ^ (1075-((x / 4503599627370496:Nat):Int)).toNat<9223372036854775808:=Nat.lt_of_le_of_lt (Nat.div_le_self _ _) (by omega)
   rw[hv,hp,A76 hq]
   congr 2
   unfold FR
   rw[ANT hb h1]
   congr 4
   omega
  ·rw[AE hd,z0,A1X hb h1 (by omega) (by omega)]
   rfl
 ·rw[af,AE (by decide),z0,A1W (by omega) (by omega)]
  rfl
def okb (s:ByteArray) (i:Nat):Prop:=(97<=YU s i/\YU s i<=122)\/(i≠0/\(YU s i=45\/(48<=YU s i/\YU s i<=57)))
def AB3 (s:ByteArray):Prop:=1<=s.size/\s.size<=16/\∀ i,i<s.size->okb s i
theorem AQ2 (s:ByteArray) (hs:s.size<=1000000):∃ b,JY s=some b/\(b=true↔AB3 s):=by
 unfold JY zag
 refine PW (fun n (i:Int)=>∃ p:Nat,i=(p:Int)/\n=s.size-p/\p<=s.size/\∀ j,j<p->okb s j) (fun b=>b=true↔AB3 s) ?_ s.size 0 ⟨0,rfl,by omega,by omega,fun i h=>by omega⟩
 rintro n i ⟨p,rfl,h1,h2,h3⟩
 by_cases hp:p<s.size
 rotate_left
 ·left
  rw[af]
  by_cases c1:(s.size:Int)≥1
  ·rw[AA c1]
   refine⟨_,rfl, ?_⟩
   rw[P5]
   exact⟨fun h=>⟨by omega,by omega,fun j hj=>h3 j (by omega)⟩,fun h=>by have:=h.2.1;omega⟩
  ·rw[AE c1]
   exact⟨_,rfl,AGA (by decide) fun h=>by have:=h.1;omega⟩
 rw[ab,ab,HM,ah]
 have bad:¬okb s p->∃ b,(some (Sum.inr false):Option (Int ⊕ Bool))=some (.inr b)/\(b=true↔AB3 s):=fun hb=>⟨false,rfl,AGA (by decide) fun h=>hb (h.2.2 p hp)⟩
 have good:okb s p->∃ m s',m<n/\(some (Sum.inl ((p:Int)+1)):Option (Int ⊕ Bool))=some (.inl s')/\∃ q:Nat,s' =(q:Int)/\m=s.size-q/\q<=s.size/\∀ j,j<q->okb s j:=fun hk=>⟨n-1,_,by omega,rfl,p+1,rfl,by omega,by omega,fun i hi=>by
  by_cases e:i=p
  ·rw[e];exact hk
  ·exact h3 i (by omega)⟩
 by_cases hk:okb s p
 ·right
  have KA :=hk
  unfold okb at KA
  repeat' split
  all_goals first|exact good hk|(exfalso;omega)
 ·left
  have KA :=hk
  unfold okb at KA
  repeat' split
  all_goals first|exact bad hk|(exfalso;omega)
abbrev Ru:Type:=Nat×Int×Int×Int
abbrev Cf:Type:=ByteArray×List Ru×Int
def ru (c:Cf) (b:Int):Ru:=gl (0,0,0,0) c.2.1 b.toNat
def KG (r:Ru) (b last:Int):Prop:=r.2.1<0\/64<r.2.1\/r.2.2.1<0\/64<r.2.2.1\/(b=last/\r.2.1≠0)
def H9 (r:Ru) (b last:Int):Prop:=(b=last/\r.2.2.2≠b)\/(b<last/\(r.2.2.2<=b\/last<r.2.2.2))
instance (r:Ru) (b last:Int):Decidable (KG r b last):=by unfold KG;infer_instance
instance (r:Ru) (b last:Int):Decidable (H9 r b last):=by unfold H9;infer_instance
def nW (r:Ru) (b last:Int):Int:=if ¬VV r.1 then 6 else if KG r b last then 9 else if H9 r b last then 10 else 0
def Sh (c:Cf):Prop:=∀ b:Int,0<=b->b<c.2.1.length->(ru c b).1<18446744073709551616
def fe (c:Cf):Nat->Int->Int
 |0,_=>0
 |m+1,b=>if nW (ru c b) b ((c.2.1.length:Int)-1)≠0 then nW (ru c b) b ((c.2.1.length:Int)-1) else fe c m (b+1)
theorem ANW (c:Cf):∀ (m:Nat) (b:Int),fe c m b=0->∀ k:Int,b<=k->k<b+m->nW (ru c k) k ((c.2.1.length:Int)-1)=0
 |0,b,_,k,h1,h2=>by omega
 |m+1,b,h,k,h1,h2=>by
  rw[fe] at h
  by_cases e:nW (ru c b) b ((c.2.1.length:Int)-1)=0
  ·rw[AE (DQ e)] at h
   by_cases hk:k=b
   ·rw[hk];exact e
   ·exact ANW c m (b+1) h k (by omega) (by omega)
  ·rw[AA e] at h;exact absurd h e
theorem AZM (c:Cf):∀ (m:Nat) (b:Int),(∀ k:Int,b<=k->k<b+m->nW (ru c k) k ((c.2.1.length:Int)-1)=0)->fe c m b=0
 |0,b,_=>rfl
 |m+1,b,h=>by
  rw[fe,AE (DQ (h b (by omega) (by omega)))]
  exact AZM c m (b+1) fun k h1 h2=>h k (by omega) (by omega)
def Aim (c:Cf) (b:Int):Prop:=∃ k:Int,(0<=k/\k<c.2.1.length)/\k≠b/\(ru c k).2.2.2=b
def zN (c:Cf):Prop:=((ru c ((c.2.1.length:Int)-1)).1=0/\(c.2.2<1\/64<c.2.2))\/((ru c ((c.2.1.length:Int)-1)).1≠0/\c.2.2≠0)
open Classical in
noncomputable def YV (c:Cf):Int:=
 if ¬AB3 c.1 then 7 else if ¬(1<=c.2.1.length/\c.2.1.length<=4) then 8 else if fe c c.2.1.length 0≠0 then fe c c.2.1.length 0 else if ¬(∀ b:Int,1<=b->b<c.2.1.length->Aim c b) then 10 else if zN c then 9 else 0
theorem ALA {x:Nat} (h:VV x):FD x 0=some .eq↔x=0:=by
 rcases h with rfl|⟨h0,h1⟩
 ·exact oJ (by decide) rfl
 ·exact AGA (not_zero h0 h1) (by omega)
variable {b:Int} {c:Cf}
theorem A1Z (h1:1<=c.2.1.length) (hfe:fe c c.2.1.length 0=0) (b0:0<=b) (b1:b<c.2.1.length):VV (ru c b).1:=by
 have:=ANW c _ _ hfe b b0 (by omega)
 unfold nW at this
 exact AA5 fun h=>by rw[AA h] at this;exact absurd this (by decide)
theorem AXN:∀ p:Fin 101,(match KR .quo (dV (p.1:Int)) 4636737291354636288 with|some w=>decide (p.1=0\/(0<w/\w<=4607182418800017408))|none=>false)=true:=by decide+kernel
variable {p:Int}
theorem ANX (h0:1<=p) (h1:p<=100):∃ w,GP p=some (w,0)/\0<w/\w<=4607182418800017408:=by
 have:=AXN ⟨p.toNat,by omega⟩
 rw[show (((⟨p.toNat,by omega⟩:Fin 101).1:Nat):Int)=p from wQ (by omega)] at this
 unfold GP
 rw[af,af]
 cases h:KR .quo (dV p) 4636737291354636288 with
 |none=>rw[h] at this;cases this
 |some w=>
  rw[h] at this
  simp only[LD] at this
  rw[AA Option.isSome_some]
  refine⟨w,rfl, ?_⟩
  rcases this with h2|h2
  ·omega
  ·exact h2
variable {d:List Int×Int}
theorem AU6 (hd:OR d):∃ x d',K7 d=some (x,d')/\(0<x/\x<=4607182418800017408)/\OR d' :=by
 unfold K7
 obtain⟨r1,d1,e1,a0,a1,yS⟩:=ED hd (n:=4) (by omega) (by omega)
 rw[e1]
 simp only[AW]
 by_cases c:r1=0
 ·rw[AA c]
  obtain⟨r2,d2,e2,b0,b1,hd2⟩:=ED yS (n:=5) (by omega) (by omega)
  rw[e2]
  simp only[AW]
  rw[AA ⟨b0,by simp;omega⟩]
  refine⟨_,_,rfl, ?_,hd2⟩
  have hm:=B3 (d:=(0:Nat)) (xs:=[4602678819172646912,4593671619917905920,4607182418800017408,4599676419421066581,4562254508917369340]) (k:=r2.toNat) (by simp;omega)
  generalize gl (0:Nat) [4602678819172646912,4593671619917905920,4607182418800017408,4599676419421066581,4562254508917369340] r2.toNat=x at hm ⊢
  simp only[GH,wU,tS] at hm
  omega
 ·rw[AE c]
  obtain⟨r2,d2,e2,b0,b1,hd2⟩:=ED yS (n:=100) (by omega) (by omega)
  rw[e2]
  simp only[AW]
  rw[ah]
  obtain⟨w,w1,w2⟩:=ANX (p:=1+r2) (by omega) (by omega)
  rw[w1]
  exact⟨_,_,rfl,w2,hd2⟩
structure Good (c:Cf):Prop where
 nm:AB3 c.1
 n:1<=c.2.1.length/\c.2.1.length<=4
 ru:∀ b:Int,0<=b->b<c.2.1.length->VV (ru c b).1/\¬KG (ru c b) b ((c.2.1.length:Int)-1)/\¬H9 (ru c b) b ((c.2.1.length:Int)-1)
 aim:∀ b:Int,1<=b->b<c.2.1.length->Aim c b
 fin:¬zN c
theorem Good.sh (h:Good c):Sh c:=fun b b0 b1=>by
 rcases (h.ru b b0 b1).1 with e|⟨_,e⟩ <;> omega
theorem Good.YV {c:Cf} (h:Good c):YV c=0:=by
 unfold Go.Proofs.YtokeceeccmgcmaaGreatDoor.YV
 rw[AE (DQ h.nm),AE (DQ h.n)]
 have hfe:fe c c.2.1.length 0=0:=AZM c _ _ fun k k0 k1=>by
  obtain⟨a,b,d⟩:=h.ru k k0 (by omega)
  unfold nW
  rw[AE (DQ a),AE b,AE d]
 rw[AE (DQ hfe),AE (DQ h.aim),AE h.fin]
variable {f:Int}
theorem Good.full (h:Good c) (hf:c.2.2>0) (f0:1<=f) (f1:f<=5):Good (c.1,c.2.1,f):=by
 refine⟨h.nm,h.n,h.ru,h.aim, ?_⟩
 have:=h.fin
 rintro (⟨_,h2⟩|⟨h1,h2⟩)
 ·simp only at h2;omega
 ·exact this (.inr ⟨h1,by omega⟩)
theorem zO {s:ByteArray} (h:decide (1<=s.size/\s.size<=16/\∀ i:Fin s.size,(97<=YU s i.1/\YU s i.1<=122)\/(i.1≠0/\(YU s i.1=45\/(48<=YU s i.1/\YU s i.1<=57))))=true):AB3 s:=by
 rw[P5] at h
 exact⟨h.1,h.2.1,fun i hi=>h.2.2 ⟨i,hi⟩⟩
theorem AZN {s:ByteArray} {x:Nat} {q:Int} (hs:AB3 s) (hx:VV x) (hq:0<=q/\q<=64) (hf:¬((x=0/\(f<1\/64<f))\/(x≠0/\f≠0))):Good (s,[(x,0,q,0)],f):=by
 refine⟨hs,⟨by simp,by simp⟩, ?_, ?_,hf⟩
 ·intro b b0 b1
  simp only[NU,SK] at b1 ⊢
  obtain rfl:b=0:=by omega
  refine⟨hx, ?_, ?_⟩
  ·show ¬KG (x,0,q,0) _ _
   unfold KG;simp only;omega
  ·show ¬H9 (x,0,q,0) _ _
   unfold H9;simp only;omega
 ·intro b b0 b1
  simp only[NU,SK] at b1
  omega
theorem AU7 {s:ByteArray} {x y:Nat} {l q k:Int} (hs:AB3 s) (hx:VV x) (hy:VV y) (hl:0<=l/\l<=64) (hq:0<=q/\q<=64) (hk:0<=k/\k<=64) (hf:¬((y=0/\(f<1\/64<f))\/(y≠0/\f≠0))):Good (s,[(x,l,q,1),(y,0,k,1)],f):=by
 refine⟨hs,⟨by simp,by simp⟩, ?_, ?_,hf⟩
 ·intro b b0 b1
  simp only[NU,SK] at b1 ⊢
  have:b=0\/b=1:=by omega
  rcases this with rfl|rfl
  ·refine⟨hx, ?_, ?_⟩
   ·show ¬KG (x,l,q,1) _ _
    unfold KG;simp only;omega
   ·show ¬H9 (x,l,q,1) _ _
    unfold H9;simp only;omega
  ·refine⟨hy, ?_, ?_⟩
   ·show ¬KG (y,0,k,1) _ _
    unfold KG;simp only;omega
   ·show ¬H9 (y,0,k,1) _ _
    unfold H9;simp only;omega
 ·intro b b0 b1
  simp only[NU,SK] at b1
  obtain rfl:b=1:=by omega
  exact⟨0,⟨by omega,by simp⟩,by omega,rfl⟩
theorem A4V {s:ByteArray} {x y z:Nat} {q k:Int} (hs:AB3 s) (hx:VV x) (hy:VV y) (hz:VV z) (hq:0<=q/\q<=64) (hk:0<=k/\k<=64) (hf:¬((z=0/\(f<1\/64<f))\/(z≠0/\f≠0))):Good (s,[(x,0,q,1),(y,0,k,2),(z,0,0,2)],f):=by
 refine⟨hs,⟨by simp,by simp⟩, ?_, ?_,hf⟩
 ·intro b b0 b1
  simp only[NU,SK] at b1 ⊢
  have:b=0\/b=1\/b=2:=by omega
  rcases this with rfl|rfl|rfl
  ·refine⟨hx, ?_, ?_⟩
   ·show ¬KG (x,0,q,1) _ _
    unfold KG;simp only;omega
   ·show ¬H9 (x,0,q,1) _ _
    unfold H9;simp only;omega
  ·refine⟨hy, ?_, ?_⟩
   ·show ¬KG (y,0,k,2) _ _
    unfold KG;simp only;omega
   ·show ¬H9 (y,0,k,2) _ _
    unfold H9;simp only;omega
  ·refine⟨hz, ?_, ?_⟩
   ·show ¬KG (z,0,0,2) _ _
    unfold KG;simp only;omega
   ·show ¬H9 (z,0,0,2) _ _
    unfold H9;simp only;omega
 ·intro b b0 b1
  simp only[NU,SK] at b1
  have:b=1\/b=2:=by omega
  rcases this with rfl|rfl
  ·exact⟨0,⟨by omega,by simp⟩,by omega,rfl⟩
  ·exact⟨1,⟨by omega,by simp⟩,by omega,rfl⟩
theorem A20 {j:Nat} (hj:j<6) (p0:1<=p) (p1:p<=100):∃ c,ML (gl (⟨#[]⟩:ByteArray) [⟨#[115,101,109,105,115,112,97,99,101]⟩,⟨#[97,112,112,101,108]⟩,⟨#[102,105,120,101,100]⟩,⟨#[111,108,100,101,114,45,102,105,114,115,116]⟩,⟨#[120,120]⟩,⟨#[120,120,49,48,48]⟩] j) p=some (c,0)/\Good c:=by
 obtain⟨w,w1,w2,w3⟩:=ANX p0 p1
 have hw:VV w:= .inr ⟨w2,w3⟩
 have h0:VV 0:= .inl rfl
 unfold ML
 rw[w1]
 simp only[AW]
 rw[AE (by simp)]
 have:j=0\/j=1\/j=2\/j=3\/j=4\/j=5:=by omega
 rcases this with rfl|rfl|rfl|rfl|rfl|rfl
 ·rw[AA (by decide),af]
  exact⟨_,rfl,AZN (zO (by decide)) h0 (by omega) (by omega)⟩
 ·rw[AE (by decide),AA (by decide),af]
  exact⟨_,rfl,AU7 (zO (by decide)) h0 h0 (by omega) (by omega) (by omega) (by omega)⟩
 ·rw[AE (by decide),AE (by decide),AA (by decide),af]
  exact⟨_,rfl,AU7 (zO (by decide)) hw h0 (by omega) (by omega) (by omega) (by omega)⟩
 ·rw[AE (by decide),AE (by decide),AE (by decide),AA (by decide),af]
  exact⟨_,rfl,AZN (zO (by decide)) hw (by omega) (by omega)⟩
 ·rw[AE (by decide),AE (by decide),AE (by decide),AE (by decide),AA (by decide),af]
  exact⟨_,rfl,AU7 (zO (by decide)) hw hw (by omega) (by omega) (by omega) (by omega)⟩
 ·rw[AE (by decide),AE (by decide),AE (by decide),AE (by decide),AE (by decide),AA (by decide),af]
  exact⟨_,rfl,A4V (zO (by decide)) hw hw h0 (by omega) (by omega) (by omega)⟩
def Part (n b:Int) (c:Cf):Prop:=
 c.1=⟨#[111,119,110]⟩/\(c.2.1.length:Int)=b/\(b<n->c.2.2=0)∧
 (∀ k:Int,0<=k->k<b->VV (ru c k).1/\(0<=(ru c k).2.1/\(ru c k).2.1<=64)/\(0<=(ru c k).2.2.1/\(ru c k).2.2.1<=64)/\(k<n-1->(ru c k).2.2.2=k+1)/\(k=n-1->(ru c k).2.1=0/\(ru c k).2.2.2=k))∧
 (b=n->¬(((ru c (n-1)).1=0/\(c.2.2<1\/64<c.2.2))\/((ru c (n-1)).1≠0/\c.2.2≠0)))
theorem Part.good (n0:1<=n) (n1:n<=4) (h:Part n n c):Good c:=by
 obtain⟨h1,h2,h3,h4,h5⟩:=h
 refine⟨by rw[h1];exact zO (by decide),⟨by omega,by omega⟩, ?_, ?_, ?_⟩
 ·intro b b0 b1
  obtain⟨a1,a2,a3,a4,a5⟩:=h4 b b0 (by omega)
  rw[h2]
  refine⟨a1, ?_, ?_⟩
  ·unfold KG;omega
  ·unfold H9;omega
 ·intro b b0 b1
  exact⟨b-1,⟨by omega,by omega⟩,by omega,by have:=(h4 (b-1) (by omega) (by omega)).2.2.2.1 (by omega);omega⟩
 ·unfold zN
  rw[h2]
  exact h5 rfl
theorem A21 {s:ByteArray} {l:List Ru} {r:Ru} {f':Int} {k:Int} (k0:0<=k) (k1:k<l.length):ru (s,l++ [r],f) k=ru (s,l,f') k:=by
 unfold ru gl
 simp only[n9]
 rw[V4 (by omega)]
theorem A22 {s:ByteArray} {l:List Ru} {r:Ru} :ru (s,l++ [r],f) l.length=r:=by
 unfold ru gl
 simp
theorem Part.more (h:Part n b c) (hb:b<n) {x:Nat} {l q t:Int} (hx:VV x) (hl:0<=l/\l<=64) (hq:0<=q/\q<=64) (ht:b<n-1->t=b+1) (ht2:b=n-1->l=0/\t=b) (hf:b<n-1->f=0) (n6:b=n-1->¬((x=0/\(f<1\/64<f))\/(x≠0/\f≠0))):
  Part n (b+1) (c.1,c.2.1++ [(x,l,q,t)],f):=by
 obtain⟨h1,h2,h3,h4,h5⟩:=h
 have D8:ru (c.1,c.2.1++ [(x,l,q,t)],f) b=(x,l,q,t):=by rw[<-h2];exact A22
 refine⟨h1,by simp;omega,fun h=>hf (by omega), ?_, ?_⟩
 ·intro k k0 k1
  by_cases e:k=b
  ·rw[e,D8]
   exact⟨hx,hl,hq,ht,ht2⟩
  ·rw[A21 (f' :=c.2.2) k0 (by omega)]
   exact h4 k k0 (by omega)
 ·intro e
  rw[show n-1=b from by omega,D8]
  exact n6 (by omega)
variable {α β:Type}
theorem AXO {x:Option (α×β)} {Q:α->Prop} {R:β->Prop} (h:∃ b,x=some b/\Q b.1/\R b.2):∃ c d',x=some (c,d')/\Q c/\R d' :=by
 obtain⟨⟨c,d'⟩,h1,h2⟩:=h
 exact⟨c,d',h1,h2⟩
theorem AQ3 (hd:OR d):∃ c d',J5 d=some (c,d')/\Good c/\OR d' :=by
 unfold J5 zaT
 obtain⟨r1,d1,e1,a0,a1,yS⟩:=ED hd (n:=3) (by omega) (by omega)
 rw[e1,AW]
 by_cases c1:r1>0
 ·rw[AA c1]
  unfold OQ
  obtain⟨r3,d3,e3,b0,b1,hd3⟩:=ED yS (n:=6) (by omega) (by omega)
  rw[AW,e3,AW,AA ⟨b0,by simp;omega⟩]
  obtain⟨r4,d4,e4,f0,f1,hd4⟩:=ED hd3 (n:=100) (by omega) (by omega)
  rw[e4,AW]
  obtain⟨r5,d5,e5,g0,g1,hd5⟩:=ED hd4 (n:=6) (by omega) (by omega)
  rw[e5,AW,AA ⟨g0,by simp;omega⟩,ah (e:=1+r4)]
  have hp:1<=gl (0:Int) [10,15,25,30,50,1+r4] r5.toNat/\gl (0:Int) [10,15,25,30,50,1+r4] r5.toNat<=100:=by
   have hm:=B3 (d:=(0:Int)) (xs:=[10,15,25,30,50,1+r4]) (k:=r5.toNat) (by simp;omega)
   generalize gl (0:Int) [10,15,25,30,50,1+r4] r5.toNat=x at hm ⊢
   simp only[GH,wU,tS] at hm
   omega
  obtain⟨c,k1,k2⟩:=A20 (j:=r3.toNat) (by omega) hp.1 hp.2
  rw[k1,AW]
  by_cases c2:c.2.2>0
  ·rw[AA c2]
   obtain⟨r6,d6,e6,m0,m1,hd6⟩:=ED hd5 (n:=5) (by omega) (by omega)
   rw[e6,AW,AW,ah (e:=1+r6)]
   exact⟨_,_,rfl,k2.full c2 (by omega) (by omega),hd6⟩
  ·rw[AE c2,AW]
   exact⟨_,_,rfl,k2,hd5⟩
 ·rw[AE c1]
  obtain⟨r8,d8,e8,b0,b1,hd8⟩:=ED yS (n:=4) (by omega) (by omega)
  rw[e8,AW,ah (e:=1+r8),ah (e:=1+r8-1)]
  generalize hn:1+r8=n
  have n0:1<=n:=by omega
  have n1:n<=4:=by omega
  refine AXO (Q:=Good) (R:=OR) ?_
  refine PW (β:=Cf×(List Int×Int)) (fun m (st:Int×(List Int×Int)×Cf)=>0<=st.1/\st.1<=n/\(m:Int)=n-st.1/\OR st.2.1/\Part n st.1 st.2.2) (fun b=>Good b.1/\OR b.2) ?_ n.toNat ((0:Int),d8,((⟨#[111,119,110]⟩,[],0):Cf)) ⟨by simp,by simp only;omega,by simp only;omega,hd8,rfl,rfl,fun _=>rfl,fun k k0 k1=>by simp only at k1;omega,fun h=>by simp only at h;omega⟩
  rintro m ⟨b,dk,c⟩ ⟨b0,b1,hm,hdk,Y8⟩
  simp only at b0 b1 hm hdk Y8 ⊢
  have hlen:=Y8.2.1
  by_cases hb:b<n
  rotate_left
  ·rw[AE hb]
   have:b=n:=by omega
   rw[this] at Y8
   exact .inl ⟨_,rfl,Y8.good n0 n1,hdk⟩
  rw[AA hb]
  right
  obtain⟨r9,d9,e9,p0,p1,hd9⟩:=ED hdk (n:=3) (by omega) (by omega)
  rw[e9,AW,ah (e:=b+1)]
  obtain⟨ID,d10,e10,q0,q1,A4W⟩:=ED hd9 (n:=3) (by omega) (by omega)
  rw[e10,AW]
  have b8:∀ r:Ru,(c.2.1.length+([r]:List Ru).length)*32<=140737488355328:=fun r=>by
   simp only[NU,SK];omega
  have tl:∀ (x:Nat) (dk2:List Int×Int),VV x->OR dk2->∃ (dk3:List Int×Int) (c' :Cf),(if b<n-1 then
    (AF dk2 3).bind (fun O8=>
    if O8.1=0 then
    (AF O8.2 2).bind (fun UZ=>
    if b=n-1 then
    if FD x 0=some .eq then
    (AF UZ.2 6).bind (fun pN=>
    if (c.2.1.length+([(x,AG ((1:Int)+UZ.1),r9,b)]:List Ru).length)*32<=140737488355328 then
    some (Sum.inl ((b+1,pN.2,(c.1,c.2.1++([(x,AG ((1:Int)+UZ.1),r9,b)]:List Ru),AG ((1:Int)+pN.1)))))
    else none)
    else if (c.2.1.length+([(x,AG ((1:Int)+UZ.1),r9,b)]:List Ru).length)*32<=140737488355328 then
    some (Sum.inl ((b+1,UZ.2,(c.1,c.2.1++([(x,AG ((1:Int)+UZ.1),r9,b)]:List Ru),c.2.2))))
    else none
    else if (c.2.1.length+([(x,AG ((1:Int)+UZ.1),r9,b+1)]:List Ru).length)*32<=140737488355328 then
    some (Sum.inl ((b+1,UZ.2,(c.1,c.2.1++([(x,AG ((1:Int)+UZ.1),r9,b+1)]:List Ru),c.2.2))))
    else none)
    else if b=n-1 then
    if FD x 0=some .eq then
    (AF O8.2 6).bind (fun sI=>
    if (c.2.1.length+([(x,0,r9,b)]:List Ru).length)*32<=140737488355328 then
    some (Sum.inl ((b+1,sI.2,(c.1,c.2.1++([(x,0,r9,b)]:List Ru),AG ((1:Int)+sI.1)))))
    else none)
    else if (c.2.1.length+([(x,0,r9,b)]:List Ru).length)*32<=140737488355328 then
    some (Sum.inl ((b+1,O8.2,(c.1,c.2.1++([(x,0,r9,b)]:List Ru),c.2.2))))
    else none
    else if (c.2.1.length+([(x,0,r9,b+1)]:List Ru).length)*32<=140737488355328 then
    some (Sum.inl ((b+1,O8.2,(c.1,c.2.1++([(x,0,r9,b+1)]:List Ru),c.2.2))))
    else none)
    else if b=n-1 then
    if FD x 0=some .eq then
    (AF dk2 6).bind (fun wA=>
    if (c.2.1.length+([(x,0,r9,b)]:List Ru).length)*32<=140737488355328 then
    some (Sum.inl ((b+1,wA.2,(c.1,c.2.1++([(x,0,r9,b)]:List Ru),AG ((1:Int)+wA.1)))))
    else none)
    else if (c.2.1.length+([(x,0,r9,b)]:List Ru).length)*32<=140737488355328 then
    some (Sum.inl ((b+1,dk2,(c.1,c.2.1++([(x,0,r9,b)]:List Ru),c.2.2))))
    else none
    else if (c.2.1.length+([(x,0,r9,b+1)]:List Ru).length)*32<=140737488355328 then
    some (Sum.inl ((b+1,dk2,(c.1,c.2.1++([(x,0,r9,b+1)]:List Ru),c.2.2))))
    else none:Option ((Int×(List Int×Int)×Cf) ⊕ (Cf×(List Int×Int))))=some (Sum.inl (b+1,dk3,c'))/\OR dk3/\Part n (b+1) c' :=by
   intro x dk2 hx A23
   by_cases c2:b<n-1
   ·have c3:¬b=n-1:=by omega
    have hc0:c.2.2=0:=Y8.2.2.1 hb
    rw[AA c2]
    obtain⟨O8,d12,e12,s0,s1,A4X⟩:=ED A23 (n:=3) (by omega) (by omega)
    rw[e12,AW]
    by_cases c4:O8=0
    ·rw[AA c4]
     obtain⟨UZ,d13,e13,t0,t1,A77⟩:=ED A4X (n:=2) (by omega) (by omega)
     rw[e13,AW,AE c3,AA (b8 _),ah (e:=1+UZ)]
     exact⟨_,_,rfl,A77,Y8.more hb hx (by omega) (by omega) (fun _=>rfl) (fun h=>absurd h c3) (fun _=>hc0) (fun h=>absurd h c3)⟩
    ·rw[AE c4,AE c3,AA (b8 _)]
     exact⟨_,_,rfl,A4X,Y8.more hb hx (by omega) (by omega) (fun _=>rfl) (fun h=>absurd h c3) (fun _=>hc0) (fun h=>absurd h c3)⟩
   ·have c3:b=n-1:=by omega
    have hc0:c.2.2=0:=Y8.2.2.1 hb
    rw[AE c2,AA c3]
    by_cases c4:FD x 0=some .eq
    ·rw[AA c4]
     have hx0:=(ALA hx).1 c4
     obtain⟨wA,d16,e16,t0,t1,A78⟩:=ED A23 (n:=6) (by omega) (by omega)
     rw[e16,AW,AA (b8 _),ah (e:=1+wA)]
     exact⟨_,_,rfl,A78,Y8.more hb hx (by omega) (by omega) (fun h=>by omega) (fun _=>⟨rfl,rfl⟩) (fun h=>by omega) (fun _=>by omega)⟩
    ·rw[AE c4,AA (b8 _)]
     have hx0:x≠0:=fun h=>c4 ((ALA hx).2 h)
     exact⟨_,_,rfl,A23,Y8.more hb hx (by omega) (by omega) (fun h=>by omega) (fun _=>⟨rfl,rfl⟩) (fun h=>by omega) (fun _=>by omega)⟩
  by_cases c5:ID>0
  ·rw[AA c5]
   obtain⟨x,d11,e11,hx,A79⟩:=AU6 A4W
   rw[e11,AW,AW]
   obtain⟨dk3,c',t1,t2,t3⟩:=tl x d11 (.inr hx) A79
   exact⟨m-1,_,by omega,t1,by simp only;omega,by simp only;omega,by simp only;omega,t2,t3⟩
  ·rw[AE c5,AW]
   obtain⟨dk3,c',t1,t2,t3⟩:=tl 0 d10 (.inl rfl) A4W
   exact⟨m-1,_,by omega,t1,by simp only;omega,by simp only;omega,by simp only;omega,t2,t3⟩
theorem AU8 {x:Nat} {l q t last:Int} {n:Nat} (hx:x<18446744073709551616) (hn:(n:Int)=last+1) (b1:b<=last) (ok mark:Option (α ⊕ Int)) (XS:mark=mark):
  (if (!(decide (VV x)))=true then
   some (Sum.inr (6))
   else if l<0 then
   some (Sum.inr (9))
   else if l>64 then
   some (Sum.inr (9))
   else if q<0 then
   some (Sum.inr (9))
   else if q>64 then
   some (Sum.inr (9))
   else if b=last then
   if ¬l=0 then
   some (Sum.inr (9))
   else if b=last then
   if ¬t=b then
   some (Sum.inr (10))
   else if ¬(b=last) then
   if t<=b then
   some (Sum.inr (10))
   else if t≥(n:Int) then
   some (Sum.inr (10))
   else if ¬(b=last) then
   mark
   else ok
   else if ¬(b=last) then
   mark
   else ok
   else if ¬(b=last) then
   if t<=b then
   some (Sum.inr (10))
   else if t≥(n:Int) then
   some (Sum.inr (10))
   else if ¬(b=last) then
   mark
   else ok
   else if ¬(b=last) then
   mark
   else ok
   else if b=last then
   if ¬t=b then
   some (Sum.inr (10))
   else if ¬(b=last) then
   if t<=b then
   some (Sum.inr (10))
   else if t≥(n:Int) then
   some (Sum.inr (10))
   else if ¬(b=last) then
   mark
   else ok
   else if ¬(b=last) then
   mark
   else ok
   else if ¬(b=last) then
   if t<=b then
   some (Sum.inr (10))
   else if t≥(n:Int) then
   some (Sum.inr (10))
   else if ¬(b=last) then
   mark
   else ok
   else if ¬(b=last) then
   mark
   else ok:Option (α ⊕ Int))=if nW (x,l,q,t) b last≠0 then some (Sum.inr (nW (x,l,q,t) b last)) else if b=last then ok else mark:=by
 have hL:KG (x,l,q,t) b last↔l<0\/64<l\/q<0\/64<q\/(b=last/\l≠0):=Iff.rfl
 have hT:H9 (x,l,q,t) b last↔(b=last/\t≠b)\/(b<last/\(t<=b\/last<t)):=Iff.rfl
 unfold nW
 simp only
 by_cases hv:VV x
 rotate_left
 ·rw[AA (by simp [hv]),AA hv,AA (by decide)]
 rw[AE (by simp [hv]),AE (DQ hv)]
 by_cases c1:KG (x,l,q,t) b last
 ·rw[AA c1,AA (show (9:Int)≠0 from by decide)]
  have c1' :=hL.1 c1
  by_cases d1:l<0
  ·rw[AA d1]
  rw[AE d1]
  by_cases d2:l>64
  ·rw[AA d2]
  rw[AE d2]
  by_cases d3:q<0
  ·rw[AA d3]
  rw[AE d3]
  by_cases d4:q>64
  ·rw[AA d4]
  rw[AE d4,ab,ab]
 ·have c1' :¬(l<0\/64<l\/q<0\/64<q\/(b=last/\l≠0)):=fun h=>c1 (hL.2 h)
  rw[AE c1,AE (show ¬l<0 by omega),AE (show ¬l>64 by omega),AE (show ¬q<0 by omega),AE (show ¬q>64 by omega)]
  by_cases e:b=last
  ·rw[AA e,AE (show ¬¬l=0 by omega),AA e,AA e]
   by_cases d5:t=b
   ·have nt:¬H9 (x,l,q,t) b last:=fun h=>by have:=hT.1 h;omega
    rw[AE (DQ d5),AE (DQ e),AE (DQ e),AE nt,AE (by decide)]
   ·rw[AA d5,AA (hT.2 (.inl ⟨e,d5⟩)),AA (by decide)]
  ·rw[AE e,AE e,AE e,AA e]
   by_cases d5:t<=b
   ·rw[AA d5,AA (hT.2 (.inr ⟨by omega,.inl d5⟩)),AA (by decide)]
   ·rw[AE d5]
    by_cases d6:t≥(n:Int)
    ·rw[AA d6,AA (hT.2 (.inr ⟨by omega,.inr (by omega)⟩)),AA (by decide)]
    ·have nt:¬H9 (x,l,q,t) b last:=fun h=>by have:=hT.1 h;omega
     rw[AE d6,AA e,AE nt,AE (by decide)]
theorem zP (c:Cf) {k:Int} (h:nW (ru c k) k ((c.2.1.length:Int)-1)=0):¬H9 (ru c k) k ((c.2.1.length:Int)-1):=by
 unfold nW at h
 intro ht
 by_cases hv:VV (ru c k).1
 ·rw[AE (DQ hv)] at h
  by_cases hl:KG (ru c k) k ((c.2.1.length:Int)-1)
  ·rw[AA hl] at h;exact absurd h (by decide)
  ·rw[AE hl,AA ht] at h;exact absurd h (by decide)
 ·rw[AA hv] at h;exact absurd h (by decide)
open Classical in
theorem ACU (hn:c.2.1.length<=1000) (b8:c.1.size<=1000000) (hs:Sh c):D5 c=some (YV c):=by
 unfold D5 zat zaK ze zaj zaa zq YV
 obtain⟨nb,n1,n2⟩:=AQ2 c.1 b8
 rw[n1,AW]
 by_cases hnm:AB3 c.1
 rotate_left
 ·rw[AA (by simp only[b6];cases nb with|false=>rfl|true=>exact absurd (n2.1 rfl) hnm),AA hnm]
 rw[AE (by simp [n2.2 hnm]),AE (DQ hnm)]
 by_cases c1:(c.2.1.length:Int)<1
 ·rw[AA c1,ab]
 rw[AE c1]
 by_cases c2:(c.2.1.length:Int)>4
 ·rw[AA c2,ab]
 rw[AE c2,AE (show ¬¬(1<=c.2.1.length/\c.2.1.length<=4) from by omega),AA (by simp),ah (e:=(c.2.1.length:Int)-1)]
 have hr:∀ i:Int,gl (0,0,0,0) c.2.1 i.toNat=ru c i:=fun _=>rfl
 refine LI (fun m (st:Int×List Bool)=>∃ p:Nat,st.1=(p:Int)/\m=c.2.1.length-p/\p<=c.2.1.length/\fe c (c.2.1.length-p) p=fe c c.2.1.length 0/\st.2.length=4/\(∀ k:Int,0<=k->k<p->nW (ru c k) k ((c.2.1.length:Int)-1)=0)∧
  ∀ j:Nat,j<4->(gl false st.2 j=true↔(j=0\/∃ k:Int,(0<=k/\k<p/\k<(c.2.1.length:Int)-1)/\(ru c k).2.2.2=(j:Int)))) (n:=c.2.1.length) ?_ ⟨0,rfl,by omega,by omega,by simp,rfl,fun k k0 k1=>by omega, ?_⟩
 ·rintro m ⟨i,am⟩ ⟨p,rfl,h1,h2,h3,h4,h5,h6⟩
  simp only at h4 h6 ⊢
  by_cases hp:p<c.2.1.length
  ·have f1:m-1<m/\m-1=c.2.1.length-(p+1)/\p+1<=c.2.1.length:=by clear h6 h5;omega
   rw[AA (by clear h6 h5;omega),AA (by clear h6 h5;omega),hr,jD,jC (hs p (by clear h6 h5;omega) (by clear h6 h5;omega)),AW,AB (e:=(p:Int)+1) (by clear h6 h5;omega) (by clear h6 h5;omega)]
   have A4Y:=AU8 (x:=(ru c p).1) (l:=(ru c p).2.1) (q:=(ru c p).2.2.1) (t:=(ru c p).2.2.2) (b:=(p:Int)) (last:=(c.2.1.length:Int)-1) (n:=c.2.1.length) (hs p (by clear h6 h5;omega) (by clear h6 h5;omega)) (by clear h6 h5;omega) (by clear h6 h5;omega)
    (α:=Int×List Bool) (some (Sum.inl ((p:Int)+1,am))) (if (0<=(ru c p).2.2.2/\(ru c p).2.2.2<((4:Nat):Int))/\(ru c p).2.2.2<(am.length:Int) then some (Sum.inl ((p:Int)+1,am.set (ru c p).2.2.2.toNat true)) else none) rfl
   rw[A4Y,show ((ru c p).1,(ru c p).2.1,(ru c p).2.2.1,(ru c p).2.2.2)=ru c p from rfl]
   obtain⟨d,hd⟩:∃ d,c.2.1.length-p=d+1:=⟨c.2.1.length-p-1,by clear h6 h5;omega⟩
   rw[hd,fe] at h3
   by_cases he:nW (ru c p) p ((c.2.1.length:Int)-1)=0
   ·rw[AE (DQ he)] at h3
    rw[AE (DQ he)]
    have hd' :c.2.1.length-(p+1)=d:=by clear h6 h5;omega
    have h5' :∀ k:Int,0<=k->k<((p+1:Nat):Int)->nW (ru c k) k ((c.2.1.length:Int)-1)=0:=fun k k0 k1=>by
     by_cases e:k=p
     ·rw[e];exact he
     ·exact h5 k k0 (by clear h6 h5;omega)
    right
    by_cases hl:(p:Int)=(c.2.1.length:Int)-1
    ·rw[AA hl]
     refine⟨m-1,_,f1.1,rfl,p+1,rfl,f1.2.1,f1.2.2,by rw[hd'];exact h3,h4,h5',fun j hj=> ?_⟩
     rw[h6 j hj]
     constructor
     ·rintro (h|⟨k,k1,k2⟩)
      ·exact .inl h
      ·exact .inr ⟨k,⟨k1.1,by clear h6 h5;omega,k1.2.2⟩,k2⟩
     ·rintro (h|⟨k,k1,k2⟩)
      ·exact .inl h
      ·exact .inr ⟨k,⟨k1.1,by clear h6 h5;omega,k1.2.2⟩,k2⟩
    ·have ht:=zP c he
     have hT:¬(((p:Int)=(c.2.1.length:Int)-1/\(ru c p).2.2.2≠p)\/((p:Int)<(c.2.1.length:Int)-1/\((ru c p).2.2.2<=p\/(c.2.1.length:Int)-1<(ru c p).2.2.2))):=ht
     have AF0:(p:Int)<(ru c p).2.2.2/\(ru c p).2.2.2<4:=by clear h6 h5;omega
     rw[AE hl,AA (by rw[h4];clear h6 h5;omega)]
     refine⟨m-1,_,f1.1,rfl,p+1,rfl,f1.2.1,f1.2.2,by rw[hd'];exact h3,by simpa using h4,h5',fun j hj=> ?_⟩
     simp only
     have XF:gl false (am.set (ru c p).2.2.2.toNat true) j=if j=(ru c p).2.2.2.toNat then true else gl false am j:=by
      unfold gl
      simp only[n9,wR]
      by_cases e:(ru c p).2.2.2.toNat=j
      ·rw[AA e,AA (by rw[h4];exact e ▸ hj),AA e.symm];rfl
      ·rw[AE e,AE (fun h=>e h.symm)]
     rw[XF]
     by_cases e:j=(ru c p).2.2.2.toNat
     ·rw[AA e]
      exact oJ rfl (.inr ⟨p,⟨by clear h6 h5;omega,by clear h6 h5;omega,by clear h6 h5;omega⟩,by clear h6 h5;omega⟩)
     ·rw[AE e,h6 j hj]
      constructor
      ·rintro (h|⟨k,k1,k2⟩)
       ·exact .inl h
       ·exact .inr ⟨k,⟨k1.1,by clear h6 h5;omega,k1.2.2⟩,k2⟩
      ·rintro (h|⟨k,k1,k2⟩)
       ·exact .inl h
       ·by_cases ek:k=p
        ·rw[ek] at k2;exact absurd k2 (by clear h6 h5;omega)
        ·exact .inr ⟨k,⟨k1.1,by clear h6 h5;omega,k1.2.2⟩,k2⟩
   ·rw[AA he] at h3
    rw[AA he,AA (by rw[<-h3];exact he),h3]
    exact .inl rfl
  ·have hp' :p=c.2.1.length:=by clear h6 h5;omega
   subst hp'
   rw[bL,fe] at h3
   rw[AE (by clear h6 h5;omega),AE (DQ h3.symm)]
   left
   have A4Z:∀ b:Nat,1<=b->b<c.2.1.length->(gl false am b=true↔Aim c b):=by
    intro b b0 b1
    rw[h6 b (by clear h6 h5;omega)]
    constructor
    ·rintro (h|⟨k,⟨k0,k1,k2⟩,k3⟩)
     ·exact absurd h (by clear h6 h5;omega)
     ·have hT:¬((k=(c.2.1.length:Int)-1/\(ru c k).2.2.2≠k)\/(k<(c.2.1.length:Int)-1/\((ru c k).2.2.2<=k\/(c.2.1.length:Int)-1<(ru c k).2.2.2))):=zP c (h5 k k0 k1)
      exact⟨k,⟨k0,k1⟩,by clear h6 h5;omega,k3⟩
    ·rintro⟨k,⟨k0,k1⟩,k2,k3⟩
     have hT:¬((k=(c.2.1.length:Int)-1/\(ru c k).2.2.2≠k)\/(k<(c.2.1.length:Int)-1/\((ru c k).2.2.2<=k\/(c.2.1.length:Int)-1<(ru c k).2.2.2))):=zP c (h5 k k0 k1)
     exact .inr ⟨k,⟨k0,k1,by clear h6 h5;omega⟩,k3⟩
   have h60:gl false am 0=true:=(h6 0 (by omega)).2 (.inl rfl)
   clear h6
   suffices hx:AH (σ:=Int) (β:=Int) _ 0=some (if ¬(∀ b:Int,1<=b->b<c.2.1.length->Aim c b) then 10 else if zN c then 9 else 0) by
    rw[hx];rfl
   refine LI (fun m (i:Int)=>∃ p:Nat,i=(p:Int)/\m=c.2.1.length-p/\p<=c.2.1.length/\∀ b:Int,1<=b->b<p->Aim c b) (n:=c.2.1.length) ?_ ⟨0,rfl,by omega,by omega,fun b b0 b1=>by omega⟩
   rintro m i ⟨p,rfl,q2,q3,q4⟩
   by_cases hp:p<c.2.1.length
   ·rw[ab,AA (by rw[h4];omega),HM]
    by_cases ha:gl false am p=true
    ·rw[AE (by simp [ha]),ah]
     refine .inr ⟨m-1,_,by omega,rfl,p+1,rfl,by omega,by omega,fun b b0 b1=> ?_⟩
     by_cases e:b=p
     ·rw[e];exact (A4Z p (by omega) hp).1 ha
     ·exact q4 b b0 (by omega)
    ·have hp0:p≠0:=by rintro rfl;exact ha h60
     rw[AA (by simpa using ha),AA (fun h=>ha ((A4Z p (by omega) hp).2 (h p (by omega) (by omega))))]
     exact .inl rfl
   ·rw[af,AE (DQ fun b b0 b1=>q4 b b0 (by omega)),ab]
    left
    have hz:=ALA (A1Z (by omega) h3.symm (b:=(c.2.1.length:Int)-1) (by omega) (by omega))
    rw[hr]
    unfold zN
    simp only[hz]
    by_cases z:(ru c ((c.2.1.length:Int)-1)).1=0
    ·rw[AA z]
     by_cases f1:c.2.2<1
     ·rw[AA f1,AA (.inl ⟨z,.inl f1⟩)];rfl
     ·rw[AE f1]
      by_cases f2:c.2.2>64
      ·rw[AA f2,AA (.inl ⟨z,.inr f2⟩)];rfl
      ·rw[AE f2,AE (DQ z),AE (by rintro (⟨_,h⟩|⟨h,_⟩);omega;exact h z)];rfl
    ·rw[AE z,AA z]
     by_cases f1:c.2.2=0
     ·rw[AE (DQ f1),AE (by rintro (⟨h,_⟩|⟨_,h⟩);exact z h;exact h f1)];rfl
     ·rw[AA f1,AA (.inr ⟨z,f1⟩)];rfl
 ·intro j hj
  have:j=0\/j=1\/j=2\/j=3:=by omega
  rcases this with rfl|rfl|rfl|rfl
  ·exact oJ rfl (.inl rfl)
  all_goals exact AGA (by decide) (by rintro (h|⟨k,k1,_⟩);omega;omega)
abbrev Rows:Type:=List (List AI)
theorem IS (q:List (List α)) (k:Nat) (hk:k<q.length):q.flatten=(q.take k).flatten++(gl [] q k++(q.drop (k+1)).flatten):=by
 rw[DJ hk,←List.flatten_cons,←AJB hk,←ARH,AFT]
theorem IY {d:α} (x:List α) (j:Nat) (hj:j<x.length):x.take (j+1)=x.take j++ [gl d x j]:=by
 rw[DJ hj,List.take_append_getElem hj]
theorem wF {d:α} (x:List α) (j:Nat) (hj:j<x.length):x=x.take j++gl d x j::x.drop (j+1):=by
 rw[DJ hj,←AJB hj,AFT]
theorem AZO {γ:Type} {q:List (List γ)} {d:γ} {F:α->γ->α} {a0:α} {r:α->β} {out:α×Int->Option ((α×Int) ⊕ β)} {u7:Nat->α×Int->Option ((α×Int) ⊕ ((α×Int) ⊕ β))}
  (h1:∀ k a,k<q.length->out (a,(k:Int))=AH (u7 k) (a,0))
  (h2:∀ (k j:Nat) a,k<q.length->j<(gl [] q k).length->(∃ pre suf,q.flatten=pre++gl d (gl [] q k) j::suf/\a=pre.foldl F a0)->u7 k (a,(j:Int))=some (.inl (F a (gl d (gl [] q k) j),(j:Int)+1)))
  (h3:∀ (k:Nat) a,k<q.length->u7 k (a,((gl [] q k).length:Int))=some (.inr (.inl (a,(k:Int)+1))))
  (h4:∀ a,out (a,(q.length:Int))=some (.inr (r a))):AH out (a0,0)=some (r (q.flatten.foldl F a0)):=by
 refine (AK (fun k (st:α×Int)=>k<=q.length/\st=((q.take k).flatten.foldl F a0,(k:Int))) (fun b=>b=r (q.flatten.foldl F a0)) q.length ?_ ?_ (s:=(a0,0)) ⟨by omega,by simp⟩).elim fun b hb=>by rw[hb.1,hb.2]
 ·rintro k st hk ⟨_,rfl⟩
  left
  refine⟨_, ?_,by omega,rfl⟩
  rw[h1 k _ hk]
  refine (AK (fun j (st:α×Int)=>j<=(gl [] q k).length/\st=(((q.take k).flatten++(gl [] q k).take j).foldl F a0,(j:Int))) (fun b=>b=Sum.inl ((q.take (k+1)).flatten.foldl F a0,((k+1:Nat):Int))) (gl [] q k).length ?_ ?_ (s:=((q.take k).flatten.foldl F a0,0)) ⟨by omega,by simp⟩).elim fun b hb=>by rw[hb.1,hb.2]
  ·rintro j st hj ⟨_,rfl⟩
   left
   refine⟨_,h2 k j _ hk hj ⟨(q.take k).flatten++(gl [] q k).take j,(gl [] q k).drop (j+1)++(q.drop (k+1)).flatten, ?_,rfl⟩,by omega, ?_⟩
   ·rw[IS q k hk]
    conv=>lhs;rw[wF (d:=d) (gl [] q k) j hj]
    simp
   ·rw[IY (d:=d) _ j hj,←I0,List.foldl_append (l' :=[_])]
    rfl
  ·rintro st ⟨_,rfl⟩
   refine⟨_,h3 k _ hk, ?_⟩
   rw[VD,IY (d:=[]) q k hk]
   simp
 ·rintro st ⟨_,rfl⟩
  exact⟨_,h4 _,by rw[VD]⟩
def ZX (xs:List AI):Int:=xs.foldl (fun n i=>n+i.2.2.2.2) 0
def lrg (z:Int) (xs:List AI):Int:=xs.foldl (fun n i=>max n (cl z i.2.2.2.2)) 0
theorem sV (xs:List AI) (a:Int):xs.foldl (fun n i=>n+i.2.2.2.2) a=a+ZX xs:=by
 unfold ZX
 induction xs generalizing a with
 |nil=>simp
 |cons x xs ih=>rw[tN,tN,ih,ih (0+_)];omega
theorem sW (x:AI) (xs:List AI):ZX (x::xs)=x.2.2.2.2+ZX xs:=by
 show List.foldl _ (0+x.2.2.2.2) xs=_
 rw[sV];omega
theorem AU9 (xs ys:List AI):ZX (xs++ys)=ZX xs+ZX ys:=by
 unfold ZX
 rw[List.foldl_append,sV];rfl
variable {xs:List AI}
theorem gW (h:∀ i∈xs,0<=i.2.2.2.2):0<=ZX xs:=by
 induction xs with
 |nil=>decide
 |cons x xs ih=>
  rw[sW]
  have:=h x (oC ..)
  have:=ih fun i hi=>h i (YB _ hi)
  omega
theorem AUA {z m:Int} (xs:List AI):lrg z xs<=m↔0<=m/\∀ i∈xs,cl z i.2.2.2.2<=m:=by
 have key:∀ (xs:List AI) (a:Int),xs.foldl (fun n i=>max n (cl z i.2.2.2.2)) a<=m↔a<=m/\∀ i∈xs,cl z i.2.2.2.2<=m:=by
  intro xs
  induction xs with
  |nil=>intro a;simp
  |cons x xs ih=>
   intro a
   rw[tN,ih,List.forall_mem_cons,Int.max_le,and_assoc]
 exact key xs 0
theorem A24 {z:Int} (xs:List AI):0<=lrg z xs/\∀ i∈xs,cl z i.2.2.2.2<=lrg z xs:=(AUA xs).1 (YT _)
variable {q:Rows}
theorem AQ4 (hq:q.length<=1000000) (hx:∀ x∈q,x.length<=1000000) (hw:∀ i∈q.flatten,0<=i.2.2.2.2) (hs:ZX q.flatten<=1000000):J3 q=some (ZX q.flatten):=by
 unfold J3 zan zaR
 apply AZO (q:=q) (d:=((0,0,0,0,0):AI)) (F:=fun n i=>n+i.2.2.2.2) (r:=id)
 ·intro k a hk
  simp only
  rw[ab,ab]
 ·intro k j a hk hj ha
  obtain⟨pre,suf,e,rfl⟩:=ha
  have h0:0<=ZX pre:=gW fun i hi=>hw i (by rw[e];exact AA8 _ hi)
  have h1:=hw (gl ((0,0,0,0,0):AI) (gl [] q k) j) (by rw[e];simp)
  have h2:0<=ZX suf:=gW fun i hi=>hw i (by rw[e];exact ARB _ (YB _ hi))
  rw[e,AU9,sW] at hs
  have hl:=hx (gl [] q k) (B3 hk)
  simp only[HM]
  rw[ab,ab,sV,ah,ah]
 ·intro k a hk
  simp only[HM]
  rw[af,ah]
 ·intro a
  simp only
  rw[af];rfl
variable {s:Sp}
theorem AI7 (hv:VS s) (hq:q.length<=1000000) (hx:∀ x∈q,x.length<=1000000) (hw:∀ i∈q.flatten,0<=i.2.2.2.2/\i.2.2.2.2<=1000000):GO s q=some (lrg (sz s.1) q.flatten):=by
 unfold GO zan zaR
 apply AZO (q:=q) (d:=((0,0,0,0,0):AI)) (F:=fun n i=>max n (cl (sz s.1) i.2.2.2.2)) (r:=id)
 ·intro k a hk
  simp only
  rw[ab,ab]
 ·intro k j a hk hj ha
  obtain⟨pre,suf,e,rfl⟩:=ha
  have h1:=hw (gl ((0,0,0,0,0):AI) (gl [] q k) j) (by rw[e];simp)
  have hl:=hx (gl [] q k) (B3 hk)
  simp only[HM]
  generalize gl ((0,0,0,0,0):AI) (gl [] q k) j=i at h1 ⊢
  rw[ab,ab,V1 hv (i:=(i.1,i.2.1,i.2.2.1,i.2.2.2)) h1.1 h1.2,AW,ah]
  simp only
  congr 3
  omega
 ·intro k a hk
  simp only[HM]
  rw[af,ah]
 ·intro a
  simp only
  rw[af];rfl
theorem gX (hq:q.length<=1000000) (hx:∀ x∈q,x.length<=1000000):EK q=some q:=by
 unfold EK
 refine (AK (fun k (st:Rows×Int)=>k<=q.length/\st=(q.take k,(k:Int))) (fun b=>b=q) q.length ?_ ?_ (s:=([],0)) ⟨by omega,by simp⟩).elim fun b hb=>by rw[hb.1,hb.2]
 ·rintro k st hk ⟨_,rfl⟩
  have hl:=hx (gl [] q k) (B3 hk)
  left
  refine⟨_, ?_,by omega,rfl⟩
  simp only[HM]
  rw[ab,ab,AA (by simp;omega),AA (by simp;omega),dR,IY (d:=[]) q k hk,ah]
  rfl
 ·rintro st ⟨_,rfl⟩
  simp only
  rw[af,VD]
  exact⟨_,rfl,rfl⟩
theorem qH (hx:∀ x∈q,x.length<=1000000) (b0:0<=b) (b1:b<q.length):
  (gl [] q b.toNat=[]/\B4 q b=some (((0,0,0,0,0):AI),false))\/(∃ y,y∈gl [] q b.toNat/\B4 q b=some (y,true)):=by
 have hl:=hx (gl [] q b.toNat) (B3 (by omega))
 unfold B4 zam zt
 rw[af,af,ab]
 by_cases h:gl [] q b.toNat=[]
 ·rw[AA (by rw[h];rfl)];exact .inl ⟨h,rfl⟩
 ·have hp:=AAA.2 h
  rw[af,ab,ab,ah (e:=((gl [] q b.toNat).length:Int)-1),ab]
  exact .inr ⟨gl ((0,0,0,0,0):AI) (gl [] q b.toNat) ((gl [] q b.toNat).length-1),B3 (by omega),by rw[show (((gl [] q b.toNat).length:Int)-1).toNat=(gl [] q b.toNat).length-1 from by omega]⟩
variable {j:AI}
theorem AI8 (hq:q.length<=1000000) (hx:∀ x∈q,x.length<=1000000) (b0:0<=j.2.1) (b1:j.2.1<q.length):
  ((∀ i∈gl [] q j.2.1.toNat,i.1≠j.1)/\DO q j=some ([],5))∨
  (∃ k,k<(gl [] q j.2.1.toNat).length/\(gl ((0,0,0,0,0):AI) (gl [] q j.2.1.toNat) k).1=j.1/\DO q j=some (q.set j.2.1.toNat ((gl [] q j.2.1.toNat).set k j),0)):=by
 have hl:=hx (gl [] q j.2.1.toNat) (B3 (by omega))
 unfold DO
 rw[af,af,gX hq hx,AW,ab]
 have hg:q.getD j.2.1.toNat []=gl [] q j.2.1.toNat:=rfl
 rw[hg]
 generalize gl [] q j.2.1.toNat=x at hl ⊢
 have key:=AK (β:=Rows×Int) (fun k (st:Int)=>k<=x.length/\st=(k:Int)/\∀ m,m<k->(gl ((0,0,0,0,0):AI) x m).1≠j.1) (fun b=>((∀ i∈x,i.1≠j.1)/\b=([],5))\/(∃ k,k<x.length/\(gl ((0,0,0,0,0):AI) x k).1=j.1/\b=(q.set j.2.1.toNat (x.set k j),0))) x.length (s:=0) (f:=fun s1=>
   if s1<(x.length:Int) then
   if 0<=s1/\s1<(x.length:Int) then
   if (gl ((0,0,0,0,0):AI) x s1.toNat).1=j.1 then
   if 0<=j.2.1/\j.2.1<(q.length:Int) then
   if j.2.1.toNat=j.2.1.toNat then
   if 0<=s1/\s1<(x.length:Int) then
   some (Sum.inr ((q.set j.2.1.toNat (x.set s1.toNat j),0)))
   else none
   else none
   else none
   else some (Sum.inl (AG (s1+1)))
   else none
   else some (Sum.inr (([],5)))) ?_ ?_ ⟨by omega,rfl,fun m hm=>by omega⟩
 ·obtain⟨b,h1,h2⟩:=key
  rcases h2 with ⟨h2,rfl⟩|⟨k,h2,h3,rfl⟩
  ·exact .inl ⟨h2,h1⟩
  ·exact .inr ⟨k,h2,h3,h1⟩
 ·rintro k st hk ⟨_,rfl,CW⟩
  simp only[HM]
  rw[ab,ab]
  by_cases e:(gl ((0,0,0,0,0):AI) x k).1=j.1
  ·rw[AA e,ab,AA trivial,ab]
   exact .inr ⟨_,rfl,.inr ⟨k,hk,e,rfl⟩⟩
  ·rw[AE e,ah]
   refine .inl ⟨_,rfl,by omega,by omega,fun m hm=> ?_⟩
   by_cases em:m=k
   ·rw[em];exact e
   ·exact CW m (by omega)
 ·rintro st ⟨_,rfl,CW⟩
  simp only
  rw[af]
  refine⟨_,rfl,.inl ⟨fun i hi=> ?_,rfl⟩⟩
  obtain⟨m,hm,rfl⟩:=wP hi
  rw[<-DJ (d:=((0,0,0,0,0):AI)) hm]
  exact CW m hm
theorem AXP (hq:q.length<=1000000) (hx:∀ x∈q,x.length<=1000000) (b0:0<=j.2.1) (b1:j.2.1<q.length) (hj:∀ i∈gl [] q j.2.1.toNat,i.1<j.1):
  F8 q j=some (q.set j.2.1.toNat (gl [] q j.2.1.toNat++ [j]),0):=by
 have hl:=hx (gl [] q j.2.1.toNat) (B3 (by omega))
 have hg:q.getD j.2.1.toNat []=gl [] q j.2.1.toNat:=rfl
 unfold F8 zu
 rw[af,af]
 rcases qH hx b0 b1 with ⟨_,h⟩|⟨y,hy,h⟩
 ·rw[h,AW,AE (by simp),gX hq hx,AW,ab,hg,AA (by simp;omega),ab,AA rfl]
 ·have:=hj y hy
  rw[h,AW,AA rfl,AE (by simp only;omega),gX hq hx,AW,ab,hg,AA (by simp;omega),ab,AA rfl]
def used (s:Sp):Int:=(s.2.2.length:Int)-(C1 s.2.2).length
theorem AXQ (s:Sp):0<=used s:=by
 have:(C1 s.2.2).length<=s.2.2.length:=V0 s.2.2 (-1)
 unfold used;omega
theorem AUB (i:AI):(i.1,i.2.1,i.2.2.1,i.2.2.2)=i:=rfl
def okS (s:Sp) (q:Rows) (k j:Nat):Prop:=
 (gl ((0,0,0,0,0):AI) (gl [] q k) j).2.1=(k:Int)/\1<=(gl ((0,0,0,0,0):AI) (gl [] q k) j).2.2.2.2/\(0<j->(gl ((0,0,0,0,0):AI) (gl [] q k) (j-1)).1<(gl ((0,0,0,0,0):AI) (gl [] q k) j).1)∧
  (gl ((0,0,0,0,0):AI) (gl [] q k) j).1∉((q.take k).flatten++(gl [] q k).take j).map (·.1)/\DB s (gl ((0,0,0,0,0):AI) (gl [] q k) j)
def mC (s:Sp) (q:Rows):Prop:=∀ k j,k<q.length->j<(gl [] q k).length->okS s q k j
def Cov (s:Sp) (q:Rows):Prop:=∀ x:Int,0<=x->x<s.2.2.length->(fr s.2.2 x).1≠-1->(fr s.2.2 x).1∈q.flatten.map (·.1)
structure BV (s:Sp) (q:Rows):Prop where
 vs:VS s
 n:1<=q.length/\q.length<=4
 ok:mC s q
 cov:Cov s q
def zQ (z:Int) (xs:List AI):Int:=xs.foldl (fun n i=>n+cl z i.2.2.2.2) 0
theorem AQ5 (z:Int) (xs:List AI) (a:Int):xs.foldl (fun n i=>n+cl z i.2.2.2.2) a=a+zQ z xs:=by
 unfold zQ
 induction xs generalizing a with
 |nil=>simp
 |cons x xs ih=>rw[tN,tN,ih,ih (0+_)];omega
theorem ACV (z:Int) (x:AI) (xs:List AI):zQ z (x::xs)=cl z x.2.2.2.2+zQ z xs:=by
 show List.foldl _ (0+cl z x.2.2.2.2) xs=_
 rw[AQ5];omega
theorem AQ6 {j:Nat} (hk:k<q.length) (hj:j<=(gl [] q k).length) (h:∀ k' j',(k' <k\/(k' =k/\j' <j))->j' <(gl [] q k').length->okS s q k' j'):(((q.take k).flatten++(gl [] q k).take j).map (·.1)).Nodup:=by
 have row:∀ m,(((q.take m).flatten).map (·.1)).Nodup->∀ n,n<=(gl [] q m).length->(∀ j',j' <n->okS s q m j')->(((q.take m).flatten++(gl [] q m).take n).map (·.1)).Nodup:=by
  intro m h0 n
  induction n with
  |zero=>intro _ _;simpa using h0
  |succ n ih=>
   intro hn ho
   have h1:=ih (by omega) fun j' bQ =>ho j' (by omega)
   have h2:=(ho n (by omega)).2.2.2.1
   rw[IY (d:=((0,0,0,0,0):AI)) _ n (by omega),←I0,YC,PB]
   refine⟨h1,by simp,fun a ha b hb e=> ?_⟩
   simp only[JS,ABO,GG] at hb
   subst hb;subst e;exact h2 ha
 have rows:∀ m,m<=k->(((q.take m).flatten).map (·.1)).Nodup:=by
  intro m
  induction m with
  |zero=>intro _;simp
  |succ m ih=>
   intro hm
   have:=row m (ih (by omega)) _ (EH _) fun j' bQ =>h m j' (.inl (by omega)) bQ
   rw[VD] at this
   rw[IY (d:=[]) q m (by omega)]
   simpa using this
 exact row k (rows k (EH _)) j hj fun j' bQ =>h k j' (.inr ⟨rfl,bQ⟩) (by omega)
theorem mC.nodup (h:mC s q):(q.flatten.map (·.1)).Nodup:=by
 by_cases hq:q=[]
 ·subst hq;simp
 have hl:=AAA.2 hq
 have:=AQ6 (s:=s) (q:=q) (k:=q.length-1) (j:=(gl [] q (q.length-1)).length) (by omega) (EH _) fun k' j' hk hj=>h k' j' (by rcases hk with h|h <;> omega) hj
 rw[VD] at this
 have e:=IY (d:=[]) q (q.length-1) (by omega)
 rw[show q.length-1+1=q.length from by omega,VD] at e
 rw[e];simpa using this
theorem mC.fit (h:mC s q):∀ i∈q.flatten,DB s i/\1<=i.2.2.2.2:=by
 intro i hi
 obtain⟨x,hx,hix⟩:=w9.1 hi
 obtain⟨k,hk,rfl⟩:=wP hx
 obtain⟨j,hj,rfl⟩:=wP hix
 have hg:gl [] q k=q[k]:=DJ hk
 have:=h k j hk (by rw[hg];exact hj)
 unfold okS at this
 rw[hg,DJ hj] at this
 exact⟨this.2.2.2.2,this.2.1⟩
theorem AQ7 (hf:∀ i∈xs,DB s i/\1<=i.2.2.2.2):zQ (sz s.1) xs=((xs.flatMap fun p=>owned s.2.2 p.1).length:Int):=by
 induction xs with
 |nil=>simp [zQ]
 |cons p l ih=>
  obtain⟨hf1,hw⟩:=hf p (oC ..)
  have i1:=ih fun p hp=>hf p (YB _ hp)
  rcases hf1.2 with ⟨g1,_⟩|⟨_,_,_,_,m,_,m2,m3,_⟩
  ·omega
  rw[ACV,AG1,PQ,w_,i1]
  omega
theorem sX (hn:(xs.map (·.1)).Nodup):(xs.flatMap fun p=>owned s.2.2 p.1).Nodup:=by
 unfold List.Nodup at hn ⊢
 rw[List.pairwise_flatMap]
 rw[AG5] at hn
 refine⟨fun p _=>T5 _ _,hn.imp fun {a b} xV x hx y hy e=> ?_⟩
 have e1:=(B6.1 hx).2
 have e2:=(B6.1 hy).2
 rw[e] at e1;exact xV (e1.symm.trans e2)
theorem count_le (h:VS s) (hf:∀ i∈xs,DB s i/\1<=i.2.2.2.2) (hn:(xs.map (·.1)).Nodup):xs.length<=64:=by
 have h1:∀ ys:List AI,(∀ i∈ys,DB s i/\1<=i.2.2.2.2)->ys.length<=(ys.flatMap fun p=>owned s.2.2 p.1).length:=by
  intro ys
  induction ys with
  |nil=>intro _;simp
  |cons p l ih=>
   intro hf
   obtain⟨hf1,hw⟩:=hf p (oC ..)
   have i1:=ih fun p hp=>hf p (YB _ hp)
   have hc:=AER (BU s.1) (show 0<p.2.2.2.2 by omega)
   rcases hf1.2 with ⟨g1,_⟩|⟨_,_,_,_,m,_,m2,m3,_⟩
   ·omega
   rw[AG1,PQ,NU]
   omega
 have h2:=R9 (m:=GK s.2.2.length) (sX (s:=s) hn) (fun x hx=>by
  obtain⟨p,_,hx⟩:=ABG.1 hx
  exact NR.2 (B6.1 hx).1)
 rw[IE] at h2
 have:=h1 xs hf
 have:=h.n
 omega
def zR (fs:List Fr):List Int:=(GK fs.length).filter fun i=>decide ((fr fs i).1≠-1)
variable {fs:List Fr}
theorem sY {i:Int}:i∈zR fs↔(0<=i/\i<fs.length)/\(fr fs i).1≠-1:=by
 unfold zR;rw[Z1,NR,P5]
theorem AQ8 (s:Sp):((zR s.2.2).length:Int)=used s:=by
 have h:∀ (p:Int->Bool) (l:List Int),(l.filter p).length+(l.filter fun i=> !p i).length=l.length:=by
  intro p l
  induction l with
  |nil=>rfl
  |cons a l ih=>cases hp:p a <;> simp [hp] <;> omega
 have h1:=h (fun i=>decide ((fr s.2.2 i).1= -1)) (GK s.2.2.length)
 rw[IE] at h1
 have e:(fun i=> !decide ((fr s.2.2 i).1= -1))=fun i=>decide ((fr s.2.2 i).1≠-1):=by funext i;simp
 rw[e] at h1
 unfold used C1 owned zR
 omega
theorem AI9 (fs:List Fr):(zR fs).Nodup:=List.Pairwise.filter _ ((sS _).imp fun h=>by omega)
theorem AXR (h:mC s q):zQ (sz s.1) q.flatten<=used s/\(used s=zQ (sz s.1) q.flatten↔Cov s q):=by
 have hf:=h.fit
 have hn:=h.nodup
 have GR:∀ x∈q.flatten.flatMap fun p=>owned s.2.2 p.1,x∈zR s.2.2:=by
  intro x hx
  obtain⟨p,hp,hx⟩:=ABG.1 hx
  have:=B6.1 hx
  refine sY.2 ⟨this.1, ?_⟩
  have:=(hf p hp).1.1.1
  omega
 have hle:=R9 (sX (s:=s) hn) GR
 have h1:=AQ7 hf
 have h2:=AQ8 s
 refine⟨by omega,fun he=> ?_,fun hc=> ?_⟩
 ·intro x x0 x1 hu
  refine AA5 fun XS=> ?_
  have hx:x∉q.flatten.flatMap fun p=>owned s.2.2 p.1:=by
   intro hx
   obtain⟨p,hp,hx⟩:=ABG.1 hx
   exact XS (DH.2 ⟨p,hp,(B6.1 hx).2.symm⟩)
  have:=R9 (l:=x::q.flatten.flatMap fun p=>owned s.2.2 p.1) (m:=zR s.2.2) (VE.2 ⟨hx,sX hn⟩) (fun y hy=>by
   rcases GH.1 hy with rfl|hy
   ·exact sY.2 ⟨⟨x0,x1⟩,hu⟩
   ·exact GR y hy)
  simp only[NU] at this
  omega
 ·have:=R9 (m:=q.flatten.flatMap fun p=>owned s.2.2 p.1) (AI9 s.2.2) (fun x hx=>by
   obtain⟨⟨x0,x1⟩,hu⟩:=sY.1 hx
   obtain⟨p,hp,e⟩:=DH.1 (hc x x0 x1 hu)
   exact ABG.2 ⟨p,hp,B6.2 ⟨⟨x0,x1⟩,e.symm⟩⟩)
  omega
theorem sZ {ys:List Int} {v:Int} {bad r:β} {f:Int->Option (Int ⊕ β)} (hs:∀ k:Nat,k<ys.length->f k=if gl 0 ys k=v then some (.inr bad) else some (.inl ((k:Int)+1))) (he:v∉ys->f ys.length=some (.inr r)):
  (v∈ys->AH f 0=some bad)/\(v∉ys->AH f 0=some r):=by
 have key:=AK (f:=f) (fun k (st:Int)=>k<=ys.length/\st=(k:Int)/\∀ j,j<k->gl 0 ys j≠v) (fun b=>(v∈ys/\b=bad)\/(v∉ys/\b=r)) ys.length ?_ ?_ (s:=0) ⟨by omega,rfl,fun _ h=>by omega⟩
 ·obtain⟨b,e,h⟩:=key
  rw[e]
  exact⟨fun hm=>by rcases h with ⟨_,rfl⟩|⟨h,_⟩;exact rfl;exact absurd hm h,fun hm=>by rcases h with ⟨h,_⟩|⟨_,rfl⟩;exact absurd h hm;exact rfl⟩
 ·rintro k st hk ⟨_,rfl,hn⟩
  rw[hs k hk]
  by_cases e:gl 0 ys k=v
  ·rw[AA e];exact .inr ⟨_,rfl,.inl ⟨by rw[<-e];exact B3 hk,rfl⟩⟩
  ·rw[AE e]
   refine .inl ⟨_,rfl,by omega,by omega,fun j hj=> ?_⟩
   by_cases ej:j=k
   ·subst ej;exact e
   ·exact hn j (by omega)
 ·rintro st ⟨_,rfl,hn⟩
  have hm:v∉ys:=by
   intro hm
   obtain⟨j,hj,rfl⟩:=wP hm
   exact hn j hj (DJ hj)
  rw[he hm]
  exact⟨_,rfl,.inr ⟨hm,rfl⟩⟩
theorem AZP {γ σ τ:Type} {q:List (List γ)} {d:γ} {p:γ->Prop} [DecidablePred p] {so:Nat->σ} {si:Nat->Nat->τ} {out:σ->Option (σ ⊕ β)} {u7:Nat->τ->Option (τ ⊕ (σ ⊕ β))} {res:Nat->Nat->β} {no:β} {s0:σ} (h0:s0=so 0)
  (h1:∀ k,k<q.length->out (so k)=AH (u7 k) (si k 0))
  (h2:∀ k j,k<q.length->j<(gl [] q k).length->u7 k (si k j)=if p (gl d (gl [] q k) j) then some (.inr (.inr (res k j))) else some (.inl (si k (j+1))))
  (h3:∀ k,k<q.length->u7 k (si k (gl [] q k).length)=some (.inr (.inl (so (k+1)))))
  (h4:out (so q.length)=some (.inr no)):
  ((∀ x∈q.flatten,¬p x)/\AH out s0=some no)\/∃ k j,k<q.length/\j<(gl [] q k).length/\p (gl d (gl [] q k) j)/\(∀ x∈(q.take k).flatten++(gl [] q k).take j,¬p x)/\AH out s0=some (res k j):=by
 subst h0
 have key:=AK (f:=out) (fun k (st:σ)=>k<=q.length/\st=so k/\∀ x∈(q.take k).flatten,¬p x)
  (fun b=>((∀ x∈q.flatten,¬p x)/\b=no)\/∃ k j,k<q.length/\j<(gl [] q k).length/\p (gl d (gl [] q k) j)/\(∀ x∈(q.take k).flatten++(gl [] q k).take j,¬p x)/\b=res k j) q.length ?_ ?_ (s:=so 0) ⟨by omega,rfl,by simp⟩
 ·obtain⟨b,e,h⟩:=key
  rw[e]
  rcases h with ⟨h,rfl⟩|⟨k,j,hk,hj,hp,hb,rfl⟩
  ·exact .inl ⟨h,rfl⟩
  ·exact .inr ⟨k,j,hk,hj,hp,hb,rfl⟩
 ·rintro k st hk ⟨_,rfl,hq⟩
  rw[h1 k hk]
  have inner:=AK (f:=u7 k) (fun j (st:τ)=>j<=(gl [] q k).length/\st=si k j/\∀ x∈(q.take k).flatten++(gl [] q k).take j,¬p x)
   (fun b=>(b=Sum.inl (so (k+1))/\∀ x∈(q.take k).flatten++gl [] q k,¬p x)\/(∃ j,j<(gl [] q k).length/\p (gl d (gl [] q k) j)/\(∀ x∈(q.take k).flatten++(gl [] q k).take j,¬p x)/\b=Sum.inr (res k j))) (gl [] q k).length ?_ ?_ (s:=si k 0) ⟨by omega,rfl,by simpa using hq⟩
  ·obtain⟨b,e,h⟩:=inner
   rw[e]
   rcases h with ⟨rfl,hx⟩|⟨j,hj,hp,hb,rfl⟩
   ·refine .inl ⟨_,rfl,by omega,rfl, ?_⟩
    rw[IY (d:=[]) q k hk]
    simpa using hx
   ·exact .inr ⟨_,rfl,.inr ⟨k,j,hk,hj,hp,hb,rfl⟩⟩
  ·rintro j st hj ⟨_,rfl,SR⟩
   rw[h2 k j hk hj]
   by_cases hp:p (gl d (gl [] q k) j)
   ·rw[AA hp];exact .inr ⟨_,rfl,.inr ⟨j,hj,hp,SR,rfl⟩⟩
   ·rw[AE hp]
    refine .inl ⟨_,rfl,by omega,rfl,fun x hx=> ?_⟩
    rw[IY (d:=d) _ j hj,←I0] at hx
    rcases FG.1 hx with hx|hx
    ·exact SR x hx
    ·rw[GG.1 hx];exact hp
  ·rintro st ⟨_,rfl,SR⟩
   rw[h3 k hk]
   rw[VD] at SR
   exact⟨_,rfl,.inl ⟨rfl,SR⟩⟩
 ·rintro st ⟨_,rfl,hq⟩
  rw[VD] at hq
  rw[h4]
  exact⟨_,rfl,.inl ⟨hq,rfl⟩⟩
def Found (q:Rows) (n:Int) (k j:Nat):Prop:=k<q.length/\j<(gl [] q k).length/\(gl ((0,0,0,0,0):AI) (gl [] q k) j).1=n/\∀ x∈(q.take k).flatten++(gl [] q k).take j,x.1≠n
theorem AUC {d:α} (q:List α) (k:Nat):q.set k (q.getD k d)=q:=by
 apply XA
 intro i
 rw[wR]
 by_cases h:k=i
 ·subst h
  rw[AA rfl]
  by_cases hk:k<q.length
  ·rw[AA hk,n9,O6 hk];rfl
  ·rw[AE hk,IF (by omega)]
 ·rw[AE h]
theorem AXS (x:List α) (k:Nat) (hk:k<x.length):BF x 0 (k-0)++BF x (k+1) (x.length-(k+1))=x.eraseIdx k:=by
 rw[List.eraseIdx_eq_take_drop_succ]
 unfold BF
 rw[xA,AG8,AFY (l:=x.drop (k+1)) (by rw[oD];omega)]
theorem ALB (hq:q.length<=1000000) (hx:∀ x∈q,x.length<=1000000) (n:Int):((∀ x∈q.flatten,x.1≠n)/\EO q n=some ([],5))\/∃ k j,Found q n k j/\EO q n=some (q.set k ((gl [] q k).eraseIdx j),0):=by
 unfold EO
 rw[gX hq hx,AW]
 have key:=AZP (q:=q) (d:=((0,0,0,0,0):AI)) (p:=fun i=>i.1=n) (so:=fun k=>((k:Int),q)) (si:=fun _ j=>(j:Int)) (res:=fun k j=>(q.set k ((gl [] q k).eraseIdx j),(0:Int))) (no:=(([]:Rows),(5:Int))) (s0:=((0:Int),q)) rfl
  (out:=fun s1=>if s1.1<(q.length:Int) then
   if 0<=s1.1/\s1.1<(s1.2.length:Int) then
   AH (σ:=Int) (β:=((Int×Rows) ⊕ (Rows×Int))) (fun s2=>
   if s2<((s1.2.getD s1.1.toNat []).length:Int) then
   if 0<=s2/\s2<((s1.2.getD s1.1.toNat []).length:Int) then
   if (gl ((0,0,0,0,0):AI) (s1.2.getD s1.1.toNat []) s2.toNat).1=n then
   if Bd none (some s2) s2.toNat ((s1.2.getD s1.1.toNat []).length) then
   if Bd (some (AG (s2+1))) none ((s1.2.getD s1.1.toNat []).length) ((s1.2.getD s1.1.toNat []).length) then
   if ((BF (s1.2.getD s1.1.toNat []) 0 (s2.toNat-0)).length+(BF (s1.2.getD s1.1.toNat []) ((AG (s2+1)).toNat) (((s1.2.getD s1.1.toNat []).length)-((AG (s2+1)).toNat))).length)*40<=140737488355328 then
   if 0<=s1.1/\s1.1<(s1.2.length:Int) then
   if s1.1.toNat=s1.1.toNat then
   some (Sum.inr (Sum.inr (s1.2.set s1.1.toNat ((BF (s1.2.getD s1.1.toNat []) 0 (s2.toNat-0))++(BF (s1.2.getD s1.1.toNat []) ((AG (s2+1)).toNat) (((s1.2.getD s1.1.toNat []).length)-((AG (s2+1)).toNat)))),0)))
   else none
   else none
   else none
   else none
   else none
   else some (Sum.inl (AG (s2+1)))
   else none
   else some (Sum.inr (Sum.inl (AG (s1.1+1),s1.2.set s1.1.toNat (s1.2.getD s1.1.toNat []))))) 0
   else none
   else some (Sum.inr ([],5)))
  (u7:=fun (k:Nat) s2=>if s2<((gl [] q k).length:Int) then
   if 0<=s2/\s2<((gl [] q k).length:Int) then
   if (gl ((0,0,0,0,0):AI) (gl [] q k) s2.toNat).1=n then
   if Bd none (some s2) s2.toNat ((gl [] q k).length) then
   if Bd (some (AG (s2+1))) none ((gl [] q k).length) ((gl [] q k).length) then
   if ((BF (gl [] q k) 0 (s2.toNat-0)).length+(BF (gl [] q k) ((AG (s2+1)).toNat) (((gl [] q k).length)-((AG (s2+1)).toNat))).length)*40<=140737488355328 then
   if 0<=(k:Int)/\(k:Int)<(q.length:Int) then
   if k=k then
   some (Sum.inr (Sum.inr (q.set k ((BF (gl [] q k) 0 (s2.toNat-0))++(BF (gl [] q k) ((AG (s2+1)).toNat) (((gl [] q k).length)-((AG (s2+1)).toNat)))),0)))
   else none
   else none
   else none
   else none
   else none
   else some (Sum.inl (AG (s2+1)))
   else none
   else some (Sum.inr (Sum.inl (AG ((k:Int)+1),q.set k (q.getD k [])))))
  (fun k hk=>by simp only[HM];rw[ab,ab];rfl)
  (fun k j hk hj=>by
   have hl:=hx (gl [] q k) (B3 hk)
   have hs1:(BF (gl [] q k) 0 (j-0)).length<=1000000:=by unfold BF;simp;omega
   have hs2:(BF (gl [] q k) (j+1) ((gl [] q k).length-(j+1))).length<=1000000:=by unfold BF;simp;omega
   simp only[HM]
   rw[ab,ab,ah (e:=(j:Int)+1),show ((j:Int)+1).toNat=j+1 from by omega,AA (show Bd none (some (j:Int)) j (gl [] q k).length from ⟨by omega,trivial⟩),AA (show Bd (some ((j:Int)+1)) none (gl [] q k).length (gl [] q k).length from ⟨trivial,by omega⟩),AA (show ((BF (gl [] q k) 0 (j-0)).length+(BF (gl [] q k) (j+1) ((gl [] q k).length-(j+1))).length)*40<=140737488355328 from by omega),AA (show 0<=(k:Int)/\(k:Int)<(q.length:Int) from by omega),AA trivial,AXS _ _ hj]
   rfl)
  (fun k hk=>by rw[af,ah,AUC];rfl)
  (by simp only;rw[af])
 rcases key with ⟨h,e⟩|⟨k,j,hk,hj,hp,hb,e⟩
 ·exact .inl ⟨h,e⟩
 ·exact .inr ⟨k,j,⟨hk,hj,hp,hb⟩,e⟩
theorem AUD (h:3<=s.1/\s.1<=8):KV s=some (sz s.1):=by
 have z:=MF h
 unfold KV zw
 rw[sP,AW,AE (by simp [h]),AA trivial,JK h,lP,ah]
theorem zS (h:3<=s.1/\s.1<=8) (i:AI) {k:Int} (k0:0<=k) (k1:k<=1000000):IP s i k=some (decide (k=0\/i.2.2.2.2<k*sz s.1)):=by
 have z:=MF h
 have h1:=II h k0 k1
 unfold IP
 by_cases hk:k=0
 ·rw[AA hk];simp [hk]
 ·rw[AE hk,AUD h,AW,ah]
  simp [hk]
def hd (w:BitVec 64):Option (Int×Int):=
 if w.toNat%2=1 then none
 else if w.toNat%256 / 2<=15/\1+w.toNat%256 / 2<=w.toNat / 256/\w.toNat / 256<=33+w.toNat%256 / 2 then
  some (((w.toNat%256 / 2:Nat):Int),((w.toNat / 256-1-w.toNat%256 / 2:Nat):Int))
 else none
variable {w:BitVec 64}
theorem JN {o:Int×Int} (h:hd w=some o):(0<=o.1/\o.1<=15)/\(0<=o.2/\o.2<=32):=by
 unfold hd at h
 split at h
 ·cases h
 ·split at h
  ·simp only[A_] at h
   subst h
   simp only
   omega
  ·cases h
variable {r:Int}
theorem nX {d:Int} (r0:0<=r) (r1:r<=15) (d0:0<=d) (d1:d<=32):hd (Y9 r d)=some (r,d):=by
 have e:(Y9 r d).toNat=((1+r+d)*256+r*2).toNat:=by
  unfold Y9
  rw[jK]
  omega
 obtain⟨r,rfl⟩:=ALN r0
 obtain⟨d,rfl⟩:=ALN d0
 have e' :(Y9 r d).toNat=(1+r+d)*256+r*2:=by rw[e];omega
 have q1:(Y9 r d).toNat / 256=1+r+d:=by omega
 have q2:(Y9 r d).toNat%256 / 2=r:=by omega
 have q3:(Y9 r d).toNat%2=0:=by omega
 unfold hd
 rw[q1,q2,q3,af,ab]
 congr 1
 refine Prod.ext ?_ ?_ <;> simp only <;> omega
def A50 (w:BitVec 64) (x:Int×Int×Int×Bool×Int):Prop:=
 (∃ o,hd w=some o/\x=(o.1,o.2,0,false,0))\/(hd w=none/\(x.2.2.2.2≠0\/(x.2.2.2.2=0/\x.2.2.2.1=true)))
theorem AXT (w:BitVec 64):∃ x,EJ w=some x/\A50 w x:=by
 have hw:=w.isLt
 have e2:(w%2#64).toNat=w.toNat%2:=by rw[ABB];rfl
 have e2' :(w%2#64=1#64)↔w.toNat%2=1:=by
  rw[<-ABE,e2];rfl
 have d2:(w / 2#64).toNat=w.toNat / 2:=by rw[wZ];rfl
 have A25:(w / 256#64).toNat=w.toNat / 256:=by rw[wZ];rfl
 have A26:(w%256#64 / 2#64).toNat=w.toNat%256 / 2:=by rw[wZ,ABB];rfl
 unfold EJ zaY zaA
 rw[AA (by decide)]
 by_cases h1:w.toNat%2=1
 ·have hh:hd w=none:=by unfold hd;rw[AA h1]
  rw[AA (e2'.2 h1),AA (by decide)]
  split
  ·exact⟨_,rfl,.inr ⟨hh,.inl (by simp)⟩⟩
  ·rw[AA (by decide)]
   exact⟨_,rfl,.inr ⟨hh,.inr ⟨rfl,rfl⟩⟩⟩
 ·rw[AE (fun h=>h1 (e2'.1 h)),AA (by decide),AA (by decide),AA (by decide),A25,A26]
  have n48:(48#64).toNat=48:=rfl
  rw[n48]
  by_cases h2:w.toNat / 256>48
  ·rw[AA h2]
   refine⟨_,rfl,.inr ⟨?_,.inl (by simp)⟩⟩
   unfold hd;rw[AE h1,af]
  rw[AE h2,ah (e:=((w.toNat%256 / 2:Nat):Int)),ah (e:=((w.toNat / 256:Nat):Int))]
  by_cases h3:((w.toNat%256 / 2:Nat):Int)>15
  ·rw[AA h3]
   refine⟨_,rfl,.inr ⟨?_,.inl (by simp)⟩⟩
   unfold hd;rw[AE h1,af]
  rw[AE h3,ah (e:=(1:Int)+((w.toNat%256 / 2:Nat):Int))]
  by_cases h4:((w.toNat / 256:Nat):Int)<1+((w.toNat%256 / 2:Nat):Int)
  ·rw[AA h4]
   refine⟨_,rfl,.inr ⟨?_,.inl (by simp)⟩⟩
   unfold hd;rw[AE h1,af]
  rw[AE h4,ah (e:=((w.toNat / 256:Nat):Int)-1),ah (e:=((w.toNat / 256:Nat):Int)-1-((w.toNat%256 / 2:Nat):Int))]
  by_cases h5:((w.toNat / 256:Nat):Int)-1-((w.toNat%256 / 2:Nat):Int)>32
  ·rw[AA h5]
   refine⟨_,rfl,.inr ⟨?_,.inl (by simp)⟩⟩
   unfold hd;rw[AE h1,af]
  rw[AE h5]
  refine⟨_,rfl,.inl ⟨(((w.toNat%256 / 2:Nat):Int),((w.toNat / 256-1-w.toNat%256 / 2:Nat):Int)), ?_, ?_⟩⟩
  ·unfold hd;rw[AE h1,ab]
  ·simp only[DG,and_true,lQ]
   omega
theorem jE (w:BitVec 64) {n:Nat} (h:k+n<=64) (hn:n<64):∃ v,I4 w k n=some (v,0)/\v.toNat=w.toNat / 2 ^ k%2 ^ n:=by
 have hw:=w.isLt
 have ek:(BitVec.ofInt 64 (k:Int)).toNat=k:=by rw[jK];omega
 have en:(BitVec.ofInt 64 (n:Int)).toNat=n:=by rw[jK];omega
 have hv:P4 k n=some true:=by
  unfold P4
  rw[ab,ab,ab,ah]
  congr 1
  exact JR (by omega)
 have hm:PN n=some (~~~((18446744073709551615#64) <<< n)):=by
  unfold PN
  rw[af,AA trivial,en]
 refine⟨(w >>> k) &&& ~~~((18446744073709551615#64) <<< n), ?_, ?_⟩
 ·unfold I4
  rw[hv,AW,AE (by simp),AA trivial,hm,AW,ek]
 ·have e:(w >>> k) &&& ~~~((18446744073709551615#64) <<< n)=BitVec.ofNat 64 (w.toNat / 2 ^ k%2 ^ n):=by
   apply AFX
   intro i hi
   have a1:(18446744073709551615#64)=BitVec.allOnes 64:=by decide
   rw[a1]
   simp only[AM0,BitVec.getLsbD_not,BitVec.getLsbD_shiftLeft,BitVec.getLsbD_ushiftRight,BitVec.getLsbD_ofNat,BitVec.getLsbD_allOnes,hi,decide_true,Bool.true_and]
   rw[Nat.testBit_mod_two_pow,Nat.testBit_div_two_pow]
   have:(w.getLsbD (k+i))=w.toNat.testBit (i+k):=by rw[BitVec.getLsbD,AG9]
   rw[this]
   by_cases MR:i<n
   ·simp [MR]
   ·have:i-n<64:=by omega
    simp [MR,this]
  rw[e,uZ]
  have:w.toNat / 2 ^ k%2 ^ n<=w.toNat / 2 ^ k:=Nat.mod_le _ _
  have:w.toNat / 2 ^ k<=w.toNat:=Nat.div_le_self _ _
  exact rG (by omega)
theorem ANY (w:BitVec 64):∃ x,FB w=some x/\A50 w x:=by
 have hw:=w.isLt
 have e1:(w &&& 1#64=1#64)↔w.toNat%2=1:=by
  rw[<-ABE,ABJ]
  show w.toNat &&& 1=1↔_
  rw[Nat.and_one_is_mod]
 unfold FB
 by_cases h1:w.toNat%2=1
 ·have hh:hd w=none:=by unfold hd;rw[AA h1]
  obtain⟨v,g1, -⟩:=jE w (k:=1) (n:=63) (by omega) (by omega)
  rw[AA (e1.2 h1),show I4 w 1 63=some (v,0) from g1,AW]
  split
  ·exact⟨_,rfl,.inr ⟨hh,.inl (by simp)⟩⟩
  ·exact⟨_,rfl,.inr ⟨hh,.inr ⟨rfl,rfl⟩⟩⟩
 ·obtain⟨v,g1,v1⟩:=jE w (k:=1) (n:=7) (by omega) (by omega)
  obtain⟨u,g2,u1⟩:=jE w (k:=8) (n:=56) (by omega) (by omega)
  rw[AE (fun h=>h1 (e1.1 h)),show I4 w 1 7=some (v,0) from g1,AW,show I4 w 8 56=some (u,0) from g2,AW]
  simp only
  have v2:v.toNat=w.toNat%256 / 2:=by rw[v1];omega
  have u2:u.toNat=w.toNat / 256:=by rw[u1];omega
  have n15:(15#64).toNat=15:=rfl
  rw[n15]
  by_cases h2:v.toNat>15
  ·rw[AA h2]
   refine⟨_,rfl,.inr ⟨?_,.inl (by simp)⟩⟩
   unfold hd;rw[AE h1,af]
  have s1:(1#64+v).toNat=1+v.toNat:=by rw[ABF];show (1+v.toNat)%18446744073709551616=_;omega
  have s2:(1#64+v+32#64).toNat=33+v.toNat:=by rw[ABF,s1];show (1+v.toNat+32)%18446744073709551616=_;omega
  rw[AE h2,s1,s2]
  by_cases h3:u.toNat<1+v.toNat
  ·rw[AA h3]
   refine⟨_,rfl,.inr ⟨?_,.inl (by simp)⟩⟩
   unfold hd;rw[AE h1,af]
  rw[AE h3]
  by_cases h4:u.toNat>33+v.toNat
  ·rw[AA h4]
   refine⟨_,rfl,.inr ⟨?_,.inl (by simp)⟩⟩
   unfold hd;rw[AE h1,af]
  rw[AE h4]
  have s3:(u-1#64-v).toNat=u.toNat-1-v.toNat:=by
   have o1:(1#64).toNat=1:=rfl
   rw[wW,wW]
   ·rfl
   ·rw[xC,o1];omega
   ·rw[xC,wW,o1]
    ·omega
    ·rw[xC,o1];omega
  rw[s3,ah (e:=(v.toNat:Int)),ah (e:=((u.toNat-1-v.toNat:Nat):Int))]
  refine⟨_,rfl,.inl ⟨((v.toNat:Int),((u.toNat-1-v.toNat:Nat):Int)), ?_,rfl⟩⟩
  unfold hd;rw[AE h1,ab,v2,u2]
def ob (z W:Int) (ws:List (BitVec 64)) (l:List Int):Nat->Int->Option (List (Int×Int))
 |0,at' =>if at' <W then none else some []
 |n+1,at' =>if at' <W then
   (match CM z l at' with
   |none=>none
   |some a=>match hd (gl 0#64 ws a.toNat) with
    |none=>none
    |some o=>if o.1+o.2+1>W-at' then none else (ob z W ws l n (at' +(1+o.1+o.2))).map ((a,1+o.1+o.2)::·))
  else some []
variable {l:List Int} {ws:List (BitVec 64)}
theorem AQ9 {σ τ:Type} {z W:Int} {f:σ->Option (σ ⊕ β)} {en:Int->τ->σ} {bad good:τ->β} {step:Int->Int->τ->τ} (J:Nat->Int->τ->Prop)
  (dH:∀ (k:Nat) at' st,0<=at' ->at' <W->(k:Int)<=at' ->J k at' st->(∀ a o,CM z l at' =some a->hd (gl 0#64 ws a.toNat)=some o->W-at' <o.1+o.2+1)->∃ st',f (en at' st)=some (.inr (bad st')))
  (hgo:∀ (k:Nat) at' st a o,0<=at' ->at' <W->(k:Int)<=at' ->J k at' st->CM z l at' =some a->hd (gl 0#64 ws a.toNat)=some o->o.1+o.2+1<=W-at' →
   f (en at' st)=some (.inl (en (at' +(1+o.1+o.2)) (step a (1+o.1+o.2) st)))/\J (k+1) (at' +(1+o.1+o.2)) (step a (1+o.1+o.2) st))
  (he:∀ (k:Nat) st,(k:Int)<=W->J k W st->f (en W st)=some (.inr (good st))):
  ∀ (n:Nat) (k:Nat) (at' :Int) (st:τ),0<=at' ->at' <=W->W-at' <=n->(k:Int)<=at' ->J k at' st→
   (ob z W ws l n at' =none->∃ st',AH f (en at' st)=some (bad st'))∧
   ∀ os,ob z W ws l n at' =some os->AH f (en at' st)=some (good (os.foldl (fun st o=>step o.1 o.2 st) st))/\J (k+os.length) W (os.foldl (fun st o=>step o.1 o.2 st) st)/\((k+os.length:Nat):Int)<=W:=by
 intro n
 induction n with
 |zero=>
  intro k at' st h0 h1 h2 hk hJ
  have:at' =W:=by omega
  subst this
  unfold ob
  rw[af]
  refine⟨fun h=>(by cases h),fun os h=> ?_⟩
  simp only[A_] at h
  subst h
  rw[F4,he k st hk hJ]
  exact⟨rfl,hJ,hk⟩
 |succ n ih=>
  intro k at' st h0 h1 h2 hk hJ
  by_cases hW:at' <W
  ·unfold ob
   rw[AA hW]
   cases ha:CM z l at' with
   |none=>
    obtain⟨st',hb⟩:=dH k at' st h0 hW hk hJ (fun a o h=>by rw[ha] at h;cases h)
    refine⟨fun _=>⟨st',by rw[F4,hb]⟩,fun os h=>(by cases h)⟩
   |some a=>
    simp only
    cases ho:hd (gl 0#64 ws a.toNat) with
    |none=>
     obtain⟨st',hb⟩:=dH k at' st h0 hW hk hJ (fun a' o h h' =>by rw[ha] at h;cases h;rw[ho] at h';cases h')
     refine⟨fun _=>⟨st',by rw[F4,hb]⟩,fun os h=>(by cases h)⟩
    |some o=>
     simp only
     have hr:=JN ho
     by_cases hs:o.1+o.2+1>W-at'
     ·rw[AA hs]
      obtain⟨st',hb⟩:=dH k at' st h0 hW hk hJ (fun a' o' h h' =>by rw[ha] at h;cases h;rw[ho] at h';cases h';omega)
      refine⟨fun _=>⟨st',by rw[F4,hb]⟩,fun os h=>(by cases h)⟩
     ·rw[AE hs]
      obtain⟨e1,e2⟩:=hgo k at' st a o h0 hW hk hJ ha ho (by omega)
      obtain⟨i1,i2⟩:=ih (k+1) (at' +(1+o.1+o.2)) (step a (1+o.1+o.2) st) (by omega) (by omega) (by omega) (by omega) e2
      have el:AH f (en at' st)=AH f (en (at' +(1+o.1+o.2)) (step a (1+o.1+o.2) st)):=by rw[F4,e1]
      rw[el]
      cases hq:ob z W ws l n (at' +(1+o.1+o.2)) with
      |none=>exact⟨fun _=>i1 hq,fun os h=>(by cases h)⟩
      |some q=>
       refine⟨fun h=>(by cases h),fun os h=> ?_⟩
       simp only[dO,A_] at h
       subst h
       obtain⟨j1,j2,j3⟩:=i2 q hq
       refine⟨j1, ?_, ?_⟩
       ·rw[NU,show k+(q.length+1)=k+1+q.length by omega];exact j2
       ·rw[NU,show k+(q.length+1)=k+1+q.length by omega];exact j3
  ·have:at' =W:=by omega
   subst this
   unfold ob
   rw[af]
   refine⟨fun h=>(by cases h),fun os h=> ?_⟩
   simp only[A_] at h
   subst h
   rw[F4,he k st hk hJ]
   exact⟨rfl,hJ,hk⟩
structure At (s:Sp) (i:AI) (l:List Int) (at' a:Int):Prop where
 FZ:CM (sz s.1) l at' =some a
 a0:0<=a
 a1:a<s.2.1.length
 AZQ:T1 s (i.2.2.1*sz s.1) at' =some (a,0)
 AZR:AX s (i.2.2.1*sz s.1) at' =some (a,0)
 rgo:∀ k,0<=k->k<=1000->AX s a k=some (VR (CM (sz s.1) l (at' +k)))
variable {i:AI}
theorem zT (h:VS s) (hf:DB s i) (hl:Has s i l) {at' :Int} (h0:0<=at') (h1:at' <i.2.2.2.2):∃ a,At s i l at' a:=by
 have W7:=VS.IK h
 have hn:=h.n.2
 have z:=BU s.1
 obtain⟨z1,z2⟩:=MF h.sh
 obtain⟨⟨q0,q1,b0,b1,w0,w1⟩,n6⟩:=id hf
 rcases hl with ⟨hw,_⟩|⟨hw,hp⟩
 ·omega
 rcases n6 with ⟨hw',_⟩|⟨_,⟨f0,f1⟩,fo,fs,l',hp',hlen,_⟩
 ·omega
 obtain rfl:=hp.fn hp'
 have hsp:=J7 (n:=i.2.2.2.2) z
 rw[<-hlen] at hsp
 obtain⟨g, -,ha⟩:=LN z h0 (show at' <l.length*sz s.1 by omega)
 have hFz:=II h.sh f0 (show i.2.2.1<=64 by omega)
 have hFw:i.2.2.1*sz s.1<s.2.1.length:=by
  rw[h.w]
  exact AFV (by omega) z
 have hb:=PO z (g:=i.2.2.1) (o:=0) (by omega) z
 rw[b7] at hb
 have hst:=ATZ h (a:=i.2.2.1*sz s.1) (k:=at') hFz.1 hFw (by rw[hb.1,fo];omega) h0 (by omega) (l:=l) (by rw[hb.1];exact hp)
 have hgo:=bW h (a:=i.2.2.1*sz s.1) (k:=at') hFz.1 hFw (by rw[hb.1,fo];omega) h0 (by omega) (l:=l) (by rw[hb.1];exact hp)
 rw[hb.2,xD,ha] at hst
 rw[hb.2,xD,ha] at hgo
 obtain⟨l2,p2,⟨c0,c1,c2⟩,p3⟩:=KF z hp h0 ha (k:=0) (YT _)
 have ho:=h.owner hp _ c2
 have m0:=oA (g*sz s.1+at' %sz s.1) (show sz s.1≠0 by omega)
 have m1:=u4 (g*sz s.1+at' %sz s.1) z
 have ed:=AB9 (g*sz s.1+at' %sz s.1) (sz s.1)
 generalize g*sz s.1+at' %sz s.1=a at*
 have ec:sz s.1*(a / sz s.1)=a / sz s.1*sz s.1:=tO _ _
 have n0:=ABM c0 (Int.le_of_lt z)
 have n1:(a / sz s.1+1)*sz s.1<=s.2.2.length*sz s.1:=rE (by omega) (by omega)
 rw[JL,←h.w] at n1
 refine⟨a,ha,by omega,by omega,hst,hgo,fun k k0 k1=> ?_⟩
 obtain⟨l3,p4, -,p5⟩:=KF z hp h0 ha (k:=k) k0
 rw[bW h (by omega) (by omega) (by rw[ho.1,fo];omega) k0 (by omega) p4,p5]
variable {a:Int}
theorem zU {at':Int} (h:At s i l at' a):
  (hd (gl 0#64 s.2.1 a.toNat)=none/\∃ x,BD s a=some x/\x.2.2≠0)∨
  (∃ o,hd (gl 0#64 s.2.1 a.toNat)=some o/\((∃ y,CM (sz s.1) l (at' +(o.1+o.2))=some y/\BD s a=some (o.1,o.2,0))\/(CM (sz s.1) l (at' +(o.1+o.2))=none/\BD s a=some (0,0,2)))):=by
 have a0:=h.a0
 have a1:=h.a1
 have hg:=h.rgo 0 (by omega) (by omega)
 rw[b7,h.FZ] at hg
 obtain⟨x,hx,hr⟩:=AXT (gl 0#64 s.2.1 a.toNat)
 unfold BD
 rw[hg,AW,AE (by simp [VR]),AA ⟨a0,a1⟩,hx,AW]
 rcases hr with ⟨o,h1,rfl⟩|⟨h1,h2⟩
 ·right
  refine⟨o,h1, ?_⟩
  obtain⟨⟨r0,r1⟩,d0,d1⟩:=JN h1
  have hq:=h.rgo (o.1+o.2) (by omega) (by omega)
  rw[AE (by simp),AE (by simp),AB (by simp only;omega) (by simp only;omega),hq,AW]
  cases CM (sz s.1) l (at' +(o.1+o.2)) with
  |none=>right;exact⟨rfl,by rw[AA (by simp [VR])]⟩
  |some y=>left;exact⟨y,rfl,by rw[AE (by simp [VR])]⟩
 ·left
  refine⟨h1, ?_⟩
  rcases h2 with h2|⟨h2,h3⟩
  ·rw[AA h2];exact⟨_,rfl,by simp⟩
  ·rw[AE (DQ h2),AA h3];exact⟨_,rfl,by simp⟩
theorem AIA {σ τ:Type} {z W:Int} {f:σ->Option (σ ⊕ β)} {en:Int->τ->σ} {bad good:τ->β} {step:Int->Int->τ->τ} (J:Nat->Int->τ->Prop)
  (dH:∀ (k:Nat) at' st,0<=at' ->at' <W->(k:Int)<=at' ->J k at' st->(∀ a o,CM z l at' =some a->hd (gl 0#64 ws a.toNat)=some o->W-at' <o.1+o.2+1)->∃ st',f (en at' st)=some (.inr (bad st')))
  (hgo:∀ (k:Nat) at' st a o,0<=at' ->at' <W->(k:Int)<=at' ->J k at' st->CM z l at' =some a->hd (gl 0#64 ws a.toNat)=some o->o.1+o.2+1<=W-at' →
   f (en at' st)=some (.inl (en (at' +(1+o.1+o.2)) (step a (1+o.1+o.2) st)))/\J (k+1) (at' +(1+o.1+o.2)) (step a (1+o.1+o.2) st))
  (he:∀ (k:Nat) st,(k:Int)<=W->J k W st->f (en W st)=some (.inr (good st))) (hW:0<=W) {st:τ} (hJ:J 0 0 st) {Q:β->Prop}
  (hb:ob z W ws l W.toNat 0=none->∀ st',Q (bad st')) (hg:∀ os,ob z W ws l W.toNat 0=some os->Q (good (os.foldl (fun st o=>step o.1 o.2 st) st))):
  ∃ b,AH f (en 0 st)=some b/\Q b:=by
 obtain⟨h1,h2⟩:=AQ9 J dH hgo he W.toNat 0 0 st (by omega) hW (by omega) (by omega) hJ
 cases h:ob z W ws l W.toNat 0 with
 |none=>
  obtain⟨st',h3⟩:=h1 h
  exact⟨_,h3,hb h st'⟩
 |some q=>
  obtain⟨h3, -⟩:=h2 q h
  exact⟨_,h3,hg q h⟩
theorem ANZ {x:Option α} {y:α} (h:∃ b,x=some b/\b=y):x=some y:=by
 obtain⟨b,h1,h2⟩:=h
 rw[h1,h2]
def obs (s:Sp) (i:AI) (l:List Int):Option (List (Int×Int)):=ob (sz s.1) i.2.2.2.2 s.2.1 l i.2.2.2.2.toNat 0
theorem AUE {z W:Int} {ws:List (BitVec 64)} {l:List Int}:∀ {n:Nat} {at' :Int} {os:List (Int×Int)},0<=at' ->at' <=W->ob z W ws l n at' =some os→
  (∀ o∈os,∃ p q,at' <=p/\CM z l p=some o.1/\hd (gl 0#64 ws o.1.toNat)=some q/\o.2=1+q.1+q.2/\p+o.2<=W)/\at' +(os.map (·.2)).sum=W/\at' +os.length<=W
 |0,at',os,h0,h1,h=>by
  unfold ob at h
  split at h
  ·cases h
  ·simp only[A_] at h;subst h;simp;omega
 |n+1,at',os,h0,h1,h=>by
  unfold ob at h
  split at h
  rotate_left
  ·simp only[A_] at h;subst h;simp;omega
  split at h
  ·cases h
  rename_i a ha
  split at h
  ·cases h
  rename_i o ho
  have hr:=JN ho
  split at h
  ·cases h
  cases hq:ob z W ws l n (at' +(1+o.1+o.2)) with
  |none=>rw[hq] at h;cases h
  |some q=>
   rw[hq] at h
   simp only[dO,A_] at h
   subst h
   obtain⟨i1,i2,i3⟩:=AUE (by omega) (by omega) hq
   refine⟨fun x hx=> ?_,by simp only[JS,bK];omega,by simp only[NU];omega⟩
   rcases GH.1 hx with rfl|hx
   ·exact⟨at',o,YT _,ha,ho,rfl,by simp only;omega⟩
   ·obtain⟨p,q',p1,p2,p3,p4,p5⟩:=i1 x hx
    exact⟨p,q',by omega,p2,p3,p4,p5⟩
variable {os:List (Int×Int)}
theorem AXU (h:VS s) (hf:DB s i) (ho:obs s i l=some os):os.length<=16384/\(os.map (·.2)).sum=i.2.2.2.2:=by
 have W7:=VS.IK h
 obtain⟨⟨_,_,_,_,w0,w1⟩,_⟩:=id hf
 obtain⟨-,h2,h3⟩:=AUE (by omega) w0 ho
 omega
theorem AQA (h:VS s) (hf:DB s i) (hw:¬i.2.2.2.2=0):T0 s i.2.2.1=some (i.2.2.1*sz s.1,0):=by
 obtain⟨_,n6⟩:=id hf
 rcases n6 with ⟨hw',_⟩|⟨_,⟨f0,f1⟩,_⟩
 ·omega
 exact AU3 h f0 f1
theorem AUF (hw:i.2.2.2.2=0) (l:List Int):obs s i l=some []:=by
 unfold obs
 rw[hw]
 rfl
theorem AIB (os:List (Int×Int)) (st:List Int):os.foldl (fun st o=>st++ [o.1]) st=st++os.map (·.1):=by
 induction os generalizing st with
 |nil=>simp
 |cons o r ih=>rw[tN,ih,JS,I0];rfl
theorem AIC (h:VS s) (hf:DB s i) (hl:Has s i l):
  LV s i=some (match obs s i l with|none=>([],12)|some os=>(os.map (·.1),0)):=by
 have W7:=VS.IK h
 obtain⟨⟨_,_,_,_,w0,w1⟩,_⟩:=id hf
 obtain⟨b,hb,UB⟩:=sU h.stI i
 have hbt:b=true:=UB.2 ⟨h,hf⟩
 subst hbt
 have key:∃ r,EW s i []=some r/\(obs s i l=none->r.1=12)/\∀ os,obs s i l=some os->r=(0,os.map (·.1)):=by
  unfold EW zaB
  rw[hb,AW,AE (by simp)]
  by_cases hw:i.2.2.2.2=0
  ·rw[AA hw,AUF hw]
   exact⟨_,rfl,fun h=>(by cases h),fun os h=>(by cases h;rfl)⟩
  rw[AE hw,AQA h hf hw,AW]
  refine AIA (τ:=List Int) (β:=Int×List Int) (z:=sz s.1) (W:=i.2.2.2.2) (ws:=s.2.1) (l:=l) (en:=fun a st=>(a,st)) (bad:=fun st=>(12,st)) (good:=fun st=>(0,st)) (step:=fun a _ st=>st++ [a]) (fun k _ st=>st.length=k) ?_ ?_ ?_ w0 (st:=[]) rfl ?_ ?_
  ·intro k at' st h0 h1 hk hJ XS
   obtain⟨a,ha⟩:=zT h hf hl h0 h1
   have a0:=ha.a0
   have a1:=ha.a1
   obtain⟨x,hx,hr⟩:=ANY (gl 0#64 s.2.1 a.toNat)
   simp only
   rw[AA h1,ha.AZQ,AW,AE (by simp),AA ⟨a0,a1⟩,hx,AW]
   rcases hr with ⟨o,g1,rfl⟩|⟨g1,g2⟩
   ·have hr:=JN g1
    have:=XS a o ha.FZ g1
    rw[AE (by simp),AE (by simp)]
    simp only
    rw[ah (e:=(1:Int)+o.1),ah (e:=(1:Int)+o.1+o.2),ah (e:=i.2.2.2.2-at'),ab]
    exact⟨_,rfl⟩
   ·rcases g2 with g2|⟨g2,g3⟩
    ·rw[AA g2];exact⟨_,rfl⟩
    ·rw[AE (DQ g2),AA g3];exact⟨_,rfl⟩
  ·intro k at' st a o h0 h1 hk hJ had ho AAJ
   obtain⟨a',ha⟩:=zT h hf hl h0 h1
   obtain rfl:a=a' :=by have:=ha.FZ;rw[had] at this;simpa using this
   have a0:=ha.a0
   have a1:=ha.a1
   have hr:=JN ho
   obtain⟨x,hx,hd'⟩:=ANY (gl 0#64 s.2.1 a.toNat)
   simp only
   rw[AA h1,ha.AZQ,AW,AE (by simp),AA ⟨a0,a1⟩,hx,AW]
   rcases hd' with ⟨o',g1,rfl⟩|⟨g1,g2⟩
   rotate_left
   ·rw[ho] at g1;cases g1
   obtain rfl:o=o' :=by rw[ho] at g1;simpa using g1
   rw[AE (by simp),AE (by simp)]
   simp only
   rw[ah (e:=(1:Int)+o.1),ah (e:=(1:Int)+o.1+o.2),ah (e:=i.2.2.2.2-at'),af]
   unfold UJ
   rw[AA (by simp only[Q5];omega),AW,AE (by simp),ah]
   exact⟨rfl,by simp [hJ]⟩
  ·intro k st hk hJ
   simp only
   rw[af]
  ·exact fun hn st' =>⟨fun _=>rfl,fun os hs=>by rw[show obs s i l=none from hn] at hs;cases hs⟩
  ·intro os hs
   refine⟨fun hn=> ?_,fun rC hs' => ?_⟩
   ·rw[show obs s i l=some os from hs] at hn;cases hn
   ·obtain rfl:os=rC :=by rw[show obs s i l=some os from hs] at hs';simpa using hs'
    rw[AIB];rfl
 obtain⟨r,k1,k2,k3⟩:=key
 unfold LV
 rw[k1,AW]
 cases ho:obs s i l with
 |none=>rw[AA (by rw[k2 ho];decide),k2 ho]
 |some os=>rw[k3 os ho];rfl
theorem AF1 (h:VS s) (hf:DB s i) (hl:Has s i l):
  CE s i=some (match obs s i l with|none=>([],12)|some os=>(os.map (·.1),0)):=by
 have W7:=VS.IK h
 have hn:=h.n.2
 obtain⟨⟨_,_,_,_,w0,w1⟩,n6⟩:=id hf
 have hF:i.2.2.2.2≠0->0<=i.2.2.1/\i.2.2.1<s.2.2.length:=fun hw=>by
  rcases n6 with ⟨hw',_⟩|⟨_,f,_⟩
  ·omega
  ·exact f
 have AZS:i.2.2.2.2≠0->AG (i.2.2.1*2 ^ min (BitVec.ofInt 64 s.1).toNat 64)=i.2.2.1*sz s.1:=fun hw=>by
  obtain⟨f0,f1⟩:=hF hw
  have:=II h.sh f0 (show i.2.2.1<=64 by omega)
  rw[JK h.sh,ah]
 unfold CE
 refine ANZ (AIA (τ:=List Int) (β:=List Int×Int) (z:=sz s.1) (W:=i.2.2.2.2) (ws:=s.2.1) (l:=l) (en:=fun a st=>(st,a)) (bad:=fun st=>([],12)) (good:=fun st=>(st,0)) (step:=fun a _ st=>st++ [a]) (fun k _ st=>st.length=k) ?_ ?_ ?_ w0 (st:=[]) rfl ?_ ?_)
 ·intro k at' st h0 h1 hk hJ XS
  obtain⟨a,ha⟩:=zT h hf hl h0 h1
  simp only
  rw[AA h1,AA trivial,AZS (by omega),ha.AZR,AW]
  rcases zU ha with ⟨g1,x,g2,g3⟩|⟨o,g1,⟨y,g2,g3⟩|⟨g2,g3⟩⟩
  ·rw[g2,AW,AA g3];exact⟨st,rfl⟩
  ·have hr:=JN g1
   have:=XS a o ha.FZ g1
   rw[g3,AW,AE (by simp)]
   simp only
   rw[ah (e:=at' +1),ah (e:=at' +1+o.1),ah (e:=at' +1+o.1+o.2),ab]
   exact⟨st,rfl⟩
  ·rw[g3,AW,AA (by simp)];exact⟨st,rfl⟩
 ·intro k at' st a o h0 h1 hk hJ had ho AAJ
  obtain⟨a',ha⟩:=zT h hf hl h0 h1
  obtain rfl:a=a' :=by have:=ha.FZ;rw[had] at this;simpa using this
  have hr:=JN ho
  simp only
  rw[AA h1,AA trivial,AZS (by omega),ha.AZR,AW]
  rcases zU ha with ⟨g1,x,g2,g3⟩|⟨o',g1,⟨y,g2,g3⟩|⟨g2,g3⟩⟩
  ·rw[ho] at g1;cases g1
  ·obtain rfl:o=o' :=by rw[ho] at g1;simpa using g1
   rw[g3,AW,AE (by simp)]
   simp only
   rw[ah (e:=at' +1),ah (e:=at' +1+o.1),ah (e:=at' +1+o.1+o.2),af,
    AA (by simp only[Q5];omega),ah (e:=(1:Int)+o.1),ah (e:=(1:Int)+o.1+o.2),ah (e:=at' +(1+o.1+o.2))]
   exact⟨rfl,by simp [hJ]⟩
  ·obtain rfl:o=o' :=by rw[ho] at g1;simpa using g1
   obtain⟨a2,ha2⟩:=zT h hf hl (at' :=at' +(o.1+o.2)) (by omega) (by omega)
   rw[ha2.FZ] at g2;cases g2
 ·intro k st hk hJ
  simp only
  rw[af]
 ·intro hn st'
  rw[show obs s i l=none from hn]
 ·intro os hs
  rw[show obs s i l=some os from hs,AIB]
  rfl
def ads (z:Int) (l:List Int):Int->List (Int×Int)->List (Int×Int)
 |_,[]=>[]
 |at',o::r=>((CM z l at').getD 0,1+o.1+o.2)::ads z l (at' +(1+o.1+o.2)) r
theorem zV {z:Int} {ws:List (BitVec 64)} {l:List Int} {W:Int}:∀ {os:List (Int×Int)} {at' :Int} {n:Nat},DK z ws l at' os W->W-at' <=n->ob z W ws l n at' =some (ads z l at' os)
 | [],at',n,h,hn=>by
  rw[DK] at h
  subst h
  cases n <;> (unfold ob;rw[af];rfl)
 |o::r,at',n,h,hn=>by
  obtain⟨⟨⟨r0,r1⟩,d0,d1⟩,⟨a,h2,h3⟩,h4⟩:=h
  have hle:=h4.le
  cases n with
  |zero=>omega
  |succ n=>
   unfold ob
   rw[ab,h2]
   simp only
   rw[h3,nX r0 r1 d0 d1]
   simp only
   rw[af,zV h4 (by omega),dO]
   simp only[ads,h2,AG6]
variable {l':List Int}
theorem K_ (h:Has s i l) (h' :Has s i l'):l=l' :=by
 rcases h with ⟨h1,rfl⟩|⟨h1,h2⟩ <;> rcases h' with ⟨h3,rfl⟩|⟨h3,h4⟩
 ·rfl
 ·exact absurd h1 h3
 ·exact absurd h3 h1
 ·exact h2.fn h4
theorem qI (hl:Has s i l) (hw:0<=i.2.2.2.2) (h:Full s i os):DK (sz s.1) s.2.1 l 0 os i.2.2.2.2/\obs s i l=some (ads (sz s.1) l 0 os):=by
 obtain⟨l',h1,h2⟩:=h
 obtain rfl:=K_ hl h1
 exact⟨h2,zV h2 (by omega)⟩
abbrev Se:Type:=Int×Int×List Int
abbrev Ss:Type:=List Se
abbrev Ro:Type:=List Bool×List (BitVec 64)
def Lx (a b:Se):Prop:=a.1<b.1\/(a.1=b.1/\a.2.1<b.2.1)
instance (a b:Se):Decidable (Lx a b):=by unfold Lx;infer_instance
structure RV (l:Ss):Prop where
 pw:l.Pairwise Lx
 e:∀ x∈l,(0<=x.1/\x.1<64)/\(0<=x.2.1/\x.2.1<64)/\x.2.2.Pairwise (·< ·)/\∀ y∈x.2.2,0<=y/\y<16384
def In (l:Ss) (f g y:Int):Prop:=∃ x∈l,x.1=f/\x.2.1=g/\y∈x.2.2
theorem s_ {n:Nat} (h:l.Pairwise (·< ·)) (hb:∀ y∈l,0<=y/\y<n):l.length<=n:=
 S0 n l (h.imp fun h=>Int.ne_of_lt h) hb
theorem RV.len {l:Ss} (h:RV l):l.length<=4096:=by
 have:(l.map fun x=>x.1*64+x.2.1).length<=4096:=by
  refine s_ (AG5.2 ?_) ?_
  ·refine (List.Pairwise.imp_of_mem (S:=fun a b=>a.1*64+a.2.1<b.1*64+b.2.1) ?_ h.pw)
   intro a b ha hb hl
   have e1:=h.e a ha
   have e2:=h.e b hb
   rcases hl with hl|⟨hl,b_⟩ <;> omega
  ·intro y hy
   obtain⟨x,hx,rfl⟩:=DH.1 hy
   have e1:=h.e x hx
   omega
 rw[V6] at this
 exact this
theorem RV.A27 {l:Ss} (h:RV l) {x:Se} (hx:x∈l):x.2.2.length<=16384:=s_ (h.e x hx).2.2.1 (h.e x hx).2.2.2
theorem AUG {l:Ss} (hl:l.length<=1000000) (hx:∀ x∈l,x.2.2.length<=1000000):EL l=some l:=by
 unfold EL zad
 refine (AK (fun k (st:Ss×Int)=>k<=l.length/\st=(l.take k,(k:Int))) (fun b=>b=l) l.length ?_ ?_ (s:=([],0)) ⟨by omega,by simp⟩).elim fun b hb=>by rw[hb.1,hb.2]
 ·rintro k st hk ⟨_,rfl⟩
  have hl:=hx (gl (0,0,[]) l k) (B3 hk)
  left
  refine⟨_, ?_,by omega,rfl⟩
  simp only[HM]
  rw[ab,ab,AA (by simp;omega),AA (by simp;omega),dR,IY (d:=(0,0,[])) l k hk,ah]
  rfl
 ·rintro st ⟨_,rfl⟩
  simp only
  rw[af,VD]
  exact⟨_,rfl,rfl⟩
theorem RV.copy {l:Ss} (h:RV l):EL l=some l:=
 AUG (by have:=h.len;omega) fun x hx=>by have:=h.A27 hx;omega
theorem AF2 (hl:l.length<=1000000) (v:Int):EU l v=some (decide (v∈l)):=by
 unfold EU
 obtain⟨h1,h2⟩:=sZ (β:=Bool) (ys:=l) (v:=v) (bad:=true) (r:=false) (f:=fun s1=>
  if s1<(l.length:Int) then
  if 0<=s1/\s1<(l.length:Int) then
  if (gl (0:Int) l s1.toNat)=v then
  some (Sum.inr (true))
  else some (Sum.inl (AG (s1+1)))
  else none
  else some (Sum.inr (false))) (fun k hk=>by
   simp only[HM]
   rw[ab,ab,ah]) (fun _=>by
   rw[af])
 by_cases h:v∈l
 ·rw[JR h];exact h1 h
 ·rw[P_ h];exact h2 h
def ins (l:List Int) (v:Int):List Int:=if v∈l then l else l.filter (·< v)++(v::l.filter (v< ·))
theorem jF {v x:Int}:x∈ins l v↔x=v\/x∈l:=by
 unfold ins
 split
 ·rename_i h
  constructor
  ·exact .inr
  ·rintro (rfl|h')
   ·exact h
   ·exact h'
 ·rename_i h
  simp only[FG,Z1,GH,LD]
  constructor
  ·rintro (⟨h1,_⟩|rfl|⟨h1,_⟩)
   ·exact .inr h1
   ·exact .inl rfl
   ·exact .inr h1
  ·rintro (rfl|h1)
   ·exact .inr (.inl rfl)
   ·rcases Int.lt_trichotomy x v with h2|rfl|h2
    ·exact .inl ⟨h1,h2⟩
    ·exact absurd h1 h
    ·exact .inr (.inr ⟨h1,h2⟩)
theorem AUH {v:Int} (h:l.Pairwise (·< ·)):(ins l v).Pairwise (·< ·):=by
 unfold ins
 split
 ·exact h
 ·rw[wY,dN]
  refine⟨h.sublist ABA,⟨fun x hx=> ?_,h.sublist ABA⟩,fun a ha b hb=> ?_⟩
  ·simpa using (Z1.1 hx).2
  ·have h1:a<v:=by simpa using (Z1.1 ha).2
   rcases GH.1 hb with rfl|hb
   ·exact h1
   ·have:v<b:=by simpa using (Z1.1 hb).2
    omega
theorem R_ (xs:List α) (k:Nat):BF xs 0 (k-0)=xs.take k:=by
 unfold BF;simp
theorem A28 (h:l.Pairwise (·< ·)) (v:Int):∃ k,k<=l.length/\l.filter (·< v)=l.take k/\l.filter (fun x=>¬x<v)=l.drop k/\(∀ j,j<k->gl 0 l j<v)/\(k<l.length->¬gl 0 l k<v):=by
 induction l with
 |nil=>exact⟨0,by simp,rfl,rfl,fun j hj=>by omega,fun h=>by simp at h⟩
 |cons a r ih=>
  obtain⟨h1,h2⟩:=dN.1 h
  obtain⟨k,k1,k2,k3,k4,k5⟩:=ih h2
  by_cases ha:a<v
  ·refine⟨k+1,by simp;omega, ?_, ?_, ?_, ?_⟩
   ·rw[u5,AA (by simpa using ha),List.take_succ_cons,k2]
   ·rw[u5,AE (by simpa using ha),List.drop_succ_cons,k3]
   ·intro j hj
    cases j with
    |zero=>exact ha
    |succ j=>exact k4 j (by omega)
   ·intro hk
    exact k5 (by simpa using hk)
  ·have hr:∀ x∈r,¬x<v:=fun x hx=>by have:=h1 x hx;omega
   refine⟨0,by simp, ?_, ?_,fun j hj=>by omega,fun _=>ha⟩
   ·rw[u5,AE (by simpa using ha),AM7,ALQ]
    intro x hx
    simpa using hr x hx
   ·rw[u5,AA (by simpa using ha),xA]
    congr 1
    rw[ALW]
    intro x hx
    simpa using hr x hx
theorem AO0 (h:l.Pairwise (·< ·)) (hl:l.length<=1000000) (v:Int):EN l v=some (ins l v):=by
 obtain⟨k,k1,k2,k3,k4,k5⟩:=A28 h v
 have key:(if v∈l then l else l.take k++ [v]++l.drop k)=ins l v:=by
  unfold ins
  split
  ·rfl
  ·rename_i hn
   rw[k2,I0,ALS,←k3]
   congr 2
   refine AG3 fun x hx=> ?_
   simp only[jL]
   constructor
   ·intro h1;by_cases h2:x=v
    ·subst h2;exact absurd hx hn
    ·omega
   ·intro h1;omega
 have MR:v∈l↔k<l.length/\gl 0 l k=v:=by
  constructor
  ·intro hm
   have hd:v∈l.drop k:=by rw[<-k3,Z1];exact⟨hm,by simp⟩
   have hk:k<l.length:=by
    rcases IG k l.length with h1|h1
    ·exact h1
    ·rw[List.drop_eq_nil_of_le h1] at hd;cases hd
   refine⟨hk, ?_⟩
   have hs:=wF (d:=0) l k hk
   rw[AJB hk,←DJ (d:=0) hk] at hd
   rcases GH.1 hd with hd|hd
   ·exact hd.symm
   ·have:=k5 hk
    have h2:gl 0 l k<v:=by
     have hp:(l.drop k).Pairwise (·< ·):=h.sublist (List.drop_sublist k l)
     rw[AJB hk,←DJ (d:=0) hk,dN] at hp
     exact hp.1 _ hd
    omega
  ·rintro⟨h1,rfl⟩;exact B3 h1
 rw[<-key]
 unfold EN zaw zg
 refine (AK (fun j (st:Int)=>st=(j:Int)) (fun b=>b=if v∈l then l else l.take k++ [v]++l.drop k) k ?_ ?_ (s:=0) rfl).elim fun b hb=>by rw[hb.1,hb.2]
 ·rintro j st hj rfl
  left
  rw[ab,ab,HM,AA (k4 j hj),ah]
  exact⟨_,rfl,rfl⟩
 ·rintro st rfl
  have l1:(l.take k).length=k:=by rw[jM];omega
  have l2:(l.drop k).length=l.length-k:=by rw[oD]
  have b1:Bd none (some (k:Int)) k l.length:=⟨by omega,trivial⟩
  have b2:Bd (some (k:Int)) none l.length l.length:=⟨trivial,by omega⟩
  by_cases hk:k<l.length
  ·rw[ab,ab]
   simp only[HM]
   rw[AE (k5 hk),ab,ab]
   by_cases he:gl 0 l k=v
   ·rw[AA he,AA (MR.2 ⟨hk,he⟩)]
    exact⟨_,rfl,rfl⟩
   ·rw[AE he,AE (fun hm=>he (MR.1 hm).2),AA b1,R_,jA,AA (by simp;omega),AA (by simp;omega),AA b2,AA (by simp;omega)]
    exact⟨_,rfl,by rw[dR]⟩
  ·have hn:v∉l:=fun hm=>hk (MR.1 hm).1
   rw[af,af]
   simp only[HM]
   rw[AE hn,AA b1,R_,jA,AA (by simp;omega),AA (by simp;omega),AA b2,AA (by simp;omega)]
   exact⟨_,rfl,by rw[dR]⟩
theorem V2 (a b:Se):FW a b=some (decide (Lx a b)):=by
 unfold FW
 by_cases h:a.1<b.1
 ·rw[AA h,JR (show Lx a b from Or.inl h)]
 ·rw[AE h]
  by_cases h2:a.1=b.1
  ·rw[AA h2]
   congr 1
   rw[jL]
   exact⟨fun h3=>Or.inr ⟨h2,h3⟩,fun h3=>by rcases h3 with h3|h3 <;> omega⟩
  ·rw[AE h2,P_ (fun h3=>by rcases h3 with h3|h3 <;> omega)]
theorem Lx.trans {a b c:Se} (h:Lx a b) (h' :Lx b c):Lx a c:=by
 unfold Lx at*
 omega
theorem A7A {l:Ss} (p:Se):∃ k,k<=l.length/\(∀ j,j<k->Lx (gl (0,0,[]) l j) p)/\(k<l.length->¬Lx (gl (0,0,[]) l k) p):=by
 induction l with
 |nil=>exact⟨0,by simp,fun j hj=>by omega,fun h=>by simp at h⟩
 |cons a r ih=>
  obtain⟨k,k1,k2,k3⟩:=ih
  by_cases ha:Lx a p
  ·refine⟨k+1,by simp;omega,fun j hj=> ?_,fun hk=> ?_⟩
   ·cases j with
    |zero=>exact ha
    |succ j=>exact k2 j (by omega)
   ·exact k3 (by simpa using hk)
  ·exact⟨0,by simp,fun j hj=>by omega,fun _=>ha⟩
theorem uR {d:α} {l:List α} {x:α} (h:x∈l.take k):∃ j,j<k/\j<l.length/\gl d l j=x:=by
 obtain⟨j,hj,rfl⟩:=AA9.1 h
 rw[jM] at hj
 exact⟨j,by omega,by omega,by rw[List.getElem_take,DJ (by omega)]⟩
variable {g y:Int}
theorem A29 {l:Ss} (h:RV l) (hf:0<=f/\f<64) (hg:0<=g/\g<64) (hy:0<=y/\y<16384):
  ∃ l',JD l f g y=some l' /\RV l' /\∀ f' g' y',In l' f' g' y' ↔In l f' g' y' \/(f' =f/\g' =g/\y' =y):=by
 have hlen:=h.len
 obtain⟨k,k1,k2,k3⟩:=A7A (l:=l) (f,g,[])
 have l1:(l.take k).length=k:=by rw[jM];omega
 have l2:(l.drop k).length=l.length-k:=by rw[oD]
 have b1:Bd none (some (k:Int)) k l.length:=⟨by omega,trivial⟩
 have b2:Bd (some (k:Int)) none l.length l.length:=⟨trivial,by omega⟩
 by_cases hc:k<l.length/\¬Lx (f,g,[]) (gl (0,0,[]) l k)
 ·obtain⟨hk,hn⟩:=hc
  have hx:=B3 (d:=((0,0,[]):Se)) hk
  have e:=h.e _ hx
  have hs:=h.A27 hx
  have k3' :=k3 hk
  have ek:(gl (0,0,[]) l k).1=f/\(gl (0,0,[]) l k).2.1=g:=by
   unfold Lx at hn k3'
   simp only at hn k3'
   omega
  refine⟨l.set k (f,g,ins (gl (0,0,[]) l k).2.2 y), ?_, ?_, ?_⟩
  ·unfold JD zp zf zaD
   refine (AK (fun j (st:Int)=>st=(j:Int)) (fun b=>b=l.set k (f,g,ins (gl (0,0,[]) l k).2.2 y)) k ?_ ?_ (s:=0) rfl).elim fun b hb=>by rw[hb.1,hb.2]
   ·rintro j st hj rfl
    left
    rw[ab,ab,HM,V2,AW,AA (JR (k2 j hj)),ah]
    exact⟨_,rfl,rfl⟩
   ·rintro st rfl
    rw[ab,ab]
    simp only[HM]
    rw[V2,AW,AE (by rw[LD];exact k3'),h.copy,AW,ab,ab,V2,AW,AA (by rw[P_ hn];rfl),ab,AO0 e.2.2.1 (by omega),AW,ab,ek.1,ek.2]
    exact⟨_,rfl,rfl⟩
  ·constructor
   ·have e1:∀ l:Ss,l.Pairwise Lx↔(l.map fun x=>(x.1,x.2.1)).Pairwise fun a b=>a.1<b.1\/(a.1=b.1/\a.2<b.2):=fun l=>by rw[AG5];rfl
    rw[e1,List.map_set]
    have e2:(l.map fun x:Se=>(x.1,x.2.1)).set k (f,g)=l.map fun x:Se=>(x.1,x.2.1):=by
     refine List.ext_getElem (by simp) fun j j1 j2=> ?_
     rw[List.getElem_set]
     split
     ·rename_i hj;subst hj
      rw[rH,←DJ (d:=((0,0,[]):Se)) hk,ek.1,ek.2]
     ·rfl
    rw[e2,←e1]
    exact h.pw
   ·intro x hx'
    rcases ALJ hx' with hx' |rfl
    ·exact h.e x hx'
    ·refine⟨hf,hg,AUH e.2.2.1,fun z hz=> ?_⟩
     rcases jF.1 hz with rfl|hz
     ·exact hy
     ·exact e.2.2.2 z hz
  ·intro f' g' y'
   constructor
   ·rintro⟨x,hx',rfl,rfl,hz⟩
    rcases ALJ hx' with hx' |rfl
    ·exact .inl ⟨x,hx',rfl,rfl,hz⟩
    ·rcases jF.1 hz with rfl|hz
     ·exact .inr ⟨rfl,rfl,rfl⟩
     ·exact .inl ⟨_,hx,ek.1,ek.2,hz⟩
   ·have hm:(f,g,ins (gl (0,0,[]) l k).2.2 y)∈l.set k (f,g,ins (gl (0,0,[]) l k).2.2 y):=List.mem_set hk _
    rintro (⟨x,hx',rfl,rfl,hz⟩|⟨rfl,rfl,rfl⟩)
    ·obtain⟨j,hj,rfl⟩:=AA9.1 hx'
     by_cases WC:j=k
     ·subst WC
      rw[<-DJ (d:=((0,0,[]):Se)) hj] at hz ⊢
      exact⟨_,hm,ek.1.symm,ek.2.symm,jF.2 (.inr hz)⟩
     ·refine⟨l[j], ?_,rfl,rfl,hz⟩
      rw[AA9]
      exact⟨j,by rw[EG];exact hj,by rw[List.getElem_set_ne (Ne.symm WC)]⟩
    ·exact⟨_,hm,rfl,rfl,jF.2 (.inl rfl)⟩
 ·have hr:k<l.length->Lx (f,g,[]) (gl (0,0,[]) l k):=fun hk=>AB7 fun hn=>hc ⟨hk,hn⟩
  have ADK:∀ x∈l.drop k,Lx (f,g,[]) x:=by
   intro x hx
   have hk:k<l.length:=by
    rcases IG k l.length with h1|h1
    ·exact h1
    ·rw[List.drop_eq_nil_of_le h1] at hx;cases hx
   have hp:(l.drop k).Pairwise Lx:=h.pw.sublist (List.drop_sublist k l)
   rw[AJB hk,←DJ (d:=((0,0,[]):Se)) hk] at hx hp
   rcases GH.1 hx with rfl|hx
   ·exact hr hk
   ·exact (hr hk).trans ((dN.1 hp).1 x hx)
  refine⟨l.take k++ [(f,g,[y])]++l.drop k, ?_, ?_, ?_⟩
  ·unfold JD zp zf zaD
   refine (AK (fun j (st:Int)=>st=(j:Int)) (fun b=>b=l.take k++ [(f,g,[y])]++l.drop k) k ?_ ?_ (s:=0) rfl).elim fun b hb=>by rw[hb.1,hb.2]
   ·rintro j st hj rfl
    left
    rw[ab,ab,HM,V2,AW,AA (JR (k2 j hj)),ah]
    exact⟨_,rfl,rfl⟩
   ·rintro st rfl
    by_cases hk:k<l.length
    ·rw[ab,ab]
     simp only[HM]
     rw[V2,AW,AE (by rw[LD];exact k3 hk),h.copy,AW,ab,ab,V2,AW,AE (by rw[JR (hr hk)];simp),AA b2,jA,AA (by simp;omega),AA b1,R_,AA (by simp;omega),AA (by simp;omega),dR]
     exact⟨_,rfl,rfl⟩
    ·rw[af,h.copy,AW,af]
     simp only[HM]
     rw[AA b2,jA,AA (by simp;omega),AA b1,R_,AA (by simp;omega),AA (by simp;omega),dR]
     exact⟨_,rfl,rfl⟩
  ·have hs:l.take k++l.drop k=l:=AFT k l
   have hp:=h.pw
   rw[<-hs,wY] at hp
   constructor
   ·rw[I0,ALS,wY,dN]
    refine⟨hp.1,⟨fun x hx=>ADK x hx,hp.2.1⟩,fun a ha b hb=> ?_⟩
    obtain⟨j,j1,j2,rfl⟩:=uR (d:=((0,0,[]):Se)) ha
    rcases GH.1 hb with rfl|hb
    ·exact k2 j j1
    ·exact hp.2.2 _ ha _ hb
   ·intro x hx
    simp only[FG,GG] at hx
    rcases hx with (hx|rfl)|hx
    ·exact h.e x (AA7 hx)
    ·refine⟨hf,hg,ALO _ _,fun z hz=> ?_⟩
     rw[GG.1 hz];exact hy
    ·exact h.e x (tJ hx)
  ·intro f' g' y'
   have SN:∀ x:Se,x∈l.take k++ [(f,g,[y])]++l.drop k↔x∈l\/x=(f,g,[y]):=by
    intro x
    rw[FG,FG,GG]
    have:x∈l↔x∈l.take k\/x∈l.drop k:=by rw[<-FG,AFT]
    rw[this]
    constructor
    ·rintro ((h1|h1)|h1)
     ·exact .inl (.inl h1)
     ·exact .inr h1
     ·exact .inl (.inr h1)
    ·rintro ((h1|h1)|h1)
     ·exact .inl (.inl h1)
     ·exact .inr h1
     ·exact .inl (.inr h1)
   constructor
   ·rintro⟨x,hx,rfl,rfl,hz⟩
    rcases (SN x).1 hx with hx|rfl
    ·exact .inl ⟨x,hx,rfl,rfl,hz⟩
    ·exact .inr ⟨rfl,rfl,GG.1 hz⟩
   ·rintro (⟨x,hx,rfl,rfl,hz⟩|⟨rfl,rfl,rfl⟩)
    ·exact⟨x,(SN x).2 (.inl hx),rfl,rfl,hz⟩
    ·exact⟨_,(SN _).2 (.inr rfl),rfl,rfl,GG.2 rfl⟩
theorem gY {d:α} (p:α->Bool) (l:List α) (hk:k<l.length):(l.take (k+1)).filter p=(l.take k).filter p++(if p (gl d l k)=true then [gl d l k] else []):=by
 rw[IY (d:=d) l k hk,AAB,u5,List.filter_nil]
theorem UK (p:α->Bool) (l:List α) (k:Nat):((l.take k).filter p).length<=l.length:=by
 refine oG (rF _ _) ?_
 rw[jM];omega
def qJ (l:Ss) (F:List Int):Ss:=l.filter fun x=>decide (x.1∉F/\x.2.1∉F)
variable {F:List Int}
theorem AXV {l:Ss} (h:RV l) (hF:F.length<=1000000):KX l F=some (qJ l F):=by
 have hlen:=h.len
 unfold KX zad
 rw[h.copy,AW]
 refine (AK (fun k (st:Ss×Int)=>st=((l.take k).filter (fun x=>decide (x.1∉F/\x.2.1∉F)),(k:Int))) (fun b=>b=qJ l F) l.length ?_ ?_ (s:=([],0)) (by simp)).elim fun b hb=>by rw[hb.1,hb.2]
 ·rintro k st hk rfl
  left
  have hb:=UK (fun x:Se=>decide (x.1∉F/\x.2.1∉F)) l k
  simp only[HM]
  rw[ab,ab,AF2 hF,AW,AF2 hF]
  rw[gY (d:=((0,0,[]):Se)) _ l hk]
  by_cases h1:(gl ((0,0,[]):Se) l k).1∈F
  ·rw[AE (by rw[JR h1];simp),AE (by rw[LD];exact fun hh=>hh.1 h1),ah,FP]
   exact⟨_,rfl,rfl⟩
  ·rw[AA (by rw[P_ h1];rfl),AW]
   by_cases h2:(gl ((0,0,[]):Se) l k).2.1∈F
   ·rw[AE (by rw[JR h2];simp),AE (by rw[LD];exact fun hh=>hh.2 h2),ah,FP]
    exact⟨_,rfl,rfl⟩
   ·rw[AA (by rw[P_ h2];rfl),AA (JR ⟨h1,h2⟩),AA (by simp only[Q5];omega),ah]
    exact⟨_,rfl,rfl⟩
 ·rintro st rfl
  simp only
  rw[af,VD]
  exact⟨_,rfl,rfl⟩
theorem RV.drop {l:Ss} (h:RV l) (F:List Int):RV (qJ l F):=
 ⟨h.pw.sublist ABA,fun x hx=>h.e x (Z1.1 hx).1⟩
theorem AO1 {l:Ss} :In (qJ l F) f g y↔In l f g y/\f∉F/\g∉F:=by
 constructor
 ·rintro⟨x,hx,rfl,rfl,hy⟩
  obtain⟨h1,h2⟩:=Z1.1 hx
  exact⟨⟨x,h1,rfl,rfl,hy⟩,SJ h2⟩
 ·rintro⟨⟨x,hx,rfl,rfl,hy⟩,h2⟩
  exact⟨x,Z1.2 ⟨hx,JR h2⟩,rfl,rfl,hy⟩
def InF (l:Ss) (F:List Int) (y:Int):Prop:=∃ f g,In l f g y/\g∈F/\f∉F
theorem qK {l:Ss} (hk:k<l.length) :In (l.take (k+1)) f g y↔In (l.take k) f g y\/((gl (0,0,[]) l k).1=f/\(gl (0,0,[]) l k).2.1=g/\y∈(gl (0,0,[]) l k).2.2):=by
 rw[IY (d:=((0,0,[]):Se)) l k hk]
 constructor
 ·rintro⟨x,hx,h1,h2,h3⟩
  rcases FG.1 hx with hx|hx
  ·exact .inl ⟨x,hx,h1,h2,h3⟩
  ·rw[GG.1 hx] at h1 h2 h3
   exact .inr ⟨h1,h2,h3⟩
 ·rintro (⟨x,hx,h1,h2,h3⟩|⟨h1,h2,h3⟩)
  ·exact⟨x,FG.2 (.inl hx),h1,h2,h3⟩
  ·exact⟨_,FG.2 (.inr (GG.2 rfl)),h1,h2,h3⟩
theorem AXW {l:Ss} (h:RV l) (hF:F.length<=1000000):
  ∃ out n,KW l F=some (out,n)/\out.Pairwise (·< ·)/\(∀ y∈out,0<=y/\y<16384)/\∀ y,y∈out↔InF l F y:=by
 have hlen:=h.len
 unfold KW zaH
 have key:=AK (f:=fun s1:List Int×Int×Int=>
  if s1.2.2<(l.length:Int) then
  if 0<=s1.2.2/\s1.2.2<(l.length:Int) then
  (EU F (((gl ((0,0,[]):(Int×Int×(List Int))) l s1.2.2.toNat).2).1)).bind (fun r1=>
  if r1=true then
  (EU F ((gl ((0,0,[]):(Int×Int×(List Int))) l s1.2.2.toNat).1)).bind (fun r2=>
  if (!r2)=true then
  AH (σ:=((List Int)×Int)) (β:=(((List Int)×Int×Int) ⊕ ((List Int)×Int))) (fun s2=>
  if s2.2<((((gl ((0,0,[]):(Int×Int×(List Int))) l s1.2.2.toNat).2).2).length:Int) then
  if 0<=s2.2/\s2.2<((((gl ((0,0,[]):(Int×Int×(List Int))) l s1.2.2.toNat).2).2).length:Int) then
  (EN s2.1 (gl (0:Int) (((gl ((0,0,[]):(Int×Int×(List Int))) l s1.2.2.toNat).2).2) s2.2.toNat)).bind (fun r3=>
  some (Sum.inl ((r3,AG (s2.2+1)))))
  else none
  else some (Sum.inr (Sum.inl ((s2.1,AG (s1.2.1+((((gl ((0,0,[]):(Int×Int×(List Int))) l s1.2.2.toNat).2).2).length:Int)),AG (s1.2.2+1)))))) ((s1.1,0))
  else some (Sum.inl ((s1.1,s1.2.1,AG (s1.2.2+1)))))
  else some (Sum.inl ((s1.1,s1.2.1,AG (s1.2.2+1)))))
  else none
  else some (Sum.inr ((s1.1,s1.2.1))))
  (fun k (st:List Int×Int×Int)=>st.2.2=(k:Int)/\st.1.Pairwise (·< ·)/\(∀ y∈st.1,0<=y/\y<16384)/\∀ y,y∈st.1↔InF (l.take k) F y)
  (fun b=>b.1.Pairwise (·< ·)/\(∀ y∈b.1,0<=y/\y<16384)/\∀ y,y∈b.1↔InF l F y) l.length ?_ ?_ (s:=([],0,0)) ⟨rfl,List.Pairwise.nil,by simp,fun y=>by simp [InF,In]⟩
 ·obtain⟨b,e,h1,h2,h3⟩:=key
  exact⟨b.1,b.2,e,h1,h2,h3⟩
 ·rintro k ⟨out,n,kk⟩ hk ⟨e1,h1,h2,h3⟩
  simp only at e1 h1 h2 h3
  subst e1
  have hx:=B3 (d:=((0,0,[]):Se)) hk
  have e:=h.e _ hx
  have hs:=h.A27 hx
  left
  simp only[HM]
  rw[ab,ab,AF2 hF,AW]
  have skip:¬((gl ((0,0,[]):Se) l k).2.1∈F/\(gl ((0,0,[]):Se) l k).1∉F)->∀ y,y∈out↔InF (l.take (k+1)) F y:=by
   intro hn y
   rw[h3 y]
   constructor
   ·rintro⟨f,g,a1,a2⟩
    exact⟨f,g,(qK hk).2 (.inl a1),a2⟩
   ·rintro⟨f,g,a1,a2,a3⟩
    rcases (qK hk).1 a1 with a1|⟨rfl,rfl,_⟩
    ·exact⟨f,g,a1,a2,a3⟩
    ·exact absurd ⟨a2,a3⟩ hn
  by_cases g1:(gl ((0,0,[]):Se) l k).2.1∈F
  rotate_left
  ·rw[AE (by rw[P_ g1];simp),ah]
   exact⟨_,rfl,rfl,h1,h2,skip fun hh=>g1 hh.1⟩
  rw[AA (JR g1),AF2 hF,AW]
  by_cases g2:(gl ((0,0,[]):Se) l k).1∈F
  ·rw[AE (by rw[JR g2];simp),ah]
   exact⟨_,rfl,rfl,h1,h2,skip fun hh=>hh.2 g2⟩
  rw[AA (by rw[P_ g2];rfl)]
  generalize hX:gl ((0,0,[]):Se) l k=X at*
  have inner:=AK (β:=((List Int×Int×Int) ⊕ (List Int×Int))) (f:=fun s2:List Int×Int=>
   if s2.2<(X.2.2.length:Int) then
   if 0<=s2.2/\s2.2<(X.2.2.length:Int) then
   (EN s2.1 (gl (0:Int) X.2.2 s2.2.toNat)).bind (fun r3=>
   some (Sum.inl ((r3,AG (s2.2+1)))))
   else none
   else some (Sum.inr (Sum.inl ((s2.1,AG (n+(X.2.2.length:Int)),AG ((k:Int)+1))))))
   (fun j (st:List Int×Int)=>st.2=(j:Int)/\st.1.Pairwise (·< ·)/\(∀ y∈st.1,0<=y/\y<16384)/\∀ y,y∈st.1↔(y∈out\/y∈X.2.2.take j))
   (fun b=>∃ o,b=Sum.inl (o,AG (n+(X.2.2.length:Int)),(k:Int)+1)/\o.Pairwise (·< ·)/\(∀ y∈o,0<=y/\y<16384)/\∀ y,y∈o↔(y∈out\/y∈X.2.2)) X.2.2.length ?_ ?_ (s:=(out,0)) ⟨rfl,h1,h2,fun y=>by simp⟩
  ·obtain⟨b,e',o,rfl,q1,q2,q3⟩:=inner
   rw[e']
   refine⟨_,rfl,rfl,q1,q2,fun y=> ?_⟩
   rw[q3 y,h3 y]
   constructor
   ·rintro (⟨f,g,a1,a2⟩|a1)
    ·exact⟨f,g,(qK hk).2 (.inl a1),a2⟩
    ·exact⟨X.1,X.2.1,(qK hk).2 (.inr ⟨by rw[hX],by rw[hX],by rw[hX];exact a1⟩),g1,g2⟩
   ·rintro⟨f,g,a1,a2,a3⟩
    rcases (qK hk).1 a1 with a1|⟨rfl,rfl,a4⟩
    ·exact .inl ⟨f,g,a1,a2,a3⟩
    ·rw[hX] at a4;exact .inr a4
  ·rintro j ⟨o,jj⟩ hj ⟨e1,q1,q2,q3⟩
   simp only at e1 q1 q2 q3
   subst e1
   have ho:=s_ (n:=16384) q1 q2
   left
   simp only[HM]
   rw[ab,ab,AO0 q1 (by omega),AW,ah]
   refine⟨_,rfl,rfl,AUH q1,fun y hy=> ?_,fun y=> ?_⟩
   ·rcases jF.1 hy with rfl|hy
    ·exact e.2.2.2 _ (B3 hj)
    ·exact q2 y hy
   ·simp only
    rw[jF,q3 y,IY (d:=0) _ j hj,FG,GG]
    constructor
    ·rintro (a|a|a)
     ·exact .inr (.inr a)
     ·exact .inl a
     ·exact .inr (.inl a)
    ·rintro (a|a|a)
     ·exact .inr (.inl a)
     ·exact .inr (.inr a)
     ·exact .inl a
  ·rintro⟨o,jj⟩ ⟨e1,q1,q2,q3⟩
   simp only at e1 q1 q2 q3
   subst e1
   simp only
   rw[af,ah (e:=(k:Int)+1)]
   rw[VD] at q3
   exact⟨_,rfl,o,rfl,q1,q2,q3⟩
 ·rintro⟨out,n,kk⟩ ⟨e1,h1,h2,h3⟩
  simp only at e1 h1 h2 h3
  subst e1
  simp only
  rw[af]
  rw[VD] at h3
  exact⟨_,rfl,h1,h2,h3⟩
structure bE (r:Ro):Prop where
 ul:r.1.length=32
 rl:r.2.length=32
 z:∀ i:Nat,i<32->gl false r.1 i=false->gl 0#64 r.2 i=0#64
theorem bE.valid {r:Ro} (h:bE r):H0 r=some true:=by
 have h1:=h.ul
 have h2:=h.rl
 unfold H0
 rw[af,af]
 refine ZV r.1.length (fun k hk=> ?_) ?_
 ·rw[ab,ab,HM]
  cases hu:gl false r.1 k with
  |true=>rw[AE (by simp),ah]
  |false=>rw[AA (by simp),ab,AE (DQ (h.z k (by omega) hu)),ah]
 ·rw[af]
theorem bE.copy {r:Ro} (h:bE r):GU r=some r:=by
 have h1:=h.ul
 have h2:=h.rl
 unfold GU
 rw[AA (by simp;omega),AA (by simp;omega),dR,dR]
theorem bE.set {r:Ro} (h:bE r) (i:Nat) (w:BitVec 64):bE (r.1.set i true,r.2.set i w):=by
 refine⟨by rw[EG];exact h.ul,by rw[EG];exact h.rl,fun j hj hu=> ?_⟩
 simp only at hu ⊢
 have h1:=h.ul
 have h2:=h.rl
 by_cases hi:i<32
 ·rw[DS (by omega)] at hu ⊢
  split at hu
  ·cases hu
  ·rename_i hn;rw[AE hn];exact h.z j hj hu
 ·rw[ALL (by omega)] at hu ⊢
  exact h.z j hj hu
theorem bE.clear {r:Ro} (h:bE r) {i:Nat} (hi:i<32):bE (r.1.set i false,r.2.set i 0#64):=by
 refine⟨by rw[EG];exact h.ul,by rw[EG];exact h.rl,fun j hj hu=> ?_⟩
 simp only at hu ⊢
 have h1:=h.ul
 have h2:=h.rl
 rw[DS (by omega)] at hu ⊢
 split
 ·rfl
 ·rename_i hn;rw[AE hn] at hu;exact h.z j hj hu
theorem AUI {r:Ro} (h:bE r) {x:Int} (x0:1<=x) (x1:x<=32) (hu:gl false r.1 (x-1).toNat=true):K2 r x=some ((r.1.set (x-1).toNat false,r.2.set (x-1).toNat 0#64),0):=by
 have h1:=h.ul
 have h2:=h.rl
 unfold K2 zaG OO zaG
 rw[h.valid,AW,AE (by simp),af,af,ah,ab,AE (by rw[hu];simp),AW,AE (by simp),h.copy,AW,ab,ab]
def liv (u:List Bool):Nat->List Int
 |0=>[]
 |k+1=>liv u k++(if gl false u k=true then [(k:Int)+1] else [])
theorem qL (u:List Bool):∀ k,(liv u k).length<=k
 |0=>EH _
 |k+1=>by
  have:=qL u k
  rw[liv,PQ]
  split <;> simp only[Q5,SK] <;> omega
theorem wG {u:List Bool} {x:Int}:∀ {k},x∈liv u k↔∃ j:Nat,j<k/\gl false u j=true/\x=(j:Int)+1
 |0=>by simp [liv]
 |k+1=>by
  rw[liv,FG,wG]
  constructor
  ·rintro (⟨j,a,b,c⟩|a)
   ·exact⟨j,by omega,b,c⟩
   ·split at a
    ·rename_i hu
     exact⟨k,by omega,hu,GG.1 a⟩
    ·cases a
  ·rintro⟨j,a,b,c⟩
   by_cases hj:j=k
   ·subst hj;right;rw[AA b,c];exact GG.2 rfl
   ·exact .inl ⟨j,by omega,b,c⟩
theorem tA {r:Ro} (h:bE r):GW r=some (liv r.1 32):=by
 have h1:=h.ul
 unfold GW
 refine (AK (fun k (st:List Int×Int)=>st=(liv r.1 k,(k:Int))) (fun b=>b=liv r.1 32) r.1.length ?_ ?_ (s:=([],0)) rfl).elim fun b hb=>by rw[hb.1,hb.2]
 ·rintro k st hk rfl
  have:=qL r.1 k
  left
  simp only[HM]
  rw[ab,ab,ah,liv]
  split
  ·rw[AA (by simp only[Q5];omega)]
   exact⟨_,rfl,rfl⟩
  ·exact⟨_,rfl,by rw[FP];rfl⟩
 ·rintro st rfl
  simp only
  rw[af,h1]
  exact⟨_,rfl,rfl⟩
def AB4 (o:Option Int):Int:=o.getD (-1)
def fwd (b:Int):BitVec 64:=BitVec.ofInt 64 (b*2+1)
theorem wH (h0:0<=b) (h1:b<=16383):(fwd b).toNat=b.toNat*2+1:=by
 unfold fwd
 rw[jK]
 omega
theorem AF3 (h0:0<=b) (h1:b<=16383):hd (fwd b)=none:=by
 unfold hd
 rw[AA (by rw[wH h0 h1];omega)]
def AV (l:List AI):List Int:=l.map (·.1)
def NS (C:List Int) (fs:List Fr) (w:BitVec 64):Prop:=∀ j,j<64->w.getLsbD j=decide (j<fs.length/\(fr fs j).1∈C)
def Wn (C:List Int) (s:Sp) (x:BitVec 64):Prop:=x≠0#64/\(x.toNat:Int)<=s.2.1.length/\(fr s.2.2 (((x.toNat:Int)-1) / sz s.1)).1∈C
instance (C:List Int) (s:Sp) (x:BitVec 64):Decidable (Wn C s x):=by unfold Wn;infer_instance
theorem JH {x:BitVec 64} (h:x≠0#64):(x-1#64).toNat=x.toNat-1/\1<=x.toNat:=by
 have h1:x.toNat≠0:=fun he=>h (AB8 (by rw[he];rfl))
 have o1:(1#64).toNat=1:=rfl
 exact⟨by rw[wW (by rw[xC,o1];omega),o1],by omega⟩
def cpy (z:Int) (la:List Int) (oa:Int) (lb:List Int) (ob:Int):Nat->List (BitVec 64)->List (BitVec 64)
 |0,ws=>ws
 |k+1,ws=>(cpy z la oa lb ob k ws).set (AB4 (CM z lb (ob+k))).toNat (gl 0#64 (cpy z la oa lb ob k ws) (AB4 (CM z la (oa+k))).toNat)
theorem VT {z:Int} {la lb:List Int} {oa ob:Int}:∀ (k:Nat) (ws:List (BitVec 64)),(cpy z la oa lb ob k ws).length=ws.length
 |0,_=>rfl
 |k+1,ws=>by simp only[cpy,EG,VT k ws]
structure Cy (C:List Int) (s:Sp) (to:AI):Prop where
 vs:VS s
 fit:DB s to
 own:to.2.2.2.2=0->owned s.2.2 to.1=[]
 out:to.1∉C
 nn:∀ q∈C,0<=q
abbrev Z0 (s:Sp) (x:BitVec 64):BitVec 64:=gl 0#64 s.2.1 ((x.toNat:Int)-1).toNat
def wI (w:BitVec 64):Int×Int×Int×Bool×Int:=
 if w.toNat%2=1 then (if w.toNat / 2≥16384 then (0,0,0,false,12) else (0,0,((w.toNat / 2:Nat):Int),true,0))
 else match hd w with
  |some o=>(o.1,o.2,0,false,0)
  |none=>(0,0,0,false,12)
theorem qM (w:BitVec 64):EJ w=some (wI w):=by
 have hw:=w.isLt
 have e2:(w%2#64).toNat=w.toNat%2:=by rw[ABB];rfl
 have e2' :(w%2#64=1#64)↔w.toNat%2=1:=by
  rw[<-ABE,e2];rfl
 have d2:(w / 2#64).toNat=w.toNat / 2:=by rw[wZ];rfl
 have A25:(w / 256#64).toNat=w.toNat / 256:=by rw[wZ];rfl
 have A26:(w%256#64 / 2#64).toNat=w.toNat%256 / 2:=by rw[wZ,ABB];rfl
 unfold EJ zaY zaA wI
 rw[AA (by decide)]
 by_cases h1:w.toNat%2=1
 ·rw[AA (e2'.2 h1),AA (by decide),AA h1,d2,show (16384#64).toNat=16384 from rfl]
  split
  ·rfl
  ·rw[AA (by decide),ah]
 ·rw[AE (fun h=>h1 (e2'.1 h)),AE h1,AA (by decide),AA (by decide),AA (by decide),A25,A26,show (48#64).toNat=48 from rfl]
  unfold hd
  rw[AE h1]
  by_cases h2:w.toNat / 256>48
  ·rw[AA h2,af]
  rw[AE h2,ah (e:=((w.toNat%256 / 2:Nat):Int)),ah (e:=((w.toNat / 256:Nat):Int))]
  by_cases h3:((w.toNat%256 / 2:Nat):Int)>15
  ·rw[AA h3,af]
  rw[AE h3,ah (e:=(1:Int)+((w.toNat%256 / 2:Nat):Int))]
  by_cases h4:((w.toNat / 256:Nat):Int)<1+((w.toNat%256 / 2:Nat):Int)
  ·rw[AA h4,af]
  rw[AE h4,ah (e:=((w.toNat / 256:Nat):Int)-1),ah (e:=((w.toNat / 256:Nat):Int)-1-((w.toNat%256 / 2:Nat):Int))]
  by_cases h5:((w.toNat / 256:Nat):Int)-1-((w.toNat%256 / 2:Nat):Int)>32
  ·rw[AA h5,af]
  rw[AE h5,ab]
  simp only[A_,DG,and_true,lQ]
  omega
theorem SA {o:Int×Int} (h:hd w=some o):wI w=(o.1,o.2,0,false,0):=by
 unfold wI
 rw[AE,h]
 intro h1
 unfold hd at h
 rw[AA h1] at h
 cases h
theorem AF4 (h0:0<=b) (h1:b<=16383):wI (fwd b)=(0,0,b,true,0):=by
 unfold wI
 have:=wH h0 h1
 rw[ab,af]
 simp only[DG,and_true,lQ]
 omega
theorem AID (h0:0<=b) (h1:b<=16383):E9 b=some (fwd b,0):=by
 unfold E9 fwd
 rw[af,af,ah (e:=2*b),ah,tO]
inductive tB (C:List Int) (s:Sp) (to:AI) (x:BitVec 64):BitVec 64->Int->Sp->AI->List (Int×Int)->Prop
 |out (h:¬Wn C s x):tB C s to x x 0 s to []
 |gZ (h:Wn C s x) (h0:(wI (Z0 s x)).2.2.2.2=0) (h1:(wI (Z0 s x)).2.2.2.1=true):tB C s to x (BitVec.ofInt 64 (wI (Z0 s x)).2.2.1+1#64) 0 s to []
 |bad (h:Wn C s x) (h0:(wI (Z0 s x)).2.2.2.2≠0):tB C s to x 0#64 12 s to []
 |g_ (h:Wn C s x) {r d:Int} (hh:hd (Z0 s x)=some (r,d)) {la:List Int} (hl:Pa s.2.2 (((x.toNat:Int)-1) / sz s.1) la) (ha:CM (sz s.1) la (((x.toNat:Int)-1)%sz s.1+(r+d))=none):tB C s to x 0#64 12 s to []
 |full (h:Wn C s x) {r d:Int} (hh:hd (Z0 s x)=some (r,d)) {la:List Int} (hl:Pa s.2.2 (((x.toNat:Int)-1) / sz s.1) la) {e:Int} (ha:CM (sz s.1) la (((x.toNat:Int)-1)%sz s.1+(r+d))=some e)
   (hf:((C1 s.2.2).length:Int)<cl (sz s.1) (to.2.2.2.2+(1+r+d))-cl (sz s.1) to.2.2.2.2):tB C s to x 0#64 4 s to []
 |MP (h:Wn C s x) {r d:Int} (hh:hd (Z0 s x)=some (r,d)) {la:List Int} (hl:Pa s.2.2 (((x.toNat:Int)-1) / sz s.1) la) {e:Int} (ha:CM (sz s.1) la (((x.toNat:Int)-1)%sz s.1+(r+d))=some e)
   {u:Sp} {I2 :AI} {b:Int} {l l' :List Int} (hg:Grown s to (1+r+d) u I2 b l l'):
   tB C s to x (BitVec.ofInt 64 b+1#64) 0 (s.1,(cpy (sz s.1) la (((x.toNat:Int)-1)%sz s.1) l' to.2.2.2.2 (1+r+d).toNat s.2.1).set ((x.toNat:Int)-1).toNat (fwd b),u.2.2) I2 [((x.toNat:Int)-1,b)]
theorem EE (h:VS s) {i off:Int} (hp:Pa s.2.2 i l) (h0:0<=off) (ha:CM (sz s.1) l off=some a):(0<=a/\a<s.2.1.length)/\a / sz s.1∈l:=by
 have z:=BU s.1
 have hm:=YA z h0 ha
 obtain⟨g0,g1⟩:=hp.mem hm
 have e1:a=a / sz s.1*sz s.1+a%sz s.1:=by rw[tO];exact (AB9 a (sz s.1)).symm
 have m0:=oA a (show sz s.1≠0 by omega)
 have m1:=u4 a z
 have e2:0<=a / sz s.1*sz s.1:=ABM g0 (by omega)
 have e3:(a / sz s.1+1)*sz s.1<=s.2.2.length*sz s.1:=rE (by omega) (by omega)
 rw[<-h.w,dS] at e3
 exact⟨⟨by omega,by omega⟩,hm⟩
variable {e:Int}
theorem hB {z:Int} (hz:0<z) {q:Int} (h:CM z l q=some e) (p0:0<=p) (pq:p<=q):∃ y,CM z l p=some y:=by
 have:=AEP hz (by omega) h
 obtain⟨g,_,hg⟩:=LN hz (l:=l) (off:=p) p0 (by omega)
 exact⟨_,hg⟩
variable {u:Sp}
theorem Grown.AQB (hi:0<=i.2.2.2.2) (n0:1<=n) (g:Grown s i n u j b l l'):∀ x∈l',(fr u.2.2 x).1=i.1:=by
 intro x hx
 have h1:=(g.vs.owner g.path x hx).1
 rcases g.fit.2 with ⟨h2,_⟩|⟨_,_,h2,_⟩
 ·rw[g.words] at h2;omega
 ·rw[h1,h2,g.seq]
theorem Grown.AF5 (hi:0<=i.2.2.2.2) (n0:1<=n) (g:Grown s i n u j b l l') {k:Int} (k0:0<=k) (kn:k<n):
  ∃ y,CM (sz s.1) l' (i.2.2.2.2+k)=some y:=by
 have z:=BU s.1
 have hc:=J7 (n:=i.2.2.2.2+n) z
 rw[<-g.AI4] at hc
 obtain⟨g',_,hg⟩:=LN z (l:=l') (off:=i.2.2.2.2+k) (by omega) (by omega)
 exact⟨_,hg⟩
variable {la:List Int}
theorem Grown.AIE (h:VS s) (g:Grown s i n u j b l l') (hl:Pa s.2.2 f la) (h0:0<=(fr s.2.2 f).1) (h1:(fr s.2.2 f).1≠i.1):
  Pa u.2.2 f la/\∀ x∈la,fr u.2.2 x=fr s.2.2 x:=by
 have hx:∀ x∈la,fr u.2.2 x=fr s.2.2 x:=by
  intro x hx
  obtain⟨x0,x1⟩:=hl.mem hx
  have:=(h.owner hl x hx).1
  exact g.frs x x0 x1 (by omega) (by omega)
 refine⟨hl.gT g.len fun x hm=> ?_,hx⟩
 obtain⟨x0,x1⟩:=hl.mem hm
 rw[HS x0 (by rw[g.len];exact x1),HS x0 x1,hx x hm]
variable {t:Sp} {to:AI} {C:List Int}
theorem tB.cy (hc:Cy C s to) {x v:BitVec 64} {I2 :AI} {mm:List (Int×Int)} (h:tB C s to x v e t I2 mm):
  Cy C t I2 /\(∀ m,NS C s.2.2 m->NS C t.2.2 m)/\t.1=s.1/\t.2.1.length=s.2.1.length/\t.2.2.length=s.2.2.length/\I2.1=to.1/\mm.length<=1/\(∀ k:Int,0<=k->k<s.2.2.length->((fr t.2.2 k).1∈C↔(fr s.2.2 k).1∈C)):=by
 cases h with
 |out|gZ|bad|g_|full=>exact⟨hc,fun _ h=>h,rfl,rfl,rfl,rfl,by simp,fun _ _ _=>Iff.rfl⟩
 | @MP hw r d hh la hl e' ha u _ b l l' g=>
  have z:=BU s.1
  have lG:=hc.fit.1
  obtain⟨x0,x1,x2⟩:=id hw
  have e2:=(JH x0).2
  obtain⟨⟨r0,r1⟩,d0,d1⟩:=JN hh
  simp only at r0 r1 d0 d1
  generalize hA:(x.toNat:Int)-1=A at*
  have hq:=hc.nn _ x2
  have CW:(fr s.2.2 (A / sz s.1)).1≠to.1:=fun he=>hc.out (he ▸ x2)
  obtain⟨pu,pfr⟩:=g.AIE hc.vs hl hq CW
  have MR:=g.AQB lG.2.2.2.2.1 (by omega)
  have hvu:VS (s.1,s.2.1,u.2.2):=by have:=g.vs;rw[<-g.sh,←g.ws];exact this
  have MO:∀ k:Int,0<=k->k<s.2.2.length->((fr u.2.2 k).1∈C↔(fr s.2.2 k).1∈C):=by
   intro k k0 k1
   constructor
   ·intro hk
    have h1:(fr u.2.2 k).1≠to.1:=fun he=>hc.out (he ▸ hk)
    have h2:=hc.nn _ hk
    have h3:k∈owned u.2.2 (fr u.2.2 k).1:=B6.2 ⟨⟨k0,by rw[g.len];exact k1⟩,rfl⟩
    rw[g.oth _ h1 (by omega)] at h3
    rw[(B6.1 h3).2];exact hk
   ·intro hk
    have h1:(fr s.2.2 k).1≠to.1:=fun he=>hc.out (he ▸ hk)
    have h2:=hc.nn _ hk
    rw[g.frs k k0 k1 (by omega) h1];exact hk
  have hvc:∀ k:Nat,(k:Int)<=1+r+d->VS (s.1,cpy (sz s.1) la (A%sz s.1) l' to.2.2.2.2 k s.2.1,u.2.2):=by
   intro k
   induction k with
   |zero=>intro _;exact hvu
   |succ k ih=>
    intro hk
    have h4:=ih (by omega)
    obtain⟨p,hp⟩:=g.AF5 lG.2.2.2.2.1 (by omega) (k:=(k:Int)) (by omega) (by omega)
    obtain⟨⟨p0,p1⟩,p2⟩:=EE h4 g.path (by omega) hp
    simp only at p2
    simp only[cpy]
    rw[hp]
    exact h4.word p0 (by simp only;rw[MR _ p2];omega) _
  have hv1:=hvc (1+r+d).toNat (by omega)
  have hAm:A / sz s.1∈la:=by
   cases la with
   |nil=>rw[Pa] at hl;have:=EP hc.vs (a:=A) (by omega) (by omega);omega
   |cons f r' =>obtain⟨hf,_⟩:=hl;rw[hf];simp
  have hv2:=hv1.word (x:=A) (by omega) (by simp only;rw[pfr _ hAm];omega) (fwd b)
  simp only at hv2
  refine⟨⟨hv2, ?_, ?_,by rw[g.seq];exact hc.out,hc.nn⟩, ?_,rfl, ?_,g.len,g.seq,by simp,MO⟩
  ·have:=DB.words (s:=u) (ws:=(cpy (sz s.1) la (A%sz s.1) l' to.2.2.2.2 (1+r+d).toNat s.2.1).set A.toNat (fwd b)) (by rw[EG,VT,g.ws]) g.fit
   rw[g.sh] at this
   exact this
  ·intro h0
   rw[g.words] at h0;omega
  ·intro m hm j hj
   rw[hm j hj,jL]
   simp only[g.len]
   constructor
   ·rintro⟨h1,h2⟩;exact⟨h1,(MO j (by omega) (by omega)).2 h2⟩
   ·rintro⟨h1,h2⟩;exact⟨h1,(MO j (by omega) (by omega)).1 h2⟩
  ·simp only[EG,VT]
theorem qN {d x:α} {xs:List α} {j:Nat} (h:k≠j):gl d (xs.set j x) k=gl d xs k:=by
 by_cases hj:j<xs.length
 ·rw[DS hj,AE h]
 ·rw[ALL (by omega)]
theorem tC {z:Int} {la:List Int} {oa:Int} {lb:List Int} {ob j:Int} (j0:0<=j):∀ {k:Nat} {ws:List (BitVec 64)},(∀ i:Nat,i<k->∃ y,CM z lb (ob+i)=some y/\0<=y/\y≠j)->gl 0#64 (cpy z la oa lb ob k ws) j.toNat=gl 0#64 ws j.toNat
 |0,_,_=>rfl
 |k+1,ws,h=>by
  obtain⟨y,h1,h2,h3⟩:=h k (by omega)
  simp only[cpy]
  rw[h1,qN (by show j.toNat≠y.toNat;omega),tC j0 fun i hi=>h i (by omega)]
theorem AUJ {z:Int} (hz:0<z) {la:List Int} {oa:Int} {lb:List Int} {ob:Int} (HN:lb.Nodup) (ob0:0<=ob):∀ {k:Nat} {ws:List (BitVec 64)},(∀ i:Nat,i<k->∃ y x,CM z lb (ob+i)=some y/\(0<=y/\y<ws.length)/\CM z la (oa+i)=some x/\0<=x/\∀ i' :Nat,i' <k->CM z lb (ob+i')≠some x)→
  ∀ i:Nat,i<k->∀ y x,CM z lb (ob+i)=some y->CM z la (oa+i)=some x->gl 0#64 (cpy z la oa lb ob k ws) y.toNat=gl 0#64 ws x.toNat
 |0,_,_,i,hi,_,_,_,_=>by omega
 |k+1,ws,h,i,hi,y,x,hy,hx=>by
  obtain⟨y',x',h1,⟨h2,h3⟩,h4,h5,h6⟩:=h k (by omega)
  simp only[cpy]
  rw[h1,h4,show AB4 (some y')=y' from rfl,show AB4 (some x')=x' from rfl]
  by_cases iO:i=k
  ·subst iO
   rw[h1] at hy;rw[h4] at hx
   obtain rfl:=HO hy
   obtain rfl:=HO hx
   rw[DS (by rw[VT];omega),AA rfl]
   refine tC h5 fun i' KM => ?_
   obtain⟨y2,x2,g1,⟨g2,g3⟩,g4,g5,g6⟩:=h i' (by omega)
   exact⟨y2,g1,g2,fun he=>h6 i' (by omega) (he ▸ g1)⟩
  ·obtain⟨y2,x2,g1,⟨g2,g3⟩,g4,g5,g6⟩:=h i hi
   rw[hy] at g1
   obtain rfl:=HO g1
   have CW:y≠y' :=by
    intro he
    subst he
    have:=F9 hz HN (by omega) (by omega) hy h1
    omega
   rw[qN (by omega)]
   refine AUJ hz HN ob0 (fun i' KM => ?_) i (by omega) y x hy hx
   obtain⟨y3,x3,k1,k2,k3,k4,k5⟩:=h i' (by omega)
   exact⟨y3,x3,k1,k2,k3,k4,fun i'' A89 =>k5 i'' (by omega)⟩
theorem hO (hc:Cy C s to) {x:BitVec 64} (hw:Wn C s x) {d:Int} (hh:hd (Z0 s x)=some (r,d)) (hl:Pa s.2.2 (((x.toNat:Int)-1) / sz s.1) la) (ha:CM (sz s.1) la (((x.toNat:Int)-1)%sz s.1+(r+d))=some e)
  {I2 :AI} (hg:Grown s to (1+r+d) u I2 b l l') (hQ:ws=(cpy (sz s.1) la (((x.toNat:Int)-1)%sz s.1) l' to.2.2.2.2 (1+r+d).toNat s.2.1).set ((x.toNat:Int)-1).toNat (fwd b)):
  (∀ j:Int,0<=j->j≠(x.toNat:Int)-1->(∀ i,0<=i->i<1+r+d->CM (sz s.1) l' (to.2.2.2.2+i)≠some j)->gl 0#64 ws j.toNat=gl 0#64 s.2.1 j.toNat)∧
  (∀ i,0<=i->i<1+r+d->∀ y q,CM (sz s.1) l' (to.2.2.2.2+i)=some y->CM (sz s.1) la (((x.toNat:Int)-1)%sz s.1+i)=some q->gl 0#64 ws y.toNat=gl 0#64 s.2.1 q.toNat)∧
  gl 0#64 ws ((x.toNat:Int)-1).toNat=fwd b∧
  (∀ y i,CM (sz s.1) l' i=some y->0<=i->(fr s.2.2 (y / sz s.1)).1∉C):=by
 have z:=BU s.1
 have lG:=hc.fit.1
 obtain⟨x0,x1,x2⟩:=id hw
 have e2:=(JH x0).2
 obtain⟨⟨r0,r1⟩,d0,d1⟩:=JN hh
 simp only at r0 r1 d0 d1
 generalize hA:(x.toNat:Int)-1=A at*
 have hq:=hc.nn _ x2
 have CW:(fr s.2.2 (A / sz s.1)).1≠to.1:=fun he=>hc.out (he ▸ x2)
 obtain⟨pu,pfr⟩:=hg.AIE hc.vs hl hq CW
 have MR:=hg.AQB lG.2.2.2.2.1 (by omega)
 have hvu:VS (s.1,s.2.1,u.2.2):=by have:=hg.vs;rw[<-hg.sh,←hg.ws];exact this
 have m0:=oA A (show sz s.1≠0 by omega)
 have ASB:∀ y i,CM (sz s.1) l' i=some y->0<=i->(fr s.2.2 (y / sz s.1)).1∉C:=by
  intro y i hy i0 hC
  obtain⟨_,hm⟩:=EE hvu hg.path i0 hy
  simp only at hm
  have h1:=MR _ hm
  obtain⟨f0,f1⟩:=hg.path.mem hm
  rw[hg.len] at f1
  have h3:=hc.nn _ hC
  by_cases h4:(fr s.2.2 (y / sz s.1)).1=to.1
  ·exact hc.out (h4 ▸ hC)
  ·have:=hg.frs _ f0 f1 (by omega) h4
   rw[this] at h1;exact h4 h1
 have hla:∀ q i,CM (sz s.1) la i=some q->0<=i->(fr s.2.2 (q / sz s.1)).1∈C/\0<=q:=by
  intro q i hy i0
  obtain⟨hr,hm⟩:=EE hc.vs hl i0 hy
  rw[(hc.vs.owner hl _ hm).1];exact⟨x2,hr.1⟩
 have AUK:∀ i:Nat,(i:Int)<1+r+d->∃ y,CM (sz s.1) l' (to.2.2.2.2+i)=some y/\0<=y/\y<s.2.1.length:=by
  intro i hi
  obtain⟨y,hy⟩:=hg.AF5 lG.2.2.2.2.1 (by omega) (k:=(i:Int)) (by omega) hi
  obtain⟨⟨y0,y1⟩,_⟩:=EE hvu hg.path (by omega) hy
  exact⟨y,hy,y0,y1⟩
 have HN:=hg.path.nodup
 have hAC:∀ i,0<=i->CM (sz s.1) l' i≠some A:=fun i i0 hi=>ASB _ _ hi i0 x2
 subst hQ
 refine⟨fun j j0 j1 j2=> ?_,fun i i0 i1 y q hy SR => ?_, ?_,ASB⟩
 ·rw[qN (by omega)]
  refine tC j0 fun i hi=> ?_
  obtain⟨y,g1,g2,g3⟩:=AUK i (by omega)
  exact⟨y,g1,g2,fun he=>j2 i (by omega) (by omega) (he ▸ g1)⟩
 ·have hyA:y≠A:=fun he=>hAC _ (by omega) (he ▸ hy)
  obtain⟨⟨y0,y1⟩,_⟩:=EE hvu hg.path (by omega) hy
  rw[qN (by omega)]
  have hi:((i.toNat:Nat):Int)=i:=by omega
  refine AUJ z HN lG.2.2.2.2.1 (fun i' KM => ?_) i.toNat (by omega) y q (by rw[hi];exact hy) (by rw[hi];exact SR)
  obtain⟨y',g1,g2,g3⟩:=AUK i' (by omega)
  obtain⟨q',k1⟩:=hB z ha (p:=A%sz s.1+i') (by omega) (by omega)
  obtain⟨k2,k3⟩:=hla _ _ k1 (by omega)
  exact⟨y',q',g1,⟨g2,g3⟩,k1,k3,fun i'' _ he=>ASB _ _ he (by omega) k2⟩
 ·rw[DS (by rw[VT];omega),AA rfl]
theorem W1 (h:VS s) {l:List AI} (hl:l.length<=1000000) (x:BitVec 64):CY s l x=some (decide (Wn (AV l) s x)):=by
 have W7:=VS.IK h
 have hn:=h.n.2
 have z:=BU s.1
 unfold CY zar zm
 by_cases hx:x=0#64
 ·rw[AA hx,P_ (fun hh:Wn (AV l) s x=>hh.1 hx)]
 obtain⟨e1,e2⟩:=JH hx
 have e3:(BitVec.ofInt 64 ((s.2.1.length:Nat):Int)).toNat=s.2.1.length:=by
  rw[jK];omega
 rw[AE hx,e3,e1]
 by_cases lU :x.toNat>s.2.1.length
 ·rw[AA lU,P_ (fun hh:Wn (AV l) s x=>by have:=hh.2.1;omega)]
 obtain⟨f0,f1⟩:=EP h (a:=(x.toNat:Int)-1) (by omega) (by omega)
 have e4:((x.toNat-1:Nat):Int)=(x.toNat:Int)-1:=by omega
 rw[AE lU,AA trivial,e4,ah (e:=(x.toNat:Int)-1),JK h.sh,AA ⟨f0,f1⟩]
 have hf:(gl ((0,0,0):Fr) s.2.2 (((x.toNat:Int)-1) / sz s.1).toNat)=fr s.2.2 (((x.toNat:Int)-1) / sz s.1):=rfl
 rw[hf]
 have hwn:Wn (AV l) s x↔(fr s.2.2 (((x.toNat:Int)-1) / sz s.1)).1∈AV l:=⟨fun hh=>hh.2.2,fun hh=>⟨hx,by omega,hh⟩⟩
 have ASQ:∀ k,k<l.length->gl 0 (AV l) k=(gl ((0,0,0,0,0):AI) l k).1:=by
  intro k hk
  rw[DJ (by unfold AV;rw[V6];exact hk),DJ hk]
  unfold AV
  rw[rH]
 have Q8:(AV l).length=l.length:=by unfold AV;rw[V6]
 generalize (fr s.2.2 (((x.toNat:Int)-1) / sz s.1)).1=q at*
 obtain⟨h1,h2⟩:=sZ (β:=Bool) (ys:=AV l) (v:=q) (bad:=true) (r:=false) (f:=fun s1=>
  if s1<(l.length:Int) then
  if 0<=s1/\s1<(l.length:Int) then
  if q=((gl ((0,0,0,0,0):AI) l s1.toNat).1) then
  some (Sum.inr (true))
  else some (Sum.inl (AG (s1+1)))
  else none
  else some (Sum.inr (false))) (fun k hk=>by
   simp only[HM]
   rw[ab,ab,ah,ASQ k (by omega)]
   by_cases he:q=(gl ((0,0,0,0,0):AI) l k).1
   ·rw[AA he,AA he.symm]
   ·rw[AE he,AE (fun h=>he h.symm)]) (fun _=>by
   rw[af])
 by_cases hq:q∈AV l
 ·rw[JR (hwn.2 hq)];exact h1 hq
 ·rw[P_ (fun hh=>hq (hwn.1 hh))];exact h2 hq
abbrev Wk:Type:=Sp×List AI×AI×List (Int×Int)×Int
theorem jG {w:Wk} (h:w.2.2.2.2≠0) (x:BitVec 64):B9 w x=some (x,w):=by
 unfold B9 zi zm
 rw[AA h]
variable {mv:List (Int×Int)}
theorem qO {l:List AI} (lE:l.length<=1000000) (hc:Cy (AV l) s to) (hmv:mv.length<=1000000) (x:BitVec 64):
  ∃ v v' e t I2 mm,tB (AV l) s to x v e t I2 mm/\B9 ((s,l,to,mv,0):Wk) x=some (v',((t,l,I2,mv++mm,e):Wk))/\(e=0->v' =v):=by
 have W7:=VS.IK hc.vs
 have hn:=hc.vs.n.2
 have z:=BU s.1
 obtain⟨z1,z2⟩:=MF hc.vs.sh
 have lG:=hc.fit.1
 unfold B9 zi zm
 rw[AE (by simp)]
 simp only
 rw[W1 hc.vs lE,AW]
 by_cases hw:Wn (AV l) s x
 rotate_left
 ·rw[P_ hw,AA (show (!false)=true from rfl)]
  exact⟨x,x,0,s,to,[],.out hw,by rw[FP],fun _=>rfl⟩
 rw[JR hw]
 obtain⟨x0,x1,x2⟩:=id hw
 obtain⟨e1,e2⟩:=JH x0
 have e4:((x.toNat-1:Nat):Int)=(x.toNat:Int)-1:=by omega
 rw[AE (show ¬(!true)=true by decide),e1,e4,ah (e:=(x.toNat:Int)-1)]
 generalize hA:(x.toNat:Int)-1=A at x2
 have A0:0<=A:=by omega
 have A1:A<s.2.1.length:=by omega
 rw[AA ⟨A0,A1⟩]
 have hA' :Z0 s x=gl 0#64 s.2.1 A.toNat:=by rw[<-hA]
 rw[qM,AW]
 obtain⟨f0,f1⟩:=EP hc.vs A0 A1
 obtain⟨la,hl⟩:=hc.vs.acy (A / sz s.1) f0 f1
 have m0:=oA A (show sz s.1≠0 by omega)
 have hq:=hc.nn _ x2
 have AO2:=bW hc.vs A0 A1 (by omega) (k:=0) (by omega) (by omega) hl
 rw[b7] at AO2
 have A7B:∃ y,CM (sz s.1) la (A%sz s.1)=some y:=by
  cases la with
  |nil=>rw[Pa] at hl;omega
  |cons f r' =>exact⟨_,by rw[CM,AA (u4 A z)]⟩
 obtain⟨y0,hy0⟩:=A7B
 rw[hy0] at AO2
 have hLk:∀ o:Int×Int,hd (gl 0#64 s.2.1 A.toNat)=some o->BD s A=some (match CM (sz s.1) la (A%sz s.1+(o.1+o.2)) with|none=>(0,0,2)|some _=>(o.1,o.2,0)):=by
  intro o ho
  obtain⟨⟨r0,r1⟩,d0,d1⟩:=JN ho
  unfold BD
  rw[AO2,AW,AE (by simp [VR]),AA ⟨A0,A1⟩,qM,AW,SA ho,AE (by simp),AE (by simp),AB (by simp only;omega) (by simp only;omega),bW hc.vs A0 A1 (by omega) (k:=o.1+o.2) (by omega) (by omega) hl,AW]
  cases CM (sz s.1) la (A%sz s.1+(o.1+o.2)) with
  |none=>rw[AA (by simp [VR])]
  |some y=>rw[AE (by simp [VR])]
 cases hh:hd (gl 0#64 s.2.1 A.toNat) with
 |none=>
  have dH:wI (gl 0#64 s.2.1 A.toNat)=(0,0,0,false,12)\/∃ b,wI (gl 0#64 s.2.1 A.toNat)=(0,0,b,true,0):=by
   unfold wI
   rw[hh]
   split
   ·split
    ·exact .inl rfl
    ·exact .inr ⟨_,rfl⟩
   ·exact .inl rfl
  rcases dH with hb|⟨b,hb⟩
  ·rw[hb,AE (by simp)]
   have:BD s A=some (0,0,12):=by
    unfold BD
    rw[AO2,AW,AE (by simp [VR]),AA ⟨A0,A1⟩,qM,AW,hb,AA (by simp)]
   rw[this,AW,AA (by simp)]
   exact⟨0#64,x,12,s,to,[],.bad hw (by rw[hA',hb];simp),by rw[FP],fun h=>by cases h⟩
  ·rw[hb,AA rfl,AA rfl]
   have UB :0<=b/\b<=16383:=by
    unfold wI at hb
    rw[hh] at hb
    split at hb
    ·split at hb
     ·simp at hb
     ·simp only[DG,and_true,lQ] at hb
      omega
    ·simp at hb
   refine⟨_,_,0,s,to,[],.gZ hw (by rw[hA',hb]) (by rw[hA',hb]),by rw[FP],fun _=> ?_⟩
   rw[hA',hb]
   simp only
   rw[ah]
   exact BitVec.ofInt_add b 1
 |some o=>
  obtain⟨r,d⟩:=o
  obtain⟨⟨r0,r1⟩,d0,d1⟩:=JN hh
  simp only at r0 r1 d0 d1
  rw[SA hh,AA rfl,AE (by simp),hLk _ hh]
  simp only
  cases had:CM (sz s.1) la (A%sz s.1+(r+d)) with
  |none=>
   simp only
   rw[AW,AA (by simp)]
   exact⟨0#64,x,12,s,to,[],.g_ hw (by rw[hA'];exact hh) (by rw[hA];exact hl) (by rw[hA];exact had),by rw[FP],fun h=>by cases h⟩
  |some e=>
   simp only
   rw[AW,AE (by simp)]
   simp only
   rw[ah (e:=1+r),ah (e:=1+r+d),ah (e:=r+d)]
   rcases AEU hc.vs hc.fit hc.own (n:=1+r+d) (by omega) (by omega) with ⟨g1,g2⟩|⟨g1,u,I2,b,l1,l',g2,g⟩
   ·rw[g2,AW,AA (by simp)]
    exact⟨0#64,x,4,s,to,[],.full hw (by rw[hA'];exact hh) (by rw[hA];exact hl) (by rw[hA];exact had) g1,by rw[FP],fun h=>by cases h⟩
   ·rw[g2,AW,AE (by simp)]
    simp only[g.ws]
    obtain⟨pu,pfr⟩:=g.AIE hc.vs hl hq (fun he=>hc.out (he ▸ x2))
    have MR:=g.AQB lG.2.2.2.2.1 (by omega)
    have XU:=g.sh
    have hb:=EE (s:=u) g.vs g.path lG.2.2.2.2.1 (by rw[XU];exact g.FZ)
    rw[g.ws] at hb
    have hAm:A / sz s.1∈la:=by
     cases la with
     |nil=>rw[Pa] at hl;omega
     |cons f r' =>obtain⟨hf,_⟩:=hl;rw[hf];simp
    have hvu:VS (s.1,s.2.1,u.2.2):=by have:=g.vs;rw[<-XU,←g.ws];exact this
    have hb2:(fr u.2.2 (b / sz s.1)).1=to.1:=MR _ (by rw[<-XU];exact hb.2)
    have hbz:b%sz s.1+0=b%sz s.1:=b7 _
    obtain⟨lb,q1,_,q2⟩:=KF z g.path lG.2.2.2.2.1 g.FZ (YT 0)
    have key:∃ bb,AH (σ:=Int×List (BitVec 64)) (β:=BitVec 64×Wk) (fun s1=>
      if s1.1<=r+d then
      (AX (s.1,s1.2,u.2.2) A s1.1).bind (fun r5=>
      (AX (s.1,s1.2,u.2.2) b s1.1).bind (fun r6=>
      if 0<=r5.1/\r5.1<(s1.2.length:Int) then
      if 0<=r6.1/\r6.1<(s1.2.length:Int) then
      some (Sum.inl ((AG (s1.1+1),s1.2.set r6.1.toNat (gl (0#64:(BitVec 64)) s1.2 r5.1.toNat))))
      else none
      else none))
      else Option.map Sum.inr ((E9 b).bind (fun r7=>
      if 0<=A/\A<(s1.2.length:Int) then
      if (mv.length+([(A,b)]:List (Int×Int)).length)*16<=140737488355328 then
      some ((BitVec.ofInt 64 (AG (b+1)),((s.1,s1.2.set A.toNat r7.1,u.2.2),l,I2,mv++([(A,b)]:List (Int×Int)),(0:Int))))
      else none
      else none))) ((0,s.2.1))=some bb/\bb=(BitVec.ofInt 64 b+1#64,(((s.1,(cpy (sz s.1) la (A%sz s.1) l' to.2.2.2.2 (1+r+d).toNat s.2.1).set A.toNat (fwd b),u.2.2),l,I2,mv++ [(A,b)],0):Wk)):=by
     refine AK (fun k (st:Int×List (BitVec 64))=>st.1=(k:Int)/\(k:Int)<=1+r+d/\st.2=cpy (sz s.1) la (A%sz s.1) l' to.2.2.2.2 k s.2.1/\VS (s.1,st.2,u.2.2)) _ (1+r+d).toNat ?_ ?_ ⟨rfl,by omega,rfl,hvu⟩
     ·rintro k ⟨i,ws⟩ hk ⟨h1,h2,h3,h4⟩
      simp only at h1 h3 h4 ⊢
      subst h1
      have hlen:ws.length=s.2.1.length:=by rw[h3,VT]
      obtain⟨p,hp⟩:=g.AF5 lG.2.2.2.2.1 (by omega) (k:=(k:Int)) (by omega) (by omega)
      obtain⟨q,SR⟩:=hB z had (p:=A%sz s.1+k) (by omega) (by omega)
      obtain⟨⟨p0,p1⟩,p2⟩:=EE h4 g.path (by omega) hp
      obtain⟨⟨q0,q1'⟩,q2'⟩:=EE h4 pu (by omega) SR
      simp only at p1 q1' p2
      have go1:=bW h4 (a:=A) (k:=(k:Int)) A0 (by simp only;omega) (by simp only;rw[pfr _ hAm];omega) (by omega) (by omega) pu
      simp only at go1
      rw[SR,show VR (some q)=(q,0) from rfl] at go1
      obtain⟨lk,r1',_,r2'⟩:=KF z g.path lG.2.2.2.2.1 g.FZ (k:=(k:Int)) (by omega)
      have go2:=bW h4 (a:=b) (k:=(k:Int)) hb.1.1 (by simp only;omega) (by simp only;rw[hb2];omega) (by omega) (by omega) r1'
      simp only at go2
      rw[r2',hp,show VR (some p)=(p,0) from rfl] at go2
      rw[ab,go1,AW,go2,AW]
      simp only
      rw[AA (show 0<=q/\q<(ws.length:Int) from ⟨q0,q1'⟩),AA (show 0<=p/\p<(ws.length:Int) from ⟨p0,p1⟩),ah (e:=(k:Int)+1)]
      refine .inl ⟨_,rfl,by simp only;omega,by omega, ?_, ?_⟩
      ·simp only[cpy]
       rw[hp,SR,←h3];rfl
      ·exact h4.word p0 (by simp only;rw[MR _ p2];omega) _
     ·rintro⟨i,ws⟩ ⟨h1,h2,h3,h4⟩
      simp only at h1 h3 h4 ⊢
      have hlen:ws.length=s.2.1.length:=by rw[h3,VT]
      rw[af,AID hb.1.1 (by omega),AW,AA ⟨A0,by omega⟩,AA (by simp only[Q5];omega)]
      refine⟨_,rfl, ?_⟩
      rw[h3,ah (e:=b+1)]
      congr 1
      exact BitVec.ofInt_add b 1
    obtain⟨bb,k1,rfl⟩:=key
    refine⟨_,_,0,_,_,_,.MP hw (by rw[hA'];exact hh) (by rw[hA];exact hl) (by rw[hA];exact had) g, ?_,fun _=>rfl⟩
    rw[hA]
    exact k1
def TA:Int->List (Int×Int)->Int->Int×Int->Prop
 |_,[],_,_=>False
 |a,o::r,p,x=>(p=a/\x=o)\/TA (a+(1+o.1+o.2)) r p x
theorem DK.ta {z:Int} {ws:List (BitVec 64)} {l:List Int} {W:Int}:∀ {os:List (Int×Int)} {a p:Int} {x:Int×Int},DK z ws l a os W->TA a os p x→
  ((0<=x.1/\x.1<=15)/\(0<=x.2/\x.2<=32))/\(∃ y,CM z l p=some y/\gl 0#64 ws y.toNat=Y9 x.1 x.2)/\a<=p/\p+(1+x.1+x.2)<=W
 | [],_,_,_,_,h=>h.elim
 |o::r,a,p,x,h,hx=>by
  obtain⟨h1,h2,h3⟩:=h
  rcases hx with ⟨rfl,rfl⟩|hx
  ·exact⟨h1,h2,YT _,h3.le⟩
  ·obtain⟨i1,i2,i3,i4⟩:=h3.ta hx
   exact⟨i1,i2,by omega,i4⟩
theorem DK.apart {z:Int} {ws:List (BitVec 64)} {l:List Int} {W:Int}:∀ {os:List (Int×Int)} {a p p' :Int} {x x' :Int×Int},DK z ws l a os W->TA a os p x->TA a os p' x' →
  (p=p' /\x=x')\/p+(1+x.1+x.2)<=p' \/p' +(1+x'.1+x'.2)<=p
 | [],_,_,_,_,_,_,h,_=>h.elim
 |o::r,a,p,p',x,x',h,hx,hx' =>by
  obtain⟨h1,h2,h3⟩:=h
  rcases hx with ⟨rfl,rfl⟩|hx <;> rcases hx' with ⟨rfl,rfl⟩|hx'
  ·exact .inl ⟨rfl,rfl⟩
  ·exact .inr (.inl (h3.ta hx').2.2.1)
  ·exact .inr (.inr (h3.ta hx).2.2.1)
  ·exact h3.apart hx hx'
theorem DK.fn {z:Int} {ws:List (BitVec 64)} {l:List Int} {W:Int}:∀ {os rC :List (Int×Int)} {a:Int},DK z ws l a os W->DK z ws l a rC W->os=rC
 | [],[],_,_,_=>rfl
 | [],o::r,a,h,h' =>by
  obtain⟨h1,_,h3⟩:=h'
  have:=h3.le
  rw[DK] at h;omega
 |o::r,[],a,h',h=>by
  obtain⟨h1,_,h3⟩:=h'
  have:=h3.le
  rw[DK] at h;omega
 |o::r,o' ::r',a,h,h' =>by
  obtain⟨⟨⟨a0,a1⟩,b0,b1⟩,⟨y,h2,h3⟩,h4⟩:=h
  obtain⟨⟨⟨a0',a1'⟩,b0',b1'⟩,⟨y',h2',h3'⟩,h4'⟩:=h'
  rw[h2] at h2'
  obtain rfl:=HO h2'
  rw[h3] at h3'
  have e1:=nX a0 a1 b0 b1
  rw[h3',nX a0' a1' b0' b1'] at e1
  have e2:o' =o:=HO e1
  subst e2
  rw[h4.fn h4']
theorem TA.snoc {z:Int} {ws:List (BitVec 64)} {l:List Int} {W:Int} {x y:Int×Int} {p:Int}:∀ {os:List (Int×Int)} {a:Int},DK z ws l a os W->(TA a (os++ [x]) p y↔TA a os p y\/(p=W/\y=x))
 | [],a,h=>by
  rw[DK] at h;subst h
  simp [TA]
 |o::r,a,h=>by
  rw[w8]
  simp only[TA]
  rw[TA.snoc h.2.2]
  constructor
  ·rintro (h|h|h)
   ·exact .inl (.inl h)
   ·exact .inl (.inr h)
   ·exact .inr h
  ·rintro ((h|h)|h)
   ·exact .inl h
   ·exact .inr (.inl h)
   ·exact .inr (.inr h)
structure OB (s:Sp) (i:AI) (l:List Int) (os:List (Int×Int)) (p a:Int) (x:Int×Int):Prop where
 has:Has s i l
 Q2:DK (sz s.1) s.2.1 l 0 os i.2.2.2.2
 ta:TA 0 os p x
 FZ:CM (sz s.1) l p=some a
def Obj (s:Sp) (i:AI) (p a:Int) (x:Int×Int):Prop:=∃ l os,OB s i l os p a x
theorem CH (h:VS s) (hf:DB s i) (hl:Has s i l) (p0:0<=p) (hy:CM (sz s.1) l p=some y):
  (0<=y/\y<s.2.1.length)/\y / sz s.1∈l/\(0<=y / sz s.1/\y / sz s.1<s.2.2.length)/\(fr s.2.2 (y / sz s.1)).1=i.1/\(fr s.2.2 (y / sz s.1)).2.1=i.2.1*4294967296+i.1:=by
 rcases hl with ⟨_,rfl⟩|⟨hw,hp⟩
 ·cases hy
 ·obtain⟨h1,h2⟩:=EE h hp p0 hy
  have h3:=h.owner hp _ h2
  rcases hf.2 with ⟨hw',_⟩|⟨_,_,f1,f2,_⟩
  ·exact absurd hw' hw
  ·exact⟨h1,h2,hp.mem h2,by rw[h3.1,f1],by rw[h3.2,f2]⟩
theorem tD (h:VS s) (hf:DB s i) (hl:Has s i l) (p0:0<=p) (p1:p<i.2.2.2.2):∃ y,CM (sz s.1) l p=some y:=by
 have z:=BU s.1
 obtain⟨l',h1,h2,_⟩:=hf.has h
 obtain rfl:=K_ hl h1
 have hc:=J7 (n:=i.2.2.2.2) z
 rw[<-h2] at hc
 obtain⟨g,_,hg⟩:=LN z (l:=l) (off:=p) p0 (by omega)
 exact⟨_,hg⟩
theorem YP (hl:Has s i l):l.Nodup:=by
 rcases hl with ⟨_,rfl⟩|⟨_,hp⟩
 ·exact dP
 ·exact hp.nodup
variable {x:Int×Int}
theorem OB.IA (h:OB s i l os p a x):
  ((0<=x.1/\x.1<=15)/\(0<=x.2/\x.2<=32))/\gl 0#64 s.2.1 a.toNat=Y9 x.1 x.2/\0<=p/\p+(1+x.1+x.2)<=i.2.2.2.2:=by
 obtain⟨h1,⟨y,h2,h3⟩,h4,h5⟩:=h.Q2.ta h.ta
 have:=h.FZ
 rw[h2] at this
 obtain rfl:=HO this
 exact⟨h1,h3,h4,h5⟩
theorem OB.vN (hv:VS s) (hf:DB s i) (h:OB s i l os p a x) {k:Int} (k0:0<=k) (k1:k<=x.1+x.2):∃ y,CM (sz s.1) l (p+k)=some y:=by
 obtain⟨h1,h2,h3,h4⟩:=h.IA
 exact tD hv hf h.has (by omega) (by omega)
theorem OB.go (hv:VS s) (hf:DB s i) (h:OB s i l os p a x) {k:Int} (k0:0<=k) (k1:k<=1000):
  AX s a k=some (VR (CM (sz s.1) l (p+k))):=by
 have z:=BU s.1
 obtain⟨h1,h2,h3,h4⟩:=h.IA
 obtain⟨⟨a0,a1⟩,am,_,ho,_⟩:=CH hv hf h.has h3 h.FZ
 rcases h.has with ⟨hw,_⟩|⟨hw,hp⟩
 ·omega
 obtain⟨l2,q1,q2,q3⟩:=KF z hp h3 h.FZ k0
 rw[bW hv a0 a1 (by rw[ho];have:=hf.1.1;omega) k0 (by omega) q1,q3]
theorem AIF (h:OB s i l os p a x):hd (gl 0#64 s.2.1 a.toNat)=some x:=by
 obtain⟨⟨⟨a0,a1⟩,b0,b1⟩,h2,_⟩:=h.IA
 rw[h2,nX a0 a1 b0 b1]
theorem OB.look (hv:VS s) (hf:DB s i) (h:OB s i l os p a x):BD s a=some (x.1,x.2,0):=by
 obtain⟨⟨⟨r0,r1⟩,d0,d1⟩,h2,h3,h4⟩:=h.IA
 obtain⟨⟨a0,a1⟩,_⟩:=CH hv hf h.has h3 h.FZ
 have g0:=h.go hv hf (k:=0) (by omega) (by omega)
 rw[b7,h.FZ] at g0
 obtain⟨y,hy⟩:=h.vN hv hf (k:=x.1+x.2) (by omega) (by omega)
 have g1:=h.go hv hf (k:=x.1+x.2) (by omega) (by omega)
 rw[hy] at g1
 unfold BD
 rw[g0,AW,AE (by simp [VR]),AA ⟨a0,a1⟩,qM,AW,SA (AIF h),AE (by simp),AE (by simp)]
 simp only
 rw[ah,g1,AW,AE (by simp [VR])]
theorem OB.place (hv:VS s) (hf:DB s i) (h:OB s i l os p a x) (k:Int) (b:Bool):
  (∃ e,e≠0/\e≠19/\B2 s a k b=some (0,e))\/(∃ m y,(if b=true then 1<=m/\m<=x.1 else x.1<m/\m<=x.1+x.2)/\CM (sz s.1) l (p+m)=some y/\B2 s a k b=some (y,0)):=by
 obtain⟨⟨⟨r0,r1⟩,d0,d1⟩,h2,h3,h4⟩:=h.IA
 unfold B2
 rw[h.look hv hf,AW,AE (by simp)]
 cases b with
 |true=>
  rw[AA rfl]
  by_cases k0:k<0
  ·rw[AA k0];exact .inl ⟨17,by omega,by omega,rfl⟩
  rw[AE k0]
  by_cases k1:k≥x.1
  ·rw[AA k1];exact .inl ⟨17,by omega,by omega,rfl⟩
  rw[AE k1,ah]
  obtain⟨y,hy⟩:=h.vN hv hf (k:=1+k) (by omega) (by omega)
  rw[h.go hv hf (by omega) (by omega),hy]
  exact .inr ⟨1+k,y,by rw[AA rfl];omega,hy,rfl⟩
 |false=>
  rw[AE (by decide)]
  by_cases k0:k<0
  ·rw[AA k0];exact .inl ⟨17,by omega,by omega,rfl⟩
  rw[AE k0]
  by_cases k1:k≥x.2
  ·rw[AA k1];exact .inl ⟨17,by omega,by omega,rfl⟩
  simp only
  rw[AE k1,ah (e:=1+x.1),ah (e:=1+x.1+k)]
  obtain⟨y,hy⟩:=h.vN hv hf (k:=1+x.1+k) (by omega) (by omega)
  rw[h.go hv hf (by omega) (by omega),hy]
  exact .inr ⟨1+x.1+k,y,by rw[AE (by decide)];omega,hy,rfl⟩
def YQ (z:Int) (l:List Int) (p:Int):Nat->List Int
 |0=>[]
 |k+1=>YQ z l p k++ [(VR (CM z l (p+(1+(k:Int))))).1]
theorem LO (z:Int) (l:List Int) (p:Int):∀ k,(YQ z l p k).length=k
 |0=>rfl
 |k+1=>by rw[YQ,PQ,LO z l p k];rfl
theorem qP {z:Int} {l:List Int} {p:Int}:∀ {k j:Nat},j<k->gl 0 (YQ z l p k) j=(VR (CM z l (p+(1+(j:Int))))).1
 |0,j,h=>by omega
 |k+1,j,h=>by
  rw[YQ]
  by_cases hj:j<k
  ·rw[JM (by rw[LO];exact hj),qP hj]
  ·obtain rfl:j=k:=by omega
   rw[DJ (by rw[PQ,LO];simp),AD7 (by rw[LO];exact EH _)]
   simp only[LO,bL,AR9]
theorem OB.fields (hv:VS s) (hf:DB s i) (h:OB s i l os p a x):
  B_ s a=some (YQ (sz s.1) l p x.1.toNat,0):=by
 obtain⟨⟨⟨r0,r1⟩,d0,d1⟩,h2,h3,h4⟩:=h.IA
 unfold B_
 rw[h.look hv hf,AW,AE (by simp)]
 refine (AK (fun k (st:List Int×Int)=>st=(YQ (sz s.1) l p k,(k:Int))) (fun b=>b=(YQ (sz s.1) l p x.1.toNat,(0:Int))) x.1.toNat ?_ ?_ (s:=([],0)) rfl).elim fun b hb=>by rw[hb.1,hb.2]
 ·rintro k st hk rfl
  left
  simp only
  rw[ab,ah (e:=1+(k:Int)),h.go hv hf (by omega) (by omega),AW,AA (by simp only[LO,Q5];omega),ah]
  exact⟨_,rfl,rfl⟩
 ·rintro st rfl
  simp only
  rw[af]
  exact⟨_,rfl,rfl⟩
theorem AO3 {z:Int} {ws:List (BitVec 64)} {l:List Int} {W:Int}:∀ {os:List (Int×Int)} {at' :Int} {a:Int},DK z ws l at' os W->(a∈(ads z l at' os).map (·.1)↔∃ p x,TA at' os p x/\CM z l p=some a)
 | [],at',a,h=>by simp [ads,TA]
 |o::r,at',a,h=>by
  obtain⟨_,⟨y,h2,_⟩,h4⟩:=h
  simp only[ads,JS,GH,TA]
  rw[AO3 h4,h2]
  constructor
  ·rintro (rfl|⟨p,x,h5,h6⟩)
   ·exact⟨at',o,.inl ⟨rfl,rfl⟩,h2⟩
   ·exact⟨p,x,.inr h5,h6⟩
  ·rintro⟨p,x,(⟨rfl,rfl⟩|h5),h6⟩
   ·rw[h2] at h6;exact .inl (HO h6).symm
   ·exact .inr ⟨p,x,h5,h6⟩
theorem AUL (hv:VS s) (hf:DB s i) (h:Full s i os):
  ∃ la,CE s i=some (la,0)/\la.length<=16384/\∀ a,a∈la↔∃ p x,Obj s i p a x:=by
 obtain⟨l,h1,h2⟩:=h
 obtain⟨-,h3⟩:=qI h1 hf.1.2.2.2.2.1 ⟨l,h1,h2⟩
 have h4:=AF1 hv hf h1
 rw[h3] at h4
 refine⟨_,h4,by rw[V6];exact (AXU hv hf h3).1,fun a=> ?_⟩
 rw[AO3 h2]
 constructor
 ·rintro⟨p,x,h5,h6⟩;exact⟨p,x,l,os,h1,h2,h5,h6⟩
 ·rintro⟨p,x,l',rC,g⟩
  obtain rfl:=K_ h1 g.has
  obtain rfl:=h2.fn g.Q2
  exact⟨p,x,g.ta,g.FZ⟩
theorem map_inj {l:List α} {f:α->Int} (h:(l.map f).Nodup) {x y:α} (hx:x∈l) (hy:y∈l) (he:f x=f y):x=y:=by
 obtain⟨i,hi,rfl⟩:=AA9.1 hx
 obtain⟨j,hj,rfl⟩:=AA9.1 hy
 have h1:(l.map f)[i]'(by rw[V6];exact hi)=(l.map f)[j]'(by rw[V6];exact hj):=by rw[rH,rH];exact he
 have:=(List.getElem_inj h).1 h1
 subst this;rfl
theorem AIH (hq:q.length<=1000000) (hx:∀ x∈q,x.length<=1000000) (n:Int):
  ((∀ x∈q.flatten,x.1≠n)/\FM q n=some ((0,0,0,0,0),false))\/∃ i∈q.flatten,i.1=n/\FM q n=some (i,true):=by
 unfold FM zaE zt
 have key:=AZP (q:=q) (d:=((0,0,0,0,0):AI)) (p:=fun i=>i.1=n) (so:=fun k=>(k:Int)) (si:=fun _ j=>(j:Int)) (res:=fun k j=>(gl ((0,0,0,0,0):AI) (gl [] q k) j,true)) (no:=(((0,0,0,0,0):AI),false)) (s0:=(0:Int)) rfl
  (out:=fun s1=>if s1<(q.length:Int) then
   if 0<=s1/\s1<(q.length:Int) then
   AH (σ:=Int) (β:=(Int ⊕ (AI×Bool))) (fun s2=>
   if s2<((gl ([]:(List AI)) q s1.toNat).length:Int) then
   if 0<=s2/\s2<((gl ([]:(List AI)) q s1.toNat).length:Int) then
   if ((gl ((0,0,0,0,0):AI) (gl ([]:(List AI)) q s1.toNat) s2.toNat).1)=n then
   some (Sum.inr (Sum.inr ((((gl ((0,0,0,0,0):AI) (gl ([]:(List AI)) q s1.toNat) s2.toNat).1,((gl ((0,0,0,0,0):AI) (gl ([]:(List AI)) q s1.toNat) s2.toNat).2).1,(((gl ((0,0,0,0,0):AI) (gl ([]:(List AI)) q s1.toNat) s2.toNat).2).2).1,((((gl ((0,0,0,0,0):AI) (gl ([]:(List AI)) q s1.toNat) s2.toNat).2).2).2)),true))))
   else some (Sum.inl (AG (s2+1)))
   else none
   else some (Sum.inr (Sum.inl (AG (s1+1))))) (0)
   else none
   else some (Sum.inr (((0,0,0,0,0),false))))
  (u7:=fun (k:Nat) s2=>if s2<((gl ([]:(List AI)) q k).length:Int) then
   if 0<=s2/\s2<((gl ([]:(List AI)) q k).length:Int) then
   if ((gl ((0,0,0,0,0):AI) (gl ([]:(List AI)) q k) s2.toNat).1)=n then
   some (Sum.inr (Sum.inr ((((gl ((0,0,0,0,0):AI) (gl ([]:(List AI)) q k) s2.toNat).1,((gl ((0,0,0,0,0):AI) (gl ([]:(List AI)) q k) s2.toNat).2).1,(((gl ((0,0,0,0,0):AI) (gl ([]:(List AI)) q k) s2.toNat).2).2).1,((((gl ((0,0,0,0,0):AI) (gl ([]:(List AI)) q k) s2.toNat).2).2).2)),true))))
   else some (Sum.inl (AG (s2+1)))
   else none
   else some (Sum.inr (Sum.inl (AG ((k:Int)+1)))))
  (fun k hk=>by simp only[HM];rw[ab,ab];rfl)
  (fun k j hk hj=>by
   have hl:=hx (gl [] q k) (B3 hk)
   simp only[HM]
   rw[ab,ab,ah (e:=(j:Int)+1)]
   rfl)
  (fun k hk=>by rw[af,ah];rfl)
  (by rw[af])
 rcases key with ⟨h,e⟩|⟨k,j,hk,hj,hp,hb,e⟩
 ·exact .inl ⟨h,e⟩
 ·exact .inr ⟨_,w9.2 ⟨_,B3 hk,B3 hj⟩,hp,e⟩
def IsO (s:Sp) (q:Rows) (a:Int):Prop:=∃ i∈q.flatten,∃ p x,Obj s i p a x
structure HB (s:Sp) (q:Rows):Prop where
 bv:BV s q
 full:∀ i∈q.flatten,∃ os,Full s i os
theorem HB.fit {s:Sp} {q:Rows} (h:HB s q) {i:AI} (hi:i∈q.flatten):DB s i/\1<=i.2.2.2.2:=h.bv.ok.fit i hi
theorem HB.uniq (h:HB s q) (hi:i∈q.flatten) (hj:j∈q.flatten) (he:i.1=j.1):i=j:=map_inj h.bv.ok.nodup hi hj he
theorem wJ {n:Nat} (h:q.flatten.length<=n):∀ x∈q,x.length<=n:=by
 intro x hx
 have:x.length<=q.flatten.length:=by
  obtain⟨k,hk,rfl⟩:=AA9.1 hx
  rw[<-DJ (d:=[]) hk,IS q k hk,PQ,PQ]
  omega
 omega
theorem HB.lens (h:HB s q):q.length<=4/\q.flatten.length<=64/\∀ x∈q,x.length<=64:=by
 have:=count_le h.bv.vs h.bv.ok.fit h.bv.ok.nodup
 exact⟨h.bv.n.2,this,wJ this⟩
theorem HB.find (h:HB s q) (hi:i∈q.flatten):FM q i.1=some (i,true):=by
 obtain⟨h1,h2,h3⟩:=h.lens
 rcases AIH (q:=q) (by omega) (fun x hx=>by have:=h3 x hx;omega) i.1 with ⟨h4,_⟩|⟨j,h4,h5,h6⟩
 ·exact absurd rfl (h4 i hi)
 ·rw[h.uniq hi h4 h5.symm];rw[h.uniq hi h4 h5.symm] at h6;exact h6
theorem Obj.FZ {s:Sp} (h:VS s) {i:AI} (hf:DB s i) {p a:Int} {x:Int×Int} (ho:Obj s i p a x):
  (0<=a/\a<s.2.1.length)/\(0<=a / sz s.1/\a / sz s.1<s.2.2.length)/\(fr s.2.2 (a / sz s.1)).1=i.1/\(fr s.2.2 (a / sz s.1)).2.1=i.2.1*4294967296+i.1:=by
 obtain⟨l,os,g⟩:=ho
 obtain⟨h1,_,h3,h4,h5⟩:=CH h hf g.has g.IA.2.2.1 g.FZ
 exact⟨h1,h3,h4,h5⟩
abbrev Hs:Type:=(ByteArray×List (Nat×Int×Int×Int)×Int)×Sp×Rows×Int×Ss×Ro×Int×(Int×Int×Int×Int×Int×Int×Int×Int×Int)×Bool
theorem AZT {h:Hs} (hb:HB h.2.1 h.2.2.1) (ha:IsO h.2.1 h.2.2.1 a):GZ h a=some true:=by
 have hv:=hb.bv.vs
 have W7:=VS.IK hv
 have hn:=hv.n.2
 obtain⟨i,hi,p,x,ho⟩:=ha
 obtain⟨hf,hw⟩:=hb.fit hi
 obtain⟨⟨a0,a1⟩,⟨f0,f1⟩,ho1,_⟩:=ho.FZ hv hf
 obtain⟨os,hfu⟩:=hb.full i hi
 obtain⟨la,g1,g2,g3⟩:=AUL hv hf hfu
 have hm:=(g3 a).2 ⟨p,x,ho⟩
 unfold GZ
 rw[af,af,AA trivial,JK hv.sh,AA ⟨f0,f1⟩]
 have MO:(gl ((0,0,0):Fr) h.2.1.2.2 (a / sz h.2.1.1).toNat)=fr h.2.1.2.2 (a / sz h.2.1.1):=rfl
 rw[MO,ho1,hb.find hi,AW,AE (by simp),g1,AW]
 simp only
 refine (sZ (β:=Bool) (ys:=la) (v:=a) (bad:=true) (r:=false) (fun k hk=> ?_) (fun _=> ?_)).1 hm
 ·simp only[HM]
  rw[ab,ab,ah]
 ·rw[af]
def Pr (s:Sp) (y:Int) (w:BitVec 64) (f g:Int):Prop:=
 w≠0#64/\(w.toNat:Int)<=s.2.1.length/\f=y / sz s.1/\g=((w.toNat:Int)-1) / sz s.1/\(fr s.2.2 f).1≠-1/\(fr s.2.2 g).1≠-1/\(fr s.2.2 g).2.1<(fr s.2.2 f).2.1
theorem AXX (h:VS s) (y0:0<=y) (y1:y<s.2.1.length) (w:BitVec 64):
  ∃ r,KY s y w=some r/\((r.2.2=true/\Pr s y w r.1 r.2.1)\/(r.2.2=false/\∀ f g,¬Pr s y w f g)):=by
 have W7:=VS.IK h
 have hn:=h.n.2
 unfold KY zar zaS zm
 by_cases hx:w=0#64
 ·rw[AA hx];exact⟨_,rfl,.inr ⟨rfl,fun f g hh=>hh.1 hx⟩⟩
 obtain⟨e1,e2⟩:=JH hx
 have e3:(BitVec.ofInt 64 ((s.2.1.length:Nat):Int)).toNat=s.2.1.length:=by
  rw[jK];omega
 rw[AE hx,e3,e1]
 by_cases lU :w.toNat>s.2.1.length
 ·rw[AA lU];exact⟨_,rfl,.inr ⟨rfl,fun f g hh=>by have:=hh.2.1;omega⟩⟩
 obtain⟨f0,f1⟩:=EP h y0 y1
 obtain⟨g0,g1⟩:=EP h (a:=(w.toNat:Int)-1) (by omega) (by omega)
 have e4:((w.toNat-1:Nat):Int)=(w.toNat:Int)-1:=by omega
 rw[AE lU,af,af,AA trivial,AA trivial,e4,ah (e:=(w.toNat:Int)-1),JK h.sh,AA ⟨f0,f1⟩,AA ⟨g0,g1⟩]
 have hf1:(gl ((0,0,0):Fr) s.2.2 (y / sz s.1).toNat)=fr s.2.2 (y / sz s.1):=rfl
 have n6:(gl ((0,0,0):Fr) s.2.2 (((w.toNat:Int)-1) / sz s.1).toNat)=fr s.2.2 (((w.toNat:Int)-1) / sz s.1):=rfl
 rw[hf1,n6]
 by_cases h1:(fr s.2.2 (y / sz s.1)).1= -1
 ·rw[AE (DQ h1)]
  exact⟨_,rfl,.inr ⟨rfl,fun f g hh=>by obtain⟨_,_,rfl,_,hh,_⟩:=hh;exact hh h1⟩⟩
 rw[AA h1]
 by_cases h2:(fr s.2.2 (((w.toNat:Int)-1) / sz s.1)).1= -1
 ·rw[AE (DQ h2)]
  exact⟨_,rfl,.inr ⟨rfl,fun f g hh=>by obtain⟨_,_,_,rfl,_,hh,_⟩:=hh;exact hh h2⟩⟩
 rw[AA h2]
 by_cases h3:(fr s.2.2 (y / sz s.1)).2.1>(fr s.2.2 (((w.toNat:Int)-1) / sz s.1)).2.1
 ·exact⟨_,rfl,.inl ⟨JR h3,hx,by omega,rfl,rfl,h1,h2,h3⟩⟩
 ·exact⟨_,rfl,.inr ⟨P_ h3,fun f g hh=>by obtain⟨_,_,rfl,rfl,_,_,hh⟩:=hh;exact h3 hh⟩⟩
theorem Pr.fn {f' g':Int} (h:Pr s y w f g) (h' :Pr s y w f' g'):f=f' /\g=g' :=⟨by rw[h.2.2.1,h'.2.2.1],by rw[h.2.2.2.1,h'.2.2.2.1]⟩
theorem Pr.IA (h:VS s) (y0:0<=y) (y1:y<s.2.1.length) (hp:Pr s y w f g):(0<=f/\f<64)/\(0<=g/\g<64):=by
 obtain⟨h0,h1,rfl,rfl,_⟩:=hp
 have:=(JH h0).2
 have:=EP h y0 y1
 have:=EP h (a:=(w.toNat:Int)-1) (by omega) (by omega)
 have:=h.n.2
 omega
theorem AO4 (h:VS s) {ss:Ss} (hs:RV ss) (y0:0<=y) (y1:y<s.2.1.length) (w:BitVec 64):
  ∃ W8,C5 s ss y w=some (W8,s.2.1,s.2.2)/\RV W8 /\∀ f g y',In W8 f g y' ↔In ss f g y' \/(y' =y/\Pr s y w f g):=by
 have W7:=VS.IK h
 obtain⟨r,h1,h2⟩:=AXX h y0 y1 w
 unfold C5
 rw[h1,AW]
 rcases h2 with ⟨h2,h3⟩|⟨h2,h3⟩
 ·obtain⟨a,b⟩:=h3.IA h y0 y1
  obtain⟨W8,g1,g2,g3⟩:=A29 hs a b (y:=y) (by omega)
  rw[AE (by rw[h2];simp),g1,AW]
  refine⟨W8,rfl,g2,fun f g y' => ?_⟩
  rw[g3]
  constructor
  ·rintro (h|⟨rfl,rfl,rfl⟩)
   ·exact .inl h
   ·exact .inr ⟨rfl,h3⟩
  ·rintro (h|⟨rfl,h⟩)
   ·exact .inl h
   ·obtain⟨rfl,rfl⟩:=h.fn h3
    exact .inr ⟨rfl,rfl,rfl⟩
 ·rw[AA (by rw[h2];rfl)]
  refine⟨ss,rfl,hs,fun f g y' =>⟨.inl, ?_⟩⟩
  rintro (h|⟨_,h⟩)
  ·exact h
  ·exact absurd h (h3 _ _)
theorem AF6 {l:List AI} (hk:k<l.length):gl 0 (AV l) k=(gl ((0,0,0,0,0):AI) l k).1:=by
 rw[DJ (by unfold AV;rw[V6];exact hk),DJ hk]
 unfold AV
 rw[rH]
theorem qQ (l:List AI):(AV l).length=l.length:=by unfold AV;rw[V6]
def zW (s:Sp) (C:List Int) (k:Nat):List Int:=(GK k).filter fun f=>decide ((fr s.2.2 f).1∈C)
theorem AF7 (s:Sp) (C:List Int) (k:Nat):(zW s C k).length<=k:=by
 unfold zW
 refine oG (rF _ _) ?_
 rw[IE];exact EH _
theorem uS (h:VS s) {l:List AI} (hl:l.length<=1000000):
  HC s l=some (zW s (AV l) s.2.2.length):=by
 have hn:=h.n.2
 have Q8:=qQ l
 unfold HC zai
 refine (AK (fun k (st:List Int×Int)=>st=(zW s (AV l) k,(k:Int))) (fun b=>b=zW s (AV l) s.2.2.length) s.2.2.length ?_ ?_ (s:=([],0)) rfl).elim fun b hb=>by rw[hb.1,hb.2]
 ·rintro k st hk rfl
  have hc:=AF7 s (AV l) k
  left
  simp only[HM]
  rw[ab,ab]
  have hs:zW s (AV l) (k+1)=if (fr s.2.2 k).1∈AV l then zW s (AV l) k++ [(k:Int)] else zW s (AV l) k:=by
   unfold zW
   rw[KO,AAB,u5,List.filter_nil]
   split
   ·rename_i h1;rw[AA (SJ h1)]
   ·rename_i h1;rw[AE (fun h2=>h1 (JR h2)),FP]
  have MO:gl ((0,0,0):Fr) s.2.2 k=fr s.2.2 k:=rfl
  rw[hs,MO,ah (e:=(k:Int)+1)]
  generalize (fr s.2.2 k).1=q
  generalize zW s (AV l) k=X at hc
  have inner:=AK (β:=((List Int×Int) ⊕ (List Int))) (f:=fun s2:List Int×Int=>
   if s2.2<(l.length:Int) then
   if 0<=s2.2/\s2.2<(l.length:Int) then
   if q=((gl ((0,0,0,0,0):AI) l s2.2.toNat).1) then
   if (s2.1.length+([(k:Int)]:List Int).length)*8<=140737488355328 then
   some (Sum.inr (Sum.inl ((s2.1++([(k:Int)]:List Int),(k:Int)+1))))
   else none
   else some (Sum.inl ((s2.1,AG (s2.2+1))))
   else none
   else some (Sum.inr (Sum.inl ((s2.1,(k:Int)+1)))))
   (fun j (st:List Int×Int)=>st=(X,(j:Int))/\∀ m:Nat,m<j->gl 0 (AV l) m≠q)
   (fun b=>b=Sum.inl (if q∈AV l then X++ [(k:Int)] else X,(k:Int)+1)) l.length ?_ ?_ (s:=(X,0)) ⟨rfl,fun m hm=>by omega⟩
  ·obtain⟨b,e,rfl⟩:=inner
   exact⟨_,e,rfl⟩
  ·rintro j st hj ⟨rfl,hm⟩
   simp only[HM]
   rw[ab,ab,←AF6 hj]
   by_cases he:q=gl 0 (AV l) j
   ·rw[AA he,AA (by simp only[Q5];omega),AA (by rw[he];exact B3 (by omega))]
    exact .inr ⟨_,rfl,rfl⟩
   ·rw[AE he,ah (e:=(j:Int)+1)]
    refine .inl ⟨_,rfl,rfl,fun m hm' => ?_⟩
    by_cases hmj:m=j
    ·subst hmj;exact fun h=>he h.symm
    ·exact hm m (by omega)
  ·rintro st ⟨rfl,hm⟩
   simp only
   rw[af,AE]
   ·exact⟨_,rfl,rfl⟩
   ·intro hq
    obtain⟨m,h1,h2⟩:=AA9.1 hq
    refine hm m (by omega) ?_
    rw[DJ h1];exact h2
 ·rintro st rfl
  simp only
  rw[af]
  exact⟨_,rfl,rfl⟩
theorem bF:f∈zW s C s.2.2.length↔(0<=f/\f<s.2.2.length)/\(fr s.2.2 f).1∈C:=by
 unfold zW
 rw[Z1,NR,LD]
theorem ACW {f:List Int×Int->Option ((List Int×Int) ⊕ β)} (r:List Int->β) (xs:List Int) (p:Int->Bool) (hl:xs.length<=1000000)
  (hs:∀ (k:Nat) acc,k<xs.length->acc.length<=xs.length->f (acc,(k:Int))=some (.inl (if p (gl 0 xs k)=true then acc++ [gl 0 xs k] else acc,(k:Int)+1)))
  (he:∀ acc,f (acc,(xs.length:Int))=some (.inr (r acc))):AH f ([],0)=some (r (xs.filter p)):=by
 refine (AK (fun k (st:List Int×Int)=>st=((xs.take k).filter p,(k:Int))) (fun b=>b=r (xs.filter p)) xs.length ?_ ?_ (s:=([],0)) (by simp)).elim fun b hb=>by rw[hb.1,hb.2]
 ·rintro k st hk rfl
  left
  rw[hs k _ hk (UK _ _ _)]
  refine⟨_,rfl, ?_⟩
  rw[gY (d:=0) p xs hk]
  split <;> simp
 ·rintro st rfl
  rw[he,VD]
  exact⟨_,rfl,rfl⟩
theorem AII (h:VS s) {r:Ro} (hr:bE r) {l:List AI} (hl:l.length<=1000000):
  IW s r l=some ((liv r.1 32).filter fun x=>decide (Wn (AV l) s (gl 0#64 r.2 (x-1).toNat))):=by
 have hrl:=hr.rl
 have hlen:=qL r.1 32
 have hm:∀ x∈liv r.1 32,1<=x/\x<=32:=fun x hx=>by
  obtain⟨j,j1,j2,j3⟩:=wG.1 hx
  omega
 have hL:=tA hr
 generalize liv r.1 32=L at*
 unfold IW
 rw[hL,AW]
 refine ACW id L _ (by omega) (fun k acc hk ha=> ?_) (fun acc=> ?_)
 ·have hj:=hm _ (B3 (d:=(0:Int)) hk)
  simp only[HM]
  rw[ab,ab,ah (e:=gl 0 L k-1),ab,W1 h hl,AW,ah (e:=(k:Int)+1)]
  split
  ·rw[AA (by simp only[Q5];omega)]
  ·rfl
 ·simp only
  rw[af]
  rfl
theorem AUM {l:List AI} {p:BitVec 64->Bool} (hp:∀ w,CY s l w=some (p w)) {out:List Int} (ho:out.length<=16384) (h3:∀ y∈out,0<=y) (n:Int):
  AH (σ:=((List Int)×Int)) (β:=((List Int)×Int)) (fun s1=>
   if s1.2<(out.length:Int) then
   if 0<=s1.2/\s1.2<(out.length:Int) then
   if (gl (0:Int) out s1.2.toNat)<(s.2.1.length:Int) then
   if 0<=(gl (0:Int) out s1.2.toNat)/\(gl (0:Int) out s1.2.toNat)<(s.2.1.length:Int) then
   (CY s l (gl (0#64:(BitVec 64)) s.2.1 ((gl (0:Int) out s1.2.toNat).toNat))).bind (fun r3=>
   if r3=true then
   if (s1.1.length+([gl (0:Int) out s1.2.toNat]:List Int).length)*8<=140737488355328 then
   some (Sum.inl ((s1.1++([gl (0:Int) out s1.2.toNat]:List Int),AG (s1.2+1))))
   else none
   else some (Sum.inl ((s1.1,AG (s1.2+1)))))
   else none
   else some (Sum.inl ((s1.1,AG (s1.2+1))))
   else none
   else some (Sum.inr ((s1.1,n)))) (([],0))=some (out.filter fun y:Int=>decide (y<s.2.1.length/\p (gl 0#64 s.2.1 y.toNat)=true),n):=by
 refine ACW (fun o=>(o,n)) out (fun y=>decide (y<s.2.1.length/\p (gl 0#64 s.2.1 y.toNat)=true)) (by omega) (fun k acc hk ha=> ?_) (fun acc=> ?_)
 ·have hg:=h3 _ (B3 (d:=(0:Int)) hk)
  simp only[HM]
  rw[ab,ab,ah (e:=(k:Int)+1)]
  by_cases h5:gl 0 out k<(s.2.1.length:Int)
  ·rw[AA h5,AA ⟨hg,h5⟩,hp,AW]
   by_cases h6:p (gl 0#64 s.2.1 (gl 0 out k).toNat)=true
   ·rw[AA h6,AA (by simp only[Q5];omega),AA (JR ⟨h5,h6⟩)]
   ·rw[AE h6,AE (by rw[LD];exact fun h=>h6 h.2)]
  ·rw[AE h5,AE (by rw[LD];exact fun h=>h5 h.1)]
 ·simp only
  rw[af]
theorem AIJ (h:VS s) {ss:Ss} (hr:RV ss) {l:List AI} (hl:l.length<=1000000):
  ∃ ys n,IX s ss l=some (ys,n)/\ys.Pairwise (·< ·)/\∀ y,y∈ys↔InF ss (zW s (AV l) s.2.2.length) y/\(0<=y/\y<s.2.1.length)/\Wn (AV l) s (gl 0#64 s.2.1 y.toNat):=by
 have hn:=h.n.2
 have W7:=VS.IK h
 have hc:=AF7 s (AV l) s.2.2.length
 obtain⟨out,n,h1,h2,h3,h4⟩:=AXW hr (F:=zW s (AV l) s.2.2.length) (by omega)
 have hol:=s_ (n:=16384) h2 h3
 have key:=AUM (s:=s) (l:=l) (p:=fun w=>decide (Wn (AV l) s w)) (fun w=>W1 h hl w) hol (fun y hy=>(h3 y hy).1) n
 refine⟨_,n, ?_,(h2.sublist ABA:(out.filter fun y:Int=>decide (y<s.2.1.length/\decide (Wn (AV l) s (gl 0#64 s.2.1 y.toNat))=true)).Pairwise (·< ·)),fun y=> ?_⟩
 ·unfold IX za1
  rw[uS h hl,AW,h1,AW]
  exact key
 ·rw[Z1,h4,LD,LD]
  constructor
  ·rintro⟨a,b,c⟩
   have:=h3 y ((h4 y).2 a)
   exact⟨a,⟨this.1,b⟩,c⟩
  ·rintro⟨a,⟨_,b⟩,c⟩;exact⟨a,b,c⟩
def Im (s:Sp) (C:List Int) (mv:List (Int×Int)) (w v:BitVec 64):Prop:=
 (¬Wn C s w/\v=w)\/(Wn C s w/\∃ b,((w.toNat:Int)-1,b)∈mv/\v=BitVec.ofInt 64 b+1#64)
theorem Im.mono {bX:List (Int×Int)} {v:BitVec 64} (h:Im s C mv w v) (hs:∀ x∈mv,x∈bX):Im s C bX w v:=by
 rcases h with h|⟨h1,b,h2,h3⟩
 ·exact .inl h
 ·exact .inr ⟨h1,b,hs _ h2,h3⟩
def scn (d e k:Nat) (j:Int):Prop:=k<d\/(k=d/\j<=e)
structure Cop (s0:Sp) (C:List Int) (l:List AI) (CB:AI) (t:Sp) (to:AI) (lb:List Int) (ot:List (Int×Int)) (mv:List (Int×Int)) (d e k:Nat) (i:AI) (la:List Int) (oa:List (Int×Int)) (pa p:Int) (x:Int×Int):Prop where
 inl:i∈l
 src:OB s0 i la oa pa (gl (0,0) mv k).1 x
 dst:OB t to lb ot p (gl (0,0) mv k).2 x
 new:CB.2.2.2.2<=p
 wds:∀ j,1<=j->j<=x.1+x.2->∀ ya yb,CM (sz s0.1) la (pa+j)=some ya->CM (sz s0.1) lb (p+j)=some yb→
  ((j<=x.1/\scn d e k j)->Im s0 C mv (gl 0#64 s0.2.1 ya.toNat) (gl 0#64 t.2.1 yb.toNat))/\(¬(j<=x.1/\scn d e k j)->gl 0#64 t.2.1 yb.toNat=gl 0#64 s0.2.1 ya.toNat)
structure CI (R:Int->Prop) (s0:Sp) (q:Rows) (l:List AI) (CB:AI) (l0:List Int) (DL:List (Int×Int)) (t:Sp) (to:AI) (lb:List Int) (m:List (Int×Int)) (mv:List (Int×Int)) (d e:Nat):Prop where
 cy:Cy (AV l) t to
 sh:t.1=s0.1
 wl:t.2.1.length=s0.2.1.length
 fl:t.2.2.length=s0.2.2.length
 seq:to.1=CB.1
 XK:to.2.1=CB.2.1
 wd:CB.2.2.2.2<=to.2.2.2.2
 has:Has t to lb
 Q2:DK (sz s0.1) t.2.1 lb 0 (DL++m) to.2.2.2.2
 pre:∃ r,lb=l0++r
 fr1:∀ x:Int,0<=x->x<s0.2.2.length->(fr t.2.2 x).1≠CB.1->fr t.2.2 x=fr s0.2.2 x
 fr2:∀ x:Int,0<=x->x<s0.2.2.length->(fr s0.2.2 x).1=CB.1->(fr t.2.2 x).1=CB.1
 fr3:∀ x:Int,0<=x->x<s0.2.2.length->(fr s0.2.2 x).1≠-1->(fr s0.2.2 x).1≠CB.1->fr t.2.2 x=fr s0.2.2 x
 wd1:∀ y:Int,0<=y->y<s0.2.1.length->(fr s0.2.2 (y / sz s0.1)).1≠-1->(fr s0.2.2 (y / sz s0.1)).1≠CB.1->y∉mv.map (·.1)->gl 0#64 t.2.1 y.toNat=gl 0#64 s0.2.1 y.toNat
 wd2:∀ x∈mv,gl 0#64 t.2.1 x.1.toNat=fwd x.2
 wd3:∀ p y,0<=p->p<CB.2.2.2.2->CM (sz s0.1) l0 p=some y->gl 0#64 t.2.1 y.toNat=gl 0#64 s0.2.1 y.toNat
 ml:m.length=mv.length
 uT:∀ k,k<mv.length->∃ i la oa pa p,Cop s0 (AV l) l CB t to lb (DL++m) mv d e k i la oa pa p (gl (0,0) m k)
 mvn:(mv.map (·.1)).Nodup
 mvb:(mv.map (·.2)).Nodup
 cov:∀ p x,TA 0 (DL++m) p x->TA 0 DL p x\/(CB.2.2.2.2<=p/\∃ k,k<mv.length/\CM (sz s0.1) lb p=some (gl (0,0) mv k).2)
 rch:∀ x∈mv,R x.1
 de:d<=mv.length/\(d=mv.length->e=0)
structure Cd (s0:Sp) (q:Rows) (l:List AI) (CB:AI) (l0:List Int) (DL:List (Int×Int)):Prop where
 hb:HB s0 q
 sub:∀ i∈l,i∈q.flatten
 fit:DB s0 CB
 out:CB.1∉AV l
 own:CB.2.2.2.2=0->owned s0.2.2 CB.1=[]
 has:Has s0 CB l0
 Q2:DK (sz s0.1) s0.2.1 l0 0 DL CB.2.2.2.2
theorem FC {l:List AI} :n∈AV l↔∃ i∈l,i.1=n:=by
 unfold AV;rw[DH]
variable {DL:List (Int×Int)} {l0:List Int} {CB:AI} {s0:Sp}
theorem Cd.nn {l:List AI} (h:Cd s0 q l CB l0 DL):∀ n∈AV l,0<=n:=by
 intro n hn
 obtain⟨i,hi,rfl⟩:=FC.1 hn
 exact (h.hb.fit (h.sub i hi)).1.1.1
def Gw (s0:Sp) (l:List AI) (w:BitVec 64):Prop:=Wn (AV l) s0 w->∃ i∈l,∃ p x,Obj s0 i p ((w.toNat:Int)-1) x
variable {R:Int->Prop}
theorem CI.start {l:List AI} (h:Cd s0 q l CB l0 DL):CI R s0 q l CB l0 DL s0 CB l0 [] [] 0 0 where
 cy:=⟨h.hb.bv.vs,h.fit,h.own,h.out,h.nn⟩
 sh:=rfl
 wl:=rfl
 fl:=rfl
 seq:=rfl
 XK:=rfl
 wd:=YT _
 has:=h.has
 Q2:=by rw[FP];exact h.Q2
 pre:=⟨[],by rw[FP]⟩
 fr1:=fun _ _ _ _=>rfl
 fr2:=fun _ _ _ h=>h
 fr3:=fun _ _ _ _ _=>rfl
 wd1:=fun _ _ _ _ _ _=>rfl
 wd2:=fun x hx=>by cases hx
 wd3:=fun _ _ _ _ _=>rfl
 ml:=rfl
 uT:=fun k hk=>by simp at hk
 mvn:=dP
 mvb:=dP
 cov:=fun p x hx=>by rw[FP] at hx;exact .inl hx
 rch:=fun x hx=>by cases hx
 de:=⟨EH _,fun _=>rfl⟩
theorem Grown.fr1 (h:VS s) (g:Grown s i n t j a l l') (i0:0<=i.1) {x:Int} (x0:0<=x) (x1:x<s.2.2.length) (CW:(fr t.2.2 x).1≠i.1):fr t.2.2 x=fr s.2.2 x:=by
 by_cases hf:(fr t.2.2 x).1= -1
 ·have h1:x∈C1 t.2.2:=B6.2 ⟨⟨x0,by rw[g.len];exact x1⟩,hf⟩
  rw[g.fre] at h1
  have h2:=B6.1 (tJ h1)
  have h3:=(h.free x0 x1 h2.2).1
  have h4:=(g.vs.free x0 (by rw[g.len];exact x1) hf).1
  rw[show fr t.2.2 x=(-1, -1, -1) from h4,show fr s.2.2 x=(-1, -1, -1) from h3]
 ·have h1:x∈owned t.2.2 (fr t.2.2 x).1:=B6.2 ⟨⟨x0,by rw[g.len];exact x1⟩,rfl⟩
  rw[g.oth _ CW hf] at h1
  have h2:=(B6.1 h1).2
  exact g.frs x x0 x1 (by rw[h2];exact hf) (by rw[h2];exact CW)
theorem Grown.fr2 (h:VS s) (hf:DB s i) (C6:i.2.2.2.2=0->owned s.2.2 i.1=[]) (n0:1<=n) (g:Grown s i n t j a l l') {x:Int} (x0:0<=x) (x1:x<s.2.2.length) (he:(fr s.2.2 x).1=i.1):(fr t.2.2 x).1=i.1:=by
 have hx:x∈owned s.2.2 i.1:=B6.2 ⟨⟨x0,x1⟩,he⟩
 by_cases hw:i.2.2.2.2=0
 ·rw[C6 hw] at hx;cases hx
 ·have h1:=APW h hf hw hx g.has
  have h2:x∈l' :=by rw[g.more];exact AA8 _ h1
  exact g.AQB hf.1.2.2.2.2.1 n0 x h2
variable {m:List (Int×Int)} {lb:List Int}
theorem CI.inC {l:List AI} (h:Cd s0 q l CB l0 DL) {d e:Nat} (c:CI R s0 q l CB l0 DL t to lb m mv d e) {x:Int} (x0:0<=x) (x1:x<s0.2.2.length):(fr t.2.2 x).1∈AV l↔(fr s0.2.2 x).1∈AV l:=by
 constructor
 ·intro hx
  rw[<-c.fr1 x x0 x1 (fun he=>h.out (he ▸ hx))];exact hx
 ·intro hx
  have:=h.nn _ hx
  rw[c.fr3 x x0 x1 (by omega) (fun he=>h.out (he ▸ hx))];exact hx
theorem CI.wn {l:List AI} (h:Cd s0 q l CB l0 DL) {d e:Nat} (c:CI R s0 q l CB l0 DL t to lb m mv d e) (w:BitVec 64):Wn (AV l) t w↔Wn (AV l) s0 w:=by
 unfold Wn
 rw[c.wl,c.sh]
 constructor
 ·rintro⟨h1,h2,h3⟩
  have:=(JH h1).2
  obtain⟨f0,f1⟩:=EP h.hb.bv.vs (a:=(w.toNat:Int)-1) (by omega) (by omega)
  exact⟨h1,h2,(c.inC h f0 f1).1 h3⟩
 ·rintro⟨h1,h2,h3⟩
  have:=(JH h1).2
  obtain⟨f0,f1⟩:=EP h.hb.bv.vs (a:=(w.toNat:Int)-1) (by omega) (by omega)
  exact⟨h1,h2,(c.inC h f0 f1).2 h3⟩
theorem Cd.W2 {l:List AI} (h:Cd s0 q l CB l0 DL) (hi:i∈l) (hla:Has s0 i la) (p0:0<=p) (hy:CM (sz s0.1) la p=some y):
  (0<=y/\y<s0.2.1.length)/\(0<=y / sz s0.1/\y / sz s0.1<s0.2.2.length)/\(fr s0.2.2 (y / sz s0.1)).1=i.1/\i.1∈AV l/\0<=i.1/\i.1≠CB.1:=by
 have hf:=h.hb.fit (h.sub i hi)
 obtain⟨h1,_,h3,h4,_⟩:=CH h.hb.bv.vs hf.1 hla p0 hy
 have h5:i.1∈AV l:=FC.2 ⟨i,hi,rfl⟩
 exact⟨h1,h3,h4,h5,hf.1.1.1,fun he=>h.out (he ▸ h5)⟩
theorem Cd.AXY {l:List AI} (h:Cd s0 q l CB l0 DL) {i':AI} (hi:i∈l) (KM :i' ∈l) {la':List Int} {oa oa' :List (Int×Int)} {pa pa' a':Int} {x':Int×Int} (o:OB s0 i la oa pa a x) (o' :OB s0 i' la' oa' pa' a' x') {j:Int} (j1:1<=j) (j2:j<=x.1+x.2):CM (sz s0.1) la (pa+j)≠some a' :=by
 intro hy
 have r:=o.IA
 have r' :=o'.IA
 have h1:=h.W2 hi o.has (by omega) hy
 have h2:=h.W2 KM o'.has r'.2.2.1 o'.FZ
 have he:i.1=i'.1:=by rw[<-h1.2.2.1,←h2.2.2.1]
 obtain rfl:=h.hb.uniq (h.sub i hi) (h.sub i' KM) he
 obtain rfl:=K_ o.has o'.has
 obtain rfl:=o.Q2.fn o'.Q2
 have hp:=F9 (BU s0.1) (YP o.has) (by omega) r'.2.2.1 hy o'.FZ
 rcases o.Q2.apart o.ta o'.ta with ⟨h3,_⟩|h3|h3 <;> omega
theorem EF {d x:α} {l:List α} (h:x∈l):∃ k,k<l.length/\gl d l k=x:=by
 obtain⟨k,hk,rfl⟩:=AA9.1 h
 exact⟨k,hk,DJ hk⟩
theorem AUN {d:α} {d' :β} {l:List α} {f:α->β} (hk:k<l.length):gl d' (l.map f) k=f (gl d l k):=by
 rw[DJ (by rw[V6];exact hk),DJ hk,rH]
theorem CI.vN {l:List AI} (h:Cd s0 q l CB l0 DL) {d e:Nat} (c:CI R s0 q l CB l0 DL t to lb m mv d e) (hi:i∈l) {oa:List (Int×Int)} {pa:Int} (o:OB s0 i la oa pa a x) {j:Int} (j1:1<=j) (j2:j<=x.1+x.2) (hy:CM (sz s0.1) la (pa+j)=some y):gl 0#64 t.2.1 y.toNat=gl 0#64 s0.2.1 y.toNat:=by
 have r:=o.IA
 obtain⟨h1,h2,h3,h4,h5,h6⟩:=h.W2 hi o.has (by omega) hy
 refine c.wd1 y h1.1 h1.2 (by rw[h3];omega) (by rw[h3];exact h6) fun hm=> ?_
 obtain⟨z',hz,rfl⟩:=DH.1 hm
 obtain⟨k,hk,rfl⟩:=EF (d:=((0,0):Int×Int)) hz
 obtain⟨i',la',oa',pa',p',cc⟩:=c.uT k hk
 exact h.AXY hi cc.inl o cc.src j1 j2 hy
theorem CI.W3 {l:List AI} (h:Cd s0 q l CB l0 DL) {d e:Nat} (c:CI R s0 q l CB l0 DL t to lb m mv d e):mv.length<=16384:=by
 have W7:=VS.IK h.hb.bv.vs
 have:(mv.map (·.1)).length<=16384:=by
  refine S0 16384 _ c.mvn fun y hy=> ?_
  obtain⟨z',hz,rfl⟩:=DH.1 hy
  obtain⟨k,hk,rfl⟩:=EF (d:=((0,0):Int×Int)) hz
  obtain⟨i',la',oa',pa',p',cc⟩:=c.uT k hk
  have:=h.W2 cc.inl cc.src.has cc.src.IA.2.2.1 cc.src.FZ
  omega
 rw[V6] at this
 exact this
end Go.Proofs.YtokeceeccmgcmaaGreatDoor
