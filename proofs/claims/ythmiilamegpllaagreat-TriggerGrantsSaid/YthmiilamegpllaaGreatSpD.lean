import Derived.Test.YthmiilamegpllaaGreatHeaW
import Derived.Test.YthmiilamegpllaaGreatV3P
import Derived.Test.YthmiilamegpllaaGreatRows
set_option linter.unusedVariables false
set_option linter.unusedSimpArgs false
namespace Go.Proofs.YthmiilamegpllaaGreat
open Go Go.V3
theorem AN8 (a:Int) {m:Int} (h0:0<m) (h1:m<=4611686018427387904):∃ r,IZ a m=some r/\0<=r/\r<m/\r=a%m:=by
 have u:=Int.tmod_lt_of_pos a h0
 have l:=Int.lt_tmod_of_pos a h0
 have e:Int.tmod a m=if 0<=a\/m ∣ a then a%m else a%m-m:=by
  rw[Int.tmod_eq_emod]
  split <;> omega
 have p0:=jL a (show m≠0 by omega)
 have p1:=nM a h0
 unfold IZ
 rw[AA (by omega)]
 by_cases hn:a.tmod m<0
 ·rw[AA hn]
  rw[AD (by omega) (by omega)]
  exact⟨_,rfl,by omega,by omega,by split at e <;> omega⟩
 ·rw[AB hn]
  exact⟨_,rfl,by omega,u,by split at e <;> omega⟩
def RJ (d:List Int×Int):Prop:=0<=d.2/\(d.1.length:Int)<=9223372036854775807
theorem EZ {d:List Int×Int} (h:RJ d) {n:Int} (h0:0<n) (h1:n<=4611686018427387904):∃ r d',AF d n=some (r,d')/\0<=r/\r<n/\RJ d' :=by
 unfold AF
 obtain⟨h2,h3⟩:=h
 by_cases hc:d.2≥d.1.length
 ·rw[AA hc];exact⟨_,_,rfl,by omega,h0,h2,h3⟩
 ·rw[AB hc,AD (e:=d.2+1) (by omega) (by omega),show d.2+1-1=d.2 from by omega,AD (by omega) (by omega),AA (by omega)]
  obtain⟨r,h4,h5,h6,_⟩:=AN8 (gl (0:Int) d.1 d.2.toNat) h0 h1
  rw[h4]
  exact⟨_,_,rfl,h5,h6,by show (0:Int)<=d.2+1;omega,h3⟩
theorem AN9 {ws:List (BitVec 64)} (h:ws.length<=1000000):IB ws=some ws:=by
 unfold IB
 rw[AA (by simp;omega)];rfl
theorem AR3 {s:Sp} (h:s.2.1.length<=1000000) (h2:s.2.2.length<=1000000):DO s=some s:=by
 unfold DO
 rw[AN9 h]
 simp only[A9]
 rw[AA (by simp;omega)];rfl
theorem VS.O2 {s:Sp} (h:VS s):s.2.1.length<=16384:=by
 have:=(J7 h.sh (by omega:0<=(s.2.2.length:Int)) (show (s.2.2.length:Int)<=64 by have:=h.n.2;omega)).2
 have:=h.w
 omega
theorem VS.copy {s:Sp} (h:VS s):DO s=some s:=AR3 (by have:=VS.O2 h;omega) (by have:=h.n.2;omega)
theorem AR4 {s n:Int} (hs:3<=s/\s<=8) (hn:2<=n/\n<=64):
  KO s n=some ((s,List.replicate (n*sz s).toNat 0#64,List.replicate n.toNat (-1, -1, -1)),0):=by
 obtain⟨q1,q2⟩:=J7 hs (by omega:0<=n) hn.2
 unfold KO
 rw[m9]
 simp only[A9]
 rw[AB (by simp [hs]),AB (by omega),AB (by omega),AA trivial,OF hs,AD (by omega) (by omega),AA (by omega),AA (by omega)]
 refine LA (fun k st=>st.1=n-k/\(k:Int)<=n/\st.2.length=n.toNat/\∀ j,j<st.1.toNat->st.2[j]? =some (-1, -1, -1)) (n:=n.toNat) ?_ ⟨by omega,by omega,by simp,fun j hj=>by simp at hj⟩
 rintro k ⟨i,xs⟩ ⟨h1,h2,h3,h4⟩
 simp only at h1 h2 h3 h4 ⊢
 rw[ZP]
 by_cases hk:k=0
 ·left
  rw[AB (by omega)]
  have:i.toNat=n.toNat:=by omega
  rw[this] at h4
  rw[uQ h3 h4]
 ·right
  refine⟨k-1,_,by omega,by rw[AA (by omega),AA (by omega)], ?_,by omega, ?_, ?_⟩
  ·simp only;rw[AD (by omega) (by omega)];omega
  ·simp [h3]
  ·simp only
   rw[AD (by omega) (by omega)]
   intro j hj
   rw[qW]
   split
   ·rw[AA (by omega)]
   ·exact h4 j (by omega)
theorem qD {s:Sp} (hn:s.2.2.length<=64):C8 s=some (DA s.2.2):=by
 unfold C8
 refine (AR (fun k (st:List Int×Int)=>st.2=(k:Int)/\k<=s.2.2.length/\st.1=(F4 k).filter fun i=>decide ((fr s.2.2 i).1= -1)) (fun b=>b=DA s.2.2) s.2.2.length ?_ ?_ ⟨rfl,by omega,rfl⟩).elim fun b h=>by rw[h.1,h.2]
 ·rintro k ⟨acc,i⟩ hk ⟨h1,_,h2⟩
  simp only at h1 h2 ⊢
  subst h1
  have hl:acc.length<=k:=by
   have:=oX (fun i=>decide ((fr s.2.2 i).1= -1)) (F4 k)
   rw[H4] at this;rw[h2];exact this
  have NL:gl (0,0,0) s.2.2 (k:Int).toNat=fr s.2.2 k:=rfl
  rw[AA (by omega),AA (by omega),NL,AD (by omega) (by omega),LV,x7]
  by_cases hf:(fr s.2.2 k).1= -1
  ·rw[AA hf,AA (by simp;omega)]
   exact .inl ⟨_,rfl,by simp only;omega,by omega,by simp [h2,hf]⟩
  ·rw[AB hf]
   exact .inl ⟨_,rfl,by simp only;omega,by omega,by simp [h2,hf]⟩
 ·rintro⟨acc,i⟩ ⟨h1,_,h2⟩
  simp only at h1 h2 ⊢
  rw[AB (by omega)]
  exact⟨_,rfl,h2⟩
theorem AR5 {s:Sp} (hn:s.2.2.length<=64) {f:Int} {r:List Int} (hf:DA s.2.2=f::r) {o b:Int} (o0:0<=o) (o1:o<=4294967295) (b0:0<=b) (b1:b<4):
  G9 s o b=some (f,s.2.1,s.2.2.set f.toNat (o,b*4294967296+o, -1)):=by
 obtain⟨⟨h0,h1⟩,h2,h3⟩:=iZ hf
 unfold G9
 refine LA (fun k (i:Int)=>i=f-k/\(k:Int)<=f) (n:=f.toNat) ?_ ⟨by omega,by omega⟩
 rintro k i ⟨hi,hk⟩
 have NL:gl (0,0,0) s.2.2 i.toNat=fr s.2.2 i:=rfl
 rw[AA (by omega),AA (by omega),NL]
 by_cases h0:k=0
 ·left
  have:i=f:=by omega
  subst this
  rw[AA h2,AA (by omega),AD (e:=b*4294967296) (by omega) (by omega),AD (by omega) (by omega)]
 ·right
  rw[AB (h3 i (by omega) (by omega)),AD (by omega) (by omega)]
  exact⟨k-1,_,by omega,rfl,by omega,by omega⟩
theorem ANA {s:Sp} (hn:s.2.2.length<=64) {i:Int} {l:List Int} (hp:Pa s.2.2 i l):H_ s i=some l:=by
 unfold H_
 have hl:=hp.length
 refine LA (fun k (st:List Int×Int)=>∃ l2,l=st.1++l2/\Pa s.2.2 st.2 l2/\l2.length=k) (n:=l.length) ?_ ⟨l,rfl,hp,rfl⟩
 rintro k ⟨acc,f⟩ ⟨l2,h1,h2,h3⟩
 simp only at h1 h2 ⊢
 cases l2 with
 |nil=>
  left
  rw[Pa] at h2
  rw[AB (by simp [h2]),h1,G5]
 |cons a r=>
  right
  obtain⟨rfl,g0,g1,g2⟩:=h2
  have:=N5 List.length h1
  simp at this h3
  have NL:(gl (0,0,0) s.2.2 f.toNat).2.2=nx s.2.2 f:=(HL g0 g1).symm
  rw[AA (by omega),AA (by simp;omega),AA ⟨g0,g1⟩,NL]
  exact⟨k-1,_,by omega,rfl,r,by simp [h1],g2,by omega⟩
def cl (z n:Int):Int:=(n+z-1) / z
theorem AHP {n s:Int} (hs:3<=s/\s<=8) (h0:0<=n) (h1:n<=1000000):G8 n s=some (cl (sz s) n):=by
 obtain⟨z1,z2⟩:=LF hs
 unfold G8
 rw[AB (by omega),AB (by omega),AB (by omega),AB (by omega),AA trivial,AA trivial,OF hs,Int.one_mul,AD (e:=sz s) (by omega) (by omega),AD (e:=n+sz s) (by omega) (by omega),AD (by omega) (by omega)]
 rfl
theorem AHQ {z n m:Int} (hz:0<z) (h:n<=m):cl z n<=cl z m:=Int.ediv_le_ediv hz (by omega)
theorem AHR {z:Int} (hz:0<z):cl z 0=0:=Int.ediv_eq_zero_of_lt (by omega) (by omega)
theorem P7 {z n:Int} (hz:0<z):n<=cl z n*z/\cl z n*z<n+z:=by
 have h1:=Int.mul_ediv_add_emod (n+z-1) z
 have h2:=jL (n+z-1) (show z≠0 by omega)
 have h3:=nM (n+z-1) hz
 unfold cl
 rw[Int.mul_comm] at h1
 omega
theorem AG2 {z n:Int} (hz:0<z) (h:0<n):0<cl z n:=by
 obtain⟨h1,h2⟩:=P7 (n:=n) hz
 apply uB
 intro hc
 have:cl z n*z<=0*z:=AAO (by omega) (by omega)
 omega
theorem nA {z n:Int} (hz:0<z) (h:0<=n):0<=cl z n:=Int.ediv_nonneg (by omega) (by omega)
def D5 (s:Sp) (i:AH):Prop:=
 (0<=i.1/\i.1<=4294967295/\0<=i.2.1/\i.2.1<4/\0<=i.2.2.2.2/\i.2.2.2.2<=s.2.1.length)∧
 ((i.2.2.2.2=0/\i.2.2.1= -1/\i.2.2.2.1= -1)∨
  (i.2.2.2.2≠0/\(0<=i.2.2.1/\i.2.2.1<s.2.2.length)/\(fr s.2.2 i.2.2.1).1=i.1/\(fr s.2.2 i.2.2.1).2.1=i.2.1*4294967296+i.1∧
  ∃ l,Pa s.2.2 i.2.2.1 l/\(l.length:Int)=cl (sz s.1) i.2.2.2.2/\l.length=(owned s.2.2 i.1).length/\l.getLast? =some i.2.2.2.1))
theorem S5 {s:Sp} (h:VS s) {i:AH} (h0:0<=i.2.2.2.2) (h1:i.2.2.2.2<=1000000):BW s i=some (cl (sz s.1) i.2.2.2.2):=by
 unfold BW
 rw[AHP h.sh h0 h1];rfl
theorem AHS {l:List Int} (h:0<l.length):some (gl 0 l (l.length-1))=l.getLast? :=by
 rw[List.getLast?_eq_getElem?,AR0 (d:=0) (by omega)]
theorem AR6 {s:Sp} (h:VS s) (i:AH):∃ b,JE s i=some b/\(b=true↔D5 s i):=by
 have oB:=VS.O2 h
 have hn:=h.n.2
 unfold JE
 by_cases c1:i.1<0
 ·rw[AA c1];exact⟨_,rfl,BO fun h=>by have:=h.1.1;omega⟩
 rw[AB c1]
 by_cases c2:i.1>4294967295
 ·rw[AA c2];exact⟨_,rfl,BO fun h=>by have:=h.1.2.1;omega⟩
 rw[AB c2]
 by_cases c3:i.2.1<0
 ·rw[AA c3];exact⟨_,rfl,BO fun h=>by have:=h.1.2.2.1;omega⟩
 rw[AB c3]
 by_cases c4:i.2.1≥4
 ·rw[AA c4];exact⟨_,rfl,BO fun h=>by have:=h.1.2.2.2.1;omega⟩
 rw[AB c4]
 by_cases c5:i.2.2.2.2<0
 ·rw[AA c5];exact⟨_,rfl,BO fun h=>by have:=h.1.2.2.2.2.1;omega⟩
 rw[AB c5]
 by_cases c6:i.2.2.2.2>s.2.1.length
 ·rw[AA c6];exact⟨_,rfl,BO fun h=>by have:=h.1.2.2.2.2.2;omega⟩
 rw[AB c6]
 have hr:0<=i.1/\i.1<=4294967295/\0<=i.2.1/\i.2.1<4/\0<=i.2.2.2.2/\i.2.2.2.2<=s.2.1.length:=⟨by omega,by omega,by omega,by omega,by omega,by omega⟩
 by_cases c7:i.2.2.2.2=0
 ·rw[AA c7]
  by_cases c8:i.2.2.1= -1
  ·rw[AA c8]
   refine⟨_,rfl, ?_⟩
   rw[N2]
   exact⟨fun hh=>⟨hr,.inl ⟨c7,c8,hh⟩⟩,fun hh=>by rcases hh.2 with h1|h1;exact h1.2.2;exact absurd c7 h1.1⟩
  ·rw[AB c8]
   exact⟨_,rfl,BO fun hh=>by rcases hh.2 with h1|h1;exact c8 h1.2.1;exact h1.1 c7⟩
 rw[AB c7]
 have only:D5 s i->(0<=i.2.2.1/\i.2.2.1<s.2.2.length)/\(fr s.2.2 i.2.2.1).1=i.1/\(fr s.2.2 i.2.2.1).2.1=i.2.1*4294967296+i.1∧
   ∃ l,Pa s.2.2 i.2.2.1 l/\(l.length:Int)=cl (sz s.1) i.2.2.2.2/\l.length=(owned s.2.2 i.1).length/\l.getLast? =some i.2.2.2.1:=fun hh=>by
  rcases hh.2 with h1|h1
  ·exact absurd h1.1 c7
  ·exact h1.2
 by_cases c8:i.2.2.1<0
 ·rw[AA c8];exact⟨_,rfl,BO fun hh=>by have:=(only hh).1.1;omega⟩
 rw[AB c8]
 by_cases c9:i.2.2.1≥s.2.2.length
 ·rw[AA c9];exact⟨_,rfl,BO fun hh=>by have:=(only hh).1.2;omega⟩
 have NL:gl (0,0,0) s.2.2 i.2.2.1.toNat=fr s.2.2 i.2.2.1:=rfl
 rw[AB c9,AA (by omega),NL,AD (e:=i.2.1*4294967296) (by omega) (by omega),AD (e:=i.2.1*4294967296+i.1) (by omega) (by omega)]
 by_cases d1:(fr s.2.2 i.2.2.1).1=i.1
 rotate_left
 ·rw[AA d1];exact⟨_,rfl,BO fun hh=>d1 (only hh).2.1⟩
 rw[AB (by simp [d1])]
 by_cases d2:(fr s.2.2 i.2.2.1).2.1=i.2.1*4294967296+i.1
 rotate_left
 ·rw[AA d2];exact⟨_,rfl,BO fun hh=>d2 (only hh).2.2.1⟩
 rw[AB (by simp [d2])]
 obtain⟨l,hl⟩:=h.acy i.2.2.1 (by omega) (by omega)
 have hll:=hl.length
 rw[ANA hn hl,S5 h (by omega) (by omega)]
 simp only[A9]
 refine AR (fun k (st:Int×Int)=>st.2=(k:Int)/\k<=s.2.2.length/\0<=st.1/\st.1<=k/\st.1=(((F4 k).filter fun j=>decide ((fr s.2.2 j).1=i.1)).length:Nat)) _ s.2.2.length ?_ ?_ ⟨rfl,by omega,by simp,by simp,rfl⟩
 ·rintro k ⟨c,j⟩ hk ⟨h1,_,h2,h3,h4⟩
  simp only at h1 h2 h3 h4 ⊢
  subst h1
  have hfk:gl (0,0,0) s.2.2 (k:Int).toNat=fr s.2.2 k:=rfl
  rw[AA (by omega),AA (by omega),hfk,AD (e:=(k:Int)+1) (by omega) (by omega),AD (e:=c+1) (by omega) (by omega),LV,x7]
  by_cases hf:(fr s.2.2 k).1=i.1
  ·rw[AA hf]
   exact .inl ⟨_,rfl,by simp only;omega,by omega,by simp only;omega,by simp only;omega,by simp [h4,hf]⟩
  ·rw[AB hf]
   exact .inl ⟨_,rfl,by simp only;omega,by omega,by simp only;omega,by simp only;omega,by simp [h4,hf]⟩
 ·rintro⟨c,j⟩ ⟨h1,_,h2,h3,h4⟩
  simp only at h1 h2 h3 h4 ⊢
  have h5:c=((owned s.2.2 i.1).length:Int):=h4
  rw[AB (by omega)]
  refine map_inr ?_
  by_cases e1:(l.length:Int)=cl (sz s.1) i.2.2.2.2
  rotate_left
  ·rw[AB e1]
   exact⟨_,rfl,BO fun hh=>by obtain⟨l',p1,p2,_⟩:=(only hh).2.2.2;rw[hl.fn p1] at e1;exact e1 p2⟩
  rw[AA e1]
  by_cases e2:(l.length:Int)=c
  rotate_left
  ·rw[AB e2]
   exact⟨_,rfl,BO fun hh=>by obtain⟨l',p1,_,p2,_⟩:=(only hh).2.2.2;rw[hl.fn p1] at e2;exact e2 (by omega)⟩
  have hp:=AG2 (CA s.1) (show 0<i.2.2.2.2 by omega)
  rw[AA e2,AD (by omega) (by omega),AA (by omega)]
  refine⟨_,rfl, ?_⟩
  rw[N2,show ((l.length:Int)-1).toNat=l.length-1 from by omega]
  have hg:=AHS (l:=l) (by omega)
  constructor
  ·intro he
   exact⟨hr,.inr ⟨c7,by omega,d1,d2,l,hl,e1,by omega,by rw[<-hg,he]⟩⟩
  ·intro hh
   obtain⟨l',p1,_,_,p2⟩:=(only hh).2.2.2
   rw[<-hl.fn p1,←hg] at p2
   simpa using p2
theorem z5 (s:Sp) (i:AH):∃ b,IA s i=some b/\(b=true↔VS s/\D5 s i):=by
 unfold IA
 obtain⟨b,h1,h2⟩:=xB s
 rw[h1]
 simp only[A9]
 by_cases hb:b=true
 ·rw[AA hb]
  obtain⟨c,h3,h4⟩:=AR6 (h2.1 hb) i
  rw[h3]
  exact⟨c,rfl,h4.trans ⟨fun h=>⟨h2.1 hb,h⟩,fun h=>h.2⟩⟩
 ·rw[AB hb]
  exact⟨_,rfl,BO fun h=>hb (h2.2 h.1)⟩
theorem AR7 {s:Sp} (hn:s.2.2.length<=64) (q:Int):∃ b,JF s q=some b/\(b=true↔owned s.2.2 q≠[]):=by
 unfold JF
 refine AR (fun k (i:Int)=>i=(k:Int)/\k<=s.2.2.length/\∀ j:Int,0<=j->j<k->(fr s.2.2 j).1≠q) _ s.2.2.length ?_ ?_ ⟨rfl,by omega,fun j h0 h1=>by omega⟩
 ·rintro k i hk ⟨rfl,_,hj⟩
  have hfk:gl (0,0,0) s.2.2 (k:Int).toNat=fr s.2.2 k:=rfl
  rw[AA (by omega),AA (by omega),hfk,AD (by omega) (by omega)]
  by_cases hf:(fr s.2.2 k).1=q
  ·rw[AA hf]
   refine .inr ⟨_,rfl,YB rfl fun he=> ?_⟩
   have:(k:Int)∈owned s.2.2 q:=B0.2 ⟨⟨by omega,by omega⟩,hf⟩
   rw[he] at this;cases this
  ·rw[AB hf]
   refine .inl ⟨_,rfl,by omega,by omega,fun j j0 j1=> ?_⟩
   by_cases gC:j=k
   ·rw[gC];exact hf
   ·exact hj j j0 (by omega)
 ·rintro i ⟨rfl,_,hj⟩
  rw[AB (by omega)]
  refine⟨_,rfl,BO fun he=> ?_⟩
  obtain⟨x,hx⟩:=List.exists_mem_of_ne_nil _ he
  obtain⟨⟨x0,x1⟩,x2⟩:=B0.1 hx
  exact hj x x0 x1 x2
theorem GM {s:Sp} (h:VS s) {a:Int} (h0:0<=a) (h1:a<s.2.1.length):0<=a / sz s.1/\a / sz s.1<s.2.2.length:=
 ⟨Int.ediv_nonneg h0 (by have:=CA s.1;omega),(AAS (CA s.1)).2 (by rw[<-h.w];exact h1)⟩
theorem AV2 {s a:Int} (hs:3<=s/\s<=8) (h0:0<=a) (h1:a<=9223372036854775807):vP .and a (sz s-1)=a%sz s:=sX s.toNat (by omega) h0 h1
def ZO:Option Int->Int×Int
 |some a=>(a,0)
 |none=>(0,2)
theorem gH {s:Sp} (h:VS s) {a k:Int} (h0:0<=a) (h1:a<s.2.1.length) (hu:(fr s.2.2 (a / sz s.1)).1≠-1) (k0:0<=k) (k1:k<=9223372036854775807) {l:List Int} (hl:Pa s.2.2 (a / sz s.1) l):
  A5 s a k=some (ZO (DB (sz s.1) l (a%sz s.1+k))):=by
 have oB:=VS.O2 h
 have hn:=h.n.2
 obtain⟨z1,z2⟩:=LF h.sh
 obtain⟨f0,f1⟩:=GM h h0 h1
 have m0:=jL a (show sz s.1≠0 by omega)
 have m1:=nM a (show 0<sz s.1 by omega)
 have NL:gl (0,0,0) s.2.2 (a / sz s.1).toNat=fr s.2.2 (a / sz s.1):=rfl
 unfold A5
 rw[AB (by omega),AB (by omega),AB (by omega),AA trivial,AA trivial,OF h.sh,AA ⟨f0,f1⟩,NL,AB hu,Int.one_mul,AD (e:=sz s.1) (by omega) (by omega),AD (e:=sz s.1-1) (by omega) (by omega),AV2 h.sh h0 (by omega)]
 refine LA (fun m (st:Int×Int×Int)=>(0<=st.1/\st.1<=k)/\0<=st.2.2/\st.2.2<sz s.1/\∃ l2,l2.length=m/\l2≠[]/\Pa s.2.2 st.2.1 l2/\DB (sz s.1) l2 (st.2.2+st.1)=DB (sz s.1) l (a%sz s.1+k)) (n:=l.length) ?_ ⟨⟨k0,S9 _⟩,m0,m1,l,rfl, ?_,hl,rfl⟩
 ·rintro m ⟨k',f,at'⟩ ⟨⟨g0,g7⟩,g1,g2,l2,g3,g6,g4,g5⟩
  simp only at g0 g7 g1 g2 g4 g5 ⊢
  rw[AD (e:=sz s.1-at') (by omega) (by omega),GA]
  cases l2 with
  |nil=>exact absurd rfl g6
  |cons b r=>
   obtain⟨rfl,i0,i1,i2⟩:=g4
   have UQ:(gl (0,0,0) s.2.2 f.toNat).2.2=nx s.2.2 f:=(HL i0 i1).symm
   have fm:=J7 h.sh i0 (show f<=64 by omega)
   rw[DB] at g5
   by_cases hk:k' ≥sz s.1-at'
   ·rw[AA hk,AA trivial,AA ⟨i0,i1⟩,UQ,AD (by omega) (by omega)]
    rw[AB (by omega)] at g5
    by_cases hx:nx s.2.2 f= -1
    ·rw[AA hx]
     left
     rw[hx] at i2
     have:r=[]:=i2.fn (show Pa s.2.2 (-1) [] from rfl)
     subst this
     rw[<-g5]
     rfl
    ·rw[AB hx]
     right
     refine⟨m-1,_,by simp at g3;omega,rfl,⟨by simp only;omega,by simp only;omega⟩,by simp only;omega,by simp only;omega,r,by simp at g3;omega, ?_,i2, ?_⟩
     ·rintro rfl;rw[Pa] at i2;exact hx i2
     ·simp only;rw[<-g5];congr 1;omega
   ·rw[AB hk,AA trivial,AD (e:=f*sz s.1) (by omega) (by omega),AD (e:=f*sz s.1+at') (by omega) (by omega),AD (by omega) (by omega)]
    rw[AA (by omega)] at g5
    left
    rw[<-g5]
    show some _=some _
    congr 2
    show _=(_,_)
    congr 1;omega
 ·rintro rfl;rw[Pa] at hl;omega
def Has (s:Sp) (i:AH) (l:List Int):Prop:=(i.2.2.2.2=0/\l=[])\/(i.2.2.2.2≠0/\Pa s.2.2 i.2.2.1 l)
structure oR (s:Sp) (i:AH) (l d r0:List Int) (fs:List Fr) (F L:Int):Prop where
 vs:VS (s.1,s.2.1,fs)
 len:fs.length=s.2.2.length
 split:DA s.2.2=d++r0
 fre:DA fs=r0
 path:(l++d=[]/\F= -1/\L= -1)\/(l++d≠[]/\Pa fs F (l++d)/\(l++d).getLast? =some L/\(fr fs F).1=i.1/\(fr fs F).2.1=i.2.1*4294967296+i.1)
 own:(owned fs i.1).length=(l++d).length
 oth:∀ q,q≠i.1->q≠-1->owned fs q=owned s.2.2 q
 frs:∀ x:Int,0<=x->x<s.2.2.length->(fr s.2.2 x).1≠-1->(fr s.2.2 x).1≠i.1->fr fs x=fr s.2.2 x
theorem Pa.head {fs:List Fr} {l:List Int} {i:Int} (h:Pa fs i l) (hl:l≠[]):0<=i/\i<fs.length/\i∈l:=by
 cases l with
 |nil=>exact absurd rfl hl
 |cons a r=>obtain⟨rfl,h0,h1,_⟩:=h;exact⟨h0,h1,by simp⟩
theorem oR.step {s:Sp} {i:AH} {l d r:List Int} {f:Int} {fs:List Fr} {F L:Int} (h:oR s i l d (f::r) fs F L) (q0:0<=i.1) (q1:i.1<=4294967295) (b0:0<=i.2.1) (b1:i.2.1<4):
  (F= -1->oR s i l (d++ [f]) r (fs.set f.toNat (i.1,i.2.1*4294967296+i.1, -1)) f f)∧
  (F≠-1->(0<=L/\L<fs.length)/\oR s i l (d++ [f]) r ((fs.set f.toNat (i.1,i.2.1*4294967296+i.1, -1)).set L.toNat
   ((fr (fs.set f.toNat (i.1,i.2.1*4294967296+i.1, -1)) L).1,(fr (fs.set f.toNat (i.1,i.2.1*4294967296+i.1, -1)) L).2.1,f)) F f):=by
 obtain⟨⟨f0,f1⟩,f2,f3⟩:=iZ h.fre
 obtain⟨v1,nx1⟩:=h.vs.take (f:=f) (o:=i.1) (b:=i.2.1) f0 f1 f2 q0 q1 b0 b1
 simp only at v1 nx1
 obtain⟨o1,o2,o3⟩:=AFV (fs:=fs) (o:=i.1) (st:=i.2.1*4294967296+i.1) h.fre (by omega)
 have NL:∀ x:Int,0<=x->fr (fs.set f.toNat (i.1,i.2.1*4294967296+i.1, -1)) x=if x=f then (i.1,i.2.1*4294967296+i.1, -1) else fr fs x:=fun x hx=>XB f0 f1 hx
 have tD:=(h.vs.free (i:=f) f0 f1 f2).1
 have nxf:nx (fs.set f.toNat (i.1,i.2.1*4294967296+i.1, -1)) f= -1:=by
  rw[nx1 f f0 f1,HL f0 f1];rw[show fr fs f=_ from tD]
 have pf:Pa (fs.set f.toNat (i.1,i.2.1*4294967296+i.1, -1)) f [f]:=⟨rfl,f0,by simpa using f1,nxf⟩
 have ANB:DA s.2.2=(d++ [f])++r:=by rw[h.split];simp
 have AV3:∀ x:Int,0<=x->x<s.2.2.length->(fr s.2.2 x).1≠-1->(fr s.2.2 x).1≠i.1->fr (fs.set f.toNat (i.1,i.2.1*4294967296+i.1, -1)) x=fr s.2.2 x:=by
  intro x x0 x1 x2 x3
  have hx:=h.frs x x0 x1 x2 x3
  rw[NL x x0,AB,hx]
  rintro rfl
  rw[hx] at f2;exact x2 f2
 refine⟨fun hF=> ?_,fun hF=> ?_⟩
 ·have SX:l++d=[]:=by
   rcases h.path with h1|h1
   ·exact h1.1
   ·have:=(Pa.head h1.2.1 h1.1).1;omega
  refine⟨v1,by simp [h.len],ANB,o1,.inr ?_, ?_,fun q h1 h2=>(o3 q h1 h2).trans (h.oth q h1 h2),AV3⟩
  ·rw[<-I6,SX,o8,NL f f0,AA rfl]
   exact⟨by simp,pf,rfl,rfl,rfl⟩
  ·rw[o2,h.own,←I6,SX];rfl
 ·rcases h.path with h1|⟨h1,h2,h3,h4,h5⟩
  ·exact absurd h1.2.1 hF
  obtain⟨l1,l2⟩:=Pa.last h2 h3
  obtain⟨L0,L1⟩:=Pa.mem h2 l2
  obtain⟨F0,F1,F2⟩:=Pa.head h2 h1
  have CO:=h.vs.owner h2 L l2
  simp only at CO
  rw[h4,h5] at CO
  have hLf:L≠f:=by rintro rfl;rw[CO.1] at f2;omega
  have e1:fr (fs.set f.toNat (i.1,i.2.1*4294967296+i.1, -1)) L=fr fs L:=by rw[NL L L0,AB hLf]
  have e2:fr (fs.set f.toNat (i.1,i.2.1*4294967296+i.1, -1)) f=(i.1,i.2.1*4294967296+i.1, -1):=by rw[NL f f0,AA rfl]
  have hlen:(fs.set f.toNat (i.1,i.2.1*4294967296+i.1, -1)).length=fs.length:=by simp
  obtain⟨v2,p2⟩:=v1.link (a:=L) (f:=f) (lf:=[f]) L0 (by simp only;omega) f0 (by simp only;omega) (by simp only;rw[e1,CO.1];omega) (by simp only;rw[nx1 L L0 L1];exact l1)
   (by simp only;rw[e1,e2,CO.1]) (by simp only;rw[e1,e2,CO.2]) (by
    simp only
    intro j j0 j1 hj
    rw[nx1 j j0 (by omega)] at hj
    have CJ:nx fs j≠-1:=by omega
    rw[HL j0 (by omega)] at hj CJ
    rcases h.vs.fr j j0 (by simp only;omega) with ⟨g1,_⟩|g1
    ·rw[show fr fs j=_ from g1] at CJ;exact CJ rfl
    ·have:=(g1.2.2.2.2 CJ).1
     simp only at this
     rw[hj,f2] at this
     have:=g1.1.1
     simp only at this
     omega) pf (by simp [hLf])
  simp only at v2 p2
  have ow:∀ q,owned ((fs.set f.toNat (i.1,i.2.1*4294967296+i.1, -1)).set L.toNat ((fr (fs.set f.toNat (i.1,i.2.1*4294967296+i.1, -1)) L).1,(fr (fs.set f.toNat (i.1,i.2.1*4294967296+i.1, -1)) L).2.1,f)) q=owned (fs.set f.toNat (i.1,i.2.1*4294967296+i.1, -1)) q:=fun q=>by
   refine AFW L0 (by omega) ?_ q
   rfl
  refine⟨⟨L0,L1⟩,v2,by simp [h.len],ANB, ?_,.inr ⟨by simp, ?_,by simp, ?_, ?_⟩, ?_, ?_, ?_⟩
  ·exact (ow (-1)).trans o1
  ·have:=p2 (l++d) F (h2.congr (by simp) nx1)
   rw[AA l2] at this
   rw[<-I6];exact this
  ·rw[XB L0 (by omega) F0]
   split
   ·rw[e1,CO.1]
   ·rw[NL F F0,AB]
    ·exact h4
    ·rintro rfl;rw[h4] at f2;omega
  ·rw[XB L0 (by omega) F0]
   split
   ·rw[e1];exact CO.2
   ·rw[NL F F0,AB]
    ·exact h5
    ·rintro rfl;rw[h4] at f2;omega
  ·rw[ow,o2,h.own];simp;omega
  ·intro q g1 g2
   rw[ow,o3 q g1 g2];exact h.oth q g1 g2
  ·intro x x0 x1 x2 x3
   rw[XB L0 (by omega) x0,AB]
   ·exact AV3 x x0 x1 x2 x3
   ·rintro rfl
    have:=AV3 x x0 x1 x2 x3
    rw[e1] at this
    rw[<-this,CO.1] at x3
    exact x3 rfl
def ACX (q st:Int) (x:List Fr×Int×Int):List Fr×Int×Int:=match DA x.1 with
 | []=>x
 |f::_=>if x.2.1= -1 then (x.1.set f.toNat (q,st, -1),f,f) else
   ((x.1.set f.toNat (q,st, -1)).set x.2.2.toNat ((fr (x.1.set f.toNat (q,st, -1)) x.2.2).1,(fr (x.1.set f.toNat (q,st, -1)) x.2.2).2.1,f),x.2.1,f)
def gw (q st:Int):Nat->List Fr×Int×Int->List Fr×Int×Int
 |0,x=>x
 |k+1,x=>ACX q st (gw q st k x)
structure Grown (s:Sp) (i:AH) (n:Int) (t:Sp) (j:AH) (a:Int) (l l' :List Int):Prop where
 vs:VS t
 fit:D5 t j
 sh:t.1=s.1
 ws:t.2.1=s.2.1
 len:t.2.2.length=s.2.2.length
 seq:j.1=i.1
 fS:j.2.1=i.2.1
 words:j.2.2.2.2=i.2.2.2.2+n
 first:i.2.2.2.2≠0->j.2.2.1=i.2.2.1
 has:Has s i l
 path:Pa t.2.2 j.2.2.1 l'
 more:l' =l++(DA s.2.2).take (l'.length-l.length)
 fre:DA t.2.2=(DA s.2.2).drop (l'.length-l.length)
 A1K:(l.length:Int)=cl (sz s.1) i.2.2.2.2
 AV4 :(l'.length:Int)=cl (sz s.1) (i.2.2.2.2+n)
 own:(owned t.2.2 i.1).length=l'.length
 oth:∀ q,q≠i.1->q≠-1->owned t.2.2 q=owned s.2.2 q
 frs:∀ x:Int,0<=x->x<s.2.2.length->(fr s.2.2 x).1≠-1->(fr s.2.2 x).1≠i.1->fr t.2.2 x=fr s.2.2 x
 IP:DB (sz s.1) l' i.2.2.2.2=some a
 gw:(t.2.2,j.2.2.1,j.2.2.2.1)=gw i.1 (i.2.1*4294967296+i.1) (cl (sz s.1) (i.2.2.2.2+n)-cl (sz s.1) i.2.2.2.2).toNat (s.2.2,i.2.2.1,i.2.2.2.1)
theorem D5.has {s:Sp} {i:AH} (h:D5 s i) (hv:VS s):∃ l,Has s i l/\(l.length:Int)=cl (sz s.1) i.2.2.2.2/\(i.2.2.2.2≠0->l.length=(owned s.2.2 i.1).length/\l.getLast? =some i.2.2.2.1/\l≠[]):=by
 rcases h.2 with ⟨h1,h2,h3⟩|⟨h1,h2,h3,h4,l,h5,h6,h7,h8⟩
 ·exact⟨[],.inl ⟨h1,rfl⟩,by rw[h1,AHR (CA _)];rfl,fun h=>absurd h1 h⟩
 ·refine⟨l,.inr ⟨h1,h5⟩,h6,fun _=>⟨h7,h8, ?_⟩⟩
  rintro rfl;simp at h8
theorem tE {s:Sp} (h:VS s) {i:AH} (h0:0<=i.2.2.2.2) (h1:i.2.2.2.2<=16384) {n:Int} (n0:0<=n) (n1:n<=1000):D6 s i n=some (cl (sz s.1) (i.2.2.2.2+n)-cl (sz s.1) i.2.2.2.2):=by
 have z:=CA s.1
 have z2:=LF h.sh
 have c1:=P7 (n:=i.2.2.2.2+n) z
 have c2:=nA z (show 0<=i.2.2.2.2+n by omega)
 have c3:=nA z h0
 have c4:=P7 (n:=i.2.2.2.2) z
 have b1:cl (sz s.1) (i.2.2.2.2+n)*1<=cl (sz s.1) (i.2.2.2.2+n)*sz s.1:=AAT (by omega) c2
 have b2:cl (sz s.1) i.2.2.2.2*1<=cl (sz s.1) i.2.2.2.2*sz s.1:=AAT (by omega) c3
 unfold D6
 rw[AD (e:=i.2.2.2.2+n) (by omega) (by omega),AHP h.sh (by omega) (by omega),S5 h h0 (by omega)]
 simp only[A9]
 rw[AD (by omega) (by omega)]
theorem z6 {s:Sp} (h:VS s) {i:AH} (hf:D5 s i) (CO:i.2.2.2.2=0->owned s.2.2 i.1=[]) {n:Int} (n0:1<=n) (n1:n<=48):
  (((DA s.2.2).length:Int)<cl (sz s.1) (i.2.2.2.2+n)-cl (sz s.1) i.2.2.2.2/\CG s i n=some ((0,0,0,0,0),0,4,s.2.1,s.2.2))∨
  (cl (sz s.1) (i.2.2.2.2+n)-cl (sz s.1) i.2.2.2.2<=(DA s.2.2).length/\∃ t j a l l',CG s i n=some (j,a,0,t.2.1,t.2.2)/\Grown s i n t j a l l'):=by
 have oB:=VS.O2 h
 have hn:=h.n.2
 have z:=CA s.1
 have z2:=LF h.sh
 obtain⟨⟨q0,q1,b0,b1,w0,w1⟩,pA⟩:=id hf
 obtain⟨l,hl1,mH,hl3⟩:=hf.has h
 have nX:=AHQ z (show i.2.2.2.2<=i.2.2.2.2+n by omega)
 have A1F:(DA s.2.2).length<=s.2.2.length:=S4 s.2.2 (-1)
 unfold CG
 rw[tE h w0 (by omega) (by omega) (by omega),qD hn]
 simp only[A9]
 by_cases hc:cl (sz s.1) (i.2.2.2.2+n)-cl (sz s.1) i.2.2.2.2>((DA s.2.2).length:Int)
 ·rw[AA hc];exact .inl ⟨hc,rfl⟩
 rw[AB hc]
 refine .inr ⟨by omega, ?_⟩
 have AV5:oR s i l [] (DA s.2.2) s.2.2 i.2.2.1 i.2.2.2.1:=by
  refine⟨h,rfl,rfl,rfl, ?_, ?_,fun q _ _=>rfl,fun x _ _ _ _=>rfl⟩
  ·rcases hl1 with ⟨g1,rfl⟩|⟨g1,g2⟩
   ·rcases pA with ⟨_,g3,g4⟩|⟨g3,_⟩
    ·exact .inl ⟨rfl,g3,g4⟩
    ·exact absurd g1 g3
   ·rcases pA with ⟨g3,_⟩|⟨_,g3,g4,g5,_⟩
    ·exact absurd g3 g1
    ·rw[G5]
     exact .inr ⟨(hl3 g1).2.2,g2,(hl3 g1).2.1,g4,g5⟩
  ·rw[G5]
   by_cases hw:i.2.2.2.2=0
   ·rw[CO hw]
    rcases hl1 with ⟨g1,rfl⟩|⟨g1,_⟩
    ·rfl
    ·exact absurd hw g1
   ·exact (hl3 hw).1.symm
 generalize AY7:cl (sz s.1) (i.2.2.2.2+n)-cl (sz s.1) i.2.2.2.2=need at hc ⊢
 have hx:=PX (β:=((Int×Int×Int×Int×Int)×Int×Int×(List (BitVec 64))×(List (Int×Int×Int)))) (f:=fun s1:Int×(Int×Int×Int×Int×Int)×(List (BitVec 64))×(List (Int×Int×Int))=>
   if s1.1>0 then
   Option.bind (G9 (s.1,s1.2.2) s1.2.1.1 s1.2.1.2.1) (fun r3=>
   if s1.2.1.2.2.1=(-1) then
   some (Sum.inl ((AG (s1.1-1),(s1.2.1.1,s1.2.1.2.1,r3.1,r3.1,s1.2.1.2.2.2.2),r3.2.1,r3.2.2)))
   else if 0<=s1.2.1.2.2.2.1/\s1.2.1.2.2.2.1<(r3.2.2.length:Int) then
   some (Sum.inl ((AG (s1.1-1),(s1.2.1.1,s1.2.1.2.1,s1.2.1.2.2.1,r3.1,s1.2.1.2.2.2.2),r3.2.1,r3.2.2.set s1.2.1.2.2.2.1.toNat ((gl (0,0,0) r3.2.2 s1.2.1.2.2.2.1.toNat).1,((gl (0,0,0) r3.2.2 s1.2.1.2.2.2.1.toNat).2).1,r3.1))))
   else none)
   else Option.map Sum.inr (if True then
   Option.bind (A5 (s.1,s1.2.2) (AG (s1.2.1.2.2.1*2 ^ min (BitVec.ofInt 64 s.1).toNat 64)) i.2.2.2.2) (fun r4=>
   some (((s1.2.1.1,s1.2.1.2.1,s1.2.1.2.2.1,s1.2.1.2.2.2.1,AG (s1.2.1.2.2.2.2+n)),r4.1,0,s1.2.2.1,s1.2.2.2)))
   else none))
  (fun m st=>st.1=(m:Int)/\(m:Int)<=need/\∃ d r0,(d.length:Int)+m=need/\st.2.1.1=i.1/\st.2.1.2.1=i.2.1/\st.2.1.2.2.2.2=i.2.2.2.2/\st.2.2.1=s.2.1/\oR s i l d r0 st.2.2.2 st.2.1.2.2.1 st.2.1.2.2.2.1/\(i.2.2.2.2≠0->st.2.1.2.2.1=i.2.2.1)/\(st.2.2.2,st.2.1.2.2.1,st.2.1.2.2.2.1)=gw i.1 (i.2.1*4294967296+i.1) d.length (s.2.2,i.2.2.1,i.2.2.2.1))
  (fun b=>∃ t j a l',b=(j,a,0,t.2.1,t.2.2)/\Grown s i n t j a l l') ?_ need.toNat (need,i,s.2.1,s.2.2) ⟨by omega,by omega,[],DA s.2.2,by simp;omega,rfl,rfl,rfl,rfl,AV5,fun _=>rfl,rfl⟩
 ·obtain⟨b,hb,t,j,a,l',rfl,hg⟩:=hx
  exact⟨t,j,a,l,l',hb,hg⟩
 ·rintro m ⟨k,⟨sq,bt,F,L,wd⟩,ws,fs⟩ ⟨e1,e2,d,r0,e3,e4,e5,e6,e7,hg,z7,hgw⟩
  simp only at e1 e4 e5 e6 e7 hg z7 hgw ⊢
  subst e1 e4 e5 e6 e7
  by_cases hm:m=0
  ·subst hm
   left
   rw[AB (by omega),AA trivial,OF h.sh]
   have hld:((l++d).length:Int)=cl (sz s.1) (i.2.2.2.2+n):=by simp;omega
   have U9:0<cl (sz s.1) (i.2.2.2.2+n):=AG2 z (by omega)
   rcases hg.path with h1|⟨g1,g2,g3,g4,g5⟩
   ·rw[h1.1] at hld;simp at hld;omega
   obtain⟨F0,F1,_⟩:=Pa.head g2 g1
   have hFz:=J7 h.sh F0 (show F<=64 by have:=hg.len;omega)
   have hFw:F*sz s.1<s.2.1.length:=by
    rw[h.w]
    exact Int.mul_lt_mul_of_pos_right (by have:=hg.len;omega) z
   have ha:=PY z (g:=F) (o:=0) (by omega) z
   rw[ZV] at ha
   have hcs:=P7 (n:=i.2.2.2.2+n) z
   obtain⟨g,hg1,hg2⟩:=RI z (l:=l++d) (off:=i.2.2.2.2) w0 (by rw[hld];omega)
   have hgo:=gH hg.vs (a:=F*sz s.1) (k:=i.2.2.2.2) hFz.1 hFw (by simp only;rw[ha.1,g4];omega) w0 (by omega) (l:=l++d) (by simp only;rw[ha.1];exact g2)
   simp only at hgo
   rw[ha.2,Int.zero_add,hg2] at hgo
   rw[AD (e:=F*sz s.1) (by omega) (by omega),hgo,AD (by omega) (by omega)]
   refine⟨_,rfl,(s.1,s.2.1,fs),(i.1,i.2.1,F,L,i.2.2.2.2+n),_,l++d,rfl, ?_⟩
   have hll:=Pa.length g2
   have hlw:i.2.2.2.2+n<=s.2.1.length:=by
    have:cl (sz s.1) (i.2.2.2.2+n)*sz s.1<=s.2.2.length*sz s.1:=AAO (by have:=hg.len;omega) (by omega)
    rw[h.w];omega
   have N1:(l++d).length-l.length=d.length:=by simp
   refine⟨hg.vs,⟨⟨q0,q1,b0,b1,by simp only;omega,hlw⟩,.inr ⟨by simp only;omega,⟨F0,by simp only;omega⟩,g4,g5,l++d,g2,hld,hg.own.symm,g3⟩⟩,rfl,rfl,hg.len,rfl,rfl,rfl,z7,hl1,g2, ?_, ?_,mH,hld,hg.own,hg.oth,hg.frs,hg2, ?_⟩
   ·rw[N1,hg.split,List.take_left]
   ·rw[N1,hg.split,List.drop_left];exact hg.fre
   ·have e:need.toNat=d.length:=by omega
    rw[AY7,e];exact hgw
  ·right
   rw[AA (by omega)]
   have hr0:0<r0.length:=by
    have:=N5 List.length hg.split
    simp at this
    omega
   cases r0 with
   |nil=>simp at hr0
   |cons f r=>
    rw[AR5 (by have:=hg.len;simp only;omega) (show DA (s.1,s.2.1,fs).2.2=f::r from hg.fre) q0 q1 b0 b1]
    simp only[A9]
    obtain⟨s1,s2⟩:=hg.step q0 q1 b0 b1
    rw[AD (e:=(m:Int)-1) (by omega) (by omega)]
    have kB:gw i.1 (i.2.1*4294967296+i.1) (d++ [f]).length (s.2.2,i.2.2.1,i.2.2.2.1)=ACX i.1 (i.2.1*4294967296+i.1) (fs,F,L):=by
     rw[I5]
     show ACX _ _ (gw _ _ _ _)=_
     rw[hgw]
    have AY8:DA fs=f::r:=hg.fre
    by_cases hF:F= -1
    ·rw[AA hF]
     refine⟨m-1,_,by omega,rfl,by simp only;omega,by omega,d++ [f],r,by simp;omega,rfl,rfl,rfl,rfl,s1 hF,fun hw=> ?_,by rw[kB];simp only[ACX,AY8,AA hF]⟩
     have:=z7 hw
     rcases pA with ⟨g1,_⟩|⟨_,g1,_⟩
     ·exact absurd g1 hw
     ·omega
    ·obtain⟨⟨s3,s4⟩,s5⟩:=s2 hF
     rw[AB hF,AA ⟨s3,by simpa using s4⟩]
     exact⟨m-1,_,by omega,rfl,by simp only;omega,by omega,d++ [f],r,by simp;omega,rfl,rfl,rfl,rfl,s5,z7,by rw[kB];simp only[ACX,AY8,AB hF];rfl⟩
theorem ANC (s:Sp) (i:AH) (n:Int):
  (¬(VS s/\D5 s i/\1<=n/\n<=48)/\CY s i n=some ((0,[],[]),(0,0,0,0,0),0,1))∨
  ((VS s/\D5 s i/\1<=n/\n<=48)/\(
   (i.2.2.2.2=0/\owned s.2.2 i.1≠[]/\CY s i n=some ((0,[],[]),(0,0,0,0,0),0,5))∨
   ((i.2.2.2.2=0->owned s.2.2 i.1=[])/\(
    (((DA s.2.2).length:Int)<cl (sz s.1) (i.2.2.2.2+n)-cl (sz s.1) i.2.2.2.2/\CY s i n=some ((0,[],[]),(0,0,0,0,0),0,4))∨
    (cl (sz s.1) (i.2.2.2.2+n)-cl (sz s.1) i.2.2.2.2<=(DA s.2.2).length/\∃ t j a l l',CY s i n=some (t,j,a,0)/\Grown s i n t j a l l'))))):=by
 unfold CY
 obtain⟨b,h1,h2⟩:=z5 s i
 rw[h1]
 simp only[A9]
 by_cases hb:b=true
 rotate_left
 ·rw[AA (by simpa using hb)]
  exact .inl ⟨fun h=>hb (h2.2 ⟨h.1,h.2.1⟩),rfl⟩
 obtain⟨hv,hf⟩:=h2.1 hb
 rw[AB (by simp [hb])]
 by_cases c1:n<1
 ·rw[AA c1];exact .inl ⟨fun h=>by omega,rfl⟩
 rw[AB c1]
 by_cases c2:n>48
 ·rw[AA c2];exact .inl ⟨fun h=>by omega,rfl⟩
 rw[AB c2]
 refine .inr ⟨⟨hv,hf,by omega,by omega⟩, ?_⟩
 have key:(i.2.2.2.2=0->owned s.2.2 i.1=[])->∃ x,Option.bind (DO s) (fun r5=>
   Option.bind (CG r5 i n) (fun r6=>
   if ¬r6.2.2.1=0 then
   some (((0,[],[]),(0,0,0,0,0),0,r6.2.2.1))
   else some (((r5.1,r6.2.2.2),r6.1,r6.2.1,0))))=some x∧
    ((((DA s.2.2).length:Int)<cl (sz s.1) (i.2.2.2.2+n)-cl (sz s.1) i.2.2.2.2/\x=((0,[],[]),(0,0,0,0,0),0,4))∨
    (cl (sz s.1) (i.2.2.2.2+n)-cl (sz s.1) i.2.2.2.2<=(DA s.2.2).length/\∃ t j a l l',x=(t,j,a,0)/\Grown s i n t j a l l')):=by
  intro CO
  rw[VS.copy hv]
  simp only[A9]
  rcases z6 hv hf CO (n:=n) (by omega) (by omega) with ⟨g1,g2⟩|⟨g1,t,j,a,l,l',g2,g3⟩
  ·rw[g2]
   exact⟨_,rfl,.inl ⟨g1,rfl⟩⟩
  ·rw[g2]
   simp only[A9]
   rw[AB (by simp)]
   refine⟨_,rfl,.inr ⟨g1,t,j,a,l,l', ?_,g3⟩⟩
   rw[<-g3.sh]
 by_cases hw:i.2.2.2.2=0
 ·rw[AA hw]
  obtain⟨c,g1,g2⟩:=AR7 (s:=s) hv.n.2 i.1
  rw[g1]
  simp only[A9]
  by_cases hc:c=true
  ·rw[AA hc];exact .inl ⟨hw,g2.1 hc,rfl⟩
  ·rw[AB hc]
   have CO:owned s.2.2 i.1=[]:=uB fun h=>hc (g2.2 h)
   obtain⟨x,k1,k2⟩:=key fun _=>CO
   rw[k1]
   refine .inr ⟨fun _=>CO, ?_⟩
   rcases k2 with ⟨k2,rfl⟩|⟨k2,t,j,a,l,l',rfl,k3⟩
   ·exact .inl ⟨k2,rfl⟩
   ·exact .inr ⟨k2,t,j,a,l,l',rfl,k3⟩
 ·rw[AB hw]
  obtain⟨x,k1,k2⟩:=key fun h=>absurd h hw
  rw[k1]
  refine .inr ⟨fun h=>absurd h hw, ?_⟩
  rcases k2 with ⟨k2,rfl⟩|⟨k2,t,j,a,l,l',rfl,k3⟩
  ·exact .inl ⟨k2,rfl⟩
  ·exact .inr ⟨k2,t,j,a,l,l',rfl,k3⟩
theorem U6 {z:Int} (hz:0<z):∀ {l:List Int} {off a:Int},0<=off->DB z l off=some a->a / z∈l
 | [],_,_,_,h=>by cases h
 |g::r,off,a,h0,h=>by
  rw[DB] at h
  split at h
  ·rename_i h1
   simp only[AY] at h
   subst h
   rw[(PY hz h0 h1).1];simp
  ·exact S7 _ (U6 hz (by omega) h)
theorem JW {z:Int} (hz:0<z):∀ {l:List Int} {o1 o2 a:Int},l.Nodup->0<=o1->0<=o2->DB z l o1=some a->DB z l o2=some a->o1=o2
 | [],_,_,_,_,_,_,h,_=>by cases h
 |g::r,o1,o2,a,hd,h1,h2,e1,e2=>by
  obtain⟨n1,n2⟩:=T_.1 hd
  rw[DB] at e1 e2
  by_cases c1:o1<z
  ·rw[AA c1] at e1
   simp only[AY] at e1
   by_cases c2:o2<z
   ·rw[AA c2] at e2
    simp only[AY] at e2
    omega
   ·rw[AB c2] at e2
    have:=U6 hz (by omega) e2
    rw[<-e1,(PY hz h1 c1).1] at this
    exact absurd this n1
  ·rw[AB c1] at e1
   by_cases c2:o2<z
   ·rw[AA c2] at e2
    simp only[AY] at e2
    have:=U6 hz (by omega) e1
    rw[<-e2,(PY hz h2 c2).1] at this
    exact absurd this n1
   ·rw[AB c2] at e2
    have:=JW hz n2 (by omega) (by omega) e1 e2
    omega
theorem PZ:∀ {l m:List Int},l.Nodup->(∀ x∈l,x∈m)->l.length<=m.length
 | [],_,_,_=>by simp
 |a::r,m,hd,h=>by
  obtain⟨n1,n2⟩:=T_.1 hd
  have ha:=h a (by simp)
  have:=PZ (m:=m.erase a) n2 (fun x hx=>(List.mem_erase_of_ne (show x≠a from fun e=>n1 (e ▸ hx))).2 (h x (by simp [hx])))
  rw[List.length_erase_of_mem ha] at this
  have:0<m.length:=List.length_pos_of_mem ha
  simp
  omega
def dH (r d:Int):BitVec 64:=BitVec.ofInt 64 ((1+r+d)*256+r*2)
theorem qE {r d:Int} (r0:0<=r) (r1:r<=15) (d0:0<=d) (d1:d<=32):C9 r d=some (dH r d,0):=by
 unfold C9
 rw[AB (by omega),AB (by omega),AB (by omega),AB (by omega),AD (e:=1+r) (by omega) (by omega),AD (e:=1+r+d) (by omega) (by omega),AD (e:=(1+r+d)*256) (by omega) (by omega),AD (e:=r*2) (by omega) (by omega),AD (by omega) (by omega)]
 rfl
structure AHT (z:Int) (ws ws' :List (BitVec 64)) (l:List Int) (at' m:Int) (w:BitVec 64):Prop where
 len:ws'.length=ws.length
 head:∀ x,DB z l at' =some x->gl 0#64 ws' x.toNat=w
 z8:∀ k x,1<=k->k<=m->DB z l (at' +k)=some x->gl 0#64 ws' x.toNat=0#64
 oth:∀ x:Nat,(∀ k,0<=k->k<=m->DB z l (at' +k)≠some (x:Int))->gl 0#64 ws' x=gl 0#64 ws x
theorem AR8 {s:Sp} (h:VS s) {a r d:Int} (a0:0<=a) (a1:a<s.2.1.length) (hu:(fr s.2.2 (a / sz s.1)).1≠-1) {l:List Int} (hl:Pa s.2.2 (a / sz s.1) l)
  (r0:0<=r) (r1:r<=15) (d0:0<=d) (d1:d<=32) {e:Int} (he:DB (sz s.1) l (a%sz s.1+(r+d))=some e):
  ∃ ws,FL s a r d=some (0,ws,s.2.2)/\VS (s.1,ws,s.2.2)/\AHT (sz s.1) s.2.1 ws l (a%sz s.1) (r+d) (dH r d):=by
 have oB:=VS.O2 h
 have z:=CA s.1
 have m0:=jL a (show sz s.1≠0 by omega)
 have m1:=nM a z
 have C7:=zY z (by omega) he
 have CJ:l≠[]:=by rintro rfl;cases he
 have sQ:DB (sz s.1) l (a%sz s.1)=some a:=by
  cases l with
  |nil=>exact absurd rfl CJ
  |cons b q=>
   obtain⟨rfl,_⟩:=hl
   rw[DB,AA m1,Int.mul_comm,Int.mul_ediv_add_emod]
 have hpl:∀ k,0<=k->k<=r+d->∃ x,DB (sz s.1) l (a%sz s.1+k)=some x/\0<=x/\x<s.2.1.length/\(fr s.2.2 (x / sz s.1)).1≠-1:=by
  intro k k0 k1
  obtain⟨g,hg1,hg2⟩:=RI z (l:=l) (off:=a%sz s.1+k) (by omega) (by omega)
  have hm:=U6 z (by omega) hg2
  obtain⟨x0,x1⟩:=hl.mem hm
  refine⟨_,hg2, ?_, ?_, ?_⟩
  ·have:=(xX z).1 x0;omega
  ·rw[h.w];exact (AAS z).1 x1
  ·rw[(h.owner hl _ hm).1];exact hu
 unfold FL
 rw[qE r0 r1 d0 d1,AD (e:=r+d) (by omega) (by omega)]
 simp only[A9]
 rw[AB (by simp),gH h a0 a1 hu (by omega) (by omega) hl,he]
 simp only[A9,ZO]
 rw[AB (by simp),AA ⟨a0,a1⟩]
 have hx:=AR (β:=Int×List (BitVec 64)×List (Int×Int×Int)) (f:=fun s1:Int×List (BitVec 64)=>
   if s1.1<=r+d then
   Option.bind (A5 (s.1,s1.2,s.2.2) a s1.1) (fun r3=>
   if 0<=r3.1/\r3.1<(s1.2.length:Int) then
   some (Sum.inl ((AG (s1.1+1),s1.2.set r3.1.toNat (0#64))))
   else none)
   else some (Sum.inr ((0,s1.2,s.2.2))))
  (fun k st=>st.1=(k:Int)+1/\(k:Int)<=r+d/\VS (s.1,st.2,s.2.2)/\AHT (sz s.1) s.2.1 st.2 l (a%sz s.1) k (dH r d))
  (fun b=>∃ ws,b=(0,ws,s.2.2)/\VS (s.1,ws,s.2.2)/\AHT (sz s.1) s.2.1 ws l (a%sz s.1) (r+d) (dH r d)) (r+d).toNat ?_ ?_ (s:=(1,s.2.1.set a.toNat (dH r d)))
  ⟨rfl,by simp;omega,h.word a0 hu _, ?_⟩
 ·obtain⟨b,hb,ws,rfl,h1,h2⟩:=hx
  exact⟨ws,hb,h1,h2⟩
 ·rintro k ⟨q,ws⟩ hk ⟨h1,h2,h3,h4⟩
  simp only at h1 h3 h4 ⊢
  subst h1
  obtain⟨x,x0,x1,x2,x3⟩:=hpl (k+1) (by omega) (by omega)
  have hgo:=gH h3 (a:=a) (k:=(k:Int)+1) a0 (by simp only;rw[h4.len];exact a1) hu (by omega) (by omega) (l:=l) hl
  simp only at hgo
  rw[x0] at hgo
  rw[AA (by omega),hgo]
  simp only[A9,ZO]
  rw[AA ⟨x1,by rw[h4.len];exact x2⟩,AD (by omega) (by omega)]
  refine .inl ⟨_,rfl,by simp only;omega,by omega,h3.word x1 x3 _,by simpa using h4.len,fun y hy=> ?_,fun j y j0 j1 hy=> ?_,fun y hy=> ?_⟩
  ·have hxy:y.toNat≠x.toNat:=by
    intro he
    rw[sQ] at hy
    simp only[AY] at hy
    subst hy
    have:x=a:=by omega
    subst this
    have:=JW z hl.nodup m0 (by omega) sQ x0
    omega
   rw[D0 (by rw[h4.len];omega),AB hxy]
   exact h4.head y hy
  ·rw[D0 (by rw[h4.len];omega)]
   by_cases gC:j=k+1
   ·subst gC
    rw[x0] at hy
    simp only[AY] at hy
    rw[AA (by rw[hy])]
   ·split
    ·rfl
    ·exact h4.z8 j y j0 (by omega) hy
  ·rw[D0 (by rw[h4.len];omega),AB]
   ·exact h4.oth y fun j j0 j1=>hy j j0 (by omega)
   ·intro he
    exact hy (k+1) (by omega) (by omega) (by rw[x0];congr 1;omega)
 ·rintro⟨q,ws⟩ ⟨h1,h2,h3,h4⟩
  simp only at h1 h3 h4 ⊢
  rw[AB (by omega)]
  rw[show (((r+d).toNat:Nat):Int)=r+d from by omega] at h4
  exact⟨_,rfl,ws,rfl,h3,h4⟩
 ·refine⟨by simp,fun x hx=> ?_,fun k x k0 k1=>by simp at k1;omega,fun x hx=> ?_⟩
  ·rw[sQ] at hx
   simp only[AY] at hx
   subst hx
   rw[D0 (by omega),AA rfl]
  ·rw[D0 (by omega),AB]
   rintro rfl
   exact hx 0 (by omega) (by simp) (by rw[ZV,sQ];congr 1;omega)
def DM (z:Int) (ws:List (BitVec 64)) (l:List Int):Int->List (Int×Int)->Int->Prop
 |at',[],w=>at' =w
 |at',o::r,w=>((0<=o.1/\o.1<=15)/\(0<=o.2/\o.2<=32))/\(∃ a,DB z l at' =some a/\gl 0#64 ws a.toNat=dH o.1 o.2)/\DM z ws l (at' +(1+o.1+o.2)) r w
theorem DM.le {z:Int} {ws:List (BitVec 64)} {l:List Int}:∀ {os:List (Int×Int)} {at' w:Int},DM z ws l at' os w->at' <=w
 | [],_,_,h=>by rw[DM] at h;omega
 |o::r,at',w,h=>by have:=h.2.2.le;have:=h.1;omega
theorem DM.AL {z:Int} {ws ws' :List (BitVec 64)} {l l' :List Int}:∀ {os:List (Int×Int)} {at' w:Int},DM z ws l at' os w→
  (∀ p a,at' <=p->p<w->DB z l p=some a->DB z l' p=some a/\gl 0#64 ws' a.toNat=gl 0#64 ws a.toNat)->DM z ws' l' at' os w
 | [],_,_,h,_=>h
 |o::r,at',w,h,hk=>by
  obtain⟨h1,⟨a,h2,h3⟩,h4⟩:=h
  have:=h4.le
  obtain⟨k1,k2⟩:=hk at' a (by omega) (by omega) h2
  exact⟨h1,⟨a,k1,k2.trans h3⟩,h4.AL fun p b p0 p1 hp=>hk p b (by omega) p1 hp⟩
theorem DM.snoc {z:Int} {ws:List (BitVec 64)} {l:List Int} {r d a:Int} (hr:0<=r/\r<=15) (hd:0<=d/\d<=32):∀ {os:List (Int×Int)} {at' w:Int},DM z ws l at' os w->DB z l w=some a->gl 0#64 ws a.toNat=dH r d→
  DM z ws l at' (os++ [(r,d)]) (w+(1+r+d))
 | [],at',w,h,ha,hw=>by
  rw[DM] at h
  subst h
  exact⟨⟨hr,hd⟩,⟨a,ha,hw⟩,rfl⟩
 |o::q,at',w,h,ha,hw=>⟨h.1,h.2.1,h.2.2.snoc hr hd ha hw⟩
def Full (s:Sp) (i:AH) (os:List (Int×Int)):Prop:=∃ l,Has s i l/\DM (sz s.1) s.2.1 l 0 os i.2.2.2.2
theorem Grown.other {s:Sp} {i:AH} {n:Int} {t:Sp} {j:AH} {a:Int} {l l' :List Int} (h:VS s) (g:Grown s i n t j a l l') {p:AH} (hp:D5 s p) (CJ:p.1≠i.1):
  D5 t p/\(∀ lp,Has s p lp->Has t p lp/\∀ x∈lp,(fr t.2.2 x).1=p.1):=by
 have CO:∀ lp,p.2.2.2.2≠0->Pa s.2.2 p.2.2.1 lp->(∀ x∈lp,fr t.2.2 x=fr s.2.2 x/\(fr t.2.2 x).1=p.1)/\Pa t.2.2 p.2.2.1 lp:=by
  intro lp hw hpa
  rcases hp.2 with ⟨h1,_⟩|⟨_,h2,h3,h4,_⟩
  ·exact absurd h1 hw
  ·have hx:∀ x∈lp,fr t.2.2 x=fr s.2.2 x/\(fr t.2.2 x).1=p.1:=by
    intro x hx
    obtain⟨x0,x1⟩:=hpa.mem hx
    have ho:=(h.owner hpa x hx).1
    rw[h3] at ho
    have:=hp.1.1
    have e:=g.frs x x0 x1 (by omega) (by omega)
    exact⟨e,by rw[e];exact ho⟩
   refine⟨hx,hpa.iY g.len fun x hm=> ?_⟩
   obtain⟨x0,x1⟩:=hpa.mem hm
   rw[HL x0 x1,HL x0 (by rw[g.len];exact x1),(hx x hm).1]
 refine⟨⟨by rw[g.ws];exact hp.1, ?_⟩, ?_⟩
 ·rcases hp.2 with h1|⟨h1,h2,h3,h4,lp,h5,h6,h7,h8⟩
  ·exact .inl h1
  ·obtain⟨k1,k2⟩:=CO lp h1 h5
   have A0H:lp≠[]:=by rintro rfl;simp at h8
   obtain⟨f0,f1,f2⟩:=Pa.head h5 A0H
   refine .inr ⟨h1,by rw[g.len];exact h2, ?_, ?_,lp,k2,by rw[g.sh];exact h6, ?_,h8⟩
   ·rw[(k1 _ f2).1];exact h3
   ·rw[(k1 _ f2).1];exact h4
   ·rw[g.oth p.1 CJ (by have:=hp.1.1;omega)];exact h7
 ·intro lp yU
  rcases yU with ⟨h1,rfl⟩|⟨h1,h2⟩
  ·exact⟨.inl ⟨h1,rfl⟩,fun x hx=>by cases hx⟩
  ·obtain⟨k1,k2⟩:=CO lp h1 h2
   exact⟨.inr ⟨h1,k2⟩,fun x hx=>(k1 x hx).2⟩
theorem AK8 {s:Sp} {i:AH} (h:VS s) (hf:D5 s i) (hw:i.2.2.2.2≠0) {x:Int} (hx:x∈owned s.2.2 i.1) {l:List Int} (hl:Has s i l):x∈l:=by
 rcases hl with ⟨h1,_⟩|⟨_,hp⟩
 ·exact absurd h1 hw
 rcases hf.2 with ⟨h1,_⟩|⟨_,_,h3,_,l2,h5,_,h7,_⟩
 ·exact absurd h1 hw
 have:=hp.fn h5
 subst this
 apply uB
 intro hn
 have JB:∀ y∈l,y∈(owned s.2.2 i.1).erase x:=by
  intro y hy
  rw[(RH _ _).mem_erase_iff]
  refine⟨fun e=>hn (e ▸ hy),B0.2 ⟨hp.mem hy,by rw[(h.owner hp y hy).1];exact h3⟩⟩
 have hle:=PZ hp.nodup JB
 rw[List.length_erase_of_mem hx] at hle
 have:0<(owned s.2.2 i.1).length:=List.length_pos_of_mem hx
 omega
structure Mk (s:Sp) (l:List (AH)) (i:AH):Prop where
 vs:VS s
 sh:s.1<=4
 n:s.2.2.length<=10
 fits:∀ p∈l,D5 s p/\0<p.2.2.2.2/\p.2.1<3/\p.1<i.1/\∃ os,Full s p os
 cur:D5 s i
 own:i.2.2.2.2=0->owned s.2.2 i.1=[]
 full:∃ os,Full s i os
 all:∀ x:Int,0<=x->x<s.2.2.length->(fr s.2.2 x).1≠-1->(fr s.2.2 x).1=i.1\/∃ p∈l,p.1=(fr s.2.2 x).1
structure lI (s:Sp) (i:AH) (r d:Int) (u:Sp) (j:AH) (a:Int) (l l' :List Int):Prop where
 grown:Grown s i (1+r+d) (s.1,s.2.1,u.2.2) j a l l'
 vs:VS u
 sh:u.1=s.1
 wr:AHT (sz s.1) s.2.1 u.2.1 l' i.2.2.2.2 (r+d) (dH r d)
theorem D5.words {s:Sp} {ws:List (BitVec 64)} {p:AH} (hl:ws.length=s.2.1.length) (h:D5 s p):D5 (s.1,ws,s.2.2) p:=by
 refine⟨?_,h.2⟩
 obtain⟨a,b,c,d,e,f⟩:=h.1
 exact⟨a,b,c,d,e,by simp only;omega⟩
theorem AR9 {s:Sp} (h:VS s) {i:AH} {r d:Int} (r0:0<=r) (r1:r<=15) (d0:0<=d) (d1:d<=32) {t:Sp} {j:AH} {a:Int} {l l' :List Int} (hf:D5 s i) (g:Grown s i (1+r+d) t j a l l'):
  ∃ u,FL t a r d=some (0,u.2.1,u.2.2)/\u.2.2=t.2.2/\lI s i r d u j a l l' :=by
 have z:=CA s.1
 have hw:=hf.1.2.2.2.2.1
 have hgr:Grown s i (1+r+d) (s.1,s.2.1,t.2.2) j a l l' :=by
  rw[<-g.sh,←g.ws];exact g
 have C7:=zY z hw g.IP
 obtain⟨l2,p1,⟨p2,p3,p4⟩,p5⟩:=OZ z g.path hw g.IP (S9 0)
 have kB:∀ k,0<=k->DB (sz s.1) l2 (a%sz s.1+k)=DB (sz s.1) l' (i.2.2.2.2+k):=by
  intro k k0
  obtain⟨l3,q1,_,q2⟩:=OZ z g.path hw g.IP k0
  rw[p1.fn q1];exact q2
 have hc:=P7 (n:=i.2.2.2.2+(1+r+d)) z
 rw[<-g.AV4] at hc
 obtain⟨_,_,A0I⟩:=RI z (l:=l') (off:=i.2.2.2.2+(r+d)) (by omega) (by omega)
 have CO:∀ x∈l',(fr t.2.2 x).1=i.1:=by
  intro x hx
  have AJM:=g.fit
  have:=(g.vs.owner g.path x hx).1
  rcases AJM.2 with ⟨h1,_⟩|⟨_,_,h3,_⟩
  ·rw[g.words] at h1;omega
  ·rw[this,h3,g.seq]
 have hu:(fr t.2.2 (a / sz t.1)).1≠-1:=by
  rw[g.sh,CO _ p4];have:=hf.1.1;omega
 have ha0:0<=a:=by
  have:=(xX z).1 p2;omega
 have ha1:a<t.2.1.length:=by
  rw[g.vs.w,g.sh];exact (AAS z).1 p3
 obtain⟨ws,h1,h2,h3⟩:=AR8 g.vs ha0 ha1 hu (l:=l2) (by rw[g.sh];exact p1) r0 r1 d0 d1 (e:=_) (by rw[g.sh,kB _ (by omega)];exact A0I)
 refine⟨(t.1,ws,t.2.2),h1,rfl,hgr,h2,g.sh, ?_⟩
 rw[g.sh,g.ws] at h3
 refine⟨h3.len,fun x hx=>h3.head x ?_,fun k x k0 k1 hx=>h3.z8 k x k0 k1 (by rw[kB k (by omega)];exact hx),fun x hx=>h3.oth x fun k k0 k1=>by rw[kB k k0];exact hx k k0 k1⟩
 rw[<-ZV (a%sz s.1),kB 0 (by omega),ZV];exact hx
theorem lI.other {s:Sp} {i:AH} {r d:Int} {u:Sp} {j:AH} {a:Int} {l l' :List Int} (h:VS s) (hi:D5 s i) (g:lI s i r d u j a l l') {p:AH} (hp:D5 s p) (CJ:p.1≠i.1):
  D5 u p/\(∀ lp,Has s p lp->Has u p lp/\∀ off x,0<=off->DB (sz s.1) lp off=some x->gl 0#64 u.2.1 x.toNat=gl 0#64 s.2.1 x.toNat)/\∀ os,Full s p os->Full u p os:=by
 have z:=CA s.1
 have hlen:=g.wr.len
 obtain⟨k1,k2⟩:=g.grown.other h hp CJ
 have hu:u=(s.1,u.2.1,u.2.2):=by rw[<-g.sh]
 have AJM:D5 u p:=by
  rw[hu]
  exact D5.words (s:=(s.1,s.2.1,u.2.2)) hlen k1
 have hw:∀ lp,Has s p lp->Has u p lp/\∀ off x,0<=off->DB (sz s.1) lp off=some x->gl 0#64 u.2.1 x.toNat=gl 0#64 s.2.1 x.toNat:=by
  intro lp yU
  obtain⟨k3,k4⟩:=k2 lp yU
  refine⟨k3,fun off x o0 hx=> ?_⟩
  have hm:=U6 z o0 hx
  have hx0:0<=x:=by
   have hpa:Pa u.2.2 p.2.2.1 lp:=by
    rcases k3 with ⟨_,rfl⟩|⟨_,k3⟩
    ·cases hm
    ·exact k3
   have:=(xX z).1 (hpa.mem hm).1;omega
  refine g.wr.oth x.toNat fun k q0 q1 he=> ?_
  rw[qU hx0] at he
  have hm2:=U6 z (by have:=hi.1.2.2.2.2.1;omega) he
  have o1:=k4 _ hm
  have o2:=(g.grown.vs.owner g.grown.path _ hm2).1
  have o3:(fr u.2.2 j.2.2.1).1=j.1:=by
   rcases g.grown.fit.2 with ⟨h1,_⟩|⟨_,_,h3,_⟩
   ·have:=g.grown.words;have:=hi.1.2.2.2.2.1;have:=g.wr
    have hl:=zY z hi.1.2.2.2.2.1 g.grown.IP
    have mH:=g.grown.AV4
    exfalso
    have U9:l'.length≠0:=by
     intro h0;rw[h0] at hl;simp at hl;omega
    have h7:i.2.2.2.2+(1+r+d)=0:=by omega
    rw[h7,AHR z] at mH;omega
   ·exact h3
  simp only at o2
  rw[o1,o3,g.grown.seq] at o2
  exact CJ o2
 refine⟨AJM,hw, ?_⟩
 rintro os ⟨lp,yU,ht⟩
 obtain⟨k3,k4⟩:=hw lp yU
 refine⟨lp,k3, ?_⟩
 rw[g.sh]
 exact ht.AL fun q x q0 q1 hq=>⟨hq,k4 q x q0 hq⟩
theorem lI.self {s:Sp} {i:AH} {r d:Int} {u:Sp} {j:AH} {a:Int} {l l' :List Int} (h:VS s) (hi:D5 s i) (r0:0<=r) (r1:r<=15) (d0:0<=d) (d1:d<=32) (g:lI s i r d u j a l l'):
  D5 u j/\∀ os,Full s i os->Full u j (os++ [(r,d)]):=by
 have z:=CA s.1
 have hu:u=(s.1,u.2.1,u.2.2):=by rw[<-g.sh]
 refine⟨by rw[hu];exact D5.words (s:=(s.1,s.2.1,u.2.2)) g.wr.len g.grown.fit, ?_⟩
 rintro os ⟨lp,yU,ht⟩
 have hll:lp=l:=by
  rcases yU with ⟨h1,rfl⟩|⟨h1,h2⟩
  ·rcases g.grown.has with ⟨_,rfl⟩|⟨h3,_⟩
   ·rfl
   ·exact absurd h1 h3
  ·rcases g.grown.has with ⟨h3,_⟩|⟨_,h4⟩
   ·exact absurd h3 h1
   ·exact h2.fn h4
 subst hll
 refine⟨l',.inr ⟨by rw[g.grown.words];have:=hi.1.2.2.2.2.1;omega,g.grown.path⟩, ?_⟩
 rw[g.sh,g.grown.words]
 refine DM.snoc ⟨r0,r1⟩ ⟨d0,d1⟩ (ht.AL fun q x q0 q1 hq=> ?_) g.grown.IP (g.wr.head a g.grown.IP)
 have O5 :DB (sz s.1) l' q=some x:=by rw[g.grown.more];exact CS hq
 refine⟨O5,g.wr.oth x.toNat fun k k0 k1 he=> ?_⟩
 have hm:=U6 z q0 O5
 have hx0:0<=x:=by have:=(xX z).1 (g.grown.path.mem hm).1;omega
 rw[qU hx0] at he
 have:=JW z g.grown.path.nodup (by omega) q0 he O5
 omega
structure Made (s:Sp) (l:List AH):Prop where
 vs:VS s
 sh:s.1<=4
 n:s.2.2.length<=10
 cnt:l.length<=4
 fits:∀ p∈l,D5 s p/\0<p.2.2.2.2/\p.2.1<3/\p.1<15/\∃ os,Full s p os
 asc:l.Pairwise fun a b=>a.1<b.1
 all:∀ x:Int,0<=x->x<s.2.2.length->(fr s.2.2 x).1≠-1->∃ p∈l,p.1=(fr s.2.2 x).1
theorem AK9 {β:Type} {f:Int->Option (Int ⊕ β)} (n:Nat) (hs:∀ k:Nat,k<n->f k=some (.inl ((k:Int)+1))) {r:β} (he:f n=some (.inr r)):AM f 0=some r:=by
 refine LA (fun m i=>i=(n:Int)-m/\m<=n) (n:=n) ?_ ⟨by omega,by omega⟩
 rintro m i ⟨rfl,hm⟩
 by_cases h0:m=0
 ·subst h0
  left;simpa using he
 ·right
  refine⟨m-1,(n:Int)-m+1,by omega, ?_, ?_,by omega⟩
  ·have:=hs (n-m) (by omega)
   rw[show ((n-m:Nat):Int)=(n:Int)-m from by omega] at this
   exact this
  ·omega
theorem BR {α:Type} {d:α} {xs:List α} {k:Nat} (h:k<xs.length):gl d xs k∈xs:=by
 rw[DZ h];exact List.getElem_mem h
theorem ARA (l:List Int) (h:l.length<=maxLen):∃ d,L5 l=some d/\RJ d:=by
 unfold L5
 exact⟨_,rfl,by simp,by unfold maxLen at h;simp only;omega⟩
theorem dK {α:Type} (xs:List α) (k:Nat):BX xs k (xs.length-k)=xs.drop k:=by
 unfold BX
 rw[List.take_of_length_le (by simp)]
theorem AND {s:Sp} (h:3<=s.1/\s.1<=8):UW s=some (sz s.1):=by
 obtain⟨z1,z2⟩:=LF h
 unfold UW
 rw[xA]
 simp only[A9]
 rw[AB (by simp [h]),AA trivial,OF h,Int.one_mul,AD (by omega) (by omega)]
theorem VS.z9 {s:Sp} (h:VS s):HP s=some true:=by
 obtain⟨b,h1,h2⟩:=xC s h.stI
 rw[h1,h2.2 h]
theorem xD {s:Sp} (h:¬VS s) (hI:StI s):HP s=some false/\GD s=some false:=by
 obtain⟨b,h1,h2⟩:=xC s hI
 obtain⟨c,h3,h4⟩:=xB s
 have hb:b=false:=by cases b with|false=>rfl|true=>exact absurd (h2.1 rfl) h
 have hc:c=false:=by cases c with|false=>rfl|true=>exact absurd (h4.1 rfl) h
 rw[h1,h3,hb,hc];exact⟨rfl,rfl⟩
theorem ANE {s:Sp} (hn:s.2.2.length<=64):∃ w,XW s=some w/\AFX s.2.2 w:=by
 unfold XW
 refine AR (fun k (st:BitVec 64×Int)=>st.2=(k:Int)/\k<=s.2.2.length/\∀ j,j<64->st.1.getLsbD j=decide (j<k/\(fr s.2.2 j).1= -1)) (fun b=>AFX s.2.2 b) s.2.2.length ?_ ?_ ⟨rfl,by omega,fun j hj=>by simp⟩
 ·rintro k ⟨w,i⟩ hk ⟨h1,_,h2⟩
  simp only at h1 h2 ⊢
  subst h1
  have NL:gl (0,0,0) s.2.2 (k:Int).toNat=fr s.2.2 k:=rfl
  rw[AA (by omega),AA (by omega),NL,AD (by omega) (by omega)]
  by_cases hf:(fr s.2.2 k).1= -1
  ·rw[AA hf,AA (by omega),AA trivial]
   refine .inl ⟨_,rfl,by simp only;omega,by omega,fun j hj=> ?_⟩
   simp only
   rw[w9 (by omega) (by omega),I3,AHL _ _ (by omega),h2 j hj]
   by_cases e:k=j
   ·subst e;simp [hf]
   ·simp only[e,decide_false,Bool.or_false,o7]
    constructor
    ·rintro⟨a,b⟩;exact⟨by omega,b⟩
    ·rintro⟨a,b⟩;exact⟨by omega,b⟩
  ·rw[AB hf]
   refine .inl ⟨_,rfl,by simp only;omega,by omega,fun j hj=> ?_⟩
   simp only
   rw[h2 j hj,o7]
   constructor
   ·rintro⟨a,b⟩;exact⟨by omega,b⟩
   ·rintro⟨a,b⟩
    refine⟨?_,b⟩
    have:j≠k:=fun e=>hf (by rw[<-e];exact b)
    omega
 ·rintro⟨w,i⟩ ⟨h1,_,h2⟩
  simp only at h1 h2 ⊢
  rw[AB (by omega)]
  exact⟨_,rfl,h2⟩
theorem AKA (w:BitVec 64):(ACW w).length<=64:=by
 have:=oX (fun i=>w.getLsbD i) (List.range 64)
 rw[List.length_range] at this
 exact this
theorem ANF {s:Sp} (hn:s.2.2.length<=64):JN s=some ((s.2.2.length:Int)-(DA s.2.2).length):=by
 have hl:(DA s.2.2).length<=s.2.2.length:=S4 s.2.2 (-1)
 unfold JN
 rw[qD hn]
 simp only[A9]
 rw[AD (by omega) (by omega)]
def AV6 (s:Sp) (o st:Int):Prop:=∀ x:Int,0<=x->x<s.2.2.length->(fr s.2.2 x).1=o->(fr s.2.2 x).2.1=st
theorem ARB {β:Type} {f:Int×List (BitVec 64)->Option ((Int×List (BitVec 64)) ⊕ β)} {ws:List (BitVec 64)} {a n:Nat} {r:β}
  (hs:∀ k:Nat,k<n->f (((a+k:Nat):Int),zr ws a k)=some (.inl (((a+k+1:Nat):Int),(zr ws a k).set (a+k) 0#64))) (he:f (((a+n:Nat):Int),zr ws a n)=some (.inr r)):AM f ((a:Int),ws)=some r:=by
 refine LA (fun m (st:Int×List (BitVec 64))=>m<=n/\st=(((a+(n-m):Nat):Int),zr ws a (n-m))) (n:=n) ?_ ⟨by omega,by simp [zr]⟩
 rintro m st ⟨hm,rfl⟩
 by_cases h0:m=0
 ·subst h0;exact .inl he
 ·refine .inr ⟨m-1,_,by omega,hs _ (by omega),by omega, ?_⟩
  have e:n-(m-1)=(n-m)+1:=by omega
  rw[e,zr]
  rfl
theorem AG3 {s:Sp} (h:VS s) {k:Nat} (hk:k<s.2.2.length):((k*(sz s.1).toNat:Nat):Int)=(k:Int)*sz s.1/\(((k+1)*(sz s.1).toNat:Nat):Int)=((k:Int)+1)*sz s.1/\k*(sz s.1).toNat+(sz s.1).toNat<=s.2.1.length/\(k+1)*(sz s.1).toNat=k*(sz s.1).toNat+(sz s.1).toNat:=by
 have hz:=CA s.1
 have hzn:((sz s.1).toNat:Int)=sz s.1:=qU (by omega)
 have e1:((k*(sz s.1).toNat:Nat):Int)=(k:Int)*sz s.1:=by rw[Int.natCast_mul,hzn]
 have e2:(((k+1)*(sz s.1).toNat:Nat):Int)=((k:Int)+1)*sz s.1:=by rw[Int.natCast_mul,hzn];rfl
 have e3:(k+1)*(sz s.1).toNat=k*(sz s.1).toNat+(sz s.1).toNat:=by rw[ZU,Nat.one_mul]
 have e4:=(aJ h.sh (by omega:(0:Int)<=(k:Int)+1) (by omega:(k:Int)+1<=s.2.2.length)).2
 have:=h.w
 exact⟨e1,e2,by omega,e3⟩
theorem AKB {s:Sp} (h:VS s) (o:Int) (oz:o≠-1):GI s o=some (gvN s.2.2 o s.2.2.length,(gv s o).2):=by
 have hn:=h.n.2
 have hw:=VS.O2 h
 unfold GI
 refine (AR (fun k (st:Int×Sp)=>k<=s.2.2.length/\st=(gvN s.2.2 o k,(k:Int),gvW s o k,gvF s.2.2 o k)) (fun b=>b=(gvN s.2.2 o s.2.2.length,(gv s o).2)) s.2.2.length ?_ ?_ (s:=((0:Int),(0:Int),s.2.1,s.2.2)) ⟨by omega,rfl⟩).elim fun b hb=>by rw[hb.1,hb.2]
 ·rintro k st hk ⟨_,rfl⟩
  have NL:gl (0,0,0) (gvF s.2.2 o k) (k:Int).toNat=fr (gvF s.2.2 o k) k:=rfl
  have A0J:fr (gvF s.2.2 o k) k=fr s.2.2 k:=by rw[AG0 s.2.2 o k (by omega) k (by omega),AB (by omega)]
  have hc:=AFZ s.2.2 o k
  obtain⟨z1,z2,z3,z4⟩:=AG3 h hk
  simp only
  rw[AA (by omega),AA (by rw[lH];omega),NL,A0J,AD (e:=(k:Int)+1) (by omega) (by omega)]
  left
  by_cases ho:(fr s.2.2 k).1=o
  ·rw[AB (I4 ho),AA (by rw[lH];omega),AA trivial,OF h.sh,←z1,←z2,AD (e:=gvN s.2.2 o k+1) (by omega) (by omega),AD (e:=((k*(sz s.1).toNat:Nat):Int)) (by omega) (by omega),AD (e:=(((k+1)*(sz s.1).toNat:Nat):Int)) (by omega) (by omega)]
   refine⟨(gvN s.2.2 o k+1,(k:Int)+1,zr (gvW s o k) (k*(sz s.1).toNat) (sz s.1).toNat,(gvF s.2.2 o k).set k (-1, -1, -1)), ?_,by omega, ?_⟩
   ·refine ARB (a:=k*(sz s.1).toNat) (n:=(sz s.1).toNat) (fun m hm=> ?_) ?_
    ·simp only
     rw[AA trivial,AA (by omega),AA (by rw[AFY,zZ];omega),AD (by omega) (by omega)]
     rfl
    ·simp only
     rw[AA trivial,AB (by omega)]
     rfl
   ·simp only[gvN,gvW,gvF,AA ho]
    rfl
  ·rw[AA ho]
   refine⟨_,rfl,by omega, ?_⟩
   simp only[gvN,gvW,gvF,AB ho]
   rfl
 ·rintro st ⟨_,rfl⟩
  simp only
  rw[AB (by omega)]
  exact⟨_,rfl,rfl⟩
theorem AV6.none {s:Sp} {o st:Int} (h:owned s.2.2 o=[]):AV6 s o st:=by
 intro x x0 x1 hx
 have:x∈owned s.2.2 o:=B0.2 ⟨⟨x0,x1⟩,hx⟩
 rw[h] at this;cases this
theorem ACY {s:Sp} {f:Int} (h0:0<=f) (h1:f<s.2.2.length):U0 s f=some (decide ((fr s.2.2 f).1= -1)):=by
 unfold U0
 rw[AA ⟨h0,h1⟩];rfl
theorem ANG (s:Sp) (f:Int):dJ s f=some (decide (0<=f/\f<s.2.2.length)):=by
 unfold dJ
 by_cases h:f≥0
 ·rw[AA h];congr 1;rw[gO,N2,N2];omega
 ·rw[AB h];congr 1;rw[gO,N2];simp;omega
theorem ANH {s:Sp} (h:VS s) {f:Int} (f0:0<=f) (f1:f<s.2.2.length) (hu:(fr s.2.2 f).1≠-1) {l:List Int} (hl:Pa s.2.2 f l):N0 s f=some (l,0):=by
 have hn:=h.n.2
 have hll:=hl.length
 unfold N0
 rw[VS.z9 h,ANG,ACY f0 f1]
 simp only[A9]
 rw[AB (by simp),AB (by simp [f0,f1]),AB (by simpa using hu)]
 refine LA (fun k (st:List Int×Int)=>∃ l2,l=st.1++l2/\Pa s.2.2 st.2 l2/\l2.length=k) (n:=l.length) ?_ ⟨l,rfl,hl,rfl⟩
 rintro k ⟨acc,f⟩ ⟨l2,h1,h2,h3⟩
 simp only at h1 h2 ⊢
 cases l2 with
 |nil=>
  left
  rw[Pa] at h2
  rw[AB (by omega),h1,G5]
 |cons a r=>
  right
  obtain⟨rfl,g0,g1,g2⟩:=h2
  have:=N5 List.length h1
  simp at this h3
  have NL:(gl (0,0,0) s.2.2 f.toNat).2.2=nx s.2.2 f:=(HL g0 g1).symm
  rw[AA g0,AA (by simp;omega),AA ⟨g0,g1⟩,NL]
  exact⟨k-1,_,by omega,rfl,r,by simp [h1],g2,by omega⟩
theorem ACZ {n s:Int} (hs:3<=s/\s<=8) (h0:0<=n) (h1:n<=1000000):TY n s=some (cl (sz s) n):=by
 obtain⟨z1,z2⟩:=LF hs
 unfold TY
 rw[AB (by omega),AB (by omega),AB (by omega),AB (by omega),AA trivial,AA trivial,OF hs,Int.one_mul,AD (e:=sz s) (by omega) (by omega),AD (e:=n+sz s) (by omega) (by omega),AD (by omega) (by omega)]
 rfl
theorem XY {s:Sp} (h:VS s) {i:AH} (h0:0<=i.2.2.2.2) (h1:i.2.2.2.2<=1000000):JV s i=some (cl (sz s.1) i.2.2.2.2):=by
 unfold JV
 rw[ACZ h.sh h0 h1];rfl
theorem O0 {z w:Int} (z1:8<=z) (h:0<=w):0<=cl z w/\cl z w<=w+z:=by
 have c2:=nA (show 0<z by omega) h
 have c1:=P7 (n:=w) (show 0<z by omega)
 have b1:cl z w*1<=cl z w*z:=AAT (by omega) c2
 omega
theorem AKC {s:Sp} (h:VS s) {i:AH} (h0:0<=i.2.2.2.2) (h1:i.2.2.2.2<=16384) {n:Int} (n0:0<=n) (n1:n<=1000):U4 s i n=some (cl (sz s.1) (i.2.2.2.2+n)-cl (sz s.1) i.2.2.2.2):=by
 obtain⟨z1,z2⟩:=LF h.sh
 have c1:=O0 z1 (show 0<=i.2.2.2.2+n by omega)
 have c2:=O0 z1 h0
 unfold U4
 rw[AD (e:=i.2.2.2.2+n) (by omega) (by omega),ACZ h.sh (by omega) (by omega),XY h h0 (by omega)]
 simp only[A9]
 rw[AD (by omega) (by omega)]
theorem ANI {s:Sp} (hn:s.2.2.length<=64) (q:Int):XT s q=some ((owned s.2.2 q).length:Int):=by
 unfold XT
 refine (AR (fun k (st:Int×Int)=>st.2=(k:Int)/\k<=s.2.2.length/\st.1=gvN s.2.2 q k) (fun b=>b=((owned s.2.2 q).length:Int)) s.2.2.length ?_ ?_ (s:=((0:Int),(0:Int))) ⟨rfl,by omega,rfl⟩).elim fun b h=>by rw[h.1,h.2]
 ·rintro k ⟨c,i⟩ hk ⟨h1,_,h2⟩
  simp only at h1 h2 ⊢
  subst h1
  have NL:gl (0,0,0) s.2.2 (k:Int).toNat=fr s.2.2 k:=rfl
  have hc:=AFZ s.2.2 q k
  rw[AA (by omega),AA (by omega),NL,AD (e:=(k:Int)+1) (by omega) (by omega),AD (e:=c+1) (by omega) (by omega)]
  by_cases hf:(fr s.2.2 k).1=q
  ·rw[AA hf]
   exact .inl ⟨_,rfl,by simp only;omega,by omega,by simp only[gvN,AA hf];omega⟩
  ·rw[AB hf]
   exact .inl ⟨_,rfl,by simp only;omega,by omega,by simp only[gvN,AB hf];omega⟩
 ·rintro⟨c,i⟩ ⟨h1,_,h2⟩
  simp only at h1 h2 ⊢
  rw[AB (by omega)]
  exact⟨_,rfl,by rw[h2,AN5];rfl⟩
theorem xE {s:Sp} (hI:StI s) (i:AH):∃ b,I_ s i=some b/\(b=true↔VS s/\D5 s i):=by
 by_cases h:VS s
 rotate_left
 ·unfold I_
  rw[(xD h hI).1]
  exact⟨_,rfl,BO fun hh=>h hh.1⟩
 suffices hs:∃ b,I_ s i=some b/\(b=true↔D5 s i) by
  obtain⟨b,h1,h2⟩:=hs
  exact⟨b,h1,h2.trans ⟨fun x=>⟨h,x⟩,fun x=>x.2⟩⟩
 have oB:=VS.O2 h
 have hn:=h.n.2
 unfold I_
 rw[VS.z9 h]
 simp only[A9]
 rw[AB (by simp)]
 by_cases c1:i.1<0
 ·rw[AA c1];exact⟨_,rfl,BO fun h=>by have:=h.1.1;omega⟩
 rw[AB c1]
 by_cases c2:i.1>4294967295
 ·rw[AA c2];exact⟨_,rfl,BO fun h=>by have:=h.1.2.1;omega⟩
 rw[AB c2]
 by_cases c3:i.2.1<0
 ·rw[AA c3];exact⟨_,rfl,BO fun h=>by have:=h.1.2.2.1;omega⟩
 rw[AB c3]
 by_cases c4:i.2.1≥4
 ·rw[AA c4];exact⟨_,rfl,BO fun h=>by have:=h.1.2.2.2.1;omega⟩
 rw[AB c4]
 by_cases c5:i.2.2.2.2<0
 ·rw[AA c5];exact⟨_,rfl,BO fun h=>by have:=h.1.2.2.2.2.1;omega⟩
 rw[AB c5]
 by_cases c7:i.2.2.2.2=0
 ·have hr:0<=i.1/\i.1<=4294967295/\0<=i.2.1/\i.2.1<4/\0<=i.2.2.2.2/\i.2.2.2.2<=s.2.1.length:=⟨by omega,by omega,by omega,by omega,by omega,by omega⟩
  rw[AA c7]
  by_cases c8:i.2.2.1= -1
  ·rw[AA c8]
   refine⟨_,rfl, ?_⟩
   rw[N2]
   exact⟨fun hh=>⟨hr,.inl ⟨c7,c8,hh⟩⟩,fun hh=>by rcases hh.2 with h1|h1;exact h1.2.2;exact absurd c7 h1.1⟩
  ·rw[AB c8]
   exact⟨_,rfl,BO fun hh=>by rcases hh.2 with h1|h1;exact c8 h1.2.1;exact h1.1 c7⟩
 rw[AB c7]
 have only:D5 s i->(0<=i.2.2.1/\i.2.2.1<s.2.2.length)/\(fr s.2.2 i.2.2.1).1=i.1/\(fr s.2.2 i.2.2.1).2.1=i.2.1*4294967296+i.1∧
   ∃ l,Pa s.2.2 i.2.2.1 l/\(l.length:Int)=cl (sz s.1) i.2.2.2.2/\l.length=(owned s.2.2 i.1).length/\l.getLast? =some i.2.2.2.1:=fun hh=>by
  rcases hh.2 with h1|h1
  ·exact absurd h1.1 c7
  ·exact h1.2
 have A0K:¬((0<=i.2.2.1/\i.2.2.1<s.2.2.length)/\(fr s.2.2 i.2.2.1).1≠-1)->∃ e,e≠0/\N0 s i.2.2.1=some ([],e):=by
  intro hb
  unfold N0
  rw[VS.z9 h,ANG]
  simp only[A9]
  rw[AB (by simp)]
  by_cases q:0<=i.2.2.1/\i.2.2.1<s.2.2.length
  ·rw[AB (by simp [q]),ACY q.1 q.2]
   simp only[A9]
   have hf:(fr s.2.2 i.2.2.1).1= -1:=uB fun hf=>hb ⟨q,hf⟩
   rw[AA (by simp [hf])]
   exact⟨_,by decide,rfl⟩
  ·rw[AA (by simp only[RM,YK];exact q)]
   exact⟨_,by decide,rfl⟩
 by_cases c8:(0<=i.2.2.1/\i.2.2.1<s.2.2.length)/\(fr s.2.2 i.2.2.1).1≠-1
 rotate_left
 ·obtain⟨e,e1,e2⟩:=A0K c8
  rw[e2]
  simp only[A9]
  rw[AA e1]
  refine⟨_,rfl,BO fun hh=> ?_⟩
  obtain⟨o1,o2,_⟩:=only hh
  have:=hh.1.1
  exact c8 ⟨o1,by omega⟩
 obtain⟨⟨q0,q1⟩,q2⟩:=c8
 obtain⟨l,hl⟩:=h.acy i.2.2.1 q0 q1
 have hll:=hl.length
 have yU:0<l.length:=by
  cases l with
  |nil=>rw[Pa] at hl;omega
  |cons=>simp
 rw[ANH h q0 q1 q2 hl]
 simp only[A9]
 rw[AB (by simp)]
 by_cases c6:i.2.2.2.2>s.2.1.length
 ·rw[AA c6];exact⟨_,rfl,BO fun h=>by have:=h.1.2.2.2.2.2;omega⟩
 rw[AB c6]
 have hr:0<=i.1/\i.1<=4294967295/\0<=i.2.1/\i.2.1<4/\0<=i.2.2.2.2/\i.2.2.2.2<=s.2.1.length:=⟨by omega,by omega,by omega,by omega,by omega,by omega⟩
 have hg:=AHS (l:=l) yU
 rw[AD (e:=(l.length:Int)-1) (by omega) (by omega),AA (by omega),show ((l.length:Int)-1).toNat=l.length-1 from by omega]
 by_cases d1:gl 0 l (l.length-1)=i.2.2.2.1
 rotate_left
 ·rw[AA d1]
  exact⟨_,rfl,BO fun hh=>by obtain⟨l',p1,_,_,p2⟩:=(only hh).2.2.2;rw[<-hl.fn p1,←hg] at p2;exact d1 (by simpa using p2)⟩
 rw[AB (I4 d1),XY h (by omega) (by omega)]
 simp only[A9]
 by_cases d2:(l.length:Int)=cl (sz s.1) i.2.2.2.2
 rotate_left
 ·rw[AA d2]
  exact⟨_,rfl,BO fun hh=>by obtain⟨l',p1,p2,_⟩:=(only hh).2.2.2;rw[hl.fn p1] at d2;exact d2 p2⟩
 rw[AB (I4 d2),ANI hn]
 simp only[A9]
 by_cases d3:(l.length:Int)=((owned s.2.2 i.1).length:Int)
 rotate_left
 ·rw[AA d3]
  exact⟨_,rfl,BO fun hh=>by obtain⟨l',p1,_,p2,_⟩:=(only hh).2.2.2;rw[hl.fn p1] at d3;exact d3 (by omega)⟩
 have NL:gl (0,0,0) s.2.2 i.2.2.1.toNat=fr s.2.2 i.2.2.1:=rfl
 rw[AB (I4 d3),AA ⟨q0,q1⟩,NL,AD (e:=i.2.1*4294967296) (by omega) (by omega),AD (e:=i.2.1*4294967296+i.1) (by omega) (by omega)]
 by_cases d4:(fr s.2.2 i.2.2.1).1=i.1
 rotate_left
 ·rw[AB d4];exact⟨_,rfl,BO fun hh=>d4 (only hh).2.1⟩
 rw[AA d4]
 refine⟨_,rfl, ?_⟩
 rw[N2]
 constructor
 ·intro d5
  exact⟨hr,.inr ⟨c7,⟨q0,q1⟩,d4,d5,l,hl,d2,by omega,by rw[<-hg,d1]⟩⟩
 ·intro hh;exact (only hh).2.2.1
theorem oR.st {s:Sp} {i:AH} {l d r0:List Int} {fs:List Fr} {F L:Int} (h:oR s i l d r0 fs F L):AV6 (s.1,s.2.1,fs) i.1 (i.2.1*4294967296+i.1):=by
 intro x x0 x1 hx
 simp only at x1 hx ⊢
 have hm:x∈owned fs i.1:=B0.2 ⟨⟨x0,x1⟩,hx⟩
 have U9:0<(owned fs i.1).length:=List.length_pos_of_mem hm
 have CO:=h.own
 rcases h.path with h1|⟨h1,h2,h3,h4,h5⟩
 ·rw[h1.1] at CO;simp at CO;rw[CO] at hm;cases hm
 ·have ND:x∈l++d:=by
   apply uB
   intro hn
   have JB:∀ y∈l++d,y∈(owned fs i.1).erase x:=by
    intro y hy
    rw[(RH _ _).mem_erase_iff]
    refine⟨fun e=>hn (e ▸ hy),B0.2 ⟨h2.mem hy, ?_⟩⟩
    have:=(h.vs.owner h2 y hy).1
    simp only at this
    rw[this];exact h4
   have hle:=PZ h2.nodup JB
   rw[List.length_erase_of_mem hm] at hle
   omega
  have:=(h.vs.owner h2 x ND).2
  simp only at this
  rw[this];exact h5
end Go.Proofs.YthmiilamegpllaaGreat
namespace Go.V3
open Go
def vv (r:Nat):Nat:=if r<4503599627370496 then r else (4503599627370496+r%4503599627370496)*2 ^ (r / 4503599627370496-1)
theorem ARC (r:Nat):vv r<vv (r+1):=by
 unfold vv
 by_cases h:r<4503599627370496
 ·rw[AA h]
  by_cases h2:r+1<4503599627370496
  ·rw[AA h2];omega
  ·have:r+1=4503599627370496:=by omega
   rw[AB h2,this];show r<(4503599627370496+4503599627370496%4503599627370496)*2 ^ (4503599627370496 / 4503599627370496-1)
   rw[show (4503599627370496+4503599627370496%4503599627370496)*2 ^ (4503599627370496 / 4503599627370496-1)=4503599627370496 from by decide];exact h
 ·rw[AB h,AB (by omega)]
  by_cases h2:r%4503599627370496+1<4503599627370496
  ·have e1:(r+1) / 4503599627370496=r / 4503599627370496:=by omega
   have e2:(r+1)%4503599627370496=r%4503599627370496+1:=by omega
   rw[e1,e2]
   exact Nat.mul_lt_mul_of_pos_right (by omega) (jK _)
  ·have e1:(r+1) / 4503599627370496=r / 4503599627370496+1:=by omega
   have e2:(r+1)%4503599627370496=0:=by omega
   have e3:r / 4503599627370496+1-1=(r / 4503599627370496-1)+1:=by omega
   rw[e1,e2,e3,Nat.pow_succ]
   have hp:=jK (r / 4503599627370496-1)
   have:(4503599627370496+0)*(2 ^ (r / 4503599627370496-1)*2)=(2*4503599627370496)*2 ^ (r / 4503599627370496-1):=by rw[L3,fY 2 4503599627370496,Nat.mul_assoc,fY 2]
   rw[this]
   exact Nat.mul_lt_mul_of_pos_right (by omega) hp
theorem cF {a b:Nat} (h:a<b):vv a<vv b:=by
 induction b with
 |zero=>omega
 |succ b ih=>
  have:=ARC b
  rcases GY a b with h1|h1
  ·have:=ih h1;omega
  ·have:a=b:=by omega
   subst this;assumption
theorem nB {a b:Nat}:vv a<vv b↔a<b:=by
 constructor
 ·intro h
  rcases GY a b with h1|h1
  ·exact h1
  ·rcases Nat.eq_or_lt_of_le h1 with rfl|h2
   ·omega
   ·have:=cF h2;omega
 ·exact cF
theorem dL:vv 0=0:=by decide
def fT (w:Nat):Nat:=w%9223372036854775808
def lJ (w:Nat):Bool:=w / 9223372036854775808%2==1
def lK (w:Nat):Int:=if lJ w=true then -(vv (fT w):Int) else (vv (fT w):Int)
def isNum (w:Nat):Prop:=fT w<=9218868437227405312
instance (w:Nat):Decidable (isNum w):=by unfold isNum;infer_instance
theorem tF {w:Nat} (h:fT w<9218868437227405312):∃ m:Nat,∃ e:Nat,FloatKind.f64.format.read w= .number (lJ w) m (-1074+(e:Int))/\m*2 ^ e=vv (fT w):=by
 unfold Ieee.Format.read
 have hb:FloatKind.f64.format.binade=4503599627370496:=by decide
 have hs:FloatKind.f64.format.signWeight=9223372036854775808:=by decide
 have hi:FloatKind.f64.format.infRung=9218868437227405312:=by decide
 have hl:FloatKind.f64.format.leastPlace= -1074:=by decide
 simp only[hb,hs,hi,hl]
 unfold vv
 by_cases h1:w%9223372036854775808<4503599627370496
 ·rw[AA h1,AA (show fT w<4503599627370496 from h1)]
  exact⟨_,0,rfl,by simp [fT]⟩
 ·rw[AB h1,AA (show w%9223372036854775808<9218868437227405312 from h),AB (show ¬fT w<4503599627370496 from h1)]
  exact⟨_,w%9223372036854775808 / 4503599627370496-1,rfl,rfl⟩
theorem lL {w:Nat} (h:fT w=9218868437227405312):FloatKind.f64.format.read w= .infinity (lJ w):=by
 unfold Ieee.Format.read
 have hb:FloatKind.f64.format.binade=4503599627370496:=by decide
 have hs:FloatKind.f64.format.signWeight=9223372036854775808:=by decide
 have hi:FloatKind.f64.format.infRung=9218868437227405312:=by decide
 simp only[hb,hs,hi]
 have h' :w%9223372036854775808=9218868437227405312:=h
 rw[h',AB (by decide),AB (by decide),AA rfl]
 rfl
theorem AD0 {w:Nat} (h:¬isNum w):∃ f,FloatKind.f64.format.read w= .nan (lJ w) f:=by
 unfold Ieee.Format.read
 have hb:FloatKind.f64.format.binade=4503599627370496:=by decide
 have hs:FloatKind.f64.format.signWeight=9223372036854775808:=by decide
 have hi:FloatKind.f64.format.infRung=9218868437227405312:=by decide
 simp only[hb,hs,hi]
 have h' :9218868437227405312<w%9223372036854775808:=by unfold isNum fT at h;omega
 rw[AB (by omega),AB (by omega),AB (by omega)]
 exact⟨_,rfl⟩
theorem AKD {a b c:Int} (hc:0<c):compare (a*c) (b*c)=compare a b:=by
 rcases Int.lt_trichotomy a b with h|h|h
 ·rw[nO.2 h,nO.2 (Int.mul_lt_mul_of_pos_right h hc)]
 ·subst h;rw[Int.compare_eq_eq.2 rfl,Int.compare_eq_eq.2 rfl]
 ·rw[nP.2 h,nP.2 (Int.mul_lt_mul_of_pos_right h hc)]
theorem lM (s:Bool) (m:Nat) (e b:Nat) (h:b<=e):Ieee.signed s m (e-b)*(2:Int) ^ b=if s=true then -((m*2 ^ e:Nat):Int) else ((m*2 ^ e:Nat):Int):=by
 have he:2 ^ e=2 ^ (e-b)*2 ^ b:=by rw[<-Nat.pow_add];congr 1;omega
 have:((m*2 ^ e:Nat):Int)=((m <<< (e-b):Nat):Int)*(2:Int) ^ b:=by
  rw[Nat.shiftLeft_eq,he,←Nat.mul_assoc]
  simp
 unfold Ieee.signed
 cases s
 ·simp only[T8,I9];exact this.symm
 ·simp only[GA]
  rw[this,Int.neg_mul]
theorem xF {r:Nat} (h:r<9218868437227405312):vv r<vv 9218868437227405312:=cF h
theorem AG4:0<vv 9218868437227405312:=by have:=cF (a:=0) (b:=9218868437227405312) (by decide);rw[dL] at this;exact this
theorem z_ {a b:Nat} (ha:isNum a) (hb:isNum b):C4 a b=some (compare (lK a) (lK b)):=by
 unfold C4 Ieee.Format.order
 have U9:=AG4
 have la:fT a<9218868437227405312\/fT a=9218868437227405312:=by unfold isNum at ha;omega
 have lb:fT b<9218868437227405312\/fT b=9218868437227405312:=by unfold isNum at hb;omega
 rcases la with la|la
 ·obtain⟨m,e,r1,v1⟩:=tF la
  have p1:=xF la
  rcases lb with lb|lb
  ·obtain⟨n,f,r2,v2⟩:=tF lb
   rw[r1,r2]
   unfold Ieee.Datum.order
   simp only
   congr 1
   have k1:(-1074+(e:Int)-min (-1074+(e:Int)) (-1074+(f:Int))).toNat=e-min e f:=by omega
   have k2:(-1074+(f:Int)-min (-1074+(e:Int)) (-1074+(f:Int))).toNat=f-min e f:=by omega
   rw[k1,k2,←AKD (c:=(2:Int) ^ (min e f)) (Int.pow_pos (by decide)),lM _ _ _ _ (by omega),lM _ _ _ _ (by omega),v1,v2]
   rfl
  ·rw[r1,lL lb]
   unfold Ieee.Datum.order
   simp only
   congr 1
   unfold lK
   rw[lb]
   cases lJ a <;> cases lJ b <;> simp only[T8,I9,GA]
   ·exact (nO.2 (by omega)).symm
   ·exact (nP.2 (by omega)).symm
   ·exact (nO.2 (by omega)).symm
   ·exact (nP.2 (by omega)).symm
 ·rcases lb with lb|lb
  ·obtain⟨n,f,r2,v2⟩:=tF lb
   have p2:=xF lb
   rw[lL la,r2]
   unfold Ieee.Datum.order
   simp only
   congr 1
   unfold lK
   rw[la]
   cases lJ a <;> cases lJ b <;> simp only[T8,I9,GA]
   ·exact (nP.2 (by omega)).symm
   ·exact (nP.2 (by omega)).symm
   ·exact (nO.2 (by omega)).symm
   ·exact (nO.2 (by omega)).symm
  ·rw[lL la,lL lb]
   unfold Ieee.Datum.order
   simp only
   congr 1
   unfold lK
   rw[la,lb]
   cases lJ a <;> cases lJ b <;> simp only[T8,I9,GA,Bool.toNat_true,Bool.toNat_false]
   ·exact (Int.compare_eq_eq.2 rfl).symm
   ·exact (nP.2 (by omega)).symm
   ·exact (nO.2 (by omega)).symm
   ·exact (Int.compare_eq_eq.2 rfl).symm
theorem AA0 {a b:Nat} (h:¬(isNum a/\isNum b)):C4 a b=none:=by
 unfold C4 Ieee.Format.order
 by_cases ha:isNum a
 ·have hb:¬isNum b:=fun hb=>h ⟨ha,hb⟩
  obtain⟨f,r2⟩:=AD0 hb
  rw[r2]
  unfold Ieee.Datum.order
  cases FloatKind.f64.format.read a <;> rfl
 ·obtain⟨f,r1⟩:=AD0 ha
  rw[r1]
  unfold Ieee.Datum.order
  rfl
theorem ANJ {a b:Nat}:C4 a b=some .lt↔isNum a/\isNum b/\lK a<lK b:=by
 by_cases h:isNum a/\isNum b
 ·rw[z_ h.1 h.2]
  simp only[AY,nO,h,true_and]
 ·rw[AA0 h]
  simp only[reduceCtorEq,false_iff]
  exact fun k=>h ⟨k.1,k.2.1⟩
theorem ANK {a b:Nat}:C4 a b=some .gt↔isNum a/\isNum b/\lK b<lK a:=by
 by_cases h:isNum a/\isNum b
 ·rw[z_ h.1 h.2]
  simp only[AY,nP,h,true_and]
 ·rw[AA0 h]
  simp only[reduceCtorEq,false_iff]
  exact fun k=>h ⟨k.1,k.2.1⟩
theorem AA1 {a b:Nat}:C4 a b=some .eq↔isNum a/\isNum b/\lK a=lK b:=by
 by_cases h:isNum a/\isNum b
 ·rw[z_ h.1 h.2]
  simp only[AY,Int.compare_eq_eq,h,true_and]
 ·rw[AA0 h]
  simp only[reduceCtorEq,false_iff]
  exact fun k=>h ⟨k.1,k.2.1⟩
theorem AHU {m d:Nat} (h0:4503599627370496<=m) (h1:m<2*4503599627370496):(m*2 ^ d).log2=52+d:=by
 have hp:=jK d
 rw[Nat.log2_eq_iff (by have:=Nat.mul_pos (show 0<m by omega) hp;omega)]
 rw[Nat.pow_add,show (2:Nat) ^ 52=4503599627370496 from by decide,show 52+d+1=53+d from by omega,Nat.pow_add,show (2:Nat) ^ 53=2*4503599627370496 from by decide]
 exact⟨qS _ h0,Nat.mul_lt_mul_of_pos_right h1 hp⟩
theorem ARD {q m:Nat} (h:m<2*4503599627370496) (hq:q<=2045):q*4503599627370496+m<=9218868437227405312:=by omega
theorem gI {m d:Nat} {place:Int} (h0:4503599627370496<=m) (h1:m<2*4503599627370496) (hp: -1074<=place+d) (hq:place+d+1074<2046):
  FloatKind.f64.format.nearest false (m*2 ^ d) place=(place+d+1074).toNat*4503599627370496+m:=by
 have U9:=jK d
 have hm:m*2 ^ d≠0:=by have:=Nat.mul_pos (show 0<m by omega) U9;omega
 have hb:FloatKind.f64.format.binade=4503599627370496:=by decide
 have hi:FloatKind.f64.format.infRung=9218868437227405312:=by decide
 have hl:FloatKind.f64.format.leastPlace= -1074:=by decide
 have hf:FloatKind.f64.format.fractionBits=52:=by decide
 unfold Ieee.Format.nearest
 rw[AB hm]
 simp only[hb,hi,hl,hf,AHU h0 h1]
 have e1:max (place+((52+d:Nat):Int)-((52:Nat):Int)) (-1074)=place+d:=by omega
 rw[e1]
 have e2:(place-(place+(d:Int))).toNat=0:=by omega
 have e3:(place+(d:Int)-place).toNat=d:=by omega
 rw[e2,e3,Nat.shiftLeft_zero]
 have e4:Ieee.Toward.even.cut false (m*2 ^ d) d=m:=by
  unfold Ieee.Toward.cut
  have g:(1:Nat) <<< min d ((m*2 ^ d).log2+2)=2 ^ d:=by
   rw[AHU h0 h1,show min d (52+d+2)=d from by omega,Nat.shiftLeft_eq,Nat.one_mul]
  simp only[g]
  rw[Nat.mul_mod_left,Nat.mul_div_cancel _ U9]
  have c1:decide (2 ^ d<2*0)=false:=by simp
  have c2:(2 ^ d==2*0)=false:=by simp
  rw[c1,c2]
  simp
 rw[e4]
 have e5:(place+(d:Int)- -1074).toNat=(place+d+1074).toNat:=by congr 1
 rw[e5]
 have ANL:(place+(d:Int)+1074).toNat<=2045:=by omega
 have e6:(place+(d:Int)+1074).toNat*4503599627370496<=2045*4503599627370496:=qS _ ANL
 generalize (place+(d:Int)+1074).toNat=q at ANL e6 ⊢
 rw[Nat.min_eq_left (ARD h1 ANL)]
 rfl
theorem dM {e f:Nat} (he:1<=e) (he2:e<2047) (hf:f<4503599627370496):FloatKind.f64.format.read (e*4503599627370496+f)= .number false (4503599627370496+f) (-1074+((e-1:Nat):Int)):=by
 unfold Ieee.Format.read
 have hb:FloatKind.f64.format.binade=4503599627370496:=by decide
 have hs:FloatKind.f64.format.signWeight=9223372036854775808:=by decide
 have hi:FloatKind.f64.format.infRung=9218868437227405312:=by decide
 have hl:FloatKind.f64.format.leastPlace= -1074:=by decide
 simp only[hb,hs,hi,hl]
 have e1:(e*4503599627370496+f)%9223372036854775808=e*4503599627370496+f:=YM (by omega)
 have e2:(e*4503599627370496+f) / 9223372036854775808=0:=fV (by omega)
 have e3:(e*4503599627370496+f)%4503599627370496=f:=by omega
 have e4:(e*4503599627370496+f) / 4503599627370496=e:=by omega
 rw[e1,e2,AB (by omega),AA (by omega),e3,e4]
 rfl
theorem ANM {a:Nat} (ha:a<4503599627370496):FloatKind.f64.format.read a= .number false a (-1074):=by
 unfold Ieee.Format.read
 have hb:FloatKind.f64.format.binade=4503599627370496:=by decide
 have hs:FloatKind.f64.format.signWeight=9223372036854775808:=by decide
 have hi:FloatKind.f64.format.infRung=9218868437227405312:=by decide
 have hl:FloatKind.f64.format.leastPlace= -1074:=by decide
 simp only[hb,hs,hi,hl]
 have e1:a%9223372036854775808=a:=YM (by omega)
 have e2:a / 9223372036854775808=0:=fV (by omega)
 rw[e1,e2,AA ha]
 rfl
theorem ANN {f:Nat} (hf:f<4503599627370496):FI .mul (1022*4503599627370496+f) (1076*4503599627370496)=some (1075*4503599627370496+f):=by
 have h2:=dM (e:=1076) (f:=0) (by omega) (by omega) (by omega)
 rw[L3] at h2
 show Ieee.Format.mul _ _ _=_
 unfold Ieee.Format.mul
 rw[dM (by omega) (by omega) hf,h2]
 simp only[Ieee.Datum.product,ZT,Ieee.Format.write]
 have:=gI (m:=4503599627370496+f) (d:=52) (place:= -52) (by omega) (by omega) (by omega) (by omega)
 rw[show (2:Nat) ^ 52=4503599627370496+0 from by decide] at this
 rw[show (-1074+((1022-1:Nat):Int)+(-1074+((1076-1:Nat):Int)))= -52 from by decide]
 rw[show (false ^^ false)=false from rfl,this]
 congr 1
 show (1074:Nat)*4503599627370496+(4503599627370496+f)=_
 omega
theorem log2_lt {a:Nat} (h0:0<a) (h1:a<4503599627370496):a.log2<=51/\4503599627370496<=a*2 ^ (52-a.log2)/\a*2 ^ (52-a.log2)<2*4503599627370496:=by
 have hl:a.log2<52:=(Nat.log2_lt (by omega)).2 (by rw[show (2:Nat) ^ 52=4503599627370496 from by decide];exact h1)
 have q0:=Nat.log2_self_le (n:=a) (by omega)
 have q1:=Nat.lt_log2_self (n:=a)
 have e:(2:Nat) ^ a.log2*2 ^ (52-a.log2)=4503599627370496:=by rw[<-Nat.pow_add,show a.log2+(52-a.log2)=52 from by omega]
 have e2:(2:Nat) ^ (a.log2+1)*2 ^ (52-a.log2)=2*4503599627370496:=by rw[Nat.pow_succ,fY (2 ^ a.log2) 2,Nat.mul_assoc,e]
 refine⟨by omega, ?_, ?_⟩
 ·calc 4503599627370496=2 ^ a.log2*2 ^ (52-a.log2):=e.symm
   _<=a*2 ^ (52-a.log2):=qS _ q0
 ·calc a*2 ^ (52-a.log2)<2 ^ (a.log2+1)*2 ^ (52-a.log2):=Nat.mul_lt_mul_of_pos_right q1 (jK _)
   _=2*4503599627370496:=e2
theorem mul_sub {a:Nat} (h0:0<a) (h1:a<4503599627370496):FI .mul a (1075*4503599627370496)=some (a.log2*4503599627370496+a*2 ^ (52-a.log2)):=by
 obtain⟨l0,l1,l2⟩:=log2_lt h0 h1
 have h2:=dM (e:=1075) (f:=0) (by omega) (by omega) (by omega)
 rw[L3] at h2
 show Ieee.Format.mul _ _ _=_
 unfold Ieee.Format.mul
 rw[ANM h1,h2]
 simp only[Ieee.Datum.product,ZT,Ieee.Format.write]
 have:=gI (m:=a*2 ^ (52-a.log2)) (d:=a.log2) (place:= -1074) l1 l2 (by omega) (by omega)
 rw[Nat.mul_assoc,←Nat.pow_add,show 52-a.log2+a.log2=52 from by omega,show (2:Nat) ^ 52=4503599627370496+0 from by decide] at this
 rw[show (-1074+(-1074+((1075-1:Nat):Int)))= -1074 from by decide]
 rw[show (false ^^ false)=false from rfl,this]
 rw[show (-1074+(a.log2:Int)+1074).toNat=a.log2 from by omega]
theorem tG {f:Nat} (hf:f<4503599627370496):WX (1075*4503599627370496+f)=some ((4503599627370496+f:Nat):Int):=by
 unfold WX
 show ((FloatKind.f64.format.read (1075*4503599627370496+f)).toInt .zero)=_
 rw[dM (by omega) (by omega) hf]
 unfold Ieee.Datum.toInt Ieee.Datum.integral
 simp only
 rw[show (-1074+((1075-1:Nat):Int))=0 from by decide,show (0:Int).toNat=0 from rfl,show (-(0:Int)).toNat=0 from rfl,Nat.shiftLeft_zero]
 unfold Ieee.Toward.cut Ieee.signed
 simp
theorem AHV {w:Nat} (h:w<9223372036854775808):lJ w=false/\fT w=w:=by
 unfold lJ fT
 rw[fV h,YM h]
 exact⟨rfl,rfl⟩
theorem LX {w:Nat} (h:w<9223372036854775808):lK w=(vv w:Int):=by
 obtain⟨h1,h2⟩:=AHV h
 unfold lK
 rw[h1,h2];simp
theorem ARE {w:Nat} (h:w<18446744073709551616):lJ w=decide (9223372036854775808<=w):=by
 unfold lJ
 by_cases h1:9223372036854775808<=w
 ·have:w / 9223372036854775808=1:=by omega
  rw[this];simp [h1]
 ·have:w / 9223372036854775808=0:=by omega
  rw[this];simp [h1]
theorem AHW {w:Nat} (h:w<18446744073709551616):C4 w 0=some .gt↔0<w/\w<=9218868437227405312:=by
 rw[ANK,LX (w:=0) (by omega),dL]
 have hz:isNum 0:=by decide
 unfold lK isNum
 rw[ARE h]
 by_cases h1:9223372036854775808<=w
 ·simp only[h1,decide_true,GA]
  constructor
  ·rintro⟨_,_,h2⟩;omega
  ·rintro⟨_,h2⟩;omega
 ·obtain⟨_,h2⟩:=AHV (w:=w) (by omega)
  simp only[h1,decide_false,T8,I9,h2]
  constructor
  ·rintro⟨h3,_,h4⟩
   refine⟨?_,h3⟩
   rcases Nat.eq_zero_or_pos w with rfl|h5
   ·rw[dL] at h4;omega
   ·exact h5
  ·rintro⟨h3,h4⟩
   have:=cF h3
   rw[dL] at this
   exact⟨h4,hz,by omega⟩
theorem AV7 {w:Nat} (h:w<=9218868437227405312):(C4 w 4607182418800017408=some .lt\/C4 w 4607182418800017408=some .eq)↔w<=4607182418800017408:=by
 have h1:isNum w:=by unfold isNum;rw[(AHV (w:=w) (by omega)).2];exact h
 have h2:isNum 4607182418800017408:=by decide
 rw[ANJ,AA1,LX (by omega),LX (by omega)]
 constructor
 ·rintro (⟨_,_,h3⟩|⟨_,_,h3⟩)
  ·have:=nB.1 (show vv w<vv 4607182418800017408 by omega);omega
  ·rcases GY 4607182418800017408 w with h4|h4
   ·have:=cF h4;omega
   ·exact h4
 ·intro h3
  rcases Nat.eq_or_lt_of_le h3 with h4|h4
  ·exact .inr ⟨h1,h2,by rw[h4]⟩
  ·have:=cF h4
   exact .inl ⟨h1,h2,by omega⟩
def P74:Nat:=1074
theorem ANO:P74=1074:=rfl
def FR (x:Nat) (n:Nat):Nat:=max 1 (vv x*n / 2 ^ P74)
theorem ARF {x y a b:Nat} (h:x<=y) (h2:a<=b):FR x a<=FR y b:=by
 have hv:vv x<=vv y:=by
  rcases Nat.eq_or_lt_of_le h with rfl|h3
  ·exact ED _
  ·exact Nat.le_of_lt (cF h3)
 have:=Nat.div_le_div_right (c:=2 ^ P74) (Nat.mul_le_mul hv h2)
 unfold FR
 omega
theorem AV8:vv 4607182418800017408=2 ^ P74:=by decide+kernel
theorem AV9 {n:Nat} (h:1<=n):FR 4607182418800017408 n=n:=by
 unfold FR
 rw[AV8,fY,Nat.mul_div_cancel _ (jK _)]
 omega
theorem AT7 {x n:Nat} (h:x<=4607182418800017408) (hn:1<=n):1<=FR x n/\FR x n<=n:=by
 have:=ARF h (ED n)
 rw[AV9 hn] at this
 exact⟨by unfold FR;omega,this⟩
theorem AA2 {x n:Nat} (h0:4503599627370496<=x) (h1:x<=4607182418800017408):vv x*n / 2 ^ P74=(4503599627370496+x%4503599627370496)*n / 2 ^ (1075-x / 4503599627370496):=by
 have he:x / 4503599627370496<=1023:=by omega
 have rJ:1<=x / 4503599627370496:=by omega
 unfold vv
 rw[AB (by omega)]
 have e:(2:Nat) ^ P74=2 ^ (x / 4503599627370496-1)*2 ^ (1075-x / 4503599627370496):=by rw[<-Nat.pow_add,ANO];congr 1;omega
 rw[e,←AE9]
 rw[Nat.mul_assoc,fY (2 ^ _) n,←Nat.mul_assoc,Nat.mul_div_cancel _ (jK _)]
theorem AA3 {k d:Nat} (hk:k<2 ^ 64) (hd:64<=d):k / 2 ^ d=0:=
 fV (oZ hk (Nat.pow_le_pow_right (by omega) hd))
theorem ANP {x n:Nat} (h1:x<4503599627370496) (hn:n<=64):FR x n=1:=by
 unfold FR vv
 rw[AA h1]
 have:x*n<=4503599627370496*64:=Nat.mul_le_mul (by omega) hn
 rw[AA3 (by omega) (by rw[ANO];omega)]
 rfl
theorem AVA {x n:Nat} (h0:4503599627370496<=x) (h1:x<=4607182418800017408) (hn:n<=64) (hd:64<=1075-x / 4503599627370496):FR x n=1:=by
 unfold FR
 rw[AA2 h0 h1]
 have:(4503599627370496+x%4503599627370496)*n<=(2*4503599627370496)*64:=Nat.mul_le_mul (by omega) hn
 rw[AA3 (by omega) hd]
 rfl
end Go.V3
namespace Go.Proofs.YthmiilamegpllaaGreat
open Go Go.V3
theorem qF {q:Nat} (h:q<9223372036854775808):AG (q:Int)=q:=AD (by omega) (by omega)
theorem bn {w:Nat} (h:w<18446744073709551616):(BitVec.ofNat 64 w).toNat=w:=by rw[oY];omega
theorem AVB {w:Nat} (h:w<9223372036854775808):(((BitVec.ofNat 64 w) >>> (52#64).toNat) &&& (2047#64)).toNat=w / 4503599627370496:=by
 rw[rC,AAX,bn (by omega),AAV]
 show w / 2 ^ 52 &&& 2047=_
 rw[show (2047:Nat)=2 ^ 11-1 from rfl,AIN,show (2:Nat) ^ 52=4503599627370496 from by decide,show (2:Nat) ^ 11=2048 from by decide]
 omega
theorem A0L {w:Nat} (h:w<18446744073709551616):((BitVec.ofNat 64 w) &&& (4503599627370495#64)).toNat=w%4503599627370496:=by
 rw[rC,bn h]
 show w &&& 4503599627370495=_
 rw[show (4503599627370495:Nat)=2 ^ 52-1 from by decide,AIN]
theorem A0M {f:Nat} (h:f<4503599627370496):f|||4503599627370496=4503599627370496+f:=by
 have:=Nat.two_pow_add_eq_or_of_lt (i:=52) (b:=f) (by rw[show (2:Nat) ^ 52=4503599627370496 from by decide];exact h) 1
 rw[Nat.mul_one,show (2:Nat) ^ 52=4503599627370496 from by decide] at this
 rw[Nat.or_comm,←this]
theorem AY9 {w:Nat} (h:w<18446744073709551616):(((BitVec.ofNat 64 w) &&& (4503599627370495#64))|||(4503599627370496#64)).toNat=4503599627370496+w%4503599627370496:=by
 rw[BitVec.toNat_or,A0L h]
 exact A0M (P9 _ (by omega))
theorem AYA {w:Nat} (h:w<9223372036854775808):((BitVec.ofNat 64 w) &&& ~~~(9223372036854775808#64)).toNat=w:=by
 rw[show ~~~(9223372036854775808#64)=9223372036854775807#64 from by decide,rC,bn (by omega)]
 show w &&& 9223372036854775807=_
 rw[show (9223372036854775807:Nat)=2 ^ 63-1 from by decide,AIN,show (2:Nat) ^ 63=9223372036854775808 from by decide]
 omega
theorem AYB {w:Nat} (h:w<9223372036854775808):w &&& 2 ^ 63=0:=by
 apply Nat.eq_of_testBit_eq
 intro i
 rw[Nat.testBit_and,Nat.testBit_two_pow]
 by_cases e:63=i
 ·subst e;rw[Nat.testBit_lt_two_pow (by rw[show (2:Nat) ^ 63=9223372036854775808 from by decide];exact h)];simp
 ·simp [e]
theorem ANQ {w:Nat} (h:w<9223372036854775808):(((BitVec.ofNat 64 w) &&& ~~~(9218868437227405312#64))|||(4602678819172646912#64)).toNat=1022*4503599627370496+w%4503599627370496:=by
 rw[show ~~~(9218868437227405312#64)=9227875636482146303#64 from by decide,BitVec.toNat_or,rC,bn (by omega)]
 show (w &&& 9227875636482146303)|||4602678819172646912=_
 have e:w &&& 9227875636482146303=w%4503599627370496:=by
  rw[show (9227875636482146303:Nat)=2 ^ 63|||(2 ^ 52-1) from by decide,Nat.and_or_distrib_left,AYB h,AIN,Nat.zero_or]
 rw[e]
 have hf:w%4503599627370496<2 ^ 52:=by rw[show (2:Nat) ^ 52=4503599627370496 from by decide];exact P9 _ (by omega)
 rw[show (4602678819172646912:Nat)=2 ^ 52*1022 from by decide,Nat.or_comm,←Nat.two_pow_add_eq_or_of_lt hf,show (2:Nat) ^ 52=4503599627370496 from by decide,fY]
theorem ANR {k n:Nat} {s:Int} (h:k*n<9223372036854775808) (hk:k<9223372036854775808) (hn:n<9223372036854775808) (s0:0<=s) (s1:s<=100000):
  (((BitVec.ofInt 64 (k:Int))*(BitVec.ofInt 64 (n:Int))) >>> (BitVec.ofInt 64 s).toNat).toNat=k*n / 2 ^ s.toNat:=by
 have es:(BitVec.ofInt 64 s).toNat=s.toNat:=by rw[qV];omega
 rw[AAX,AAV,es,BitVec.toNat_mul,BitVec.ofInt_natCast,BitVec.ofInt_natCast,bn (by omega),bn (by omega),show (2:Nat) ^ 64=18446744073709551616 from by decide,YM (by omega)]
theorem AYC {q:Nat} (h:q<9223372036854775808):(if AG (q:Int)>1 then AG (q:Int) else 1)=((max 1 q:Nat):Int):=by
 rw[qF h]
 split <;> omega
def VV (x:Nat):Prop:=x=0\/(0<x/\x<=4607182418800017408)
instance (x:Nat):Decidable (VV x):=by unfold VV;infer_instance
theorem P0 {x:Nat} (h:x<18446744073709551616):L9 x=some (decide (VV x)):=by
 unfold L9
 rw[AA h]
 by_cases h0:x=0
 ·subst h0;decide
 have hb:¬BitVec.ofNat 64 x=0#64:=fun e=>h0 (by have:=N5 BitVec.toNat e;rw[bn h] at this;exact this)
 rw[AB hb]
 by_cases h1:C4 x 0=some .gt
 ·rw[AA h1]
  obtain⟨h2,h3⟩:=(AHW h).1 h1
  congr 1
  rw[o7,AV7 h3]
  unfold VV
  constructor
  ·intro h4;exact .inr ⟨h2,h4⟩
  ·rintro (h4|h4)
   ·exact absurd h4 h0
   ·exact h4.2
 ·rw[AB h1]
  congr 1
  symm
  rw[YK]
  rintro (h4|h4)
  ·exact h0 h4
  ·exact h1 ((AHW h).2 ⟨h4.1,by omega⟩)
theorem dN (x:Nat):IF x=L9 x:=rfl
theorem not_zero {x:Nat} (h0:0<x) (h1:x<=4607182418800017408):¬C4 x 0=some .eq:=by
 rw[AA1,LX (by omega),LX (by omega),dL]
 rintro⟨_,_,h⟩
 have:=cF h0
 rw[dL] at this
 omega
theorem AG5 {x:Nat} (h1:x<=4607182418800017408):isNum x:=by unfold isNum;rw[(AHV (w:=x) (by omega)).2];omega
theorem ANS {x:Nat} (h0:0<x) (h1:x<=4607182418800017408):∃ f e,f<4503599627370496/\U2 x=some (1022*4503599627370496+f,e)/\(4503599627370496<=x->f=x%4503599627370496/\e=(x / 4503599627370496:Nat)-1022)/\(x<4503599627370496→-1073<=e/\e≤-1022):=by
 have hx:x<9223372036854775808:=by omega
 have AYD:WO x=some x:=by unfold WO;rw[AA (by omega),AYA hx]
 unfold U2 cC cA cB RU
 rw[AB (not_zero h0 h1),AA rfl,AYD]
 simp only[A9]
 have c1:¬C4 x 9218868437227405311=some .gt:=by
  rw[ANK,LX (w:=x) hx,LX (w:=9218868437227405311) (by omega)]
  rintro⟨_,_,h⟩
  have:=nB.1 (show vv 9218868437227405311<vv x by omega)
  omega
 have c2:C4 x x=some .eq:=AA1.2 ⟨AG5 h1,AG5 h1,rfl⟩
 have c3:C4 x 4503599627370496=some .lt↔x<4503599627370496:=by
  rw[ANJ,LX (w:=x) hx,LX (w:=4503599627370496) (by omega)]
  constructor
  ·rintro⟨_,_,h⟩;exact nB.1 (by omega)
  ·intro h;exact⟨AG5 h1,by decide,by have:=cF h;omega⟩
 rw[AB (by simp [c1]),AB (by simp [c2])]
 by_cases hb:x<4503599627370496
 ·rw[AA (c3.2 hb),show (4841369599423283200:Nat)=1075*4503599627370496 from by decide,mul_sub h0 hb]
  obtain⟨l0,l1,l2⟩:=log2_lt h0 hb
  rw[AA Option.isSome_some,jI,A9]
  have hw:x.log2*4503599627370496+x*2 ^ (52-x.log2)<9223372036854775808:=by
   have:x.log2*4503599627370496<=51*4503599627370496:=qS _ l0
   omega
  have hd:(x.log2*4503599627370496+x*2 ^ (52-x.log2)) / 4503599627370496=x.log2+1:=by omega
  rw[AA (by omega),AA trivial,ANQ hw,AVB hw,hd,qF (q:=x.log2+1) (by omega),AD (e:=((x.log2+1:Nat):Int)-1023) (by omega) (by omega),AD (e:=((x.log2+1:Nat):Int)-1023+1) (by omega) (by omega),AD (by omega) (by omega),A9]
  have hwb:=P9 (x.log2*4503599627370496+x*2 ^ (52-x.log2)) (show 0<4503599627370496 by omega)
  generalize (x.log2*4503599627370496+x*2 ^ (52-x.log2))%4503599627370496=w at hwb ⊢
  generalize hE: -52+(((x.log2+1:Nat):Int)-1023+1)=E
  clear hw hd l1 l2 c3 c2 c1 AYD
  refine⟨w,E,hwb, ?_,fun h=> ?_,fun _=> ?_⟩
  ·dsimp only
  ·omega
  ·omega
 ·rw[AB (fun h=>hb (c3.1 h)),A9]
  rw[AA (by omega),AA trivial,ANQ hx,AVB hx,qF (q:=x / 4503599627370496) (by omega),AD (e:=((x / 4503599627370496:Nat):Int)-1023) (by omega) (by omega),AD (e:=((x / 4503599627370496:Nat):Int)-1023+1) (by omega) (by omega),AD (by omega) (by omega),A9]
  exact⟨x%4503599627370496,0+(((x / 4503599627370496:Nat):Int)-1023+1),P9 _ (by omega),by dsimp only,fun _=>⟨rfl,by omega⟩,fun h=>absurd h hb⟩
theorem AG6 {x:Nat} (h0:0<x) (h1:x<=4607182418800017408) {n:Int} (n0:1<=n) (n1:n<=64):M_ x n=some (((FR x n.toNat:Nat):Int),0):=by
 obtain⟨f,e,hf,hx,e1,e2⟩:=ANS h0 h1
 obtain⟨m,rfl⟩:∃ m:Nat,n=(m:Int):=⟨n.toNat,by omega⟩
 unfold M_
 rw[P0 (by omega)]
 simp only[A9]
 rw[AB (by simp only[RM,YK];exact I4 (.inr ⟨h0,h1⟩)),AB (by omega),AB (by omega),AB (not_zero h0 h1),hx]
 simp only[A9]
 rw[show (4845873199050653696:Nat)=1076*4503599627370496 from by decide,ANN hf]
 simp only[Option.isSome_some,jI]
 have ND:fIn .u64 (1075*4503599627370496+f)=true:=by
  unfold fIn
  rw[tG hf]
  simp only[IQ]
  show 0<=_/\_<=(18446744073709551615:Int)
  omega
 have hkn:(4503599627370496+f)*m<=(2*4503599627370496)*64:=Nat.mul_le_mul (by omega) (by omega)
 rw[AA trivial,AA ND,AA trivial,tG hf]
 simp only[jI]
 have he: -1073<=e/\e<=1:=by
  rcases GY x 4503599627370496 with h|h
  ·have:=e2 h;omega
  ·have:=e1 h;omega
 rw[AD (e:=53-e) (by omega) (by omega),ANR (by omega) (by omega) (by omega) (by omega) (by omega)]
 have hq:(4503599627370496+f)*m / 2 ^ (53-e).toNat<9223372036854775808:=Nat.lt_of_le_of_lt (Nat.div_le_self _ _) (by omega)
 rw[AYC hq]
 congr 2
 rw[I3]
 rcases GY x 4503599627370496 with h|h
 ·rw[ANP h (by omega),AA3 (by omega) (by have:=e2 h;omega)]
  rfl
 ·obtain⟨rfl,rfl⟩:=e1 h
  unfold FR
  rw[AA2 h h1]
  congr 4
  omega
theorem tH {x:Nat} (h0:0<x) (h1:x<=4607182418800017408) {n:Int} (n0:1<=n) (n1:n<=64):ET x n=some (((FR x n.toNat:Nat):Int),0):=by
 have hx:x<9223372036854775808:=by omega
 obtain⟨m,rfl⟩:∃ m:Nat,n=(m:Int):=⟨n.toNat,by omega⟩
 have hkn:(4503599627370496+x%4503599627370496)*m<=(2*4503599627370496)*64:=Nat.mul_le_mul (by omega) (by omega)
 unfold ET
 rw[dN,P0 (by omega)]
 simp only[A9]
 rw[AB (by simp only[RM,YK];exact I4 (.inr ⟨h0,h1⟩)),AB (by omega),AB (by omega),AB (not_zero h0 h1),AA (by omega),AA trivial,AVB hx,qF (q:=x / 4503599627370496) (by omega),I3]
 have z0:(if AG (((0#64).toNat:Nat):Int)>1 then AG (((0#64).toNat:Nat):Int) else 1)=1:=by decide
 by_cases hb:4503599627370496<=x
 ·rw[AA (by omega),AD (e:=1075-((x / 4503599627370496:Nat):Int)) (by omega) (by omega)]
  by_cases hd:1075-((x / 4503599627370496:Nat):Int)<64
  ·rw[AA hd,AA trivial]
   have hp:=ANR (k:=4503599627370496+x%4503599627370496) (n:=m) (s:=1075-((x / 4503599627370496:Nat):Int)) (by omega) (by omega) (by omega) (by omega) (by omega)
   have hv:((BitVec.ofNat 64 x) &&& (4503599627370495#64))|||(4503599627370496#64)=BitVec.ofInt 64 ((4503599627370496+x%4503599627370496:Nat):Int):=by
    apply xY
    rw[AY9 (by omega),BitVec.ofInt_natCast,bn (by omega)]
   have hq:(4503599627370496+x%4503599627370496)*m / 2 ^ (1075-((x / 4503599627370496:Nat):Int)).toNat<9223372036854775808:=Nat.lt_of_le_of_lt (Nat.div_le_self _ _) (by omega)
   rw[hv,hp,AYC hq]
   congr 2
   unfold FR
   rw[AA2 hb h1]
   congr 4
   omega
  ·rw[AB hd,z0,AVA hb h1 (by omega) (by omega)]
   rfl
 ·rw[AB (by omega),AB (by decide),z0,ANP (by omega) (by omega)]
  rfl
theorem AVC (s:ByteArray) (p:Nat) (h:128<=(s.get! p).toNat):128<=(Utf8.decode s p).1:=by
 unfold Utf8.decode
 simp only[L3]
 rw[AB (by omega)]
 repeat' split
 all_goals (first|(simp only[Utf8.runeError];omega)|(simp_all;omega)|skip)
theorem AVD (s:ByteArray) (p:Nat) (h:(s.get! p).toNat<128):Utf8.decode s p=((s.get! p).toNat,1):=by
 unfold Utf8.decode
 simp only[L3]
 rw[AA h]
theorem ARG (s:ByteArray) {p:Nat} (h:p<s.size):JY s p=((s.get! p).toNat:Int):=by
 unfold JY
 have h' :p<s.data.size:=h
 rw[Array.getElem?_eq_getElem h',jI]
 show _=(((s.data)[p]!).toNat:Int)
 rw[getElem!_pos s.data p h']
def okb (s:ByteArray) (i:Nat):Prop:=(97<=JY s i/\JY s i<=122)\/(i≠0/\(JY s i=45\/(48<=JY s i/\JY s i<=57)))
def i_ (s:ByteArray):Prop:=1<=s.size/\s.size<=16/\∀ i,i<s.size->okb s i
theorem ANT (s:ByteArray):∃ b,J8 s=some b/\(b=true↔i_ s):=by
 unfold J8
 by_cases c1:(s.size:Int)<1
 ·rw[AA c1];exact⟨_,rfl,YA (by decide) fun h=>by have:=h.1;omega⟩
 rw[AB c1]
 by_cases c2:(s.size:Int)>16
 ·rw[AA c2];exact⟨_,rfl,YA (by decide) fun h=>by have:=h.2.1;omega⟩
 rw[AB c2,AA (by omega),show (0:Int).toNat=0 from rfl]
 by_cases c3:JY s 0<97
 ·rw[AA c3];exact⟨_,rfl,YA (by decide) fun h=>by rcases h.2.2 0 (by omega) with h|h;omega;exact h.1 rfl⟩
 rw[AB c3,AA (by omega)]
 by_cases c4:JY s 0>122
 ·rw[AA c4];exact⟨_,rfl,YA (by decide) fun h=>by rcases h.2.2 0 (by omega) with h|h;omega;exact h.1 rfl⟩
 rw[AB c4]
 refine PX (fun n (p:Nat)=>n=s.size-p/\p<=s.size/\∀ i,i<p->okb s i) (fun b=>b=true↔i_ s) ?_ s.size 0 ⟨by omega,by omega,fun i h=>by omega⟩
 rintro n p ⟨h1,h2,h3⟩
 by_cases hp:p<s.size
 rotate_left
 ·left
  rw[MV hp]
  exact⟨true,rfl,YB rfl ⟨by omega,by omega,fun i hi=>h3 i (by omega)⟩⟩
 rw[HX hp]
 have hg:=ARG s hp
 have bad:¬okb s p->∃ b,(some (Sum.inr false):Option (Nat ⊕ Bool))=some (.inr b)/\(b=true↔i_ s):=fun hb=>⟨false,rfl,YA (by decide) fun h=>hb (h.2.2 p hp)⟩
 by_cases hb:(s.get! p).toNat<128
 ·rw[AVD s p hb]
  simp only[cond_true]
  rw[<-hg]
  have good:okb s p->∃ m s',m<n/\(some (Sum.inl (p+1)):Option (Nat ⊕ Bool))=some (.inl s')/\m=s.size-s' /\s' <=s.size/\∀ i,i<s' ->okb s i:=fun hk=>⟨n-1,p+1,by omega,rfl,by omega,by omega,fun i hi=>by
   by_cases e:i=p
   ·rw[e];exact hk
   ·exact h3 i (by omega)⟩
  have hz:p=0->97<=JY s p/\JY s p<=122:=by rintro rfl;omega
  by_cases hk:okb s p
  ·right
   have:(97<=JY s p/\JY s p<=122)\/(JY s p=45\/(48<=JY s p/\JY s p<=57)):=hk.imp id fun h=>h.2
   repeat' split
   all_goals first|exact good hk|(exfalso;omega)
  ·left
   have:¬((97<=JY s p/\JY s p<=122)\/(JY s p=45\/(48<=JY s p/\JY s p<=57))):=by
    intro h
    rcases h with h|h
    ·exact hk (.inl h)
    ·by_cases e:p=0
     ·exact hk (.inl (hz e))
     ·exact hk (.inr ⟨e,h⟩)
   repeat' split
   all_goals first|exact bad hk|(exfalso;omega)
 ·have hd:=AVC s p (by omega)
  simp only[cond_true]
  left
  have hk:¬okb s p:=by unfold okb;omega
  rw[AB (by omega),AA (by omega),AB (by omega),AA (by omega),AA (by omega)]
  exact bad hk
theorem AKE (s:ByteArray) (hs:s.size<=1000000):∃ b,IE s=some b/\(b=true↔i_ s):=by
 unfold IE
 refine PX (fun n (i:Int)=>∃ p:Nat,i=(p:Int)/\n=s.size-p/\p<=s.size/\∀ j,j<p->okb s j) (fun b=>b=true↔i_ s) ?_ s.size 0 ⟨0,rfl,by omega,by omega,fun i h=>by omega⟩
 rintro n i ⟨p,rfl,h1,h2,h3⟩
 by_cases hp:p<s.size
 rotate_left
 ·left
  rw[AB (by omega)]
  by_cases c1:(s.size:Int)≥1
  ·rw[AA c1]
   refine⟨_,rfl, ?_⟩
   rw[N2]
   exact⟨fun h=>⟨by omega,by omega,fun j hj=>h3 j (by omega)⟩,fun h=>by have:=h.2.1;omega⟩
  ·rw[AB c1]
   exact⟨_,rfl,YA (by decide) fun h=>by have:=h.1;omega⟩
 rw[AA (by omega),AA (by omega),I3,AD (by omega) (by omega)]
 have bad:¬okb s p->∃ b,(some (Sum.inr false):Option (Int ⊕ Bool))=some (.inr b)/\(b=true↔i_ s):=fun hb=>⟨false,rfl,YA (by decide) fun h=>hb (h.2.2 p hp)⟩
 have good:okb s p->∃ m s',m<n/\(some (Sum.inl ((p:Int)+1)):Option (Int ⊕ Bool))=some (.inl s')/\∃ q:Nat,s' =(q:Int)/\m=s.size-q/\q<=s.size/\∀ j,j<q->okb s j:=fun hk=>⟨n-1,_,by omega,rfl,p+1,rfl,by omega,by omega,fun i hi=>by
  by_cases e:i=p
  ·rw[e];exact hk
  ·exact h3 i (by omega)⟩
 by_cases hk:okb s p
 ·right
  have MC :=hk
  unfold okb at MC
  repeat' split
  all_goals first|exact good hk|(exfalso;omega)
 ·left
  have MC :=hk
  unfold okb at MC
  repeat' split
  all_goals first|exact bad hk|(exfalso;omega)
abbrev Ru:Type:=Nat×Int×Int×Int
abbrev Cf:Type:=ByteArray×List Ru×Int
def ru (c:Cf) (b:Int):Ru:=gl (0,0,0,0) c.2.1 b.toNat
def F9 (r:Ru) (b last:Int):Prop:=r.2.1<0\/64<r.2.1\/r.2.2.1<0\/64<r.2.2.1\/(b=last/\r.2.1≠0)
def FD (r:Ru) (b last:Int):Prop:=(b=last/\r.2.2.2≠b)\/(b<last/\(r.2.2.2<=b\/last<r.2.2.2))
instance (r:Ru) (b last:Int):Decidable (F9 r b last):=by unfold F9;infer_instance
instance (r:Ru) (b last:Int):Decidable (FD r b last):=by unfold FD;infer_instance
def XZ (r:Ru) (b last:Int):Int:=if ¬VV r.1 then 6 else if F9 r b last then 9 else if FD r b last then 10 else 0
def Sh (c:Cf):Prop:=∀ b:Int,0<=b->b<c.2.1.length->(ru c b).1<18446744073709551616
theorem AD1 (a:Int):M8 a=some (decide (0<=a/\a<=64)):=by
 unfold M8
 by_cases h:a≥0
 ·rw[AA h];simp [h]
 ·rw[AB h];congr 1;symm;rw[YK];omega
theorem ARH {c:Cf} (hn:c.2.1.length<=1000) (hs:Sh c) {b:Int} (b0:0<=b) (b1:b<c.2.1.length):SY c b=some (XZ (ru c b) b ((c.2.1.length:Int)-1)):=by
 have hr:gl (0,0,0,0) c.2.1 b.toNat=ru c b:=rfl
 unfold SY
 rw[AA ⟨b0,b1⟩,hr,P0 (hs b b0 b1)]
 simp only[A9]
 unfold XZ
 by_cases hv:VV (ru c b).1
 rotate_left
 ·rw[AA (by simp [hv]),AA hv]
 rw[AB (by simp [hv]),AB (I4 hv),AD1,AD1,AD (by omega) (by omega)]
 simp only[A9]
 generalize ru c b=r
 obtain⟨x,l,q,t⟩:=r
 have hL:F9 (x,l,q,t) b ((c.2.1.length:Int)-1)↔¬(0<=l/\l<=64)\/¬(0<=q/\q<=64)\/(b=(c.2.1.length:Int)-1/\l≠0):=by
  unfold F9
  simp only
  omega
 have hT:FD (x,l,q,t) b ((c.2.1.length:Int)-1)↔(b=(c.2.1.length:Int)-1/\t≠b)\/(b<(c.2.1.length:Int)-1/\(t<=b\/(c.2.1.length:Int)-1<t)):=Iff.rfl
 simp only
 by_cases c1:0<=l/\l<=64
 rotate_left
 ·rw[AA (by simp only[RM,YK];exact c1),AA (hL.2 (.inl c1))]
 rw[AB (by simp only[RM,YK];exact I4 c1)]
 by_cases c2:0<=q/\q<=64
 rotate_left
 ·rw[AA (by simp only[RM,YK];exact c2),AA (hL.2 (.inr (.inl c2)))]
 rw[AB (by simp only[RM,YK];exact I4 c2)]
 by_cases c3:b=(c.2.1.length:Int)-1
 ·rw[AA c3]
  by_cases c4:l=0
  ·have nl:¬F9 (x,l,q,t) b ((c.2.1.length:Int)-1):=fun h=>by have:=hL.1 h;omega
   rw[AB (I4 c4),AA c3,AB nl]
   by_cases c5:t=b
   ·have nt:¬FD (x,l,q,t) b ((c.2.1.length:Int)-1):=fun h=>by have:=hT.1 h;omega
    rw[AB (I4 c5),AB (by omega),AB nt]
   ·rw[AA c5,AA (hT.2 (.inl ⟨c3,c5⟩))]
  ·rw[AA c4,AA (hL.2 (.inr (.inr ⟨c3,c4⟩)))]
 ·have nl:¬F9 (x,l,q,t) b ((c.2.1.length:Int)-1):=fun h=>by have:=hL.1 h;omega
  rw[AB c3,AB c3,AA (by omega),AB nl]
  by_cases c5:t<=b
  ·rw[AA c5,AA (hT.2 (.inr ⟨by omega,.inl c5⟩))]
  ·rw[AB c5]
   by_cases c6:t>(c.2.1.length:Int)-1
   ·rw[AA c6,AA (hT.2 (.inr ⟨by omega,.inr c6⟩))]
   ·have nt:¬FD (x,l,q,t) b ((c.2.1.length:Int)-1):=fun h=>by have:=hT.1 h;omega
    rw[AB c6,AB nt]
def fe (c:Cf):Nat->Int->Int
 |0,_=>0
 |m+1,b=>if XZ (ru c b) b ((c.2.1.length:Int)-1)≠0 then XZ (ru c b) b ((c.2.1.length:Int)-1) else fe c m (b+1)
theorem AA4 (c:Cf):∀ (m:Nat) (b:Int),fe c m b=0->∀ k:Int,b<=k->k<b+m->XZ (ru c k) k ((c.2.1.length:Int)-1)=0
 |0,b,_,k,h1,h2=>by omega
 |m+1,b,h,k,h1,h2=>by
  rw[fe] at h
  by_cases e:XZ (ru c b) b ((c.2.1.length:Int)-1)=0
  ·rw[AB (I4 e)] at h
   by_cases hk:k=b
   ·rw[hk];exact e
   ·exact AA4 c m (b+1) h k (by omega) (by omega)
  ·rw[AA e] at h;exact absurd h e
theorem AT8 (c:Cf):∀ (m:Nat) (b:Int),(∀ k:Int,b<=k->k<b+m->XZ (ru c k) k ((c.2.1.length:Int)-1)=0)->fe c m b=0
 |0,b,_=>rfl
 |m+1,b,h=>by
  rw[fe,AB (I4 (h b (by omega) (by omega)))]
  exact AT8 c m (b+1) fun k h1 h2=>h k (by omega) (by omega)
def Aim (c:Cf) (b:Int):Prop:=∃ k:Int,(0<=k/\k<c.2.1.length)/\k≠b/\(ru c k).2.2.2=b
def cG (c:Cf):Prop:=((ru c ((c.2.1.length:Int)-1)).1=0/\(c.2.2<1\/64<c.2.2))\/((ru c ((c.2.1.length:Int)-1)).1≠0/\c.2.2≠0)
open Classical in
noncomputable def T0 (c:Cf):Int:=
 if ¬i_ c.1 then 7 else if ¬(1<=c.2.1.length/\c.2.1.length<=4) then 8 else if fe c c.2.1.length 0≠0 then fe c c.2.1.length 0 else if ¬(∀ b:Int,1<=b->b<c.2.1.length->Aim c b) then 10 else if cG c then 9 else 0
theorem AD2 {c:Cf} (hn:c.2.1.length<=1000) (b:Int):∃ r,MA c b=some r/\(r=true↔Aim c b):=by
 unfold MA
 refine PX (fun n (i:Int)=>∃ p:Nat,i=(p:Int)/\n=c.2.1.length-p/\p<=c.2.1.length/\∀ k:Int,0<=k->k<p->¬(k≠b/\(ru c k).2.2.2=b)) (fun r=>r=true↔Aim c b) ?_ c.2.1.length 0 ⟨0,rfl,by omega,by omega,fun i _ h=>by omega⟩
 rintro n i ⟨p,rfl,h1,h2,h3⟩
 by_cases hp:p<c.2.1.length
 rotate_left
 ·left
  rw[AB (by omega)]
  refine⟨_,rfl,YA (by decide) ?_⟩
  rintro⟨k,⟨k0,k1⟩,k2⟩
  exact h3 k k0 (by omega) k2
 have hr:gl (0,0,0,0) c.2.1 (p:Int).toNat=ru c p:=rfl
 rw[AA (by omega),AA (by omega),hr,AD (by omega) (by omega)]
 have good:¬((p:Int)≠b/\(ru c p).2.2.2=b)->∃ m s',m<n/\(some (Sum.inl ((p:Int)+1)):Option (Int ⊕ Bool))=some (.inl s')/\∃ q:Nat,s' =(q:Int)/\m=c.2.1.length-q/\q<=c.2.1.length/\∀ k:Int,0<=k->k<q->¬(k≠b/\(ru c k).2.2.2=b):=fun hk=>⟨n-1,_,by omega,rfl,p+1,rfl,by omega,by omega,fun k k0 k1=>by
  by_cases e:k=p
  ·rw[e];exact hk
  ·exact h3 k k0 (by omega)⟩
 by_cases c1:(p:Int)=b
 ·rw[AB (I4 c1)]
  exact .inr (good fun h=>h.1 c1)
 ·rw[AA c1]
  by_cases c2:(ru c p).2.2.2=b
  ·rw[AA c2]
   exact .inl ⟨_,rfl,YB rfl ⟨p,⟨by omega,by omega⟩,c1,c2⟩⟩
  ·rw[AB c2]
   exact .inr (good fun h=>c2 h.2)
theorem AA5 {x:Nat} (h:VV x):C4 x 0=some .eq↔x=0:=by
 rcases h with rfl|⟨h0,h1⟩
 ·exact YB (by decide) rfl
 ·exact YA (not_zero h0 h1) (by omega)
theorem ANU {c:Cf} (h1:1<=c.2.1.length) (hfe:fe c c.2.1.length 0=0) {b:Int} (b0:0<=b) (b1:b<c.2.1.length):VV (ru c b).1:=by
 have:=AA4 c _ _ hfe b b0 (by omega)
 unfold XZ at this
 exact uB fun h=>by rw[AA h] at this;exact absurd this (by decide)
open Classical in
theorem AD3 {c:Cf} (hn:c.2.1.length<=1000) (hs:Sh c):H3 c=some (T0 c):=by
 unfold H3 T0
 obtain⟨nb,n1,n2⟩:=ANT c.1
 rw[n1]
 simp only[A9]
 by_cases hnm:i_ c.1
 rotate_left
 ·rw[AA (by simp only[RM];cases nb with|false=>rfl|true=>exact absurd (n2.1 rfl) hnm),AA hnm]
 rw[AB (by simp [n2.2 hnm]),AB (I4 hnm)]
 by_cases c1:(c.2.1.length:Int)<1
 ·rw[AA c1,AA (by omega)]
 rw[AB c1]
 by_cases c2:(c.2.1.length:Int)>4
 ·rw[AA c2,AA (by omega)]
 rw[AB c2,AB (show ¬¬(1<=c.2.1.length/\c.2.1.length<=4) from by omega)]
 refine LA (fun m (i:Int)=>∃ p:Nat,i=(p:Int)/\m=c.2.1.length-p/\p<=c.2.1.length/\fe c (c.2.1.length-p) p=fe c c.2.1.length 0) (n:=c.2.1.length) ?_ ⟨0,rfl,by omega,by omega,by simp⟩
 rintro m i ⟨p,rfl,h1,h2,h3⟩
 by_cases hp:p<c.2.1.length
 ·rw[AA (by omega),ARH hn hs (by omega) (by omega)]
  simp only[A9]
  obtain⟨d,hd⟩:∃ d,c.2.1.length-p=d+1:=⟨c.2.1.length-p-1,by omega⟩
  rw[hd,fe] at h3
  by_cases he:XZ (ru c p) p ((c.2.1.length:Int)-1)=0
  ·rw[AB (I4 he)] at h3
   rw[AB (I4 he),AD (by omega) (by omega)]
   refine .inr ⟨m-1,_,by omega,rfl,p+1,rfl,by omega,by omega, ?_⟩
   rw[show c.2.1.length-(p+1)=d from by omega]
   exact h3
  ·rw[AA he] at h3
   rw[AA he,AA (by rw[<-h3];exact he),h3]
   exact .inl rfl
 ·have hp' :p=c.2.1.length:=by omega
  subst hp'
  rw[Nat.sub_self,fe] at h3
  rw[AB (by omega),AB (I4 h3.symm)]
  left
  suffices hx:AM (σ:=Int) (β:=Int) _ 1=some (if ¬(∀ b:Int,1<=b->b<c.2.1.length->Aim c b) then 10 else if cG c then 9 else 0) by
   rw[hx];rfl
  refine LA (fun m (i:Int)=>∃ p:Nat,i=(p:Int)/\1<=p/\m=c.2.1.length-p/\p<=c.2.1.length/\∀ b:Int,1<=b->b<p->Aim c b) (n:=c.2.1.length-1) ?_ ⟨1,rfl,by omega,by omega,by omega,fun b b0 b1=>by omega⟩
  rintro m i ⟨p,rfl,q1,q2,q3,q4⟩
  by_cases hp:p<c.2.1.length
  ·rw[AA (by omega)]
   obtain⟨r,r1,r2⟩:=AD2 hn (p:Int)
   rw[r1]
   simp only[A9]
   by_cases ha:Aim c p
   ·rw[AB (by simp [r2.2 ha]),AD (by omega) (by omega)]
    exact .inr ⟨m-1,_,by omega,rfl,p+1,rfl,by omega,by omega,by omega,fun b b0 b1=>by
     by_cases e:b=p
     ·rw[e];exact ha
     ·exact q4 b b0 (by omega)⟩
   ·rw[AA (by simp only[RM];cases r with|false=>rfl|true=>exact absurd (r2.1 rfl) ha),AA (fun h=>ha (h p (by omega) (by omega)))]
    exact .inl rfl
  ·rw[AB (by omega),AB (I4 fun b b0 b1=>q4 b b0 (by omega)),AD (e:=(c.2.1.length:Int)-1) (by omega) (by omega),AA (by omega)]
   left
   have hr:gl (0,0,0,0) c.2.1 ((c.2.1.length:Int)-1).toNat=ru c ((c.2.1.length:Int)-1):=rfl
   have hz:=AA5 (ANU (by omega) h3.symm (b:=(c.2.1.length:Int)-1) (by omega) (by omega))
   rw[hr]
   unfold cG
   simp only[hz]
   by_cases z:(ru c ((c.2.1.length:Int)-1)).1=0
   ·rw[AA z]
    by_cases f1:c.2.2<1
    ·rw[AA f1,AA (.inl ⟨z,.inl f1⟩)];rfl
    ·rw[AB f1]
     by_cases f2:c.2.2>64
     ·rw[AA f2,AA f2,AA (.inl ⟨z,.inr f2⟩)];rfl
     ·rw[AB f2,AB (I4 z),AB (by rintro (⟨_,h⟩|⟨h,_⟩);omega;exact h z)];rfl
   ·rw[AB z,AA z]
    by_cases f1:c.2.2=0
    ·rw[AB (I4 f1),AB (by rintro (⟨h,_⟩|⟨_,h⟩);exact z h;exact h f1)];rfl
    ·rw[AA f1,AA (.inr ⟨z,f1⟩)];rfl
theorem ARI:∀ p:Fin 101,(match FI .quo (ZX (p.1:Int)) 4636737291354636288 with|some w=>decide (p.1=0\/(0<w/\w<=4607182418800017408))|none=>false)=true:=by decide+kernel
theorem AHX {p:Int} (h0:1<=p) (h1:p<=100):∃ w,FH p=some (w,0)/\0<w/\w<=4607182418800017408:=by
 have:=ARI ⟨p.toNat,by omega⟩
 rw[show (((⟨p.toNat,by omega⟩:Fin 101).1:Nat):Int)=p from qU (by omega)] at this
 unfold FH
 rw[AB (by omega),AB (by omega)]
 cases h:FI .quo (ZX p) 4636737291354636288 with
 |none=>rw[h] at this;cases this
 |some w=>
  rw[h] at this
  simp only[IQ] at this
  rw[AA Option.isSome_some]
  refine⟨w,rfl, ?_⟩
  rcases this with h2|h2
  ·omega
  ·exact h2
theorem ANV {d:List Int×Int} (hd:RJ d):∃ x d',JT d=some (x,d')/\(0<x/\x<=4607182418800017408)/\RJ d' :=by
 unfold JT
 obtain⟨r1,d1,e1,a0,a1,hd1⟩:=EZ hd (n:=4) (by omega) (by omega)
 rw[e1]
 simp only[A9]
 by_cases c:r1=0
 ·rw[AA c]
  obtain⟨r2,d2,e2,b0,b1,hd2⟩:=EZ hd1 (n:=5) (by omega) (by omega)
  rw[e2]
  simp only[A9]
  rw[AA ⟨b0,by simp;omega⟩]
  refine⟨_,_,rfl, ?_,hd2⟩
  have hm:=BR (d:=(0:Nat)) (xs:=[4602678819172646912,4593671619917905920,4607182418800017408,4599676419421066581,4562254508917369340]) (k:=r2.toNat) (by simp;omega)
  generalize gl (0:Nat) [4602678819172646912,4593671619917905920,4607182418800017408,4599676419421066581,4562254508917369340] r2.toNat=x at hm ⊢
  simp only[F7,rB,or_false] at hm
  omega
 ·rw[AB c]
  obtain⟨r2,d2,e2,b0,b1,hd2⟩:=EZ hd1 (n:=100) (by omega) (by omega)
  rw[e2]
  simp only[A9]
  rw[AD (by omega) (by omega)]
  obtain⟨w,w1,w2⟩:=AHX (p:=1+r2) (by omega) (by omega)
  rw[w1]
  exact⟨_,_,rfl,w2,hd2⟩
structure Good (c:Cf):Prop where
 nm:i_ c.1
 n:1<=c.2.1.length/\c.2.1.length<=4
 ru:∀ b:Int,0<=b->b<c.2.1.length->VV (ru c b).1/\¬F9 (ru c b) b ((c.2.1.length:Int)-1)/\¬FD (ru c b) b ((c.2.1.length:Int)-1)
 aim:∀ b:Int,1<=b->b<c.2.1.length->Aim c b
 fin:¬cG c
theorem Good.sh {c:Cf} (h:Good c):Sh c:=fun b b0 b1=>by
 rcases (h.ru b b0 b1).1 with e|⟨_,e⟩ <;> omega
theorem Good.T0 {c:Cf} (h:Good c):T0 c=0:=by
 unfold Go.Proofs.YthmiilamegpllaaGreat.T0
 rw[AB (I4 h.nm),AB (I4 h.n)]
 have hfe:fe c c.2.1.length 0=0:=AT8 c _ _ fun k k0 k1=>by
  obtain⟨a,b,d⟩:=h.ru k k0 (by omega)
  unfold XZ
  rw[AB (I4 a),AB b,AB d]
 rw[AB (I4 hfe),AB (I4 h.aim),AB h.fin]
theorem Good.check {c:Cf} (h:Good c):H3 c=some 0:=by
 rw[AD3 (by have:=h.n.2;omega) h.sh,h.T0]
theorem Good.full {c:Cf} (h:Good c) (hf:c.2.2>0) {f:Int} (f0:1<=f) (f1:f<=5):Good (c.1,c.2.1,f):=by
 refine⟨h.nm,h.n,h.ru,h.aim, ?_⟩
 have:=h.fin
 rintro (⟨_,h2⟩|⟨h1,h2⟩)
 ·simp only at h2;omega
 ·exact this (.inr ⟨h1,by omega⟩)
theorem tI {s:ByteArray} (h:decide (1<=s.size/\s.size<=16/\∀ i:Fin s.size,(97<=JY s i.1/\JY s i.1<=122)\/(i.1≠0/\(JY s i.1=45\/(48<=JY s i.1/\JY s i.1<=57))))=true):i_ s:=by
 rw[N2] at h
 exact⟨h.1,h.2.1,fun i hi=>h.2.2 ⟨i,hi⟩⟩
theorem AT9 {s:ByteArray} {x:Nat} {q f:Int} (hs:i_ s) (hx:VV x) (hq:0<=q/\q<=64) (hf:¬((x=0/\(f<1\/64<f))\/(x≠0/\f≠0))):Good (s,[(x,0,q,0)],f):=by
 refine⟨hs,⟨by simp,by simp⟩, ?_, ?_,hf⟩
 ·intro b b0 b1
  simp only[N3,U7] at b1 ⊢
  obtain rfl:b=0:=by omega
  refine⟨hx, ?_, ?_⟩
  ·show ¬F9 (x,0,q,0) _ _
   unfold F9;simp only;omega
  ·show ¬FD (x,0,q,0) _ _
   unfold FD;simp only;omega
 ·intro b b0 b1
  simp only[N3,U7] at b1
  omega
theorem ANW {s:ByteArray} {x y:Nat} {l q k f:Int} (hs:i_ s) (hx:VV x) (hy:VV y) (hl:0<=l/\l<=64) (hq:0<=q/\q<=64) (hk:0<=k/\k<=64) (hf:¬((y=0/\(f<1\/64<f))\/(y≠0/\f≠0))):Good (s,[(x,l,q,1),(y,0,k,1)],f):=by
 refine⟨hs,⟨by simp,by simp⟩, ?_, ?_,hf⟩
 ·intro b b0 b1
  simp only[N3,U7] at b1 ⊢
  have:b=0\/b=1:=by omega
  rcases this with rfl|rfl
  ·refine⟨hx, ?_, ?_⟩
   ·show ¬F9 (x,l,q,1) _ _
    unfold F9;simp only;omega
   ·show ¬FD (x,l,q,1) _ _
    unfold FD;simp only;omega
  ·refine⟨hy, ?_, ?_⟩
   ·show ¬F9 (y,0,k,1) _ _
    unfold F9;simp only;omega
   ·show ¬FD (y,0,k,1) _ _
    unfold FD;simp only;omega
 ·intro b b0 b1
  simp only[N3,U7] at b1
  obtain rfl:b=1:=by omega
  exact⟨0,⟨by omega,by simp⟩,by omega,rfl⟩
theorem AYE {s:ByteArray} {x y z:Nat} {q k f:Int} (hs:i_ s) (hx:VV x) (hy:VV y) (hz:VV z) (hq:0<=q/\q<=64) (hk:0<=k/\k<=64) (hf:¬((z=0/\(f<1\/64<f))\/(z≠0/\f≠0))):Good (s,[(x,0,q,1),(y,0,k,2),(z,0,0,2)],f):=by
 refine⟨hs,⟨by simp,by simp⟩, ?_, ?_,hf⟩
 ·intro b b0 b1
  simp only[N3,U7] at b1 ⊢
  have:b=0\/b=1\/b=2:=by omega
  rcases this with rfl|rfl|rfl
  ·refine⟨hx, ?_, ?_⟩
   ·show ¬F9 (x,0,q,1) _ _
    unfold F9;simp only;omega
   ·show ¬FD (x,0,q,1) _ _
    unfold FD;simp only;omega
  ·refine⟨hy, ?_, ?_⟩
   ·show ¬F9 (y,0,k,2) _ _
    unfold F9;simp only;omega
   ·show ¬FD (y,0,k,2) _ _
    unfold FD;simp only;omega
  ·refine⟨hz, ?_, ?_⟩
   ·show ¬F9 (z,0,0,2) _ _
    unfold F9;simp only;omega
   ·show ¬FD (z,0,0,2) _ _
    unfold FD;simp only;omega
 ·intro b b0 b1
  simp only[N3,U7] at b1
  have:b=1\/b=2:=by omega
  rcases this with rfl|rfl
  ·exact⟨0,⟨by omega,by simp⟩,by omega,rfl⟩
  ·exact⟨1,⟨by omega,by simp⟩,by omega,rfl⟩
theorem AVE {j:Nat} (hj:j<6) {p:Int} (p0:1<=p) (p1:p<=100):∃ c,KU (gl (⟨#[]⟩:ByteArray) [⟨#[115,101,109,105,115,112,97,99,101]⟩,⟨#[97,112,112,101,108]⟩,⟨#[102,105,120,101,100]⟩,⟨#[111,108,100,101,114,45,102,105,114,115,116]⟩,⟨#[120,120]⟩,⟨#[120,120,49,48,48]⟩] j) p=some (c,0)/\Good c:=by
 obtain⟨w,w1,w2,w3⟩:=AHX p0 p1
 have hw:VV w:= .inr ⟨w2,w3⟩
 have h0:VV 0:= .inl rfl
 unfold KU
 rw[w1]
 simp only[A9]
 rw[AB (by simp)]
 have:j=0\/j=1\/j=2\/j=3\/j=4\/j=5:=by omega
 rcases this with rfl|rfl|rfl|rfl|rfl|rfl
 ·rw[AA (by decide),AB (by omega)]
  exact⟨_,rfl,AT9 (tI (by decide)) h0 (by omega) (by omega)⟩
 ·rw[AB (by decide),AA (by decide),AB (by omega)]
  exact⟨_,rfl,ANW (tI (by decide)) h0 h0 (by omega) (by omega) (by omega) (by omega)⟩
 ·rw[AB (by decide),AB (by decide),AA (by decide),AB (by omega)]
  exact⟨_,rfl,ANW (tI (by decide)) hw h0 (by omega) (by omega) (by omega) (by omega)⟩
 ·rw[AB (by decide),AB (by decide),AB (by decide),AA (by decide),AB (by omega)]
  exact⟨_,rfl,AT9 (tI (by decide)) hw (by omega) (by omega)⟩
 ·rw[AB (by decide),AB (by decide),AB (by decide),AB (by decide),AA (by decide),AB (by omega)]
  exact⟨_,rfl,ANW (tI (by decide)) hw hw (by omega) (by omega) (by omega) (by omega)⟩
 ·rw[AB (by decide),AB (by decide),AB (by decide),AB (by decide),AB (by decide),AA (by decide),AB (by omega)]
  exact⟨_,rfl,AYE (tI (by decide)) hw hw h0 (by omega) (by omega) (by omega)⟩
def Part (n b:Int) (c:Cf):Prop:=
 c.1=⟨#[111,119,110]⟩/\(c.2.1.length:Int)=b/\(b<n->c.2.2=0)∧
 (∀ k:Int,0<=k->k<b->VV (ru c k).1/\(0<=(ru c k).2.1/\(ru c k).2.1<=64)/\(0<=(ru c k).2.2.1/\(ru c k).2.2.1<=64)/\(k<n-1->(ru c k).2.2.2=k+1)/\(k=n-1->(ru c k).2.1=0/\(ru c k).2.2.2=k))∧
 (b=n->¬(((ru c (n-1)).1=0/\(c.2.2<1\/64<c.2.2))\/((ru c (n-1)).1≠0/\c.2.2≠0)))
theorem Part.good {n:Int} {c:Cf} (n0:1<=n) (n1:n<=4) (h:Part n n c):Good c:=by
 obtain⟨h1,h2,h3,h4,h5⟩:=h
 refine⟨by rw[h1];exact tI (by decide),⟨by omega,by omega⟩, ?_, ?_, ?_⟩
 ·intro b b0 b1
  obtain⟨a1,a2,a3,a4,a5⟩:=h4 b b0 (by omega)
  rw[h2]
  refine⟨a1, ?_, ?_⟩
  ·unfold F9;omega
  ·unfold FD;omega
 ·intro b b0 b1
  exact⟨b-1,⟨by omega,by omega⟩,by omega,by have:=(h4 (b-1) (by omega) (by omega)).2.2.2.1 (by omega);omega⟩
 ·unfold cG
  rw[h2]
  exact h5 rfl
theorem AVF {s:ByteArray} {l:List Ru} {r:Ru} {f f' :Int} {k:Int} (k0:0<=k) (k1:k<l.length):ru (s,l++ [r],f) k=ru (s,l,f') k:=by
 unfold ru gl
 simp only[qP]
 rw[T6 (by omega)]
theorem AVG {s:ByteArray} {l:List Ru} {r:Ru} {f:Int}:ru (s,l++ [r],f) l.length=r:=by
 unfold ru gl
 simp
theorem Part.more {n b:Int} {c:Cf} (h:Part n b c) (hb:b<n) {x:Nat} {l q t f:Int} (hx:VV x) (hl:0<=l/\l<=64) (hq:0<=q/\q<=64) (ht:b<n-1->t=b+1) (ht2:b=n-1->l=0/\t=b) (hf:b<n-1->f=0) (pA:b=n-1->¬((x=0/\(f<1\/64<f))\/(x≠0/\f≠0))):
  Part n (b+1) (c.1,c.2.1++ [(x,l,q,t)],f):=by
 obtain⟨h1,h2,h3,h4,h5⟩:=h
 have DC:ru (c.1,c.2.1++ [(x,l,q,t)],f) b=(x,l,q,t):=by rw[<-h2];exact AVG
 refine⟨h1,by simp;omega,fun h=>hf (by omega), ?_, ?_⟩
 ·intro k k0 k1
  by_cases e:k=b
  ·rw[e,DC]
   exact⟨hx,hl,hq,ht,ht2⟩
  ·rw[AVF (f' :=c.2.2) k0 (by omega)]
   exact h4 k k0 (by omega)
 ·intro e
  rw[show n-1=b from by omega,DC]
  exact pA (by omega)
theorem ARJ {α β:Type} {x:Option (α×β)} {Q:α->Prop} {R:β->Prop} (h:∃ b,x=some b/\Q b.1/\R b.2):∃ c d',x=some (c,d')/\Q c/\R d' :=by
 obtain⟨⟨c,d'⟩,h1,h2⟩:=h
 exact⟨c,d',h1,h2⟩
theorem AKF {d:List Int×Int} (hd:RJ d):∃ c d',IN d=some (c,d')/\Good c/\RJ d' :=by
 unfold IN
 obtain⟨r1,d1,e1,a0,a1,hd1⟩:=EZ hd (n:=3) (by omega) (by omega)
 rw[e1,A9]
 by_cases c1:r1>0
 ·rw[AA c1]
  unfold MT
  obtain⟨r3,d3,e3,b0,b1,hd3⟩:=EZ hd1 (n:=6) (by omega) (by omega)
  rw[A9,e3,A9,AA ⟨b0,by simp;omega⟩]
  obtain⟨r4,d4,e4,f0,f1,hd4⟩:=EZ hd3 (n:=100) (by omega) (by omega)
  rw[e4,A9]
  obtain⟨r5,d5,e5,g0,g1,hd5⟩:=EZ hd4 (n:=6) (by omega) (by omega)
  rw[e5,A9,AA ⟨g0,by simp;omega⟩,AD (e:=1+r4) (by omega) (by omega)]
  have hp:1<=gl (0:Int) [10,15,25,30,50,1+r4] r5.toNat/\gl (0:Int) [10,15,25,30,50,1+r4] r5.toNat<=100:=by
   have hm:=BR (d:=(0:Int)) (xs:=[10,15,25,30,50,1+r4]) (k:=r5.toNat) (by simp;omega)
   generalize gl (0:Int) [10,15,25,30,50,1+r4] r5.toNat=x at hm ⊢
   simp only[F7,rB,or_false] at hm
   omega
  obtain⟨c,k1,k2⟩:=AVE (j:=r3.toNat) (by omega) hp.1 hp.2
  rw[k1,A9]
  by_cases c2:c.2.2>0
  ·rw[AA c2]
   obtain⟨r6,d6,e6,m0,m1,hd6⟩:=EZ hd5 (n:=5) (by omega) (by omega)
   rw[e6,A9,A9,AD (e:=1+r6) (by omega) (by omega)]
   exact⟨_,_,rfl,k2.full c2 (by omega) (by omega),hd6⟩
  ·rw[AB c2,A9]
   exact⟨_,_,rfl,k2,hd5⟩
 ·rw[AB c1]
  obtain⟨r8,d8,e8,b0,b1,hd8⟩:=EZ hd1 (n:=4) (by omega) (by omega)
  rw[e8,A9,AD (e:=1+r8) (by omega) (by omega),AD (e:=1+r8-1) (by omega) (by omega)]
  generalize hn:1+r8=n
  have n0:1<=n:=by omega
  have n1:n<=4:=by omega
  refine ARJ (Q:=Good) (R:=RJ) ?_
  refine PX (β:=Cf×(List Int×Int)) (fun m (st:Int×(List Int×Int)×Cf)=>0<=st.1/\st.1<=n/\(m:Int)=n-st.1/\RJ st.2.1/\Part n st.1 st.2.2) (fun b=>Good b.1/\RJ b.2) ?_ n.toNat ((0:Int),d8,((⟨#[111,119,110]⟩,[],0):Cf)) ⟨by simp,by simp only;omega,by simp only;omega,hd8,rfl,rfl,fun _=>rfl,fun k k0 k1=>by simp only at k1;omega,fun h=>by simp only at h;omega⟩
  rintro m ⟨b,dk,c⟩ ⟨b0,b1,hm,hdk,V4⟩
  simp only at b0 b1 hm hdk V4 ⊢
  have hlen:=V4.2.1
  by_cases hb:b<n
  rotate_left
  ·rw[AB hb]
   have:b=n:=by omega
   rw[this] at V4
   exact .inl ⟨_,rfl,V4.good n0 n1,hdk⟩
  rw[AA hb]
  right
  obtain⟨r9,d9,e9,p0,p1,hd9⟩:=EZ hdk (n:=3) (by omega) (by omega)
  rw[e9,A9,AD (e:=b+1) (by omega) (by omega)]
  obtain⟨LZ,d10,e10,q0,q1,AYF⟩:=EZ hd9 (n:=3) (by omega) (by omega)
  rw[e10,A9]
  have YO:∀ r:Ru,(c.2.1.length+([r]:List Ru).length)*32<=140737488355328:=fun r=>by
   simp only[N3,U7];omega
  have tl:∀ (x:Nat) (dk2:List Int×Int),VV x->RJ dk2->∃ (dk3:List Int×Int) (c' :Cf),(if b<n-1 then
    Option.bind (AF dk2 3) (fun QU=>
    if QU.1=0 then
    Option.bind (AF QU.2 2) (fun UF=>
    if b=n-1 then
    if C4 x 0=some .eq then
    Option.bind (AF UF.2 6) (fun tX=>
    if (c.2.1.length+([(x,AG ((1:Int)+UF.1),r9,b)]:List Ru).length)*32<=140737488355328 then
    some (Sum.inl ((b+1,tX.2,(c.1,c.2.1++([(x,AG ((1:Int)+UF.1),r9,b)]:List Ru),AG ((1:Int)+tX.1)))))
    else none)
    else if (c.2.1.length+([(x,AG ((1:Int)+UF.1),r9,b)]:List Ru).length)*32<=140737488355328 then
    some (Sum.inl ((b+1,UF.2,(c.1,c.2.1++([(x,AG ((1:Int)+UF.1),r9,b)]:List Ru),c.2.2))))
    else none
    else if (c.2.1.length+([(x,AG ((1:Int)+UF.1),r9,b+1)]:List Ru).length)*32<=140737488355328 then
    some (Sum.inl ((b+1,UF.2,(c.1,c.2.1++([(x,AG ((1:Int)+UF.1),r9,b+1)]:List Ru),c.2.2))))
    else none)
    else if b=n-1 then
    if C4 x 0=some .eq then
    Option.bind (AF QU.2 6) (fun sZ=>
    if (c.2.1.length+([(x,0,r9,b)]:List Ru).length)*32<=140737488355328 then
    some (Sum.inl ((b+1,sZ.2,(c.1,c.2.1++([(x,0,r9,b)]:List Ru),AG ((1:Int)+sZ.1)))))
    else none)
    else if (c.2.1.length+([(x,0,r9,b)]:List Ru).length)*32<=140737488355328 then
    some (Sum.inl ((b+1,QU.2,(c.1,c.2.1++([(x,0,r9,b)]:List Ru),c.2.2))))
    else none
    else if (c.2.1.length+([(x,0,r9,b+1)]:List Ru).length)*32<=140737488355328 then
    some (Sum.inl ((b+1,QU.2,(c.1,c.2.1++([(x,0,r9,b+1)]:List Ru),c.2.2))))
    else none)
    else if b=n-1 then
    if C4 x 0=some .eq then
    Option.bind (AF dk2 6) (fun tY=>
    if (c.2.1.length+([(x,0,r9,b)]:List Ru).length)*32<=140737488355328 then
    some (Sum.inl ((b+1,tY.2,(c.1,c.2.1++([(x,0,r9,b)]:List Ru),AG ((1:Int)+tY.1)))))
    else none)
    else if (c.2.1.length+([(x,0,r9,b)]:List Ru).length)*32<=140737488355328 then
    some (Sum.inl ((b+1,dk2,(c.1,c.2.1++([(x,0,r9,b)]:List Ru),c.2.2))))
    else none
    else if (c.2.1.length+([(x,0,r9,b+1)]:List Ru).length)*32<=140737488355328 then
    some (Sum.inl ((b+1,dk2,(c.1,c.2.1++([(x,0,r9,b+1)]:List Ru),c.2.2))))
    else none:Option ((Int×(List Int×Int)×Cf) ⊕ (Cf×(List Int×Int))))=some (Sum.inl (b+1,dk3,c'))/\RJ dk3/\Part n (b+1) c' :=by
   intro x dk2 hx AVH
   by_cases c2:b<n-1
   ·have c3:¬b=n-1:=by omega
    have hc0:c.2.2=0:=V4.2.2.1 hb
    rw[AA c2]
    obtain⟨QU,d12,e12,s0,s1,AYG⟩:=EZ AVH (n:=3) (by omega) (by omega)
    rw[e12,A9]
    by_cases c4:QU=0
    ·rw[AA c4]
     obtain⟨UF,d13,e13,t0,t1,A0N⟩:=EZ AYG (n:=2) (by omega) (by omega)
     rw[e13,A9,AB c3,AA (YO _),AD (e:=1+UF) (by omega) (by omega)]
     exact⟨_,_,rfl,A0N,V4.more hb hx (by omega) (by omega) (fun _=>rfl) (fun h=>absurd h c3) (fun _=>hc0) (fun h=>absurd h c3)⟩
    ·rw[AB c4,AB c3,AA (YO _)]
     exact⟨_,_,rfl,AYG,V4.more hb hx (by omega) (by omega) (fun _=>rfl) (fun h=>absurd h c3) (fun _=>hc0) (fun h=>absurd h c3)⟩
   ·have c3:b=n-1:=by omega
    have hc0:c.2.2=0:=V4.2.2.1 hb
    rw[AB c2,AA c3]
    by_cases c4:C4 x 0=some .eq
    ·rw[AA c4]
     have hx0:=(AA5 hx).1 c4
     obtain⟨tY,d16,e16,t0,t1,A0O⟩:=EZ AVH (n:=6) (by omega) (by omega)
     rw[e16,A9,AA (YO _),AD (e:=1+tY) (by omega) (by omega)]
     exact⟨_,_,rfl,A0O,V4.more hb hx (by omega) (by omega) (fun h=>by omega) (fun _=>⟨rfl,rfl⟩) (fun h=>by omega) (fun _=>by omega)⟩
    ·rw[AB c4,AA (YO _)]
     have hx0:x≠0:=fun h=>c4 ((AA5 hx).2 h)
     exact⟨_,_,rfl,AVH,V4.more hb hx (by omega) (by omega) (fun h=>by omega) (fun _=>⟨rfl,rfl⟩) (fun h=>by omega) (fun _=>by omega)⟩
  by_cases c5:LZ>0
  ·rw[AA c5]
   obtain⟨x,d11,e11,hx,A0P⟩:=ANV AYF
   rw[e11,A9,A9]
   obtain⟨dk3,c',t1,t2,t3⟩:=tl x d11 (.inr hx) A0P
   exact⟨m-1,_,by omega,t1,by simp only;omega,by simp only;omega,by simp only;omega,t2,t3⟩
  ·rw[AB c5,A9]
   obtain⟨dk3,c',t1,t2,t3⟩:=tl 0 d10 (.inl rfl) AYF
   exact⟨m-1,_,by omega,t1,by simp only;omega,by simp only;omega,by simp only;omega,t2,t3⟩
theorem ANX {x:Nat} {l q t b last:Int} {n:Nat} (hx:x<18446744073709551616) (hn:(n:Int)=last+1) (b1:b<=last) {α:Type} (ok mark:Option (α ⊕ Int)) (VK:mark=mark):
  (if (!(decide (VV x)))=true then
   some (Sum.inr (6))
   else if l<0 then
   some (Sum.inr (9))
   else if l>64 then
   some (Sum.inr (9))
   else if q<0 then
   some (Sum.inr (9))
   else if q>64 then
   some (Sum.inr (9))
   else if b=last then
   if ¬l=0 then
   some (Sum.inr (9))
   else if b=last then
   if ¬t=b then
   some (Sum.inr (10))
   else if ¬(b=last) then
   if t<=b then
   some (Sum.inr (10))
   else if t≥(n:Int) then
   some (Sum.inr (10))
   else if ¬(b=last) then
   mark
   else ok
   else if ¬(b=last) then
   mark
   else ok
   else if ¬(b=last) then
   if t<=b then
   some (Sum.inr (10))
   else if t≥(n:Int) then
   some (Sum.inr (10))
   else if ¬(b=last) then
   mark
   else ok
   else if ¬(b=last) then
   mark
   else ok
   else if b=last then
   if ¬t=b then
   some (Sum.inr (10))
   else if ¬(b=last) then
   if t<=b then
   some (Sum.inr (10))
   else if t≥(n:Int) then
   some (Sum.inr (10))
   else if ¬(b=last) then
   mark
   else ok
   else if ¬(b=last) then
   mark
   else ok
   else if ¬(b=last) then
   if t<=b then
   some (Sum.inr (10))
   else if t≥(n:Int) then
   some (Sum.inr (10))
   else if ¬(b=last) then
   mark
   else ok
   else if ¬(b=last) then
   mark
   else ok:Option (α ⊕ Int))=if XZ (x,l,q,t) b last≠0 then some (Sum.inr (XZ (x,l,q,t) b last)) else if b=last then ok else mark:=by
 have hL:F9 (x,l,q,t) b last↔l<0\/64<l\/q<0\/64<q\/(b=last/\l≠0):=Iff.rfl
 have hT:FD (x,l,q,t) b last↔(b=last/\t≠b)\/(b<last/\(t<=b\/last<t)):=Iff.rfl
 unfold XZ
 simp only
 by_cases hv:VV x
 rotate_left
 ·rw[AA (by simp [hv]),AA hv,AA (by decide)]
 rw[AB (by simp [hv]),AB (I4 hv)]
 by_cases c1:F9 (x,l,q,t) b last
 ·rw[AA c1,AA (show (9:Int)≠0 from by decide)]
  have c1' :=hL.1 c1
  by_cases d1:l<0
  ·rw[AA d1]
  rw[AB d1]
  by_cases d2:l>64
  ·rw[AA d2]
  rw[AB d2]
  by_cases d3:q<0
  ·rw[AA d3]
  rw[AB d3]
  by_cases d4:q>64
  ·rw[AA d4]
  rw[AB d4,AA (by omega),AA (by omega)]
 ·have c1' :¬(l<0\/64<l\/q<0\/64<q\/(b=last/\l≠0)):=fun h=>c1 (hL.2 h)
  rw[AB c1,AB (show ¬l<0 by omega),AB (show ¬l>64 by omega),AB (show ¬q<0 by omega),AB (show ¬q>64 by omega)]
  by_cases e:b=last
  ·rw[AA e,AB (show ¬¬l=0 by omega),AA e,AA e]
   by_cases d5:t=b
   ·have nt:¬FD (x,l,q,t) b last:=fun h=>by have:=hT.1 h;omega
    rw[AB (I4 d5),AB (I4 e),AB (I4 e),AB nt,AB (by decide)]
   ·rw[AA d5,AA (hT.2 (.inl ⟨e,d5⟩)),AA (by decide)]
  ·rw[AB e,AB e,AB e,AA e]
   by_cases d5:t<=b
   ·rw[AA d5,AA (hT.2 (.inr ⟨by omega,.inl d5⟩)),AA (by decide)]
   ·rw[AB d5]
    by_cases d6:t≥(n:Int)
    ·rw[AA d6,AA (hT.2 (.inr ⟨by omega,.inr (by omega)⟩)),AA (by decide)]
    ·have nt:¬FD (x,l,q,t) b last:=fun h=>by have:=hT.1 h;omega
     rw[AB d6,AA e,AB nt,AB (by decide)]
theorem tJ (c:Cf) {k:Int} (h:XZ (ru c k) k ((c.2.1.length:Int)-1)=0):¬FD (ru c k) k ((c.2.1.length:Int)-1):=by
 unfold XZ at h
 intro ht
 by_cases hv:VV (ru c k).1
 ·rw[AB (I4 hv)] at h
  by_cases hl:F9 (ru c k) k ((c.2.1.length:Int)-1)
  ·rw[AA hl] at h;exact absurd h (by decide)
  ·rw[AB hl,AA ht] at h;exact absurd h (by decide)
 ·rw[AA hv] at h;exact absurd h (by decide)
open Classical in
theorem xG {c:Cf} (hn:c.2.1.length<=1000) (YO:c.1.size<=1000000) (hs:Sh c):DF c=some (T0 c):=by
 unfold DF T0
 obtain⟨nb,n1,n2⟩:=AKE c.1 YO
 rw[n1,A9]
 by_cases hnm:i_ c.1
 rotate_left
 ·rw[AA (by simp only[RM];cases nb with|false=>rfl|true=>exact absurd (n2.1 rfl) hnm),AA hnm]
 rw[AB (by simp [n2.2 hnm]),AB (I4 hnm)]
 by_cases c1:(c.2.1.length:Int)<1
 ·rw[AA c1,AA (by omega)]
 rw[AB c1]
 by_cases c2:(c.2.1.length:Int)>4
 ·rw[AA c2,AA (by omega)]
 rw[AB c2,AB (show ¬¬(1<=c.2.1.length/\c.2.1.length<=4) from by omega),AA (by simp),AD (e:=(c.2.1.length:Int)-1) (by omega) (by omega)]
 have hr:∀ i:Int,gl (0,0,0,0) c.2.1 i.toNat=ru c i:=fun _=>rfl
 refine LA (fun m (st:Int×List Bool)=>∃ p:Nat,st.1=(p:Int)/\m=c.2.1.length-p/\p<=c.2.1.length/\fe c (c.2.1.length-p) p=fe c c.2.1.length 0/\st.2.length=4/\(∀ k:Int,0<=k->k<p->XZ (ru c k) k ((c.2.1.length:Int)-1)=0)∧
  ∀ j:Nat,j<4->(gl false st.2 j=true↔(j=0\/∃ k:Int,(0<=k/\k<p/\k<(c.2.1.length:Int)-1)/\(ru c k).2.2.2=(j:Int)))) (n:=c.2.1.length) ?_ ⟨0,rfl,by omega,by omega,by simp,rfl,fun k k0 k1=>by omega, ?_⟩
 ·rintro m ⟨i,am⟩ ⟨p,rfl,h1,h2,h3,h4,h5,h6⟩
  simp only at h4 h6 ⊢
  by_cases hp:p<c.2.1.length
  ·have f1:m-1<m/\m-1=c.2.1.length-(p+1)/\p+1<=c.2.1.length:=by clear h6 h5;omega
   rw[AA (by clear h6 h5;omega),AA (by clear h6 h5;omega),hr,dN,P0 (hs p (by clear h6 h5;omega) (by clear h6 h5;omega)),A9,AD (e:=(p:Int)+1) (by clear h6 h5;omega) (by clear h6 h5;omega)]
   have AYH:=ANX (x:=(ru c p).1) (l:=(ru c p).2.1) (q:=(ru c p).2.2.1) (t:=(ru c p).2.2.2) (b:=(p:Int)) (last:=(c.2.1.length:Int)-1) (n:=c.2.1.length) (hs p (by clear h6 h5;omega) (by clear h6 h5;omega)) (by clear h6 h5;omega) (by clear h6 h5;omega)
    (α:=Int×List Bool) (some (Sum.inl ((p:Int)+1,am))) (if (0<=(ru c p).2.2.2/\(ru c p).2.2.2<((4:Nat):Int))/\(ru c p).2.2.2<(am.length:Int) then some (Sum.inl ((p:Int)+1,am.set (ru c p).2.2.2.toNat true)) else none) rfl
   rw[AYH,show ((ru c p).1,(ru c p).2.1,(ru c p).2.2.1,(ru c p).2.2.2)=ru c p from rfl]
   obtain⟨d,hd⟩:∃ d,c.2.1.length-p=d+1:=⟨c.2.1.length-p-1,by clear h6 h5;omega⟩
   rw[hd,fe] at h3
   by_cases he:XZ (ru c p) p ((c.2.1.length:Int)-1)=0
   ·rw[AB (I4 he)] at h3
    rw[AB (I4 he)]
    have hd' :c.2.1.length-(p+1)=d:=by clear h6 h5;omega
    have h5' :∀ k:Int,0<=k->k<((p+1:Nat):Int)->XZ (ru c k) k ((c.2.1.length:Int)-1)=0:=fun k k0 k1=>by
     by_cases e:k=p
     ·rw[e];exact he
     ·exact h5 k k0 (by clear h6 h5;omega)
    right
    by_cases hl:(p:Int)=(c.2.1.length:Int)-1
    ·rw[AA hl]
     refine⟨m-1,_,f1.1,rfl,p+1,rfl,f1.2.1,f1.2.2,by rw[hd'];exact h3,h4,h5',fun j hj=> ?_⟩
     rw[h6 j hj]
     constructor
     ·rintro (h|⟨k,k1,k2⟩)
      ·exact .inl h
      ·exact .inr ⟨k,⟨k1.1,by clear h6 h5;omega,k1.2.2⟩,k2⟩
     ·rintro (h|⟨k,k1,k2⟩)
      ·exact .inl h
      ·exact .inr ⟨k,⟨k1.1,by clear h6 h5;omega,k1.2.2⟩,k2⟩
    ·have ht:=tJ c he
     have hT:¬(((p:Int)=(c.2.1.length:Int)-1/\(ru c p).2.2.2≠p)\/((p:Int)<(c.2.1.length:Int)-1/\((ru c p).2.2.2<=p\/(c.2.1.length:Int)-1<(ru c p).2.2.2))):=ht
     have AVI:(p:Int)<(ru c p).2.2.2/\(ru c p).2.2.2<4:=by clear h6 h5;omega
     rw[AB hl,AA (by rw[h4];clear h6 h5;omega)]
     refine⟨m-1,_,f1.1,rfl,p+1,rfl,f1.2.1,f1.2.2,by rw[hd'];exact h3,by simpa using h4,h5',fun j hj=> ?_⟩
     simp only
     have UD:gl false (am.set (ru c p).2.2.2.toNat true) j=if j=(ru c p).2.2.2.toNat then true else gl false am j:=by
      unfold gl
      simp only[qP,qW]
      by_cases e:(ru c p).2.2.2.toNat=j
      ·rw[AA e,AA (by rw[h4];exact e ▸ hj),AA e.symm];rfl
      ·rw[AB e,AB (fun h=>e h.symm)]
     rw[UD]
     by_cases e:j=(ru c p).2.2.2.toNat
     ·rw[AA e]
      exact YB rfl (.inr ⟨p,⟨by clear h6 h5;omega,by clear h6 h5;omega,by clear h6 h5;omega⟩,by clear h6 h5;omega⟩)
     ·rw[AB e,h6 j hj]
      constructor
      ·rintro (h|⟨k,k1,k2⟩)
       ·exact .inl h
       ·exact .inr ⟨k,⟨k1.1,by clear h6 h5;omega,k1.2.2⟩,k2⟩
      ·rintro (h|⟨k,k1,k2⟩)
       ·exact .inl h
       ·by_cases ek:k=p
        ·rw[ek] at k2;exact absurd k2 (by clear h6 h5;omega)
        ·exact .inr ⟨k,⟨k1.1,by clear h6 h5;omega,k1.2.2⟩,k2⟩
   ·rw[AA he] at h3
    rw[AA he,AA (by rw[<-h3];exact he),h3]
    exact .inl rfl
  ·have hp' :p=c.2.1.length:=by clear h6 h5;omega
   subst hp'
   rw[Nat.sub_self,fe] at h3
   rw[AB (by clear h6 h5;omega),AB (I4 h3.symm)]
   left
   have AYI:∀ b:Nat,1<=b->b<c.2.1.length->(gl false am b=true↔Aim c b):=by
    intro b b0 b1
    rw[h6 b (by clear h6 h5;omega)]
    constructor
    ·rintro (h|⟨k,⟨k0,k1,k2⟩,k3⟩)
     ·exact absurd h (by clear h6 h5;omega)
     ·have hT:¬((k=(c.2.1.length:Int)-1/\(ru c k).2.2.2≠k)\/(k<(c.2.1.length:Int)-1/\((ru c k).2.2.2<=k\/(c.2.1.length:Int)-1<(ru c k).2.2.2))):=tJ c (h5 k k0 k1)
      exact⟨k,⟨k0,k1⟩,by clear h6 h5;omega,k3⟩
    ·rintro⟨k,⟨k0,k1⟩,k2,k3⟩
     have hT:¬((k=(c.2.1.length:Int)-1/\(ru c k).2.2.2≠k)\/(k<(c.2.1.length:Int)-1/\((ru c k).2.2.2<=k\/(c.2.1.length:Int)-1<(ru c k).2.2.2))):=tJ c (h5 k k0 k1)
     exact .inr ⟨k,⟨k0,k1,by clear h6 h5;omega⟩,k3⟩
   have h60:gl false am 0=true:=(h6 0 (by omega)).2 (.inl rfl)
   clear h6
   suffices hx:AM (σ:=Int) (β:=Int) _ 0=some (if ¬(∀ b:Int,1<=b->b<c.2.1.length->Aim c b) then 10 else if cG c then 9 else 0) by
    rw[hx];rfl
   refine LA (fun m (i:Int)=>∃ p:Nat,i=(p:Int)/\m=c.2.1.length-p/\p<=c.2.1.length/\∀ b:Int,1<=b->b<p->Aim c b) (n:=c.2.1.length) ?_ ⟨0,rfl,by omega,by omega,fun b b0 b1=>by omega⟩
   rintro m i ⟨p,rfl,q2,q3,q4⟩
   by_cases hp:p<c.2.1.length
   ·rw[AA (by omega),AA (by rw[h4];omega),I3]
    by_cases ha:gl false am p=true
    ·rw[AB (by simp [ha]),AD (by omega) (by omega)]
     refine .inr ⟨m-1,_,by omega,rfl,p+1,rfl,by omega,by omega,fun b b0 b1=> ?_⟩
     by_cases e:b=p
     ·rw[e];exact (AYI p (by omega) hp).1 ha
     ·exact q4 b b0 (by omega)
    ·have hp0:p≠0:=by rintro rfl;exact ha h60
     rw[AA (by simpa using ha),AA (fun h=>ha ((AYI p (by omega) hp).2 (h p (by omega) (by omega))))]
     exact .inl rfl
   ·rw[AB (by omega),AB (I4 fun b b0 b1=>q4 b b0 (by omega)),AA (by omega)]
    left
    have hz:=AA5 (ANU (by omega) h3.symm (b:=(c.2.1.length:Int)-1) (by omega) (by omega))
    rw[hr]
    unfold cG
    simp only[hz]
    by_cases z:(ru c ((c.2.1.length:Int)-1)).1=0
    ·rw[AA z]
     by_cases f1:c.2.2<1
     ·rw[AA f1,AA (.inl ⟨z,.inl f1⟩)];rfl
     ·rw[AB f1]
      by_cases f2:c.2.2>64
      ·rw[AA f2,AA (.inl ⟨z,.inr f2⟩)];rfl
      ·rw[AB f2,AB (I4 z),AB (by rintro (⟨_,h⟩|⟨h,_⟩);omega;exact h z)];rfl
    ·rw[AB z,AA z]
     by_cases f1:c.2.2=0
     ·rw[AB (I4 f1),AB (by rintro (⟨h,_⟩|⟨_,h⟩);exact z h;exact h f1)];rfl
     ·rw[AA f1,AA (.inr ⟨z,f1⟩)];rfl
 ·intro j hj
  have:j=0\/j=1\/j=2\/j=3:=by omega
  rcases this with rfl|rfl|rfl|rfl
  ·exact YB rfl (.inl rfl)
  all_goals exact YA (by decide) (by rintro (h|⟨k,k1,_⟩);omega;omega)
abbrev Rows:Type:=List (List AH)
theorem F_ {α:Type} (q:List (List α)) (k:Nat) (hk:k<q.length):q.flatten=(q.take k).flatten++(gl [] q k++(q.drop (k+1)).flatten):=by
 rw[DZ hk,←List.flatten_cons,←AIO hk,←List.flatten_append,vI]
theorem FV {α:Type} {d:α} (x:List α) (j:Nat) (hj:j<x.length):x.take (j+1)=x.take j++ [gl d x j]:=by
 rw[DZ hj,List.take_append_getElem hj]
theorem qG {α:Type} {d:α} (x:List α) (j:Nat) (hj:j<x.length):x=x.take j++gl d x j::x.drop (j+1):=by
 rw[DZ hj,←AIO hj,vI]
theorem ANY {α γ β:Type} {q:List (List γ)} {d:γ} {F:α->γ->α} {a0:α} {r:α->β} {out:α×Int->Option ((α×Int) ⊕ β)} {gT:Nat->α×Int->Option ((α×Int) ⊕ ((α×Int) ⊕ β))}
  (h1:∀ k a,k<q.length->out (a,(k:Int))=AM (gT k) (a,0))
  (h2:∀ (k j:Nat) a,k<q.length->j<(gl [] q k).length->(∃ pre suf,q.flatten=pre++gl d (gl [] q k) j::suf/\a=pre.foldl F a0)->gT k (a,(j:Int))=some (.inl (F a (gl d (gl [] q k) j),(j:Int)+1)))
  (h3:∀ (k:Nat) a,k<q.length->gT k (a,((gl [] q k).length:Int))=some (.inr (.inl (a,(k:Int)+1))))
  (h4:∀ a,out (a,(q.length:Int))=some (.inr (r a))):AM out (a0,0)=some (r (q.flatten.foldl F a0)):=by
 refine (AR (fun k (st:α×Int)=>k<=q.length/\st=((q.take k).flatten.foldl F a0,(k:Int))) (fun b=>b=r (q.flatten.foldl F a0)) q.length ?_ ?_ (s:=(a0,0)) ⟨by omega,by simp⟩).elim fun b hb=>by rw[hb.1,hb.2]
 ·rintro k st hk ⟨_,rfl⟩
  left
  refine⟨_, ?_,by omega,rfl⟩
  rw[h1 k _ hk]
  refine (AR (fun j (st:α×Int)=>j<=(gl [] q k).length/\st=(((q.take k).flatten++(gl [] q k).take j).foldl F a0,(j:Int))) (fun b=>b=Sum.inl ((q.take (k+1)).flatten.foldl F a0,((k+1:Nat):Int))) (gl [] q k).length ?_ ?_ (s:=((q.take k).flatten.foldl F a0,0)) ⟨by omega,by simp⟩).elim fun b hb=>by rw[hb.1,hb.2]
  ·rintro j st hj ⟨_,rfl⟩
   left
   refine⟨_,h2 k j _ hk hj ⟨(q.take k).flatten++(gl [] q k).take j,(gl [] q k).drop (j+1)++(q.drop (k+1)).flatten, ?_,rfl⟩,by omega, ?_⟩
   ·rw[F_ q k hk]
    conv=>lhs;rw[qG (d:=d) (gl [] q k) j hj]
    simp
   ·rw[FV (d:=d) _ j hj,←I6,List.foldl_append (l' :=[_])]
    rfl
  ·rintro st ⟨_,rfl⟩
   refine⟨_,h3 k _ hk, ?_⟩
   rw[SP,FV (d:=[]) q k hk]
   simp
 ·rintro st ⟨_,rfl⟩
  exact⟨_,h4 _,by rw[SP]⟩
def WT (xs:List AH):Int:=xs.foldl (fun n i=>n+i.2.2.2.2) 0
def lrg (z:Int) (xs:List AH):Int:=xs.foldl (fun n i=>max n (cl z i.2.2.2.2)) 0
theorem nC (xs:List AH) (a:Int):xs.foldl (fun n i=>n+i.2.2.2.2) a=a+WT xs:=by
 unfold WT
 induction xs generalizing a with
 |nil=>simp
 |cons x xs ih=>rw[jJ,jJ,ih,ih (0+_)];omega
theorem nD (x:AH) (xs:List AH):WT (x::xs)=x.2.2.2.2+WT xs:=by
 show List.foldl _ (0+x.2.2.2.2) xs=_
 rw[nC];omega
theorem ANZ (xs ys:List AH):WT (xs++ys)=WT xs+WT ys:=by
 unfold WT
 rw[List.foldl_append,nC];rfl
theorem cH {xs:List AH} (h:∀ i∈xs,0<=i.2.2.2.2):0<=WT xs:=by
 induction xs with
 |nil=>decide
 |cons x xs ih=>
  rw[nD]
  have:=h x (List.mem_cons_self ..)
  have:=ih fun i hi=>h i (S7 _ hi)
  omega
theorem AO0 {z m:Int} (xs:List AH):lrg z xs<=m↔0<=m/\∀ i∈xs,cl z i.2.2.2.2<=m:=by
 have key:∀ (xs:List AH) (a:Int),xs.foldl (fun n i=>max n (cl z i.2.2.2.2)) a<=m↔a<=m/\∀ i∈xs,cl z i.2.2.2.2<=m:=by
  intro xs
  induction xs with
  |nil=>intro a;simp
  |cons x xs ih=>
   intro a
   rw[jJ,ih,List.forall_mem_cons,Int.max_le,and_assoc]
 exact key xs 0
theorem AVJ {z:Int} (xs:List AH):0<=lrg z xs/\∀ i∈xs,cl z i.2.2.2.2<=lrg z xs:=(AO0 xs).1 (S9 _)
theorem AKG {q:Rows} (hq:q.length<=1000000) (hx:∀ x∈q,x.length<=1000000) (hw:∀ i∈q.flatten,0<=i.2.2.2.2) (hs:WT q.flatten<=1000000):IL q=some (WT q.flatten):=by
 unfold IL
 apply ANY (q:=q) (d:=((0,0,0,0,0):AH)) (F:=fun n i=>n+i.2.2.2.2) (r:=id)
 ·intro k a hk
  simp only
  rw[AA (by omega),AA (by omega)]
 ·intro k j a hk hj ha
  obtain⟨pre,suf,e,rfl⟩:=ha
  have h0:0<=WT pre:=cH fun i hi=>hw i (by rw[e];exact vL _ hi)
  have h1:=hw (gl ((0,0,0,0,0):AH) (gl [] q k) j) (by rw[e];simp)
  have h2:0<=WT suf:=cH fun i hi=>hw i (by rw[e];exact List.mem_append_right _ (S7 _ hi))
  rw[e,ANZ,nD] at hs
  have hl:=hx (gl [] q k) (BR hk)
  simp only[I3]
  rw[AA (by omega),AA (by omega),nC,AD (by omega) (by omega),AD (by omega) (by omega)]
 ·intro k a hk
  simp only[I3]
  rw[AB (by omega),AD (by omega) (by omega)]
 ·intro a
  simp only
  rw[AB (by omega)];rfl
theorem AD4 {s:Sp} (hv:VS s) {q:Rows} (hq:q.length<=1000000) (hx:∀ x∈q,x.length<=1000000) (hw:∀ i∈q.flatten,0<=i.2.2.2.2/\i.2.2.2.2<=1000000):FG s q=some (lrg (sz s.1) q.flatten):=by
 unfold FG
 apply ANY (q:=q) (d:=((0,0,0,0,0):AH)) (F:=fun n i=>max n (cl (sz s.1) i.2.2.2.2)) (r:=id)
 ·intro k a hk
  simp only
  rw[AA (by omega),AA (by omega)]
 ·intro k j a hk hj ha
  obtain⟨pre,suf,e,rfl⟩:=ha
  have h1:=hw (gl ((0,0,0,0,0):AH) (gl [] q k) j) (by rw[e];simp)
  have hl:=hx (gl [] q k) (BR hk)
  simp only[I3]
  generalize gl ((0,0,0,0,0):AH) (gl [] q k) j=i at h1 ⊢
  rw[AA (by omega),AA (by omega),S5 hv (i:=(i.1,i.2.1,i.2.2.1,i.2.2.2)) h1.1 h1.2,A9,AD (by omega) (by omega)]
  simp only
  congr 3
  omega
 ·intro k a hk
  simp only[I3]
  rw[AB (by omega),AD (by omega) (by omega)]
 ·intro a
  simp only
  rw[AB (by omega)];rfl
theorem AD5 {s:Sp} (hv:VS s) {q:Rows} (hq:q.length<=1000000) (hx:∀ x∈q,x.length<=1000000) (hw:∀ i∈q.flatten,0<=i.2.2.2.2/\i.2.2.2.2<=1000000):P6 s q=some (lrg (sz s.1) q.flatten):=by
 unfold P6
 apply ANY (q:=q) (d:=((0,0,0,0,0):AH)) (F:=fun n i=>max n (cl (sz s.1) i.2.2.2.2)) (r:=id)
 ·intro k a hk
  simp only
  rw[AA (by omega),AA (by omega)]
 ·intro k j a hk hj ha
  obtain⟨pre,suf,e,rfl⟩:=ha
  have h1:=hw (gl ((0,0,0,0,0):AH) (gl [] q k) j) (by rw[e];simp)
  have hl:=hx (gl [] q k) (BR hk)
  simp only[I3]
  generalize gl ((0,0,0,0,0):AH) (gl [] q k) j=i at h1 ⊢
  rw[AA (by omega),AA (by omega),XY hv (i:=(i.1,i.2.1,i.2.2.1,i.2.2.2)) h1.1 h1.2,A9,AD (by omega) (by omega)]
  simp only
  congr 3
  omega
 ·intro k a hk
  simp only[I3]
  rw[AB (by omega),AD (by omega) (by omega)]
 ·intro a
  simp only
  rw[AB (by omega)];rfl
theorem cI {q:Rows} (hq:q.length<=1000000) (hx:∀ x∈q,x.length<=1000000):DR q=some q:=by
 unfold DR
 refine (AR (fun k (st:Rows×Int)=>k<=q.length/\st=(q.take k,(k:Int))) (fun b=>b=q) q.length ?_ ?_ (s:=([],0)) ⟨by omega,by simp⟩).elim fun b hb=>by rw[hb.1,hb.2]
 ·rintro k st hk ⟨_,rfl⟩
  have hl:=hx (gl [] q k) (BR hk)
  left
  refine⟨_, ?_,by omega,rfl⟩
  simp only[I3]
  rw[AA (by omega),AA (by omega),AA (by simp;omega),AA (by simp;omega),o8,FV (d:=[]) q k hk,AD (by omega) (by omega)]
  rfl
 ·rintro st ⟨_,rfl⟩
  simp only
  rw[AB (by omega),SP]
  exact⟨_,rfl,rfl⟩
theorem lN {q:Rows} (hx:∀ x∈q,x.length<=1000000) {b:Int} (b0:0<=b) (b1:b<q.length):
  (gl [] q b.toNat=[]/\BN q b=some (((0,0,0,0,0):AH),false))\/(∃ y,y∈gl [] q b.toNat/\BN q b=some (y,true)):=by
 have hl:=hx (gl [] q b.toNat) (BR (by omega))
 unfold BN
 rw[AB (by omega),AB (by omega),AA (by omega)]
 by_cases h:gl [] q b.toNat=[]
 ·rw[AA (by rw[h];rfl)];exact .inl ⟨h,rfl⟩
 ·have hp:=l8.2 h
  rw[AB (by omega),AA (by omega),AA (by omega),AD (e:=((gl [] q b.toNat).length:Int)-1) (by omega) (by omega),AA (by omega)]
  exact .inr ⟨gl ((0,0,0,0,0):AH) (gl [] q b.toNat) ((gl [] q b.toNat).length-1),BR (by omega),by rw[show (((gl [] q b.toNat).length:Int)-1).toNat=(gl [] q b.toNat).length-1 from by omega]⟩
theorem AD6 {q:Rows} (hq:q.length<=1000000) (hx:∀ x∈q,x.length<=1000000) {j:AH} (b0:0<=j.2.1) (b1:j.2.1<q.length):
  ((∀ i∈gl [] q j.2.1.toNat,i.1≠j.1)/\CX q j=some ([],5))∨
  (∃ k,k<(gl [] q j.2.1.toNat).length/\(gl ((0,0,0,0,0):AH) (gl [] q j.2.1.toNat) k).1=j.1/\CX q j=some (q.set j.2.1.toNat ((gl [] q j.2.1.toNat).set k j),0)):=by
 have hl:=hx (gl [] q j.2.1.toNat) (BR (by omega))
 unfold CX
 rw[AB (by omega),AB (by omega),cI hq hx,A9,AA (by omega)]
 have hg:q.getD j.2.1.toNat []=gl [] q j.2.1.toNat:=rfl
 rw[hg]
 generalize gl [] q j.2.1.toNat=x at hl ⊢
 have key:=AR (β:=Rows×Int) (fun k (st:Int)=>k<=x.length/\st=(k:Int)/\∀ m,m<k->(gl ((0,0,0,0,0):AH) x m).1≠j.1) (fun b=>((∀ i∈x,i.1≠j.1)/\b=([],5))\/(∃ k,k<x.length/\(gl ((0,0,0,0,0):AH) x k).1=j.1/\b=(q.set j.2.1.toNat (x.set k j),0))) x.length (s:=0) (f:=fun s1=>
   if s1<(x.length:Int) then
   if 0<=s1/\s1<(x.length:Int) then
   if (gl ((0,0,0,0,0):AH) x s1.toNat).1=j.1 then
   if 0<=j.2.1/\j.2.1<(q.length:Int) then
   if j.2.1.toNat=j.2.1.toNat then
   if 0<=s1/\s1<(x.length:Int) then
   some (Sum.inr ((q.set j.2.1.toNat (x.set s1.toNat j),0)))
   else none
   else none
   else none
   else some (Sum.inl (AG (s1+1)))
   else none
   else some (Sum.inr (([],5)))) ?_ ?_ ⟨by omega,rfl,fun m hm=>by omega⟩
 ·obtain⟨b,h1,h2⟩:=key
  rcases h2 with ⟨h2,rfl⟩|⟨k,h2,h3,rfl⟩
  ·exact .inl ⟨h2,h1⟩
  ·exact .inr ⟨k,h2,h3,h1⟩
 ·rintro k st hk ⟨_,rfl,CJ⟩
  simp only[I3]
  rw[AA (by omega),AA (by omega)]
  by_cases e:(gl ((0,0,0,0,0):AH) x k).1=j.1
  ·rw[AA e,AA (by omega),AA trivial,AA (by omega)]
   exact .inr ⟨_,rfl,.inr ⟨k,hk,e,rfl⟩⟩
  ·rw[AB e,AD (by omega) (by omega)]
   refine .inl ⟨_,rfl,by omega,by omega,fun m hm=> ?_⟩
   by_cases em:m=k
   ·rw[em];exact e
   ·exact CJ m (by omega)
 ·rintro st ⟨_,rfl,CJ⟩
  simp only
  rw[AB (by omega)]
  refine⟨_,rfl,.inl ⟨fun i hi=> ?_,rfl⟩⟩
  obtain⟨m,hm,rfl⟩:=qT hi
  rw[<-DZ (d:=((0,0,0,0,0):AH)) hm]
  exact CJ m hm
theorem ARK {q:Rows} (hq:q.length<=1000000) (hx:∀ x∈q,x.length<=1000000) {j:AH} (b0:0<=j.2.1) (b1:j.2.1<q.length) (hj:∀ i∈gl [] q j.2.1.toNat,i.1<j.1):
  EY q j=some (q.set j.2.1.toNat (gl [] q j.2.1.toNat++ [j]),0):=by
 have hl:=hx (gl [] q j.2.1.toNat) (BR (by omega))
 have hg:q.getD j.2.1.toNat []=gl [] q j.2.1.toNat:=rfl
 unfold EY
 rw[AB (by omega),AB (by omega)]
 rcases lN hx b0 b1 with ⟨_,h⟩|⟨y,hy,h⟩
 ·rw[h,A9,AB (by simp),cI hq hx,A9,AA (by omega),hg,AA (by simp;omega),AA (by omega),AA rfl]
 ·have:=hj y hy
  rw[h,A9,AA rfl,AB (by simp only;omega),cI hq hx,A9,AA (by omega),hg,AA (by simp;omega),AA (by omega),AA rfl]
def used (s:Sp):Int:=(s.2.2.length:Int)-(DA s.2.2).length
theorem AA6 (s:Sp):0<=used s:=by
 have:(DA s.2.2).length<=s.2.2.length:=S4 s.2.2 (-1)
 unfold used;omega
theorem AYJ {γ σ τ β:Type} {q:List (List γ)} {d:γ} {ok:Nat->Nat->Prop} {Q:γ->Prop} (hQ:∀ k j,k<q.length->j<(gl [] q k).length->ok k j->Q (gl d (gl [] q k) j))
  {so:Nat->List γ->σ} {si:Nat->Nat->List γ->τ} {out:σ->Option (σ ⊕ β)} {gT:Nat->List γ->τ->Option (τ ⊕ (σ ⊕ β))} {r bad:β} {s0:σ} (h0:s0=so 0 [])
  (h1:∀ k seen,k<q.length->out (so k seen)=AM (gT k seen) (si k 0 seen))
  (h2:∀ k j oS seen,k<q.length->j<(gl [] q k).length->seen=(q.take k).flatten++(gl [] q k).take j->(∀ x∈seen,Q x)->(∀ k' j',(k' <k\/(k' =k/\j' <j))->j' <(gl [] q k').length->ok k' j')->ok k j->gT k oS (si k j seen)=some (.inl (si k (j+1) (seen++ [gl d (gl [] q k) j]))))
  (h2' :∀ k j oS seen,k<q.length->j<(gl [] q k).length->seen=(q.take k).flatten++(gl [] q k).take j->(∀ x∈seen,Q x)->(∀ k' j',(k' <k\/(k' =k/\j' <j))->j' <(gl [] q k').length->ok k' j')->¬ok k j->gT k oS (si k j seen)=some (.inr (.inr bad)))
  (h3:∀ k oS seen,k<q.length->gT k oS (si k (gl [] q k).length seen)=some (.inr (.inl (so (k+1) seen))))
  (h4:(∀ k j,k<q.length->j<(gl [] q k).length->ok k j)->(∀ x∈q.flatten,Q x)->out (so q.length q.flatten)=some (.inr r)):
  ((∀ k j,k<q.length->j<(gl [] q k).length->ok k j)->AM out s0=some r)/\(¬(∀ k j,k<q.length->j<(gl [] q k).length->ok k j)->AM out s0=some bad):=by
 subst h0
 have key:=AR (f:=out) (fun k (st:σ)=>k<=q.length/\st=so k (q.take k).flatten/\(∀ k' j,k' <k->j<(gl [] q k').length->ok k' j)/\∀ x∈(q.take k).flatten,Q x)
  (fun b=>((∀ k j,k<q.length->j<(gl [] q k).length->ok k j)/\b=r)\/(¬(∀ k j,k<q.length->j<(gl [] q k).length->ok k j)/\b=bad)) q.length ?_ ?_ (s:=so 0 []) ⟨by omega,by simp,fun _ _ h=>by omega,by simp⟩
 ·obtain⟨b,e,h⟩:=key
  rw[e]
  exact⟨fun ha=>by rcases h with ⟨_,rfl⟩|⟨h,_⟩;exact rfl;exact absurd ha h,fun ha=>by rcases h with ⟨h,_⟩|⟨_,rfl⟩;exact absurd h ha;exact rfl⟩
 ·rintro k st hk ⟨_,rfl,ho,hq⟩
  rw[h1 k _ hk]
  have inner:=AR (f:=gT k (q.take k).flatten) (fun j (st:τ)=>j<=(gl [] q k).length/\st=si k j ((q.take k).flatten++(gl [] q k).take j)/\(∀ j',j' <j->ok k j')/\∀ x∈(q.take k).flatten++(gl [] q k).take j,Q x)
   (fun b=>(b=Sum.inl (so (k+1) ((q.take k).flatten++gl [] q k))/\(∀ j,j<(gl [] q k).length->ok k j)/\∀ x∈(q.take k).flatten++gl [] q k,Q x)\/(b=Sum.inr bad/\∃ j,j<(gl [] q k).length/\¬ok k j)) (gl [] q k).length ?_ ?_ (s:=si k 0 (q.take k).flatten) ⟨by omega,by simp,fun _ h=>by omega,by simpa using hq⟩
  ·obtain⟨b,e,h⟩:=inner
   rw[e]
   have ht:(q.take (k+1)).flatten=(q.take k).flatten++gl [] q k:=by rw[FV (d:=[]) q k hk];simp
   rcases h with ⟨rfl,h,hx⟩|⟨rfl,j,hj,hn⟩
   ·left
    refine⟨_,rfl,by omega,by rw[ht],fun k' j MC hj=> ?_,by rw[ht];exact hx⟩
    by_cases e:k' =k
    ·subst e;exact h j hj
    ·exact ho k' j (by omega) hj
   ·exact .inr ⟨_,rfl,.inr ⟨fun ha=>hn (ha k j hk hj),rfl⟩⟩
  ·rintro j st hj ⟨_,rfl,ho',O5⟩
   have hp:∀ k' j',(k' <k\/(k' =k/\j' <j))->j' <(gl [] q k').length->ok k' j' :=by
    rintro k' j' (h|⟨rfl,h⟩) hl
    ·exact ho k' j' h hl
    ·exact ho' j' h
   by_cases RL:ok k j
   ·rw[h2 k j _ _ hk hj rfl O5 hp RL]
    have ht:(q.take k).flatten++(gl [] q k).take (j+1)=(q.take k).flatten++(gl [] q k).take j++ [gl d (gl [] q k) j]:=by rw[FV (d:=d) _ j hj,I6]
    refine .inl ⟨_,rfl,by omega,by rw[ht],fun j' YQ => ?_, ?_⟩
    ·by_cases e:j' =j
     ·subst e;exact RL
     ·exact ho' j' (by omega)
    ·rw[ht]
     intro x hx
     rcases EV.1 hx with hx|hx
     ·exact O5 x hx
     ·rw[F6.1 hx];exact hQ k j hk hj RL
   ·rw[h2' k j _ _ hk hj rfl O5 hp RL]
    exact .inr ⟨_,rfl,.inr ⟨rfl,j,hj,RL⟩⟩
  ·rintro st ⟨_,rfl,ho',O5⟩
   rw[h3 k _ _ hk]
   rw[SP] at O5 ⊢
   exact⟨_,rfl,.inl ⟨rfl,ho',O5⟩⟩
 ·rintro st ⟨_,rfl,ho,hq⟩
  rw[SP] at hq ⊢
  rw[h4 ho hq]
  exact⟨_,rfl,.inl ⟨ho,rfl⟩⟩
theorem AKH (m:List (Int×Bool)) (k:Int) (v:Bool) (n:Int):K5 (VZ m k v) n=if n=k then some v else K5 m n:=by
 induction m with
 |nil=>by_cases h:n=k <;> simp [VZ,K5,h]
 |cons p r ih=>
  obtain⟨a,b⟩:=p
  by_cases h:k=a
  ·subst h
   by_cases hn:n=k <;> simp [VZ,K5,hn]
  ·by_cases hn:n=a
   ·subst hn
    simp [VZ,K5,h]
    intro he;exact absurd he.symm h
   ·simp only[VZ,AB h,K5,AB hn,ih]
def mpS (xs:List AH):List (Int×Bool):=xs.foldl (fun m i=>VZ m i.1 true) []
theorem AD7 (xs:List AH) (x:AH):mpS (xs++ [x])=VZ (mpS xs) x.1 true:=by
 unfold mpS;rw[List.foldl_append];rfl
theorem AA7 (xs:List AH) (n:Int):(K5 (mpS xs) n).getD false=true↔n∈xs.map (·.1):=by
 have h:∀ (ys:List AH) (m:List (Int×Bool)),(K5 (ys.foldl (fun m i=>VZ m i.1 true) m) n).getD false=true↔n∈ys.map (·.1)\/(K5 m n).getD false=true:=by
  intro ys
  induction ys with
  |nil=>intro m;simp
  |cons y ys ih=>
   intro m
   rw[jJ,ih,AKH]
   by_cases e:n=y.1
   ·simp [e]
   ·simp [e]
 have:=h xs []
 simpa [mpS,K5] using this
theorem tK (i:AH):(i.1,i.2.1,i.2.2.1,i.2.2.2)=i:=rfl
def okS (s:Sp) (q:Rows) (k j:Nat):Prop:=
 (gl ((0,0,0,0,0):AH) (gl [] q k) j).2.1=(k:Int)/\1<=(gl ((0,0,0,0,0):AH) (gl [] q k) j).2.2.2.2/\(0<j->(gl ((0,0,0,0,0):AH) (gl [] q k) (j-1)).1<(gl ((0,0,0,0,0):AH) (gl [] q k) j).1)∧
  (gl ((0,0,0,0,0):AH) (gl [] q k) j).1∉((q.take k).flatten++(gl [] q k).take j).map (·.1)/\D5 s (gl ((0,0,0,0,0):AH) (gl [] q k) j)
def cJ (s:Sp) (q:Rows):Prop:=∀ k j,k<q.length->j<(gl [] q k).length->okS s q k j
def Cov (s:Sp) (q:Rows):Prop:=∀ x:Int,0<=x->x<s.2.2.length->(fr s.2.2 x).1≠-1->(fr s.2.2 x).1∈q.flatten.map (·.1)
structure BV (s:Sp) (q:Rows):Prop where
 vs:VS s
 n:1<=q.length/\q.length<=4
 ok:cJ s q
 cov:Cov s q
def tL (z:Int) (xs:List AH):Int:=xs.foldl (fun n i=>n+cl z i.2.2.2.2) 0
theorem AKI (z:Int) (xs:List AH) (a:Int):xs.foldl (fun n i=>n+cl z i.2.2.2.2) a=a+tL z xs:=by
 unfold tL
 induction xs generalizing a with
 |nil=>simp
 |cons x xs ih=>rw[jJ,jJ,ih,ih (0+_)];omega
theorem xH (z:Int) (x:AH) (xs:List AH):tL z (x::xs)=cl z x.2.2.2.2+tL z xs:=by
 show List.foldl _ (0+cl z x.2.2.2.2) xs=_
 rw[AKI];omega
theorem AKJ {s:Sp} {q:Rows} {k j:Nat} (hk:k<q.length) (hj:j<=(gl [] q k).length) (h:∀ k' j',(k' <k\/(k' =k/\j' <j))->j' <(gl [] q k').length->okS s q k' j'):(((q.take k).flatten++(gl [] q k).take j).map (·.1)).Nodup:=by
 have row:∀ m,(((q.take m).flatten).map (·.1)).Nodup->∀ n,n<=(gl [] q m).length->(∀ j',j' <n->okS s q m j')->(((q.take m).flatten++(gl [] q m).take n).map (·.1)).Nodup:=by
  intro m h0 n
  induction n with
  |zero=>intro _ _;simpa using h0
  |succ n ih=>
   intro hn ho
   have h1:=ih (by omega) fun j' YQ =>ho j' (by omega)
   have h2:=(ho n (by omega)).2.2.2.1
   rw[FV (d:=((0,0,0,0,0):AH)) _ n (by omega),←I6,ZS,PL]
   refine⟨h1,by simp,fun a ha b hb e=> ?_⟩
   simp only[K0,List.map_nil,F6] at hb
   subst hb;subst e;exact h2 ha
 have rows:∀ m,m<=k->(((q.take m).flatten).map (·.1)).Nodup:=by
  intro m
  induction m with
  |zero=>intro _;simp
  |succ m ih=>
   intro hm
   have:=row m (ih (by omega)) _ (ED _) fun j' YQ =>h m j' (.inl (by omega)) YQ
   rw[SP] at this
   rw[FV (d:=[]) q m (by omega)]
   simpa using this
 exact row k (rows k (ED _)) j hj fun j' YQ =>h k j' (.inr ⟨rfl,YQ⟩) (by omega)
theorem cJ.nodup {s:Sp} {q:Rows} (h:cJ s q):(q.flatten.map (·.1)).Nodup:=by
 by_cases hq:q=[]
 ·subst hq;simp
 have hl:=l8.2 hq
 have:=AKJ (s:=s) (q:=q) (k:=q.length-1) (j:=(gl [] q (q.length-1)).length) (by omega) (ED _) fun k' j' hk hj=>h k' j' (by rcases hk with h|h <;> omega) hj
 rw[SP] at this
 have e:=FV (d:=[]) q (q.length-1) (by omega)
 rw[show q.length-1+1=q.length from by omega,SP] at e
 rw[e];simpa using this
theorem cJ.fit {s:Sp} {q:Rows} (h:cJ s q):∀ i∈q.flatten,D5 s i/\1<=i.2.2.2.2:=by
 intro i hi
 obtain⟨x,hx,hix⟩:=nR.1 hi
 obtain⟨k,hk,rfl⟩:=qT hx
 obtain⟨j,hj,rfl⟩:=qT hix
 have hg:gl [] q k=q[k]:=DZ hk
 have:=h k j hk (by rw[hg];exact hj)
 unfold okS at this
 rw[hg,DZ hj] at this
 exact⟨this.2.2.2.2,this.2.1⟩
theorem AKK {s:Sp} {xs:List AH} (hf:∀ i∈xs,D5 s i/\1<=i.2.2.2.2):tL (sz s.1) xs=((xs.flatMap fun p=>owned s.2.2 p.1).length:Int):=by
 induction xs with
 |nil=>simp [tL]
 |cons p l ih=>
  obtain⟨hf1,hw⟩:=hf p (List.mem_cons_self ..)
  have i1:=ih fun p hp=>hf p (S7 _ hp)
  rcases hf1.2 with ⟨g1,_⟩|⟨_,_,_,_,m,_,m2,m3,_⟩
  ·omega
  rw[xH,List.flatMap_cons,I5,Int.natCast_add,i1]
  omega
theorem nE {s:Sp} {xs:List AH} (hn:(xs.map (·.1)).Nodup):(xs.flatMap fun p=>owned s.2.2 p.1).Nodup:=by
 unfold List.Nodup at hn ⊢
 rw[List.pairwise_flatMap]
 rw[List.pairwise_map] at hn
 refine⟨fun p _=>RH _ _,hn.imp fun {a b} wF x hx y hy e=> ?_⟩
 have e1:=(B0.1 hx).2
 have e2:=(B0.1 hy).2
 rw[e] at e1;exact wF (e1.symm.trans e2)
theorem count_le {s:Sp} (h:VS s) {xs:List AH} (hf:∀ i∈xs,D5 s i/\1<=i.2.2.2.2) (hn:(xs.map (·.1)).Nodup):xs.length<=64:=by
 have h1:∀ ys:List AH,(∀ i∈ys,D5 s i/\1<=i.2.2.2.2)->ys.length<=(ys.flatMap fun p=>owned s.2.2 p.1).length:=by
  intro ys
  induction ys with
  |nil=>intro _;simp
  |cons p l ih=>
   intro hf
   obtain⟨hf1,hw⟩:=hf p (List.mem_cons_self ..)
   have i1:=ih fun p hp=>hf p (S7 _ hp)
   have hc:=AG2 (CA s.1) (show 0<p.2.2.2.2 by omega)
   rcases hf1.2 with ⟨g1,_⟩|⟨_,_,_,_,m,_,m2,m3,_⟩
   ·omega
   rw[List.flatMap_cons,I5,N3]
   omega
 have h2:=PZ (m:=F4 s.2.2.length) (nE (s:=s) hn) (fun x hx=>by
  obtain⟨p,_,hx⟩:=List.mem_flatMap.1 hx
  exact LW.2 (B0.1 hx).1)
 rw[H4] at h2
 have:=h1 xs hf
 have:=h.n
 omega
def tM (fs:List Fr):List Int:=(F4 fs.length).filter fun i=>decide ((fr fs i).1≠-1)
theorem nF {fs:List Fr} {i:Int}:i∈tM fs↔(0<=i/\i<fs.length)/\(fr fs i).1≠-1:=by
 unfold tM;rw[YN,LW,N2]
theorem AKL (s:Sp):((tM s.2.2).length:Int)=used s:=by
 have h:∀ (p:Int->Bool) (l:List Int),(l.filter p).length+(l.filter fun i=> !p i).length=l.length:=by
  intro p l
  induction l with
  |nil=>rfl
  |cons a l ih=>cases hp:p a <;> simp [hp] <;> omega
 have h1:=h (fun i=>decide ((fr s.2.2 i).1= -1)) (F4 s.2.2.length)
 rw[H4] at h1
 have e:(fun i=> !decide ((fr s.2.2 i).1= -1))=fun i=>decide ((fr s.2.2 i).1≠-1):=by funext i;simp
 rw[e] at h1
 unfold used DA owned tM
 omega
theorem AD8 (fs:List Fr):(tM fs).Nodup:=List.Pairwise.filter _ ((m_ _).imp fun h=>by omega)
theorem ARL {s:Sp} {q:Rows} (h:cJ s q):tL (sz s.1) q.flatten<=used s/\(used s=tL (sz s.1) q.flatten↔Cov s q):=by
 have hf:=h.fit
 have hn:=h.nodup
 have JB:∀ x∈q.flatten.flatMap fun p=>owned s.2.2 p.1,x∈tM s.2.2:=by
  intro x hx
  obtain⟨p,hp,hx⟩:=List.mem_flatMap.1 hx
  have:=B0.1 hx
  refine nF.2 ⟨this.1, ?_⟩
  have:=(hf p hp).1.1.1
  omega
 have hle:=PZ (nE (s:=s) hn) JB
 have h1:=AKK hf
 have h2:=AKL s
 refine⟨by omega,fun he=> ?_,fun hc=> ?_⟩
 ·intro x x0 x1 hu
  refine uB fun VK=> ?_
  have hx:x∉q.flatten.flatMap fun p=>owned s.2.2 p.1:=by
   intro hx
   obtain⟨p,hp,hx⟩:=List.mem_flatMap.1 hx
   exact VK (C0.2 ⟨p,hp,(B0.1 hx).2.symm⟩)
  have:=PZ (l:=x::q.flatten.flatMap fun p=>owned s.2.2 p.1) (m:=tM s.2.2) (T_.2 ⟨hx,nE hn⟩) (fun y hy=>by
   rcases F7.1 hy with rfl|hy
   ·exact nF.2 ⟨⟨x0,x1⟩,hu⟩
   ·exact JB y hy)
  simp only[N3] at this
  omega
 ·have:=PZ (m:=q.flatten.flatMap fun p=>owned s.2.2 p.1) (AD8 s.2.2) (fun x hx=>by
   obtain⟨⟨x0,x1⟩,hu⟩:=nF.1 hx
   obtain⟨p,hp,e⟩:=C0.1 (hc x x0 x1 hu)
   exact List.mem_flatMap.2 ⟨p,hp,B0.2 ⟨⟨x0,x1⟩,e.symm⟩⟩)
  omega
theorem AO1 {X:Option Bool} {P A C:Prop} {r:Bool} (hr:r=true↔C) (h:(A->X=some r)/\(¬A->X=some false)) (hp:P↔A/\C):∃ b,X=some b/\(b=true↔P):=by
 by_cases ha:A
 ·exact⟨r,h.1 ha,hr.trans ⟨fun hc=>hp.2 ⟨ha,hc⟩,fun hh=>(hp.1 hh).2⟩⟩
 ·exact⟨false,h.2 ha,BO fun hh=>ha (hp.1 hh).1⟩
theorem AKM {s:Sp} (hI:StI s) {q:Rows} (hx:∀ x∈q,x.length<=9223372036854775807):∃ b,U1 s q=some b/\(b=true↔BV s q):=by
 unfold U1
 by_cases h:VS s
 rotate_left
 ·rw[(xD h hI).1]
  exact⟨_,rfl,BO fun hh=>h hh.vs⟩
 rw[VS.z9 h,A9,AB (by simp)]
 by_cases c1:(q.length:Int)<1
 ·rw[AA c1];exact⟨_,rfl,BO fun hh=>by have:=hh.n;omega⟩
 rw[AB c1]
 by_cases c2:(q.length:Int)>4
 ·rw[AA c2];exact⟨_,rfl,BO fun hh=>by have:=hh.n;omega⟩
 rw[AB c2]
 have hn:=h.n
 obtain⟨r,hr⟩:∃ r:Bool,r=true↔Cov s q:=⟨@decide (Cov s q) (Classical.propDecidable _),by simp⟩
 refine AO1 (A:=cJ s q) hr ?_ ⟨fun hh=>⟨hh.ok,hh.cov⟩,fun hh=>⟨h,by omega,hh.1,hh.2⟩⟩
 apply AYJ (q:=q) (d:=((0,0,0,0,0):AH)) (ok:=okS s q) (Q:=fun _=>True) (fun _ _ _ _ _=>trivial) (so:=fun k seen=>((k:Int),mpS seen)) (si:=fun k j seen=>((j:Int),mpS seen)) rfl
 ·intro k seen hk
  simp only
  rw[AA (by omega),AA (by omega)]
  simp only[I3]
  rfl
 ·intro k j oS seen hk hj hs _ hp RL
  have hl:=hx (gl [] q k) (BR hk)
  obtain⟨o1,o2,o3,o4,o5⟩:=RL
  have hs4:¬(K5 (mpS seen) (gl ((0,0,0,0,0):AH) (gl [] q k) j).1).getD false=true:=by rw[AA7,hs];exact o4
  obtain⟨b,v1,v2⟩:=xE hI (gl ((0,0,0,0,0):AH) (gl [] q k) j)
  have hb:b=true:=v2.2 ⟨h,o5⟩
  subst hb
  simp only[I3]
  rw[AA (by omega),AA (by omega),AB (I4 o1),AB (by omega)]
  by_cases hj0:(j:Int)>0
  ·rw[AA hj0,AD (e:=(j:Int)-1) (by omega) (by omega),AA (by omega),show ((j:Int)-1).toNat=j-1 from by omega,AB (by have:=o3 (by omega);omega),AB hs4,tK,v1,A9,AB (by simp),AD (by omega) (by omega),AD7]
   rfl
  ·rw[AB hj0,AB hs4,tK,v1,A9,AB (by simp),AD (by omega) (by omega),AD7]
   rfl
 ·intro k j oS seen hk hj hs _ hp RL
  have hl:=hx (gl [] q k) (BR hk)
  have hg:=AA7 seen (gl ((0,0,0,0,0):AH) (gl [] q k) j).1
  obtain⟨b,v1,v2⟩:=xE hI (gl ((0,0,0,0,0):AH) (gl [] q k) j)
  simp only[I3]
  rw[AA (by omega),AA (by omega)]
  by_cases o1:(gl ((0,0,0,0,0):AH) (gl [] q k) j).2.1=(k:Int)
  rotate_left
  ·rw[AA o1]
  rw[AB (I4 o1)]
  by_cases o2:(gl ((0,0,0,0,0):AH) (gl [] q k) j).2.2.2.2<1
  ·rw[AA o2]
  rw[AB o2]
  have rest:(0<j->(gl ((0,0,0,0,0):AH) (gl [] q k) (j-1)).1<(gl ((0,0,0,0,0):AH) (gl [] q k) j).1)->(if (K5 (mpS seen) (gl ((0,0,0,0,0):AH) (gl [] q k) j).1).getD false=true then
    some (Sum.inr (Sum.inr false)) else Option.bind (I_ s (gl ((0,0,0,0,0):AH) (gl [] q k) j)) (fun r2=>if (!r2)=true then some (Sum.inr (Sum.inr false)) else some (Sum.inl (AG ((j:Int)+1),VZ (mpS seen) (gl ((0,0,0,0,0):AH) (gl [] q k) j).1 true))))=(some (Sum.inr (Sum.inr false)):Option ((Int×List (Int×Bool)) ⊕ ((Int×List (Int×Bool)) ⊕ Bool))):=by
   intro o3
   by_cases o4:(K5 (mpS seen) (gl ((0,0,0,0,0):AH) (gl [] q k) j).1).getD false=true
   ·rw[AA o4]
   rw[AB o4,v1,A9]
   have hb:b=false:=by
    rw[<-Bool.not_eq_true,v2]
    exact fun hh=>RL ⟨o1,by omega,o3,by rw[<-hs];exact fun hx=>o4 (hg.2 hx),hh.2⟩
   rw[hb,AA (by simp)]
  by_cases hj0:(j:Int)>0
  ·rw[AA hj0,AD (e:=(j:Int)-1) (by omega) (by omega),AA (by omega),show ((j:Int)-1).toNat=j-1 from by omega]
   by_cases o3:(gl ((0,0,0,0,0):AH) (gl [] q k) (j-1)).1≥(gl ((0,0,0,0,0):AH) (gl [] q k) j).1
   ·rw[AA o3]
   ·rw[AB o3]
    exact rest fun _=>by omega
  ·rw[AB hj0]
   exact rest fun _=>by omega
 ·intro k oS seen hk
  simp only[I3]
  rw[AB (by omega),AD (by omega) (by omega)]
  rfl
 ·intro Z7 _
  simp only
  rw[AB (by omega)]
  have fin:=AR (β:=Bool) (fun k (st:Int)=>k<=s.2.2.length/\st=(k:Int)/\∀ x:Int,0<=x->x<k->(fr s.2.2 x).1≠-1->(fr s.2.2 x).1∈q.flatten.map (·.1)) (fun b=>b=r) s.2.2.length (s:=0) (f:=fun s3=>
   if s3<(s.2.2.length:Int) then
   if 0<=s3/\s3<(s.2.2.length:Int) then
   if ¬(gl ((0,0,0):Fr) s.2.2 s3.toNat).1= -1 then
   if (!(K5 (mpS q.flatten) (gl ((0,0,0):Fr) s.2.2 s3.toNat).1).getD false)=true then
   some (Sum.inr false)
   else some (Sum.inl (AG (s3+1)))
   else some (Sum.inl (AG (s3+1)))
   else none
   else some (Sum.inr true)) ?_ ?_ ⟨by omega,rfl,fun x _ hx=>by omega⟩
  ·obtain⟨b,e,rfl⟩:=fin
   rw[e];rfl
  ·rintro k st hk ⟨_,rfl,hc⟩
   have NL:gl ((0,0,0):Fr) s.2.2 (k:Int).toNat=fr s.2.2 k:=rfl
   rw[NL]
   have hg:=AA7 q.flatten (fr s.2.2 k).1
   rw[AA (by omega),AA (by omega)]
   by_cases hu:(fr s.2.2 k).1= -1
   ·rw[AB (I4 hu),AD (by omega) (by omega)]
    refine .inl ⟨_,rfl,by omega,by omega,fun x x0 x1 hx=> ?_⟩
    by_cases e:x=k
    ·subst e;exact absurd hu hx
    ·exact hc x x0 (by omega) hx
   ·rw[AA hu]
    by_cases hm:(K5 (mpS q.flatten) (fr s.2.2 k).1).getD false=true
    ·rw[AB (by simp [hm]),AD (by omega) (by omega)]
     refine .inl ⟨_,rfl,by omega,by omega,fun x x0 x1 hx=> ?_⟩
     by_cases e:x=k
     ·subst e;exact hg.1 hm
     ·exact hc x x0 (by omega) hx
    ·rw[AA (by simpa using hm)]
     refine .inr ⟨_,rfl, ?_⟩
     symm
     rw[<-Bool.not_eq_true,hr]
     exact fun hc=>hm (hg.2 (hc k (by omega) (by omega) hu))
  ·rintro st ⟨_,rfl,hc⟩
   rw[AB (by omega)]
   exact⟨_,rfl,(hr.2 fun x x0 x1 hu=>hc x x0 x1 hu).symm⟩
theorem nG {β:Type} {ys:List Int} {v:Int} {bad r:β} {f:Int->Option (Int ⊕ β)} (hs:∀ k:Nat,k<ys.length->f k=if gl 0 ys k=v then some (.inr bad) else some (.inl ((k:Int)+1))) (he:v∉ys->f ys.length=some (.inr r)):
  (v∈ys->AM f 0=some bad)/\(v∉ys->AM f 0=some r):=by
 have key:=AR (f:=f) (fun k (st:Int)=>k<=ys.length/\st=(k:Int)/\∀ j,j<k->gl 0 ys j≠v) (fun b=>(v∈ys/\b=bad)\/(v∉ys/\b=r)) ys.length ?_ ?_ (s:=0) ⟨by omega,rfl,fun _ h=>by omega⟩
 ·obtain⟨b,e,h⟩:=key
  rw[e]
  exact⟨fun hm=>by rcases h with ⟨_,rfl⟩|⟨h,_⟩;exact rfl;exact absurd hm h,fun hm=>by rcases h with ⟨h,_⟩|⟨_,rfl⟩;exact absurd h hm;exact rfl⟩
 ·rintro k st hk ⟨_,rfl,hn⟩
  rw[hs k hk]
  by_cases e:gl 0 ys k=v
  ·rw[AA e];exact .inr ⟨_,rfl,.inl ⟨by rw[<-e];exact BR hk,rfl⟩⟩
  ·rw[AB e]
   refine .inl ⟨_,rfl,by omega,by omega,fun j hj=> ?_⟩
   by_cases ej:j=k
   ·subst ej;exact e
   ·exact hn j (by omega)
 ·rintro st ⟨_,rfl,hn⟩
  have hm:v∉ys:=by
   intro hm
   obtain⟨j,hj,rfl⟩:=qT hm
   exact hn j hj (DZ hj)
  rw[he hm]
  exact⟨_,rfl,.inr ⟨hm,rfl⟩⟩
theorem ATA {γ σ τ β:Type} {q:List (List γ)} {d:γ} {p:γ->Prop} [DecidablePred p] {so:Nat->σ} {si:Nat->Nat->τ} {out:σ->Option (σ ⊕ β)} {gT:Nat->τ->Option (τ ⊕ (σ ⊕ β))} {res:Nat->Nat->β} {no:β} {s0:σ} (h0:s0=so 0)
  (h1:∀ k,k<q.length->out (so k)=AM (gT k) (si k 0))
  (h2:∀ k j,k<q.length->j<(gl [] q k).length->gT k (si k j)=if p (gl d (gl [] q k) j) then some (.inr (.inr (res k j))) else some (.inl (si k (j+1))))
  (h3:∀ k,k<q.length->gT k (si k (gl [] q k).length)=some (.inr (.inl (so (k+1)))))
  (h4:out (so q.length)=some (.inr no)):
  ((∀ x∈q.flatten,¬p x)/\AM out s0=some no)\/∃ k j,k<q.length/\j<(gl [] q k).length/\p (gl d (gl [] q k) j)/\(∀ x∈(q.take k).flatten++(gl [] q k).take j,¬p x)/\AM out s0=some (res k j):=by
 subst h0
 have key:=AR (f:=out) (fun k (st:σ)=>k<=q.length/\st=so k/\∀ x∈(q.take k).flatten,¬p x)
  (fun b=>((∀ x∈q.flatten,¬p x)/\b=no)\/∃ k j,k<q.length/\j<(gl [] q k).length/\p (gl d (gl [] q k) j)/\(∀ x∈(q.take k).flatten++(gl [] q k).take j,¬p x)/\b=res k j) q.length ?_ ?_ (s:=so 0) ⟨by omega,rfl,by simp⟩
 ·obtain⟨b,e,h⟩:=key
  rw[e]
  rcases h with ⟨h,rfl⟩|⟨k,j,hk,hj,hp,hb,rfl⟩
  ·exact .inl ⟨h,rfl⟩
  ·exact .inr ⟨k,j,hk,hj,hp,hb,rfl⟩
 ·rintro k st hk ⟨_,rfl,hq⟩
  rw[h1 k hk]
  have inner:=AR (f:=gT k) (fun j (st:τ)=>j<=(gl [] q k).length/\st=si k j/\∀ x∈(q.take k).flatten++(gl [] q k).take j,¬p x)
   (fun b=>(b=Sum.inl (so (k+1))/\∀ x∈(q.take k).flatten++gl [] q k,¬p x)\/(∃ j,j<(gl [] q k).length/\p (gl d (gl [] q k) j)/\(∀ x∈(q.take k).flatten++(gl [] q k).take j,¬p x)/\b=Sum.inr (res k j))) (gl [] q k).length ?_ ?_ (s:=si k 0) ⟨by omega,rfl,by simpa using hq⟩
  ·obtain⟨b,e,h⟩:=inner
   rw[e]
   rcases h with ⟨rfl,hx⟩|⟨j,hj,hp,hb,rfl⟩
   ·refine .inl ⟨_,rfl,by omega,rfl, ?_⟩
    rw[FV (d:=[]) q k hk]
    simpa using hx
   ·exact .inr ⟨_,rfl,.inr ⟨k,j,hk,hj,hp,hb,rfl⟩⟩
  ·rintro j st hj ⟨_,rfl,O5⟩
   rw[h2 k j hk hj]
   by_cases hp:p (gl d (gl [] q k) j)
   ·rw[AA hp];exact .inr ⟨_,rfl,.inr ⟨j,hj,hp,O5,rfl⟩⟩
   ·rw[AB hp]
    refine .inl ⟨_,rfl,by omega,rfl,fun x hx=> ?_⟩
    rw[FV (d:=d) _ j hj,←I6] at hx
    rcases EV.1 hx with hx|hx
    ·exact O5 x hx
    ·rw[F6.1 hx];exact hp
  ·rintro st ⟨_,rfl,O5⟩
   rw[h3 k hk]
   rw[SP] at O5
   exact⟨_,rfl,.inl ⟨rfl,O5⟩⟩
 ·rintro st ⟨_,rfl,hq⟩
  rw[SP] at hq
  rw[h4]
  exact⟨_,rfl,.inl ⟨hq,rfl⟩⟩
def Found (q:Rows) (n:Int) (k j:Nat):Prop:=k<q.length/\j<(gl [] q k).length/\(gl ((0,0,0,0,0):AH) (gl [] q k) j).1=n/\∀ x∈(q.take k).flatten++(gl [] q k).take j,x.1≠n
theorem AO2 {α:Type} {d:α} (q:List α) (k:Nat):q.set k (q.getD k d)=q:=by
 apply T9
 intro i
 rw[qW]
 by_cases h:k=i
 ·subst h
  rw[AA rfl]
  by_cases hk:k<q.length
  ·rw[AA hk,qP,NB hk];rfl
  ·rw[AB hk,SO (by omega)]
 ·rw[AB h]
theorem ARM {α:Type} (x:List α) (k:Nat) (hk:k<x.length):BX x 0 (k-0)++BX x (k+1) (x.length-(k+1))=x.eraseIdx k:=by
 rw[List.eraseIdx_eq_take_drop_succ]
 unfold BX
 rw[List.drop_zero,Nat.sub_zero,List.take_of_length_le (l:=x.drop (k+1)) (by rw[List.length_drop];omega)]
theorem AVK (q:Rows) (b:Int):lC q b=some (decide (0<=b/\b<q.length)):=by
 unfold lC
 by_cases h:b≥0
 ·rw[AA h];congr 1;rw[gO,N2,N2];omega
 ·rw[AB h];congr 1;rw[gO,N2];simp;omega
theorem AG7 {q:Rows} (hq:q.length<=1000000) (hx:∀ x∈q,x.length<=1000000) (n:Int):((∀ x∈q.flatten,x.1≠n)/\DV q n=some ([],5))\/∃ k j,Found q n k j/\DV q n=some (q.set k ((gl [] q k).eraseIdx j),0):=by
 unfold DV
 rw[cI hq hx,A9]
 have key:=ATA (q:=q) (d:=((0,0,0,0,0):AH)) (p:=fun i=>i.1=n) (so:=fun k=>((k:Int),q)) (si:=fun _ j=>(j:Int)) (res:=fun k j=>(q.set k ((gl [] q k).eraseIdx j),(0:Int))) (no:=(([]:Rows),(5:Int))) (s0:=((0:Int),q)) rfl
  (out:=fun s1=>if s1.1<(q.length:Int) then
   if 0<=s1.1/\s1.1<(s1.2.length:Int) then
   AM (σ:=Int) (β:=((Int×Rows) ⊕ (Rows×Int))) (fun s2=>
   if s2<((s1.2.getD s1.1.toNat []).length:Int) then
   if 0<=s2/\s2<((s1.2.getD s1.1.toNat []).length:Int) then
   if (gl ((0,0,0,0,0):AH) (s1.2.getD s1.1.toNat []) s2.toNat).1=n then
   if Bd none (some s2) s2.toNat ((s1.2.getD s1.1.toNat []).length) then
   if Bd (some (AG (s2+1))) none ((s1.2.getD s1.1.toNat []).length) ((s1.2.getD s1.1.toNat []).length) then
   if ((BX (s1.2.getD s1.1.toNat []) 0 (s2.toNat-0)).length+(BX (s1.2.getD s1.1.toNat []) ((AG (s2+1)).toNat) (((s1.2.getD s1.1.toNat []).length)-((AG (s2+1)).toNat))).length)*40<=140737488355328 then
   if 0<=s1.1/\s1.1<(s1.2.length:Int) then
   if s1.1.toNat=s1.1.toNat then
   some (Sum.inr (Sum.inr (s1.2.set s1.1.toNat ((BX (s1.2.getD s1.1.toNat []) 0 (s2.toNat-0))++(BX (s1.2.getD s1.1.toNat []) ((AG (s2+1)).toNat) (((s1.2.getD s1.1.toNat []).length)-((AG (s2+1)).toNat)))),0)))
   else none
   else none
   else none
   else none
   else none
   else some (Sum.inl (AG (s2+1)))
   else none
   else some (Sum.inr (Sum.inl (AG (s1.1+1),s1.2.set s1.1.toNat (s1.2.getD s1.1.toNat []))))) 0
   else none
   else some (Sum.inr ([],5)))
  (gT:=fun (k:Nat) s2=>if s2<((gl [] q k).length:Int) then
   if 0<=s2/\s2<((gl [] q k).length:Int) then
   if (gl ((0,0,0,0,0):AH) (gl [] q k) s2.toNat).1=n then
   if Bd none (some s2) s2.toNat ((gl [] q k).length) then
   if Bd (some (AG (s2+1))) none ((gl [] q k).length) ((gl [] q k).length) then
   if ((BX (gl [] q k) 0 (s2.toNat-0)).length+(BX (gl [] q k) ((AG (s2+1)).toNat) (((gl [] q k).length)-((AG (s2+1)).toNat))).length)*40<=140737488355328 then
   if 0<=(k:Int)/\(k:Int)<(q.length:Int) then
   if k=k then
   some (Sum.inr (Sum.inr (q.set k ((BX (gl [] q k) 0 (s2.toNat-0))++(BX (gl [] q k) ((AG (s2+1)).toNat) (((gl [] q k).length)-((AG (s2+1)).toNat)))),0)))
   else none
   else none
   else none
   else none
   else none
   else some (Sum.inl (AG (s2+1)))
   else none
   else some (Sum.inr (Sum.inl (AG ((k:Int)+1),q.set k (q.getD k [])))))
  (fun k hk=>by simp only[I3];rw[AA (by omega),AA (by omega)];rfl)
  (fun k j hk hj=>by
   have hl:=hx (gl [] q k) (BR hk)
   have hs1:(BX (gl [] q k) 0 (j-0)).length<=1000000:=by unfold BX;simp;omega
   have hs2:(BX (gl [] q k) (j+1) ((gl [] q k).length-(j+1))).length<=1000000:=by unfold BX;simp;omega
   simp only[I3]
   rw[AA (by omega),AA (by omega),AD (e:=(j:Int)+1) (by omega) (by omega),show ((j:Int)+1).toNat=j+1 from by omega,AA (show Bd none (some (j:Int)) j (gl [] q k).length from ⟨by omega,trivial⟩),AA (show Bd (some ((j:Int)+1)) none (gl [] q k).length (gl [] q k).length from ⟨trivial,by omega⟩),AA (show ((BX (gl [] q k) 0 (j-0)).length+(BX (gl [] q k) (j+1) ((gl [] q k).length-(j+1))).length)*40<=140737488355328 from by omega),AA (show 0<=(k:Int)/\(k:Int)<(q.length:Int) from by omega),AA trivial,ARM _ _ hj]
   rfl)
  (fun k hk=>by rw[AB (by omega),AD (by omega) (by omega),AO2];rfl)
  (by simp only;rw[AB (by omega)])
 rcases key with ⟨h,e⟩|⟨k,j,hk,hj,hp,hb,e⟩
 ·exact .inl ⟨h,e⟩
 ·exact .inr ⟨k,j,⟨hk,hj,hp,hb⟩,e⟩
theorem AA8 {q:Rows} (hx:∀ x∈q,x.length<=1000000) {b:Nat} (hb:b<q.length):LS q (b:Int)=some (if gl [] q b=[] then (((0,0,0,0,0):AH),false) else (gl ((0,0,0,0,0):AH) (gl [] q b) ((gl [] q b).length-1),true)):=by
 have hl:=hx (gl [] q b) (BR hb)
 unfold LS
 rw[AVK,A9,AB (by simp;omega),AA (by omega)]
 simp only[I3]
 by_cases h:gl [] q b=[]
 ·rw[AA (by rw[h];rfl),AA h]
 ·have hp:=l8.2 h
  rw[AB (by omega),AB h,AA (by omega),AA (by omega),AD (e:=((gl [] q b).length:Int)-1) (by omega) (by omega),AA (by omega),show (((gl [] q b).length:Int)-1).toNat=(gl [] q b).length-1 from by omega]
theorem AO3 {s:Sp} (h:3<=s.1/\s.1<=8) (i:AH) {k:Int} (k0:0<=k) (k1:k<=1000000):XV s i k=some (decide (k=0\/i.2.2.2.2<k*sz s.1)):=by
 have z:=LF h
 have h1:=J7 h k0 k1
 unfold XV
 by_cases hk:k=0
 ·rw[AA hk];simp [hk]
 ·rw[AB hk,AND h,A9,AD (by omega) (by omega)]
  simp [hk]
theorem AO4 {s:Sp} (h:3<=s.1/\s.1<=8):JI s=some (sz s.1):=by
 have z:=LF h
 unfold JI
 rw[m9,A9,AB (by simp [h]),AA trivial,OF h,Int.one_mul,AD (by omega) (by omega)]
theorem lO {s:Sp} (h:3<=s.1/\s.1<=8) (i:AH) {k:Int} (k0:0<=k) (k1:k<=1000000):FM s i k=some (decide (k=0\/i.2.2.2.2<k*sz s.1)):=by
 have z:=LF h
 have h1:=J7 h k0 k1
 unfold FM
 by_cases hk:k=0
 ·rw[AA hk];simp [hk]
 ·rw[AB hk,AO4 h,A9,AD (by omega) (by omega)]
  simp [hk]
def hd (w:BitVec 64):Option (Int×Int):=
 if w.toNat%2=1 then none
 else if w.toNat%256 / 2<=15/\1+w.toNat%256 / 2<=w.toNat / 256/\w.toNat / 256<=33+w.toNat%256 / 2 then
  some (((w.toNat%256 / 2:Nat):Int),((w.toNat / 256-1-w.toNat%256 / 2:Nat):Int))
 else none
theorem X0 {w:BitVec 64} {o:Int×Int} (h:hd w=some o):(0<=o.1/\o.1<=15)/\(0<=o.2/\o.2<=32):=by
 unfold hd at h
 split at h
 ·cases h
 ·split at h
  ·simp only[AY] at h
   subst h
   simp only
   omega
  ·cases h
theorem AA9 {r d:Int} (r0:0<=r) (r1:r<=15) (d0:0<=d) (d1:d<=32):hd (dH r d)=some (r,d):=by
 have e:(dH r d).toNat=((1+r+d)*256+r*2).toNat:=by
  unfold dH
  rw[qV]
  omega
 obtain⟨r,rfl⟩:=Int.eq_ofNat_of_zero_le r0
 obtain⟨d,rfl⟩:=Int.eq_ofNat_of_zero_le d0
 have e' :(dH r d).toNat=(1+r+d)*256+r*2:=by rw[e];omega
 have q1:(dH r d).toNat / 256=1+r+d:=by omega
 have q2:(dH r d).toNat%256 / 2=r:=by omega
 have q3:(dH r d).toNat%2=0:=by omega
 unfold hd
 rw[q1,q2,q3,AB (by omega),AA (by omega)]
 congr 1
 refine Prod.ext ?_ ?_ <;> simp only <;> omega
def A0Q (w:BitVec 64) (x:Int×Int×Int×Bool×Int):Prop:=
 (∃ o,hd w=some o/\x=(o.1,o.2,0,false,0))\/(hd w=none/\(x.2.2.2.2≠0\/(x.2.2.2.2=0/\x.2.2.2.1=true)))
theorem ARN (w:BitVec 64):∃ x,DQ w=some x/\A0Q w x:=by
 have hw:=w.isLt
 have e2:(w%2#64).toNat=w.toNat%2:=by rw[BitVec.toNat_umod];rfl
 have e2' :(w%2#64=1#64)↔w.toNat%2=1:=by
  rw[<-BitVec.toNat_inj,e2];rfl
 have d2:(w / 2#64).toNat=w.toNat / 2:=by rw[q_];rfl
 have AVL:(w / 256#64).toNat=w.toNat / 256:=by rw[q_];rfl
 have AVM:(w%256#64 / 2#64).toNat=w.toNat%256 / 2:=by rw[q_,BitVec.toNat_umod];rfl
 unfold DQ
 rw[AA (by decide)]
 by_cases h1:w.toNat%2=1
 ·have hh:hd w=none:=by unfold hd;rw[AA h1]
  rw[AA (e2'.2 h1),AA (by decide)]
  split
  ·exact⟨_,rfl,.inr ⟨hh,.inl (by simp)⟩⟩
  ·rw[AA (by decide)]
   exact⟨_,rfl,.inr ⟨hh,.inr ⟨rfl,rfl⟩⟩⟩
 ·rw[AB (fun h=>h1 (e2'.1 h)),AA (by decide),AA (by decide),AA (by decide),AVL,AVM]
  have n48:(48#64).toNat=48:=rfl
  rw[n48]
  by_cases h2:w.toNat / 256>48
  ·rw[AA h2]
   refine⟨_,rfl,.inr ⟨?_,.inl (by simp)⟩⟩
   unfold hd;rw[AB h1,AB (by omega)]
  rw[AB h2,AD (e:=((w.toNat%256 / 2:Nat):Int)) (by omega) (by omega),AD (e:=((w.toNat / 256:Nat):Int)) (by omega) (by omega)]
  by_cases h3:((w.toNat%256 / 2:Nat):Int)>15
  ·rw[AA h3]
   refine⟨_,rfl,.inr ⟨?_,.inl (by simp)⟩⟩
   unfold hd;rw[AB h1,AB (by omega)]
  rw[AB h3,AD (e:=(1:Int)+((w.toNat%256 / 2:Nat):Int)) (by omega) (by omega)]
  by_cases h4:((w.toNat / 256:Nat):Int)<1+((w.toNat%256 / 2:Nat):Int)
  ·rw[AA h4]
   refine⟨_,rfl,.inr ⟨?_,.inl (by simp)⟩⟩
   unfold hd;rw[AB h1,AB (by omega)]
  rw[AB h4,AD (e:=((w.toNat / 256:Nat):Int)-1) (by omega) (by omega),AD (e:=((w.toNat / 256:Nat):Int)-1-((w.toNat%256 / 2:Nat):Int)) (by omega) (by omega)]
  by_cases h5:((w.toNat / 256:Nat):Int)-1-((w.toNat%256 / 2:Nat):Int)>32
  ·rw[AA h5]
   refine⟨_,rfl,.inr ⟨?_,.inl (by simp)⟩⟩
   unfold hd;rw[AB h1,AB (by omega)]
  rw[AB h5]
  refine⟨_,rfl,.inl ⟨(((w.toNat%256 / 2:Nat):Int),((w.toNat / 256-1-w.toNat%256 / 2:Nat):Int)), ?_, ?_⟩⟩
  ·unfold hd;rw[AB h1,AA (by omega)]
  ·simp only[C3,and_true,true_and]
   omega
def ob (z W:Int) (ws:List (BitVec 64)) (l:List Int):Nat->Int->Option (List (Int×Int))
 |0,at' =>if at' <W then none else some []
 |n+1,at' =>if at' <W then
   (match DB z l at' with
   |none=>none
   |some a=>match hd (gl 0#64 ws a.toNat) with
    |none=>none
    |some o=>if o.1+o.2+1>W-at' then none else (ob z W ws l n (at' +(1+o.1+o.2))).map ((a,1+o.1+o.2)::·))
  else some []
theorem AKN {σ τ β:Type} {z W:Int} {ws:List (BitVec 64)} {l:List Int} {f:σ->Option (σ ⊕ β)} {en:Int->τ->σ} {bad good:τ->β} {step:Int->Int->τ->τ} (J:Nat->Int->τ->Prop)
  (nH:∀ (k:Nat) at' st,0<=at' ->at' <W->(k:Int)<=at' ->J k at' st->(∀ a o,DB z l at' =some a->hd (gl 0#64 ws a.toNat)=some o->W-at' <o.1+o.2+1)->∃ st',f (en at' st)=some (.inr (bad st')))
  (hgo:∀ (k:Nat) at' st a o,0<=at' ->at' <W->(k:Int)<=at' ->J k at' st->DB z l at' =some a->hd (gl 0#64 ws a.toNat)=some o->o.1+o.2+1<=W-at' →
   f (en at' st)=some (.inl (en (at' +(1+o.1+o.2)) (step a (1+o.1+o.2) st)))/\J (k+1) (at' +(1+o.1+o.2)) (step a (1+o.1+o.2) st))
  (he:∀ (k:Nat) st,(k:Int)<=W->J k W st->f (en W st)=some (.inr (good st))):
  ∀ (n:Nat) (k:Nat) (at' :Int) (st:τ),0<=at' ->at' <=W->W-at' <=n->(k:Int)<=at' ->J k at' st→
   (ob z W ws l n at' =none->∃ st',AM f (en at' st)=some (bad st'))∧
   ∀ os,ob z W ws l n at' =some os->AM f (en at' st)=some (good (os.foldl (fun st o=>step o.1 o.2 st) st))/\J (k+os.length) W (os.foldl (fun st o=>step o.1 o.2 st) st)/\((k+os.length:Nat):Int)<=W:=by
 intro n
 induction n with
 |zero=>
  intro k at' st h0 h1 h2 hk hJ
  have:at' =W:=by omega
  subst this
  unfold ob
  rw[AB (by omega)]
  refine⟨fun h=>(by cases h),fun os h=> ?_⟩
  simp only[AY] at h
  subst h
  rw[QJ,he k st hk hJ]
  exact⟨rfl,hJ,hk⟩
 |succ n ih=>
  intro k at' st h0 h1 h2 hk hJ
  by_cases hW:at' <W
  ·unfold ob
   rw[AA hW]
   cases ha:DB z l at' with
   |none=>
    obtain⟨st',hb⟩:=nH k at' st h0 hW hk hJ (fun a o h=>by rw[ha] at h;cases h)
    refine⟨fun _=>⟨st',by rw[QJ,hb]⟩,fun os h=>(by cases h)⟩
   |some a=>
    simp only
    cases ho:hd (gl 0#64 ws a.toNat) with
    |none=>
     obtain⟨st',hb⟩:=nH k at' st h0 hW hk hJ (fun a' o h h' =>by rw[ha] at h;cases h;rw[ho] at h';cases h')
     refine⟨fun _=>⟨st',by rw[QJ,hb]⟩,fun os h=>(by cases h)⟩
    |some o=>
     simp only
     have hr:=X0 ho
     by_cases hs:o.1+o.2+1>W-at'
     ·rw[AA hs]
      obtain⟨st',hb⟩:=nH k at' st h0 hW hk hJ (fun a' o' h h' =>by rw[ha] at h;cases h;rw[ho] at h';cases h';omega)
      refine⟨fun _=>⟨st',by rw[QJ,hb]⟩,fun os h=>(by cases h)⟩
     ·rw[AB hs]
      obtain⟨e1,e2⟩:=hgo k at' st a o h0 hW hk hJ ha ho (by omega)
      obtain⟨i1,i2⟩:=ih (k+1) (at' +(1+o.1+o.2)) (step a (1+o.1+o.2) st) (by omega) (by omega) (by omega) (by omega) e2
      have el:AM f (en at' st)=AM f (en (at' +(1+o.1+o.2)) (step a (1+o.1+o.2) st)):=by rw[QJ,e1]
      rw[el]
      cases hq:ob z W ws l n (at' +(1+o.1+o.2)) with
      |none=>exact⟨fun _=>i1 hq,fun os h=>(by cases h)⟩
      |some q=>
       refine⟨fun h=>(by cases h),fun os h=> ?_⟩
       simp only[ZT,AY] at h
       subst h
       obtain⟨j1,j2,j3⟩:=i2 q hq
       refine⟨j1, ?_, ?_⟩
       ·rw[N3,show k+(q.length+1)=k+1+q.length by omega];exact j2
       ·rw[N3,show k+(q.length+1)=k+1+q.length by omega];exact j3
  ·have:at' =W:=by omega
   subst this
   unfold ob
   rw[AB (by omega)]
   refine⟨fun h=>(by cases h),fun os h=> ?_⟩
   simp only[AY] at h
   subst h
   rw[QJ,he k st hk hJ]
   exact⟨rfl,hJ,hk⟩
structure At (s:Sp) (i:AH) (l:List Int) (at' a:Int):Prop where
 IP:DB (sz s.1) l at' =some a
 a0:0<=a
 a1:a<s.2.1.length
 ATB:A5 s (i.2.2.1*sz s.1) at' =some (a,0)
 rgo:∀ k,0<=k->k<=1000->A5 s a k=some (ZO (DB (sz s.1) l (at' +k)))
theorem AO5 {s:Sp} (h:VS s) {i:AH} (hf:D5 s i) {l:List Int} (hl:Has s i l) {at' :Int} (h0:0<=at') (h1:at' <i.2.2.2.2):∃ a,At s i l at' a:=by
 have oB:=VS.O2 h
 have hn:=h.n.2
 have z:=CA s.1
 obtain⟨z1,z2⟩:=LF h.sh
 obtain⟨⟨q0,q1,b0,b1,w0,w1⟩,pA⟩:=id hf
 rcases hl with ⟨hw,_⟩|⟨hw,hp⟩
 ·omega
 rcases pA with ⟨hw',_⟩|⟨_,⟨f0,f1⟩,fo,fs,l',hp',hlen,_⟩
 ·omega
 obtain rfl:=hp.fn hp'
 have hsp:=P7 (n:=i.2.2.2.2) z
 rw[<-hlen] at hsp
 obtain⟨g, -,ha⟩:=RI z h0 (show at' <l.length*sz s.1 by omega)
 have hFz:=J7 h.sh f0 (show i.2.2.1<=64 by omega)
 have hFw:i.2.2.1*sz s.1<s.2.1.length:=by
  rw[h.w]
  exact Int.mul_lt_mul_of_pos_right (by omega) z
 have hb:=PY z (g:=i.2.2.1) (o:=0) (by omega) z
 rw[ZV] at hb
 have hgo:=gH h (a:=i.2.2.1*sz s.1) (k:=at') hFz.1 hFw (by rw[hb.1,fo];omega) h0 (by omega) (l:=l) (by rw[hb.1];exact hp)
 rw[hb.2,Int.zero_add,ha] at hgo
 obtain⟨l2,p2,⟨c0,c1,c2⟩,p3⟩:=OZ z hp h0 ha (k:=0) (S9 _)
 have ho:=h.owner hp _ c2
 have m0:=jL (g*sz s.1+at' %sz s.1) (show sz s.1≠0 by omega)
 have m1:=nM (g*sz s.1+at' %sz s.1) z
 have ed:=Int.mul_ediv_add_emod (g*sz s.1+at' %sz s.1) (sz s.1)
 generalize g*sz s.1+at' %sz s.1=a at*
 have ec:sz s.1*(a / sz s.1)=a / sz s.1*sz s.1:=Int.mul_comm _ _
 have n0:=Int.mul_nonneg c0 (Int.le_of_lt z)
 have n1:(a / sz s.1+1)*sz s.1<=s.2.2.length*sz s.1:=AAO (by omega) (by omega)
 rw[H2,←h.w] at n1
 refine⟨a,ha,by omega,by omega,hgo,fun k k0 k1=> ?_⟩
 obtain⟨l3,p4, -,p5⟩:=OZ z hp h0 ha (k:=k) k0
 rw[gH h (by omega) (by omega) (by rw[ho.1,fo];omega) k0 (by omega) p4,p5]
theorem AD9 {s:Sp} {i:AH} {l:List Int} {at' a:Int} (h:At s i l at' a):
  (hd (gl 0#64 s.2.1 a.toNat)=none/\∃ x,BK s a=some x/\x.2.2≠0)∨
  (∃ o,hd (gl 0#64 s.2.1 a.toNat)=some o/\((∃ y,DB (sz s.1) l (at' +(o.1+o.2))=some y/\BK s a=some (o.1,o.2,0))\/(DB (sz s.1) l (at' +(o.1+o.2))=none/\BK s a=some (0,0,2)))):=by
 have a0:=h.a0
 have a1:=h.a1
 have hg:=h.rgo 0 (by omega) (by omega)
 rw[ZV,h.IP] at hg
 obtain⟨x,hx,hr⟩:=ARN (gl 0#64 s.2.1 a.toNat)
 unfold BK
 rw[hg,A9,AB (by simp [ZO]),AA ⟨a0,a1⟩,hx,A9]
 rcases hr with ⟨o,h1,rfl⟩|⟨h1,h2⟩
 ·right
  refine⟨o,h1, ?_⟩
  obtain⟨⟨r0,r1⟩,d0,d1⟩:=X0 h1
  have hq:=h.rgo (o.1+o.2) (by omega) (by omega)
  rw[AB (by simp),AB (by simp),AD (by simp only;omega) (by simp only;omega),hq,A9]
  cases DB (sz s.1) l (at' +(o.1+o.2)) with
  |none=>right;exact⟨rfl,by rw[AA (by simp [ZO])]⟩
  |some y=>left;exact⟨y,rfl,by rw[AB (by simp [ZO])]⟩
 ·left
  refine⟨h1, ?_⟩
  rcases h2 with h2|⟨h2,h3⟩
  ·rw[AA h2];exact⟨_,rfl,by simp⟩
  ·rw[AB (I4 h2),AA h3];exact⟨_,rfl,by simp⟩
theorem AO6 {σ τ β:Type} {z W:Int} {ws:List (BitVec 64)} {l:List Int} {f:σ->Option (σ ⊕ β)} {en:Int->τ->σ} {bad good:τ->β} {step:Int->Int->τ->τ} (J:Nat->Int->τ->Prop)
  (nH:∀ (k:Nat) at' st,0<=at' ->at' <W->(k:Int)<=at' ->J k at' st->(∀ a o,DB z l at' =some a->hd (gl 0#64 ws a.toNat)=some o->W-at' <o.1+o.2+1)->∃ st',f (en at' st)=some (.inr (bad st')))
  (hgo:∀ (k:Nat) at' st a o,0<=at' ->at' <W->(k:Int)<=at' ->J k at' st->DB z l at' =some a->hd (gl 0#64 ws a.toNat)=some o->o.1+o.2+1<=W-at' →
   f (en at' st)=some (.inl (en (at' +(1+o.1+o.2)) (step a (1+o.1+o.2) st)))/\J (k+1) (at' +(1+o.1+o.2)) (step a (1+o.1+o.2) st))
  (he:∀ (k:Nat) st,(k:Int)<=W->J k W st->f (en W st)=some (.inr (good st))) (hW:0<=W) {st:τ} (hJ:J 0 0 st) {Q:β->Prop}
  (hb:ob z W ws l W.toNat 0=none->∀ st',Q (bad st')) (hg:∀ os,ob z W ws l W.toNat 0=some os->Q (good (os.foldl (fun st o=>step o.1 o.2 st) st))):
  ∃ b,AM f (en 0 st)=some b/\Q b:=by
 obtain⟨h1,h2⟩:=AKN J nH hgo he W.toNat 0 0 st (by omega) hW (by omega) (by omega) hJ
 cases h:ob z W ws l W.toNat 0 with
 |none=>
  obtain⟨st',h3⟩:=h1 h
  exact⟨_,h3,hb h st'⟩
 |some q=>
  obtain⟨h3, -⟩:=h2 q h
  exact⟨_,h3,hg q h⟩
theorem AYK {α:Type} {x:Option α} {y:α} (h:∃ b,x=some b/\b=y):x=some y:=by
 obtain⟨b,h1,h2⟩:=h
 rw[h1,h2]
def obs (s:Sp) (i:AH) (l:List Int):Option (List (Int×Int)):=ob (sz s.1) i.2.2.2.2 s.2.1 l i.2.2.2.2.toNat 0
theorem AO7 {z W:Int} {ws:List (BitVec 64)} {l:List Int}:∀ {n:Nat} {at' :Int} {os:List (Int×Int)},0<=at' ->at' <=W->ob z W ws l n at' =some os→
  (∀ o∈os,∃ p q,at' <=p/\DB z l p=some o.1/\hd (gl 0#64 ws o.1.toNat)=some q/\o.2=1+q.1+q.2/\p+o.2<=W)/\at' +(os.map (·.2)).sum=W/\at' +os.length<=W
 |0,at',os,h0,h1,h=>by
  unfold ob at h
  split at h
  ·cases h
  ·simp only[AY] at h;subst h;simp;omega
 |n+1,at',os,h0,h1,h=>by
  unfold ob at h
  split at h
  rotate_left
  ·simp only[AY] at h;subst h;simp;omega
  split at h
  ·cases h
  rename_i a ha
  split at h
  ·cases h
  rename_i o ho
  have hr:=X0 ho
  split at h
  ·cases h
  cases hq:ob z W ws l n (at' +(1+o.1+o.2)) with
  |none=>rw[hq] at h;cases h
  |some q=>
   rw[hq] at h
   simp only[ZT,AY] at h
   subst h
   obtain⟨i1,i2,i3⟩:=AO7 (by omega) (by omega) hq
   refine⟨fun x hx=> ?_,by simp only[K0,List.sum_cons];omega,by simp only[N3];omega⟩
   rcases F7.1 hx with rfl|hx
   ·exact⟨at',o,S9 _,ha,ho,rfl,by simp only;omega⟩
   ·obtain⟨p,q',p1,p2,p3,p4,p5⟩:=i1 x hx
    exact⟨p,q',by omega,p2,p3,p4,p5⟩
theorem ARO {s:Sp} (h:VS s) {i:AH} (hf:D5 s i) {l:List Int} {os:List (Int×Int)} (ho:obs s i l=some os):os.length<=16384/\(os.map (·.2)).sum=i.2.2.2.2:=by
 have oB:=VS.O2 h
 obtain⟨⟨_,_,_,_,w0,w1⟩,_⟩:=id hf
 obtain⟨-,h2,h3⟩:=AO7 (by omega) w0 ho
 omega
theorem AO8 (os:List (Int×Int)) (st:List Int):os.foldl (fun st o=>st++ [o.1]) st=st++os.map (·.1):=by
 induction os generalizing st with
 |nil=>simp
 |cons o r ih=>rw[jJ,ih,K0,I6];rfl
theorem ARP {s:Sp} (h:VS s) {i:AH} (hf:D5 s i) {l:List Int} (hl:Has s i l):
  HU s i=some (match obs s i l with|none=>([],12)|some os=>(os.map (·.1),0)):=by
 have oB:=VS.O2 h
 have hn:=h.n.2
 obtain⟨⟨_,_,_,_,w0,w1⟩,pA⟩:=id hf
 have hF:i.2.2.2.2≠0->0<=i.2.2.1/\i.2.2.1<s.2.2.length:=fun hw=>by
  rcases pA with ⟨hw',_⟩|⟨_,f,_⟩
  ·omega
  ·exact f
 have ATC:i.2.2.2.2≠0->AG (i.2.2.1*2 ^ min (BitVec.ofInt 64 s.1).toNat 64)=i.2.2.1*sz s.1:=fun hw=>by
  obtain⟨f0,f1⟩:=hF hw
  have:=J7 h.sh f0 (show i.2.2.1<=64 by omega)
  rw[OF h.sh,AD (by omega) (by omega)]
 unfold HU
 refine AYK (AO6 (τ:=List Int) (β:=List Int×Int) (z:=sz s.1) (W:=i.2.2.2.2) (ws:=s.2.1) (l:=l) (en:=fun a st=>(st,a)) (bad:=fun st=>([],12)) (good:=fun st=>(st,0)) (step:=fun a _ st=>st++ [a]) (fun k _ st=>st.length=k) ?_ ?_ ?_ w0 (st:=[]) rfl ?_ ?_)
 ·intro k at' st h0 h1 hk hJ VK
  obtain⟨a,ha⟩:=AO5 h hf hl h0 h1
  simp only
  rw[AA h1,AA trivial,ATC (by omega),ha.ATB,A9]
  rcases AD9 ha with ⟨g1,x,g2,g3⟩|⟨o,g1,⟨y,g2,g3⟩|⟨g2,g3⟩⟩
  ·rw[g2,A9,AA g3];exact⟨st,rfl⟩
  ·have hr:=X0 g1
   have:=VK a o ha.IP g1
   rw[g3,A9,AB (by simp)]
   simp only
   rw[AD (e:=at' +1) (by omega) (by omega),AD (e:=at' +1+o.1) (by omega) (by omega),AD (e:=at' +1+o.1+o.2) (by omega) (by omega),AA (by omega)]
   exact⟨st,rfl⟩
  ·rw[g3,A9,AA (by simp)];exact⟨st,rfl⟩
 ·intro k at' st a o h0 h1 hk hJ had ho AJM
  obtain⟨a',ha⟩:=AO5 h hf hl h0 h1
  obtain rfl:a=a' :=by have:=ha.IP;rw[had] at this;simpa using this
  have hr:=X0 ho
  simp only
  rw[AA h1,AA trivial,ATC (by omega),ha.ATB,A9]
  rcases AD9 ha with ⟨g1,x,g2,g3⟩|⟨o',g1,⟨y,g2,g3⟩|⟨g2,g3⟩⟩
  ·rw[ho] at g1;cases g1
  ·obtain rfl:o=o' :=by rw[ho] at g1;simpa using g1
   rw[g3,A9,AB (by simp)]
   simp only
   rw[AD (e:=at' +1) (by omega) (by omega),AD (e:=at' +1+o.1) (by omega) (by omega),AD (e:=at' +1+o.1+o.2) (by omega) (by omega),AB (by omega),
    AA (by simp only[HW];omega),AD (e:=(1:Int)+o.1) (by omega) (by omega),AD (e:=(1:Int)+o.1+o.2) (by omega) (by omega),AD (e:=at' +(1+o.1+o.2)) (by omega) (by omega)]
   exact⟨rfl,by simp [hJ]⟩
  ·obtain rfl:o=o' :=by rw[ho] at g1;simpa using g1
   obtain⟨a2,ha2⟩:=AO5 h hf hl (at' :=at' +(o.1+o.2)) (by omega) (by omega)
   rw[ha2.IP] at g2;cases g2
 ·intro k st hk hJ
  simp only
  rw[AB (by omega)]
 ·intro hn st'
  rw[show obs s i l=none from hn]
 ·intro os hs
  rw[show obs s i l=some os from hs,AO8]
  rfl
def ads (z:Int) (l:List Int):Int->List (Int×Int)->List (Int×Int)
 |_,[]=>[]
 |at',o::r=>((DB z l at').getD 0,1+o.1+o.2)::ads z l (at' +(1+o.1+o.2)) r
theorem ADA {z:Int} {ws:List (BitVec 64)} {l:List Int} {W:Int}:∀ {os:List (Int×Int)} {at' :Int} {n:Nat},DM z ws l at' os W->W-at' <=n->ob z W ws l n at' =some (ads z l at' os)
 | [],at',n,h,hn=>by
  rw[DM] at h
  subst h
  cases n <;> (unfold ob;rw[AB (by omega)];rfl)
 |o::r,at',n,h,hn=>by
  obtain⟨⟨⟨r0,r1⟩,d0,d1⟩,⟨a,h2,h3⟩,h4⟩:=h
  have hle:=h4.le
  cases n with
  |zero=>omega
  |succ n=>
   unfold ob
   rw[AA (by omega),h2]
   simp only
   rw[h3,AA9 r0 r1 d0 d1]
   simp only
   rw[AB (by omega),ADA h4 (by omega),ZT]
   simp only[ads,h2,jI]
theorem RX {s:Sp} {i:AH} {l l' :List Int} (h:Has s i l) (h' :Has s i l'):l=l' :=by
 rcases h with ⟨h1,rfl⟩|⟨h1,h2⟩ <;> rcases h' with ⟨h3,rfl⟩|⟨h3,h4⟩
 ·rfl
 ·exact absurd h1 h3
 ·exact absurd h3 h1
 ·exact h2.fn h4
theorem AO9 {s:Sp} {i:AH} {l:List Int} (hl:Has s i l) (hw:0<=i.2.2.2.2) {os:List (Int×Int)} (h:Full s i os):DM (sz s.1) s.2.1 l 0 os i.2.2.2.2/\obs s i l=some (ads (sz s.1) l 0 os):=by
 obtain⟨l',h1,h2⟩:=h
 obtain rfl:=RX hl h1
 exact⟨h2,ADA h2 (by omega)⟩
abbrev Se:Type:=Int×Int×List Int
abbrev Ss:Type:=List Se
abbrev Ro:Type:=List Bool×List (BitVec 64)
def Lx (a b:Se):Prop:=a.1<b.1\/(a.1=b.1/\a.2.1<b.2.1)
instance (a b:Se):Decidable (Lx a b):=by unfold Lx;infer_instance
structure RV (l:Ss):Prop where
 pw:l.Pairwise Lx
 e:∀ x∈l,(0<=x.1/\x.1<64)/\(0<=x.2.1/\x.2.1<64)/\x.2.2.Pairwise (·< ·)/\∀ y∈x.2.2,0<=y/\y<16384
def In (l:Ss) (f g y:Int):Prop:=∃ x∈l,x.1=f/\x.2.1=g/\y∈x.2.2
theorem nI {n:Nat} {l:List Int} (h:l.Pairwise (·< ·)) (hb:∀ y∈l,0<=y/\y<n):l.length<=n:=
 QL n l (h.imp fun h=>Int.ne_of_lt h) hb
theorem RV.len {l:Ss} (h:RV l):l.length<=4096:=by
 have:(l.map fun x=>x.1*64+x.2.1).length<=4096:=by
  refine nI (List.pairwise_map.2 ?_) ?_
  ·refine (List.Pairwise.imp_of_mem (S:=fun a b=>a.1*64+a.2.1<b.1*64+b.2.1) ?_ h.pw)
   intro a b ha hb hl
   have e1:=h.e a ha
   have e2:=h.e b hb
   rcases hl with hl|⟨hl,mH⟩ <;> omega
  ·intro y hy
   obtain⟨x,hx,rfl⟩:=C0.1 hy
   have e1:=h.e x hx
   omega
 rw[WW] at this
 exact this
theorem RV.AVN {l:Ss} (h:RV l) {x:Se} (hx:x∈l):x.2.2.length<=16384:=nI (h.e x hx).2.2.1 (h.e x hx).2.2.2
theorem AOA {l:Ss} (hl:l.length<=1000000) (hx:∀ x∈l,x.2.2.length<=1000000):DS l=some l:=by
 unfold DS
 refine (AR (fun k (st:Ss×Int)=>k<=l.length/\st=(l.take k,(k:Int))) (fun b=>b=l) l.length ?_ ?_ (s:=([],0)) ⟨by omega,by simp⟩).elim fun b hb=>by rw[hb.1,hb.2]
 ·rintro k st hk ⟨_,rfl⟩
  have hl:=hx (gl (0,0,[]) l k) (BR hk)
  left
  refine⟨_, ?_,by omega,rfl⟩
  simp only[I3]
  rw[AA (by omega),AA (by omega),AA (by simp;omega),AA (by simp;omega),o8,FV (d:=(0,0,[])) l k hk,AD (by omega) (by omega)]
  rfl
 ·rintro st ⟨_,rfl⟩
  simp only
  rw[AB (by omega),SP]
  exact⟨_,rfl,rfl⟩
theorem RV.copy {l:Ss} (h:RV l):DS l=some l:=
 AOA (by have:=h.len;omega) fun x hx=>by have:=h.AVN hx;omega
theorem AAA {l:List Int} (hl:l.length<=1000000) (v:Int):D2 l v=some (decide (v∈l)):=by
 unfold D2
 obtain⟨h1,h2⟩:=nG (β:=Bool) (ys:=l) (v:=v) (bad:=true) (r:=false) (f:=fun s1=>
  if s1<(l.length:Int) then
  if 0<=s1/\s1<(l.length:Int) then
  if (gl (0:Int) l s1.toNat)=v then
  some (Sum.inr (true))
  else some (Sum.inl (AG (s1+1)))
  else none
  else some (Sum.inr (false))) (fun k hk=>by
   simp only[I3]
   rw[AA (by omega),AA (by omega),AD (by omega) (by omega)]) (fun _=>by
   rw[AB (by omega)])
 by_cases h:v∈l
 ·rw[HX h];exact h1 h
 ·rw[MV h];exact h2 h
def ins (l:List Int) (v:Int):List Int:=if v∈l then l else l.filter (·< v)++(v::l.filter (v< ·))
theorem dO {l:List Int} {v x:Int}:x∈ins l v↔x=v\/x∈l:=by
 unfold ins
 split
 ·rename_i h
  constructor
  ·exact .inr
  ·rintro (rfl|h')
   ·exact h
   ·exact h'
 ·rename_i h
  simp only[EV,YN,F7,IQ]
  constructor
  ·rintro (⟨h1,_⟩|rfl|⟨h1,_⟩)
   ·exact .inr h1
   ·exact .inl rfl
   ·exact .inr h1
  ·rintro (rfl|h1)
   ·exact .inr (.inl rfl)
   ·rcases Int.lt_trichotomy x v with h2|rfl|h2
    ·exact .inl ⟨h1,h2⟩
    ·exact absurd h1 h
    ·exact .inr (.inr ⟨h1,h2⟩)
theorem AOB {l:List Int} {v:Int} (h:l.Pairwise (·< ·)):(ins l v).Pairwise (·< ·):=by
 unfold ins
 split
 ·exact h
 ·rw[qZ,ZR]
  refine⟨h.sublist vM,⟨fun x hx=> ?_,h.sublist vM⟩,fun a ha b hb=> ?_⟩
  ·simpa using (YN.1 hx).2
  ·have h1:a<v:=by simpa using (YN.1 ha).2
   rcases F7.1 hb with rfl|hb
   ·exact h1
   ·have:v<b:=by simpa using (YN.1 hb).2
    omega
theorem X1 {α:Type} (xs:List α) (k:Nat):BX xs 0 (k-0)=xs.take k:=by
 unfold BX;simp
theorem AVO {l:List Int} (h:l.Pairwise (·< ·)) (v:Int):∃ k,k<=l.length/\l.filter (·< v)=l.take k/\l.filter (fun x=>¬x<v)=l.drop k/\(∀ j,j<k->gl 0 l j<v)/\(k<l.length->¬gl 0 l k<v):=by
 induction l with
 |nil=>exact⟨0,by simp,rfl,rfl,fun j hj=>by omega,fun h=>by simp at h⟩
 |cons a r ih=>
  obtain⟨h1,h2⟩:=ZR.1 h
  obtain⟨k,k1,k2,k3,k4,k5⟩:=ih h2
  by_cases ha:a<v
  ·refine⟨k+1,by simp;omega, ?_, ?_, ?_, ?_⟩
   ·rw[qY,AA (by simpa using ha),List.take_succ_cons,k2]
   ·rw[qY,AB (by simpa using ha),List.drop_succ_cons,k3]
   ·intro j hj
    cases j with
    |zero=>exact ha
    |succ j=>exact k4 j (by omega)
   ·intro hk
    exact k5 (by simpa using hk)
  ·have hr:∀ x∈r,¬x<v:=fun x hx=>by have:=h1 x hx;omega
   refine⟨0,by simp, ?_, ?_,fun j hj=>by omega,fun _=>ha⟩
   ·rw[qY,AB (by simpa using ha),List.take_zero,List.filter_eq_nil_iff]
    intro x hx
    simpa using hr x hx
   ·rw[qY,AA (by simpa using ha),List.drop_zero]
    congr 1
    rw[List.filter_eq_self]
    intro x hx
    simpa using hr x hx
theorem AHY {l:List Int} (h:l.Pairwise (·< ·)) (hl:l.length<=1000000) (v:Int):DU l v=some (ins l v):=by
 obtain⟨k,k1,k2,k3,k4,k5⟩:=AVO h v
 have key:(if v∈l then l else l.take k++ [v]++l.drop k)=ins l v:=by
  unfold ins
  split
  ·rfl
  ·rename_i hn
   rw[k2,I6,List.singleton_append,←k3]
   congr 2
   refine nN fun x hx=> ?_
   simp only[o7]
   constructor
   ·intro h1;by_cases h2:x=v
    ·subst h2;exact absurd hx hn
    ·omega
   ·intro h1;omega
 have ND:v∈l↔k<l.length/\gl 0 l k=v:=by
  constructor
  ·intro hm
   have hd:v∈l.drop k:=by rw[<-k3,YN];exact⟨hm,by simp⟩
   have hk:k<l.length:=by
    rcases GY k l.length with h1|h1
    ·exact h1
    ·rw[List.drop_eq_nil_of_le h1] at hd;cases hd
   refine⟨hk, ?_⟩
   have hs:=qG (d:=0) l k hk
   rw[AIO hk,←DZ (d:=0) hk] at hd
   rcases F7.1 hd with hd|hd
   ·exact hd.symm
   ·have:=k5 hk
    have h2:gl 0 l k<v:=by
     have hp:(l.drop k).Pairwise (·< ·):=h.sublist (List.drop_sublist k l)
     rw[AIO hk,←DZ (d:=0) hk,ZR] at hp
     exact hp.1 _ hd
    omega
  ·rintro⟨h1,rfl⟩;exact BR h1
 rw[<-key]
 unfold DU
 refine (AR (fun j (st:Int)=>st=(j:Int)) (fun b=>b=if v∈l then l else l.take k++ [v]++l.drop k) k ?_ ?_ (s:=0) rfl).elim fun b hb=>by rw[hb.1,hb.2]
 ·rintro j st hj rfl
  left
  rw[AA (by omega),AA (by omega),I3,AA (k4 j hj),AD (by omega) (by omega)]
  exact⟨_,rfl,rfl⟩
 ·rintro st rfl
  have l1:(l.take k).length=k:=by rw[List.length_take];omega
  have l2:(l.drop k).length=l.length-k:=by rw[List.length_drop]
  have b1:Bd none (some (k:Int)) k l.length:=⟨by omega,trivial⟩
  have b2:Bd (some (k:Int)) none l.length l.length:=⟨trivial,by omega⟩
  by_cases hk:k<l.length
  ·rw[AA (by omega),AA (by omega)]
   simp only[I3]
   rw[AB (k5 hk),AA (by omega),AA (by omega)]
   by_cases he:gl 0 l k=v
   ·rw[AA he,AA (ND.2 ⟨hk,he⟩)]
    exact⟨_,rfl,rfl⟩
   ·rw[AB he,AB (fun hm=>he (ND.1 hm).2),AA b1,X1,dK,AA (by simp;omega),AA (by simp;omega),AA b2,AA (by simp;omega)]
    exact⟨_,rfl,by rw[o8]⟩
  ·have hn:v∉l:=fun hm=>hk (ND.1 hm).1
   rw[AB (by omega),AB (by omega)]
   simp only[I3]
   rw[AB hn,AA b1,X1,dK,AA (by simp;omega),AA (by simp;omega),AA b2,AA (by simp;omega)]
   exact⟨_,rfl,by rw[o8]⟩
theorem S6 (a b:Se):EU a b=some (decide (Lx a b)):=by
 unfold EU
 by_cases h:a.1<b.1
 ·rw[AA h,HX (show Lx a b from Or.inl h)]
 ·rw[AB h]
  by_cases h2:a.1=b.1
  ·rw[AA h2]
   congr 1
   rw[o7]
   exact⟨fun h3=>Or.inr ⟨h2,h3⟩,fun h3=>by rcases h3 with h3|h3 <;> omega⟩
  ·rw[AB h2,MV (fun h3=>by rcases h3 with h3|h3 <;> omega)]
theorem Lx.trans {a b c:Se} (h:Lx a b) (h' :Lx b c):Lx a c:=by
 unfold Lx at*
 omega
theorem A0R {l:Ss} (p:Se):∃ k,k<=l.length/\(∀ j,j<k->Lx (gl (0,0,[]) l j) p)/\(k<l.length->¬Lx (gl (0,0,[]) l k) p):=by
 induction l with
 |nil=>exact⟨0,by simp,fun j hj=>by omega,fun h=>by simp at h⟩
 |cons a r ih=>
  obtain⟨k,k1,k2,k3⟩:=ih
  by_cases ha:Lx a p
  ·refine⟨k+1,by simp;omega,fun j hj=> ?_,fun hk=> ?_⟩
   ·cases j with
    |zero=>exact ha
    |succ j=>exact k2 j (by omega)
   ·exact k3 (by simpa using hk)
  ·exact⟨0,by simp,fun j hj=>by omega,fun _=>ha⟩
theorem oT {α:Type} {d:α} {l:List α} {k:Nat} {x:α} (h:x∈l.take k):∃ j,j<k/\j<l.length/\gl d l j=x:=by
 obtain⟨j,hj,rfl⟩:=x5.1 h
 rw[List.length_take] at hj
 exact⟨j,by omega,by omega,by rw[List.getElem_take,DZ (by omega)]⟩
theorem AVP {l:Ss} (h:RV l) {f g y:Int} (hf:0<=f/\f<64) (hg:0<=g/\g<64) (hy:0<=y/\y<16384):
  ∃ l',HS l f g y=some l' /\RV l' /\∀ f' g' y',In l' f' g' y' ↔In l f' g' y' \/(f' =f/\g' =g/\y' =y):=by
 have hlen:=h.len
 obtain⟨k,k1,k2,k3⟩:=A0R (l:=l) (f,g,[])
 have l1:(l.take k).length=k:=by rw[List.length_take];omega
 have l2:(l.drop k).length=l.length-k:=by rw[List.length_drop]
 have b1:Bd none (some (k:Int)) k l.length:=⟨by omega,trivial⟩
 have b2:Bd (some (k:Int)) none l.length l.length:=⟨trivial,by omega⟩
 by_cases hc:k<l.length/\¬Lx (f,g,[]) (gl (0,0,[]) l k)
 ·obtain⟨hk,hn⟩:=hc
  have hx:=BR (d:=((0,0,[]):Se)) hk
  have e:=h.e _ hx
  have hs:=h.AVN hx
  have k3' :=k3 hk
  have ek:(gl (0,0,[]) l k).1=f/\(gl (0,0,[]) l k).2.1=g:=by
   unfold Lx at hn k3'
   simp only at hn k3'
   omega
  refine⟨l.set k (f,g,ins (gl (0,0,[]) l k).2.2 y), ?_, ?_, ?_⟩
  ·unfold HS
   refine (AR (fun j (st:Int)=>st=(j:Int)) (fun b=>b=l.set k (f,g,ins (gl (0,0,[]) l k).2.2 y)) k ?_ ?_ (s:=0) rfl).elim fun b hb=>by rw[hb.1,hb.2]
   ·rintro j st hj rfl
    left
    rw[AA (by omega),AA (by omega),I3,S6,A9,AA (HX (k2 j hj)),AD (by omega) (by omega)]
    exact⟨_,rfl,rfl⟩
   ·rintro st rfl
    rw[AA (by omega),AA (by omega)]
    simp only[I3]
    rw[S6,A9,AB (by rw[IQ];exact k3'),h.copy,A9,AA (by omega),AA (by omega),S6,A9,AA (by rw[MV hn];rfl),AA (by omega),AHY e.2.2.1 (by omega),A9,AA (by omega),ek.1,ek.2]
    exact⟨_,rfl,rfl⟩
  ·constructor
   ·have e1:∀ l:Ss,l.Pairwise Lx↔(l.map fun x=>(x.1,x.2.1)).Pairwise fun a b=>a.1<b.1\/(a.1=b.1/\a.2<b.2):=fun l=>by rw[List.pairwise_map];rfl
    rw[e1,List.map_set]
    have e2:(l.map fun x:Se=>(x.1,x.2.1)).set k (f,g)=l.map fun x:Se=>(x.1,x.2.1):=by
     refine List.ext_getElem (by simp) fun j j1 j2=> ?_
     rw[List.getElem_set]
     split
     ·rename_i hj;subst hj
      rw[qX,←DZ (d:=((0,0,[]):Se)) hk,ek.1,ek.2]
     ·rfl
    rw[e2,←e1]
    exact h.pw
   ·intro x hx'
    rcases List.mem_or_eq_of_mem_set hx' with hx' |rfl
    ·exact h.e x hx'
    ·refine⟨hf,hg,AOB e.2.2.1,fun z hz=> ?_⟩
     rcases dO.1 hz with rfl|hz
     ·exact hy
     ·exact e.2.2.2 z hz
  ·intro f' g' y'
   constructor
   ·rintro⟨x,hx',rfl,rfl,hz⟩
    rcases List.mem_or_eq_of_mem_set hx' with hx' |rfl
    ·exact .inl ⟨x,hx',rfl,rfl,hz⟩
    ·rcases dO.1 hz with rfl|hz
     ·exact .inr ⟨rfl,rfl,rfl⟩
     ·exact .inl ⟨_,hx,ek.1,ek.2,hz⟩
   ·have hm:(f,g,ins (gl (0,0,[]) l k).2.2 y)∈l.set k (f,g,ins (gl (0,0,[]) l k).2.2 y):=List.mem_set hk _
    rintro (⟨x,hx',rfl,rfl,hz⟩|⟨rfl,rfl,rfl⟩)
    ·obtain⟨j,hj,rfl⟩:=x5.1 hx'
     by_cases gC:j=k
     ·subst gC
      rw[<-DZ (d:=((0,0,[]):Se)) hj] at hz ⊢
      exact⟨_,hm,ek.1.symm,ek.2.symm,dO.2 (.inr hz)⟩
     ·refine⟨l[j], ?_,rfl,rfl,hz⟩
      rw[x5]
      exact⟨j,by rw[ER];exact hj,by rw[List.getElem_set_ne (Ne.symm gC)]⟩
    ·exact⟨_,hm,rfl,rfl,dO.2 (.inl rfl)⟩
 ·have hr:k<l.length->Lx (f,g,[]) (gl (0,0,[]) l k):=fun hk=>AIP fun hn=>hc ⟨hk,hn⟩
  have yL:∀ x∈l.drop k,Lx (f,g,[]) x:=by
   intro x hx
   have hk:k<l.length:=by
    rcases GY k l.length with h1|h1
    ·exact h1
    ·rw[List.drop_eq_nil_of_le h1] at hx;cases hx
   have hp:(l.drop k).Pairwise Lx:=h.pw.sublist (List.drop_sublist k l)
   rw[AIO hk,←DZ (d:=((0,0,[]):Se)) hk] at hx hp
   rcases F7.1 hx with rfl|hx
   ·exact hr hk
   ·exact (hr hk).trans ((ZR.1 hp).1 x hx)
  refine⟨l.take k++ [(f,g,[y])]++l.drop k, ?_, ?_, ?_⟩
  ·unfold HS
   refine (AR (fun j (st:Int)=>st=(j:Int)) (fun b=>b=l.take k++ [(f,g,[y])]++l.drop k) k ?_ ?_ (s:=0) rfl).elim fun b hb=>by rw[hb.1,hb.2]
   ·rintro j st hj rfl
    left
    rw[AA (by omega),AA (by omega),I3,S6,A9,AA (HX (k2 j hj)),AD (by omega) (by omega)]
    exact⟨_,rfl,rfl⟩
   ·rintro st rfl
    by_cases hk:k<l.length
    ·rw[AA (by omega),AA (by omega)]
     simp only[I3]
     rw[S6,A9,AB (by rw[IQ];exact k3 hk),h.copy,A9,AA (by omega),AA (by omega),S6,A9,AB (by rw[HX (hr hk)];simp),AA b2,dK,AA (by simp;omega),AA b1,X1,AA (by simp;omega),AA (by simp;omega),o8]
     exact⟨_,rfl,rfl⟩
    ·rw[AB (by omega),h.copy,A9,AB (by omega)]
     simp only[I3]
     rw[AA b2,dK,AA (by simp;omega),AA b1,X1,AA (by simp;omega),AA (by simp;omega),o8]
     exact⟨_,rfl,rfl⟩
  ·have hs:l.take k++l.drop k=l:=vI k l
   have hp:=h.pw
   rw[<-hs,qZ] at hp
   constructor
   ·rw[I6,List.singleton_append,qZ,ZR]
    refine⟨hp.1,⟨fun x hx=>yL x hx,hp.2.1⟩,fun a ha b hb=> ?_⟩
    obtain⟨j,j1,j2,rfl⟩:=oT (d:=((0,0,[]):Se)) ha
    rcases F7.1 hb with rfl|hb
    ·exact k2 j j1
    ·exact hp.2.2 _ ha _ hb
   ·intro x hx
    simp only[EV,F6] at hx
    rcases hx with (hx|rfl)|hx
    ·exact h.e x (vJ hx)
    ·refine⟨hf,hg,List.pairwise_singleton _ _,fun z hz=> ?_⟩
     rw[F6.1 hz];exact hy
    ·exact h.e x (vK hx)
  ·intro f' g' y'
   have U8:∀ x:Se,x∈l.take k++ [(f,g,[y])]++l.drop k↔x∈l\/x=(f,g,[y]):=by
    intro x
    rw[EV,EV,F6]
    have:x∈l↔x∈l.take k\/x∈l.drop k:=by rw[<-EV,vI]
    rw[this]
    constructor
    ·rintro ((h1|h1)|h1)
     ·exact .inl (.inl h1)
     ·exact .inr h1
     ·exact .inl (.inr h1)
    ·rintro ((h1|h1)|h1)
     ·exact .inl (.inl h1)
     ·exact .inr h1
     ·exact .inl (.inr h1)
   constructor
   ·rintro⟨x,hx,rfl,rfl,hz⟩
    rcases (U8 x).1 hx with hx|rfl
    ·exact .inl ⟨x,hx,rfl,rfl,hz⟩
    ·exact .inr ⟨rfl,rfl,F6.1 hz⟩
   ·rintro (⟨x,hx,rfl,rfl,hz⟩|⟨rfl,rfl,rfl⟩)
    ·exact⟨x,(U8 x).2 (.inl hx),rfl,rfl,hz⟩
    ·exact⟨_,(U8 _).2 (.inr rfl),rfl,rfl,F6.2 rfl⟩
theorem cK {α:Type} {d:α} (p:α->Bool) (l:List α) {k:Nat} (hk:k<l.length):(l.take (k+1)).filter p=(l.take k).filter p++(if p (gl d l k)=true then [gl d l k] else []):=by
 rw[FV (d:=d) l k hk,x7,qY,List.filter_nil]
theorem RY {α:Type} (p:α->Bool) (l:List α) (k:Nat):((l.take k).filter p).length<=l.length:=by
 refine fX (oX _ _) ?_
 rw[List.length_take];omega
def lP (l:Ss) (F:List Int):Ss:=l.filter fun x=>decide (x.1∉F/\x.2.1∉F)
theorem ARQ {l:Ss} (h:RV l) {F:List Int} (hF:F.length<=1000000):JK l F=some (lP l F):=by
 have hlen:=h.len
 unfold JK
 rw[h.copy,A9]
 refine (AR (fun k (st:Ss×Int)=>st=((l.take k).filter (fun x=>decide (x.1∉F/\x.2.1∉F)),(k:Int))) (fun b=>b=lP l F) l.length ?_ ?_ (s:=([],0)) (by simp)).elim fun b hb=>by rw[hb.1,hb.2]
 ·rintro k st hk rfl
  left
  have hb:=RY (fun x:Se=>decide (x.1∉F/\x.2.1∉F)) l k
  simp only[I3]
  rw[AA (by omega),AA (by omega),AAA hF,A9,AAA hF]
  rw[cK (d:=((0,0,[]):Se)) _ l hk]
  by_cases h1:(gl ((0,0,[]):Se) l k).1∈F
  ·rw[AB (by rw[HX h1];simp),AB (by rw[IQ];exact fun hh=>hh.1 h1),AD (by omega) (by omega),G5]
   exact⟨_,rfl,rfl⟩
  ·rw[AA (by rw[MV h1];rfl),A9]
   by_cases h2:(gl ((0,0,[]):Se) l k).2.1∈F
   ·rw[AB (by rw[HX h2];simp),AB (by rw[IQ];exact fun hh=>hh.2 h2),AD (by omega) (by omega),G5]
    exact⟨_,rfl,rfl⟩
   ·rw[AA (by rw[MV h2];rfl),AA (HX ⟨h1,h2⟩),AA (by simp only[HW];omega),AD (by omega) (by omega)]
    exact⟨_,rfl,rfl⟩
 ·rintro st rfl
  simp only
  rw[AB (by omega),SP]
  exact⟨_,rfl,rfl⟩
theorem RV.drop {l:Ss} (h:RV l) (F:List Int):RV (lP l F):=
 ⟨h.pw.sublist vM,fun x hx=>h.e x (YN.1 hx).1⟩
theorem AHZ {l:Ss} {F:List Int} {f g y:Int}:In (lP l F) f g y↔In l f g y/\f∉F/\g∉F:=by
 constructor
 ·rintro⟨x,hx,rfl,rfl,hy⟩
  obtain⟨h1,h2⟩:=YN.1 hx
  exact⟨⟨x,h1,rfl,rfl,hy⟩,gN h2⟩
 ·rintro⟨⟨x,hx,rfl,rfl,hy⟩,h2⟩
  exact⟨x,YN.2 ⟨hx,HX h2⟩,rfl,rfl,hy⟩
def InF (l:Ss) (F:List Int) (y:Int):Prop:=∃ f g,In l f g y/\g∈F/\f∉F
theorem lQ {l:Ss} {k:Nat} (hk:k<l.length) {f g y:Int}:In (l.take (k+1)) f g y↔In (l.take k) f g y\/((gl (0,0,[]) l k).1=f/\(gl (0,0,[]) l k).2.1=g/\y∈(gl (0,0,[]) l k).2.2):=by
 rw[FV (d:=((0,0,[]):Se)) l k hk]
 constructor
 ·rintro⟨x,hx,h1,h2,h3⟩
  rcases EV.1 hx with hx|hx
  ·exact .inl ⟨x,hx,h1,h2,h3⟩
  ·rw[F6.1 hx] at h1 h2 h3
   exact .inr ⟨h1,h2,h3⟩
 ·rintro (⟨x,hx,h1,h2,h3⟩|⟨h1,h2,h3⟩)
  ·exact⟨x,EV.2 (.inl hx),h1,h2,h3⟩
  ·exact⟨_,EV.2 (.inr (F6.2 rfl)),h1,h2,h3⟩
theorem ARR {l:Ss} (h:RV l) {F:List Int} (hF:F.length<=1000000):
  ∃ out n,JJ l F=some (out,n)/\out.Pairwise (·< ·)/\(∀ y∈out,0<=y/\y<16384)/\∀ y,y∈out↔InF l F y:=by
 have hlen:=h.len
 unfold JJ
 have key:=AR (f:=fun s1:List Int×Int×Int=>
  if s1.2.2<(l.length:Int) then
  if 0<=s1.2.2/\s1.2.2<(l.length:Int) then
  Option.bind (D2 F (((gl ((0,0,[]):(Int×Int×(List Int))) l s1.2.2.toNat).2).1)) (fun r1=>
  if r1=true then
  Option.bind (D2 F ((gl ((0,0,[]):(Int×Int×(List Int))) l s1.2.2.toNat).1)) (fun r2=>
  if (!r2)=true then
  AM (σ:=((List Int)×Int)) (β:=(((List Int)×Int×Int) ⊕ ((List Int)×Int))) (fun s2=>
  if s2.2<((((gl ((0,0,[]):(Int×Int×(List Int))) l s1.2.2.toNat).2).2).length:Int) then
  if 0<=s2.2/\s2.2<((((gl ((0,0,[]):(Int×Int×(List Int))) l s1.2.2.toNat).2).2).length:Int) then
  Option.bind (DU s2.1 (gl (0:Int) (((gl ((0,0,[]):(Int×Int×(List Int))) l s1.2.2.toNat).2).2) s2.2.toNat)) (fun r3=>
  some (Sum.inl ((r3,AG (s2.2+1)))))
  else none
  else some (Sum.inr (Sum.inl ((s2.1,AG (s1.2.1+((((gl ((0,0,[]):(Int×Int×(List Int))) l s1.2.2.toNat).2).2).length:Int)),AG (s1.2.2+1)))))) ((s1.1,0))
  else some (Sum.inl ((s1.1,s1.2.1,AG (s1.2.2+1)))))
  else some (Sum.inl ((s1.1,s1.2.1,AG (s1.2.2+1)))))
  else none
  else some (Sum.inr ((s1.1,s1.2.1))))
  (fun k (st:List Int×Int×Int)=>st.2.2=(k:Int)/\st.1.Pairwise (·< ·)/\(∀ y∈st.1,0<=y/\y<16384)/\∀ y,y∈st.1↔InF (l.take k) F y)
  (fun b=>b.1.Pairwise (·< ·)/\(∀ y∈b.1,0<=y/\y<16384)/\∀ y,y∈b.1↔InF l F y) l.length ?_ ?_ (s:=([],0,0)) ⟨rfl,List.Pairwise.nil,by simp,fun y=>by simp [InF,In]⟩
 ·obtain⟨b,e,h1,h2,h3⟩:=key
  exact⟨b.1,b.2,e,h1,h2,h3⟩
 ·rintro k ⟨out,n,kk⟩ hk ⟨e1,h1,h2,h3⟩
  simp only at e1 h1 h2 h3
  subst e1
  have hx:=BR (d:=((0,0,[]):Se)) hk
  have e:=h.e _ hx
  have hs:=h.AVN hx
  left
  simp only[I3]
  rw[AA (by omega),AA (by omega),AAA hF,A9]
  have skip:¬((gl ((0,0,[]):Se) l k).2.1∈F/\(gl ((0,0,[]):Se) l k).1∉F)->∀ y,y∈out↔InF (l.take (k+1)) F y:=by
   intro hn y
   rw[h3 y]
   constructor
   ·rintro⟨f,g,a1,a2⟩
    exact⟨f,g,(lQ hk).2 (.inl a1),a2⟩
   ·rintro⟨f,g,a1,a2,a3⟩
    rcases (lQ hk).1 a1 with a1|⟨rfl,rfl,_⟩
    ·exact⟨f,g,a1,a2,a3⟩
    ·exact absurd ⟨a2,a3⟩ hn
  by_cases g1:(gl ((0,0,[]):Se) l k).2.1∈F
  rotate_left
  ·rw[AB (by rw[MV g1];simp),AD (by omega) (by omega)]
   exact⟨_,rfl,rfl,h1,h2,skip fun hh=>g1 hh.1⟩
  rw[AA (HX g1),AAA hF,A9]
  by_cases g2:(gl ((0,0,[]):Se) l k).1∈F
  ·rw[AB (by rw[HX g2];simp),AD (by omega) (by omega)]
   exact⟨_,rfl,rfl,h1,h2,skip fun hh=>hh.2 g2⟩
  rw[AA (by rw[MV g2];rfl)]
  generalize hX:gl ((0,0,[]):Se) l k=X at*
  have inner:=AR (β:=((List Int×Int×Int) ⊕ (List Int×Int))) (f:=fun s2:List Int×Int=>
   if s2.2<(X.2.2.length:Int) then
   if 0<=s2.2/\s2.2<(X.2.2.length:Int) then
   Option.bind (DU s2.1 (gl (0:Int) X.2.2 s2.2.toNat)) (fun r3=>
   some (Sum.inl ((r3,AG (s2.2+1)))))
   else none
   else some (Sum.inr (Sum.inl ((s2.1,AG (n+(X.2.2.length:Int)),AG ((k:Int)+1))))))
   (fun j (st:List Int×Int)=>st.2=(j:Int)/\st.1.Pairwise (·< ·)/\(∀ y∈st.1,0<=y/\y<16384)/\∀ y,y∈st.1↔(y∈out\/y∈X.2.2.take j))
   (fun b=>∃ o,b=Sum.inl (o,AG (n+(X.2.2.length:Int)),(k:Int)+1)/\o.Pairwise (·< ·)/\(∀ y∈o,0<=y/\y<16384)/\∀ y,y∈o↔(y∈out\/y∈X.2.2)) X.2.2.length ?_ ?_ (s:=(out,0)) ⟨rfl,h1,h2,fun y=>by simp⟩
  ·obtain⟨b,e',o,rfl,q1,q2,q3⟩:=inner
   rw[e']
   refine⟨_,rfl,rfl,q1,q2,fun y=> ?_⟩
   rw[q3 y,h3 y]
   constructor
   ·rintro (⟨f,g,a1,a2⟩|a1)
    ·exact⟨f,g,(lQ hk).2 (.inl a1),a2⟩
    ·exact⟨X.1,X.2.1,(lQ hk).2 (.inr ⟨by rw[hX],by rw[hX],by rw[hX];exact a1⟩),g1,g2⟩
   ·rintro⟨f,g,a1,a2,a3⟩
    rcases (lQ hk).1 a1 with a1|⟨rfl,rfl,a4⟩
    ·exact .inl ⟨f,g,a1,a2,a3⟩
    ·rw[hX] at a4;exact .inr a4
  ·rintro j ⟨o,jj⟩ hj ⟨e1,q1,q2,q3⟩
   simp only at e1 q1 q2 q3
   subst e1
   have ho:=nI (n:=16384) q1 q2
   left
   simp only[I3]
   rw[AA (by omega),AA (by omega),AHY q1 (by omega),A9,AD (by omega) (by omega)]
   refine⟨_,rfl,rfl,AOB q1,fun y hy=> ?_,fun y=> ?_⟩
   ·rcases dO.1 hy with rfl|hy
    ·exact e.2.2.2 _ (BR hj)
    ·exact q2 y hy
   ·simp only
    rw[dO,q3 y,FV (d:=0) _ j hj,EV,F6]
    constructor
    ·rintro (a|a|a)
     ·exact .inr (.inr a)
     ·exact .inl a
     ·exact .inr (.inl a)
    ·rintro (a|a|a)
     ·exact .inr (.inl a)
     ·exact .inr (.inr a)
     ·exact .inl a
  ·rintro⟨o,jj⟩ ⟨e1,q1,q2,q3⟩
   simp only at e1 q1 q2 q3
   subst e1
   simp only
   rw[AB (by omega),AD (e:=(k:Int)+1) (by omega) (by omega)]
   rw[SP] at q3
   exact⟨_,rfl,o,rfl,q1,q2,q3⟩
 ·rintro⟨out,n,kk⟩ ⟨e1,h1,h2,h3⟩
  simp only at e1 h1 h2 h3
  subst e1
  simp only
  rw[AB (by omega)]
  rw[SP] at h3
  exact⟨_,rfl,h1,h2,h3⟩
structure X2 (r:Ro):Prop where
 ul:r.1.length=32
 rl:r.2.length=32
 z:∀ i:Nat,i<32->gl false r.1 i=false->gl 0#64 r.2 i=0#64
theorem X2.valid {r:Ro} (h:X2 r):GJ r=some true:=by
 have h1:=h.ul
 have h2:=h.rl
 unfold GJ
 rw[AB (by omega),AB (by omega)]
 refine AK9 r.1.length (fun k hk=> ?_) ?_
 ·rw[AA (by omega),AA (by omega),I3]
  cases hu:gl false r.1 k with
  |true=>rw[AB (by simp),AD (by omega) (by omega)]
  |false=>rw[AA (by simp),AA (by omega),AB (I4 (h.z k (by omega) hu)),AD (by omega) (by omega)]
 ·rw[AB (by omega)]
theorem X2.copy {r:Ro} (h:X2 r):FN r=some r:=by
 have h1:=h.ul
 have h2:=h.rl
 unfold FN
 rw[AA (by simp;omega),AA (by simp;omega),o8,o8]
theorem X2.set {r:Ro} (h:X2 r) (i:Nat) (w:BitVec 64):X2 (r.1.set i true,r.2.set i w):=by
 refine⟨by rw[ER];exact h.ul,by rw[ER];exact h.rl,fun j hj hu=> ?_⟩
 simp only at hu ⊢
 have h1:=h.ul
 have h2:=h.rl
 by_cases hi:i<32
 ·rw[D0 (by omega)] at hu ⊢
  split at hu
  ·cases hu
  ·rename_i hn;rw[AB hn];exact h.z j hj hu
 ·rw[List.set_eq_of_length_le (by omega)] at hu ⊢
  exact h.z j hj hu
theorem X2.clear {r:Ro} (h:X2 r) {i:Nat} (hi:i<32):X2 (r.1.set i false,r.2.set i 0#64):=by
 refine⟨by rw[ER];exact h.ul,by rw[ER];exact h.rl,fun j hj hu=> ?_⟩
 simp only at hu ⊢
 have h1:=h.ul
 have h2:=h.rl
 rw[D0 (by omega)] at hu ⊢
 split
 ·rfl
 ·rename_i hn;rw[AB hn] at hu;exact h.z j hj hu
theorem AOC {r:Ro} (h:X2 r) {x:Int} (x0:1<=x) (x1:x<=32) (hu:gl false r.1 (x-1).toNat=true):JP r x=some ((r.1.set (x-1).toNat false,r.2.set (x-1).toNat 0#64),0):=by
 have h1:=h.ul
 have h2:=h.rl
 unfold JP MS
 rw[h.valid,A9,AB (by simp),AB (by omega),AB (by omega),AD (by omega) (by omega),AA (by omega),AB (by rw[hu];simp),A9,AB (by simp),h.copy,A9,AA (by omega),AA (by omega)]
def xI (u:List Bool):Nat->List Int
 |0=>[]
 |k+1=>xI u k++(if gl false u k=true then [(k:Int)+1] else [])
theorem lR (u:List Bool):∀ k,(xI u k).length<=k
 |0=>ED _
 |k+1=>by
  have:=lR u k
  rw[xI,I5]
  split <;> simp only[HW,U7] <;> omega
theorem qH {u:List Bool} {x:Int}:∀ {k},x∈xI u k↔∃ j:Nat,j<k/\gl false u j=true/\x=(j:Int)+1
 |0=>by simp [xI]
 |k+1=>by
  rw[xI,EV,qH]
  constructor
  ·rintro (⟨j,a,b,c⟩|a)
   ·exact⟨j,by omega,b,c⟩
   ·split at a
    ·rename_i hu
     exact⟨k,by omega,hu,F6.1 a⟩
    ·cases a
  ·rintro⟨j,a,b,c⟩
   by_cases hj:j=k
   ·subst hj;right;rw[AA b,c];exact F6.2 rfl
   ·exact .inl ⟨j,by omega,b,c⟩
theorem nJ {r:Ro} (h:X2 r):FO r=some (xI r.1 32):=by
 have h1:=h.ul
 unfold FO
 refine (AR (fun k (st:List Int×Int)=>st=(xI r.1 k,(k:Int))) (fun b=>b=xI r.1 32) r.1.length ?_ ?_ (s:=([],0)) rfl).elim fun b hb=>by rw[hb.1,hb.2]
 ·rintro k st hk rfl
  have:=lR r.1 k
  left
  simp only[I3]
  rw[AA (by omega),AA (by omega),AD (by omega) (by omega),xI]
  split
  ·rw[AA (by simp only[HW];omega)]
   exact⟨_,rfl,rfl⟩
  ·exact⟨_,rfl,by rw[G5];rfl⟩
 ·rintro st rfl
  simp only
  rw[AB (by omega),h1]
  exact⟨_,rfl,rfl⟩
def ARS (o:Option Int):Int:=o.getD (-1)
def fwd (b:Int):BitVec 64:=BitVec.ofInt 64 (b*2+1)
theorem AI0 {b:Int} (h0:0<=b) (h1:b<=16383):(fwd b).toNat=b.toNat*2+1:=by
 unfold fwd
 rw[qV]
 omega
theorem AG8 {b:Int} (h0:0<=b) (h1:b<=16383):hd (fwd b)=none:=by
 unfold hd
 rw[AA (by rw[AI0 h0 h1];omega)]
def BQ (l:List AH):List Int:=l.map (·.1)
def ATD (C:List Int) (fs:List Fr) (w:BitVec 64):Prop:=∀ j,j<64->w.getLsbD j=decide (j<fs.length/\(fr fs j).1∈C)
def Wn (C:List Int) (s:Sp) (x:BitVec 64):Prop:=x≠0#64/\(x.toNat:Int)<=s.2.1.length/\(fr s.2.2 (((x.toNat:Int)-1) / sz s.1)).1∈C
instance (C:List Int) (s:Sp) (x:BitVec 64):Decidable (Wn C s x):=by unfold Wn;infer_instance
theorem LY {x:BitVec 64} (h:x≠0#64):(x-1#64).toNat=x.toNat-1/\1<=x.toNat:=by
 have h1:x.toNat≠0:=fun he=>h (xY (by rw[he];rfl))
 have o1:(1#64).toNat=1:=rfl
 exact⟨by rw[BitVec.toNat_sub_of_le (by rw[BitVec.le_def,o1];omega),o1],by omega⟩
def cpy (z:Int) (la:List Int) (oa:Int) (lb:List Int) (ob:Int):Nat->List (BitVec 64)->List (BitVec 64)
 |0,ws=>ws
 |k+1,ws=>(cpy z la oa lb ob k ws).set (ARS (DB z lb (ob+k))).toNat (gl 0#64 (cpy z la oa lb ob k ws) (ARS (DB z la (oa+k))).toNat)
theorem X3 {z:Int} {la lb:List Int} {oa ob:Int}:∀ (k:Nat) (ws:List (BitVec 64)),(cpy z la oa lb ob k ws).length=ws.length
 |0,_=>rfl
 |k+1,ws=>by simp only[cpy,ER,X3 k ws]
structure Cy (C:List Int) (s:Sp) (to:AH):Prop where
 vs:VS s
 fit:D5 s to
 own:to.2.2.2.2=0->owned s.2.2 to.1=[]
 out:to.1∉C
 nn:∀ q∈C,0<=q
abbrev hwd (s:Sp) (x:BitVec 64):BitVec 64:=gl 0#64 s.2.1 ((x.toNat:Int)-1).toNat
def dcd (w:BitVec 64):Int×Int×Int×Bool×Int:=
 if w.toNat%2=1 then (if w.toNat / 2≥16384 then (0,0,0,false,12) else (0,0,((w.toNat / 2:Nat):Int),true,0))
 else match hd w with
  |some o=>(o.1,o.2,0,false,0)
  |none=>(0,0,0,false,12)
theorem qI (w:BitVec 64):DQ w=some (dcd w):=by
 have hw:=w.isLt
 have e2:(w%2#64).toNat=w.toNat%2:=by rw[BitVec.toNat_umod];rfl
 have e2' :(w%2#64=1#64)↔w.toNat%2=1:=by
  rw[<-BitVec.toNat_inj,e2];rfl
 have d2:(w / 2#64).toNat=w.toNat / 2:=by rw[q_];rfl
 have AVL:(w / 256#64).toNat=w.toNat / 256:=by rw[q_];rfl
 have AVM:(w%256#64 / 2#64).toNat=w.toNat%256 / 2:=by rw[q_,BitVec.toNat_umod];rfl
 unfold DQ dcd
 rw[AA (by decide)]
 by_cases h1:w.toNat%2=1
 ·rw[AA (e2'.2 h1),AA (by decide),AA h1,d2,show (16384#64).toNat=16384 from rfl]
  split
  ·rfl
  ·rw[AA (by decide),AD (by omega) (by omega)]
 ·rw[AB (fun h=>h1 (e2'.1 h)),AB h1,AA (by decide),AA (by decide),AA (by decide),AVL,AVM,show (48#64).toNat=48 from rfl]
  unfold hd
  rw[AB h1]
  by_cases h2:w.toNat / 256>48
  ·rw[AA h2,AB (by omega)]
  rw[AB h2,AD (e:=((w.toNat%256 / 2:Nat):Int)) (by omega) (by omega),AD (e:=((w.toNat / 256:Nat):Int)) (by omega) (by omega)]
  by_cases h3:((w.toNat%256 / 2:Nat):Int)>15
  ·rw[AA h3,AB (by omega)]
  rw[AB h3,AD (e:=(1:Int)+((w.toNat%256 / 2:Nat):Int)) (by omega) (by omega)]
  by_cases h4:((w.toNat / 256:Nat):Int)<1+((w.toNat%256 / 2:Nat):Int)
  ·rw[AA h4,AB (by omega)]
  rw[AB h4,AD (e:=((w.toNat / 256:Nat):Int)-1) (by omega) (by omega),AD (e:=((w.toNat / 256:Nat):Int)-1-((w.toNat%256 / 2:Nat):Int)) (by omega) (by omega)]
  by_cases h5:((w.toNat / 256:Nat):Int)-1-((w.toNat%256 / 2:Nat):Int)>32
  ·rw[AA h5,AB (by omega)]
  rw[AB h5,AA (by omega)]
  simp only[AY,C3,and_true,true_and]
  omega
theorem tN {w:BitVec 64} {o:Int×Int} (h:hd w=some o):dcd w=(o.1,o.2,0,false,0):=by
 unfold dcd
 rw[AB,h]
 intro h1
 unfold hd at h
 rw[AA h1] at h
 cases h
theorem ART {b:Int} (h0:0<=b) (h1:b<=16383):dcd (fwd b)=(0,0,b,true,0):=by
 unfold dcd
 have:=AI0 h0 h1
 rw[AA (by omega),AB (by omega)]
 simp only[C3,and_true,true_and]
 omega
theorem ADB {b:Int} (h0:0<=b) (h1:b<=16383):EC b=some (fwd b,0):=by
 unfold EC fwd
 rw[AB (by omega),AB (by omega),AD (e:=2*b) (by omega) (by omega),AD (by omega) (by omega),Int.mul_comm]
inductive MvR (C:List Int) (s:Sp) (to:AH) (x:BitVec 64):BitVec 64->Int->Sp->AH->List (Int×Int)->Prop
 |out (h:¬Wn C s x):MvR C s to x x 0 s to []
 |AOD (h:Wn C s x) (h0:(dcd (hwd s x)).2.2.2.2=0) (h1:(dcd (hwd s x)).2.2.2.1=true):MvR C s to x (BitVec.ofInt 64 (dcd (hwd s x)).2.2.1+1#64) 0 s to []
 |bad (h:Wn C s x) (h0:(dcd (hwd s x)).2.2.2.2≠0):MvR C s to x 0#64 12 s to []
 |AOE (h:Wn C s x) {r d:Int} (hh:hd (hwd s x)=some (r,d)) {la:List Int} (hl:Pa s.2.2 (((x.toNat:Int)-1) / sz s.1) la) (ha:DB (sz s.1) la (((x.toNat:Int)-1)%sz s.1+(r+d))=none):MvR C s to x 0#64 12 s to []
 |full (h:Wn C s x) {r d:Int} (hh:hd (hwd s x)=some (r,d)) {la:List Int} (hl:Pa s.2.2 (((x.toNat:Int)-1) / sz s.1) la) {e:Int} (ha:DB (sz s.1) la (((x.toNat:Int)-1)%sz s.1+(r+d))=some e)
   (hf:((DA s.2.2).length:Int)<cl (sz s.1) (to.2.2.2.2+(1+r+d))-cl (sz s.1) to.2.2.2.2):MvR C s to x 0#64 4 s to []
 |xJ (h:Wn C s x) {r d:Int} (hh:hd (hwd s x)=some (r,d)) {la:List Int} (hl:Pa s.2.2 (((x.toNat:Int)-1) / sz s.1) la) {e:Int} (ha:DB (sz s.1) la (((x.toNat:Int)-1)%sz s.1+(r+d))=some e)
   {u:Sp} {t_ :AH} {b:Int} {l l' :List Int} (hg:Grown s to (1+r+d) u t_ b l l'):
   MvR C s to x (BitVec.ofInt 64 b+1#64) 0 (s.1,(cpy (sz s.1) la (((x.toNat:Int)-1)%sz s.1) l' to.2.2.2.2 (1+r+d).toNat s.2.1).set ((x.toNat:Int)-1).toNat (fwd b),u.2.2) t_ [((x.toNat:Int)-1,b)]
theorem P8 {s:Sp} (h:VS s) {l:List Int} {i off a:Int} (hp:Pa s.2.2 i l) (h0:0<=off) (ha:DB (sz s.1) l off=some a):(0<=a/\a<s.2.1.length)/\a / sz s.1∈l:=by
 have z:=CA s.1
 have hm:=U6 z h0 ha
 obtain⟨g0,g1⟩:=hp.mem hm
 have e1:a=a / sz s.1*sz s.1+a%sz s.1:=by rw[Int.mul_comm];exact (Int.mul_ediv_add_emod a (sz s.1)).symm
 have m0:=jL a (show sz s.1≠0 by omega)
 have m1:=nM a z
 have e2:0<=a / sz s.1*sz s.1:=Int.mul_nonneg g0 (by omega)
 have e3:(a / sz s.1+1)*sz s.1<=s.2.2.length*sz s.1:=AAO (by omega) (by omega)
 rw[<-h.w,Int.add_mul] at e3
 exact⟨⟨by omega,by omega⟩,hm⟩
theorem ADC {z:Int} (hz:0<z) {l:List Int} {p q e:Int} (h:DB z l q=some e) (p0:0<=p) (pq:p<=q):∃ y,DB z l p=some y:=by
 have:=zY hz (by omega) h
 obtain⟨g,_,hg⟩:=RI hz (l:=l) (off:=p) p0 (by omega)
 exact⟨_,hg⟩
theorem Grown.AOF {s:Sp} {i:AH} {n:Int} {u:Sp} {j:AH} {b:Int} {l l' :List Int} (hi:0<=i.2.2.2.2) (n0:1<=n) (g:Grown s i n u j b l l'):∀ x∈l',(fr u.2.2 x).1=i.1:=by
 intro x hx
 have h1:=(g.vs.owner g.path x hx).1
 rcases g.fit.2 with ⟨h2,_⟩|⟨_,_,h2,_⟩
 ·rw[g.words] at h2;omega
 ·rw[h1,h2,g.seq]
theorem Grown.AG9 {s:Sp} {i:AH} {n:Int} {u:Sp} {j:AH} {b:Int} {l l' :List Int} (hi:0<=i.2.2.2.2) (n0:1<=n) (g:Grown s i n u j b l l') {k:Int} (k0:0<=k) (kn:k<n):
  ∃ y,DB (sz s.1) l' (i.2.2.2.2+k)=some y:=by
 have z:=CA s.1
 have hc:=P7 (n:=i.2.2.2.2+n) z
 rw[<-g.AV4] at hc
 obtain⟨g',_,hg⟩:=RI z (l:=l') (off:=i.2.2.2.2+k) (by omega) (by omega)
 exact⟨_,hg⟩
theorem Grown.AOG {s:Sp} {i:AH} {n:Int} {u:Sp} {j:AH} {b:Int} {l l' :List Int} (h:VS s) (g:Grown s i n u j b l l') {f:Int} {la:List Int} (hl:Pa s.2.2 f la) (h0:0<=(fr s.2.2 f).1) (h1:(fr s.2.2 f).1≠i.1):
  Pa u.2.2 f la/\∀ x∈la,fr u.2.2 x=fr s.2.2 x:=by
 have hx:∀ x∈la,fr u.2.2 x=fr s.2.2 x:=by
  intro x hx
  obtain⟨x0,x1⟩:=hl.mem hx
  have:=(h.owner hl x hx).1
  exact g.frs x x0 x1 (by omega) (by omega)
 refine⟨hl.iY g.len fun x hm=> ?_,hx⟩
 obtain⟨x0,x1⟩:=hl.mem hm
 rw[HL x0 (by rw[g.len];exact x1),HL x0 x1,hx x hm]
theorem MvR.cy {C:List Int} {s:Sp} {to:AH} (hc:Cy C s to) {x v:BitVec 64} {e:Int} {t:Sp} {t_ :AH} {mm:List (Int×Int)} (h:MvR C s to x v e t t_ mm):
  Cy C t t_ /\(∀ m,ATD C s.2.2 m->ATD C t.2.2 m)/\t.1=s.1/\t.2.1.length=s.2.1.length/\t.2.2.length=s.2.2.length/\t_.1=to.1/\mm.length<=1/\(∀ k:Int,0<=k->k<s.2.2.length->((fr t.2.2 k).1∈C↔(fr s.2.2 k).1∈C)):=by
 cases h with
 |out|AOD|bad|AOE|full=>exact⟨hc,fun _ h=>h,rfl,rfl,rfl,rfl,by simp,fun _ _ _=>Iff.rfl⟩
 | @xJ hw r d hh la hl e' ha u _ b l l' g=>
  have z:=CA s.1
  have hto:=hc.fit.1
  obtain⟨x0,x1,x2⟩:=id hw
  have e2:=(LY x0).2
  obtain⟨⟨r0,r1⟩,d0,d1⟩:=X0 hh
  simp only at r0 r1 d0 d1
  generalize hA:(x.toNat:Int)-1=A at*
  have hq:=hc.nn _ x2
  have CJ:(fr s.2.2 (A / sz s.1)).1≠to.1:=fun he=>hc.out (he ▸ x2)
  obtain⟨pu,pfr⟩:=g.AOG hc.vs hl hq CJ
  have ND:=g.AOF hto.2.2.2.2.1 (by omega)
  have hvu:VS (s.1,s.2.1,u.2.2):=by have:=g.vs;rw[<-g.sh,←g.ws];exact this
  have NL:∀ k:Int,0<=k->k<s.2.2.length->((fr u.2.2 k).1∈C↔(fr s.2.2 k).1∈C):=by
   intro k k0 k1
   constructor
   ·intro hk
    have h1:(fr u.2.2 k).1≠to.1:=fun he=>hc.out (he ▸ hk)
    have h2:=hc.nn _ hk
    have h3:k∈owned u.2.2 (fr u.2.2 k).1:=B0.2 ⟨⟨k0,by rw[g.len];exact k1⟩,rfl⟩
    rw[g.oth _ h1 (by omega)] at h3
    rw[(B0.1 h3).2];exact hk
   ·intro hk
    have h1:(fr s.2.2 k).1≠to.1:=fun he=>hc.out (he ▸ hk)
    have h2:=hc.nn _ hk
    rw[g.frs k k0 k1 (by omega) h1];exact hk
  have hvc:∀ k:Nat,(k:Int)<=1+r+d->VS (s.1,cpy (sz s.1) la (A%sz s.1) l' to.2.2.2.2 k s.2.1,u.2.2):=by
   intro k
   induction k with
   |zero=>intro _;exact hvu
   |succ k ih=>
    intro hk
    have h4:=ih (by omega)
    obtain⟨p,hp⟩:=g.AG9 hto.2.2.2.2.1 (by omega) (k:=(k:Int)) (by omega) (by omega)
    obtain⟨⟨p0,p1⟩,p2⟩:=P8 h4 g.path (by omega) hp
    simp only at p2
    simp only[cpy]
    rw[hp]
    exact h4.word p0 (by simp only;rw[ND _ p2];omega) _
  have hv1:=hvc (1+r+d).toNat (by omega)
  have hAm:A / sz s.1∈la:=by
   cases la with
   |nil=>rw[Pa] at hl;have:=GM hc.vs (a:=A) (by omega) (by omega);omega
   |cons f r' =>obtain⟨hf,_⟩:=hl;rw[hf];simp
  have hv2:=hv1.word (x:=A) (by omega) (by simp only;rw[pfr _ hAm];omega) (fwd b)
  simp only at hv2
  refine⟨⟨hv2, ?_, ?_,by rw[g.seq];exact hc.out,hc.nn⟩, ?_,rfl, ?_,g.len,g.seq,by simp,NL⟩
  ·have:=D5.words (s:=u) (ws:=(cpy (sz s.1) la (A%sz s.1) l' to.2.2.2.2 (1+r+d).toNat s.2.1).set A.toNat (fwd b)) (by rw[ER,X3,g.ws]) g.fit
   rw[g.sh] at this
   exact this
  ·intro h0
   rw[g.words] at h0;omega
  ·intro m hm j hj
   rw[hm j hj,o7]
   simp only[g.len]
   constructor
   ·rintro⟨h1,h2⟩;exact⟨h1,(NL j (by omega) (by omega)).2 h2⟩
   ·rintro⟨h1,h2⟩;exact⟨h1,(NL j (by omega) (by omega)).1 h2⟩
  ·simp only[ER,X3]
theorem ADD {α:Type} {d x:α} {xs:List α} {j k:Nat} (h:k≠j):gl d (xs.set j x) k=gl d xs k:=by
 by_cases hj:j<xs.length
 ·rw[D0 hj,AB h]
 ·rw[List.set_eq_of_length_le (by omega)]
theorem nK {z:Int} {la:List Int} {oa:Int} {lb:List Int} {ob j:Int} (j0:0<=j):∀ {k:Nat} {ws:List (BitVec 64)},(∀ i:Nat,i<k->∃ y,DB z lb (ob+i)=some y/\0<=y/\y≠j)->gl 0#64 (cpy z la oa lb ob k ws) j.toNat=gl 0#64 ws j.toNat
 |0,_,_=>rfl
 |k+1,ws,h=>by
  obtain⟨y,h1,h2,h3⟩:=h k (by omega)
  simp only[cpy]
  rw[h1,ADD (by show j.toNat≠y.toNat;omega),nK j0 fun i hi=>h i (by omega)]
theorem AOH {z:Int} (hz:0<z) {la:List Int} {oa:Int} {lb:List Int} {ob:Int} (H8:lb.Nodup) (ob0:0<=ob):∀ {k:Nat} {ws:List (BitVec 64)},(∀ i:Nat,i<k->∃ y x,DB z lb (ob+i)=some y/\(0<=y/\y<ws.length)/\DB z la (oa+i)=some x/\0<=x/\∀ i' :Nat,i' <k->DB z lb (ob+i')≠some x)→
  ∀ i:Nat,i<k->∀ y x,DB z lb (ob+i)=some y->DB z la (oa+i)=some x->gl 0#64 (cpy z la oa lb ob k ws) y.toNat=gl 0#64 ws x.toNat
 |0,_,_,i,hi,_,_,_,_=>by omega
 |k+1,ws,h,i,hi,y,x,hy,hx=>by
  obtain⟨y',x',h1,⟨h2,h3⟩,h4,h5,h6⟩:=h k (by omega)
  simp only[cpy]
  rw[h1,h4,show ARS (some y')=y' from rfl,show ARS (some x')=x' from rfl]
  by_cases c_:i=k
  ·subst c_
   rw[h1] at hy;rw[h4] at hx
   obtain rfl:=VM hy
   obtain rfl:=VM hx
   rw[D0 (by rw[X3];omega),AA rfl]
   refine nK h5 fun i' J_ => ?_
   obtain⟨y2,x2,g1,⟨g2,g3⟩,g4,g5,g6⟩:=h i' (by omega)
   exact⟨y2,g1,g2,fun he=>h6 i' (by omega) (he ▸ g1)⟩
  ·obtain⟨y2,x2,g1,⟨g2,g3⟩,g4,g5,g6⟩:=h i hi
   rw[hy] at g1
   obtain rfl:=VM g1
   have CJ:y≠y' :=by
    intro he
    subst he
    have:=JW hz H8 (by omega) (by omega) hy h1
    omega
   rw[ADD (by omega)]
   refine AOH hz H8 ob0 (fun i' J_ => ?_) i (by omega) y x hy hx
   obtain⟨y3,x3,k1,k2,k3,k4,k5⟩:=h i' (by omega)
   exact⟨y3,x3,k1,k2,k3,k4,fun i'' A1L =>k5 i'' (by omega)⟩
theorem ADE {C:List Int} {s:Sp} {to:AH} (hc:Cy C s to) {x:BitVec 64} (hw:Wn C s x) {r d:Int} (hh:hd (hwd s x)=some (r,d)) {la:List Int} (hl:Pa s.2.2 (((x.toNat:Int)-1) / sz s.1) la) {e:Int} (ha:DB (sz s.1) la (((x.toNat:Int)-1)%sz s.1+(r+d))=some e)
  {u:Sp} {t_ :AH} {b:Int} {l l' :List Int} (hg:Grown s to (1+r+d) u t_ b l l') {ws:List (BitVec 64)} (hws:ws=(cpy (sz s.1) la (((x.toNat:Int)-1)%sz s.1) l' to.2.2.2.2 (1+r+d).toNat s.2.1).set ((x.toNat:Int)-1).toNat (fwd b)):
  (∀ j:Int,0<=j->j≠(x.toNat:Int)-1->(∀ i,0<=i->i<1+r+d->DB (sz s.1) l' (to.2.2.2.2+i)≠some j)->gl 0#64 ws j.toNat=gl 0#64 s.2.1 j.toNat)∧
  (∀ i,0<=i->i<1+r+d->∀ y q,DB (sz s.1) l' (to.2.2.2.2+i)=some y->DB (sz s.1) la (((x.toNat:Int)-1)%sz s.1+i)=some q->gl 0#64 ws y.toNat=gl 0#64 s.2.1 q.toNat)∧
  gl 0#64 ws ((x.toNat:Int)-1).toNat=fwd b∧
  (∀ y i,DB (sz s.1) l' i=some y->0<=i->(fr s.2.2 (y / sz s.1)).1∉C):=by
 have z:=CA s.1
 have hto:=hc.fit.1
 obtain⟨x0,x1,x2⟩:=id hw
 have e2:=(LY x0).2
 obtain⟨⟨r0,r1⟩,d0,d1⟩:=X0 hh
 simp only at r0 r1 d0 d1
 generalize hA:(x.toNat:Int)-1=A at*
 have hq:=hc.nn _ x2
 have CJ:(fr s.2.2 (A / sz s.1)).1≠to.1:=fun he=>hc.out (he ▸ x2)
 obtain⟨pu,pfr⟩:=hg.AOG hc.vs hl hq CJ
 have ND:=hg.AOF hto.2.2.2.2.1 (by omega)
 have hvu:VS (s.1,s.2.1,u.2.2):=by have:=hg.vs;rw[<-hg.sh,←hg.ws];exact this
 have m0:=jL A (show sz s.1≠0 by omega)
 have ALS:∀ y i,DB (sz s.1) l' i=some y->0<=i->(fr s.2.2 (y / sz s.1)).1∉C:=by
  intro y i hy i0 hC
  obtain⟨_,hm⟩:=P8 hvu hg.path i0 hy
  simp only at hm
  have h1:=ND _ hm
  obtain⟨f0,f1⟩:=hg.path.mem hm
  rw[hg.len] at f1
  have h3:=hc.nn _ hC
  by_cases h4:(fr s.2.2 (y / sz s.1)).1=to.1
  ·exact hc.out (h4 ▸ hC)
  ·have:=hg.frs _ f0 f1 (by omega) h4
   rw[this] at h1;exact h4 h1
 have hla:∀ q i,DB (sz s.1) la i=some q->0<=i->(fr s.2.2 (q / sz s.1)).1∈C/\0<=q:=by
  intro q i hy i0
  obtain⟨hr,hm⟩:=P8 hc.vs hl i0 hy
  rw[(hc.vs.owner hl _ hm).1];exact⟨x2,hr.1⟩
 have AOI:∀ i:Nat,(i:Int)<1+r+d->∃ y,DB (sz s.1) l' (to.2.2.2.2+i)=some y/\0<=y/\y<s.2.1.length:=by
  intro i hi
  obtain⟨y,hy⟩:=hg.AG9 hto.2.2.2.2.1 (by omega) (k:=(i:Int)) (by omega) hi
  obtain⟨⟨y0,y1⟩,_⟩:=P8 hvu hg.path (by omega) hy
  exact⟨y,hy,y0,y1⟩
 have H8:=hg.path.nodup
 have hAC:∀ i,0<=i->DB (sz s.1) l' i≠some A:=fun i i0 hi=>ALS _ _ hi i0 x2
 subst hws
 refine⟨fun j j0 j1 j2=> ?_,fun i i0 i1 y q hy O5 => ?_, ?_,ALS⟩
 ·rw[ADD (by omega)]
  refine nK j0 fun i hi=> ?_
  obtain⟨y,g1,g2,g3⟩:=AOI i (by omega)
  exact⟨y,g1,g2,fun he=>j2 i (by omega) (by omega) (he ▸ g1)⟩
 ·have hyA:y≠A:=fun he=>hAC _ (by omega) (he ▸ hy)
  obtain⟨⟨y0,y1⟩,_⟩:=P8 hvu hg.path (by omega) hy
  rw[ADD (by omega)]
  have hi:((i.toNat:Nat):Int)=i:=by omega
  refine AOH z H8 hto.2.2.2.2.1 (fun i' J_ => ?_) i.toNat (by omega) y q (by rw[hi];exact hy) (by rw[hi];exact O5)
  obtain⟨y',g1,g2,g3⟩:=AOI i' (by omega)
  obtain⟨q',k1⟩:=ADC z ha (p:=A%sz s.1+i') (by omega) (by omega)
  obtain⟨k2,k3⟩:=hla _ _ k1 (by omega)
  exact⟨y',q',g1,⟨g2,g3⟩,k1,k3,fun i'' _ he=>ALS _ _ he (by omega) k2⟩
 ·rw[D0 (by rw[X3];omega),AA rfl]
theorem jA {s:Sp} (h:VS s) {l:List AH} (hl:l.length<=1000000) (x:BitVec 64):C6 s l x=some (decide (Wn (BQ l) s x)):=by
 have oB:=VS.O2 h
 have hn:=h.n.2
 have z:=CA s.1
 unfold C6
 by_cases hx:x=0#64
 ·rw[AA hx,MV (fun hh:Wn (BQ l) s x=>hh.1 hx)]
 obtain⟨e1,e2⟩:=LY hx
 have e3:(BitVec.ofInt 64 ((s.2.1.length:Nat):Int)).toNat=s.2.1.length:=by
  rw[qV];omega
 rw[AB hx,e3,e1]
 by_cases vT :x.toNat>s.2.1.length
 ·rw[AA vT,MV (fun hh:Wn (BQ l) s x=>by have:=hh.2.1;omega)]
 obtain⟨f0,f1⟩:=GM h (a:=(x.toNat:Int)-1) (by omega) (by omega)
 have e4:((x.toNat-1:Nat):Int)=(x.toNat:Int)-1:=by omega
 rw[AB vT,AA trivial,e4,AD (e:=(x.toNat:Int)-1) (by omega) (by omega),OF h.sh,AA ⟨f0,f1⟩]
 have hf:(gl ((0,0,0):Fr) s.2.2 (((x.toNat:Int)-1) / sz s.1).toNat)=fr s.2.2 (((x.toNat:Int)-1) / sz s.1):=rfl
 rw[hf]
 have hwn:Wn (BQ l) s x↔(fr s.2.2 (((x.toNat:Int)-1) / sz s.1)).1∈BQ l:=⟨fun hh=>hh.2.2,fun hh=>⟨hx,by omega,hh⟩⟩
 have AM7:∀ k,k<l.length->gl 0 (BQ l) k=(gl ((0,0,0,0,0):AH) l k).1:=by
  intro k hk
  rw[DZ (by unfold BQ;rw[WW];exact hk),DZ hk]
  unfold BQ
  rw[qX]
 have O4:(BQ l).length=l.length:=by unfold BQ;rw[WW]
 generalize (fr s.2.2 (((x.toNat:Int)-1) / sz s.1)).1=q at*
 obtain⟨h1,h2⟩:=nG (β:=Bool) (ys:=BQ l) (v:=q) (bad:=true) (r:=false) (f:=fun s1=>
  if s1<(l.length:Int) then
  if 0<=s1/\s1<(l.length:Int) then
  if q=((gl ((0,0,0,0,0):AH) l s1.toNat).1) then
  some (Sum.inr (true))
  else some (Sum.inl (AG (s1+1)))
  else none
  else some (Sum.inr (false))) (fun k hk=>by
   simp only[I3]
   rw[AA (by omega),AA (by omega),AD (by omega) (by omega),AM7 k (by omega)]
   by_cases he:q=(gl ((0,0,0,0,0):AH) l k).1
   ·rw[AA he,AA he.symm]
   ·rw[AB he,AB (fun h=>he h.symm)]) (fun _=>by
   rw[AB (by omega)])
 by_cases hq:q∈BQ l
 ·rw[HX (hwn.2 hq)];exact h1 hq
 ·rw[MV (fun hh=>hq (hwn.1 hh))];exact h2 hq
abbrev Wk:Type:=Sp×List AH×AH×List (Int×Int)×Int
theorem xK {w:Wk} (h:w.2.2.2.2≠0) (x:BitVec 64):B7 w x=some (x,w):=by
 unfold B7
 rw[AA h]
theorem ADF {l:List AH} (hll:l.length<=1000000) {s:Sp} {to:AH} (hc:Cy (BQ l) s to) {mv:List (Int×Int)} (hmv:mv.length<=1000000) (x:BitVec 64):
  ∃ v v' e t t_ mm,MvR (BQ l) s to x v e t t_ mm/\B7 ((s,l,to,mv,0):Wk) x=some (v',((t,l,t_,mv++mm,e):Wk))/\(e=0->v' =v):=by
 have oB:=VS.O2 hc.vs
 have hn:=hc.vs.n.2
 have z:=CA s.1
 obtain⟨z1,z2⟩:=LF hc.vs.sh
 have hto:=hc.fit.1
 unfold B7
 rw[AB (by simp)]
 simp only
 rw[jA hc.vs hll,A9]
 by_cases hw:Wn (BQ l) s x
 rotate_left
 ·rw[MV hw,AA (show (!false)=true from rfl)]
  exact⟨x,x,0,s,to,[],.out hw,by rw[G5],fun _=>rfl⟩
 rw[HX hw]
 obtain⟨x0,x1,x2⟩:=id hw
 obtain⟨e1,e2⟩:=LY x0
 have e4:((x.toNat-1:Nat):Int)=(x.toNat:Int)-1:=by omega
 rw[AB (show ¬(!true)=true by decide),e1,e4,AD (e:=(x.toNat:Int)-1) (by omega) (by omega)]
 generalize hA:(x.toNat:Int)-1=A at x2
 have A0:0<=A:=by omega
 have A1:A<s.2.1.length:=by omega
 rw[AA ⟨A0,A1⟩]
 have hA' :hwd s x=gl 0#64 s.2.1 A.toNat:=by rw[<-hA]
 rw[qI,A9]
 obtain⟨f0,f1⟩:=GM hc.vs A0 A1
 obtain⟨la,hl⟩:=hc.vs.acy (A / sz s.1) f0 f1
 have m0:=jL A (show sz s.1≠0 by omega)
 have hq:=hc.nn _ x2
 have AI1:=gH hc.vs A0 A1 (by omega) (k:=0) (by omega) (by omega) hl
 rw[ZV] at AI1
 have A0S:∃ y,DB (sz s.1) la (A%sz s.1)=some y:=by
  cases la with
  |nil=>rw[Pa] at hl;omega
  |cons f r' =>exact⟨_,by rw[DB,AA (nM A z)]⟩
 obtain⟨y0,hy0⟩:=A0S
 rw[hy0] at AI1
 have hLk:∀ o:Int×Int,hd (gl 0#64 s.2.1 A.toNat)=some o->BK s A=some (match DB (sz s.1) la (A%sz s.1+(o.1+o.2)) with|none=>(0,0,2)|some _=>(o.1,o.2,0)):=by
  intro o ho
  obtain⟨⟨r0,r1⟩,d0,d1⟩:=X0 ho
  unfold BK
  rw[AI1,A9,AB (by simp [ZO]),AA ⟨A0,A1⟩,qI,A9,tN ho,AB (by simp),AB (by simp),AD (by simp only;omega) (by simp only;omega),gH hc.vs A0 A1 (by omega) (k:=o.1+o.2) (by omega) (by omega) hl,A9]
  cases DB (sz s.1) la (A%sz s.1+(o.1+o.2)) with
  |none=>rw[AA (by simp [ZO])]
  |some y=>rw[AB (by simp [ZO])]
 cases hh:hd (gl 0#64 s.2.1 A.toNat) with
 |none=>
  have nH:dcd (gl 0#64 s.2.1 A.toNat)=(0,0,0,false,12)\/∃ b,dcd (gl 0#64 s.2.1 A.toNat)=(0,0,b,true,0):=by
   unfold dcd
   rw[hh]
   split
   ·split
    ·exact .inl rfl
    ·exact .inr ⟨_,rfl⟩
   ·exact .inl rfl
  rcases nH with hb|⟨b,hb⟩
  ·rw[hb,AB (by simp)]
   have:BK s A=some (0,0,12):=by
    unfold BK
    rw[AI1,A9,AB (by simp [ZO]),AA ⟨A0,A1⟩,qI,A9,hb,AA (by simp)]
   rw[this,A9,AA (by simp)]
   exact⟨0#64,x,12,s,to,[],.bad hw (by rw[hA',hb];simp),by rw[G5],fun h=>by cases h⟩
  ·rw[hb,AA rfl,AA rfl]
   have RZ :0<=b/\b<=16383:=by
    unfold dcd at hb
    rw[hh] at hb
    split at hb
    ·split at hb
     ·simp at hb
     ·simp only[C3,and_true,true_and] at hb
      omega
    ·simp at hb
   refine⟨_,_,0,s,to,[],.AOD hw (by rw[hA',hb]) (by rw[hA',hb]),by rw[G5],fun _=> ?_⟩
   rw[hA',hb]
   simp only
   rw[AD (by omega) (by omega)]
   exact BitVec.ofInt_add b 1
 |some o=>
  obtain⟨r,d⟩:=o
  obtain⟨⟨r0,r1⟩,d0,d1⟩:=X0 hh
  simp only at r0 r1 d0 d1
  rw[tN hh,AA rfl,AB (by simp),hLk _ hh]
  simp only
  cases had:DB (sz s.1) la (A%sz s.1+(r+d)) with
  |none=>
   simp only
   rw[A9,AA (by simp)]
   exact⟨0#64,x,12,s,to,[],.AOE hw (by rw[hA'];exact hh) (by rw[hA];exact hl) (by rw[hA];exact had),by rw[G5],fun h=>by cases h⟩
  |some e=>
   simp only
   rw[A9,AB (by simp)]
   simp only
   rw[AD (e:=1+r) (by omega) (by omega),AD (e:=1+r+d) (by omega) (by omega),AD (e:=r+d) (by omega) (by omega)]
   rcases z6 hc.vs hc.fit hc.own (n:=1+r+d) (by omega) (by omega) with ⟨g1,g2⟩|⟨g1,u,t_,b,l1,l',g2,g⟩
   ·rw[g2,A9,AA (by simp)]
    exact⟨0#64,x,4,s,to,[],.full hw (by rw[hA'];exact hh) (by rw[hA];exact hl) (by rw[hA];exact had) g1,by rw[G5],fun h=>by cases h⟩
   ·rw[g2,A9,AB (by simp)]
    simp only[g.ws]
    obtain⟨pu,pfr⟩:=g.AOG hc.vs hl hq (fun he=>hc.out (he ▸ x2))
    have ND:=g.AOF hto.2.2.2.2.1 (by omega)
    have tW:=g.sh
    have hb:=P8 (s:=u) g.vs g.path hto.2.2.2.2.1 (by rw[tW];exact g.IP)
    rw[g.ws] at hb
    have hAm:A / sz s.1∈la:=by
     cases la with
     |nil=>rw[Pa] at hl;omega
     |cons f r' =>obtain⟨hf,_⟩:=hl;rw[hf];simp
    have hvu:VS (s.1,s.2.1,u.2.2):=by have:=g.vs;rw[<-tW,←g.ws];exact this
    have uK:(fr u.2.2 (b / sz s.1)).1=to.1:=ND _ (by rw[<-tW];exact hb.2)
    have hbz:b%sz s.1+0=b%sz s.1:=ZV _
    obtain⟨lb,q1,_,q2⟩:=OZ z g.path hto.2.2.2.2.1 g.IP (S9 0)
    have key:∃ bb,AM (σ:=Int×List (BitVec 64)) (β:=BitVec 64×Wk) (fun s1=>
      if s1.1<=r+d then
      Option.bind (A5 (s.1,s1.2,u.2.2) A s1.1) (fun r5=>
      Option.bind (A5 (s.1,s1.2,u.2.2) b s1.1) (fun r6=>
      if 0<=r5.1/\r5.1<(s1.2.length:Int) then
      if 0<=r6.1/\r6.1<(s1.2.length:Int) then
      some (Sum.inl ((AG (s1.1+1),s1.2.set r6.1.toNat (gl (0#64:(BitVec 64)) s1.2 r5.1.toNat))))
      else none
      else none))
      else Option.map Sum.inr (Option.bind (EC b) (fun r7=>
      if 0<=A/\A<(s1.2.length:Int) then
      if (mv.length+([(A,b)]:List (Int×Int)).length)*16<=140737488355328 then
      some ((BitVec.ofInt 64 (AG (b+1)),((s.1,s1.2.set A.toNat r7.1,u.2.2),l,t_,mv++([(A,b)]:List (Int×Int)),(0:Int))))
      else none
      else none))) ((0,s.2.1))=some bb/\bb=(BitVec.ofInt 64 b+1#64,(((s.1,(cpy (sz s.1) la (A%sz s.1) l' to.2.2.2.2 (1+r+d).toNat s.2.1).set A.toNat (fwd b),u.2.2),l,t_,mv++ [(A,b)],0):Wk)):=by
     refine AR (fun k (st:Int×List (BitVec 64))=>st.1=(k:Int)/\(k:Int)<=1+r+d/\st.2=cpy (sz s.1) la (A%sz s.1) l' to.2.2.2.2 k s.2.1/\VS (s.1,st.2,u.2.2)) _ (1+r+d).toNat ?_ ?_ ⟨rfl,by omega,rfl,hvu⟩
     ·rintro k ⟨i,ws⟩ hk ⟨h1,h2,h3,h4⟩
      simp only at h1 h3 h4 ⊢
      subst h1
      have hlen:ws.length=s.2.1.length:=by rw[h3,X3]
      obtain⟨p,hp⟩:=g.AG9 hto.2.2.2.2.1 (by omega) (k:=(k:Int)) (by omega) (by omega)
      obtain⟨q,O5⟩:=ADC z had (p:=A%sz s.1+k) (by omega) (by omega)
      obtain⟨⟨p0,p1⟩,p2⟩:=P8 h4 g.path (by omega) hp
      obtain⟨⟨q0,q1'⟩,q2'⟩:=P8 h4 pu (by omega) O5
      simp only at p1 q1' p2
      have go1:=gH h4 (a:=A) (k:=(k:Int)) A0 (by simp only;omega) (by simp only;rw[pfr _ hAm];omega) (by omega) (by omega) pu
      simp only at go1
      rw[O5,show ZO (some q)=(q,0) from rfl] at go1
      obtain⟨lk,r1',_,r2'⟩:=OZ z g.path hto.2.2.2.2.1 g.IP (k:=(k:Int)) (by omega)
      have go2:=gH h4 (a:=b) (k:=(k:Int)) hb.1.1 (by simp only;omega) (by simp only;rw[uK];omega) (by omega) (by omega) r1'
      simp only at go2
      rw[r2',hp,show ZO (some p)=(p,0) from rfl] at go2
      rw[AA (by omega),go1,A9,go2,A9]
      simp only
      rw[AA (show 0<=q/\q<(ws.length:Int) from ⟨q0,q1'⟩),AA (show 0<=p/\p<(ws.length:Int) from ⟨p0,p1⟩),AD (e:=(k:Int)+1) (by omega) (by omega)]
      refine .inl ⟨_,rfl,by simp only;omega,by omega, ?_, ?_⟩
      ·simp only[cpy]
       rw[hp,O5,←h3];rfl
      ·exact h4.word p0 (by simp only;rw[ND _ p2];omega) _
     ·rintro⟨i,ws⟩ ⟨h1,h2,h3,h4⟩
      simp only at h1 h3 h4 ⊢
      have hlen:ws.length=s.2.1.length:=by rw[h3,X3]
      rw[AB (by omega),ADB hb.1.1 (by omega),A9,AA ⟨A0,by omega⟩,AA (by simp only[HW];omega)]
      refine⟨_,rfl, ?_⟩
      rw[h3,AD (e:=b+1) (by omega) (by omega)]
      congr 1
      exact BitVec.ofInt_add b 1
    obtain⟨bb,k1,rfl⟩:=key
    refine⟨_,_,0,_,_,_,.xJ hw (by rw[hA'];exact hh) (by rw[hA];exact hl) (by rw[hA];exact had) g, ?_,fun _=>rfl⟩
    rw[hA]
    exact k1
def TA:Int->List (Int×Int)->Int->Int×Int->Prop
 |_,[],_,_=>False
 |a,o::r,p,x=>(p=a/\x=o)\/TA (a+(1+o.1+o.2)) r p x
theorem DM.ta {z:Int} {ws:List (BitVec 64)} {l:List Int} {W:Int}:∀ {os:List (Int×Int)} {a p:Int} {x:Int×Int},DM z ws l a os W->TA a os p x→
  ((0<=x.1/\x.1<=15)/\(0<=x.2/\x.2<=32))/\(∃ y,DB z l p=some y/\gl 0#64 ws y.toNat=dH x.1 x.2)/\a<=p/\p+(1+x.1+x.2)<=W
 | [],_,_,_,_,h=>h.elim
 |o::r,a,p,x,h,hx=>by
  obtain⟨h1,h2,h3⟩:=h
  rcases hx with ⟨rfl,rfl⟩|hx
  ·exact⟨h1,h2,S9 _,h3.le⟩
  ·obtain⟨i1,i2,i3,i4⟩:=h3.ta hx
   exact⟨i1,i2,by omega,i4⟩
theorem DM.apart {z:Int} {ws:List (BitVec 64)} {l:List Int} {W:Int}:∀ {os:List (Int×Int)} {a p p' :Int} {x x' :Int×Int},DM z ws l a os W->TA a os p x->TA a os p' x' →
  (p=p' /\x=x')\/p+(1+x.1+x.2)<=p' \/p' +(1+x'.1+x'.2)<=p
 | [],_,_,_,_,_,_,h,_=>h.elim
 |o::r,a,p,p',x,x',h,hx,hx' =>by
  obtain⟨h1,h2,h3⟩:=h
  rcases hx with ⟨rfl,rfl⟩|hx <;> rcases hx' with ⟨rfl,rfl⟩|hx'
  ·exact .inl ⟨rfl,rfl⟩
  ·exact .inr (.inl (h3.ta hx').2.2.1)
  ·exact .inr (.inr (h3.ta hx).2.2.1)
  ·exact h3.apart hx hx'
theorem DM.fn {z:Int} {ws:List (BitVec 64)} {l:List Int} {W:Int}:∀ {os oU :List (Int×Int)} {a:Int},DM z ws l a os W->DM z ws l a oU W->os=oU
 | [],[],_,_,_=>rfl
 | [],o::r,a,h,h' =>by
  obtain⟨h1,_,h3⟩:=h'
  have:=h3.le
  rw[DM] at h;omega
 |o::r,[],a,h',h=>by
  obtain⟨h1,_,h3⟩:=h'
  have:=h3.le
  rw[DM] at h;omega
 |o::r,o' ::r',a,h,h' =>by
  obtain⟨⟨⟨a0,a1⟩,b0,b1⟩,⟨y,h2,h3⟩,h4⟩:=h
  obtain⟨⟨⟨a0',a1'⟩,b0',b1'⟩,⟨y',h2',h3'⟩,h4'⟩:=h'
  rw[h2] at h2'
  obtain rfl:=VM h2'
  rw[h3] at h3'
  have e1:=AA9 a0 a1 b0 b1
  rw[h3',AA9 a0' a1' b0' b1'] at e1
  have e2:o' =o:=VM e1
  subst e2
  rw[h4.fn h4']
theorem TA.snoc {z:Int} {ws:List (BitVec 64)} {l:List Int} {W:Int} {x y:Int×Int} {p:Int}:∀ {os:List (Int×Int)} {a:Int},DM z ws l a os W->(TA a (os++ [x]) p y↔TA a os p y\/(p=W/\y=x))
 | [],a,h=>by
  rw[DM] at h;subst h
  simp [TA]
 |o::r,a,h=>by
  rw[nQ]
  simp only[TA]
  rw[TA.snoc h.2.2]
  constructor
  ·rintro (h|h|h)
   ·exact .inl (.inl h)
   ·exact .inl (.inr h)
   ·exact .inr h
  ·rintro ((h|h)|h)
   ·exact .inl h
   ·exact .inr (.inl h)
   ·exact .inr (.inr h)
structure OB (s:Sp) (i:AH) (l:List Int) (os:List (Int×Int)) (p a:Int) (x:Int×Int):Prop where
 has:Has s i l
 RK:DM (sz s.1) s.2.1 l 0 os i.2.2.2.2
 ta:TA 0 os p x
 IP:DB (sz s.1) l p=some a
def Obj (s:Sp) (i:AH) (p a:Int) (x:Int×Int):Prop:=∃ l os,OB s i l os p a x
theorem DD {s:Sp} (h:VS s) {i:AH} (hf:D5 s i) {l:List Int} (hl:Has s i l) {p y:Int} (p0:0<=p) (hy:DB (sz s.1) l p=some y):
  (0<=y/\y<s.2.1.length)/\y / sz s.1∈l/\(0<=y / sz s.1/\y / sz s.1<s.2.2.length)/\(fr s.2.2 (y / sz s.1)).1=i.1/\(fr s.2.2 (y / sz s.1)).2.1=i.2.1*4294967296+i.1:=by
 rcases hl with ⟨_,rfl⟩|⟨hw,hp⟩
 ·cases hy
 ·obtain⟨h1,h2⟩:=P8 h hp p0 hy
  have h3:=h.owner hp _ h2
  rcases hf.2 with ⟨hw',_⟩|⟨_,_,f1,f2,_⟩
  ·exact absurd hw' hw
  ·exact⟨h1,h2,hp.mem h2,by rw[h3.1,f1],by rw[h3.2,f2]⟩
theorem AGA {s:Sp} (h:VS s) {i:AH} (hf:D5 s i) {l:List Int} (hl:Has s i l) {p:Int} (p0:0<=p) (p1:p<i.2.2.2.2):∃ y,DB (sz s.1) l p=some y:=by
 have z:=CA s.1
 obtain⟨l',h1,h2,_⟩:=hf.has h
 obtain rfl:=RX hl h1
 have hc:=P7 (n:=i.2.2.2.2) z
 rw[<-h2] at hc
 obtain⟨g,_,hg⟩:=RI z (l:=l) (off:=p) p0 (by omega)
 exact⟨_,hg⟩
theorem cL {s:Sp} {i:AH} {l:List Int} (hl:Has s i l):l.Nodup:=by
 rcases hl with ⟨_,rfl⟩|⟨_,hp⟩
 ·exact dR
 ·exact hp.nodup
theorem OB.HJ {s:Sp} {i:AH} {l:List Int} {os:List (Int×Int)} {p a:Int} {x:Int×Int} (h:OB s i l os p a x):
  ((0<=x.1/\x.1<=15)/\(0<=x.2/\x.2<=32))/\gl 0#64 s.2.1 a.toNat=dH x.1 x.2/\0<=p/\p+(1+x.1+x.2)<=i.2.2.2.2:=by
 obtain⟨h1,⟨y,h2,h3⟩,h4,h5⟩:=h.RK.ta h.ta
 have:=h.IP
 rw[h2] at this
 obtain rfl:=VM this
 exact⟨h1,h3,h4,h5⟩
theorem OB.z8 {s:Sp} (hv:VS s) {i:AH} (hf:D5 s i) {l:List Int} {os:List (Int×Int)} {p a:Int} {x:Int×Int} (h:OB s i l os p a x) {k:Int} (k0:0<=k) (k1:k<=x.1+x.2):∃ y,DB (sz s.1) l (p+k)=some y:=by
 obtain⟨h1,h2,h3,h4⟩:=h.HJ
 exact AGA hv hf h.has (by omega) (by omega)
theorem OB.go {s:Sp} (hv:VS s) {i:AH} (hf:D5 s i) {l:List Int} {os:List (Int×Int)} {p a:Int} {x:Int×Int} (h:OB s i l os p a x) {k:Int} (k0:0<=k) (k1:k<=1000):
  A5 s a k=some (ZO (DB (sz s.1) l (p+k))):=by
 have z:=CA s.1
 obtain⟨h1,h2,h3,h4⟩:=h.HJ
 obtain⟨⟨a0,a1⟩,am,_,ho,_⟩:=DD hv hf h.has h3 h.IP
 rcases h.has with ⟨hw,_⟩|⟨hw,hp⟩
 ·omega
 obtain⟨l2,q1,q2,q3⟩:=OZ z hp h3 h.IP k0
 rw[gH hv a0 a1 (by rw[ho];have:=hf.1.1;omega) k0 (by omega) q1,q3]
theorem ATE {s:Sp} {i:AH} {l:List Int} {os:List (Int×Int)} {p a:Int} {x:Int×Int} (h:OB s i l os p a x):hd (gl 0#64 s.2.1 a.toNat)=some x:=by
 obtain⟨⟨⟨a0,a1⟩,b0,b1⟩,h2,_⟩:=h.HJ
 rw[h2,AA9 a0 a1 b0 b1]
theorem OB.look {s:Sp} (hv:VS s) {i:AH} (hf:D5 s i) {l:List Int} {os:List (Int×Int)} {p a:Int} {x:Int×Int} (h:OB s i l os p a x):BK s a=some (x.1,x.2,0):=by
 obtain⟨⟨⟨r0,r1⟩,d0,d1⟩,h2,h3,h4⟩:=h.HJ
 obtain⟨⟨a0,a1⟩,_⟩:=DD hv hf h.has h3 h.IP
 have g0:=h.go hv hf (k:=0) (by omega) (by omega)
 rw[ZV,h.IP] at g0
 obtain⟨y,hy⟩:=h.z8 hv hf (k:=x.1+x.2) (by omega) (by omega)
 have g1:=h.go hv hf (k:=x.1+x.2) (by omega) (by omega)
 rw[hy] at g1
 unfold BK
 rw[g0,A9,AB (by simp [ZO]),AA ⟨a0,a1⟩,qI,A9,tN (ATE h),AB (by simp),AB (by simp)]
 simp only
 rw[AD (by omega) (by omega),g1,A9,AB (by simp [ZO])]
theorem OB.place {s:Sp} (hv:VS s) {i:AH} (hf:D5 s i) {l:List Int} {os:List (Int×Int)} {p a:Int} {x:Int×Int} (h:OB s i l os p a x) (k:Int) (b:Bool):
  (∃ e,e≠0/\e≠19/\B_ s a k b=some (0,e))\/(∃ m y,(if b=true then 1<=m/\m<=x.1 else x.1<m/\m<=x.1+x.2)/\DB (sz s.1) l (p+m)=some y/\B_ s a k b=some (y,0)):=by
 obtain⟨⟨⟨r0,r1⟩,d0,d1⟩,h2,h3,h4⟩:=h.HJ
 unfold B_
 rw[h.look hv hf,A9,AB (by simp)]
 cases b with
 |true=>
  rw[AA rfl]
  by_cases k0:k<0
  ·rw[AA k0];exact .inl ⟨17,by omega,by omega,rfl⟩
  rw[AB k0]
  by_cases k1:k≥x.1
  ·rw[AA k1];exact .inl ⟨17,by omega,by omega,rfl⟩
  rw[AB k1,AD (by omega) (by omega)]
  obtain⟨y,hy⟩:=h.z8 hv hf (k:=1+k) (by omega) (by omega)
  rw[h.go hv hf (by omega) (by omega),hy]
  exact .inr ⟨1+k,y,by rw[AA rfl];omega,hy,rfl⟩
 |false=>
  rw[AB (by decide)]
  by_cases k0:k<0
  ·rw[AA k0];exact .inl ⟨17,by omega,by omega,rfl⟩
  rw[AB k0]
  by_cases k1:k≥x.2
  ·rw[AA k1];exact .inl ⟨17,by omega,by omega,rfl⟩
  simp only
  rw[AB k1,AD (e:=1+x.1) (by omega) (by omega),AD (e:=1+x.1+k) (by omega) (by omega)]
  obtain⟨y,hy⟩:=h.z8 hv hf (k:=1+x.1+k) (by omega) (by omega)
  rw[h.go hv hf (by omega) (by omega),hy]
  exact .inr ⟨1+x.1+k,y,by rw[AB (by decide)];omega,hy,rfl⟩
def lS (z:Int) (l:List Int) (p:Int):Nat->List Int
 |0=>[]
 |k+1=>lS z l p k++ [(ZO (DB z l (p+(1+(k:Int))))).1]
theorem NA (z:Int) (l:List Int) (p:Int):∀ k,(lS z l p k).length=k
 |0=>rfl
 |k+1=>by rw[lS,I5,NA z l p k];rfl
theorem qJ {z:Int} {l:List Int} {p:Int}:∀ {k j:Nat},j<k->gl 0 (lS z l p k) j=(ZO (DB z l (p+(1+(j:Int))))).1
 |0,j,h=>by omega
 |k+1,j,h=>by
  rw[lS]
  by_cases hj:j<k
  ·rw[XA (by rw[NA];exact hj),qJ hj]
  ·obtain rfl:j=k:=by omega
   rw[DZ (by rw[I5,NA];simp),AIQ (by rw[NA];exact ED _)]
   simp only[NA,Nat.sub_self,List.getElem_singleton]
theorem OB.fields {s:Sp} (hv:VS s) {i:AH} (hf:D5 s i) {l:List Int} {os:List (Int×Int)} {p a:Int} {x:Int×Int} (h:OB s i l os p a x):
  CC s a=some (lS (sz s.1) l p x.1.toNat,0):=by
 obtain⟨⟨⟨r0,r1⟩,d0,d1⟩,h2,h3,h4⟩:=h.HJ
 unfold CC
 rw[h.look hv hf,A9,AB (by simp)]
 refine (AR (fun k (st:List Int×Int)=>st=(lS (sz s.1) l p k,(k:Int))) (fun b=>b=(lS (sz s.1) l p x.1.toNat,(0:Int))) x.1.toNat ?_ ?_ (s:=([],0)) rfl).elim fun b hb=>by rw[hb.1,hb.2]
 ·rintro k st hk rfl
  left
  simp only
  rw[AA (by omega),AD (e:=1+(k:Int)) (by omega) (by omega),h.go hv hf (by omega) (by omega),A9,AA (by simp only[NA,HW];omega),AD (by omega) (by omega)]
  exact⟨_,rfl,rfl⟩
 ·rintro st rfl
  simp only
  rw[AB (by omega)]
  exact⟨_,rfl,rfl⟩
theorem AI2 {z:Int} {ws:List (BitVec 64)} {l:List Int} {W:Int}:∀ {os:List (Int×Int)} {at' :Int} {a:Int},DM z ws l at' os W->(a∈(ads z l at' os).map (·.1)↔∃ p x,TA at' os p x/\DB z l p=some a)
 | [],at',a,h=>by simp [ads,TA]
 |o::r,at',a,h=>by
  obtain⟨_,⟨y,h2,_⟩,h4⟩:=h
  simp only[ads,K0,F7,TA]
  rw[AI2 h4,h2]
  constructor
  ·rintro (rfl|⟨p,x,h5,h6⟩)
   ·exact⟨at',o,.inl ⟨rfl,rfl⟩,h2⟩
   ·exact⟨p,x,.inr h5,h6⟩
  ·rintro⟨p,x,(⟨rfl,rfl⟩|h5),h6⟩
   ·rw[h2] at h6;exact .inl (VM h6).symm
   ·exact .inr ⟨p,x,h5,h6⟩
theorem AVQ {s:Sp} (hv:VS s) {i:AH} (hf:D5 s i) {os:List (Int×Int)} (h:Full s i os):
  ∃ la,HU s i=some (la,0)/\la.length<=16384/\∀ a,a∈la↔∃ p x,Obj s i p a x:=by
 obtain⟨l,h1,h2⟩:=h
 obtain⟨-,h3⟩:=AO9 h1 hf.1.2.2.2.2.1 ⟨l,h1,h2⟩
 have h4:=ARP hv hf h1
 rw[h3] at h4
 refine⟨_,h4,by rw[WW];exact (ARO hv hf h3).1,fun a=> ?_⟩
 rw[AI2 h2]
 constructor
 ·rintro⟨p,x,h5,h6⟩;exact⟨p,x,l,os,h1,h2,h5,h6⟩
 ·rintro⟨p,x,l',oU,g⟩
  obtain rfl:=RX h1 g.has
  obtain rfl:=h2.fn g.RK
  exact⟨p,x,g.ta,g.IP⟩
end Go.Proofs.YthmiilamegpllaaGreat
