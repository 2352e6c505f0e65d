import Derived.Test.YtklddkokplchdaaGreatDoorV3J
import Derived.Laws.BytesString
import Derived.Lib.ConvBytes
import Derived.Orders
import Derived.LoopN
import Derived.Defers
import Derived.ProofKit
import Derived.OpenShut
import Derived.ChangeOld
import Derived.Below
import Derived.LaidMore
import Derived.MakeChecks
import Derived.Stop.Joined
import Derived.Test.YtklddkokplchdaaGreatDoorProg
import Derived.Test.YtklddkokplchdaaGreatDoorChecked
import Derived.KernelRfl
set_option linter.unusedVariables false
set_option linter.unusedSimpArgs false
namespace Go.V3
open Go
variable {TB:Tb}
section
variable {P:Program} {AI:Nat->Option AO} {L:AE}
theorem zM {low high:Option SV} {n:Nat} {h l:Option Int} {hn ln cap:Nat} (hh:oR high n=some (h,hn)) (hl:oR low 0=some (l,ln)) (hb:Bd l h hn n) (hc:n<=cap):ln<=hn/\hn<=n/\Bd l h hn cap:=by
 obtain⟨b1,b2⟩:=hb
 have h2:ln<=hn:=by
  unfold oR at hl
  cases low with
  |none=>simp only[AR,BP] at hl;obtain⟨rfl,rfl⟩:=hl;omega
  |some y=>
   simp only at hl
   split at hl
   ·simp only[AR,BP] at hl
    obtain⟨rfl,rfl⟩:=hl
    simp only at b2
    omega
   ·cases hl
 unfold oR at hh
 cases high with
 |none=>simp only[AR,BP] at hh;obtain⟨rfl,rfl⟩:=hh;exact⟨h2,HE _,trivial,b2⟩
 |some y=>
  simp only at hh
  split at hh
  ·simp only[AR,BP] at hh
   obtain⟨rfl,rfl⟩:=hh
   simp only at b1
   exact⟨h2,by omega,⟨b1.1,by omega⟩,b2⟩
  ·cases hh
theorem AH8 {α:Type} {R:α->List Value->Prop} {sz:Nat} {c:B4 TB} {G:Nat->Prop} {w:World} {m:Nm} {xs:List α} (h:Own R sz c G w m xs) {lo n:Nat} (hl:lo+n<=m.len):
  Own R sz c G w (if m.cap=lo then ({ A_:=m.A_,off:=m.off,nil:=m.nil,len:=n,cap:=m.cap-lo,PN:=m.PN,fz:=m.fz }:Nm) else { A_:=m.A_,off:=m.off+lo*sz,nil:=m.nil,len:=n,cap:=m.cap-lo,PN:=XX m.PN (lo*sz),fz:=m.fz }) (DQ xs lo n):=by
 have hS:=XA h
 obtain⟨h1,h2,h3⟩:=h
 have hlen:(DQ xs lo n).length=n:=by unfold DQ;simp;omega
 rcases h3 with ⟨h4,rfl,h6⟩|⟨h4,h5,h6,h7,arr,ty,h8,h9,tJ⟩
 ·have hlo:lo=0/\n=0:=by simp at h1;omega
  obtain⟨rfl,rfl⟩:=hlo
  rw[BQ h6]
  exact⟨by simp [DQ],trivial,.inl ⟨h4,by simp [DQ],by simp [h6]⟩⟩
 ·by_cases hc:m.cap=lo
  ·have hn:n=0:=by omega
   subst hn
   rw[BQ hc]
   exact⟨by simp [DQ],trivial,.inr ⟨h4,h5,h6,by simp [DQ],arr,ty,h8,by simp only[hc,Nat.sub_self,t_];omega,by intro i x hx;simp [DQ] at hx⟩⟩
  ·rw[BC hc]
   have hm:(m.cap-lo)*sz+lo*sz=m.cap*sz:=by rw[<-Q9];congr 1;omega
   refine⟨hlen.symm,trivial,.inr ⟨h4,h5,h6,by rw[hlen];show n<=m.cap-lo;omega,arr,ty,h8,by show m.off+lo*sz+(m.cap-lo)*sz<=_;omega,fun i x hx=> ?_⟩⟩
   simp only[DQ] at hx
   rw[hC] at hx
   split at hx
   ·rw[Y8] at hx
    have:=tJ _ _ hx
    rw[Q9] at this
    rw[I6]
    exact this
   ·cases hx
theorem ACO {o:Oper} {ρ:Operand->SV} {t:TypeId} {x:Operand} {l h:Option Operand} (CD:o.op= .slice t x l h none) {BN:Bool} {bs:Nat} (A8:∀ n e,AI n=some e->look L n=some e) {v:SV} {BF:BH}
  (hs:eC P AI t (ρ x) (l.map ρ) (h.map ρ) BN bs pr=some (v,BF)):BX TB P o ρ L v BF:=by
 unfold eC at hs
 split at hs
 rotate_left
 ·cases hs
 rename_i e hu
 split at hs
 rotate_left
 ·cases hs
 rename_i q i hq hx
 have AEO:∀ (E:Env) (y:Option Operand),y.map (fun x=>(ρ x).den E)=(y.map ρ).map (SV.den E):=fun E y=>by cases y <;> rfl
 split at hs
 ·rename_i a xs hl
  cases BN with
  |true=>
   simp only at hs
   split at hs
   rotate_left
   ·cases hs
   rename_i hc
   obtain⟨VA,BV⟩:=hc
   split at hs
   rotate_left
   ·cases hs
   rename_i hh hn ll ln hhb hlb
   split at hs
   rotate_left
   ·cases hs
   rename_i hb
   simp only[pr,AR,BP] at hs
   obtain⟨rfl,rfl⟩:=hs
   have HG:look L bs=some .HP:=A8 _ _ (by have:=BI BV 0 (by omega);simpa using this)
   have hLi:=A8 _ _ hl
   refine AU fun c w E hH hw=> ?_
   obtain⟨G,hG⟩:=hH
   have nB:Own (Rp G w a) a.sz c G w (E.nm i) xs:=hG.F0 i _ hLi
   have hS:=XA nB
   have hlen:=nB.1
   obtain⟨c1,c2,c3⟩:=zM hhb hlb hb (cap:=(E.nm i).cap) (by omega)
   have X0:=AH8 nB (lo:=ln) (n:=hn-ln) (by omega)
   have hib:i≠bs:=by intro he;rw[he,HG] at hLi;cases hLi
   have RJ:=hG.kill (AJ hLi)
   have rD:look (BS L (i,.dead)) bs=some .HP:=by rw[AT (AJ hLi),BC (fun he=>hib he.symm)];exact HG
   have DV:∀ b,(AO.row a (DQ xs ln (hn-ln))).own (if (E.nm i).cap=ln then ({ A_:=(E.nm i).A_,off:=(E.nm i).off,nil:=(E.nm i).nil,len:=hn-ln,cap:=(E.nm i).cap-ln,PN:=(E.nm i).PN,fz:=(E.nm i).fz }:Nm) else { A_:=(E.nm i).A_,off:=(E.nm i).off+ln*a.sz,nil:=(E.nm i).nil,len:=hn-ln,cap:=(E.nm i).cap-ln,PN:=XX (E.nm i).PN (ln*a.sz),fz:=(E.nm i).fz })=some b->(AO.row a xs).own (E.nm i)=some b:=by
    intro b hb
    split at hb <;> exact hb
   have h1:=RJ.change (i:=bs) (e' := .row a (DQ xs ln (hn-ln))) (m:=_) (w' :=w) (AJ rD) (.refl _) (HE _) (fun hx=>absurd hx (CJ rD)) rfl (fun _ _ _=>rfl)
    (fun b hb=>by have:=hG.KE hLi (.inl (DV b hb));exact⟨this.2.1,this.1⟩)
    (fun k f hk hf b hb he=>by
     rw[AT (AJ hLi)] at hf
     by_cases X9:k=i
     ·subst X9;simp only[GJ,AR] at hf;subst hf;rcases hb with hb|⟨hb,_⟩|⟨hb,_⟩ <;> cases hb
     ·rw[BC X9] at hf
      exact hG.inj k i f _ b X9 hf hLi hb (.inl (DV b he)))
    (fun _=>X0)
   refine⟨w,_,_, ?_,.inl rfl,⟨G,h1⟩,fun n hn=>⟨E.DR _ (fun he=>CJ (he ▸ HG) hn),A1 rfl n (A1 rfl n hn)⟩,rfl,⟨_,by show look (BS (BS L _) _) bs=_;rw[AT (AJ rD),BQ rfl],rfl⟩⟩
   simp only[execOp,CD,tX,AEO]
   refine BB ?_
   rw[MB (E:=E) (x:=ρ x) (A:=(E.nm i).ad) (len:=xs.length) (cap:=(E.nm i).cap) hu hq (by rw[hx];simp [SV.den,hlen]) hhb hlb c3]
   simp only[SV.den,Env.B6]
   split
   ·rename_i hcl;simp [Nm.ad]
   ·simp only[Nm.ad,VA]
    split
    ·rfl
    ·simp [XX,DJ]
  |false=>
  simp only at hs
  split at hs
  rotate_left
  ·cases hs
  rename_i VA
  split at hs
  rotate_left
  ·cases hs
  rename_i hh hn ll ln hhb hlb
  split at hs
  rotate_left
  ·cases hs
  rename_i hb
  simp only[pr,AR,BP] at hs
  obtain⟨rfl,rfl⟩:=hs
  refine AU fun c w E hH hw=> ?_
  obtain⟨G,hG⟩:=hH
  have nB:=hG.F0 i _ (A8 _ _ hl)
  have hS:=XA nB
  have hlen:=nB.1
  obtain⟨c1,c2,c3⟩:=zM hhb hlb hb (cap:=(E.nm i).cap) (by omega)
  have NL:=hw x
  rw[hx] at NL
  refine⟨w,E,_, ?_,.inl rfl,⟨G,hG⟩,fun n hn=>⟨rfl,hn⟩,rfl,⟨NL,by omega⟩⟩
  simp only[execOp,CD,tX,AEO]
  refine BB ?_
  rw[MB (E:=E) (x:=ρ x) (A:=(E.nm i).ad) (len:=xs.length) (cap:=(E.nm i).cap) hu hq (by rw[hx];simp [SV.den,hlen]) hhb hlb c3]
  simp [SV.den,VA]
 ·rename_i a xs hl
  split at hs
  rotate_left
  ·cases hs
  rename_i hc
  obtain⟨VA,BV⟩:=hc
  split at hs
  rotate_left
  ·cases hs
  rename_i hh hn ll ln hhb hlb
  split at hs
  rotate_left
  ·cases hs
  rename_i hb
  simp only[pr,AR,BP] at hs
  obtain⟨rfl,rfl⟩:=hs
  have HG:look L bs=some .HP:=A8 _ _ (by have:=BI BV 0 (by omega);simpa using this)
  refine AU fun c w E hH hw=> ?_
  obtain⟨G,hG⟩:=hH
  have nB:dK (Rp G w a) a.sz G w (E.nm i) xs:=hG.F0 i _ (A8 _ _ hl)
  have hlen:=nB.1
  obtain⟨c1,c2,c3⟩:=zM hhb hlb hb (cap:=(E.nm i).cap) (by have:=nB.2.1;omega)
  have X0:=aP nB (lo:=ln) (n:=hn-ln) (by omega)
  have h1:=hG.change (i:=bs) (e' := .shr a (DQ xs ln (hn-ln))) (m:=_) (w' :=w) (AJ HG) (.refl _) (HE _) (fun hx=>absurd hx (CJ HG)) rfl (fun _ _ _=>rfl) (fun b hb=>by cases hb) (fun _ _ _ _ _ _ hb=>by cases hb) (fun _=>X0)
  refine⟨w,_,_, ?_,.inl rfl,⟨G,h1⟩,fun n hn=>⟨E.DR _ (fun he=>CJ (he ▸ HG) hn),A1 rfl n hn⟩,rfl,⟨_,by show look (BS L _) bs=_;rw[AT (AJ HG),BQ rfl],rfl⟩⟩
  simp only[execOp,CD,tX,AEO]
  refine BB ?_
  rw[MB (E:=E) (x:=ρ x) (A:=(E.nm i).ad) (len:=xs.length) (cap:=(E.nm i).cap) hu hq (by rw[hx];simp [SV.den,hlen]) hhb hlb c3]
  simp only[SV.den,Env.B6]
  split
  ·rename_i hcl;simp [Nm.ad]
  ·simp only[Nm.ad,VA]
   split
   ·rfl
   ·simp [XX,DJ]
 ·cases hs
theorem kN {w:World} {t e:TypeId} {len:Nat} {q:TypeInfo} {x i:SV} {E:Env} {p:Addr} {n:Int} (hu:P.underlying t=some (.array len e)) (hq:P.info? e=some q) (hx:x.den E= .pointer (some p)) (hi:idxOf i=some n)
  (h0:0<=n) (h1:n<len):(Instr.indexAt t (x.den E) (i.den E)).run P w= .ok (.pointer (some (p.add (n.toNat*q.size)))) w:=by
 obtain⟨k,hk⟩:=N_ (E:=E) hi
 rw[hk,hx]
 simp [Instr.indexAt,asIntOf,run_underlying hu,sizeOf,typeInfo,hq,h0,h1,Instr.sureAddr]
theorem ACP {o:Oper} {ρ:Operand->SV} {t:TypeId} {x i:Operand} (CD:o.op= .indexAddr t x i) (A8:∀ n e,AI n=some e->look L n=some e) {v:SV} {BF:BH}
  (hs:eD P AI t (ρ x) (ρ i) pr=some (v,BF)):BX TB P o ρ L v BF:=by
 have whole:∀ (j:Nat) (a:Ty) (xs:List a.T) (e:TypeId) (q:TypeInfo) (n:Int),P.underlying t=some (.slice e)->P.info? e=some q->idxOf (ρ i)=some n->ρ x= .H9 j->(look L j=some (.row a xs)\/look L j=some (.shr a xs))->q.size=a.sz->0<=n/\n<(xs.length:Int)→
   BX TB P o ρ L (.el j n.toNat a.sz 0) []:=by
  intro j a xs e q n hu hq hi hx hl VA hn
  refine AU fun c w E hH hw=> ?_
  obtain⟨G,hG⟩:=hH
  have NL:=hw x
  rw[hx] at NL
  have hrd:Rd (Rp G w a) a.sz w (E.nm j) xs:=by
   rcases hl with hl|hl
   ·exact eH (hG.F0 j _ hl)
   ·exact rB (hG.F0 j _ hl)
  have ON:(E.nm j).nil=false:=by
   rcases hrd.2.2 with h|h
   ·rw[h] at hn;simp at hn;omega
   ·exact h.1
  refine⟨w,E,_, ?_,.inl rfl,⟨G,hG⟩,fun n hn=>⟨rfl,hn⟩,rfl,⟨NL,by rw[hrd.1];omega,ON⟩⟩
  simp only[execOp,CD]
  refine BB ?_
  rw[F4 (p:=⟨(E.nm j).A_,(E.nm j).off,none⟩) hu hq (len:=(E.nm j).len) (cap:=(E.nm j).cap) (by rw[hx];simp [SV.den,Nm.ad,ON]) hi hn.1 (by rw[hrd.1];exact hn.2)]
  simp [SV.den,DJ,VA]
 unfold eD at hs
 split at hs
 ·rename_i e n hu hi
  split at hs
  ·rename_i q j hq hx
   split at hs
   ·rename_i a xs hl
    split at hs
    rotate_left
    ·cases hs
    rename_i VA
    split at hs
    rotate_left
    ·cases hs
    rename_i hn
    simp only[pr,AR,BP] at hs
    obtain⟨rfl,rfl⟩:=hs
    exact whole j a xs e q n hu hq hi hx (.inl (A8 _ _ hl)) VA hn
   ·rename_i a xs hl
    split at hs
    rotate_left
    ·cases hs
    rename_i VA
    split at hs
    rotate_left
    ·cases hs
    rename_i hn
    simp only[pr,AR,BP] at hs
    obtain⟨rfl,rfl⟩:=hs
    exact whole j a xs e q n hu hq hi hx (.inr (A8 _ _ hl)) VA hn
   ·rename_i a xss hh hl
    split at hs
    rotate_left
    ·cases hs
    rename_i VA
    split at hs
    rotate_left
    ·cases hs
    rename_i hn
    simp only[pr,AR,BP] at hs
    obtain⟨rfl,rfl⟩:=hs
    refine AU fun c w E hH hw=> ?_
    obtain⟨G,hG⟩:=hH
    have NL:=hw x
    rw[hx] at NL
    have hd:=hG.dp j _ _ _ (A8 _ _ hl)
    have hlen:=hd.len
    have ON:(E.nm j).nil=false:=by
     rcases hd.cs with ⟨_,h2,_⟩|⟨h1,_⟩
     ·rw[h2] at hn;simp at hn;omega
     ·exact h1
    refine⟨w,E,_, ?_,.inl rfl,⟨G,hG⟩,fun n hn=>⟨rfl,hn⟩,rfl,⟨NL,by rw[hlen];omega,ON⟩⟩
    simp only[execOp,CD]
    refine BB ?_
    rw[F4 (p:=⟨(E.nm j).A_,(E.nm j).off,none⟩) hu hq (len:=(E.nm j).len) (cap:=(E.nm j).cap) (by rw[hx];simp [SV.den,Nm.ad,ON]) hi hn.1 (by rw[hlen];exact hn.2)]
    simp [SV.den,DJ,VA]
   ·rename_i t1 t2 xs hl
    split at hs
    rotate_left
    ·cases hs
    rename_i VA
    split at hs
    rotate_left
    ·cases hs
    rename_i hn
    simp only[pr,AR,BP] at hs
    obtain⟨rfl,rfl⟩:=hs
    refine AU fun c w E hH hw=> ?_
    obtain⟨G,hG⟩:=hH
    have NL:=hw x
    rw[hx] at NL
    have hd:C0 c G w (E.nm j) t1 t2 xs:=hG.F0 j _ (A8 _ _ hl)
    have hlen:=hd.len
    have ON:(E.nm j).nil=false:=by
     rcases hd.cs with ⟨_,h2,_⟩|⟨h1,_⟩
     ·rw[h2] at hn;simp at hn;omega
     ·exact h1
    refine⟨w,E,_, ?_,.inl rfl,⟨G,hG⟩,fun n hn=>⟨rfl,hn⟩,rfl,⟨NL,by rw[hlen];omega,ON⟩⟩
    simp only[execOp,CD]
    refine BB ?_
    rw[F4 (p:=⟨(E.nm j).A_,(E.nm j).off,none⟩) hu hq (len:=(E.nm j).len) (cap:=(E.nm j).cap) (by rw[hx];simp [SV.den,Nm.ad,ON]) hi hn.1 (by rw[hlen];exact hn.2)]
    simp [SV.den,DJ,VA]
   ·cases hs
  ·rename_i q i' k h' hq hx
   have inner:∀ (tt:Ty) (ys:List tt.T) (hh:Nat),hh<2->h' =hh->q.size=1->0<=n/\n<(ys.length:Int)→
     (∀ (c:B4 TB) (w:World) (E:Env) (G:Nat->Prop),AK c G w E L->k<(E.nm i').len->DC (Rp G w tt) tt.sz w ((E.nm i').hn (k*2+hh)) ys)->BX TB P o ρ L (.tel i' k hh n.toNat) []:=by
    intro tt ys hh hh2 he eG hn XG
    subst he
    refine AU fun c w E hH hw=> ?_
    obtain⟨G,hG⟩:=hH
    have NL:=hw x
    rw[hx] at NL
    obtain⟨I8,hk,tK⟩:=NL
    obtain⟨p1,_,p3⟩:=XG c w E G hG hk
    have ON:((E.nm i').hn (k*2+h')).nil=false:=by
     rcases p3 with ⟨_,p4,_⟩|⟨p4,_⟩
     ·rw[p4] at hn;simp at hn;omega
     ·exact p4
    refine⟨w,E,_, ?_,.inl rfl,⟨G,hG⟩,fun n hn=>⟨rfl,hn⟩,rfl,⟨I8,hk,tK,by rw[p1];omega⟩⟩
    simp only[execOp,CD]
    refine BB ?_
    rw[F4 (p:=⟨((E.nm i').hn (k*2+h')).A_,((E.nm i').hn (k*2+h')).off,none⟩) hu hq (len:=((E.nm i').hn (k*2+h')).len) (cap:=((E.nm i').hn (k*2+h')).cap) (by rw[hx];simp [SV.den,Nm.ad,ON]) hi hn.1 (by rw[p1];exact hn.2)]
    simp [SV.den,DJ,eG]
   unfold AJ4 at hs
   split at hs
   rotate_left
   ·cases hs
   rename_i t1 t2 xs hl
   have AI2:∀ (c:B4 TB) (w:World) (E:Env) (G:Nat->Prop),AK c G w E L->k<(E.nm i').len→
     DC (Rp G w t1) t1.sz w ((E.nm i').hn (k*2)) (gd (.pair (.slice t1) (.slice t2)) xs k).1/\DC (Rp G w t2) t2.sz w ((E.nm i').hn (k*2+1)) (gd (.pair (.slice t1) (.slice t2)) xs k).2:=by
    intro c w E G hG hk
    have hd:C0 c G w (E.nm i') t1 t2 xs:=hG.F0 i' _ (A8 _ _ hl)
    rw[hd.len] at hk
    rcases hd.cs with ⟨_,h2,_⟩|⟨_,_,_,_,_,_,_,_,h7,_⟩
    ·rw[h2] at hk;simp at hk
    ·refine h7 k _ ?_
     unfold gd
     rw[List.getD_eq_getElem?_getD,KA hk];rfl
   split at hs
   ·split at hs
    rotate_left
    ·cases hs
    rename_i VA
    split at hs
    rotate_left
    ·cases hs
    rename_i hn
    simp only[pr,AR,BP] at hs
    obtain⟨rfl,rfl⟩:=hs
    exact inner t1 _ 0 (by omega) rfl VA.1 hn fun c w E G hG hk=>(AI2 c w E G hG hk).1
   ·split at hs
    rotate_left
    ·cases hs
    rename_i VA
    split at hs
    rotate_left
    ·cases hs
    rename_i hn
    simp only[pr,AR,BP] at hs
    obtain⟨rfl,rfl⟩:=hs
    exact inner t2 _ 1 (by omega) rfl VA.1 hn fun c w E G hG hk=>(AI2 c w E G hG hk).2
   ·cases hs
  ·rename_i q j lo len sz hq hx
   split at hs
   rotate_left
   ·cases hs
   rename_i a xs hl
   split at hs
   rotate_left
   ·cases hs
   rename_i VA
   split at hs
   rotate_left
   ·cases hs
   rename_i hn
   simp only[pr,AR,BP] at hs
   obtain⟨rfl,rfl⟩:=hs
   refine AU fun c w E hH hw=> ?_
   obtain⟨G,hG⟩:=hH
   have NL:=hw x
   rw[hx] at NL
   obtain⟨I8,hle⟩:=NL
   have CP:lo+n.toNat<(E.nm j).len:=by omega
   have hrd:=eH (hG.F0 j _ (A8 _ _ hl))
   have hS:=hrd.2.1
   have ON:(E.nm j).nil=false:=by
    rcases hrd.2.2 with h|h
    ·have:=hrd.1;rw[h] at this;simp at this;omega
    ·exact h.1
   refine⟨w,E,_, ?_,.inl rfl,⟨G,hG⟩,fun n hn=>⟨rfl,hn⟩,rfl,⟨I8,CP,ON⟩⟩
   simp only[execOp,CD]
   refine BB ?_
   have KF:¬(E.nm j).cap=lo:=by omega
   rw[F4 (p:=⟨(E.nm j).A_,(E.nm j).off+lo*sz,none⟩) (len:=len) (cap:=(E.nm j).cap-lo) hu hq (by rw[hx];simp [SV.den,Nm.ad,ON,KF,XX,DJ]) hi hn.1 hn.2]
   simp [SV.den,DJ,VA.1,Q9,I6]
  ·cases hs
 ·rename_i len e n hu hi
  split at hs
  ·rename_i q j k sz off hq hx
   split at hs
   ·rename_i a xs hl
    split at hs
    rotate_left
    ·cases hs
    rename_i VA
    obtain⟨q1,q2,q3,q4⟩:=VA
    split at hs
    rotate_left
    ·cases hs
    rename_i hn
    obtain⟨⟨n0,n1⟩,n2⟩:=hn
    simp only[pr,AR,BP] at hs
    obtain⟨rfl,rfl⟩:=hs
    refine AU fun c w E hH hw=> ?_
    obtain⟨G,hG⟩:=hH
    have NL:=hw x
    rw[hx] at NL
    obtain⟨I8,_,ON⟩:=NL
    have hlen:=(hG.F0 j _ (A8 _ _ hl)).1
    refine⟨w,E,_, ?_,.inl rfl,⟨G,hG⟩,fun n hn=>⟨rfl,hn⟩,rfl,⟨I8,by omega,ON⟩⟩
    simp only[execOp,CD]
    refine BB ?_
    rw[kN (p:=⟨(E.nm j).A_,(E.nm j).off+(k*sz+off),none⟩) hu hq (by rw[hx];rfl) hi n0 n1]
    subst q3;subst q4
    simp [SV.den,DJ,q1]
   ·cases hs
  ·cases hs
 ·cases hs
theorem AEQ {c:B4 TB} {w:World} {E:Env} (hH:Hd c w E L) (A8:∀ n e,AI n=some e->look L n=some e) {x:SV} {n:Nat} (h:AE3 AI x=some n):∃ a k,x.den E= .slice a n k:=by
 obtain⟨G,hG⟩:=hH
 unfold AE3 at h
 split at h
 ·simp only[AR] at h;subst h;exact⟨_,_,rfl⟩
 ·split at h
  ·rename_i i _ t xs hl
   simp only[AR] at h;subst h
   have:=(hG.F0 i _ (A8 _ _ hl)).1
   exact⟨(E.nm i).ad,(E.nm i).cap,by simp [SV.den,this]⟩
  ·rename_i i _ t xs hl
   simp only[AR] at h;subst h
   have:=(hG.F0 i _ (A8 _ _ hl)).1
   exact⟨(E.nm i).ad,(E.nm i).cap,by simp [SV.den,this]⟩
  ·rename_i i _ t xs _ hl
   simp only[AR] at h;subst h
   have:=(hG.dp i _ _ _ (A8 _ _ hl)).len
   exact⟨(E.nm i).ad,(E.nm i).cap,by simp [SV.den,this]⟩
  ·rename_i i _ t1 t2 xs hl
   simp only[AR] at h;subst h
   have:=(hG.F0 i _ (A8 _ _ hl)).len
   exact⟨(E.nm i).ad,(E.nm i).cap,by simp [SV.den,this]⟩
  ·cases h
 ·simp only[AR] at h;subst h;exact⟨_,_,rfl⟩
 ·cases h
def AM (P:Program) (n:FuncId) (e:Xt):Prop:=
 ∃ fn, P.funcs[n]? = some fn ∧ fn.body = none ∧ (fn.name == "runtime.NumGoroutine") = false ∧ Extern.findNext fn = none ∧ Extern.find fn = some e.sem
def Cx.Ok (P:Program) (cx:Cx):Prop:=(∀ n fi,cx.fns n=some fi->CallsV P cx.tb n fi)/\(∀ n e,lk cx.exts n=some e->AM P n e)/\(∀ n xs,lk cx.fms n=some xs->AJG P n xs)/\∀ d n fi,lk cx.ovr d=some (n,fi)->CallsV P cx.tb n fi
theorem AJH {E:Env} {P:Program} (w:World) {n:FuncId} {e:Xt} (hx:AM P n e) (args:List SV):(xtE e args).ok fun v=>(callFunc n (AH E args).toArray).run P w= .ok (.value (v.den E)) w:=by
 obtain⟨fn,h1,h2,h3,h4,h5⟩:=hx
 have ET:∀ v:Value,(e.sem (AH E args).toArray).run P w= .ok v w->(callFunc n (AH E args).toArray).run P w= .ok (.value v) w:=by
  intro v hv
  have hp:(program:Sem Program).run P w= .ok P w:=rfl
  unfold callFunc
  simp only[Sem.run_bind,hp,Result.andThen,h1,h3,h2,Option.isNone_none,GJ,XU,Q_,h4,h5]
  have hm:(mark (.extern n)).run P w= .ok () w:=rfl
  rw[hm]
  simp only[hv]
  rfl
 unfold xtE
 split
 ·rename_i o i
  refine F1 fun hb=>ET _ ?_
  obtain⟨b,rfl⟩:=AD5.1 hb.1
  have hb2:b<18446744073709551616:=hb.2
  show Result.ok (Value.int .u64 (b:Int)) w=_
  simp only[SV.den,ABH,AG1]
  rw[AG0 (by omega)]
 ·rename_i b
  refine F1 fun hb=>ET _ ?_
  show Result.ok (Value.int .u64 (b:Int)) w=_
  simp only[SV.den,ABH]
  rw[AG0 (by omega)]
 ·rename_i x
  refine AX (ET _ ?_)
  show Result.ok (Value.float .f64 ((x.toNat:Int).toNat)) w=_
  rfl
 ·exact ok_none
theorem AJI {E:Env} {e:Xt} {args:List SV} {q:Option DP} {v:SV} (h:xtE e args=some (q,v)):v.wf E L:=by
 unfold xtE at h
 repeat' split at h
 all_goals first|(cases h;done)|(simp only[val,ZB,AR,BP] at h;rw[<-h.2];trivial)
theorem kO {kk:IntKind} (n:Int) (v:Bool):∀ (xs:List (Int×Bool)) (es:List MapEntry) (i:Nat),es.map (fun e=>(e.key,e.val))=xs.map (fun q=>((.int .i64 q.1:Value),(.bool q.2:Value)))→
  (Instr.findNow (.int kk) (.int .i64 n) es i=some none/\PO xs n=none/\hY xs n v=xs++ [(n,v)])∨
  ∃ j b e,Instr.findNow (.int kk) (.int .i64 n) es i=some (some (i+j,.bool b))/\PO xs n=some b/\es[j]? =some e/\e.key= .int .i64 n∧
   (es.modify j fun e=>{ e with key:= .int .i64 n,val:= .bool v }).map (fun e=>(e.key,e.val))=(hY xs n v).map (fun q=>((.int .i64 q.1:Value),(.bool q.2:Value)))
 | [],[],_,_=> .inl ⟨rfl,rfl,rfl⟩
 | [],_::_,_,h=>by simp at h
 |_::_,[],_,h=>by simp at h
 |(a,b)::r,e::es,i,h=>by
  simp only[OI,XV,BP] at h
  obtain⟨⟨h1,h2⟩,h3⟩:=h
  have hs:Instr.sameNow (.int kk) (.int .i64 n) e.key=some (n==a):=by rw[h1];simp [Instr.sameNow]
  by_cases qX:n=a
  ·subst qX
   refine .inr ⟨0,b,e, ?_,by simp [PO],rfl,h1, ?_⟩
   ·simp [Instr.findNow,hs,h2]
   ·simp [hY,h3]
  ·have hs' :Instr.sameNow (.int kk) (.int .i64 n) e.key=some false:=by rw[hs];simp [qX]
   rcases kO (kk:=kk) n v r es (i+1) h3 with ⟨k1,k2,k3⟩|⟨j,b',e',k1,k2,k3,k4,k5⟩
   ·refine .inl ⟨by simp [Instr.findNow,hs',k1],by simp [PO,qX,k2],by simp [hY,qX,k3]⟩
   ·refine .inr ⟨j+1,b',e', ?_,by simp [PO,qX,k2],by simpa using k3,k4, ?_⟩
    ·simp only[Instr.findNow,hs',k1]
     congr 3;omega
    ·simp only[hY,BC qX,List.modify_succ_cons,OI,k5,h1,h2]
theorem fR {t:TypeId} (h:qS P t=true):∃ k e kk,P.underlying t=some (.map k e)/\P.underlying k=some (.int kk)/\∀ w:World,(zeroValue e).run P w= .ok (.bool false) w:=by
 unfold qS at h
 split at h
 ·rename_i k e hu
  split at h
  ·rename_i kk q h1 h2
   split at h
   ·rename_i h3
    exact⟨k,e,kk,hu,h1,fun w=>by simp [zeroValue,typeInfo,h2,h3]⟩
   ·cases h
  ·cases h
 ·cases h
theorem ZR {w:World} {r:Nat} {es:Array MapEntry} {ck:Nat} (h:w.heap[r]? =some (.map es ck)):(getObj r).run P w= .ok (.map es ck) w:=by simp [getObj,Sem.run,h]
theorem run_checkKey {k:TypeId} {kk:IntKind} (hk:P.underlying k=some (.int kk)) (em:Bool) (v:Value) (w:World):(Instr.checkKey em 10000 k v).run P w= .ok () w:=by
 rw[show (10000:Nat)=9999+1 from rfl,Instr.checkKey]
 simp [run_underlying hk]
theorem vT {o:Oper} {ρ:Operand->SV} {t:TypeId} (CD:o.op= .makeMap t none) {bs:Nat} (A8:∀ n e,AI n=some e->look L n=some e) {v:SV} {BF:BH}
  (h:bB AI bs pr=some (v,BF)):BX TB P o ρ L v BF:=by
 unfold bB at h
 split at h
 rotate_left
 ·cases h
 rename_i BV
 have HG:look L bs=some .HP:=A8 _ _ (by have:=BI BV 0 (by omega);simpa using this)
 simp only[pr,AR,BP] at h
 obtain⟨rfl,rfl⟩:=h
 refine AU fun c w E hh hw=> ?_
 obtain⟨G,hG⟩:=hh
 obtain⟨k1,k2⟩:=hG.VQ HG (w' :=w.alloc (.map #[] 0)) (ob:= .map #[] 0) rfl ⟨rfl,rfl,rfl⟩ (e:= .map []) (m:=⟨w.heap.size,0,false,0,0,none⟩) rfl ⟨rfl,rfl,rfl⟩
  (fun BV hold hG BJ=>⟨rfl,rfl,hG,hold,_,_,BV,rfl⟩)
 refine⟨w.alloc (.map #[] 0),_,.value (.map (some w.heap.size)), ?_,.inl ?_,⟨G,k1⟩,k2,rfl, ?_⟩
 ·simp only[execOp,CD]
  refine BB ?_
  rfl
 ·simp only[SV.den,Env.B6]
 ·exact⟨.map [],by show look (BS L (bs,.map [])) bs=_;rw[AT (AJ HG),BQ rfl],rfl⟩
theorem ZS (s:ByteArray):(ZN s).length=s.size:=by
 unfold ZN;simp
theorem pM {e:TypeId} (h:AGW P e=true):P.underlying e=some (.int .u8):=by
 unfold AGW at h
 split at h
 ·assumption
 ·cases h
theorem AER {G:Nat->Prop} {w:World} {xs:List Int} {cells:List Value} (hl:cells.length=xs.length) (h:RowsIn (Rp G w (.int .u8)) 1 cells.toArray 0 xs):cells=xs.map (Value.int .u8):=by
 apply Q8
 intro j
 rw[ABI]
 rcases GR j xs.length with hj|hj
 ·have h1:=h j xs[j] (KA hj)
  have h2:A4 cells.toArray (0+j*1) 1=[.int .u8 xs[j]]:=h1
  have h3:(A4 cells.toArray (0+j*1) 1)[0]? =some (.int .u8 xs[j]):=by rw[h2];rfl
  rw[BE,BQ (by omega)] at h3
  rw[KA hj,XW,←h3]
  simp
 ·rw[N8 (by omega),N8 hj];rfl
theorem AES {o:Oper} {ρ:Operand->SV} {s d:TypeId} {x:Operand} (CD:o.op= .convert s d x) {kp:Bool} {bs:Nat} (A8:∀ n e,AI n=some e->look L n=some e) {v:SV} {BF:BH}
  (h:AAG P AI s d (ρ x) kp bs pr=some (v,BF)):BX TB P o ρ L v BF:=by
 have hr0:∀ E:Env,execOp (fun x=>(ρ x).den E) o=(do pure (Next.value (<-convert s d ((ρ x).den E))):Sem Next):=by
  intro E;simp only[execOp,CD]
 unfold AAG at h
 split at h
 ·rename_i e hs hd
  split at h
  rotate_left
  ·cases h
  rename_i hu
  have hu:=pM hu
  split at h
  ·cases h
  rename_i JM
  split at h
  rotate_left
  ·cases h
  rename_i xs ne u hp
  simp only[pr,AR,BP] at h
  obtain⟨rfl,rfl⟩:=h
  refine AU fun c w E hh hw=> ?_
  obtain⟨G,hG⟩:=hh
  have hrd:Rd (Rp G w (.int .u8)) (Ty.int .u8).sz w (ne.nm E) xs:=by
   refine vQ hp (by simp) JM (hw x) ?_
   rintro i t ys (hl|hl)
   ·exact rB (hG.F0 i _ (A8 _ _ hl))
   ·exact eH (hG.F0 i _ (A8 _ _ hl))
  obtain⟨cells,c1,c2,c3,_⟩:=kH (P:=P) hrd
  have ZD:(Ty.int .u8).sz=1:=rfl
  rw[ZD,x5] at c1
  have hc:cells=xs.map (Value.int .u8):=AER c1 (by
   refine c3 cells.toArray 0 ?_
   rw[ZD,x5]
   unfold A4
   rw[AA1,List.take_of_length_le (by simp;omega)])
  have VL:=dS hp E
  have hlen:(ne.nm E).len=xs.length:=hrd.1
  refine⟨w,E,.value (.string (AL3 xs)), ?_,.inl rfl,⟨G,hG⟩,fun n hn=>⟨rfl,hn⟩,rfl,trivial⟩
  rw[hr0]
  refine BB ?_
  rw[VL,run_convert_bytes_string w s d e _ _ _ hs hu hd]
  have uO:=c2 w rfl
  cases had:(ne.nm E).ad with
  |none=>
   rw[had] at uO
   have xS:xs=[]:=by
    have:(Builtin.firstCells (Ty.int .u8).sz xs.length (.slice none (ne.nm E).len (ne.nm E).cap):Sem _)=pure #[]:=rfl
    rw[this] at uO
    have hc3:cells.toArray= #[]:=by
     have:(Result.ok (#[]:Array Value) w)= .ok cells.toArray w:=uO
     simp only[Result.ok.injEq] at this
     exact this.1.symm
    have:cells.length=0:=by have:=ZA Array.size hc3;simpa using this
    exact AII.1 (by omega)
   subst xS
   rfl
  |some p=>
   rw[had] at uO
   have hc4:(loadCells p (xs.length*1)).run P w= .ok cells.toArray w:=uO
   rw[x5] at hc4
   rw[hlen]
   exact run_bytesToString w p xs.length _ xs (by rw[hc4,hc])
 ·rename_i e hs hd
  split at h
  rotate_left
  ·cases h
  rename_i hc
  simp only[PG] at hc
  obtain⟨hu,BV⟩:=hc
  have hu:=pM hu
  split at h
  rotate_left
  ·cases h
  rename_i t hx
  simp only[pr,AR,BP] at h
  obtain⟨rfl,rfl⟩:=h
  have HG:look L bs=some .HP:=A8 _ _ (by have:=BI BV 0 (by omega);simpa using this)
  refine AU fun c w E hh hw=> ?_
  obtain⟨G,hG⟩:=hh
  have hS:t.size<=grownCap w t.size 0 e:=by
   unfold grownCap Question.cut;simp only;omega
  let m:Nm:={ A_:=w.heap.size,off:=0,nil:=false,len:=t.size,cap:=grownCap w t.size 0 e,PN:=none,fz:=⟨true⟩ }
  have aZ:RowsIn (Rp G (Lib.bytesWorld w e t) (.int .u8)) (Ty.int .u8).sz (Lib.bytesCells w e t) 0 (ZN t):=by
   intro i y hy
   have hi:i<t.size:=by
    rw[<-ZS t]
    rcases GR i (ZN t).length with h' |h'
    ·exact h'
    ·rw[N8 h'] at hy;cases hy
   show A4 _ (0+i*1) 1=[.int .u8 y]
   apply Q8
   intro j
   rw[BE]
   cases j with
   |zero=>
    rw[BQ (by omega)]
    unfold ZN at hy
    rw[ABI] at hy
    unfold Lib.bytesCells
    rw[tT (by simp;omega),AFY]
    simp only[KB,x5,JK,U9]
    rw[<-XT]
    cases hg:t.data.toList[i]? with
    |none=>rw[hg] at hy;cases hy
    |some b=>rw[hg] at hy;simp only[XW,AR] at hy ⊢;rw[hy]
   |succ j=>rw[BC (by omega)];rfl
  have oU:(Lib.bytesCells w e t).size=grownCap w t.size 0 e:=by
   unfold Lib.bytesCells
   rw[Array.size_append,Array.size_map,Array.size_replicate,ByteArray.size_data];omega
  have ALH:(Lib.bytesWorld w e t).heap=w.heap.push (.cells (Lib.bytesCells w e t) e ((Lib.bytesCells w e t).size,(Lib.bytesCells w e t).size+1)):=by
   apply ADA
   intro k
   rw[jQ]
   by_cases hk:k=w.heap.size
   ·rw[BQ hk,hk];exact Lib.bytesWorld_at_new w e t
   ·rw[BC hk]
    rcases GR k w.heap.size with OA |OA
    ·exact Lib.bytesWorld_at_old w e t k OA
    ·rw[tW OA,tW (by rw[Lib.bytesWorld_size];omega)]
  obtain⟨k1,k2⟩:=hG.VQ HG (w' :=Lib.bytesWorld w e t) ALH ⟨rfl,rfl,rfl⟩ (e:= .row (.int .u8) (ZN t)) (m:=m) rfl ⟨rfl,rfl,rfl⟩ (fun hb ho hg hs=>by
   refine⟨(ZS t).symm,trivial,.inr ⟨rfl,hg,ho, ?_,Lib.bytesCells w e t,e,hb, ?_,aZ⟩⟩
   ·rw[ZS];exact hS
   ·show 0+grownCap w t.size 0 e*1<=_
    rw[oU];omega)
  obtain⟨f1,f2,f3⟩:=XN kp (AJ HG) k1
  refine⟨Lib.bytesWorld w e t,E.set bs m,.value (.slice (some ⟨w.heap.size,0,none⟩) t.size (grownCap w t.size 0 e)), ?_,.inl ?_,f1,fun n hn=>⟨(k2 n hn).1,f2 n (k2 n hn).2⟩,rfl, ?_⟩
  ·rw[hr0,hx]
   refine BB ?_
   exact Lib.run_convert_string_bytes w s d e t hs hd hu
  ·simp only[SV.den,Env.B6];rfl
  ·exact f3
 ·cases h
theorem AH9 {o:Oper} {ρ:Operand->SV} {t rt:TypeId} {x y:Operand} (CD:o.op= .binOp .quo t x y rt) {a b:Nat} (hx:ρ x= .N9 a) (hy:ρ y= .N9 b) {bs:Nat} (A8:∀ n e,AI n=some e->look L n=some e) (BV:EC AI bs 1=true):
  BX TB P o ρ L (.nf (D_ .quo a b) bs) [(bs,.dead)]:=by
 have HG:look L bs=some .HP:=A8 _ _ (by have:=BI BV 0 (by omega);simpa using this)
 refine AU fun c w E hh hw=> ?_
 obtain⟨G,hG⟩:=hh
 have I8:∀ (m:Nm) (n:Nat),Al L n->(E.set bs m).nm n=E.nm n/\Al (AD L [(bs,.dead)]) n:=fun m n hn=>⟨E.DR _ (fun he=>CJ (he ▸ HG) hn),A1 rfl n hn⟩
 have fG:SV.wf E (AD L [(bs,.dead)]) (.nf (D_ .quo a b) bs):=⟨.dead,by show look (BS L (bs,.dead)) bs=_;rw[AT (AJ HG),BQ rfl],rfl⟩
 have hch:∀ (m:Nm) (w' :World),w'.heap=w.heap->Rest w w' ->AK c G w' (E.set bs m) (BS L (bs,.dead)):=fun m w' hh hr=>
  hG.change (AJ HG) hr (by rw[hh];exact HE _) (fun ha=>absurd ha (CJ HG)) rfl (fun b _ _=>by rw[hh]) (fun b hb=>by cases hb) (fun _ _ _ _ _ _ hb=>by cases hb) (fun _=>trivial)
 have hr0:(execOp (fun x=>(ρ x).den E) o)=(do pure (Next.value (<-Op.floatArith .quo .f64 a b)):Sem Next):=by
  simp only[execOp,CD,hx,hy,SV.den];rfl
 cases hq:D_ .quo a b with
 |some r=>
  rw[hq] at fG
  refine⟨w,E.set bs ⟨0,0,true,0,0,none⟩,.value (.float .f64 r), ?_,.inl rfl,⟨G,hch _ w rfl (.refl _)⟩,I8 _,rfl,fG⟩
  rw[hr0]
  refine BB ?_
  simp only[D_] at hq
  simp [Op.floatArith,hq]
 |none=>
  rw[hq] at fG
  let T:=w.tape w.drawn (.nanBits .f64 a b)
  refine⟨{ w with drawn:=w.drawn+1 },E.set bs ⟨T,0,true,0,0,none⟩,.value (.float .f64 (PV T)), ?_,.inl ?_,⟨G,hch _ _ rfl ⟨rfl,rfl,rfl⟩⟩,I8 _,rfl,fG⟩
  ·rw[hr0]
   refine BB ?_
   simp only[D_] at hq
   simp only[Op.floatArith,hq]
   rfl
  ·simp only[SV.den,Env.B6,Option.getD_none]
theorem zN {o:Oper} {ρ:Operand->SV} {t:TypeId} {x i:Operand} {ok:Bool} (CD:o.op= .lookup t x i ok) (A8:∀ n e,AI n=some e->look L n=some e) {v:SV} {BF:BH}
  (h:jL P AI t (ρ x) (ρ i) ok pr=some (v,BF)):BX TB P o ρ L v BF:=by
 unfold jL at h
 split at h
 rotate_left
 ·cases h
 rename_i j n hx hi
 split at h
 rotate_left
 ·cases h
 rename_i xs hl
 split at h
 rotate_left
 ·cases h
 rename_i hm
 obtain⟨k,e,kk,u1,u2,u3⟩:=fR hm
 obtain⟨V,hV⟩:∃ V:SV,V=(if ok=true then SV.oO [.bool ((PO xs n).getD false),.bool (PO xs n).isSome] else .bool ((PO xs n).getD false)):=⟨_,rfl⟩
 have hv:v=V/\BF=[]:=by
  cases ok <;> (simp only[pr,AR,BP] at h;exact⟨by rw[hV];exact h.1.symm,h.2.symm⟩)
 clear h
 obtain⟨rfl,rfl⟩:=hv
 subst hV
 refine AU fun c w E hh hw=> ?_
 obtain⟨G,hG⟩:=hh
 obtain⟨-, -, -, -,es,ck,h5,h6⟩:=hG.F0 j _ (A8 _ _ hl)
 refine⟨w,E,_, ?_,.inl rfl,⟨G,hG⟩,fun n hn=>⟨rfl,hn⟩,rfl,by cases ok <;> simp [SV.wf,GV]⟩
 simp only[execOp,CD,hx,hi]
 refine BB ?_
 have vS:∃ r:Option (Nat×Value),(Instr.findKey k (.int .i64 n) es.toList).run P w= .ok r w/\r.map (·.2)=(PO xs n).map Value.bool:=by
  rcases kO (kk:=kk) n false xs es.toList 0 h6 with ⟨k1,k2,_⟩|⟨j',b,e',k1,k2,_⟩
  ·exact⟨none,by simp [Instr.findKey,run_underlying u2,k1],by simp [k2]⟩
  ·exact⟨some (0+j',.bool b),by simp [Instr.findKey,run_underlying u2,k1],by simp [k2]⟩
 obtain⟨r,hr1,hr2⟩:=vS
 simp only[Instr.lookup,Sem.run_bind,run_underlying u1,Result.andThen,SV.den,ZR h5,Sem.run_pure,run_checkKey u2,hr1]
 cases r with
 |none=>
  have hg:PO xs n=none:=by cases hx:PO xs n with
   |none=>rfl
   |some b=>rw[hx] at hr2;cases hr2
  cases ok <;> simp [u3,hg,SV.den,AH]
 |some q=>
  obtain⟨q1,q2⟩:=q
  have hg:∃ b,PO xs n=some b/\q2= .bool b:=by cases hx:PO xs n with
   |none=>rw[hx] at hr2;cases hr2
   |some b=>rw[hx] at hr2;simp at hr2;exact⟨b,rfl,hr2⟩
  obtain⟨b,hg,rfl⟩:=hg
  cases ok <;> simp [hg,SV.den,AH]
theorem zO {o:Oper} {ρ:Operand->SV} {t:TypeId} {x i y:Operand} (CD:o.op= .mapUpdate t x i y) (A8:∀ n e,AI n=some e->look L n=some e) {v:SV} {BF:BH}
  (h:jM P AI t (ρ x) (ρ i) (ρ y) pr=some (v,BF)):BX TB P o ρ L v BF:=by
 unfold jM at h
 split at h
 rotate_left
 ·cases h
 rename_i j n b hx hi hb
 split at h
 rotate_left
 ·cases h
 rename_i xs hl
 split at h
 rotate_left
 ·cases h
 rename_i hm
 obtain⟨k,e,kk,u1,u2,u3⟩:=fR hm
 simp only[pr,AR,BP] at h
 obtain⟨rfl,rfl⟩:=h
 refine AU fun c w E hh hw=> ?_
 obtain⟨G,hG⟩:=hh
 have hL:=A8 _ _ hl
 obtain⟨e1,e2,e3,e4,es,ck,h5,h6⟩:=hG.F0 j _ hL
 have hbd:(ρ y).den E= .bool b:=NQ hb
 have CP:=LR h5
 have key:∃ es' ck',(Instr.mapUpdate t (.map (some (E.nm j).A_)) (.int .i64 n) (.bool b)).run P w= .ok () { w with heap:=w.heap.setIfInBounds (E.nm j).A_ (.map es' ck') }/\AA5 es' (hY xs n b):=by
  rcases kO (kk:=kk) n b xs es.toList 0 h6 with ⟨k1,k2,k3⟩|⟨j',b',e',k1,k2,k3,k4,k5⟩
  ·refine⟨es.push { key:= .int .i64 n,val:= .bool b,born:=ck },ck+1, ?_, ?_⟩
   ·have hf:(Instr.findKey k (.int .i64 n) es.toList).run P w= .ok none w:=by simp [Instr.findKey,run_underlying u2,k1]
    simp only[Instr.mapUpdate,Sem.run_bind,run_underlying u1,Result.andThen,ZR h5,run_checkKey u2,hf]
    simp [setObj,Sem.run,h5]
   ·unfold AA5 at h6 ⊢
    rw[Array.toList_push,tY,h6,k3];simp
  ·refine⟨es.modify j' fun e=>{ e with key:= .int .i64 n,val:= .bool b },ck, ?_, ?_⟩
   ·have hf:(Instr.findKey k (.int .i64 n) es.toList).run P w= .ok (some (j',.bool b')) w:=by simp [Instr.findKey,run_underlying u2,k1]
    have hk:∀ o,(es[j']?).map (·.key)=some o->(Instr.keyThatStays o (.int .i64 n)).run P w= .ok (.int .i64 n) w:=by
     intro o ho
     have:es[j']? =some e' :=by simpa using k3
     rw[this] at ho
     simp only[XW,AR] at ho
     subst ho
     rw[k4]
     simp [Instr.keyThatStays,Instr.sameBits]
    have OA :(es[j']?).map (·.key)=some (.int .i64 n):=by
     have:es[j']? =some e' :=by simpa using k3
     rw[this];simp [k4]
    simp only[Instr.mapUpdate,Sem.run_bind,run_underlying u1,Result.andThen,ZR h5,run_checkKey u2,hf,OA,AG1,hk _ OA]
    simp [setObj,Sem.run,h5]
   ·unfold AA5
    rw[<-k5,Array.toList_modify]
 obtain⟨es',ck',r1,r2⟩:=key
 let w' :World:={ w with heap:=w.heap.setIfInBounds (E.nm j).A_ (.map es' ck') }
 have BJ:∀ b,b≠(E.nm j).A_->w'.heap[b]? =w.heap[b]? :=fun b hb=>by
  show (w.heap.setIfInBounds _ _)[b]? =_
  rw[xV,BC (fun h=>hb h.symm)]
 have BV:w'.heap[(E.nm j).A_]? =some (.map es' ck'):=by
  show (w.heap.setIfInBounds _ _)[_]? =_
  rw[xV,BQ rfl,BQ CP]
 have k1:=hG.change (w' :=w') (AJ hL) ⟨rfl,rfl,rfl⟩ (by simp [w']) (fun _=>rfl) (e' := .map (hY xs n b)) (m:=E.nm j) rfl
  (fun b _ hb=>BJ b (fun he=>hb (by simp [AO.own,he])))
  (fun b hb=>by simp only[AO.own,AR] at hb;subst hb;exact⟨e4,e3⟩)
  (fun k f hk hf b hb he=>hG.inj k j f _ b hk hf hL hb (.inl he))
  (fun _=>⟨e1,e2,e3,e4,es',ck',BV,r2⟩)
 have hE:E.set j (E.nm j)=E:=by
  refine GW (fun k=> ?_) rfl (fun _=>rfl)
  by_cases hk:k=j
  ·subst hk;rw[Env.B6]
  ·rw[Env.DR _ _ hk]
 rw[hE] at k1
 refine⟨w',E,.skip, ?_,.inr ⟨rfl,rfl⟩,⟨G,k1⟩,fun n hn=>⟨rfl,A1 rfl n hn⟩,rfl,trivial⟩
 simp only[execOp,CD,hx,hi,hbd,SV.den]
 simp only[Sem.run_bind,r1,Result.andThen]
 rfl
theorem vU {TB:Tb} {o:Oper} {ρ:Operand->SV} {f:Operand} {args:Array Operand} {ts:Array TypeId} {n:FuncId} {cs:List SV} {fi:FnI} {d:Bool} {bs:Nat} (hc:CallsV P TB n fi) (CD:o.op= .call { callee:= .value f,args:=args,argTypes:=ts }) (hf:m7 (ρ f)=some (n,cs))
  (A8:∀ n e,AI n=some e->look L n=some e) {v:SV} {BF:BH} (h:fL d fi bs AI (args.toList.map ρ++cs) pr=some (v,BF)):BX TB P o ρ L v BF:=by
 have hfd:=fun E=>aV hf E
 intro c w E hH hw a next Q ha hn
 show o.upon P a next Q ((execOp a.eval o).run P w)
 have ET:(execOp (fun x=>(ρ x).den E) o).run P w= .ok (.enter n (AH E (args.toList.map ρ++cs)).toArray) w:=by
  rw[<-hc.1]
  simp only[execOp,CD,resolve,invoke,Sem.run_bind,hfd,Deferred.ofValue,Sem.run_pure,Result.andThen]
  congr 2
  apply SS
  simp [CX,xX]
 rw[ha,ET]
 have hwl:GV E L (args.toList.map ρ++cs):=A3.2 fun v hv=>by
  rcases DU.1 hv with hv|hv
  ·obtain⟨x,_,rfl⟩:=DB.1 hv
   exact hw x
  ·exact A3.1 (AA8 hf (hw f)) v hv
 refine (AEI h hc A8 hH hwl).mono ?_
 rintro e w' ⟨E',rfl,h1,h2,h3,h4⟩
 exact hn E' w' h1 h2 h3 h4
theorem AAP {cx:Cx} (hcx:cx.Ok P) {o:Oper} {ρ:Operand->SV} (A8:∀ n e,AI n=some e->look L n=some e) {v:SV} {BF:BH} (h:vD P cx AI o.dst ρ pr o.op=some (v,BF)):BX cx.tb P o ρ L v BF:=by
 generalize CD:o.op=op at h
 unfold vD at h
 split at h
 ·split at h
  ·exact AED CD (by assumption) h
  ·exact AEB CD A8 h
 ·exact ACB CD A8 h
 ·exact ACF CD A8 h
 ·exact AH4 CD A8 h
 ·split at h
  ·exact ACE CD A8 h
  ·split at h
   ·exact ACH CD A8 h
   ·exact kF CD A8 h
 ·split at h
  ·exact AEG CD A8 h
  ·exact nA CD A8 h
 ·exact ACO CD A8 h
 ·exact ACP CD A8 h
 ·rename_i args ts
  split at h
  rotate_left
  ·cases h
  rename_i x t EN zD
  split at h
  rotate_left
  ·cases h
  rename_i e n hu hn
  simp only[pr,AR,BP] at h
  obtain⟨rfl,rfl⟩:=h
  refine AU fun c w E hH hw=> ?_
  obtain⟨a,k,hx⟩:=AEQ hH A8 hn
  refine⟨w,E,.value ((SV.int .i64 n).den E), ?_,.inl rfl,hH,fun n hn=>⟨rfl,hn⟩,rfl,trivial⟩
  have ACN :ts= #[t]:=by apply SS;rw[zD]
  have KM :(args.map fun x=>(ρ x).den E)= #[.slice a n k]:=by
   apply SS
   have:(args.toList.map ρ).map (SV.den E)=[.slice a n k]:=by rw[EN];simp [hx]
   rw[PL] at this
   rw[dN]
   exact this
  simp only[execOp,CD,resolve,invoke,Sem.run_bind,Sem.run_pure,Result.andThen,KM,ACN,builtin]
  simp [Builtin.len_,run_underlying hu,goInt,SV.den]
 ·rename_i args ts
  split at h
  ·rename_i x y EN
   split at h
   ·split at h
    ·exact zJ CD EN A8 h
    ·exact zH CD EN A8 h
   ·exact zC CD EN A8 (by assumption) h
  ·cases h
 ·exact vT CD A8 h
 ·exact AES CD A8 h
 ·split at h
  rotate_left
  ·cases h
  rename_i a b hx hy
  split at h
  rotate_left
  ·cases h
  rename_i BV
  simp only[pr,AR,BP] at h
  obtain⟨rfl,rfl⟩:=h
  exact AH9 CD hx hy A8 BV
 ·exact zN CD A8 h
 ·exact zO CD A8 h
 ·rename_i f args ts
  split at h
  rotate_left
  ·cases h
  rename_i n cs hf
  have hfd:=fun E=>aV hf E
  split at h
  rotate_left
  ·split at h
   rotate_left
   ·cases h
   rename_i e he
   have fin:∀ q:Option DP,xtE e (args.toList.map ρ++cs)=some (q,v)->cnd q->BF=[]->BX cx.tb P o ρ L v BF:=by
    rintro q hq hc rfl
    refine AU fun c w E hH hw=>⟨w,E,_, ?_,.inl rfl,hH,fun n hn=>⟨rfl,hn⟩,rfl,AJI hq⟩
    rw[<-AJH (E:=E) w (hcx.2.1 n e he) (args.toList.map ρ++cs) q v hq hc]
    simp only[execOp,CD,resolve,invoke,Sem.run_bind,hfd,Deferred.ofValue,Sem.run_pure,Result.andThen]
    congr 2
    apply SS
    simp [CX,xX]
   split at h
   ·rename_i u hq
    simp only[pr,AR,BP] at h
    obtain⟨rfl,rfl⟩:=h
    exact fin none hq trivial rfl
   ·rename_i q u hq
    have:=q.d
    by_cases hp:q.p
    ·simp only[hp,GJ,pr,AR,BP] at h
     obtain⟨rfl,rfl⟩:=h
     exact fin (some q) hq hp rfl
    ·simp [hp] at h
   ·cases h
  rename_i fi hfi
  exact vU (hcx.1 n fi hfi) CD hf A8 h
 ·cases h
theorem AAQ {cx:Cx} (hcx:cx.Ok P) {o:Oper} {ρ:Operand->SV} (A8:∀ n e,AI n=some e->look L n=some e) {v:SV} {BF:BH} (hk:vE P cx AI o.dst ρ o.op=true) (h:m9 P cx AI o.dst ρ pr o.op=some (v,BF)):BX cx.tb P o ρ L v BF:=by
 generalize CD:o.op=op at h hk
 unfold m9 at h
 split at h
 ·exact ACI CD A8 h
 ·exact ACJ CD h
 ·exact ACK CD h
 ·rename_i args ts
  split at h
  rotate_left
  ·cases h
  rename_i i lo n c t EN zD
  split at h
  rotate_left
  ·cases h
  rename_i e hu
  simp only[pr,AR,BP] at h
  obtain⟨rfl,rfl⟩:=h
  refine AU fun cf w E hH hw=>⟨w,E,.value ((SV.int .i64 n).den E), ?_,.inl rfl,hH,fun n hn=>⟨rfl,hn⟩,rfl,trivial⟩
  have ACN :ts= #[t]:=by apply SS;rw[zD]
  have KM :(args.map fun x=>(ρ x).den E)= #[.slice (some ⟨(E.nm i).A_,(E.nm i).off+lo,none⟩) n c]:=by
   apply SS
   have:(args.toList.map ρ).map (SV.den E)=[.slice (some ⟨(E.nm i).A_,(E.nm i).off+lo,none⟩) n c]:=by rw[EN];simp [SV.den]
   rw[PL] at this
   rw[dN]
   exact this
  simp only[execOp,CD,resolve,invoke,Sem.run_bind,Sem.run_pure,Result.andThen,KM,ACN,builtin]
  simp [Builtin.len_,run_underlying hu,goInt,SV.den]
 ·refine ACL (ty:=o.type) (fun E w=> ?_) A8 h
  simp only[execOp,CD,resolve,invoke,builtin]
  rfl
 ·exact zL CD A8 h
 ·rename_i f args ts
  split at h
  ·rename_i m fi hov
   split at h
   ·rename_i n cs hf
    split at h
    ·rename_i hmn
     subst hmn
     refine vU (hcx.2.2.2 (o.dst.getD 0) m fi ?_) CD hf A8 h
     unfold Cx.ovd at hov
     split at hov
     ·rename_i hd;rw[hd];exact hov
     ·cases hov
    ·cases h
   ·cases h
  split at h
  rotate_left
  ·cases h
  rename_i n hf EN
  split at h
  rotate_left
  ·cases h
  rename_i xs hx
  split at h
  rotate_left
  ·cases h
  rename_i BV
  simp only[pr,AR,BP] at h
  obtain⟨rfl,rfl⟩:=h
  obtain⟨hc1,uO⟩:=hcx.2.2.1 n xs hx
  have HG:look L (cx.base o.dst)=some .HP:=A8 _ _ (by have:=BI BV 0 (by omega);simpa using this)
  have hfd:=fun E=>aV hf E
  have KM :args= #[]:=by apply SS;rw[EN]
  intro c w E hH hw a next Q ha hn
  show o.upon P a next Q ((execOp a.eval o).run P w)
  have ET:(execOp (fun x=>(ρ x).den E) o).run P w= .ok (.enter n #[]) w:=by
   rw[<-hc1]
   simp only[execOp,CD,resolve,invoke,Sem.run_bind,hfd,Deferred.ofValue,Sem.run_pure,Result.andThen]
   simp [KM,AH]
  rw[ha,ET]
  refine (uO w).mono ?_
  rintro e w' ⟨es,ck,rfl,h1,h2,h3⟩
  obtain⟨G,hG⟩:=hH
  obtain⟨k1,k2⟩:=hG.VQ HG (w' :=w') (ob:= .map es ck) h1 h2 (e:= .fmp xs) (m:=⟨w.heap.size,0,false,0,0,none⟩) rfl ⟨rfl,rfl,rfl⟩
   (fun BV hold hG BJ=>⟨rfl,rfl,hG,hold,_,_,BV,h3⟩)
  have:=hn (E.set (cx.base o.dst) ⟨w.heap.size,0,false,0,0,none⟩) w' ⟨G,k1⟩ k2 rfl ⟨.fmp xs,by show look (BS L (cx.base o.dst,.fmp xs)) _=_;rw[AT (AJ HG),BQ rfl],rfl⟩
  simp only[SV.den,Env.B6] at this
  exact this
 ·rename_i t x y rt
  unfold vE at hk
  simp only at hk
  split at hk
  ·rename_i hy
   exact AEP CD hy A8 h
  ·cases hk
 ·cases h
theorem AET {E:Env} {t:TypeId} {cs:List SV} {off:Nat} {q:Option DP} {v:SV} (h:uB P t cs off=some (q,v)) (hw:GV E L cs):v.wf E L:=by
 unfold uB at h
 repeat' split at h
 all_goals first|(cases h;done)|skip
 ·simp only[val,AR,BP] at h;rw[<-h.2];exact QI hw _ _
 ·rename_i hv
  simp only[val,AR,BP] at h;rw[<-h.2]
  exact A3.1 hw _ (UY hv)
theorem AHA {E:Env} {ρ:Operand->SV} {op:Op} {q:Option DP} {v:SV} (h:VE P ρ op=some (q,v)) (hl:∀ x,(ρ x).wf E L):v.wf E L:=by
 have AR5:∀ v:SV,(match v with| .int _ _| .u64 _| .bool _| .HF _| .prop _ _| .str _| .N9 _=>True|_=>False)->v.wf E L:=by
  intro v hv
  cases v <;> first|trivial|exact hv.elim
 cases op <;> simp only[VE] at h
 case move x=>simp only[val,AR,BP] at h;rw[<-h.2];exact hl x
 case assign x=>simp only[val,AR,BP] at h;rw[<-h.2];exact hl x
 case pick c a b=>
  split at h
  ·rename_i t _
   simp only[val,AR,BP] at h
   rw[<-h.2]
   cases t
   ·exact hl b
   ·exact hl a
  ·cases h
 case nilCheck x=>
  split at h
  ·rename_i i k sz off hx
   simp only[val,AR,BP] at h
   rw[<-h.2]
   have:=hl x
   rw[hx] at this
   exact this
  ·rename_i i off hx
   simp only[val,AR,BP] at h
   rw[<-h.2]
   have:=hl x
   rw[hx] at this
   exact this
  ·rename_i f cs hx
   simp only[val,AR,BP] at h
   rw[<-h.2]
   have:=hl x
   rw[hx] at this
   exact this
  ·cases h
 case makeFunc fn first captured=>
  split at h
  ·simp only[val,AR,BP] at h
   rw[<-h.2]
   exact A3.2 fun v hv=>by
    obtain⟨x,_,rfl⟩:=DB.1 hv
    exact hl x
  ·cases h
 case binOp op t x y _=>
  unfold ADH AG7 qG shE AG4 AG5 AG6 nfE at h
  repeat' split at h
  all_goals first|(cases h;done)|(simp only[val,ZB,AR,BP] at h;rw[<-h.2];trivial)
 case unOp op t x=>
  unfold unE at h
  repeat' split at h
  all_goals first|(cases h;done)|(simp only[val,AR,BP] at h;rw[<-h.2];trivial)
 case convert s d x=>
  unfold AA2 at h
  repeat' split at h
  all_goals first|(cases h;done)|(simp only[val,ZB,AR,BP] at h;rw[<-h.2];trivial)
 case extract x i=>
  unfold aL at h
  repeat' split at h
  all_goals first|(cases h;done)|skip
  simp only[val,AR,BP] at h;rw[<-h.2]
  have:=hl x
  rw[‹ρ x=_›] at this
  exact A3.1 this _ (UY (by assumption))
 case field t x f=>
  unfold qH at h
  repeat' split at h
  all_goals first|(cases h;done)|skip
  have:=hl x
  rw[‹ρ x=_›] at this
  exact AET h this
 case build t parts=>
  have KK:∀ q∈(parts.toList.map fun q=>(q.1,ρ q.2)),q.2.wf E L:=by
   intro q hq
   obtain⟨y,_,rfl⟩:=DB.1 hq
   exact hl y.2
  unfold qI at h
  repeat' split at h
  all_goals first|(cases h;done)|skip
  all_goals
   rename_i hf
   simp only[val,AR,BP] at h;rw[<-h.2]
   exact bG _ _ _ hf (RM E (by assumption)) KK
 case indexAddr t x i=>
  unfold SU at h
  repeat' split at h
  all_goals first|(cases h;done)|skip
  ·rename_i hx _ _ _
   simp only[ZB,AR,BP] at h;rw[<-h.2]
   have:=hl x
   rw[‹ρ x=_›] at this
   exact this
  ·simp only[ZB,AR,BP] at h;rw[<-h.2]
   trivial
 case fieldAddr t x f=>
  unfold SW at h
  repeat' split at h
  all_goals first|(cases h;done)|skip
  all_goals
   simp only[val,AR,BP] at h;rw[<-h.2]
   have:=hl x
   rw[‹ρ x=_›] at this
   exact this
 case slice t x l hh m=>
  unfold qJ at h
  repeat' split at h
  all_goals first|(cases h;done)|(simp only[ZB,AR,BP] at h;rw[<-h.2];trivial)
 case index t x i=>
  unfold qK at h
  repeat' split at h
  all_goals first|(cases h;done)|(simp only[ZB,AR,BP] at h;rw[<-h.2];trivial)
 case call c=>
  obtain⟨callee,args,ts⟩:=c
  cases callee with
  |builtin b=>
   dsimp only at h
   unfold aM AG8 at h
   repeat' split at h
   all_goals first|(cases h;done)|(simp only[val,ZB,AR,BP] at h;rw[<-h.2];trivial)
  |_=>dsimp only at h;cases h
 all_goals cases h
theorem kP {o:Oper} {ρ:Operand->SV} (A8:∀ n e,AI n=some e->look L n=some e) {x:Operand} (ET:∀ (E:Env) (w:World),(execOp (fun x=>(ρ x).den E) o).run P w= .ok (.value ((ρ x).den E)) w) {v:SV} {BF:BH}
  (h:bD AI (ρ x) pr=some (v,BF)):BX TB P o ρ L v BF:=by
 have pass:ρ x=v->BF=[]->BX TB P o ρ L v BF:=by
  rintro rfl rfl
  exact AU fun c w E hH hw=>⟨w,E,_,ET E w,.inl rfl,hH,fun n hn=>⟨rfl,hn⟩,rfl,hw x⟩
 unfold bD at h
 split at h
 rotate_left
 ·simp only[pr,AR,BP] at h
  exact pass h.1 h.2.symm
 rename_i i hx
 split at h
 rotate_left
 ·simp only[pr,AR,BP] at h
  exact pass (hx.trans h.1) h.2.symm
 rename_i t xss hh hl
 split at h
 rotate_left
 ·cases h
 rename_i ys u hc
 simp only[pr,AR,BP] at h
 obtain⟨rfl,rfl⟩:=h
 refine AU fun c w E hH hw=> ?_
 obtain⟨G,hG⟩:=hH
 obtain⟨E1,c1,c2,c3,c4,c5,c6,c7⟩:=XM A8 hG hl hc
 have h2:=c1.qM c4
 have eu:AD L (u++ [(i,.shr (.slice t) ys)])=BS (AD L u) (i,.shr (.slice t) ys):=by rw[A0];rfl
 rw[eu]
 refine⟨w,E1,_,ET E w,.inl ?_,⟨_,h2⟩,fun n hn=>⟨c2 n,A1 rfl n (c5 n hn)⟩,c3, ?_⟩
 ·rw[hx];simp only[SV.den,c2]
 ·exact⟨_,by rw[AT (AJ c4),BQ rfl],rfl⟩
theorem zP {o:Oper} {ρ:Operand->SV} (A8:∀ n e,AI n=some e->look L n=some e) {v:SV} {BF:BH} (h:MA AI ρ pr o.op=some (v,BF)):BX TB P o ρ L v BF:=by
 generalize CD:o.op=op at h
 unfold MA at h
 split at h
 ·rename_i x
  exact kP A8 (fun E w=>by simp only[execOp,CD];rfl) h
 ·rename_i x
  exact kP A8 (fun E w=>by simp only[execOp,CD];rfl) h
 ·cases h
theorem AHB {cx:Cx} (hcx:cx.Ok P) {o:Oper} {ρ:Operand->SV} (A8:∀ n e,AI n=some e->look L n=some e) {v:SV} {BF:BH} (h:core P cx AI o.dst ρ pr o.op=some (v,BF)):BX cx.tb P o ρ L v BF:=by
 unfold core at h
 split at h
 ·exact zP A8 h
 unfold core0 at h
 simp only[AAE] at h
 have fin:∀ (q:Option DP),VE P ρ o.op=some (q,v)->cnd q->BX cx.tb P o ρ L v []:=by
  intro q hp hq
  refine AU fun c w E hH hw=> ?_
  exact⟨w,E,_,ABS (E:=E) w ρ o.op q v hp hq o rfl,.inl rfl,hH,fun n hn=>⟨rfl,hn⟩,rfl,AHA hp hw⟩
 cases hqq:(cx.keeps o.dst && Op.AAI o.op) with
 |true=>
  rw[hqq] at h
  simp only at h
  split at h
  ·rename_i hk;exact AAQ hcx A8 hk h
  ·exact AAP hcx A8 h
 |false=>
 rw[hqq] at h
 simp only at h
 split at h
 ·rename_i u hp
  simp only[pr,AR,BP] at h
  obtain⟨rfl,rfl⟩:=h
  exact fin _ hp trivial
 ·rename_i q u hp
  have:=q.d
  by_cases hq:q.p
  ·simp only[hq,GJ,pr,AR,BP] at h
   obtain⟨rfl,rfl⟩:=h
   exact fin _ hp hq
  ·simp only[hq,Q_] at h;cases h
 ·split at h
  ·rename_i hk;exact AAQ hcx A8 hk h
  ·exact AAP hcx A8 h
end
end Go.V3
namespace Go.V3
open Go
variable {TB:Tb}
def clean:SV->SV
 | .dJ _=>AQ
 |v=>v
def X2 (fr:List SV) (x:Operand):SV:=clean (ev fr x)
def kQ:SV->Bool
 | .dJ _=>true
 |_=>false
def AAR (fr:List SV) (op:Op):Bool:=op.operands.toList.all fun x=> !(kQ (ev fr x))
def VS (all:List Oper) (o:Oper) (fr:List SV):Option Bool:=
 match o.guard with
 |none=>some true
 |some (j,want)=>(match all[j]? with
  |none=>none
  |some oj=>(match oj.dst with
   |none=>none
   |some t=>(match fr.getD t AQ with
    | .HF b=>some (b==want)
    | .raw (.tuple _)=>some false
    |_=>none)))
def AJJ (all:List Oper) (k:Nat):Bool:=all.any fun o=>match o.guard with
 |some (j,_)=>j==k
 |none=>false
section
variable {α:Type}
def rK (v:SV) (F:Bool->Option α):Option α:=
 match v with
 | .HF b=>F b
 | .bool b=>if b=true then F true else F false
 | .prop p d=> @ite _ p d (F true) (F false)
 |_=>none
def VT (P:Program) (cx:Cx) (all:List Oper) (o:Oper) (k:Nat) (fr:List SV) (AI:Nat->Option AO) (K:SV->BH->Option α):Option α:=
 match VS all o fr with
 |none=>none
 |some false=>K AQ []
 |some true=>(match AAR fr o.op with
  |false=>none
  |true=>core P cx AI o.dst (X2 fr) (match AJJ all k with
   |true=>fun v u=>rK v (fun b=>K (.HF b) u)
   |false=>K) o.op)
def AEU (P:Program) (cx:Cx) (all:List Oper):List Oper->Nat->List SV->AE->(List SV->AE->Option α)->Option α
 | [],_,fr,L,K=>K fr L
 |o::r,k,fr,L,K=>VT P cx all o k fr (look L) (fun v u=>AEU P cx all r (k+1) (LO fr o.dst v) (AD L u) K)
end
theorem fS {α:Type} {v:SV} {F:Bool->Option α} {a:α} (h:rK v F=some a):∃ b,uA v=some b/\F b=some a:=by
 unfold rK at h
 split at h
 ·exact⟨_,rfl,h⟩
 ·rename_i b;cases b
  ·exact⟨false,rfl,h⟩
  ·exact⟨true,rfl,h⟩
 ·rename_i p d
  by_cases hp:p
  ·simp only[hp,GJ] at h;exact⟨true,by simp [uA,hp],h⟩
  ·simp only[hp,Q_] at h;exact⟨false,by simp [uA,hp],h⟩
 ·cases h
theorem kR {α:Type} {P:Program} {cx:Cx} {all:List Oper} {o:Oper} {k:Nat} {fr:List SV} {AI:Nat->Option AO} {K:SV->BH->Option α} {a:α} (h:VT P cx all o k fr AI K=some a):
  ∃ v u,K v u=some a/\VT P cx all o k fr AI pr=some (v,u):=by
 unfold VT at h ⊢
 split at h
 ·cases h
 ·exact⟨AQ,[],h,rfl⟩
 ·split at h
  ·cases h
  ·cases hs:AJJ all k with
   |false=>
    rw[hs] at h
    simp only at h ⊢
    rw[bE,tV] at h
    obtain⟨⟨v,u⟩,h1,h2⟩:=h
    exact⟨v,u,h2,h1⟩
   |true=>
    rw[hs] at h
    simp only at h ⊢
    rw[bE,tV] at h
    obtain⟨⟨v,u⟩,h1,h2⟩:=h
    obtain⟨b,hb,h3⟩:=fS h2
    refine⟨.HF b,u,h3, ?_⟩
    rw[bE,h1]
    simp only[VC]
    cases v <;> simp only[uA,AR,reduceCtorEq] at hb
    ·subst hb;rename_i b;cases b <;> rfl
    ·subst hb;rfl
    ·subst hb
     rename_i p d
     by_cases hp:p <;> simp [rK,hp,pr]
def iD (E:Env) (L:AE) (fr:List SV):Prop:=∀ t,(fr.getD t AQ).wf E L\/fr.getD t AQ= .dJ t
structure St [QF] (c:B4 TB) (E:Env) (fr:List SV) (L:AE) (a:Act) (w:World):Prop where
 bI:Sim E fr a
 hd:Hd c w E L
 wf:iD E L fr
def U3 (L L' :AE):Prop:=L'.length=L.length/\∀ (n v:Nat) (e:AO) (v' :Nat) (e' :AO),L[n]? =some (v,e)->L'[n]? =some (v',e')->v<=v' /\(v' =v->e' =e)
theorem U3.refl (L:AE):U3 L L:=⟨rfl,fun n v e v' e' h h' =>by rw[h] at h';simp only[AR,BP] at h';obtain⟨rfl,rfl⟩:=h';exact⟨HE _,fun _=>rfl⟩⟩
theorem U3.trans {A B C:AE} (h:U3 A B) (k:U3 B C):U3 A C:=by
 refine⟨k.1.trans h.1,fun n v e v' e' h1 h2=> ?_⟩
 have CP:n<A.length:=by
  rcases GR n A.length with h|h
  ·exact h
  ·rw[N8 h] at h1;cases h1
 obtain⟨bv,be,hb⟩:∃ bv be,B[n]? =some (bv,be):=⟨_,_,KA (by rw[h.1];exact CP)⟩
 obtain⟨a1,a2⟩:=h.2 n v e _ _ h1 hb
 obtain⟨b1,b2⟩:=k.2 n _ _ v' e' hb h2
 refine⟨Nat.le_trans a1 b1,fun he=> ?_⟩
 have e1:bv=v:=by omega
 rw[b2 (by omega),a2 e1]
theorem U3.BS (L:AE) (q:Nat×AO):U3 L (BS L q):=by
 refine⟨DG _ _,fun n v e v' e' h1 h2=> ?_⟩
 unfold V3.BS at h2
 split at h2
 ·rename_i v0 e0 hq
  rw[xY] at h2
  split at h2
  ·rename_i hn
   subst hn
   rw[h1] at hq
   simp only[AR,BP] at hq
   obtain⟨rfl,rfl⟩:=hq
   split at h2
   ·simp only[AR,BP] at h2
    exact⟨by omega,fun he=>by omega⟩
   ·cases h2
  ·rw[h1] at h2
   simp only[AR,BP] at h2
   obtain⟨rfl,rfl⟩:=h2
   exact⟨HE _,fun _=>rfl⟩
 ·rw[h1] at h2
  simp only[AR,BP] at h2
  obtain⟨rfl,rfl⟩:=h2
  exact⟨HE _,fun _=>rfl⟩
theorem U3.AD (L:AE) (u:BH):U3 L (AD L u):=by
 induction u generalizing L with
 |nil=>exact .refl _
 |cons q r ih=>exact (U3.BS L q).trans (ih _)
structure Ext (W:List Nat) (E0:Env) (fr0:List SV) (L0:AE) (E:Env) (fr:List SV) (L:AE):Prop where
 nm:∀ n,Al L0 n->E.nm n=E0.nm n/\Al L n
 ds:∀ t,t∉W->E.ds t=E0.ds t
 ZT:U3 L0 L
 len:fr.length=fr0.length
 out:∀ t,t∉W->fr.getD t AQ=fr0.getD t AQ
theorem Ext.refl (W:List Nat) (E:Env) (fr:List SV) (L:AE):Ext W E fr L E fr L:=⟨fun _ h=>⟨rfl,h⟩,fun _ _=>rfl,.refl _,rfl,fun _ _=>rfl⟩
theorem Ext.trans {W:List Nat} {E0 E1 E2:Env} {f0 f1 f2:List SV} {L0 L1 L2:AE} (h:Ext W E0 f0 L0 E1 f1 L1) (k:Ext W E1 f1 L1 E2 f2 L2):Ext W E0 f0 L0 E2 f2 L2:=
 ⟨fun n hn=>by obtain⟨a,b⟩:=h.nm n hn;obtain⟨c,d⟩:=k.nm n b;exact⟨c.trans a,d⟩,fun t ht=>(k.ds t ht).trans (h.ds t ht),h.ZT.trans k.ZT,k.len.trans h.len,fun t ht=>(k.out t ht).trans (h.out t ht)⟩
theorem Ext.mono {W W' :List Nat} {E0 E1:Env} {f0 f1:List SV} {L0 L1:AE} (h:Ext W E0 f0 L0 E1 f1 L1) (hs:∀ t,t∈W->t∈W'):Ext W' E0 f0 L0 E1 f1 L1:=
 ⟨h.nm,fun t ht=>h.ds t (fun hx=>ht (hs t hx)),h.ZT,h.len,fun t ht=>h.out t (fun hx=>ht (hs t hx))⟩
theorem CE (fr:List SV) (t k:Nat) (v:SV):(fr.set t v).getD k AQ=if t=k/\t<fr.length then v else fr.getD k AQ:=by
 simp only[List.getD,xY]
 by_cases h:t=k
 ·subst h
  by_cases h2:t<fr.length
  ·simp [h2]
  ·simp [h2]
 ·simp [h]
theorem VU {E E' :Env} {L L' :AE} {fr:List SV} (hf:iD E L fr) (hnm:∀ n,Al L n->E'.nm n=E.nm n/\Al L' n) (hds:E'.ds=E.ds):AH E' fr=AH E fr/\iD E' L' fr:=by
 have key:∀ t,(fr.getD t AQ).den E' =(fr.getD t AQ).den E/\((fr.getD t AQ).wf E' L' \/fr.getD t AQ= .dJ t):=by
  intro t
  rcases hf t with h|h
  ·obtain⟨h1,h2⟩:=QG (fun n hn=>(hnm n hn).2) (fun n hn=>(hnm n hn).1) _ h
   exact⟨h2,.inl h1⟩
  ·exact⟨by rw[h];simp only[SV.den,hds],.inr h⟩
 refine⟨?_,fun t=>(key t).2⟩
 apply Q8
 intro i
 rw[C5,C5]
 by_cases hi:i<fr.length
 ·have:=(key i).1
  simp only[List.getD,KA hi,AG1] at this
  rw[KA hi]
  simp [this]
 ·rw[N8 (by omega)];rfl
theorem iD.put {E:Env} {L:AE} {fr:List SV} (h:iD E L fr) (d:Option Tmp) {v:SV} (hv:v.wf E L):iD E L (LO fr d v):=by
 cases d with
 |none=>exact h
 |some d=>
  intro t
  simp only[LO,CE]
  split
  ·exact .inl hv
  ·exact h t
theorem bJ (E:Env) (L:AE):AQ.wf E L:=trivial
theorem AI3 {E:Env} {L:AE} {fr:List SV} (h:iD E L fr) (x:Operand):(X2 fr x).wf E L:=by
 unfold X2
 cases x with
 |tmp t=>
  show (clean (fr.getD t AQ)).wf E L
  rcases h t with h|h
  ·cases hx:fr.getD t AQ <;> first|(rw[hx] at h;exact h)|(rw[hx] at h;exact h.elim)
  ·rw[h];exact bJ _ _
 |const v=>
  simp only[ev]
  split
  all_goals first|trivial|(split <;> trivial)
 |global g=>trivial
 |func f=>trivial
section
variable {P:Program} {ops:Array Oper} {Q:Exit->Act->World->Prop}
theorem zQ [QF] {E:Env} {fr:List SV} {a:Act} (hs:Sim E fr a) {j t:Nat} {oj:Oper} {b:Bool} (hj:ops.toList[j]? =some oj) (hd:oj.dst=some t) (hv:fr.getD t AQ= .HF b):yielded ops a.tmps j=some b:=by
 have hj' :ops[j]? =some oj:=by rw[<-XT];exact hj
 have ht:a.tmps[t]? =some (.bool b):=by
  rw[hs.1,g_,C5]
  cases hx:fr[t]? with
  |none=>simp [List.getD,hx,AQ] at hv
  |some v=>simp [List.getD,hx] at hv;simp [hv,SV.den]
 simp [yielded,hj',hd,ht]
theorem vV [QF] {E:Env} {fr:List SV} {a:Act} (hs:Sim E fr a) {j t:Nat} {oj:Oper} {vs:Array Value} (hj:ops.toList[j]? =some oj) (hd:oj.dst=some t) (hv:fr.getD t AQ= .raw (.tuple vs)):yielded ops a.tmps j=none:=by
 have hj' :ops[j]? =some oj:=by rw[<-XT];exact hj
 unfold yielded
 rw[hj']
 simp only[VC,hd,hs.1,g_,C5]
 cases hx:fr[t]? with
 |none=>rfl
 |some v=>simp [List.getD,hx] at hv;simp [hv,SV.den]
theorem pN [QF] {E:Env} {fr:List SV} {a:Act} (hs:Sim E fr a) {o:Oper} {b:Bool} (h:VS ops.toList o fr=some b):Region.wanted o (yielded ops a.tmps)=b:=by
 unfold VS at h
 unfold Region.wanted
 split at h
 ·rename_i hg
  simp only[AR] at h
  rw[hg];exact h
 ·rename_i j want hg
  rw[hg]
  simp only
  split at h
  ·cases h
  ·rename_i oj hj
   split at h
   ·cases h
   ·rename_i t hd
    split at h
    ·rename_i b' hv
     simp only[AR] at h
     rw[zQ hs hj hd hv,←h]
     cases b' <;> cases want <;> rfl
    ·rename_i vs hv
     simp only[AR] at h
     rw[vV hs hj hd hv,←h];rfl
    ·cases h
theorem AAS [QF] {cx:Cx} (hcx:cx.Ok P) {o:Oper} {i k:Nat} (ho:ops[i]? =some o) {c:B4 cx.tb} {E:Env} {fr:List SV} {L:AE} {a:Act} {w:World} (hst:St c E fr L a w) {AI:Nat->Option AO} (A8:∀ n e,AI n=some e->look L n=some e)
  {v:SV} {u:BH} (h:VT P cx ops.toList o k fr AI pr=some (v,u)) {K:Act->World->Prop}
  (hK:∀ E' a' w',St c E' (LO fr o.dst v) (AD L u) a' w' ->(∀ n,Al L n->E'.nm n=E.nm n/\Al (AD L u) n)->E'.ds=E.ds->K a' w'):wpOp P ops Q i K a w:=by
 unfold wpOp
 rw[ho]
 simp only
 unfold VT at h
 split at h
 ·cases h
 ·rename_i hg
  simp only[pr,AR,BP] at h
  obtain⟨rfl,rfl⟩:=h
  rw[pN hst.bI hg]
  simp only[XU,Q_]
  exact hK E _ w ⟨hst.bI.put o.dst AQ,hst.hd,hst.wf.put o.dst (bJ _ _)⟩ (fun n hn=>⟨rfl,hn⟩) rfl
 ·rename_i hg
  rw[pN hst.bI hg]
  simp only[GJ]
  refine .inl ?_
  split at h
  ·cases h
  rename_i hnu
  obtain⟨v0,AEV,hvv⟩:∃ v0,core P cx AI o.dst (X2 fr) pr o.op=some (v0,u)/\(∀ E:Env,v.den E=v0.den E)/\(∀ E L,v0.wf E L->v.wf E L):=by
   cases hs:AJJ ops.toList k with
   |false=>rw[hs] at h;exact⟨v,h,fun _=>rfl,fun _ _ h=>h⟩
   |true=>
    rw[hs] at h
    simp only at h
    rw[bE,tV] at h
    obtain⟨⟨v0,u0⟩,h1,h2⟩:=h
    obtain⟨b,hb,h3⟩:=fS h2
    simp only[pr,AR,BP] at h3
    obtain⟨rfl,rfl⟩:=h3
    exact⟨v0,h1,fun E=>by rw[NQ hb];rfl,fun _ _ _=>trivial⟩
  have ANV:∀ cs b,o.op≠ .select cs b:=by
   intro cs b he
   rw[he] at AEV
   cases hfz:cx.AGT o.dst <;> (cases hkq:(cx.keeps o.dst && Op.AAI (Op.select cs b)) <;> simp [core,core0,MA,hfz,VE,vD,vE,Op.AAI] at AEV hkq)
  obtain⟨G,hG⟩:=hst.hd
  refine AHB hcx A8 AEV c w E ⟨G,hG⟩ (fun x=>AI3 hst.wf x) a _ Q ?_ ?_
  ·refine execOp_congr o ANV fun x hx=> ?_
   rw[LN hst.bI x]
   have:=Q7.1 hnu x (by simpa using hx)
   unfold X2
   cases hv:ev fr x <;> first|rfl|(rw[hv] at this;simp [kQ] at this)
  ·intro E' w' hH hnm hds fG
   obtain⟨d1,d2⟩:=VU hst.wf hnm hds
   have hs' :Sim E' fr a:=⟨by rw[hst.bI.1,d1],hst.bI.2⟩
   refine hK E' _ w' ⟨?_,hH,d2.put o.dst (hvv.2 _ _ fG)⟩ hnm hds
   rw[<-hvv.1 E']
   exact hs'.put o.dst v
theorem AAT {W:List Nat} {fr:List SV} {d:Option Tmp} {v:SV} (h:∀ t,d=some t->t∈W):∀ t,t∉W->(LO fr d v).getD t AQ=fr.getD t AQ:=by
 intro t ht
 cases d with
 |none=>rfl
 |some d=>
  simp only[LO,CE]
  rw[BC]
  rintro⟨rfl,_⟩
  exact ht (h d rfl)
theorem fT (fr:List SV) (d:Option Tmp) (v:SV):(LO fr d v).length=fr.length:=by cases d <;> simp [LO]
theorem vW [QF] {α:Type} {cx:Cx} (hcx:cx.Ok P) {W:List Nat} {c:B4 cx.tb} {fr0:List SV} {L0:AE} {E0:Env} {K:List SV->AE->Option α} {r0:α}
  (hK:∀ E' fr' L' a' w',St c E' fr' L' a' w' ->Ext W E0 fr0 L0 E' fr' L' ->K fr' L' =some r0->Q .normal a' w'):
  ∀ (rest:List Oper) (k:Nat),ops.toList.drop k=rest->(∀ o∈rest,∀ d,o.dst=some d->d∈W)->∀ (E:Env) (fr:List SV) (L:AE) (a:Act) (w:World),St c E fr L a w->Ext W E0 fr0 L0 E fr L→
   AEU P cx ops.toList rest k fr L K=some r0->wpOps P ops Q (List.range' k rest.length) a w
 | [],k,_,_,E,fr,L,a,w,hst,I4,hv=>hK E fr L a w hst I4 hv
 |o::rest,k,hd,hW,E,fr,L,a,w,hst,I4,hv=>by
  have XZ:ops[k]? =some o:=by
   rw[<-XT]
   have:=ZA (fun l=>l[0]?) hd
   simpa [Y8] using this
  have hd' :ops.toList.drop (k+1)=rest:=by
   have:=ZA (List.drop 1) hd
   simpa [List.drop_drop,Nat.add_comm] using this
  obtain⟨v,u,h1,h2⟩:=kR hv
  show wpOps P ops Q (k::List.range' (k+1) rest.length) a w
  rw[wpOps_cons]
  refine AAS hcx XZ hst (fun n e h=>h) h2 fun E' a' w' kS hnm hds=> ?_
  refine vW hcx hK rest (k+1) hd' (fun o' ho' =>hW o' (by simp [ho'])) E' _ _ a' w' kS (I4.trans ?_) h1
  exact⟨hnm,fun t _=>by rw[hds],U3.AD L u,fT _ _ _,AAT fun t ht=>hW o (by simp) t ht⟩
end
end Go.V3
namespace Go.V3
open Go
variable {TB:Tb}
def MC (o:Oper):List Nat:=(o.after.toList.filter (Region.binds .any)).map (·.on)
def vX (ops:List Oper):Nat->List Nat->List Nat->List Nat
 |0,_,seen=>seen
 |_+1,[],seen=>seen
 |n+1,i::todo,seen=>if seen.contains i then vX ops n todo seen else match ops[i]? with
  |some o=>vX ops n (MC o++todo) (i::seen)
  |none=>vX ops n todo seen
def AAU (ops:List Oper) (o:Oper):List Nat:=vX ops 4000 (MC o) []
def S5 (all:List Oper) (o:Oper):List Nat:=
 (o.op.operands.toList.filterMap fun| .tmp t=>some t|_=>none)++(match o.guard with
  |some (g,_)=>(match all[g]? with
   |some oj=>oj.dst.toList
   |none=>[])
  |none=>[])
mutual
def AEW:SV->List Nat
 | .loc i _=>[i]
 | .el i _ _ _=>[i]
 | .H9 i=>[i]
 | .sub i _ _ _=>[i]
 | .agg cs=>kT cs
 | .oO vs=>kT vs
 | .mpv i=>[i]
 | .tsl i _ _=>[i]
 | .tel i _ _ _=>[i]
 | .bsl i _ _ _=>[i]
 | .NP _ cs=>kT cs
 |_=>[]
def kT:List SV->List Nat
 | []=>[]
 |v::r=>AEW v++kT r
end
def P0 (fr:List SV) (o:Oper):List Nat:=o.op.operands.toList.flatMap fun x=>AEW (X2 fr x)
def OO (AI:Nat->Option AO) (i:Nat):List Nat:=match AI i with
 |some (.box cs)=>kT cs
 |some (.deep _ _ (some (_,j)))=>[j]
 |_=>[]
def ALI:Op->Bool
 | .move _=>true
 | .assign _=>true
 |_=>false
def RN (fr:List SV):Op->Bool
 | .load _ x=>(match X2 fr x with
  | .loc _ _=>true
  |_=>false)
 | .fieldAddr _ x _=>(match X2 fr x with
  | .loc _ _=>true
  |_=>false)
 | .nilCheck x=>(match X2 fr x with
  | .loc _ _=>true
  |_=>false)
 |_=>false
def RO (fr:List SV):Op->Bool
 | .call { callee:= .value f,.. }=>(match X2 fr f with
  | .NP _ _=>true
  |_=>false)
 |_=>false
def KN (cx:Cx) (fr:List SV) (AI:Nat->Option AO) (o:Oper):List Nat:=match ALI o.op && !cx.AGT o.dst with
 |true=>[]
 |false=>P0 fr o++(match RN fr o.op with
  |true=>[]
  |false=>(P0 fr o).flatMap (OO AI)++(match RO fr o.op with
   |true=>((P0 fr o).flatMap (OO AI)).flatMap (OO AI)
   |false=>[]))++(List.range (cx.rng o.dst).2).map fun k=>(cx.rng o.dst).1+k
def fU (ft:List Nat) (AI:Nat->Option AO) (n:Nat):Option AO:=match ft.contains n with
 |true=>AI n
 |false=>none
structure Met where
 i:Nat
 dst:Option Nat
 lks:List Nat
 rd:List Nat
 wr:List Nat
def eJ (x y:Met):Bool:=
 (match x.dst with
 |some d=> !y.lks.contains d && !(y.dst==some d)
 |none=>true) && (match y.dst with
 |some d=> !x.lks.contains d
 |none=>true) && x.wr.all (fun n=> !y.rd.contains n && !y.wr.contains n) && y.wr.all (fun n=> !x.rd.contains n)
section
variable {α:Type}
def AJK (P:Program) (cx:Cx) (all:List Oper):List Oper->Nat->List Met->List SV->AE->(List SV->AE->Option α)->Option α
 | [],_,_,fr,L,K=>K fr L
 |o::r,k,acc,fr,L,K=>VT P cx all o k fr (fU (KN cx fr (look L) o) (look L)) (fun v u=>
  match acc.all (fun q=>(AAU all o).contains q.i||eJ q ⟨k,o.dst,S5 all o,KN cx fr (look L) o,u.map (·.1)⟩) with
  |true=>AJK P cx all r (k+1) (⟨k,o.dst,S5 all o,KN cx fr (look L) o,u.map (·.1)⟩::acc) (LO fr o.dst v) (AD L u) K
  |false=>none)
end
def vY (all:List Oper):List Oper->Nat->Bool
 | [],_=>true
 |o::r,k=>(MC o).all (fun j=>decide (j<k)) && vY all r (k+1)
def sst (P:Program) (cx:Cx) (all:List Oper) (i:Nat) (s:List SV×AE):Option ((List SV×AE)×Met):=
 match all[i]? with
 |none=>none
 |some o=>match VT P cx all o i s.1 (fU (KN cx s.1 (look s.2) o) (look s.2)) pr with
  |some (v,u)=>some ((LO s.1 o.dst v,AD s.2 u),⟨i,o.dst,S5 all o,KN cx s.1 (look s.2) o,u.map (·.1)⟩)
  |none=>none
def Run (P:Program) (cx:Cx) (all:List Oper):List Nat->List SV×AE->List SV×AE->List Met->Prop
 | [],s,s',fs=>s' =s/\fs=[]
 |i::l,s,s',fs=>∃ s1 f fs',sst P cx all i s=some (s1,f)/\Run P cx all l s1 s' fs' /\fs=f::fs'
def AHC (all:List Oper) (x y:Met):Prop:=(∃ o,all[y.i]? =some o/\x.i∈AAU all o)\/eJ x y=true
section
variable {P:Program} {cx:Cx} {all:List Oper}
theorem vZ {α:Type} {K:List SV->AE->Option α} {r0:α}:∀ (rest:List Oper) (k:Nat) (acc:List Met) (fr:List SV) (L:AE),all.drop k=rest->AJK P cx all rest k acc fr L K=some r0→
  ∃ s' fs,Run P cx all (List.range' k rest.length) (fr,L) s' fs/\K s'.1 s'.2=some r0/\fs.Pairwise (AHC all)/\∀ q∈acc,∀ f∈fs,AHC all q f
 | [],k,acc,fr,L,_,h=>⟨(fr,L),[],⟨rfl,rfl⟩,h,List.Pairwise.nil,fun _ _ _ hf=>by cases hf⟩
 |o::rest,k,acc,fr,L,hd,h=>by
  have XZ:all[k]? =some o:=by
   have:=ZA (fun l=>l[0]?) hd
   simpa [Y8] using this
  have hd' :all.drop (k+1)=rest:=by
   have:=ZA (List.drop 1) hd
   simpa [List.drop_drop,Nat.add_comm] using this
  obtain⟨v,u,h1,h2⟩:=kR h
  split at h1
  rotate_left
  ·cases h1
  rename_i ANW
  obtain⟨s',fs,r1,r2,r3,r4⟩:=vZ rest (k+1) _ _ _ hd' h1
  refine⟨s',⟨k,o.dst,S5 all o,KN cx fr (look L) o,u.map (·.1)⟩::fs,⟨(LO fr o.dst v,AD L u),⟨k,o.dst,S5 all o,KN cx fr (look L) o,u.map (·.1)⟩,fs, ?_,r1,rfl⟩,r2, ?_, ?_⟩
  ·simp only[sst,XZ,h2]
  ·exact List.Pairwise.cons (fun f hf=>r4 _ (by simp) f hf) r3
  ·intro q hq f hf
   rcases MK.1 hf with rfl|hf
   ·have:=Q7.1 ANW q hq
    rcases xZ _ _ ▸ this with h|h
    ·exact .inl ⟨o,XZ,by simpa using h⟩
    ·exact .inr h
   ·exact r4 q (by simp [hq]) f hf
theorem zR {α:Type} {AI:Nat->Option AO} {dst:Option Tmp} {ρ ρ' :Operand->SV} {K:SV->BH->Option α} {op:Op} (h:∀ x∈op.operands.toList,ρ x=ρ' x):core P cx AI dst ρ K op=core P cx AI dst ρ' K op:=by
 have AEX:∀ ps:Array (Nat×Operand),(∀ x∈ps.toList.map (·.2),ρ x=ρ' x)->(ps.toList.map fun q=>(q.1,ρ q.2))=(ps.toList.map fun q=>(q.1,ρ' q.2)):=fun ps hp=>
  VB fun p hm=>by
   obtain⟨i,x⟩:=p
   simp only[hp x (DB.2 ⟨(i,x),hm,rfl⟩)]
 have hfz:MA AI ρ K op=MA AI ρ' K op:=by
  cases op <;> simp only[Op.operands] at h <;> simp only[MA]
  all_goals rw[h _ (by simp)]
 have BV:vE P cx AI dst ρ op=vE P cx AI dst ρ' op/\m9 P cx AI dst ρ K op=m9 P cx AI dst ρ' K op:=by
  cases op <;> simp only[Op.operands] at h <;> simp only[vE,m9]
  case buildSlice t n ps=>rw[AEX ps fun x hx=>h x (by simpa using hx)];exact⟨trivial,rfl⟩
  case call c=>
   obtain⟨callee,args,ts⟩:=c
   have EN:args.toList.map ρ=args.toList.map ρ' :=VB fun x hx=>h x (by simp [Call.operands];exact .inr (by simpa using hx))
   cases callee with
   |builtin b=>cases b <;> simp only[EN] <;> exact⟨trivial,trivial⟩
   |value f=>
    have hf:ρ f=ρ' f:=h f (by simp [Call.operands])
    simp only[hf,EN];exact⟨trivial,trivial⟩
   |_=>exact⟨rfl,rfl⟩
  case slice t x lo hi mx=>cases lo <;> cases hi <;> cases mx <;> simp_all
  case binOp op t x y rt=>
   have hx:ρ x=ρ' x:=h x (by simp)
   have hy:ρ y=ρ' y:=h y (by simp)
   cases op <;> simp only[hx,hy] <;> exact⟨trivial,trivial⟩
  all_goals first|exact⟨trivial,trivial⟩|(simp_all;done)
 unfold core
 rw[hfz]
 split
 ·rfl
 unfold core0
 rw[BV.1,BV.2]
 clear BV
 generalize vE P cx AI dst ρ' op=NK
 generalize m9 P cx AI dst ρ' K op=NE
 cases op <;> simp only[Op.operands] at h <;> simp only[VE,vD]
 case build t ps=>rw[AEX ps fun x hx=>h x (by simpa using hx)]
 case buildSlice t n ps=>rw[AEX ps fun x hx=>h x (by simpa using hx)]
 case call c=>
  obtain⟨callee,args,ts⟩:=c
  have EN:args.toList.map ρ=args.toList.map ρ' :=VB fun x hx=>h x (by simp [Call.operands];exact .inr (by simpa using hx))
  cases callee with
  |builtin b=>cases b <;> simp only[EN]
  |value f=>
   have hf:ρ f=ρ' f:=h f (by simp [Call.operands])
   simp only[hf,EN]
  |_=>rfl
 case slice t x lo hi mx=>cases lo <;> cases hi <;> cases mx <;> simp_all
 case makeFunc fn first captured=>
  have hc:captured.toList.map ρ=captured.toList.map ρ' :=VB fun x hx=>h x (by simp;exact .inr (by simpa using hx))
  simp only[hc]
 case makeMap t r=>cases r <;> rfl
 case binOp op t x y rt=>
  have hx:ρ x=ρ' x:=h x (by simp)
  have hy:ρ y=ρ' y:=h y (by simp)
  cases op <;> simp only[hx,hy]
 all_goals first|rfl|(simp_all;done)
theorem AEY {fr:List SV} {d:Option Tmp} {v:SV} {x:Operand} (h:∀ t,d=some t->x≠ .tmp t):ev (LO fr d v) x=ev fr x:=by
 cases d with
 |none=>rfl
 |some d=>
  cases x with
  |tmp t=>
   show (fr.set d v).getD t AQ=fr.getD t AQ
   rw[CE,BC]
   rintro⟨rfl,_⟩
   exact h d rfl rfl
  |_=>rfl
theorem ACQ {fr:List SV} {x y:Option Tmp} {u v:SV} (h:∀ d,x=some d->y≠some d):LO (LO fr x u) y v=LO (LO fr y v) x u:=by
 cases x with
 |none=>rfl
 |some d=>
  cases y with
  |none=>rfl
  |some e=>
   have KF:d≠e:=fun he=>h d rfl (he ▸ rfl)
   simp [LO,List.set_comm _ _ KF]
theorem D7 {L:AE} {u:BH} {n:Nat} (h:n∉u.map (·.1)):look (AD L u) n=look L n/\(AD L u)[n]? =L[n]? :=by
 induction u generalizing L with
 |nil=>exact⟨rfl,rfl⟩
 |cons q r ih=>
  simp only[OI,MK,not_or] at h
  obtain⟨i1,i2⟩:=ih (L:=BS L q) h.2
  have hu:(BS L q)[n]? =L[n]? :=by
   unfold BS
   split
   ·rw[AD8 (fun he=>h.1 he.symm)]
   ·rfl
  have e2:(AD L (q::r))[n]? =L[n]? :=i2.trans hu
  exact⟨by unfold look;rw[e2],e2⟩
theorem v_ {L L' :AE} {u:BH} {n:Nat} (h:L[n]? =L'[n]?):(AD L u)[n]? =(AD L' u)[n]? :=by
 induction u generalizing L L' with
 |nil=>exact h
 |cons q r ih=>
  refine ih (L:=BS L q) (L' :=BS L' q) ?_
  by_cases hn:q.1=n
  ·subst hn
   unfold BS
   rw[<-h]
   cases hx:L[q.1]? with
   |none=>simp only;rw[hx,←h,hx]
   |some p=>
    obtain⟨v,e⟩:=p
    simp only
    have h1:q.1<L.length:=by
     rcases GR q.1 L.length with h' |h'
     ·exact h'
     ·rw[N8 h'] at hx;cases hx
    have h2:q.1<L'.length:=by
     rcases GR q.1 L'.length with h' |h'
     ·exact h'
     ·rw[h,N8 h'] at hx;cases hx
    rw[AD6 h1,AD6 h2]
  ·have e:∀ L:AE,(BS L q)[n]? =L[n]? :=by
    intro L
    unfold BS
    split
    ·rw[AD8 hn]
    ·rfl
   rw[e,e,h]
theorem ACR {L:AE} {u v:BH} (h:∀ n∈u.map (·.1),n∉v.map (·.1)):AD (AD L u) v=AD (AD L v) u:=by
 apply Q8
 intro n
 by_cases hu:n∈u.map (·.1)
 ·have hv:=h n hu
  rw[(D7 hv).2]
  exact v_ ((D7 hv).2).symm
 ·rw[(D7 hu).2]
  exact v_ (D7 hu).2
theorem wA {ft:List Nat} {f g:Nat->Option AO} (h:∀ n∈ft,f n=g n):fU ft f=fU ft g:=by
 funext n
 unfold fU
 cases hc:ft.contains n with
 |true=>exact h n (by simpa using hc)
 |false=>rfl
theorem ACS {o:Oper} {t:Nat} (h:Operand.tmp t∈o.op.operands.toList):t∈S5 all o:=DU.2 (.inl (xW.2 ⟨.tmp t,h,rfl⟩))
theorem pO {i:Nat} {o:Oper} (ho:all[i]? =some o) {fr fr' :List SV} {L L' :AE} (hev:∀ x∈o.op.operands.toList,ev fr' x=ev fr x) (hg:VS all o fr' =VS all o fr) (hL:∀ n∈KN cx fr (look L) o,look L' n=look L n):
  KN cx fr' (look L') o=KN cx fr (look L) o∧
   VT P cx all o i fr' (fU (KN cx fr' (look L') o) (look L')) pr=VT P cx all o i fr (fU (KN cx fr (look L) o) (look L)) pr:=by
 have hd:P0 fr' o=P0 fr o:=by
  unfold P0
  rw[ABJ,ABJ]
  congr 1
  apply VB
  intro x hx
  simp only[X2,hev x hx]
 have hf:KN cx fr' (look L') o=KN cx fr (look L) o:=by
  cases hm:ALI o.op && !cx.AGT o.dst with
  |true=>unfold KN;rw[hm]
  |false=>
   have hbl:RN fr' o.op=RN fr o.op:=by
    unfold RN
    cases CD:o.op <;> try rfl
    all_goals rw[CD] at hev
    all_goals simp only[X2]
    all_goals rw[hev _ (by simp [Op.operands])]
   have hcc:RO fr' o.op=RO fr o.op:=by
    unfold RO
    cases CD:o.op <;> try rfl
    rename_i cl
    obtain⟨cal,args,ats⟩:=cl
    cases cal <;> try rfl
    rename_i f
    rw[CD] at hev
    simp only[X2]
    rw[hev f (by simp [Op.operands,Go.Call.operands])]
   unfold KN
   rw[hm,hd,hbl]
   simp only
   congr 2
   cases hb:RN fr o.op with
   |true=>rfl
   |false=>
   simp only
   have h1:(P0 fr o).flatMap (OO (look L'))=(P0 fr o).flatMap (OO (look L)):=by
    rw[ABJ,ABJ]
    congr 1
    apply VB
    intro n hn
    unfold OO
    rw[hL n (by unfold KN;rw[hm];exact DU.2 (.inl (DU.2 (.inl hn))))]
   rw[h1,hcc]
   congr 1
   cases hc:RO fr o.op with
   |false=>rfl
   |true=>
   simp only
   rw[ABJ,ABJ]
   congr 1
   apply VB
   intro n hn
   have hn' :n∈KN cx fr (look L) o:=by
    unfold KN;rw[hm,hb];exact DU.2 (.inl (DU.2 (.inr (DU.2 (.inl hn)))))
   unfold OO
   rw[hL n hn']
 refine⟨hf, ?_⟩
 rw[hf,wA hL]
 unfold VT
 rw[hg]
 have hnu:AAR fr' o.op=AAR fr o.op:=by
  unfold AAR
  rw[ABK]
  simp only[Q7]
  constructor
  ·intro h x hx;rw[<-hev x hx];exact h x hx
  ·intro h x hx;rw[hev x hx];exact h x hx
 rw[hnu]
 split
 ·rfl
 ·rfl
 ·split
  ·rfl
  ·exact zR fun x hx=>by simp only[X2,hev x hx]
theorem wB {x y:Met} (h:eJ x y=true):(∀ d,x.dst=some d->d∉y.lks)/\(∀ d,x.dst=some d->y.dst≠some d)/\(∀ d,y.dst=some d->d∉x.lks)/\(∀ n∈x.wr,n∉y.rd/\n∉y.wr)/\(∀ n∈y.wr,n∉x.rd):=by
 unfold eJ at h
 simp only[PG,Q7,Y9,qD,tU] at h
 obtain⟨⟨⟨h1,h2⟩,h3⟩,h4⟩:=h
 refine⟨fun d hd=> ?_,fun d hd=> ?_,fun d hd=> ?_,h3,h4⟩
 ·rw[hd] at h1;simp at h1;exact h1.1
 ·rw[hd] at h1;simp at h1;exact h1.2
 ·rw[hd] at h2;simpa using h2
theorem fV {o:Oper} {fr:List SV} {d:Option Tmp} {v:SV} (h:∀ t,d=some t->t∉S5 all o):VS all o (LO fr d v)=VS all o fr:=by
 unfold VS
 cases hg:o.guard with
 |none=>rfl
 |some q=>
  obtain⟨j,want⟩:=q
  simp only
  cases hj:all[j]? with
  |none=>rfl
  |some oj=>
   simp only
   cases hd:oj.dst with
   |none=>rfl
   |some t=>
    simp only
    have:(LO fr d v).getD t AQ=fr.getD t AQ:=by
     cases d with
     |none=>rfl
     |some d=>
      simp only[LO,CE]
      rw[BC]
      rintro⟨rfl,_⟩
      refine h d rfl ?_
      unfold S5
      rw[hg]
      simp [hj,hd]
    rw[this]
theorem kU {o:Oper} {fr:List SV} {d:Option Tmp} {v:SV} (h:∀ t,d=some t->t∉S5 all o):∀ x∈o.op.operands.toList,ev (LO fr d v) x=ev fr x:=by
 intro x hx
 refine AEY fun t ht he=>h t ht ?_
 subst he
 exact ACS hx
theorem AEZ {x i:Nat} {s s1 s2:List SV×AE} {f g:Met} (h1:sst P cx all x s=some (s1,f)) (h2:sst P cx all i s1=some (s2,g)) (ha:eJ f g=true):
  ∃ s1',sst P cx all i s=some (s1',g)/\sst P cx all x s1' =some (s2,f):=by
 obtain⟨fr,L⟩:=s
 unfold sst at h1 h2
 split at h1
 ·cases h1
 rename_i ox hox
 split at h1
 rotate_left
 ·cases h1
 rename_i vx ux hx
 simp only[AR,BP] at h1
 obtain⟨rfl,rfl⟩:=h1
 split at h2
 ·cases h2
 rename_i oi hoi
 split at h2
 rotate_left
 ·cases h2
 rename_i vi ui hi
 simp only[AR,BP] at h2
 obtain⟨rfl,rfl⟩:=h2
 obtain⟨a1,a2,a3,a4,a5⟩:=wB ha
 simp only at a1 a2 a3 a4 a5 hi hx
 obtain⟨f1,f2⟩:=pO (P:=P) (cx:=cx) hoi (fr:=LO fr ox.dst vx) (fr' :=fr) (L:=AD L ux) (L' :=L) (fun y hy=>(kU a1 y hy).symm) (fV a1).symm
  (fun n hn=>((D7 (fun hw=>(a4 n hw).1 hn)).1).symm)
 obtain⟨g1,g2⟩:=pO (P:=P) (cx:=cx) hox (fr:=fr) (fr' :=LO fr oi.dst vi) (L:=L) (L' :=AD L ui) (fun y hy=>kU a3 y hy) (fV a3)
  (fun n hn=>(D7 (fun hw=>a5 n hw hn)).1)
 refine⟨(LO fr oi.dst vi,AD L ui), ?_, ?_⟩
 ·unfold sst
  rw[hoi]
  simp only
  rw[f2,hi]
  simp only[f1]
 ·unfold sst
  rw[hox]
  simp only
  rw[g2,hx]
  simp only[g1]
  rw[ACQ (fr:=fr) (x:=ox.dst) (y:=oi.dst) (u:=vx) (v:=vi) a2,ACR (L:=L) (u:=ux) (v:=ui) (fun n hn=>(a4 n hn).2)]
theorem kV {i:Nat}:∀ (l1 l2:List Nat) (s s' :List SV×AE) (fs:List Met),Run P cx all (l1++i::l2) s s' fs->fs.Pairwise (AHC all)->(∀ x∈l1,∀ o,all[i]? =some o->x∉AAU all o)→
  ∃ g fs',Run P cx all (i::(l1++l2)) s s' (g::fs')/\g∈fs/\g.i=i/\fs'.Sublist fs
 | [],l2,s,s',fs,h,_,_=>by
  obtain⟨s1,f,fs',h1,h2,rfl⟩:=h
  refine⟨f,fs',⟨s1,f,fs',h1,h2,rfl⟩,by simp, ?_,List.sublist_cons_self _ _⟩
  unfold sst at h1
  split at h1
  ·cases h1
  ·split at h1
   ·simp only[AR,BP] at h1;rw[<-h1.2]
   ·cases h1
 |x::l1,l2,s,s',fs,h,hp,ha=>by
  obtain⟨s1,f,fs1,h1,h2,rfl⟩:=h
  rw[List.pairwise_cons] at hp
  obtain⟨g,fs',k1,k2,k3,k4⟩:=kV l1 l2 s1 s' fs1 h2 hp.2 (fun y hy=>ha y (by simp [hy]))
  obtain⟨s2,g',fs2,k5,k6,k7⟩:=k1
  simp only[XV] at k7
  obtain⟨rfl,rfl⟩:=k7
  have hfi:f.i=x:=by
   unfold sst at h1
   split at h1
   ·cases h1
   ·split at h1
    ·simp only[AR,BP] at h1;rw[<-h1.2]
    ·cases h1
  have hap:eJ f g=true:=by
   rcases hp.1 g k2 with ⟨o,ho,hx⟩|h
   ·rw[k3] at ho
    rw[hfi] at hx
    exact absurd hx (ha x (by simp) o ho)
   ·exact h
  obtain⟨s1',q1,q2⟩:=AEZ h1 k5 hap
  exact⟨g,f::fs',⟨s1',g,_,q1,⟨s2,f,_,q2,k6,rfl⟩,rfl⟩,by simp [k2],k3,k4.cons_cons f⟩
end
section
variable {P:Program} {ops:Array Oper} {Q:Exit->Act->World->Prop}
def wC (listed:Array Bool) (i:Nat):Prop:=listed.getD i false=true
theorem wD {listed:Array Bool} (hc:∀ i o,ops[i]? =some o->wC listed i->∀ j∈MC o,wC listed j):∀ (n:Nat) (todo seen:List Nat),(∀ j∈todo,wC listed j)->(∀ j∈seen,wC listed j)->∀ j∈vX ops.toList n todo seen,wC listed j:=by
 intro n
 induction n with
 |zero=>intro todo seen _ h2 j hj;exact h2 j (by simpa [vX] using hj)
 |succ n ih=>
  intro todo seen h1 h2
  cases todo with
  |nil=>intro j hj;exact h2 j (by simpa [vX] using hj)
  |cons i todo=>
   have hi:=h1 i (by simp)
   have ht:∀ j∈todo,wC listed j:=fun j hj=>h1 j (by simp [hj])
   simp only[vX]
   split
   ·exact ih todo seen ht h2
   ·split
    ·rename_i o ho
     refine ih _ _ ?_ ?_
     ·intro j hj
      rcases DU.1 hj with hj|hj
      ·exact hc i o (by rw[<-XT];exact ho) hi j hj
      ·exact ht j hj
     ·intro j hj
      rcases MK.1 hj with rfl|hj
      ·exact hi
      ·exact h2 j hj
    ·exact ih todo seen ht h2
theorem kW:∀ (l:List Oper) (k:Nat),vY ops.toList l k=true->∀ (i:Nat) (o:Oper),l[i]? =some o->∀ j∈MC o,j<k+i
 | [],_,_,i,o,h=>by simp at h
 |o' ::r,k,h,i,o,ho=>by
  simp only[vY,PG,Q7,OH] at h
  cases i with
  |zero=>simp only[U9,AR] at ho;subst ho;exact h.1
  |succ i=>
   intro j hj
   have:=kW r (k+1) h.2 i o (by simpa using ho) j hj
   omega
theorem fW {o:Oper} {j:Nat}:j∈MC o↔∃ e∈o.after,Region.binds .any e=true/\e.on=j:=by
 unfold MC
 simp only[DB,List.mem_filter]
 constructor
 ·rintro⟨e,⟨h1,h2⟩,h3⟩;exact⟨e,by simpa using h1,h2,h3⟩
 ·rintro⟨e,h1,h2,h3⟩;exact⟨e,⟨by simpa using h1,h2⟩,h3⟩
structure Sg (ops:Array Oper) (listed:Array Bool) (l:List Nat):Prop where
 size:listed.size=ops.size
 mem:∀ i,i∈l↔i<ops.size/\¬wC listed i
 sorted:l.Pairwise (·< ·)
 closed:∀ i o,ops[i]? =some o->wC listed i->∀ j∈MC o,wC listed j
theorem AJL [QF] {cx:Cx} (hcx:cx.Ok P) (ALJ:vY ops.toList ops.toList 0=true) {W:List Nat} (hW:∀ (i:Nat) (o:Oper),ops[i]? =some o->∀ d,o.dst=some d->d∈W) {c:B4 cx.tb} {fr0:List SV} {L0:AE} {E0:Env} {s' :List SV×AE}
  (hK:∀ E' a' w',St c E' s'.1 s'.2 a' w' ->Ext W E0 fr0 L0 E' s'.1 s'.2->Q .normal a' w'):
  ∀ (n:Nat) (l:List Nat) (listed:Array Bool) (fs:List Met) (s:List SV×AE) (E:Env) (a:Act) (w:World),l.length=n->Sg ops listed l->Run P cx ops.toList l s s' fs->fs.Pairwise (AHC ops.toList)->St c E s.1 s.2 a w->Ext W E0 fr0 L0 E s.1 s.2→
   wpAny P .any ops Q n listed a w:=by
 have zS:∀ (listed:Array Bool) (l:List Nat),Sg ops listed l->∀ i,i∈Region.ready .any ops listed↔i∈l/\∃ o,ops[i]? =some o/\∀ j∈MC o,wC listed j:=by
  intro listed l hs i
  rw[mem_ready]
  constructor
  ·rintro⟨h1,o,ho,h2⟩
   have CP:i<ops.size:=(Array.getElem?_eq_some_iff.1 ho).1
   have j4:i<listed.size:=by rw[hs.size];exact CP
   refine⟨(hs.mem i).2 ⟨CP,fun hx=> ?_⟩,o,ho,fun j hj=> ?_⟩
   ·unfold wC at hx
    simp [j4] at h1 hx
    rw[h1] at hx;cases hx
   ·obtain⟨e,he,hb,rfl⟩:=fW.1 hj
    exact h2 e he hb
  ·rintro⟨h1,o,ho,h2⟩
   obtain⟨CP,hn⟩:=(hs.mem i).1 h1
   have j4:i<listed.size:=by rw[hs.size];exact CP
   refine⟨?_,o,ho,fun e he hb=>h2 _ (fW.2 ⟨e,he,hb,rfl⟩)⟩
   unfold wC at hn
   simp [j4] at hn ⊢
   exact hn
 intro n
 induction n with
 |zero=>
  intro l listed fs s E a w hl hs ET hpw hst I4
  obtain rfl:l=[]:=List.eq_nil_of_length_eq_zero hl
  obtain⟨rfl,rfl⟩:=ET
  refine⟨List.eq_nil_iff_forall_not_mem.2 fun i hi=> ?_,hK E a w hst I4⟩
  have:=((zS _ _ hs i).1 hi).1
  cases this
 |succ n ih=>
  intro l listed fs s E a w hl hs ET hpw hst I4
  refine⟨fun h0=> ?_,fun i hi=> ?_⟩
  ·exfalso
   cases l with
   |nil=>simp at hl
   |cons k r=>
    obtain⟨CP,hn⟩:=(hs.mem k).1 (by simp)
    have ho:ops[k]? =some ops[k]:=Array.getElem?_eq_getElem CP
    have:k∈Region.ready .any ops listed:=(zS _ _ hs k).2 ⟨by simp,_,ho,fun j hj=>by
     have hjk:=kW ops.toList 0 ALJ k ops[k] (by rw[XT];exact ho) j hj
     rw[KB] at hjk
     refine Classical.byContradiction fun hx=> ?_
     have pI:=(hs.mem j).2 ⟨by omega,hx⟩
     rcases MK.1 pI with rfl|pI
     ·omega
     ·have:=(List.pairwise_cons.1 hs.sorted).1 j pI
      omega⟩
    rw[h0] at this;cases this
  ·obtain⟨hil,o,ho,ALK⟩:=(zS _ _ hs i).1 hi
   obtain⟨l1,l2,rfl⟩:=List.append_of_mem hil
   have ho' :ops.toList[i]? =some o:=by rw[XT];exact ho
   have ANX:∀ x∈l1,∀ o',ops.toList[i]? =some o' ->x∉AAU ops.toList o' :=by
    intro x hx o' ho2 XG
    rw[ho'] at ho2
    simp only[AR] at ho2
    subst ho2
    have:=wD hs.closed 4000 (MC o) [] ALK (by simp) x XG
    exact ((hs.mem x).1 (by simp [hx])).2 this
   obtain⟨g,fs2,⟨s1,g',AR6,k5,k6,k7⟩,k2,k3,k4⟩:=kV l1 l2 s s' fs ET hpw ANX
   obtain⟨e1,e2⟩:=List.cons.inj k7
   subst e1
   rw[<-e2] at k6
   unfold sst at k5
   rw[ho'] at k5
   simp only at k5
   split at k5
   rotate_left
   ·cases k5
   rename_i v u ALL
   simp only[AR,BP] at k5
   obtain⟨rfl, -⟩:=k5
   refine AAS hcx ho hst (fun n e h=> ?_) ALL fun E' a' w' kS hnm hds=> ?_
   ·unfold fU at h
    split at h
    ·exact h
    ·cases h
   ·have JM:(l1++i::l2).Nodup:=hs.sorted.imp (fun h=>Nat.ne_of_lt h)
    have CP:i<ops.size:=((hs.mem i).1 hil).1
    have RK:∀ j,wC (listed.setIfInBounds i true) j↔j=i\/wC listed j:=by
     intro j
     unfold wC
     by_cases hji:i=j
     ·subst hji
      have:i<listed.size:=by rw[hs.size];exact CP
      simp [this]
     ·simp [Array.getElem?_setIfInBounds_ne hji,Ne.symm hji]
    refine ih (l1++l2) (listed.setIfInBounds i true) fs2 _ E' a' w' (by simp at hl ⊢;omega) ⟨by simp [hs.size],fun j=> ?_, ?_, ?_⟩ k6 (hpw.sublist k4) kS (I4.trans ?_)
    ·rw[RK,not_or]
     constructor
     ·intro hj
      have pI:j∈l1++i::l2:=by
       rcases DU.1 hj with h|h
       ·exact DU.2 (.inl h)
       ·exact DU.2 (.inr (by simp [h]))
      obtain⟨q1,q2⟩:=(hs.mem j).1 pI
      refine⟨q1, ?_,q2⟩
      rintro rfl
      rw[SQ] at JM
      rcases DU.1 hj with h|h
      ·exact JM.2.2 j h j (by simp) rfl
      ·exact (hJ.1 JM.2.1).1 h
     ·rintro⟨q1,q2,q3⟩
      have:=(hs.mem j).2 ⟨q1,q3⟩
      rcases DU.1 this with h|h
      ·exact DU.2 (.inl h)
      ·rcases MK.1 h with h|h
       ·exact absurd h q2
       ·exact DU.2 (.inr h)
    ·exact hs.sorted.sublist (List.Sublist.append_left (List.sublist_cons_self _ _) _)
    ·intro j oj hj hlj k hk
     rw[RK] at hlj ⊢
     right
     rcases hlj with rfl|hlj
     ·rw[ho] at hj;simp only[AR] at hj;subst hj;exact ALK k hk
     ·exact hs.closed j oj hj hlj k hk
    ·exact⟨hnm,fun t _=>by rw[hds],U3.AD _ _,fT _ _ _,AAT fun t ht=>hW i o ho t ht⟩
end
end Go.V3
namespace Go.V3
open Go
variable {TB:Tb}
def JW {σ β:Type} (f:σ->Option (σ ⊕ β)):Nat->σ->Option β
 |0,_=>none
 |n+1,s=>match f s with
  |none=>none
  |some (.inl s')=>JW f n s'
  |some (.inr b)=>some b
open Classical in
noncomputable def AS {σ β:Type} (f:σ->Option (σ ⊕ β)) (s:σ):Option β:=
 if h:∃ b,∃ n,JW f n s=some b then some h.choose else none
theorem kX {σ β:Type} {f:σ->Option (σ ⊕ β)}:∀ {n:Nat} {s:σ} {b:β},JW f n s=some b->JW f (n+1) s=some b
 |0,s,b,h=>by cases h
 |n+1,s,b,h=>by
  rw[JW] at h ⊢
  split
  ·rename_i hf;rw[hf] at h;cases h
  ·rename_i s' hf;rw[hf] at h;exact kX h
  ·rename_i b' hf;rw[hf] at h;exact h
theorem wE {σ β:Type} {f:σ->Option (σ ⊕ β)} {n m:Nat} {s:σ} {b:β} (h:JW f n s=some b) (hm:n<=m):JW f m s=some b:=by
 induction hm with
 |refl=>exact h
 |step _ ih=>exact kX ih
theorem JN {σ β:Type} {f:σ->Option (σ ⊕ β)} {s:σ} {b:β}:AS f s=some b↔∃ n,JW f n s=some b:=by
 unfold AS
 constructor
 ·intro h
  split at h
  ·rename_i hx
   simp only[AR] at h
   rw[<-h];exact hx.choose_spec
  ·cases h
 ·rintro⟨n,hn⟩
  have hx:∃ b,∃ n,JW f n s=some b:=⟨b,n,hn⟩
  rw[dif_pos hx]
  obtain⟨m,hm⟩:=hx.choose_spec
  have h1:=wE hn (Nat.le_max_left n m)
  have h2:=wE hm (Nat.le_max_right n m)
  rw[h1] at h2
  exact h2.symm
theorem AF0 {σ β:Type} (f:σ->Option (σ ⊕ β)) (s:σ):AS f s=match f s with
  |none=>none
  |some (.inl s')=>AS f s'
  |some (.inr b)=>some b:=by
 have key:∀ b,AS f s=some b↔(match f s with
  |none=>none
  |some (.inl s')=>AS f s'
  |some (.inr b)=>some b)=some b:=by
  intro b
  rw[JN]
  constructor
  ·rintro⟨n,hn⟩
   cases n with
   |zero=>cases hn
   |succ n=>
    rw[JW] at hn
    split at hn
    ·cases hn
    ·rename_i s' hf
     first|exact JN.2 ⟨n,hn⟩|(rw[hf];exact JN.2 ⟨n,hn⟩)
    ·rename_i b' hf
     first|exact hn|(rw[hf];exact hn)
  ·intro h
   split at h
   ·cases h
   ·rename_i s' hf
    obtain⟨n,hn⟩:=JN.1 h
    exact⟨n+1,by rw[JW,hf];exact hn⟩
   ·rename_i b' hf
    exact⟨1,by rw[JW,hf];exact h⟩
 cases h1:AS f s with
 |some b=>exact ((key b).1 h1).symm
 |none=>
  cases h2:(match f s with
  |none=>none
  |some (.inl s')=>AS f s'
  |some (.inr b)=>some b:Option β) with
  |none=>rfl
  |some b=>rw[(key b).2 h2] at h1;cases h1
def writes:Code->List Nat
 | .region _ ops _=>ops.toList.filterMap (·.dst)
 | .seq a b=>writes a++writes b
 | .cond _ a b=>writes a++writes b
 | .block _ c=>writes c
 | .loop c=>writes c
 | .scope c=>writes c
 |_=>[]
def HT.app:(zas bs:List CT)->HT zas->HT bs->HT (zas++bs)
 | [],_,_,y=>y
 | [_],bs,x,y=>HT.mk _ bs x y
 |_::d::r,bs,x,y=>(x.1,HT.app (d::r) bs x.2 y)
theorem HT.wF:∀ (zas bs:List CT) (x:HT zas) (y:HT bs),HT.left zas bs (HT.app zas bs x y)=x
 | [],_,_,_=>rfl
 | [c],bs,x,y=>HT.uK c bs x y
 |c::d::r,bs,x,y=>by
  show (x.1,HT.left (d::r) bs (HT.app (d::r) bs x.2 y))=x
  rw[HT.wF (d::r) bs x.2 y]
theorem HT.pP:∀ (zas bs:List CT) (x:HT zas) (y:HT bs),HT.right zas bs (HT.app zas bs x y)=y
 | [],_,_,_=>rfl
 | [c],bs,x,y=>HT.uL c bs x y
 |c::d::r,bs,x,y=>by
  show HT.right (d::r) bs (HT.app (d::r) bs x.2 y)=y
  exact HT.pP (d::r) bs x.2 y
def H3 (a:Ty):CT:=⟨.slice a,false,true,false⟩
@[reducible] def U2.OD (A2:U2):List CT:=A2.live.map (·.2)++A2.boxes.map (·.2)
@[reducible] def U2.csR (A2:U2):List CT:=A2.rows.map fun q=>H3 q.2
abbrev U2.T (A2:U2):Type:=HT (A2.OD++A2.csR)
def VV (AI:Nat->Option AO):List (Nat×CT)->Option (List SV)
 | []=>some []
 |(n,c)::r=>match AI n with
  |some (.box cs)=>(match VV AI r with
   |some l=>(match c.agg with
    |true=>some (.agg cs::l)
    |false=>(match cs with
     | [v]=>some (v::l)
     |_=>none))
   |none=>none)
  |_=>none
def kY (AI:Nat->Option AO):(rows:List (Nat×Ty))->Option (HT (rows.map fun q=>H3 q.2))
 | []=>some ()
 |(n,a)::r=>match AI n with
  |some (.row t xs)=>if h:t=a then (if a.hO=true then none else match kY AI r with
   |some y=>some (HT.mk (H3 a) (r.map fun q=>H3 q.2) (D3 h xs) y)
   |none=>none) else none
  |some (.deep t xss none)=>if h:Ty.slice t=a then (match kY AI r with
   |some y=>some (HT.mk (H3 a) (r.map fun q=>H3 q.2) (D3 h xss) y)
   |none=>none) else none
  |some (.map xs)=>if h:Ty.kv=a then (match kY AI r with
   |some y=>some (HT.mk (H3 a) (r.map fun q=>H3 q.2) (D3 h xs) y)
   |none=>none) else none
  |_=>none
def ver (L:AE) (n:Nat):Nat:=match L[n]? with
 |some q=>q.1
 |none=>0
def EA (L:AE) (n:Nat):Bool:=match look L n with
 |some .HP=>true
 |_=>false
def AAV (L:AE) (n:Nat):Bool:=match look L n with
 |some e=> !e.EA
 |none=>false
def U2.nC (A2:U2):List Nat:=A2.lost++(List.range (cnts A2.OD)).map (fun k=>A2.base+k)++A2.boxes.map (·.1)++A2.rows.map (·.1)
def ALM (A2:U2) (L0 L:AE) (on:List Nat) (fz:BH):Bool:=
 decide A2.nC.Nodup && (List.range (cnts A2.OD)).all (fun k=>EA L0 (A2.base+k)) && (A2.boxes.map (·.1)++A2.rows.map (·.1)++A2.lost).all (fun n=>AAV L0 n) &&
 (A2.boxes.map (·.1)++A2.rows.map (·.1)).all (fun n=> !on.contains n && !(fz.map (·.1)).contains n) &&
 (List.range L0.length).all (fun n=>EA L0 n||A2.nC.contains n||(ver L0 n==ver L n && !on.contains n && !(fz.map (·.1)).contains n)) &&
 A2.OD.all (fun c=> !c.ptr)
def RG:List (Nat×Nat×Nat)->AE->AE
 | [],L=>L
 |(k,o,i)::r,L=>match look L k,look L o,look L i with
  |some (.row t xs),some .dead,some (.box cs)=>RG r (AD L [(k,.dead),(o,.row t xs),(i,.box (cs.map (m8 k o)))])
  |_,_,_=>RG r L
def AJM (A2:U2) (L0:AE) (nes:List NE):Bool:=A2.pins.all fun p=>decide (A2.base<=p.1) && decide (p.1<A2.base+cnts A2.OD) && XH nes[p.1-A2.base]? p.2.1 && AAV L0 p.2.1
def S6 (A2:U2) (L0:AE) (fr:List SV) (L:AE):Option A2.T:=
 match VV (look L) A2.boxes with
 |none=>none
 |some bs=>match FU .XD (look L) A2.OD (A2.live.map (fun q=>fr.getD q.1 AQ)++bs) with
  |none=>none
  |some a=>match kY (look L) A2.rows with
   |none=>none
   |some y=>match okA a && ALM A2 L0 L a.on a.fz && A2.live.all (fun q=> !kQ (fr.getD q.1 AQ)) && AJM A2 L0 a.nes with
    |true=>some (HT.app A2.OD A2.csR a.x y)
    |false=>none
def LF:(cs:List CT)->HT cs->List AO
 | [],_=>[]
 |c::r,x=>A7 c.own c.t (HT.hd c r x)++LF r (HT.tl c r x)
def VX:List (Nat×CT)->List SV->BH
 |(n,_)::r,v::vs=>(n,.box (AZ v))::VX r vs
 |_,_=>[]
def ZU:(rows:List (Nat×Ty))->HT (rows.map fun q=>H3 q.2)->BH
 | [],_=>[]
 |(n,a)::r,x=>(n,F3 a (HT.hd (H3 a) (r.map fun q=>H3 q.2) x))::ZU r (HT.tl (H3 a) (r.map fun q=>H3 q.2) x)
def U2.xT (A2:U2) (s:A2.T):List SV:=outSVs A2.OD (HT.left A2.OD A2.csR s) A2.base
def HH (A2:U2) (s:A2.T):BH:=
 A2.lost.map (fun n=>(n,.dead))++(BL A2.base (LF A2.OD (HT.left A2.OD A2.csR s))++(VX A2.boxes ((A2.xT s).drop A2.live.length)++ZU A2.rows (HT.right A2.OD A2.csR s)))
def LX (fr:List SV):List (Nat×SV)->List SV
 | []=>fr
 |(t,v)::r=>LX (fr.set t v) r
def S7 (A2:U2) (fr:List SV) (s:A2.T):List SV:=LX (LX fr (A2.dead.map fun t=>(t,.dJ t))) ((A2.live.map (·.1)).zip (A2.xT s))
def zT (A2:U2) (ws:List Nat):Bool:=ws.all (fun t=>(A2.live.map (·.1)).contains t||A2.dead.contains t) && (A2.live.map (·.1)).all ws.contains && A2.dead.all ws.contains && decide (A2.live.map (·.1)++A2.dead).Nodup
def P1:Code->Option Nat
 | .region id _ _=>some id
 | .seq a b=>(match P1 a with
  |some i=>some i
  |none=>P1 b)
 | .cond _ a b=>(match P1 a with
  |some i=>some i
  |none=>P1 b)
 | .block _ c=>P1 c
 | .loop c=>P1 c
 | .scope c=>P1 c
 |_=>none
def AJN (cx:Cx) (b:Code):Option U2:=match P1 b with
 |some i=>lk cx.RH i
 |none=>none
def rL (L:AE) (n:Nat):AE:=match look L n with
 |some (.deep t xss h)=>(match dY (look L) n t xss h with
  |some (_,u)=>AD L u
  |none=>L)
 |_=>L
def D4:List (Nat×Ty)->AE->AE
 | [],L=>L
 |q::r,L=>D4 r (rL L q.1)
def AF1 {α:Type} (cx:Cx) (id:Nat) (fr:List SV) (L:AE) (K:AE->Option α):Option α:=match lk cx.opens id with
 |none=>K L
 |some (s,t,bs)=>(match fr.getD s AQ,idxOf (fr.getD t AQ) with
  | .H9 i,some n=>(match look L i with
   |some (.deep a xss h)=>(match EC (look L) bs 1 with
    |true=>(match dY (look L) i a xss h with
     |some (ys,u)=>if 0<=n/\n<(ys.length:Int) then K (AD L (u++ [(bs,.dead),(i,.deep a ys (some (n.toNat,bs))),(bs,.row a (ys.getD n.toNat []))])) else none
     |none=>none)
    |false=>none)
   |_=>none)
  |_,_=>none)
noncomputable def rk (P:Program) (cx:Cx):Code->(α:Type)->Nat->(Exit->List SV->AE->Option α)->List SV->AE->Option α
 | .skip,_,_,K,fr,L=>K .normal fr L
 | .label _,_,_,K,fr,L=>K .normal fr L
 | .ret,_,_,K,fr,L=>K .ret fr L
 | .exit id,_,_,K,fr,L=>K (.exit id) fr L
 | .region id ops draw,_,_,K,fr,L=>AF1 cx id fr L (fun L=>match draw with
  |true=>(match vY ops.toList ops.toList 0 && P.follows .mixedOrders with
   |true=>AJK P cx ops.toList ops.toList 0 [] fr L (fun fr' L' =>K .normal fr' L')
   |false=>none)
  |false=>AEU P cx ops.toList ops.toList 0 fr L (fun fr' L' =>K .normal fr' L'))
 | .seq a b,α,H4,K,fr,L=>(match AJN cx b with
  |none=>rk P cx a α H4 (fun e fr' L' =>match e with
   | .normal=>rk P cx b α H4 K fr' L'
   |e=>K e fr' L') fr L
  |some A2=>(match zT A2 (writes a) with
   |true=>(rk P cx a (A2.T ⊕ α) H4 (fun e fr' L' =>match e with
    | .normal=>(S6 A2 (D4 A2.rows L) fr' (D4 A2.rows L')).map Sum.inl
    |e=>(K e fr' L').map Sum.inr) fr (D4 A2.rows L)).bind (fun r=>match r with
     | .inl s=>rk P cx b α H4 K (S7 A2 fr s) (RG A2.pins (AD (D4 A2.rows L) (HH A2 s)))
     | .inr b=>some b)
   |false=>none))
 | .cond c x y,α,H4,K,fr,L=>(match ev fr c with
  | .HF b=>(match b with
   |true=>rk P cx x α H4 K fr L
   |false=>rk P cx y α H4 K fr L)
  | .bool b=>if b=true then rk P cx x α H4 K fr L else rk P cx y α H4 K fr L
  | .prop p d=> @ite _ p d (rk P cx x α H4 K fr L) (rk P cx y α H4 K fr L)
  |_=>none)
 | .block id c,α,_,K,fr,L=>rk P cx c α id (fun e fr' L' =>match e with
  | .exit i=>if i=id then K .normal fr' L' else K (.exit i) fr' L'
  |e=>K e fr' L') fr L
 | .scope c,α,H4,K,fr,L=>rk P cx c α H4 (fun e fr' L' =>match e with
  | .goto _=>none
  |e=>K e fr' L') fr L
 | .loop c,α,H4,K,fr,L=>(match lk cx.loops H4 with
  |none=>none
  |some A2=>(match zT A2 (writes c) with
   |true=>(match S6 A2 (D4 A2.rows L) fr (D4 A2.rows L) with
    |none=>none
    |some s0=>AS (fun s=>rk P cx c (A2.T ⊕ α) H4 (fun e fr' L' =>match e with
     | .normal=>(S6 A2 (D4 A2.rows L) fr' (D4 A2.rows L')).map Sum.inl
     |e=>(K e fr' L').map Sum.inr) (S7 A2 fr s) (RG A2.pins (AD (D4 A2.rows L) (HH A2 s)))) s0)
   |false=>none))
 |_,_,_,_,_,_=>none
end Go.V3
namespace Go.V3
open Go
variable {TB:Tb}
theorem VY {c:B4 TB} {G:Nat->Prop} {w:World}:∀ (cs:List CT) (x:HT cs) (ms:Nat->Nm),(cs.all fun d=> !d.ptr)=true→
  (LF cs x).length=cnts cs/\(PS c G w cs x ms->∀ j e,(LF cs x)[j]? =some e->aQ c G w (ms j) e)/\BA cs x ms=DX (LF cs x) ms/\(∀ e∈LF cs x,e.EA=false)
 | [],_,_,_=>⟨rfl,fun _ j e h=>by simp [LF] at h,rfl,fun e h=>by simp [LF] at h⟩
 |d::r,x,ms,hp=>by
  simp only[x0,PG,Y9] at hp
  have hpn:d.pn=0:=by simp [CT.pn,hp.1]
  have qQ:d.cnt=d.t.EG:=by simp [CT.cnt,hpn]
  obtain⟨i1,i2,i3,i4⟩:=VY (c:=c) (G:=G) (w:=w) r (HT.tl d r x) (fun k=>ms (d.cnt+k)) hp.2
  have hoc:IX d (HT.hd d r x) ms=DX (A7 d.own d.t (HT.hd d r x)) ms:=by
   unfold IX;rw[hp.1,hpn];simp
  refine⟨by simp [LF,AW,i1,cnts,qQ],fun hps j e he=> ?_, ?_, ?_⟩
  ·simp only[LF] at he
   by_cases hj:j<(A7 d.own d.t (HT.hd d r x)).length
   ·rw[QE hj] at he
    have:=hps.1.1 j e he
    rw[hpn,KB] at this
    exact this
   ·rw[OG (by omega)] at he
    have:=i2 hps.2 _ e he
    rw[AW] at this hj
    have e2:d.cnt+(j-d.t.EG)=j:=by omega
    rw[e2] at this
    exact this
  ·rw[qQ] at i3
   simp only[BA,LF,S2,hoc,AW,qQ]
   rw[i3]
  ·intro e he
   rcases DU.1 he with he|he
   ·obtain⟨j,hj,rfl⟩:=ABG he
    exact RA (KA hj)
   ·exact i4 e he
theorem eK {b:Nat}:∀ (es:List AO) (ms:Nat->Nm),(DX es ms).Nodup->∀ (j k:Nat) (e f:AO),j<k->es[j]? =some e->es[k]? =some f->b∈e.QH (ms j)->¬b∈f.QH (ms k)
 | [],_,_,j,k,e,f,_,h,_,_=>by simp at h
 |x::r,ms,JM,0,0,e,f,hjk,_,_,_=>by omega
 |x::r,ms,JM,j+1,0,e,f,hjk,_,_,_=>by omega
 |x::r,ms,JM,0,k+1,e,f,_,h1,h2,hb=>by
  simp only[U9,AR] at h1;subst h1
  simp only[mY] at h2
  intro hf
  have:=SQ.1 JM
  exact this.2.2 b hb b (E9 r k (fun k=>ms (k+1)) h2 hf) rfl
 |x::r,ms,JM,j+1,k+1,e,f,hjk,h1,h2,hb=>by
  simp only[mY] at h1 h2
  exact eK r (fun k=>ms (k+1)) (SQ.1 JM).2.1 j k e f (by omega) h1 h2 hb
theorem rM (n:Nat) (es:List AO):(BL n es).map (·.1)=(List.range es.length).map (fun k=>n+k):=by
 induction es generalizing n with
 |nil=>rfl
 |cons e r ih=>
  simp only[BL,OI,ih,hI,List.range_succ_eq_map,PL,JK,XV,true_and]
  apply VB
  intro k _
  simp;omega
theorem rN {n:Nat} {es:List AO} {q:Nat×AO} (h:q∈BL n es):∃ j,q.1=n+j/\es[j]? =some q.2:=by
 induction es generalizing n with
 |nil=>cases h
 |cons e r ih=>
  rcases MK.1 h with rfl|h
  ·exact⟨0,rfl,rfl⟩
  ·obtain⟨j,h1,h2⟩:=ih h
   exact⟨j+1,by rw[h1];omega,by simpa using h2⟩
theorem JA:∀ (cs:List CT) (x:HT cs) (n:Nat),(outSVs cs x n).length=cs.length
 | [],_,_=>rfl
 |d::r,x,n=>by simp [outSVs,JA r]
theorem kZ:∀ (bs:List (Nat×CT)) (vs:List SV),vs.length=bs.length->(VX bs vs).map (·.1)=bs.map (·.1)
 | [],[],_=>rfl
 | [],_::_,h=>by simp at h
 |_::_,[],h=>by simp at h
 |(n,c)::r,v::vs,h=>by simp only[VX,OI];rw[kZ r vs (by simpa using h)]
theorem ZV:∀ (rows:List (Nat×Ty)) (x:HT (rows.map fun q=>H3 q.2)),(ZU rows x).map (·.1)=rows.map (·.1)
 | [],_=>rfl
 |(n,a)::r,x=>by simp only[ZU,OI];rw[ZV r]
theorem ACT (A2:U2) (s:A2.T) (hp:(A2.OD.all fun d=> !d.ptr)=true):(HH A2 s).map (·.1)=A2.nC:=by
 unfold HH U2.nC
 have hl:((A2.xT s).drop A2.live.length).length=A2.boxes.length:=by
  unfold U2.xT
  rw[List.length_drop,JA]
  simp [U2.OD]
 obtain⟨e1,_⟩:=VY (c:=(⟨default,fun _=>False,fun _=>False⟩:B4 [])) (G:=fun _=>False) (w:=default) A2.OD (HT.left A2.OD A2.csR s) (fun _=>⟨0,0,true,0,0,none⟩) hp
 have h1:(A2.lost.map (fun n=>(n,AO.dead))).map (·.1)=A2.lost:=by simp [xX]
 have h2:=ZV A2.rows (HT.right A2.OD A2.csR s)
 rw[tY,tY,tY,h1,rM,e1,kZ _ _ hl,hD,hD]
 congr 3
theorem T8:∀ (u:BH) (L:AE),(u.map (·.1)).Nodup->(∀ n∈u.map (·.1),n<L.length)->∀ q∈u,look (AD L u) q.1=some q.2
 | [],_,_,_,q,h=>by cases h
 |p::r,L,JM,CP,q,hq=>by
  simp only[OI,hJ] at JM
  rcases MK.1 hq with rfl|hq
  ·show look (AD (BS L q) r) q.1=_
   rw[(D7 JM.1).1,AT (CP _ (by simp)),BQ rfl]
  ·exact T8 r (BS L p) JM.2 (fun n hn=>by rw[DG];exact CP n (by simp [hn])) q hq
theorem pQ:∀ (cs:List CT) (x:HT cs) (n:Nat) {E:Env} {L:AE},(cs.all fun d=> !d.ptr)=true->(∀ k,k<cnts cs->Al L (n+k))->GV E L (outSVs cs x n)
 | [],_,_,_,_,_,_=>trivial
 |d::r,x,n,E,L,hp,h=>by
  simp only[x0,PG,Y9] at hp
  have qQ:d.cnt=d.t.EG:=by simp [CT.cnt,CT.pn,hp.1]
  refine⟨?_,pQ r _ _ hp.2 fun k hk=>by rw[I6];exact h _ (by simp [cnts];omega)⟩
  have hu:GV E L (E3 d.t (HT.hd d r x) n):=j3 _ _ _ fun j hj=>h j (by simp [cnts,qQ];omega)
  unfold OJ
  rw[hp.1]
  cases d.agg with
  |true=>exact hu
  |false=>
   show SV.wf _ _ ((E3 d.t (HT.hd d r x) n).headD AQ)
   cases hx:E3 d.t (HT.hd d r x) n with
   |nil=>trivial
   |cons v r=>rw[hx] at hu;exact hu.1
theorem ACU (t:Ty) (x:t.T) (n:Nat):∀ v∈E3 t x n,AZ v=[v]:=by
 induction t generalizing n with
 |pair a b PH PI=>
  intro v hv
  rcases DU.1 hv with hv|hv
  ·exact PH _ _ v hv
  ·exact PI _ _ v hv
 |_=>intro v hv;simp only[E3,LA] at hv;subst hv;rfl
theorem k8:∀ (cs:List CT) (x:HT cs) (n k:Nat) (v:SV),(outSVs cs x n)[k]? =some v->∃ (d:CT) (y:d.t.T) (m:Nat),cs[k]? =some d/\v=OJ d y m/\n<=m/\m+d.cnt<=n+cnts cs
 | [],_,_,_,_,h=>by simp [outSVs] at h
 |d::r,x,n,0,v,h=>by
  simp only[outSVs,U9,AR] at h
  exact⟨d,_,n,rfl,h.symm,HE _,by simp [cnts]⟩
 |d::r,x,n,k+1,v,h=>by
  simp only[outSVs,mY] at h
  obtain⟨d',y,m,h1,h2,h3,h4⟩:=k8 r _ _ k v h
  exact⟨d',y,m,by simpa using h1,h2,by omega,by simp only[cnts];omega⟩
theorem JB (fr:List SV) (l:List (Nat×SV)):(LX fr l).length=fr.length:=by
 induction l generalizing fr with
 |nil=>rfl
 |cons q r ih=>obtain⟨t,v⟩:=q;simp [LX,ih]
theorem LY (fr:List SV) (l:List (Nat×SV)) (t:Nat) (h:∀ q∈l,q.1≠t):(LX fr l).getD t AQ=fr.getD t AQ:=by
 induction l generalizing fr with
 |nil=>rfl
 |cons q r ih=>
  obtain⟨k,v⟩:=q
  simp only[LX]
  rw[ih _ (fun q hq=>h q (by simp [hq])),CE,BC]
  rintro⟨rfl,_⟩
  exact h (k,v) (by simp) rfl
theorem RP (fr:List SV) (l:List (Nat×SV)) (JM:(l.map (·.1)).Nodup) {t:Nat} {v:SV} (h:(t,v)∈l) (ht:t<fr.length):(LX fr l).getD t AQ=v:=by
 induction l generalizing fr with
 |nil=>cases h
 |cons q r ih=>
  obtain⟨k,u⟩:=q
  simp only[OI,hJ] at JM
  simp only[LX]
  rcases MK.1 h with he|h
  ·cases he
   rw[LY _ _ _ (fun q hq he=>JM.1 (DB.2 ⟨q,hq,he⟩)),CE,BQ ⟨rfl,ht⟩]
  ·exact ih _ JM.2 h (by simpa using ht)
theorem S8 {AI:Nat->Option AO}:∀ (bs:List (Nat×CT)) (l:List SV),VV AI bs=some l->l.length=bs.length/\∀ (j n:Nat) (c:CT),bs[j]? =some (n,c)->∃ cs,AI n=some (.box cs)/\((c.agg=true/\l[j]? =some (.agg cs))\/(c.agg=false/\∃ v,cs=[v]/\l[j]? =some v))
 | [],l,h=>by simp only[VV,AR] at h;subst h;exact⟨rfl,fun j n c h=>by simp at h⟩
 |(n,c)::r,l,h=>by
  simp only[VV] at h
  split at h
  rotate_left
  ·cases h
  rename_i cs hl
  split at h
  rotate_left
  ·cases h
  rename_i l' uT
  obtain⟨i1,i2⟩:=S8 r l' uT
  split at h
  ·rename_i ha
   simp only[AR] at h;subst h
   refine⟨by simp [i1],fun j n' c' hj=> ?_⟩
   cases j with
   |zero=>simp only[U9,AR,BP] at hj;obtain⟨rfl,rfl⟩:=hj;exact⟨cs,hl,.inl ⟨ha,rfl⟩⟩
   |succ j=>exact i2 j n' c' (by simpa using hj)
  ·rename_i ha
   split at h
   rotate_left
   ·cases h
   rename_i v
   simp only[AR] at h;subst h
   refine⟨by simp [i1],fun j n' c' hj=> ?_⟩
   cases j with
   |zero=>simp only[U9,AR,BP] at hj;obtain⟨rfl,rfl⟩:=hj;exact⟨[v],hl,.inr ⟨ha,v,rfl,rfl⟩⟩
   |succ j=>exact i2 j n' c' (by simpa using hj)
theorem k9:∀ (bs:List (Nat×CT)) (vs:List SV) (q:Nat×AO),q∈VX bs vs->∃ (j:Nat) (c:CT) (v:SV),bs[j]? =some (q.1,c)/\vs[j]? =some v/\q.2= .box (AZ v)
 | [],_,_,h=>by simp [VX] at h
 |_::_,[],_,h=>by simp [VX] at h
 |(n,c)::r,v::vs,q,h=>by
  simp only[VX] at h
  rcases MK.1 h with rfl|h
  ·exact⟨0,c,v,rfl,rfl,rfl⟩
  ·obtain⟨j,c',v',h1,h2,h3⟩:=k9 r vs q h
   exact⟨j+1,c',v',by simpa using h1,by simpa using h2,h3⟩
theorem k_ {AI:Nat->Option AO}:∀ (rows:List (Nat×Ty)) (y:HT (rows.map fun q=>H3 q.2)),kY AI rows=some y->∀ q∈ZU rows y,∃ (a:Ty) (xs:List a.T),AI q.1=some (F3 a xs)/\q.2=F3 a xs
 | [],_,_,q,h=>by simp [ZU] at h
 |(n,a)::r,y,hp,q,h=>by
  have key:∃ (xs:List a.T) (y' :HT (r.map fun q=>H3 q.2)),AI n=some (F3 a xs)/\kY AI r=some y' /\y=HT.mk (H3 a) (r.map fun q=>H3 q.2) xs y' :=by
   simp only[kY] at hp
   split at hp
   ·rename_i t xs hl
    split at hp
    rotate_left
    ·cases hp
    rename_i ht
    subst ht
    split at hp
    ·cases hp
    rename_i U1
    split at hp
    rotate_left
    ·cases hp
    rename_i y' hy'
    simp only[AR] at hp
    exact⟨xs,y',by rw[IA (by simpa using U1)];exact hl,hy',hp.symm⟩
   ·rename_i t xss hl
    split at hp
    rotate_left
    ·cases hp
    rename_i ht
    subst ht
    split at hp
    rotate_left
    ·cases hp
    rename_i y' hy'
    simp only[AR] at hp
    exact⟨xss,y',hl,hy',hp.symm⟩
   ·rename_i xs hl
    split at hp
    rotate_left
    ·cases hp
    rename_i ht
    subst ht
    split at hp
    rotate_left
    ·cases hp
    rename_i y' hy'
    simp only[AR] at hp
    exact⟨xs,y',hl,hy',hp.symm⟩
   ·cases hp
  obtain⟨xs,y',hl,hy',rfl⟩:=key
  simp only[ZU] at h
  rcases MK.1 h with rfl|h
  ·refine⟨a,xs,hl, ?_⟩
   exact ZA (F3 a) (HT.uK (H3 a) (r.map fun q=>H3 q.2) xs y')
  ·refine k_ r y' hy' q ?_
   have e:HT.tl (H3 a) (r.map fun q=>H3 q.2) (HT.mk (H3 a) (r.map fun q=>H3 q.2) xs y')=y' :=HT.uL _ _ _ _
   rw[e] at h;exact h
theorem VZ {L L' :AE} (h:U3 L L') {n:Nat} {e:AO} (he:look L n=some e) (hv:ver L n=ver L' n):look L' n=some e:=by
 have CP:=AJ he
 have AJO :n<L'.length:=by rw[h.1];exact CP
 have e1:L[n]? =some (L[n].1,L[n].2):=KA CP
 have e2:L'[n]? =some (L'[n].1,L'[n].2):=KA AJO
 have hve:L'[n].1=L[n].1:=by
  unfold ver at hv
  rw[e1,e2] at hv
  exact hv.symm
 have hfe:=(h.2 n _ _ _ _ e1 e2).2 hve
 unfold look at he ⊢
 rw[e1] at he
 rw[e2]
 simp only[hfe]
 exact he
set_option maxHeartbeats 1000000 in
theorem AJP [QF] {A2:U2} {W:List Nat} (hwr:zT A2 W=true) {c:B4 TB} {w0:World} {E:Env} {fr:List SV} {L:AE} {G0:Nat->Prop} (hH0:AK c G0 w0 E L) (hF0:iD E L fr)
  {E' :Env} {fr' :List SV} {L' :AE} {a:Act} {w:World} (hst:St c E' fr' L' a w) (I4:Ext W E fr L E' fr' L') {s:A2.T} (hp:S6 A2 L fr' L' =some s):
  ∃ E2,St c E2 (S7 A2 fr s) (AD L (HH A2 s)) a w/\Ext W E fr L E2 (S7 A2 fr s) (AD L (HH A2 s))/\∀ p∈A2.pins,E2.nm p.1=E2.nm p.2.1:=by
 unfold S6 at hp
 split at hp
 ·cases hp
 rename_i bs HG
 split at hp
 ·cases hp
 rename_i tk htk
 split at hp
 ·cases hp
 rename_i y hy
 split at hp
 rotate_left
 ·cases hp
 rename_i uZ
 simp only[AR] at hp
 simp only[PG] at uZ
 obtain⟨⟨⟨ANY,ALN⟩,hnu⟩,ALO⟩:=uZ
 simp only[ALM,PG,OH] at ALN
 obtain⟨⟨⟨⟨⟨o1,o2⟩,o3⟩,o4⟩,o5⟩,o6⟩:=ALN
 simp only[zT,PG,OH] at hwr
 obtain⟨⟨⟨wr1,wr2⟩,wr3⟩,wr4⟩:=hwr
 have wG:HT.left A2.OD A2.csR s=tk.x:=by rw[<-hp];exact HT.wF _ _ _ _
 have AJQ:HT.right A2.OD A2.csR s=y:=by rw[<-hp];exact HT.pP _ _ _ _
 obtain⟨G,hG⟩:=hst.hd
 have ALP:GV E' L' (A2.live.map (fun q=>fr'.getD q.1 AQ)++bs):=by
  refine A3.2 fun v hv=> ?_
  rcases DU.1 hv with hv|hv
  ·obtain⟨q,hq,rfl⟩:=DB.1 hv
   rcases hst.wf q.1 with h|h
   ·exact h
   ·have:=Q7.1 hnu q hq
    rw[h] at this;simp [kQ] at this
  ·obtain⟨j,hj,rfl⟩:=ABG hv
   obtain⟨b1,b2⟩:=S8 _ _ HG
   have hjb:j<A2.boxes.length:=by omega
   obtain⟨cs,h1,h2⟩:=b2 j _ _ (KA hjb)
   have hwc:=(hG.F0 _ _ h1).2.2.2.2.2
   rcases h2 with ⟨_,h3⟩|⟨_,v,rfl,h3⟩
   ·rw[KA hj] at h3;simp only[AR] at h3;rw[h3];exact hwc
   ·rw[KA hj] at h3;simp only[AR] at h3;rw[h3];exact hwc.1
 obtain⟨G1,G2,t1,t2,t3,t4,t5,t6,t7,t8,t9,t10,t11⟩:=hG.take (md:= .XD) (by simp) (fun n e h=>h) htk ANY ALP
 have h21:=t4 rfl
 rw[h21] at t9
 obtain⟨u6,VL⟩:=RC E' _ _ _ htk
 obtain⟨f1,f2,f3,f4⟩:=VY (c:=c) (G:=G1) (w:=w) A2.OD tk.x (BU E' tk.nes) o6
 have f2:=f2 t9
 rw[f3] at t10 t11
 let E2:Env:={ nm:=fun n=>if A2.base<=n/\n<A2.base+cnts A2.OD then BU E' tk.nes (n-A2.base) else E'.nm n,ds:=fun t=>if t∈A2.dead then (fr'.getD t AQ).den E' else E'.ds t,ins:=⟨fun n=>if A2.base<=n/\n<A2.base+cnts A2.OD then (BU E' tk.nes (n-A2.base)).ins.l else E'.ins.l n⟩ }
 have AI4:∀ n,(A2.base<=n/\n<A2.base+cnts A2.OD)->look L n=some .HP:=by
  intro n hn
  have:=Q7.1 o2 (n-A2.base) (tZ.2 (by omega))
  have e:A2.base+(n-A2.base)=n:=by omega
  rw[e] at this
  unfold EA at this
  split at this
  ·assumption
  ·cases this
 have AI5:∀ n,Al L n->¬(A2.base<=n/\n<A2.base+cnts A2.OD):=fun n hn hx=>CJ (AI4 n hx) hn
 have iE :∀ n,Al L n->E2.nm n=E'.nm n:=fun n hn=>BC (AI5 n hn)
 have hE2:∀ n,Al L n->E2.nm n=E.nm n:=fun n hn=>(iE n hn).trans (I4.nm n hn).1
 have AF2:∀ j,j<cnts A2.OD->E2.nm (A2.base+j)=BU E' tk.nes j:=by
  intro j hj
  show (if _ then _ else _)=_
  rw[BQ ⟨by omega,by omega⟩]
  congr 1;omega
 have AF3 :∀ n,Al L n->E2.ins.l n=E'.ins.l n:=fun n hn=>BC (AI5 n hn)
 have ALQ:∀ j,j<cnts A2.OD->E2.ins.l (A2.base+j)=(BU E' tk.nes j).ins.l:=by
  intro j hj
  show (if _ then _ else _)=_
  rw[BQ ⟨by omega,by omega⟩]
  congr 3;omega
 have V0:∀ n,n∈A2.boxes.map (·.1)++A2.rows.map (·.1)++A2.lost->Al L n:=by
  intro n hn
  have:=Q7.1 o3 n hn
  unfold AAV at this
  split at this
  ·rename_i e he;exact⟨e,he,by simpa using this⟩
  ·cases this
 have zU:=ACT A2 s o6
 have ANZ:∀ n∈(HH A2 s).map (·.1),n<L.length:=by
  intro n hn
  rw[zU] at hn
  simp only[U2.nC,DU] at hn
  rcases hn with ((hn|hn)|hn)|hn
  ·obtain⟨e,he,_⟩:=V0 n (by simp only[DU];exact .inr hn);exact AJ he
  ·obtain⟨k,hk,rfl⟩:=DB.1 hn
   exact AJ (AI4 _ ⟨by omega,by have:=tZ.1 hk;omega⟩)
  ·obtain⟨e,he,_⟩:=V0 n (by simp only[DU];exact .inl (.inl hn));exact AJ he
  ·obtain⟨e,he,_⟩:=V0 n (by simp only[DU];exact .inl (.inr hn));exact AJ he
 have AF4:=T8 (HH A2 s) L (by rw[zU];exact o1) ANZ
 have AAW:∀ n,n∉A2.nC->look (AD L (HH A2 s)) n=look L n:=fun n hn=>(D7 (by rw[zU];exact hn)).1
 have AAX:∀ q∈HH A2 s,(q.2= .dead/\q.1∈A2.lost)\/(∃ j,q.1=A2.base+j/\(LF A2.OD tk.x)[j]? =some q.2)∨
   (∃ (j:Nat) (d:CT) (v:SV),A2.boxes[j]? =some (q.1,d)/\(outSVs A2.OD tk.x A2.base)[A2.live.length+j]? =some v/\q.2= .box (AZ v))\/(∃ (a:Ty) (xs:List a.T),look L' q.1=some (F3 a xs)/\q.2=F3 a xs/\q.1∈A2.rows.map (·.1)):=by
  intro q hq
  simp only[HH,DU] at hq
  rcases hq with hq|hq|hq|hq
  ·obtain⟨n,hn,rfl⟩:=DB.1 hq;exact .inl ⟨rfl,hn⟩
  ·rw[wG] at hq;exact .inr (.inl (rN hq))
  ·obtain⟨j,d,v,h1,h2,h3⟩:=k9 _ _ _ hq
   refine .inr (.inr (.inl ⟨j,d,v,h1, ?_,h3⟩))
   rw[Y8] at h2
   unfold U2.xT at h2
   rw[wG] at h2
   exact h2
  ·refine .inr (.inr (.inr ?_))
   have VJ :=hq
   rw[AJQ] at hq
   obtain⟨a,xs,h1,h2⟩:=k_ _ _ hy q hq
   refine⟨a,xs,h1,h2, ?_⟩
   rw[<-ZV A2.rows (HT.right A2.OD A2.csR s)]
   exact DB.2 ⟨q,VJ,rfl⟩
 have I8:∀ n,Al L n->Al (AD L (HH A2 s)) n:=by
  intro n hn
  by_cases rA:n∈A2.nC
  ·rw[<-zU] at rA
   obtain⟨q,hq,rfl⟩:=DB.1 rA
   refine⟨q.2,AF4 q hq, ?_⟩
   rcases AAX q hq with ⟨h,_⟩|⟨j,_,h⟩|⟨_,_,_,_,_,h⟩|⟨_,_,_,h,_⟩
   ·rw[h];rfl
   ·exact f4 _ (UY h)
   ·rw[h];rfl
   ·rw[h];exact ZG _ _
  ·obtain⟨e,oT,he2⟩:=hn
   exact⟨e,by rw[AAW n rA];exact oT,he2⟩
 have AO0:∀ k,k<cnts A2.OD->Al (AD L (HH A2 s)) (A2.base+k):=by
  intro k hk
  have CP:k<(LF A2.OD tk.x).length:=by rw[f1];exact hk
  have hq:(A2.base+k,(LF A2.OD tk.x)[k])∈HH A2 s:=by
   simp only[HH,DU]
   refine .inr (.inl ?_)
   rw[wG]
   have key:∀ (es:List AO) (n k:Nat) (h:k<es.length),(n+k,es[k])∈BL n es:=by
    intro es
    induction es with
    |nil=>intro n k h;simp at h
    |cons e r ih=>
     intro n k h
     cases k with
     |zero=>simp [BL]
     |succ k=>
      simp only[BL,List.getElem_cons_succ]
      have:=ih (n+1) k (by simpa using h)
      have e1:n+1+k=n+(k+1):=by omega
      rw[e1] at this
      exact m0 _ this
   exact key _ _ _ CP
  exact⟨_,AF4 _ hq,f4 _ (AG2 CP)⟩
 have VH:∀ n,n∈A2.boxes.map (·.1)++A2.rows.map (·.1)->look (AD L' tk.BF) n=look L' n:=by
  intro n hn
  have:=Q7.1 o4 n hn
  simp only[PG,Y9,qD,tU] at this
  exact t7 n this.1 this.2
 have AI6:GV E2 (AD L (HH A2 s)) (outSVs A2.OD tk.x A2.base):=pQ _ _ _ o6 AO0
 have AF5:AH E' (A2.live.map (fun q=>fr'.getD q.1 AQ)++bs)=AH E2 (outSVs A2.OD tk.x A2.base):=VL E2 A2.base AF2
 have u4:∀ (j:Nat) (n:Nat) (d:CT) (v:SV),A2.boxes[j]? =some (n,d)->(outSVs A2.OD tk.x A2.base)[A2.live.length+j]? =some v→
   ∃ cs,look L' n=some (.box cs)/\AH E2 (AZ v)=AH E' cs/\GV E2 (AD L (HH A2 s)) (AZ v):=by
  intro j n d v hj hv
  obtain⟨b1,b2⟩:=S8 _ _ HG
  obtain⟨cs,h1,h2⟩:=b2 j n d hj
  have hvw:v.wf E2 (AD L (HH A2 s)):=A3.1 AI6 v (UY hv)
  refine⟨cs,h1, ?_,LW hvw⟩
  have pI:j<bs.length:=by
   rcases h2 with ⟨_,h3⟩|⟨_,_,_,h3⟩
   all_goals
    rcases GR j bs.length with h|h
    ·exact h
    ·rw[N8 h] at h3;cases h3
  have hdv:v.den E2=(bs[j]).den E' :=by
   have:=ZA (fun l=>l[A2.live.length+j]?) AF5
   simp only[C5,hv,XW] at this
   rw[OG (by simp),List.length_map,Nat.add_sub_cancel_left,KA pI] at this
   simp only[XW,AR] at this
   exact this.symm
  obtain⟨d',z,m,g1,g2,_,_⟩:=k8 _ _ _ _ _ hv
  have hd' :d' =d:=by
   have:A2.OD[A2.live.length+j]? =some d:=by
    unfold U2.OD
    rw[OG (by simp),List.length_map,Nat.add_sub_cancel_left,ABI,hj];rfl
   rw[this] at g1;simp only[AR] at g1;exact g1.symm
  subst hd'
  have AGN:d'.ptr=false:=by
   have:=Q7.1 o6 d' (UY g1)
   simpa using this
  rcases h2 with ⟨ha,h3⟩|⟨ha,u,rfl,h3⟩
  ·rw[KA pI] at h3
   simp only[AR] at h3
   rw[h3,g2] at hdv
   rw[g2]
   unfold OJ at hdv ⊢
   rw[AGN,ha] at hdv ⊢
   simp only[SV.den,Value.agg.injEq] at hdv
   have:=ZA Array.toList hdv
   simpa [AZ] using this
  ·rw[KA pI] at h3
   simp only[AR] at h3
   rw[h3] at hdv
   have hcv:AZ v=[v]:=by
    rw[g2]
    unfold OJ
    rw[AGN,ha]
    simp only
    cases hu:E3 d'.t z m with
    |nil=>rfl
    |cons x r=>exact ACU d'.t z m x (by rw[hu];simp)
   rw[hcv]
   simp [AH,hdv]
 have zV:∀ (n:Nat) (e:AO) (b:Nat),look (AD L (HH A2 s)) n=some e->e.ow E2 n b→
   (∃ j,n=A2.base+j/\(LF A2.OD tk.x)[j]? =some e/\b∈e.QH (BU E' tk.nes j))\/(∃ f,look (AD L' tk.BF) n=some f/\f.ow E' n b):=by
  intro n e b he hb
  by_cases rA:n∈A2.nC
  ·rw[<-zU] at rA
   obtain⟨q,hq,rfl⟩:=DB.1 rA
   have:=AF4 q hq
   rw[he] at this
   simp only[AR] at this
   subst this
   rcases AAX q hq with ⟨h,_⟩|⟨j,h1,h2⟩|⟨j,d,v,h1,h2,h3⟩|⟨a',xs,h1,h2,h3⟩
   ·rw[h] at hb;rcases hb with hb|⟨hb,_⟩|⟨hb,_⟩ <;> cases hb
   ·have hj:j<cnts A2.OD:=by
     rcases GR j (LF A2.OD tk.x).length with h|h
     ·rwa [f1] at h
     ·rw[N8 h] at h2;cases h2
    rw[h1,AO.qO (AF2 j hj) (ALQ j hj)] at hb
    exact .inl ⟨j,h1,h2,hb⟩
   ·obtain⟨cs,k1,_,_⟩:=u4 j q.1 d v h1 h2
    have XG:q.1∈A2.boxes.map (·.1):=DB.2 ⟨_,UY h1,rfl⟩
    have dL:=V0 q.1 (by simp only[DU];exact .inl (.inl XG))
    rw[AO.XF ⟨iE _ dL,AF3 _ dL⟩,h3,AO.XB rfl] at hb
    exact .inr ⟨.box cs,by rw[VH q.1 (DU.2 (.inl XG))];exact k1,.inl hb⟩
   ·have dL:=V0 q.1 (by simp only[DU];exact .inl (.inr h3))
    rw[AO.XF ⟨iE _ dL,AF3 _ dL⟩,h2] at hb
    exact .inr ⟨F3 a' xs,by rw[VH q.1 (DU.2 (.inr h3))];exact h1,hb⟩
  ·rw[AAW n rA] at he
   have CP:=AJ he
   have hnr:e.EA=false:=by cases e <;> first|rfl|(rcases hb with hb|⟨hb,_⟩|⟨hb,_⟩ <;> cases hb)
   have dL:Al L n:=⟨e,he,hnr⟩
   have h5:=Q7.1 o5 n (tZ.2 CP)
   simp only[xZ,PG,hM,Y9,qD,tU,OH] at h5
   rcases h5 with (h5|h5)|⟨⟨h5,h6⟩,h7⟩
   ·unfold EA at h5;rw[he] at h5;cases e <;> first|(cases hnr;done)|(cases h5;done)
   ·exact absurd h5 rA
   ·rw[AO.XF ⟨iE _ dL,AF3 _ dL⟩] at hb
    right
    have AJO :n<L'.length:=by rw[I4.ZT.1];exact CP
    have BJ:look L' n=some e:=VZ I4.ZT he h5
    exact⟨e,by rw[t7 n h6 h7];exact BJ,hb⟩
 have AJR:AK c G1 w E2 (AD L (HH A2 s)):=by
  refine⟨t1.rest,t1.size,t1.old,t1.jY,t1.glo,t1.ghi, ?_, ?_, ?_,t1.tab⟩
  ·intro n e he
   by_cases rA:n∈A2.nC
   ·rw[<-zU] at rA
    obtain⟨q,hq,rfl⟩:=DB.1 rA
    have:=AF4 q hq
    rw[he] at this
    simp only[AR] at this
    subst this
    rcases AAX q hq with ⟨h,_⟩|⟨j,h1,h2⟩|⟨j,d,v,h1,h2,h3⟩|⟨a',xs,h1,h2,h3⟩
    ·rw[h];trivial
    ·have hj:j<cnts A2.OD:=by
      rcases GR j (LF A2.OD tk.x).length with h|h
      ·rwa [f1] at h
      ·rw[N8 h] at h2;cases h2
     have hm:=f2 j _ h2
     rw[h1,AF2 j hj]
     generalize q.2=e at hm
     cases e <;> first|exact hm|exact hm.elim|trivial
    ·obtain⟨cs,k1,k2,k3⟩:=u4 j q.1 d v h1 h2
     have XG:q.1∈A2.boxes.map (·.1):=DB.2 ⟨_,UY h1,rfl⟩
     have dL:=V0 q.1 (by simp only[DU];exact .inl (.inl XG))
     obtain⟨p1,p2,p3,p4,⟨ty,p5⟩,p6⟩:=t1.F0 q.1 (.box cs) (by rw[VH q.1 (DU.2 (.inl XG))];exact k1)
     rw[h3,iE _ dL]
     exact⟨p1,p2,p3,p4,⟨ty,by rw[k2];exact p5⟩,k3⟩
    ·have dL:=V0 q.1 (by simp only[DU];exact .inl (.inr h3))
     have:=t1.F0 q.1 (F3 a' xs) (by rw[VH q.1 (DU.2 (.inr h3))];exact h1)
     rw[h2,iE _ dL]
     cases a' with
     |pair a b=>cases a <;> cases b <;> exact this
     |_=>exact this
   ·have he0:=he
    rw[AAW n rA] at he
    have CP:=AJ he
    cases hr:e.EA with
    |true=>cases e <;> first|trivial|cases hr
    |false=>
     have dL:Al L n:=⟨e,he,hr⟩
     have h5:=Q7.1 o5 n (tZ.2 CP)
     simp only[xZ,PG,hM,Y9,qD,tU,OH] at h5
     rcases h5 with (h5|h5)|⟨⟨h5,h6⟩,h7⟩
     ·unfold EA at h5;rw[he] at h5;cases e <;> first|(cases hr;done)|(cases h5;done)
     ·exact absurd h5 rA
     ·have AJO :n<L'.length:=by rw[I4.ZT.1];exact CP
      have BJ:look L' n=some e:=VZ I4.ZT he h5
      have kE:=t1.F0 n e (by rw[t7 n h6 h7];exact BJ)
      have wH:=hH0.F0 n e he
      rw[iE _ dL]
      cases e with
      |box cs=>
       obtain⟨p1,p2,p3,p4,⟨ty,p5⟩,p6⟩:=kE
       obtain⟨x1,x2⟩:=EH I8 hE2 cs wH.2.2.2.2.2
       obtain⟨_,x4⟩:=EH (fun n hn=>(I4.nm n hn).2) (fun n hn=>(I4.nm n hn).1) cs wH.2.2.2.2.2
       exact⟨p1,p2,p3,p4,⟨ty,by rw[x2,←x4];exact p5⟩,x1⟩
      |ptr j=>
       obtain⟨y1,⟨arr,ty,fz,y2,y3⟩,_⟩:=kE
       have y4:=wH.2.2
       exact⟨y1,⟨arr,ty,fz,y2,by rw[iE j y4];exact y3⟩,I8 j y4⟩
      |_=>exact kE
  ·intro n t xss hq he
   by_cases rA:n∈A2.nC
   ·rw[<-zU] at rA
    obtain⟨q,VJ,rfl⟩:=DB.1 rA
    have:=AF4 q VJ
    rw[he] at this
    simp only[AR] at this
    rcases AAX q VJ with ⟨h,_⟩|⟨j,h1,h2⟩|⟨j,d,v,h1,h2,h3⟩|⟨a',xs,h1,h2,h3⟩
    ·rw[h] at this;cases this
    ·have hj:j<cnts A2.OD:=by
      rcases GR j (LF A2.OD tk.x).length with h|h
      ·rwa [f1] at h
      ·rw[N8 h] at h2;cases h2
     have hm:=f2 j _ h2
     rw[<-this] at hm
     obtain⟨rfl,hm⟩:=hm
     rw[h1,AF2 j hj,ALQ j hj]
     exact hm.env ⟨rfl,rfl,rfl,rfl,rfl⟩
    ·rw[h3] at this;cases this
    ·have dL:=V0 q.1 (by simp only[DU];exact .inl (.inr h3))
     rw[h2] at this
     cases a' with
     |slice b=>
      simp only[F3,AO.deep.injEq] at this
      obtain⟨rfl,hx,rfl⟩:=this
      cases hx
      have:=t1.dp q.1 t xss none (by rw[VH q.1 (DU.2 (.inr h3))];exact h1)
      rw[iE _ dL,AF3 _ dL]
      exact this.env ⟨rfl,rfl,rfl,rfl,rfl⟩
     |pair a b=>cases a <;> cases b <;> cases this
     |_=>cases this
   ·rw[AAW n rA] at he
    have CP:=AJ he
    have dL:Al L n:=⟨_,he,rfl⟩
    have h5:=Q7.1 o5 n (tZ.2 CP)
    simp only[xZ,PG,hM,Y9,qD,tU,OH] at h5
    rcases h5 with (h5|h5)|⟨⟨h5,h6⟩,h7⟩
    ·unfold EA at h5;rw[he] at h5;cases h5
    ·exact absurd h5 rA
    ·have BJ:look L' n=some _:=VZ I4.ZT he h5
     have kE:=t1.dp n t xss hq (by rw[t7 n h6 h7];exact BJ)
     have wH:=hH0.dp n t xss hq he
     rw[iE _ dL,AF3 _ dL]
     refine⟨kE.len,kE.off,kE.nd,kE.all, ?_⟩
     rcases kE.cs with hc|⟨h1,h2,h3,arr,ty,hs,h4,h5,h6,h7,h8,h9⟩
     ·exact .inl hc
     ·refine .inr ⟨h1,h2,h3,arr,ty,hs,h4,h5,h6,h7,h8,fun k j hk hl=> ?_⟩
      have hAj:Al L j:=by
       rcases wH.cs with ⟨_,hc,_⟩|⟨_,_,_,_,_,_,_,_,_,_,_,g9⟩
       ·rw[hc] at hl;cases hl
       ·exact (g9 k j hk hl).2
      exact⟨by rw[iE _ hAj];exact (h9 k j hk hl).1,I8 j hAj⟩
  ·intro n k e f b hnk hn hk he hf
   rcases zV n e b hn he with ⟨j,rfl,tQ,y9⟩|⟨g,hg1,hg2⟩
   ·rcases zV k f b hk hf with ⟨j',rfl,AHD,AHE⟩|⟨g,hg1,hg2⟩
    ·rcases Nat.lt_or_gt_of_ne (show j≠j' by omega) with CP|CP
     ·exact eK _ _ t10 j j' e f CP tQ AHD y9 AHE
     ·exact eK _ _ t10 j' j f e CP AHD tQ AHE y9
    ·exact t11 b (E9 _ _ _ tQ y9) k g hg1 hg2
   ·rcases zV k f b hk hf with ⟨j',rfl,AHD,AHE⟩|⟨g',AO1,AO2⟩
    ·exact t11 b (E9 _ _ _ AHD AHE) n g hg1 hg2
    ·exact t1.inj n k g g' b hnk hg1 AO1 hg2 AO2
 rw[SQ] at wr4
 obtain⟨nd1,nd2,nd3⟩:=wr4
 have AF6:(S7 A2 fr s).length=fr'.length:=by unfold S7;rw[JB,JB,I4.len]
 have AJS:((A2.live.map (·.1)).zip (A2.xT s)).map (·.1)=A2.live.map (·.1):=by
  apply List.map_fst_zip
  unfold U2.xT
  rw[JA]
  simp [U2.OD]
 have AI7:∀ t,t<fr'.length->((S7 A2 fr s).getD t AQ).den E2=(fr'.getD t AQ).den E' /\(((S7 A2 fr s).getD t AQ).wf E2 (AD L (HH A2 s))\/(S7 A2 fr s).getD t AQ= .dJ t):=by
  intro t ht
  have htf:t<fr.length:=by rw[<-I4.len];exact ht
  by_cases IF:t∈A2.live.map (·.1)
  ·obtain⟨j,hj,hjt⟩:=ABG IF
   have pI:j<A2.live.length:=by simpa using hj
   have hjs:j<(outSVs A2.OD tk.x A2.base).length:=by rw[JA];simp [U2.OD];omega
   have AO3 :j<(A2.xT s).length:=by unfold U2.xT;rw[wG];exact hjs
   have XG:(t,(A2.xT s)[j])∈(A2.live.map (·.1)).zip (A2.xT s):=by
    rw[<-hjt]
    have:((A2.live.map (·.1)).zip (A2.xT s))[j]'(by simp;omega)=((A2.live.map (·.1))[j],(A2.xT s)[j]):=List.getElem_zip
    rw[<-this]
    exact AG2 _
   have AHF:(S7 A2 fr s).getD t AQ=(A2.xT s)[j]:=RP _ _ (by rw[AJS];exact nd1) XG (by rw[JB];exact htf)
   have hsv:(A2.xT s)[j]? =(outSVs A2.OD tk.x A2.base)[j]? :=by unfold U2.xT;rw[wG]
   rw[KA AO3,KA hjs] at hsv
   simp only[AR] at hsv
   rw[AHF,hsv]
   refine⟨?_,.inl (A3.1 AI6 _ (AG2 hjs))⟩
   have:=ZA (fun l=>l[j]?) AF5
   simp only[C5] at this
   rw[QE (by simpa using pI),KA hjs,ABI,KA pI] at this
   simp only[XW,AR] at this
   rw[<-this]
   simp only[List.getElem_map] at hjt
   rw[hjt]
  ·have h1:(S7 A2 fr s).getD t AQ=(LX fr (A2.dead.map fun t=>(t,.dJ t))).getD t AQ:=by
    unfold S7
    refine LY _ _ _ fun q hq he=>IF ?_
    rw[<-he,←AJS]
    exact DB.2 ⟨q,hq,rfl⟩
   by_cases RF:t∈A2.dead
   ·have h2:(LX fr (A2.dead.map fun t=>(t,.dJ t))).getD t AQ= .dJ t:=
     RP _ _ (by rw[PL];have:(A2.dead.map ((·.1)∘fun t=>(t,SV.dJ t)))=A2.dead:=(by simp [xX]);rw[this];exact nd2) (DB.2 ⟨t,RF,rfl⟩) htf
    rw[h1,h2]
    exact⟨by show (if t∈A2.dead then _ else _)=_;rw[BQ RF],.inr rfl⟩
   ·have h2:(LX fr (A2.dead.map fun t=>(t,.dJ t))).getD t AQ=fr.getD t AQ:=LY _ _ _ fun q hq he=>by
     obtain⟨t',ht',rfl⟩:=DB.1 hq
     simp only at he;subst he
     exact RF ht'
    have hW:t∉W:=by
     intro hw
     have:=Q7.1 wr1 t hw
     simp only[xZ,qD,OH] at this
     rcases this with h|h
     ·exact IF h
     ·exact RF h
    rw[h1,h2,I4.out t hW]
    rcases hF0 t with fG|AJT
    ·obtain⟨x1,x2⟩:=QG I8 hE2 _ fG
     obtain⟨_,x4⟩:=QG (fun n hn=>(I4.nm n hn).2) (fun n hn=>(I4.nm n hn).1) _ fG
     exact⟨x2.trans x4.symm,.inl x1⟩
    ·rw[AJT]
     exact⟨by show (if t∈A2.dead then _ else _)=_;rw[BC RF];rfl,.inr rfl⟩
 refine⟨E2,⟨⟨?_,hst.bI.2⟩,⟨G1,AJR⟩, ?_⟩, ?_,fun p hp' => ?_⟩
 rotate_right
 ·have h:=Q7.1 ALO p hp'
  simp only[PG,OH] at h
  obtain⟨⟨⟨h1,h2⟩,h3⟩,h4⟩:=h
  have dL:Al L p.2.1:=by
   unfold AAV at h4
   split at h4
   ·rename_i e he;exact⟨e,he,by simpa using h4⟩
   ·cases h4
  have e1:=AF2 (p.1-A2.base) (by omega)
  rw[show A2.base+(p.1-A2.base)=p.1 by omega] at e1
  rw[e1,iE _ dL]
  unfold XH at h3
  split at h3
  ·rename_i i hi
   have:i=p.2.1:=by simpa using h3
   simp only[BU,hi,NE.nm,this]
  ·cases h3
 ·rw[hst.bI.1]
  congr 1
  apply Q8
  intro i
  rw[C5,C5]
  by_cases hi:i<fr'.length
  ·have:=(AI7 i hi).1
   have hi2:i<(S7 A2 fr s).length:=by rw[AF6];exact hi
   simp only[List.getD,KA hi,KA hi2,AG1] at this
   rw[KA hi,KA hi2]
   simp [this]
  ·rw[N8 (by omega),N8 (by omega)];rfl
 ·intro t
  by_cases ht:t<fr'.length
  ·exact (AI7 t ht).2
  ·left
   have:(S7 A2 fr s).getD t AQ=AQ:=by
    simp only[List.getD]
    rw[N8 (by omega)];rfl
   rw[this];trivial
 ·refine⟨fun n hn=>⟨hE2 n hn,I8 n hn⟩,fun t ht=> ?_,U3.AD _ _,by rw[AF6,I4.len],fun t ht=> ?_⟩
  ·have hd:t∉A2.dead:=fun hd=>ht (by have:=Q7.1 wr3 t hd;simpa using this)
   show (if t∈A2.dead then _ else _)=_
   rw[BC hd];exact I4.ds t ht
  ·have hd:t∉A2.dead:=fun hd=>ht (by have:=Q7.1 wr3 t hd;simpa using this)
   have hl:t∉A2.live.map (·.1):=fun hd=>ht (by have:=Q7.1 wr2 t hd;simpa using this)
   unfold S7
   rw[LY _ _ _ (fun q hq he=>hl (by rw[<-he,←AJS];exact DB.2 ⟨q,hq,rfl⟩)),LY _ _ _ fun q hq he=>by
    obtain⟨t',ht',rfl⟩:=DB.1 hq
    simp only at he;subst he
    exact hd ht']
theorem lA [QF] {c:B4 TB} {W:List Nat} {E:Env} {fr:List SV} {L:AE} {E2:Env} {tR:List SV} {a:Act} {w:World}:∀ (pins:List (Nat×Nat×Nat)) (L2:AE),St c E2 tR L2 a w->Ext W E fr L E2 tR L2->(∀ p∈pins,E2.nm p.1=E2.nm p.2.1)→
  St c E2 tR (RG pins L2) a w/\Ext W E fr L E2 tR (RG pins L2)
 | [],L2,h1,h2,_=>⟨h1,h2⟩
 |(k,o,i)::r,L2,h1,h2,hp=>by
  unfold RG
  split
  ·rename_i t xs cs k1 k2 k3
   obtain⟨G,hG⟩:=h1.hd
   obtain⟨r1,r2⟩:=oZ hG k1 k2 k3 (hp _ (by simp:(k,o,i)∈(k,o,i)::r))
   refine lA r _ ⟨h1.bI,⟨G,r1⟩,fun t=> ?_⟩ ⟨fun n hn=>⟨(h2.nm n hn).1,r2 n (h2.nm n hn).2⟩,h2.ds,h2.ZT.trans (U3.AD _ _),h2.len,h2.out⟩ (fun p hp' =>hp p (by simp [hp']))
   rcases h1.wf t with h|h
   ·exact .inl (QG r2 (fun _ _=>rfl) _ h).1
   ·exact .inr h
  ·exact lA r _ h1 h2 (fun p hp' =>hp p (by simp [hp']))
theorem wI [QF] {A2:U2} {W:List Nat} (hwr:zT A2 W=true) {c:B4 TB} {w0:World} {E:Env} {fr:List SV} {L:AE} {G0:Nat->Prop} (hH0:AK c G0 w0 E L) (hF0:iD E L fr)
  {E' :Env} {fr' :List SV} {L' :AE} {a:Act} {w:World} (hst:St c E' fr' L' a w) (I4:Ext W E fr L E' fr' L') {s:A2.T} (hp:S6 A2 L fr' L' =some s):
  ∃ E2,St c E2 (S7 A2 fr s) (RG A2.pins (AD L (HH A2 s))) a w/\Ext W E fr L E2 (S7 A2 fr s) (RG A2.pins (AD L (HH A2 s))):=by
 obtain⟨E2,h1,h2,h3⟩:=AJP hwr hH0 hF0 hst I4 hp
 exact⟨E2,lA _ _ h1 h2 h3⟩
end Go.V3
namespace Go.V3
open Go
variable {TB:Tb}
section
variable {P:Program}
def nD [QF] {α:Type} (W:List Nat) (c:B4 TB) (E:Env) (fr:List SV) (L:AE) (K:Exit->List SV->AE->Option α) (r0:α):Exit->Act->World->Prop:=
 fun e a' w' =>∃ E' fr' L',St c E' fr' L' a' w' /\Ext W E fr L E' fr' L' /\K e fr' L' =some r0
theorem map_inl {α β:Type} {x:Option α} {r:α ⊕ β} (h:x.map Sum.inl=some r):∃ y,x=some y/\r= .inl y:=by
 cases x with
 |none=>cases h
 |some y=>simp only[XW,AR] at h;exact⟨y,rfl,h.symm⟩
theorem map_inr {α β:Type} {x:Option β} {r:α ⊕ β} (h:x.map Sum.inr=some r):∃ y,x=some y/\r= .inr y:=by
 cases x with
 |none=>cases h
 |some y=>simp only[XW,AR] at h;exact⟨y,rfl,h.symm⟩
theorem AAY (n i:Nat):¬wC (Array.replicate n false) i:=by
 unfold wC
 simp only[Array.getD_eq_getD_getElem?,Array.getElem?_replicate]
 split <;> simp
theorem AF7 [QF] {α:Type} {cx:Cx} {id:Nat} {c:B4 cx.tb} {w:World} {fr:List SV} {a:Act} {E:Env} {L:AE} {K:AE->Option α} {r:α} (h:AF1 cx id fr L K=some r) (hs:St c E fr L a w):
  ∃ E' L',K L' =some r/\St c E' fr L' a w/\Ext [] E fr L E' fr L' :=by
 unfold AF1 at h
 split at h
 ·exact⟨E,L,h,hs,.refl _ _ _ _⟩
 split at h
 rotate_left
 ·cases h
 rename_i s t bs _ _ _ i n hv hn
 split at h
 rotate_left
 ·cases h
 rename_i ty xss h' hl
 split at h
 rotate_left
 ·cases h
 rename_i BV
 split at h
 rotate_left
 ·cases h
 rename_i ys u hcl
 split at h
 rotate_left
 ·cases h
 rename_i hb
 have HG:look L bs=some .HP:=by have:=BI BV 0 (by omega);simpa using this
 obtain⟨G,hG⟩:=hs.hd
 obtain⟨E1,c1,c2,c3,c4,c5,c6,c7⟩:=XM (AI:=look L) (fun _ _ h=>h) hG hl hcl
 have ON:(E1.nm i).nil=false:=by
  rcases (c1.dp i _ _ _ c4).cs with ⟨_,hc,_⟩|⟨hn,_⟩
  ·rw[hc] at hb;simp at hb;omega
  ·exact hn
 obtain⟨E2,t1,t2,t3,arr,tt,t4,t5⟩:=c1.AHU c4 (c6 bs HG) ON (by omega:n.toNat<ys.length)
 rw[<-A0] at t1
 have I8:∀ k,Al L k->E2.nm k=E.nm k/\Al (AD L (u++ [(bs,.dead),(i,.deep ty ys (some (n.toNat,bs))),(bs,.row ty (ys.getD n.toNat []))])) k:=by
  intro k hk
  refine⟨by rw[t2 k (fun he=>CJ (he ▸ HG) hk),c2], ?_⟩
  rw[A0]
  exact A1 rfl k (A1 rfl k (A1 rfl k (c5 k hk)))
 obtain⟨d1,d2⟩:=VU hs.wf I8 (t3.trans c3)
 exact⟨E2,_,h,⟨⟨by rw[d1];exact hs.bI.1,hs.bI.2⟩,⟨G,t1⟩,d2⟩,⟨I8,fun t _=>by rw[t3.trans c3],.AD _ _,rfl,fun _ _=>rfl⟩⟩
theorem LZ [QF] {c:B4 TB} {w:World} {fr:List SV} {a:Act}:∀ (rows:List (Nat×Ty)) {E:Env} {L:AE},St c E fr L a w->∃ E',St c E' fr (D4 rows L) a w/\Ext [] E fr L E' fr (D4 rows L)
 | [],E,L,hs=>⟨E,hs,.refl _ _ _ _⟩
 |q::r,E,L,hs=>by
  have h1:∃ E',St c E' fr (rL L q.1) a w/\Ext [] E fr L E' fr (rL L q.1):=by
   unfold rL
   split
   ·rename_i t xss h hl
    split
    ·rename_i ys u hc
     obtain⟨G,hG⟩:=hs.hd
     obtain⟨E',k1,k2,k3,k4,k5,k6,k7⟩:=XM (AI:=look L) (fun _ _ h=>h) hG hl hc
     obtain⟨d1,d2⟩:=VU hs.wf (fun n hn=>⟨k2 n,k5 n hn⟩) k3
     exact⟨E',⟨⟨by rw[d1];exact hs.bI.1,hs.bI.2⟩,⟨G,k1⟩,d2⟩,⟨fun n hn=>⟨k2 n,k5 n hn⟩,fun t _=>by rw[k3],.AD _ _,rfl,fun _ _=>rfl⟩⟩
    ·exact⟨E,hs,.refl _ _ _ _⟩
   ·exact⟨E,hs,.refl _ _ _ _⟩
  obtain⟨E1,h1,h2⟩:=h1
  obtain⟨E2,h3,h4⟩:=LZ r h1
  exact⟨E2,h3,h2.trans h4⟩
set_option maxHeartbeats 1000000 in
theorem lB [QF] {cx:Cx} (hcx:cx.Ok P):∀ (c:Code) (α:Type) (H4:Nat) (K:Exit->List SV->AE->Option α) (fr:List SV) (L:AE) (r0:α),rk P cx c α H4 K fr L=some r0→
  ∀ (cf:B4 cx.tb) (E:Env) (a:Act) (w:World),St cf E fr L a w->c.wp P (nD (writes c) cf E fr L K r0) a w:=by
 intro c
 induction c with
 |skip=>exact fun α H4 K fr L r0 h cf E a w hs=>wp_skip ⟨E,fr,L,hs,.refl _ _ _ _,h⟩
 |label l=>exact fun α H4 K fr L r0 h cf E a w hs=>wp_label ⟨E,fr,L,hs,.refl _ _ _ _,h⟩
 |ret=>exact fun α H4 K fr L r0 h cf E a w hs=>wp_ret ⟨E,fr,L,hs,.refl _ _ _ _,h⟩
 |exit id=>exact fun α H4 K fr L r0 h cf E a w hs=>wp_exit ⟨E,fr,L,hs,.refl _ _ _ _,h⟩
 |region id ops draw=>
  intro α H4 K fr L r0 h cf E a w hs
  have hW:∀ o∈ops.toList,∀ d,o.dst=some d->d∈writes (.region id ops draw):=by
   intro o ho d hd
   exact xW.2 ⟨o,ho,hd⟩
  simp only[rk] at h
  obtain⟨E1,L1,h,hs,hx0⟩:=AF7 h hs
  have hx0:Ext (writes (.region id ops draw)) E fr L E1 fr L1:=hx0.mono (fun _ h=>by cases h)
  refine wp_mono (Q:=nD (writes (.region id ops draw)) cf E1 fr L1 K r0) ?_ (fun e a' w' ⟨E',fr',L',k1,k2,k3⟩=>⟨E',fr',L',k1,hx0.trans k2,k3⟩)
  clear hx0
  generalize E1=E at hs ⊢
  generalize L1=L at hs h ⊢
  split at h
  ·split at h
   rotate_left
   ·cases h
   rename_i uZ
   simp only[PG] at uZ
   refine wp_region_any uZ.2 ?_
   obtain⟨s',fs,r1,r2,r3,_⟩:=vZ ops.toList 0 [] fr L (by simp) h
   have hs' :St cf E fr L a { w with drawn:=w.drawn+1 }:=⟨hs.bI,(by
    obtain⟨G,hG⟩:=hs.hd
    exact⟨G,hG.world rfl ⟨rfl,rfl,rfl⟩⟩),hs.wf⟩
   have:=AJL (P:=P) (Q:=nD (writes (.region id ops true)) cf E fr L K r0) hcx uZ.1 (W:=writes (.region id ops true)) (fun i o ho d hd=>hW o (by rw[<-XT] at ho;exact UY ho) d hd) (fr0:=fr) (L0:=L) (E0:=E) (s' :=s')
    (fun E' a' w' h1 h2=>⟨E',s'.1,s'.2,h1,h2,r2⟩) ops.size (List.range' 0 ops.toList.length) (Array.replicate ops.size false) fs (fr,L) E a _ (by simp) ⟨by simp,fun i=> ?_, ?_, ?_⟩ r1 r3 hs' (.refl _ _ _ _)
   ·exact this
   ·simp only[List.mem_range'_1,Nat.zero_le,true_and,KB,Array.length_toList]
    constructor
    ·intro hi;exact⟨hi,AAY _ _⟩
    ·exact fun hi=>hi.1
   ·exact List.pairwise_lt_range'
   ·intro i o _ hl
    exact absurd hl (AAY _ _)
  ·refine wp_region ?_
   have:=vW hcx (ops:=ops) (Q:=nD (writes (.region id ops false)) cf E fr L K r0) (W:=writes (.region id ops false)) (c:=cf) (fr0:=fr) (L0:=L) (E0:=E)
    (K:=fun fr' L' =>K .normal fr' L') (r0:=r0) (fun E' fr' L' a' w' h1 h2 h3=>⟨E',fr',L',h1,h2,h3⟩) ops.toList 0 (by simp) hW E fr L a w hs (.refl _ _ _ _) h
   rw[List.range_eq_range']
   simpa using this
 |seq x y ihx ihy=>
  intro α H4 K fr L r0 h cf E a w hs
  refine wp_seq ?_
  have hx:∀ t,t∈writes x->t∈writes (.seq x y):=fun t ht=>DU.2 (.inl ht)
  have hy:∀ t,t∈writes y->t∈writes (.seq x y):=fun t ht=>DU.2 (.inr ht)
  simp only[rk] at h
  split at h
  ·refine wp_mono (ihx α H4 _ fr L r0 h cf E a w hs) ?_
   rintro e a' w' ⟨E',fr',L',h1,h2,h3⟩
   cases e with
   |normal=>
    refine wp_mono (ihy α H4 K fr' L' r0 h3 cf E' a' w' h1) ?_
    rintro e a'' w'' ⟨E'',ACV,L'',k1,k2,k3⟩
    exact⟨E'',ACV,L'',k1,(h2.mono hx).trans (k2.mono hy),k3⟩
   |exit id=>exact⟨E',fr',L',h1,h2.mono hx,h3⟩
   |goto id=>exact⟨E',fr',L',h1,h2.mono hx,h3⟩
   |ret=>exact⟨E',fr',L',h1,h2.mono hx,h3⟩
   |panic ch=>exact⟨E',fr',L',h1,h2.mono hx,h3⟩
   |outgrown=>exact⟨E',fr',L',h1,h2.mono hx,h3⟩
  ·rename_i A2 _
   split at h
   rotate_left
   ·cases h
   rename_i hwr
   rw[tV] at h
   obtain⟨q,hq,hk⟩:=h
   obtain⟨Ec,tM,hxc⟩:=LZ A2.rows hs
   obtain⟨G0,hG0⟩:=tM.hd
   refine wp_mono (ihx _ H4 _ fr _ q hq cf Ec a w tM) ?_
   rintro e a' w' ⟨E',fr',L',h1,h2,h3⟩
   have other:∀ e',(K e' fr' L').map Sum.inr=some q->nD (writes (.seq x y)) cf E fr L K r0 e' a' w' :=by
    intro e' hm
    obtain⟨b,hb,rfl⟩:=map_inr hm
    simp only[AR] at hk
    subst hk
    exact⟨E',fr',L',h1,(hxc.mono (fun _ h=>by cases h)).trans (h2.mono hx),hb⟩
   cases e with
   |normal=>
    obtain⟨s,hp,rfl⟩:=map_inl h3
    obtain⟨Ed,hsd,hxd⟩:=LZ A2.rows h1
    obtain⟨E2,g1,g2⟩:=wI hwr hG0 tM.wf hsd (h2.trans (hxd.mono (fun _ h=>by cases h))) hp
    refine wp_mono (ihy α H4 K _ _ r0 hk cf E2 a' w' g1) ?_
    rintro e a'' w'' ⟨E'',ACV,L'',k1,k2,k3⟩
    exact⟨E'',ACV,L'',k1,(hxc.mono (fun _ h=>by cases h)).trans ((g2.mono hx).trans (k2.mono hy)),k3⟩
   |exit id=>exact other _ h3
   |goto id=>exact other _ h3
   |ret=>exact other _ h3
   |panic ch=>exact other _ h3
   |outgrown=>exact other _ h3
 |cond c x y ihx ihy=>
  intro α H4 K fr L r0 h cf E a w hs
  have hx:∀ t,t∈writes x->t∈writes (.cond c x y):=fun t ht=>DU.2 (.inl ht)
  have hy:∀ t,t∈writes y->t∈writes (.cond c x y):=fun t ht=>DU.2 (.inr ht)
  have kx:rk P cx x α H4 K fr L=some r0->x.wp P (nD (writes (.cond c x y)) cf E fr L K r0) a w:=fun h=>
   wp_mono (ihx α H4 K fr L r0 h cf E a w hs) fun e a' w' ⟨E',fr',L',h1,h2,h3⟩=>⟨E',fr',L',h1,h2.mono hx,h3⟩
  have ky:rk P cx y α H4 K fr L=some r0->y.wp P (nD (writes (.cond c x y)) cf E fr L K r0) a w:=fun h=>
   wp_mono (ihy α H4 K fr L r0 h cf E a w hs) fun e a' w' ⟨E',fr',L',h1,h2,h3⟩=>⟨E',fr',L',h1,h2.mono hy,h3⟩
  have he:=LN hs.bI c
  simp only[rk] at h
  split at h
  ·rename_i b hb
   rw[hb] at he
   split at h
   ·exact wp_cond_true he (kx h)
   ·exact wp_cond_false he (ky h)
  ·rename_i b hb
   rw[hb] at he
   split at h
   ·rename_i hbt;subst hbt;exact wp_cond_true he (kx h)
   ·rename_i hbt
    have:b=false:=by simpa using hbt
    subst this;exact wp_cond_false he (ky h)
  ·rename_i p d hb
   rw[hb] at he
   by_cases hp:p
   ·simp only[hp,GJ] at h;exact wp_cond_true (by rw[he];simp [SV.den,hp]) (kx h)
   ·simp only[hp,Q_] at h;exact wp_cond_false (by rw[he];simp [SV.den,hp]) (ky h)
  ·cases h
 |block id c ih=>
  intro α H4 K fr L r0 h cf E a w hs
  refine wp_block ?_
  simp only[rk] at h
  refine wp_mono (ih α id _ fr L r0 h cf E a w hs) ?_
  rintro e a' w' ⟨E',fr',L',h1,h2,h3⟩
  cases e with
  |exit i=>
   simp only[Exit.inBlock]
   simp only at h3
   split at h3
   ·rename_i hi;rw[BQ hi];exact⟨E',fr',L',h1,h2,h3⟩
   ·rename_i hi;rw[BC hi];exact⟨E',fr',L',h1,h2,h3⟩
  |normal=>exact⟨E',fr',L',h1,h2,h3⟩
  |goto id=>exact⟨E',fr',L',h1,h2,h3⟩
  |ret=>exact⟨E',fr',L',h1,h2,h3⟩
  |panic ch=>exact⟨E',fr',L',h1,h2,h3⟩
  |outgrown=>exact⟨E',fr',L',h1,h2,h3⟩
 |scope c ih=>
  intro α H4 K fr L r0 h cf E a w hs
  refine wp_scope_straight ?_
  refine wp_mono (ih α H4 _ fr L r0 h cf E a w hs) ?_
  rintro e a' w' ⟨E',fr',L',h1,h2,h3⟩
  cases e with
  |goto id=>cases h3
  |exit i=>exact⟨E',fr',L',h1,h2,h3⟩
  |normal=>exact⟨E',fr',L',h1,h2,h3⟩
  |ret=>exact⟨E',fr',L',h1,h2,h3⟩
  |panic ch=>exact⟨E',fr',L',h1,h2,h3⟩
  |outgrown=>exact⟨E',fr',L',h1,h2,h3⟩
 |loop c ih=>
  intro α H4 K fr L r0 h cf E a w hs
  simp only[rk] at h
  split at h
  ·cases h
  rename_i A2 _
  split at h
  rotate_left
  ·cases h
  rename_i hwr
  split at h
  ·cases h
  rename_i s0 hp0
  obtain⟨n,hn⟩:=JN.1 h
  refine wp_loop_rounds n ?_
  obtain⟨Ec,tM,ALR⟩:=LZ A2.rows hs
  have hxc:Ext (writes c) E fr L Ec fr (D4 A2.rows L):=ALR.mono (fun _ h=>by cases h)
  clear ALR
  generalize D4 A2.rows L=Lc at h hn hp0 tM hxc
  obtain⟨G0,hG0⟩:=tM.hd
  obtain⟨E1,g1,g2⟩:=wI hwr hG0 tM.wf tM (.refl (writes c) Ec fr Lc) hp0
  have fG:=tM.wf
  have hH0:∃ w0 G0,AK cf G0 w0 Ec Lc:=⟨w,G0,hG0⟩
  clear h hp0 hs tM hG0 G0
  obtain⟨w0,G0,hG0⟩:=hH0
  induction n generalizing s0 E1 a w with
  |zero=>cases hn
  |succ n ihn=>
   rw[rounds_succ]
   rw[JW] at hn
   have fin:∀ x,rk P cx c (A2.T ⊕ α) H4 (fun e fr' L' =>match e with
     | .normal=>(S6 A2 Lc fr' (D4 A2.rows L')).map Sum.inl
     |e=>(K e fr' L').map Sum.inr) (S7 A2 fr s0) (RG A2.pins (AD Lc (HH A2 s0)))=some x->(∀ s',x= .inl s' ->JW (fun s=>rk P cx c (A2.T ⊕ α) H4 (fun e fr' L' =>match e with
     | .normal=>(S6 A2 Lc fr' (D4 A2.rows L')).map Sum.inl
     |e=>(K e fr' L').map Sum.inr) (S7 A2 fr s) (RG A2.pins (AD Lc (HH A2 s)))) n s' =some r0)->(∀ b,x= .inr b->b=r0)->c.wp P (Exit.then (Code.rounds P c (nD (writes (.loop c)) cf E fr L K r0) n) (nD (writes (.loop c)) cf E fr L K r0)) a w:=by
    intro x hx hl hr
    refine wp_mono (ih _ H4 _ _ _ x hx cf E1 a w g1) ?_
    rintro e a' w' ⟨E',fr',L',h1,h2,h3⟩
    have other:∀ e',(K e' fr' L').map Sum.inr=some x->nD (writes (.loop c)) cf E fr L K r0 e' a' w' :=by
     intro e' hm
     obtain⟨b,hb,hxb⟩:=map_inr hm
     rw[hr b hxb] at hb
     exact⟨E',fr',L',h1,hxc.trans (g2.trans h2),hb⟩
    cases e with
    |normal=>
     obtain⟨s',hp,xS⟩:=map_inl h3
     obtain⟨Ed,hsd,hxd⟩:=LZ A2.rows h1
     obtain⟨E2,k1,k2⟩:=wI hwr hG0 fG hsd (g2.trans (h2.trans (hxd.mono (fun _ h=>by cases h)))) hp
     exact ihn a' w' s' (hl s' xS) E2 k1 k2
    |goto id=>exact other _ h3
    |exit i=>exact other _ h3
    |ret=>exact other _ h3
    |panic ch=>exact other _ h3
    |outgrown=>exact other _ h3
   split at hn
   ·cases hn
   ·rename_i s' hf
    exact fin _ hf (fun s'' he=>by cases he;exact hn) (fun b he=>by cases he)
   ·rename_i b hf
    simp only[AR] at hn
    exact fin _ hf (fun s'' he=>by cases he) (fun b' he=>by cases he;exact hn)
 |_=>exact fun α H4 K fr L r0 h=>(by simp only[rk] at h;cases h)
def AF8 (P:Program) (fr:List SV) (L:AE):ResultVar->Option SV
 | .tmp t=>(match kQ (fr.getD t AQ) with
  |true=>none
  |false=>some (fr.getD t AQ))
 | .cell t ty=>(match fr.getD t AQ,P.info? ty,P.underlying ty with
  | .loc i off,some q,some _=>if off=0 then (match look L i with
   |some (.box cs)=>(match FI P ty with
    |true=>if q.size=cs.length then some (.agg cs) else none
    |false=>(match cs with
     | [v]=>some v
     |_=>none))
   |_=>none) else none
  |_,_,_=>none)
def lC (P:Program) (fr:List SV) (L:AE):List ResultVar->Option (List SV)
 | []=>some []
 |r::rs=>match AF8 P fr L r with
  |some v=>(match lC P fr L rs with
   |some vs=>some (v::vs)
   |none=>none)
  |none=>none
def YA:List CT->List Nat->List SV
 |d::r,i::is=>(match d.ptr with
  |true=> .loc i 0
  |false=> .H9 i)::YA r is
 |_,_=>[]
def wJ (P:Program) (rvs:List ResultVar) (cl:List (Nat×Ty)) (pins:List (Nat×Nat×Nat×Nat)) (ios:List Nat) (os:List CT) (cs:List CT) (ro:List Nat:=[]):Exit->List SV->AE->Option (HT cs):=fun e fr L0=>
 match (match e with
  | .normal=>true
  | .ret=>true
  |_=>false) && ro.all (fun i=>ver L0 i==1) with
 |false=>none
 |true=>match lC P fr (D4 cl L0) rvs with
  |none=>none
  |some vs=>match FU .XD (look (D4 cl L0)) cs (vs++YA os ios) with
   |none=>none
   |some a=>match okA a && pins.all (fun q=>XH a.nes[q.1]? q.2.2.1) with
    |true=>some a.x
    |false=>none
def rO (ps:List CT) (x:HT ps) (N:Nat):AE:=AD (List.replicate (cnts ps+N) (0,.HP)) (B2 ps x 0)
def RQ (ps:List CT) (X1:List (Nat×Nat)) (x:HT ps) (N:Nat):AE:=AD (rO ps x N) (X1.map fun q=>(q.1,.ptr q.2))
def shOk (fi:FnI) (N:Nat):Bool:=fi.X1.all (fun q=>decide (cnts fi.ps<=q.1) && decide (q.1<cnts fi.ps+N) && decide (q.2<cnts fi.ps)) && decide (fi.X1.map (·.1)).Nodup && fi.sh.all fun s=>match s with
 | .pp n=>(fi.X1.map (·.1)).contains n
 |_=>true
def V1 (ps:List CT) (sh:List Sh) (x:HT ps) (n:Nat):List SV:=foldA sh (outSVs ps x 0)++List.replicate (n-(foldA sh (outSVs ps x 0)).length) AQ
theorem zW [QF] {rvs:List ResultVar} {c:B4 TB} {E:Env} {fr:List SV} {L:AE} {a:Act} {w:World} (hs:St c E fr L a w):∀ (rvs:List ResultVar) (vs:List SV),lC P fr L rvs=some vs→
  vs.length=rvs.length/\GV E L vs/\(rvs.mapM (m:=Sem) fun
   | .tmp t=>pure (a.tmps.getD t undef)
   | .cell x t=>do loadVar t (<-asAddr (a.tmps.getD x undef))).run P w= .ok (AH E vs) w:=by
 have AHF:∀ t,a.tmps.getD t undef=(fr.getD t AQ).den E:=by
  intro t
  rw[hs.bI.1]
  have:=oP (E:=E) fr t
  simpa using this
 intro rvs
 induction rvs with
 |nil=>intro vs h;simp only[lC,AR] at h;subst h;exact⟨rfl,trivial,rfl⟩
 |cons r rs ih=>
  intro vs h
  simp only[lC] at h
  split at h
  rotate_left
  ·cases h
  rename_i v hv
  split at h
  rotate_left
  ·cases h
  rename_i vs' AO4
  simp only[AR] at h
  subst h
  obtain⟨i1,i2,i3⟩:=ih vs' AO4
  have AGK:v.wf E L/\((fun r:ResultVar=>(match r with
   | .tmp t=>pure (a.tmps.getD t undef)
   | .cell x t=>do loadVar t (<-asAddr (a.tmps.getD x undef)):Sem Value)) r).run P w= .ok (v.den E) w:=by
   cases r with
   |tmp t=>
    simp only[AF8] at hv
    split at hv
    ·cases hv
    ·rename_i hu
     simp only[AR] at hv
     subst hv
     refine⟨?_,by simp only[AHF];rfl⟩
     rcases hs.wf t with h|h
     ·exact h
     ·rw[h] at hu;simp [kQ] at hu
   |cell x t=>
    simp only[AF8] at hv
    split at hv
    rotate_left
    ·cases hv
    rename_i i off q d hx hq hd
    split at hv
    rotate_left
    ·cases hv
    rename_i ho
    subst ho
    split at hv
    rotate_left
    ·cases hv
    rename_i cs hl
    obtain⟨G,hG⟩:=hs.hd
    obtain⟨h1,h2,h3,h4,⟨ty,h5⟩,h6⟩:=hG.F0 i _ hl
    have AC8:(asAddr (a.tmps.getD x undef)).run P w= .ok ⟨(E.nm i).A_,(E.nm i).pp.pre.length,none⟩ w:=by
     rw[AHF,hx]
     simp [SV.den,asAddr,h2]
    split at hv
    ·rename_i ha
     split at hv
     rotate_left
     ·cases hv
     rename_i ZD
     simp only[AR] at hv
     subst hv
     refine⟨h6, ?_⟩
     have:=run_loadCells (P:=P) w h5 (off:=(E.nm i).pp.pre.length) (n:=q.size) (by rw[Nm.kC,AL];omega)
     have hcl:=Nm.pE (E.nm i) (l:=AH E cs) (off:=0) (n:=q.size) (by rw[AL];omega)
     rw[JK] at hcl
     rw[hcl] at this
     simp only[Sem.run_bind,AC8,Result.andThen,loadVar,H_ w hd,ha,GJ,sizeOf,typeInfo]
     simp [hq,this,SV.den]
     unfold A4
     rw[AA1,List.take_of_length_le (by simp [AL];omega)]
    ·rename_i ha
     split at hv
     rotate_left
     ·cases hv
     rename_i u
     simp only[AR] at hv
     subst hv
     refine⟨h6.1, ?_⟩
     have hg:=Nm.qZ (E.nm i) (l:=AH E [u]) (k:=0) (by simp [AH])
     rw[JK] at hg
     have:w.cell? ⟨(E.nm i).A_,(E.nm i).pp.pre.length,none⟩=some (u.den E):=by
      simp only[World.cell?,h5,hg]
      simp [AH]
     simp only[Sem.run_bind,AC8,Result.andThen,loadVar,H_ w hd,ha]
     simp [this]
  refine⟨by simp [i1],⟨AGK.1,i2⟩, ?_⟩
  rw[List.mapM_cons,Sem.run_bind]
  have h1:=AGK.2
  simp only at h1
  rw[h1]
  simp only[Result.andThen,Sem.run_bind,i3,Sem.run_pure]
  rfl
theorem bK:∀ (zas bs:List CT) (x:HT (zas++bs)) (n:Nat),outSVs (zas++bs) x n=outSVs zas (HT.left zas bs x) n++outSVs bs (HT.right zas bs x) (n+cnts zas)
 | [],bs,x,n=>rfl
 |d::r,bs,x,n=>by
  have hh:HT.hd d r (HT.left (d::r) bs x)=HT.hd d (r++bs) x:=by cases r <;> rfl
  have ht:HT.tl d r (HT.left (d::r) bs x)=HT.left r bs (HT.tl d (r++bs) x):=by cases r <;> rfl
  have k1:outSVs (d::r++bs) x n=OJ d (HT.hd d (r++bs) x) n::outSVs (r++bs) (HT.tl d (r++bs) x) (n+d.cnt):=rfl
  have k2:outSVs (d::r) (HT.left (d::r) bs x) n=OJ d (HT.hd d r (HT.left (d::r) bs x)) n::outSVs r (HT.tl d r (HT.left (d::r) bs x)) (n+d.cnt):=rfl
  rw[k1,k2,hh,ht,bK r bs]
  simp only[cnts,ADB,I6]
  rfl
theorem pR:∀ (os:List CT) (is:List Nat) (v:SV),v∈YA os is->∃ i∈is,v= .loc i 0\/v= .H9 i
 | [],_,v,h=>by simp [YA] at h
 |_::_,[],v,h=>by simp [YA] at h
 |d::r,i::is,v,h=>by
  simp only[YA,MK] at h
  rcases h with rfl|h
  ·refine⟨i,by simp, ?_⟩
   cases d.ptr with
   |true=>exact .inl rfl
   |false=>exact .inr rfl
  ·obtain⟨k,h1,h2⟩:=pR r is v h
   exact⟨k,by simp [h1],h2⟩
theorem V2:∀ (cs:List CT) (a b:Nat),ID cs (a+b)=(ID cs b).map (fun k=>a+k)
 | [],_,_=>rfl
 |e::s,a,b=>by
  simp only[ID]
  rw[I6,V2 s]
  simp
theorem AAZ {md:PM} {AI:Nat->Option AO} {E:Env}:∀ (os:List CT) (is:List Nat) (a:IC (HT os)),FU md AI os (YA os is)=some a->os.all okO=true->os.length=is.length->(ID os 0).map (BU E a.nes)=is.map E.nm
 | [],[],a,_,_,_=>rfl
 | [],_::_,a,_,_,h=>by simp at h
 |_::_,[],a,_,_,h=>by simp at h
 |d::r,i::is,a,h,XZ,hl=>by
  simp only[x0,PG] at XZ
  obtain⟨v,vs',a1,a2,he,h1,h2,rfl⟩:=LU h
  simp only[YA,XV] at he
  obtain⟨rfl,rfl⟩:=he
  have ih:=AAZ (E:=E) r is a2 h2 XZ.2 (by simpa using hl)
  have l1:=MN h1
  obtain⟨k1,k2⟩:=IB E a1.nes a2.nes
  have hd:BU E a1.nes 0=E.nm i/\0<a1.nes.length:=by
   obtain⟨ZF,u,nes,x,p1,p2,p3,p4,p5⟩:=HQ h1
   rcases p3 with ⟨hp,j,hj,hl,e1,e2⟩|⟨hp,hag,e1,e2⟩
   ·rw[hp] at hj
    simp only[SV.loc.injEq,and_true] at hj
    subst hj
    rw[e1]
    exact⟨rfl,by simp⟩
   ·have hk:=XZ.1
    simp only[okO,hp,Bool.false_or,PG,Y9] at hk
    obtain⟨⟨ho,AO5⟩,U1⟩:=hk
    rcases hag with ⟨hx,_⟩|⟨_,rfl⟩
    ·rw[AO5] at hx;cases hx
    rw[hp] at p1
    rw[e1]
    rw[BQ ho] at p1
    clear h h1 h2 ih k1 k2 l1 p2 p4 p5 e1 e2
    revert x
    cases ht:d.t with
    |slice b=>
     intro x p1
     simp only[CU,IW] at p1
     revert p1
     split
     ·rename_i q hq
      intro p1
      simp only[AR,BP] at p1
      obtain⟨-, -,rfl, -⟩:=p1
      revert hq
      split
      ·split
       ·intro hq;cases hq
       ·intro hq;cases hq
      ·split
       ·split
        ·intro hq;cases hq
        ·intro hq
         simp only[AR,BP] at hq
         obtain⟨-,rfl, -⟩:=hq
         exact⟨rfl,by simp⟩
       ·intro hq;cases hq
      ·split
       ·rename_i hb
        rw[ht,←hb] at U1
        simp [Ty.oV,Ty.hO] at U1
       ·intro hq;cases hq
      ·split
       ·rename_i hb
        rw[ht,←hb] at U1
        simp [Ty.oV,Ty.hO] at U1
       ·intro hq;cases hq
      ·intro hq;cases hq
     ·intro p1;cases p1
    |_=>rw[ht] at U1;simp [Ty.oV] at U1
  simp only[ID,OI]
  have hs:=V2 r d.cnt 0
  rw[JK] at hs
  rw[KB,hs,PL,←ih]
  show BU E (a1.nes++a2.nes) 0::_=_
  rw[k1 0 hd.2,hd.1]
  congr 1
  apply VB
  intro k _
  show BU E (a1.nes++a2.nes) (d.cnt+k)=_
  rw[<-l1];exact k2 k
theorem AF9 {md:PM} {AI:Nat->Option AO} {E:Env}:∀ (zas os:List CT) (vs:List SV) (is:List Nat) (a:IC (HT (zas++os))),FU md AI (zas++os) (vs++YA os is)=some a->vs.length=zas.length->os.all okO=true->os.length=is.length→
  (ID os (cnts zas)).map (BU E a.nes)=is.map E.nm
 | [],os,[],is,a,h,_,XZ,hl=>AAZ os is a h XZ hl
 | [],_,_::_,_,_,_,h,_,_=>by simp at h
 |_::_,_,[],_,_,_,h,_,_=>by simp at h
 |d::r,os,v0::vs,is,a,h,hv,XZ,hl=>by
  obtain⟨v,vs',a1,a2,he,h1,h2,rfl⟩:=LU (c:=d) (r:=r++os) h
  simp only[ADB,XV] at he
  obtain⟨rfl,rfl⟩:=he
  have ih:=AF9 (E:=E) r os vs is a2 h2 (by simpa using hv) XZ hl
  have l1:=MN h1
  obtain⟨k1,k2⟩:=IB E a1.nes a2.nes
  rw[cnts,V2,PL,←ih]
  apply VB
  intro k _
  show BU E (a1.nes++a2.nes) (d.cnt+k)=_
  rw[<-l1];exact k2 k
theorem calleeRuns_of {f : FuncId} {fn : Func} {c : Code} (hf : P.funcs[f]? = some fn) (hb : fn.body = some c) (hn : (fn.name == "runtime.NumGoroutine") = false) : CalleeRuns P f := by
 intro args w
 have hn' : ¬ fn.name = "runtime.NumGoroutine" := by simpa using hn
 simp [callFunc,hf,hn',hb]
theorem AK.AB0 {TB:Tb} {c:B4 TB} {G:Nat->Prop} {w:World} {ms:Nat->Nm}:∀ (X1:List (Nat×Nat)) {L:AE},AK c G w (EB ms) L->(∀ q∈X1,look L q.1=some .HP/\Al L q.2/\c.Old (ms q.1).A_∧
   ∃ arr ty fz,c.w0.heap[(ms q.1).A_]? =some (.cells arr ty fz)/\arr[(ms q.1).off]? =some (.pointer (some ⟨(ms q.2).A_,(ms q.2).off,none⟩)))->(X1.map (·.1)).Nodup→
  AK c G w (EB ms) (AD L (X1.map fun q=>(q.1,.ptr q.2)))/\(∀ n,Al L n->Al (AD L (X1.map fun q=>(q.1,.ptr q.2))) n)/\∀ q∈X1,Al (AD L (X1.map fun q=>(q.1,.ptr q.2))) q.1
 | [],L,h,_,_=>⟨h,fun _ hn=>hn,fun q hq=>by cases hq⟩
 |p::r,L,h,hp,hn=>by
  obtain⟨p1,p2,p3,p4⟩:=hp p (by simp)
  simp only[OI,hJ] at hn
  have CP:=AJ p1
  have h1:=h.change (i:=p.1) (e' := .ptr p.2) (m:=(EB ms).nm p.1) (w' :=w) CP (.refl _) (HE _) (fun _=>rfl) rfl (fun _ _ _=>rfl) (fun b hb=>by cases hb) (fun _ _ _ _ _ _ hb=>by cases hb)
   (fun _=>by rw[VK];exact⟨p3,p4,A1 rfl _ p2⟩)
  rw[VK] at h1
  obtain⟨r1,r2,r3⟩:=AK.AB0 r h1 (fun q hq=>by
   obtain⟨q1,q2,q3,q4⟩:=hp q (by simp [hq])
   refine⟨?_,A1 rfl _ q2,q3,q4⟩
   rw[AT CP,BC]
   ·exact q1
   ·intro he
    exact hn.1 (he ▸ DB.2 ⟨q,hq,rfl⟩)) hn.2
  refine⟨r1,fun n hn=>r2 n (A1 rfl n hn),fun q hq=> ?_⟩
  rcases MK.1 hq with rfl|hq
  ·exact r2 _ ⟨.ptr q.2,by rw[AT CP,BQ rfl],rfl⟩
  ·exact r3 q hq
def roInit (fi:FnI) (x:HT fi.ps) (N:Nat):Bool:=fi.ro.all fun i=>match (RQ fi.ps fi.X1 x N)[i]? with
 |some (1,.box _)=>true
 |_=>false
def AJU {TB:Tb} (P:Program) (f:FuncId) (fn:Func) (rvs:List ResultVar) (n N:Nat) (fi:FnI):Prop:=
 ∀ (x:HT fi.ps) (r:HT (fi.rs++fi.os)),fi.F x=some r->∀ (cf:B4 TB) (E:Env) (args:Array Value) (w:World) (R:Ending->World->Prop),
  @St TB AG3 cf E (V1 fi.ps fi.sh x n) (RQ fi.ps fi.X1 x N) { tmps:=args++Array.replicate (fn.ntmps-args.size) undef,defers:=[] } w→
  (∀ (dd:QF) (W:List Nat) (E' :Env) (fr' :List SV) (L' :AE) (a' :Act) (w' :World), @St TB dd cf E' fr' L' a' w' ->Ext W E (V1 fi.ps fi.sh x n) (RQ fi.ps fi.X1 x N) E' fr' L' →
   wJ P rvs fi.cl fi.pin fi.bk fi.os (fi.rs++fi.os) fi.ro .ret fr' L' =some r->∃ v,(results fn a'.tmps).run P w' = .ok v w' /\R (.returned v) w')->Calls P f args w R
set_option maxHeartbeats 1000000 in
theorem fX {TB:Tb} {f:FuncId} {fn:Func} {c:Code} {n N:Nat} {rvs:List ResultVar} {fi:FnI}
  (hf : P.funcs[f]? = some fn) (hb : fn.body = some c) (hnm : (fn.name == "runtime.NumGoroutine") = false) (hn : fn.ntmps = n) (hres : fn.results = rvs.toArray) (hps : ∀ x, (foldA fi.sh (outSVs fi.ps x 0)).length ≤ n)
  (hst:(rvs.length=fi.rs.length/\fi.os.all okO=true/\fi.os.length=fi.bk.length/\(fi.bk.all fun i=>decide (i<cnts fi.ps))=true/\(fi.pin.all fun q=>decide (q.2.2.1<cnts fi.ps))=true/\shOk fi N=true))
  (ALS:AJU (TB:=TB) P f fn rvs n N fi) (hro:∀ x,roInit fi x N=true:=by intro x;rfl):CallsV P TB f fi:=by
 refine⟨calleeRuns_of hf hb hnm,fun x r hr w G ms hG AGO JM ADX AO6=> ?_⟩
 let cf:B4 TB:=⟨w,fun b=>b∈BA fi.ps x ms,G⟩
 have h0:AK cf G w (EB ms) (List.replicate (cnts fi.ps+N) (0,.HP)):=by
  refine⟨.refl _,HE _,fun _ _=>rfl,hG,fun _ h=>h,fun _ h=> .inl h, ?_, ?_, ?_,ADX⟩
  ·intro k e he
   unfold look at he
   rw[mZ] at he
   split at he
   ·rename_i q hq
    split at hq
    ·simp only[AR] at hq;subst hq
     simp only[AR] at he;subst he;trivial
    ·cases hq
   ·cases he
  ·intro k t xss q he
   unfold look at he
   rw[mZ] at he
   split at he
   ·rename_i q hq
    split at hq
    ·simp only[AR] at hq;subst hq
     simp only[AR] at he;cases he
    ·cases hq
   ·cases he
  ·intro k j e f' b _ he _ hb
   unfold look at he
   rw[mZ] at he
   split at he
   ·rename_i q hq
    split at hq
    ·simp only[AR] at hq;subst hq
     simp only[AR] at he;subst he;rcases hb with hb|⟨hb,_⟩|⟨hb,_⟩ <;> cases hb
    ·cases hq
   ·cases he
 have AO7:∀ j,j<cnts fi.ps->look (List.replicate (cnts fi.ps+N) (0,AO.HP)) (0+j)=some .HP:=by
  intro j hj
  unfold look
  rw[mZ,BQ (by omega)]
 have aS:∀ b∈BA fi.ps x ms,FT (EB ms) (List.replicate (cnts fi.ps+N) (0,AO.HP)) b:=by
  intro b _ k e he hb
  unfold look at he
  rw[mZ] at he
  split at he
  ·rename_i q hq
   split at hq
   ·simp only[AR] at hq;subst hq
    simp only[AR] at he;subst he;rcases hb with hb|⟨hb,_⟩|⟨hb,_⟩ <;> cases hb
   ·cases hq
  ·cases he
 obtain⟨a1,a2,a3⟩:=h0.aT fi.ps x AO7 AGO JM aS
 have eE:(EB ms).put 0 (cnts fi.ps) ms=EB ms:=by
  refine GW (fun k=> ?_) rfl (fun k=> ?_) <;> simp only[Env.put,EB] <;> split <;> simp
 rw[eE] at a1 a3
 have hL:rO fi.ps x N=AD (List.replicate (cnts fi.ps+N) (0,.HP)) (B2 fi.ps x 0):=rfl
 rw[<-hL] at a1 a2 a3
 have hsh:=hst.2.2.2.2.2
 simp only[shOk,PG,OH] at hsh
 obtain⟨⟨sh1,sh2⟩,sh3⟩:=hsh
 have hpt:∀ q∈fi.X1,look (rO fi.ps x N) q.1=some .HP/\Al (rO fi.ps x N) q.2/\cf.Old (ms q.1).A_∧
   ∃ arr ty fz,cf.w0.heap[(ms q.1).A_]? =some (.cells arr ty fz)/\arr[(ms q.1).off]? =some (.pointer (some ⟨(ms q.2).A_,(ms q.2).off,none⟩)):=by
  intro q hq
  have h1:=Q7.1 sh1 q hq
  simp only[PG,OH] at h1
  obtain⟨p1,p2,p3⟩:=AO6 q hq
  refine⟨?_,(a2 q.2).1 ⟨Nat.zero_le _,by omega⟩,⟨p1,p2⟩,p3⟩
  rw[(a2 q.1).2 (by omega)]
  unfold look
  rw[mZ,BQ (by omega)]
 obtain⟨b1,b2,b3⟩:=AK.AB0 fi.X1 a1 hpt sh2
 have a1:=b1
 have a3:=aW fi.sh _ (fun n hn=>by
  have:=Q7.1 sh3 _ hn
  simp only[AFT] at this
  obtain⟨q,hq,rfl⟩:=DB.1 this
  exact b3 q hq) (EH b2 (fun _ _=>rfl) _ a3).1
 have a2:∀ k,0<=k/\k<0+cnts fi.ps->Al (RQ fi.ps fi.X1 x N) k:=fun k hk=>b2 k ((a2 k).1 hk)
 have hs:St cf (EB ms) (V1 fi.ps fi.sh x n) (RQ fi.ps fi.X1 x N) { tmps:=(AH (EB ms) (foldA fi.sh (outSVs fi.ps x 0))).toArray++Array.replicate (fn.ntmps-(AH (EB ms) (foldA fi.sh (outSVs fi.ps x 0))).toArray.size) undef,defers:=[] } w:=by
  refine⟨⟨?_,rfl⟩,⟨G,a1⟩, ?_⟩
  ·simp only[V1,DO,hn]
   apply SS
   simp [AL]
   rw[CX,List.map_replicate]
   rfl
  ·intro t
   left
   unfold V1
   simp only[List.getD]
   by_cases ht:t<(foldA fi.sh (outSVs fi.ps x 0)).length
   ·rw[QE ht]
    have:=A3.1 a3 _ (AG2 ht)
    rw[KA ht]
    exact this
   ·rw[OG (by omega),mZ]
    split <;> exact bJ _ _
 have hd0:=hs.hd
 refine ALS x r hr cf (EB ms) _ w _ hs fun dd W E' fr' L' a' w' h1 h2 h3=> ?_
 have fin:wJ P rvs fi.cl fi.pin fi.bk fi.os (fi.rs++fi.os) fi.ro .ret fr' L' =some r->∃ v,(results fn a'.tmps).run P w' = .ok v w' ∧
   (∃ G' ms',Ending.returned v= .returned ((MP (outSVs fi.rs (HT.left fi.rs fi.os r) 0)).den (EB ms'))∧
   Rest w w' /\w.heap.size<=w'.heap.size/\(∀ b,b<w.heap.size->b∉BA fi.ps x ms->w'.heap[b]? =w.heap[b]?)∧
   (∀ b,G b->G' b)/\(∀ b,G' b->G b\/w.heap.size<=b\/b∈BA fi.ps x ms)/\(∀ b,G' b->b<w'.heap.size)∧
   PS (⟨w,fun b=>b∈BA fi.ps x ms,G⟩:B4 TB) G' w' (fi.rs++fi.os) r ms' /\(BA (fi.rs++fi.os) r ms').Nodup∧
   (ID fi.os (cnts fi.rs)).map ms' =fi.bk.map ms/\(∀ q∈fi.pin,ms' q.1=ms q.2.2.1)/\∀ i∈fi.ro,yJ w w' (ms i).A_):=by
  intro hk
  simp only[wJ,Bool.true_and] at hk
  split at hk
  ·cases hk
  rename_i hrv
  have ALT:∀ i∈fi.ro,yJ w w' (ms i).A_:=by
   intro i hi
   have v1:=Q7.1 (hro x) i hi
   have v2:=Q7.1 hrv i hi
   split at v1
   rotate_left
   ·cases v1
   rename_i cs oU
   have hL0:look (RQ fi.ps fi.X1 x N) i=some (.box cs):=by unfold look;rw[oU]
   have hL1:look L' i=some (.box cs):=by
    simp only[hM] at v2
    have CP:i<L'.length:=by rw[h2.ZT.1];exact (qC.1 oU).1
    obtain⟨z,hz⟩:∃ z,L'[i]? =some z:=⟨_,KA CP⟩
    have hv:z.1=1:=by simp only[ver,hz] at v2;exact v2
    have:=(h2.ZT.2 i 1 (.box cs) z.1 z.2 oU hz).2 hv
    unfold look;rw[hz];simp only;rw[this]
   obtain⟨Ga,ha⟩:=hd0
   obtain⟨Gb,W_⟩:=h1.hd
   obtain⟨_,_,_,_,⟨ty1,e5⟩,e6⟩:=ha.F0 i _ hL0
   obtain⟨_,_,_,_,⟨ty2,f5⟩,_⟩:=W_.F0 i _ hL1
   have hnm:=(h2.nm i ⟨_,hL0,rfl⟩).1
   rw[hnm,(EH (L' :=L') (fun k hk=>(h2.nm k hk).2) (fun k hk=>(h2.nm k hk).1) _ e6).2] at f5
   exact⟨_,ty1,ty2,e5,f5⟩
  obtain⟨Ec,h1,hxc⟩:=LZ fi.cl h1
  have h2:=h2.trans (hxc.mono (fun _ h=>by cases h))
  clear hxc
  generalize D4 fi.cl L' =L' at hk h1 h2
  generalize Ec=E' at h1 h2
  split at hk
  ·cases hk
  rename_i vs hvs
  split at hk
  ·cases hk
  rename_i tk htk
  split at hk
  rotate_left
  ·cases hk
  rename_i XZ
  simp only[PG] at XZ
  obtain⟨XZ,AIY⟩:=XZ
  simp only[AR] at hk
  obtain⟨l1,l2,l3⟩:=zW (rvs:=rvs) h1 rvs vs hvs
  obtain⟨G3,hG3⟩:=h1.hd
  have hio:∀ i∈fi.bk,Al (RQ fi.ps fi.X1 x N) i:=fun i hi=>a2 i ⟨Nat.zero_le _,by have:=Q7.1 hst.2.2.2.1 i hi;simpa using this⟩
  have hwv:GV E' L' (vs++YA fi.os fi.bk):=by
   refine A3.2 fun v hv=> ?_
   rcases DU.1 hv with hv|hv
   ·exact A3.1 l2 v hv
   ·obtain⟨i,hi,rfl|rfl⟩:=pR _ _ _ hv
    ·exact (h2.nm i (hio i hi)).2
    ·exact (h2.nm i (hio i hi)).2
  obtain⟨G1,G2,t1,t2,t3,t4,t5,t6,t7,t8,t9,t10,t11⟩:=hG3.take (md:= .XD) (by simp) (fun n e h=>h) htk XZ hwv
  rw[t4 rfl] at t9
  obtain⟨q1,q2⟩:=RC E' _ _ _ htk
  have VL:=q2 (EB (BU E' tk.nes)) 0 (fun k _=>by simp [EB])
  rw[hk,bK,DO,DO] at VL
  have hlen:(AH E' vs).length=(AH (EB (BU E' tk.nes)) (outSVs fi.rs (HT.left fi.rs fi.os r) 0)).length:=by
   rw[AL,AL,JA,l1,hst.1]
  have hd1:=(List.append_inj VL hlen).1
  refine⟨(MP vs).den E', ?_,G1,BU E' tk.nes, ?_,t1.rest,t1.size, ?_,t1.glo, ?_,t1.jY,by rw[hk] at t9;exact t9,by rw[hk] at t10;exact t10, ?_,fun q hq=> ?_,ALT⟩
  ·unfold results
   rw[Sem.run_bind,hres,Array.mapM_eq_mapM_toList,map_eq_pure_bind,Sem.run_bind]
   have e0:rvs.toArray.toList=rvs:=by simp
   rw[e0]
   erw [l3]
   simp only[Result.andThen,Sem.run_pure]
   congr 1
   match vs with
   | []=>rfl
   | [v]=>simp [MP,AH]
   |v::u::r=>simp [MP,SV.den,AH]
  ·rw[oY hd1]
  ·intro b hb hbn
   exact t1.old b ⟨hb,hbn⟩
  ·intro b hb
   rcases t1.ghi b hb with h|h
   ·exact .inl h
   ·right
    by_cases CP:b<w.heap.size
    ·right
     exact Classical.byContradiction fun hx=>h ⟨CP,hx⟩
    ·left;omega
  ·rw[AF9 (E:=E') fi.rs fi.os vs fi.bk tk htk (by rw[l1,hst.1]) hst.2.1 hst.2.2.1]
   apply VB
   intro i hi
   exact (h2.nm i (hio i hi)).1
  ·have p1:=Q7.1 AIY q hq
   have p2:=Q7.1 hst.2.2.2.2.1 q hq
   simp only[OH] at p2
   have dL:Al (RQ fi.ps fi.X1 x N) q.2.2.1:=a2 q.2.2.1 ⟨Nat.zero_le _,by simpa using p2⟩
   unfold XH at p1
   split at p1
   ·rename_i i hi
    have hi2:i=q.2.2.1:=by simpa using p1
    simp only[BU,hi,NE.nm,hi2]
    exact (h2.nm _ dL).1
   ·cases p1
 exact fin h3
theorem callsV_of_rk {cx:Cx} (hcx:cx.Ok P) {f:FuncId} {fn:Func} {c:Code} {n N:Nat} {rvs:List ResultVar} {fi:FnI}
  (hf : P.funcs[f]? = some fn) (hb : fn.body = some c) (hnm : (fn.name == "runtime.NumGoroutine") = false) (hn : fn.ntmps = n) (hres : fn.results = rvs.toArray) (hps : ∀ x, (foldA fi.sh (outSVs fi.ps x 0)).length ≤ n)
  (hst:(rvs.length=fi.rs.length/\fi.os.all okO=true/\fi.os.length=fi.bk.length/\(fi.bk.all fun i=>decide (i<cnts fi.ps))=true/\(fi.pin.all fun q=>decide (q.2.2.1<cnts fi.ps))=true/\shOk fi N=true))
  (hrk:∀ x,fi.F x=rk P cx c (HT (fi.rs++fi.os)) 1000000 (wJ P rvs fi.cl fi.pin fi.bk fi.os (fi.rs++fi.os) fi.ro) (V1 fi.ps fi.sh x n) (RQ fi.ps fi.X1 x N)) (hro:∀ x,roInit fi x N=true:=by intro x;rfl):CallsV P cx.tb f fi:=
 fX hf hb hnm hn hres hps hst (hro:=hro) fun x r hr cf E args w R hs h=>by
  rw[hrk] at hr
  refine calls_of_wp hf hb (wp_mono (lB hcx c _ _ _ _ _ _ hr cf E _ w hs) ?_)
  rintro e a' w' ⟨E',fr',L',h1,h2,h3⟩
  cases e with
  |normal=>exact⟨h1.bI.2,h _ _ _ _ _ _ _ h1 h2 h3⟩
  |ret=>exact⟨h1.bI.2,h _ _ _ _ _ _ _ h1 h2 h3⟩
  |exit id=>cases h3
  |goto l=>cases h3
  |panic ch=>cases h3
  |outgrown=>cases h3
def nE (l:List (Nat×FnI)) (n:FuncId):Option FnI:=lk l n
def AB (P:Program) (TB:Tb) (l:List (Nat×FnI)):Prop:=∀ n fi,lk l n=some fi->CallsV P TB n fi
theorem AB.nil:AB P TB []:=by intro n g h;cases h
theorem AB.cons {l:List (Nat×FnI)} {n:FuncId} {g:FnI} (h:CallsV P TB n g) (hl:AB P TB l):AB P TB ((n,g)::l):=by
 intro k g' hk
 simp only[lk] at hk
 split at hk
 ·rename_i he;subst he;simp only[AR] at hk;subst hk;exact h
 ·exact hl k g' hk
theorem AN {nm:List (Nat×Nat×Nat)} {BN:List Nat} {loops RH:List (Nat×U2)} {l:List (Nat×FnI)} (h:AB P TB l) {x:List (Nat×Xt)} (hx:∀ n e,lk x n=some e->AM P n e) {y z u dy:List Nat} {op:List (Nat×(Nat×Nat×Nat))} {fm:List (FuncId×List (Int×Nat))} (hf:∀ n xs,lk fm n=some xs->AJG P n xs:=by intro n xs h;cases h) {ov:List (Nat×(FuncId×FnI))} (ho:∀ d n fi,lk ov d=some (n,fi)->CallsV P TB n fi:=by intro d n fi h;cases h):Cx.Ok P { nm:=nm,BN:=BN,fns:=nE l,loops:=loops,RH:=RH,tb:=TB,exts:=x,lets:=y,AKZ:=z,AL0:=u,opens:=op,dyns:=dy,fms:=fm,ovr:=ov }:=⟨h,hx,hf,ho⟩
theorem AM.nil:∀ n e,lk ([]:List (Nat×Xt)) n=some e->AM P n e:=by intro n e h;cases h
theorem AM.cons {x:List (Nat×Xt)} {m:Nat} {d:Xt} (h:AM P m d) (hx:∀ n e,lk x n=some e->AM P n e):∀ n e,lk ((m,d)::x) n=some e->AM P n e:=by
 intro k g hk
 simp only[lk] at hk
 split at hk
 ·rename_i he;subst he;simp only[AR] at hk;subst hk;exact h
 ·exact hx k g hk
end
end Go.V3
namespace Go.V3
open Go
section
variable {P:Program}
def Idle (P:Program) (g:FuncId) (k:Nat):Prop:=CalleeRuns P g/\∀ (AFA:Array Value) (w:World),AFA.size=k->CallsD P g AFA .returning w fun e u w' =>(∃ v,e= .returned v)/\u= .returning/\w' =w
noncomputable def rkD (P:Program) (cx:Cx) (c0 c1:Code) (α:Type) (K:Exit->List SV->AE->Option α) (fr:List SV) (L:AE) (t:Nat) (g:FuncId) (xs:List Operand):Option α:=
 rk P cx c0 α 1000000 (fun e fr L=>match e with
  | .normal=>(match xs.all (fun x=> !kQ (ev fr x)) with
   |true=>rk P cx c1 α 1000000 K (fr.set t (.NP g (xs.map (X2 fr)))) L
   |false=>none)
  |_=>none) fr L
theorem rP {cx:Cx} (hcx:cx.Ok P) {f g:FuncId} {fn:Func} {c0 c1:Code} {id t:Nat} {o1 o2:Oper} {xs:Array Operand} {n N:Nat} {rvs:List ResultVar} {fi:FnI}
  (hf : P.funcs[f]? = some fn) (hb : fn.body = some (.seq c0 (.seq (.region id #[o1, o2] false) c1))) (hnm : (fn.name == "runtime.NumGoroutine") = false) (hn : fn.ntmps = n) (hres : fn.results = rvs.toArray) (hps : ∀ x, (foldA fi.sh (outSVs fi.ps x 0)).length ≤ n)
  (h1:o1.op= .makeFunc (.func g) #[] xs/\o1.dst=some t/\o1.guard=none) {ts:Array TypeId} (h2:o2.op= .defer { callee:= .value (.tmp t),args:= #[],argTypes:=ts }/\o2.dst=none/\o2.guard=none) (ht:t<n) (hid:Idle P g xs.size)
  (hst:(rvs.length=fi.rs.length/\fi.os.all okO=true/\fi.os.length=fi.bk.length/\(fi.bk.all fun i=>decide (i<cnts fi.ps))=true/\(fi.pin.all fun q=>decide (q.2.2.1<cnts fi.ps))=true/\shOk fi N=true))
  (hrk:∀ x,fi.F x=rkD P cx c0 c1 (HT (fi.rs++fi.os)) (wJ P rvs fi.cl fi.pin fi.bk fi.os (fi.rs++fi.os) fi.ro) (V1 fi.ps fi.sh x n) (RQ fi.ps fi.X1 x N) t g xs.toList) (hro:∀ x,roInit fi x N=true:=by intro x;rfl):CallsV P cx.tb f fi:=
 fX hf hb hnm hn hres hps hst (hro:=hro) fun x r hr cf E args w R hs h=>by
  rw[hrk] at hr
  refine calls_of_wp_defers hf hb ?_
  refine wp_seq (wp_mono (lB hcx c0 _ _ _ _ _ _ hr cf E _ w hs) ?_)
  rintro e a1 w1 ⟨E1,jP,L1,k1,k2,k3⟩
  cases e with
  |normal=>
   simp only at k3
   split at k3
   rotate_left
   ·cases k3
   rename_i AJT
   have hlen:jP.length=n:=by
    rw[k2.len];unfold V1;rw[qF,List.length_replicate];have:=hps x;omega
   refine wp_seq (wp_region ?_)
   have VL:(xs.map a1.eval)=(AH E1 (xs.toList.map (X2 jP))).toArray:=by
    apply SS
    rw[dN,CX,PL]
    refine VB fun y hy=> ?_
    have:=Q7.1 AJT y hy
    rw[LN k1.bI]
    show _=(clean (ev jP y)).den E1
    cases hv:ev jP y <;> first|rfl|(rw[hv] at this;cases this)
   have hw1:∀ a:Act,Region.wanted o1 (yielded #[o1,o2] a.tmps)=true:=fun a=>by simp [Region.wanted,h1.2.2]
   have hw2:∀ a:Act,Region.wanted o2 (yielded #[o1,o2] a.tmps)=true:=fun a=>by simp [Region.wanted,h2.2.2]
   have hx1:(execOp a1.eval o1).run P w1= .ok (.value (.func (.func g) #[] (xs.map a1.eval))) w1:=by
    simp only[execOp,h1.1,Instr.makeFunc]
    simp
   have hs1:=k1.bI.put (some t) (.NP g (xs.toList.map (X2 jP)))
   have ha2:(a1.put (some t) ((SV.NP g (xs.toList.map (X2 jP))).den E1)).eval (.tmp t)= .func (.func g) #[] (AH E1 (xs.toList.map (X2 jP))).toArray:=by
    rw[LN hs1]
    simp only[ev,LO]
    rw[CE,BQ ⟨rfl,by omega⟩]
    simp [SV.den]
   have hx2:(execOp (a1.put (some t) ((SV.NP g (xs.toList.map (X2 jP))).den E1)).eval o2).run P w1= .ok (.defer { target:= .fn (.func g) (AH E1 (xs.toList.map (X2 jP))).toArray,args:= #[] }) w1:=by
    simp only[execOp,h2.1,resolve,ha2,Deferred.ofValue]
    simp
   show wpOps P #[o1,o2] _ [0,1] a1 w1
   simp only[wpOps,g_,U9,mY,hw1,hw2,GJ]
   refine .inl ?_
   show o1.upon P a1 _ _ ((execOp a1.eval o1).run P w1)
   rw[hx1,Oper.upon_value,h1.2.1,VL]
   refine .inl ?_
   show o2.upon P _ _ _ ((execOp (a1.put (some t) ((SV.NP g (xs.toList.map (X2 jP))).den E1)).eval o2).run P w1)
   rw[hx2,Oper.upon_defer,h2.2.1]
   let D:Deferred:={ target:= .fn (.func g) (AH E1 (xs.toList.map (X2 jP))).toArray,args:= #[] }
   have AO8: @St cx.tb ⟨[D]⟩ cf E1 (jP.set t (.NP g (xs.toList.map (X2 jP)))) L1 { a1.put (some t) ((SV.NP g (xs.toList.map (X2 jP))).den E1) with defers:=[D] } w1:=by
    refine @St.mk cx.tb ⟨[D]⟩ cf E1 _ L1 _ w1 ⟨hs1.1,rfl⟩ k1.hd ?_
    refine iD.put k1.wf (some t) ?_
    refine A3.2 fun v hv=> ?_
    obtain⟨y,_,rfl⟩:=DB.1 hv
    exact AI3 k1.wf y
   have AO9:(a1.put (some t) ((SV.NP g (xs.toList.map (X2 jP))).den E1)).defers=[]:=hs1.2
   show Exit.then _ _ .normal _ w1
   have AOA:({ a1.put (some t) ((SV.NP g (xs.toList.map (X2 jP))).den E1) with defers:=D::(a1.put (some t) ((SV.NP g (xs.toList.map (X2 jP))).den E1)).defers }:Act).put none undef={ a1.put (some t) ((SV.NP g (xs.toList.map (X2 jP))).den E1) with defers:=[D] }:=by
    rw[AO9];rfl
   show c1.wp P _ (({ a1.put (some t) ((SV.NP g (xs.toList.map (X2 jP))).den E1) with defers:=D::(a1.put (some t) ((SV.NP g (xs.toList.map (X2 jP))).den E1)).defers }:Act).put none undef) w1
   rw[AOA]
   refine wp_mono (@lB P ⟨[D]⟩ cx hcx c1 _ _ _ _ _ _ k3 cf E1 _ w1 AO8) ?_
   rintro e a' w' ⟨E',fr',L',q1,q2,q3⟩
   have k2' :Ext (t::(writes c0++writes c1)) E (V1 fi.ps fi.sh x n) (RQ fi.ps fi.X1 x N) E1 (jP.set t (.NP g (xs.toList.map (X2 jP)))) L1:=
    ⟨k2.nm,fun s hs=>k2.ds s (fun hc=>hs (by simp [hc])),k2.ZT,by rw[SR];exact k2.len,fun s hs=>by rw[CE,BC (fun hc=>hs (by simp [hc.1]))];exact k2.out s (fun hc=>hs (by simp [hc]))⟩
   have fin:wJ P rvs fi.cl fi.pin fi.bk fi.os (fi.rs++fi.os) fi.ro .ret fr' L' =some r->Leaves P fn a'.tmps R a'.defers .returning w' :=by
    intro hk
    have qs:a'.defers=[D]:=(@St.bI cx.tb ⟨[D]⟩ cf E' fr' L' a' w' q1).2
    rw[qs]
    refine leaves_cons (by simp) (f:=g) (args:= #[]++(AH E1 (xs.toList.map (X2 jP))).toArray) ?_ ((hid.2 _ w' (by simp [AL])).mono ?_)
    ·exact hid.1 _ _
    ·rintro e u w'' ⟨⟨v,rfl⟩,rfl,rfl⟩
     exact h ⟨[D]⟩ _ _ _ _ _ _ q1 (k2'.trans (q2.mono (fun s hs=>by simp [hs]))) hk
   cases e with
   |normal=>exact fin q3
   |ret=>exact fin q3
   |exit id=>cases q3
   |goto l=>cases q3
   |panic ch=>cases q3
   |outgrown=>cases q3
  |ret=>cases k3
  |exit id=>cases k3
  |goto l=>cases k3
  |panic ch=>cases k3
  |outgrown=>cases k3
theorem pS {kk:IntKind} (n:Int):∀ (xs:List (Int×Nat)) (es:List MapEntry) (i:Nat),es.map (fun e=>(e.key,e.val))=xs.map (fun q=>((.int .i64 q.1:Value),(.func (.func q.2) #[] #[]:Value)))->n∉xs.map (·.1)->Instr.findNow (.int kk) (.int .i64 n) es i=some none
 | [],es,i,h,_=>by
  simp only[ABL,ADD] at h
  subst h;rfl
 |(k,f)::r,es,i,h,hn=>by
  cases es with
  |nil=>simp at h
  |cons e es=>
   simp only[OI,XV,BP] at h
   obtain⟨⟨h1,h2⟩,h3⟩:=h
   simp only[OI,MK,not_or] at hn
   have hb:(n==k)=false:=by simp [hn.1]
   have ih:=pS (kk:=kk) n r es (i+1) h3 hn.2
   simp [Instr.findNow,Instr.sameNow,h1,hb,ih]
theorem AFB {ops:Array Oper} {t k e:TypeId} {kk:IntKind} (u1:P.underlying t=some (.map k e)) (u2:P.underlying k=some (.int kk)) {m b:Nat} {Q:Exit->Act->World->Prop} {fin:List Nat} {a:Act} (ha:a.eval (.tmp m)= .map (some b)):∀ (xs:List (Int×Nat)) (i:Nat) (done:List (Int×Nat)) (w:World) (es:Array MapEntry) (ck:Nat),
  (∀ j x,xs[j]? =some x->∃ o,ops[i+j]? =some o/\o.op= .insert t (.tmp m) (.const (.int .i64 x.1)) (.func x.2)/\o.guard=none/\o.dst=none)->w.heap[b]? =some (.map es ck)->uI es done->((done++xs).map (·.1)).Nodup→
  (∀ w' es' ck',w'.heap.size=w.heap.size->(∀ c,c≠b->w'.heap[c]? =w.heap[c]?)->w'.heap[b]? =some (.map es' ck')->Rest w w' ->uI es' (done++xs)->wpOps P ops Q fin a w')->wpOps P ops Q (List.range' i xs.length++fin) a w
 | [],i,done,w,es,ck,_,hb,hm,_,hK=>by
  simpa using hK w es ck rfl (fun _ _=>rfl) hb (.refl _) (by simpa using hm)
 |x::r,i,done,w,es,ck,ho,hb,hm,hn,hK=>by
  obtain⟨o,h1,h2,h3,h4⟩:=ho 0 x rfl
  rw[JK] at h1
  have JM:x.1∉done.map (·.1):=by
   rw[tY,SQ] at hn
   intro hc
   exact hn.2.2 _ hc x.1 (by simp) rfl
  have CP:=LR hb
  have hf:(Instr.findKey k (.int .i64 x.1) es.toList).run P w= .ok none w:=by simp [Instr.findKey,run_underlying u2,pS (kk:=kk) x.1 done es.toList 0 hm JM]
  have ET:(Instr.mapUpdate t (.map (some b)) (.int .i64 x.1) (.func (.func x.2) #[] #[])).run P w= .ok () { w with heap:=w.heap.setIfInBounds b (.map (es.push { key:= .int .i64 x.1,val:= .func (.func x.2) #[] #[],born:=ck }) (ck+1)) }:=by
   simp only[Instr.mapUpdate,Sem.run_bind,run_underlying u1,Result.andThen,VR hb,QJ u2,hf]
   simp [setObj,Sem.run,hb]
  rw[hI,List.range'_succ,ADB,wpOps,h1]
  simp only[Region.wanted,h3,GJ]
  refine .inl ?_
  show o.upon P a _ _ ((execOp a.eval o).run P w)
  have hx:(execOp a.eval o).run P w= .ok .skip { w with heap:=w.heap.setIfInBounds b (.map (es.push { key:= .int .i64 x.1,val:= .func (.func x.2) #[] #[],born:=ck }) (ck+1)) }:=by
   simp only[execOp,h2,ha]
   show (do Instr.mapUpdate t (.map (some b)) (.int .i64 x.1) (.func (.func x.2) #[] #[]);pure Next.skip:Sem Next).run P w=_
   rw[Sem.run_bind,ET];rfl
  rw[hx,Oper.upon_skip,h4]
  have W_ :(w.heap.setIfInBounds b (.map (es.push { key:= .int .i64 x.1,val:= .func (.func x.2) #[] #[],born:=ck }) (ck+1)))[b]? =some (.map (es.push { key:= .int .i64 x.1,val:= .func (.func x.2) #[] #[],born:=ck }) (ck+1)):=by
   rw[xV,BQ rfl,BQ CP]
  refine AFB u1 u2 ha r (i+1) (done++ [x]) _ _ _ (fun j y hy=> ?_) W_ ?_ (by simpa using hn) ?_
  ·have:=ho (j+1) y hy
   rwa [show i+(j+1)=i+1+j by omega] at this
  ·unfold uI at hm ⊢
   rw[Array.toList_push,tY,hm];simp
  ·intro w' es' ck' q1 q2 q3 q4 q5
   refine hK w' es' ck' (by rw[q1];simp) (fun c hc=> ?_) q3 ?_ (by simpa using q5)
   ·rw[q2 c hc]
    show (w.heap.setIfInBounds b _)[c]? =_
    rw[xV,BC (fun h=>hc h.symm)]
   ·exact⟨q4.os,q4.tape,q4.output⟩
end
end Go.V3
namespace Go.V3
open Go
def AG (e:Int):Int:=IntKind.wrap .i64 e
def gl {α:Type} (d:α) (xs:List α) (k:Nat):α:=xs.getD k d
end Go.V3
namespace Go.V3
open Go Go.RowKit
variable {TB:Tb}
theorem ACW {a:Int} (h:(Lit.int .i64 a).wf=true):I64 a:=by
 simp [Lit.wf,IntKind.min,IntKind.max,IntKind.signed,IntKind.bits] at h
 exact⟨by omega,by omega⟩
def nm0:Nm:=⟨0,0,true,0,0,none⟩
def bare:List CT->Bool
 | []=>true
 |d::r=> !d.ptr && d.t.EG==0 && bare r
theorem wK {own:Bool} {t:Ty} (h:t.EG=0) (x:t.T):A7 own t x=[]:=by
 have:=AW own t x
 rw[h] at this
 exact List.eq_nil_of_length_eq_zero this
theorem AB1 {c:B4 TB} {G:Nat->Prop} {w:World}:∀ (cs:List CT) (x:HT cs) (ms:Nat->Nm),bare cs=true->PS c G w cs x ms/\BA cs x ms=[]
 | [],_,_,_=>⟨trivial,rfl⟩
 |d::r,x,ms,h=>by
  simp only[bare,PG,Y9,hM] at h
  obtain⟨⟨hp,hn⟩,hr⟩:=h
  obtain⟨h1,h2⟩:=AB1 r (HT.tl d r x) (fun k=>ms (d.cnt+k)) hr
  refine⟨⟨⟨?_, ?_⟩,h1⟩, ?_⟩
  ·intro j e he
   rw[wK hn] at he
   simp at he
  ·intro h;rw[hp] at h;cases h
  ·rw[BA,h2,IX,hp,wK hn]
   rfl
def ALU (TB:Tb) (w:World):Prop:=∀ q∈TB,q.1<w.heap.size/\∃ ty fz,w.heap[q.1]? =some (.cells q.2 ty fz)
theorem AFC {P:Program} {f:FuncId} {fi:FnI} (hc:CallsV P TB f fi) (hb:bare fi.ps=true) {vals:Array Value} {w:World} (hT:ALU TB w) {x:HT fi.ps} {r:HT (fi.rs++fi.os)}
  (hv:(AH (EB fun _=>nm0) (outSVs fi.ps x 0)).toArray=vals) (hr:fi.F x=some r) (ht:∀ ms,(MP (outSVs fi.rs (HT.left fi.rs fi.os r) 0)).den (EB ms)= .bool true) (hsh:fi.sh=[]:=by rfl) (hpp:fi.X1=[]:=by rfl):
  Calls P f vals w (fun e w' =>e= .returned (.bool true)/\Below w.heap.size w w'):=by
 have h0:=AB1 (c:=(⟨w,fun b=>b∈BA fi.ps x (fun _=>nm0),fun _=>False⟩:B4 TB)) (G:=fun _=>False) (w:=w) fi.ps x (fun _=>nm0) hb
 have h:=hc.2 x r hr w (fun _=>False) (fun _=>nm0) (fun _ h=>h.elim) h0.1 (by rw[h0.2];exact jS) (fun q hq=>⟨⟨(hT q hq).1,by rw[h0.2];exact List.not_mem_nil⟩,(hT q hq).2⟩) (by rw[hpp];exact fun q hq=>by cases hq)
 rw[hsh] at h
 replace h:Calls P f (AH (EB fun _=>nm0) (outSVs fi.ps x 0)).toArray w _:=h
 rw[hv] at h
 refine h.mono ?_
 rintro e w' ⟨G',ms',rfl,VM,hs,hold, -⟩
 refine⟨by rw[ht],⟨VM.os,VM.tape,VM.output,hs,fun b hb=>hold b hb ?_⟩⟩
 rw[h0.2]
 exact List.not_mem_nil
end Go.V3
namespace Go.V3
open Go Go.RowKit Go.ChangeShapes Go.WideShapes
variable {TB:Tb}
section
variable {H:Type} {enc:TypeId×Value->H} {P:Program} {w:World} {held:Bool}
end
structure AR7 (w:World) (ps:List CT) (x:HT ps) (ms:Nat->Nm) (vals:List Value):Prop where
 all:∀ (TB:Tb) (c:B4 TB),PS c (fun b=>b<w.heap.size) w ps x ms
 own:BA ps x ms=[]
 den:AH (EB ms) (outSVs ps x 0)=vals
end Go.V3
namespace Go.V3
open Go Go.ChangeShapes Go.WideShapes Go.RowKit
theorem pT {H:Type} {enc:TypeId×Value->H} {P:Program} {w:World} {e:TypeId} {k:IntKind} (he:P.underlying e=some (.int k)) (hc:P.cellsOf e=1):
  ∀ (m:Nat) (ns:List Int) (cs:List Value),cs.length=ns.length->(∀ i,i<ns.length->∃ x ps,DataW.trod enc P w 0 (fun _=>true) false m e ((cs.drop i).take 1)=some (x,ps)/\ns[i]?.map (fun n=>(DataW.lit (.int k n):DataW H))=some x)->cs=ns.map (Value.int k)
 |m,[],cs,hl,_=>by simpa using hl
 |m,n::ns,[],hl,_=>by simp at hl
 |m,n::ns,c::cs,hl,h=>by
  obtain⟨x,ps,h1,h2⟩:=h 0 (by simp)
  obtain⟨q,e1,e2,_⟩:=DataW.trod_int he h1
  simp only[AA1,List.take_succ_cons,List.take_zero,XV,and_true] at e1
  simp only[BP] at e2
  simp only[U9,XW,AR] at h2
  rw[e2.1] at h2
  simp only[DataW.lit.injEq,Lit.int.injEq,true_and] at h2
  rw[OI,e1,h2]
  congr 1
  refine pT (enc:=enc) (w:=w) he hc m ns cs (by simpa using hl) fun i hi=> ?_
  obtain⟨x,ps,h3,h4⟩:=h (i+1) (by simpa using hi)
  exact⟨x,ps,by simpa using h3,by simpa using h4⟩
theorem wL {P:Program} {W:World} {nm:String} {d:DataW Unit} (h:laidMetH P [(nm,d)] W) (hp:([(nm,d)].all fun x=>x.2.handleName?.isNone)=true) {g t e:Nat} {len:Nat} {k:IntKind} (hg:P.globalNamed nm=some g)
  (ht:(P.globals[g]?).map (·.type)=some t) (hu:P.underlying t=some (.array len e)) (he:P.underlying e=some (.int k)) (hc:P.cellsOf e=1) (hct:P.cellsOf t=len) (ns:List Int) (hd:d= .agg (ns.map fun n=> .lit (.int k n))):
  g<W.heap.size/\∃ ty fz,W.heap[g]? =some (.cells (ns.map (Value.int k)).toArray ty fz):=by
 rw[MakeChecks.laidMetH_plain _ _ _ hp] at h
 obtain⟨ps,⟨g0,t0,cs0,f0,p0,q0,hg0,ht0,hv0,hd0,_⟩,_⟩:=h
 obtain rfl:=Option.some.inj (hg.symm.trans hg0)
 obtain rfl:=Option.some.inj (ht.symm.trans ht0)
 obtain⟨xs,m,rfl,hx,hlen,iA,hel⟩:=DataW.trod_array hu hd0
 simp only[BP] at hx
 have xS:=hx.1
 subst hd
 simp only[DataW.agg.injEq] at xS
 have j4:ns.length=xs.length:=by
  have:=ZA List.length xS
  simpa using this
 have oU:cs0.toList=ns.map (Value.int k):=by
  refine pT (enc:=fun _=>()) (w:=W) he hc m ns cs0.toList (by rw[hlen,hct,j4,iA]) fun i hi=> ?_
  have h1:=hel i (by omega)
  rw[hc,x5] at h1
  obtain⟨⟨x,q⟩,hxi⟩:∃ y,xs[i]? =some y:=⟨_,KA (by omega)⟩
  rw[hxi] at h1
  refine⟨x,q,h1, ?_⟩
  have:=ZA (fun l=>l[i]?) xS
  simp only[ABI,hxi,XW] at this
  exact this
 unfold World.var? at hv0
 rw[hg] at hv0
 simp only[VC] at hv0
 split at hv0
 ·rename_i cs ty fz hb
  simp only[AR] at hv0
  subst hv0
  have e:cs=(ns.map (Value.int k)).toArray:=by
   rw[<-oU]
  refine⟨?_,ty,fz,by rw[hb,e]⟩
  rcases GR g W.heap.size with h1|h1
  ·exact h1
  ·rw[tW h1] at hb;cases hb
 ·cases hv0
end Go.V3
namespace Go.V3
open Go
variable {TB:Tb} {P:Program}
def Inv (w w' :World):Prop:=Rest w w' /\w.heap.size<=w'.heap.size/\∀ b,b<w.heap.size->w'.heap[b]? =w.heap[b]?
theorem Inv.refl (w:World):Inv w w:=⟨.refl _,HE _,fun _ _=>rfl⟩
theorem Inv.trans {a b c:World} (h:Inv a b) (k:Inv b c):Inv a c:=
 ⟨h.1.trans k.1,Nat.le_trans h.2.1 k.2.1,fun x hx=>(k.2.2 x (jR hx h.2.1)).trans (h.2.2 x hx)⟩
def PK (TB:Tb) (G:Nat->Prop) (w:World):B4 TB:=⟨w,fun _=>False,G⟩
theorem holdsNil {G:Nat->Prop} {w w' :World} (h:Inv w w') (hG:∀ b,G b->b<w.heap.size) (ht:(PK TB G w).Tab) (E:Env):AK (PK TB G w') G w' E []:=by
 refine⟨.refl _,HE _,fun _ _=>rfl,fun b hb=>jR (hG b hb) h.2.1,fun _ h=>h,fun _ h=> .inl h, ?_, ?_, ?_, ?_⟩
 ·intro n e he;simp [look] at he
 ·intro n t xss q he;simp [look] at he
 ·intro n k e f b _ he;simp [look] at he
 ·intro q hq
  obtain⟨⟨h1,_⟩,ty,fz,h2⟩:=ht q hq
  exact⟨⟨jR h1 h.2.1,fun x=>x⟩,ty,fz,by rw[show (PK TB G w').w0=w' from rfl,h.2.2 _ h1];exact h2⟩
theorem St.inv {G:Nat->Prop} {w w' :World} {E:Env} {fr:List SV} {L:AE} {a:Act} (h:St (PK TB G w) E fr L a w'):Inv w w' :=by
 obtain⟨G',hG⟩:=h.hd
 exact⟨hG.rest,hG.size,fun b hb=>hG.old b ⟨hb,fun x=>x⟩⟩
theorem St.AFD {c c' :B4 TB} {E:Env} {fr:List SV} {L:AE} {a:Act} {w w' :World} (h:St c E fr L a w) (hd:Hd c' w' E L):St c' E fr L a w' :=⟨h.bI,hd,h.wf⟩
theorem lD {L:AE} (h:U3 [] L):L=[]:=AII.1 h.1
def AFE (W:List Nat):U2:={ live:=[],boxes:=[],rows:=[],dead:=W,lost:=[],base:=0 }
def IG (W:List Nat) (fr:List SV):List SV:=LX fr (W.map fun t=>(t,.dJ t))
def wM (fr:List SV):Option Bool:=uA (fr.getD 2 AQ)
section
variable (P) (cx:Cx) (rest tail:Code) (W:List Nat) (H4:Nat) (fr:List SV) (s:ByteArray)
noncomputable def AFF (fr' :List SV):Option Bool:=rk P cx tail Bool 1000000 (fun e ACV _=>match e with
 | .normal=>wM ACV
 | .ret=>wM ACV
 |_=>none) fr' []
noncomputable def lE (p:Nat):Option (Nat ⊕ Bool):=cond (decide (p<s.size))
 (rk P cx rest (Nat ⊕ Bool) H4 (fun e fr' _=>match e with
   | .normal=>some (.inl (p+(Utf8.decode s p).2))
   | .ret=>(wM fr').map .inr
   | .exit id=>if id=H4 then (AFF P cx tail fr').map .inr else none
   |_=>none) (((IG W fr).set 25 (.oO [.HF true,.int .i64 (p:Int),.int .i32 ((Utf8.decode s p).1:Int)])).set 26 (.HF true)) [])
 (rk P cx rest (Nat ⊕ Bool) H4 (fun e fr' _=>match e with
   | .ret=>(wM fr').map .inr
   | .exit id=>if id=H4 then (AFF P cx tail fr').map .inr else none
   |_=>none) (((IG W fr).set 25 (.oO [.HF false])).set 26 (.HF false)) [])
noncomputable def AB2:Option Bool:=AS (σ:=Nat) (β:=Bool) (lE P cx rest tail W H4 fr s) 0
end
theorem lF {ops:Array Oper} {i:Nat} {o:Oper} (ho:ops[i]? =some o) (hg:o.guard=none) {a:Act} {w w' :World} {v:Value} {K:Act->World->Prop} {Q:Exit->Act->World->Prop}
  (hr:(execOp a.eval o).run P w= .ok (.value v) w') (hK:K (a.put o.dst v) w'):wpOp P ops Q i K a w:=by
 unfold wpOp
 rw[ho]
 simp only[Region.wanted,hg,GJ]
 refine .inl ?_
 show o.upon P a K Q ((execOp a.eval o).run P w)
 rw[hr]
 exact hK
def pU (w:World) (o:Obj):World:={ w with heap:=w.heap.push o }
theorem ACX {ρ:Operand->Value} {o:Oper} {t:TypeId} {x:Operand} (ho:o.op= .range t x) (hu:P.underlying t=some .string) {s:ByteArray} (hx:ρ x= .string s) (w:World):
  (execOp ρ o).run P w= .ok (.value (.pointer (some ⟨w.heap.size,0,none⟩))) (pU w (.stringIter s 0)):=by
 unfold execOp
 rw[ho]
 simp only[Instr.range,hx]
 have h1:=run_underlying (w:=w) hu
 simp [h1,newObj,Sem.run,pU]
theorem ACY {ρ:Operand->Value} {o:Oper} {x:Operand} (ho:o.op= .next x true) {b:Nat} (hx:ρ x= .pointer (some ⟨b,0,none⟩)) {w:World} {s:ByteArray} {p:Nat} (hb:w.heap[b]? =some (.stringIter s p)):
  (p<s.size->∃ w',(execOp ρ o).run P w= .ok (.value (.tuple #[.bool true,.int .i64 (p:Int),.int .i32 ((Utf8.decode s p).1:Int)])) w' /\Rest w w' /\w'.heap.size=w.heap.size/\w'.heap[b]? =some (.stringIter s (p+(Utf8.decode s p).2))/\∀ c,c≠b->w'.heap[c]? =w.heap[c]?)∧
  (¬p<s.size->(execOp ρ o).run P w= .ok (.value (.tuple #[.bool false])) w):=by
 have CP:b<w.heap.size:=by
  rcases GR b w.heap.size with h|h
  ·exact h
  ·rw[tW h] at hb;cases hb
 constructor
 ·intro hp
  refine⟨{ w with heap:=w.heap.setIfInBounds b (.stringIter s (p+(Utf8.decode s p).2)) }, ?_,⟨rfl,rfl,rfl⟩,by simp,by simp [CP],fun c hc=>by simp [Ne.symm hc]⟩
  unfold execOp
  rw[ho]
  simp [Instr.next,hx,getObj,setObj,Sem.run,hb,hp,goInt]
 ·intro hp
  unfold execOp
  rw[ho]
  simp [Instr.next,hx,getObj,Sem.run,hb,hp]
theorem run_move {ρ:Operand->Value} {o:Oper} {x:Operand} (ho:o.op= .move x) (w:World):(execOp ρ o).run P w= .ok (.value (ρ x)) w:=by
 unfold execOp;rw[ho];rfl
theorem AFG {ρ:Operand->Value} {o:Oper} {x:Operand} (ho:o.op= .extract x 0) {v:Value} {vs:Array Value} (hx:ρ x= .tuple vs) (hv:vs[0]? =some v) (w:World):(execOp ρ o).run P w= .ok (.value v) w:=by
 unfold execOp;rw[ho];simp [Instr.extract,hx,hv]
def tS:Code->Code
 | .seq a _=>a
 |c=>c
def YB:Code->Code
 | .seq _ b=>b
 |c=>c
def AHG:Code->Code
 | .block _ c=>c
 |c=>c
def lpC:Code->Code
 | .loop c=>c
 |c=>c
def ACZ (c:Code) (i:Nat):Oper:=match c with
 | .region _ ops _=>ops.toList.getD i default
 |_=>default
theorem AHH {c:B4 TB} {E:Env} {fr:List SV} {L:AE} {a:Act} {w:World} (h:St c E fr L a w) {r:Bool} (hf:wM fr=some r) {fn:Func} (hres:fn.results= #[.tmp 2]):(results fn a.tmps).run P w= .ok (.bool r) w:=by
 have hd:a.tmps.getD 2 undef= .bool r:=by
  have:=LN h.bI (.tmp 2)
  show a.eval (.tmp 2)=_
  rw[this]
  exact NQ hf
 unfold results
 rw[hres]
 have hd' :a.tmps[2]?.getD undef= .bool r:=by simpa using hd
 simp [hd']
theorem AFH {W:List Nat} {E:Env} {fr:List SV} {L:AE} (h25:25∈W) (h26:26∈W) (u v:SV):Ext W E fr L E ((fr.set 25 u).set 26 v) L:=by
 refine⟨fun _ h=>⟨rfl,h⟩,fun _ _=>rfl,.refl _,by simp,fun t ht=> ?_⟩
 rw[CE,CE,BC (fun (h:26=t/\_)=>ht (h.1 ▸ h26)),BC (fun (h:25=t/\_)=>ht (h.1 ▸ h25))]
theorem pV {W:List Nat} {fr:List SV} {t:Nat} (h:t∉W):(IG W fr).getD t AQ=fr.getD t AQ:=by
 unfold IG
 refine LY _ _ _ fun q hq=> ?_
 obtain⟨x,hx,rfl⟩:=DB.1 hq
 rintro rfl
 exact h hx
theorem wN {fr:List SV} {t:Nat} (h:fr.length<=t):fr.getD t AQ=AQ:=by simp [List.getD,N8 h]
theorem AD0 {a b:List SV} (hl:a.length=b.length) (h:∀ t,a.getD t AQ=b.getD t AQ):a=b:=by
 apply List.ext_getElem hl
 intro i h1 h2
 have:=h i
 simpa [List.getD,KA h1,KA h2] using this
theorem AB3 (W:List Nat):(W.map fun t=>(t,SV.dJ t)).map (·.1)=W:=by simp [PL,xX]
theorem AD1 {W:List Nat} (JM:W.Nodup) {t:Nat} (ht:t∈W) (fr:List SV) (v:SV):IG W (fr.set t v)=IG W fr:=by
 have hl:∀ l:List SV,(IG W l).length=l.length:=fun l=>JB _ _
 refine AD0 (by rw[hl,hl,SR]) fun k=> ?_
 have hm:((W.map fun t=>(t,SV.dJ t)).map (·.1)).Nodup:=by rw[AB3];exact JM
 by_cases hk:k∈W
 ·by_cases CP:k<fr.length
  ·have h1:=RP (fr.set t v) (W.map fun t=>(t,SV.dJ t)) hm (DB.2 ⟨k,hk,rfl⟩) (by simpa using CP)
   have h2:=RP fr (W.map fun t=>(t,SV.dJ t)) hm (DB.2 ⟨k,hk,rfl⟩) CP
   exact h1.trans h2.symm
  ·rw[wN (by rw[hl,SR];omega),wN (by rw[hl];omega)]
 ·rw[pV hk,pV hk,CE,BC (fun (h:t=k/\_)=>hk (h.1 ▸ ht))]
theorem AFI {W:List Nat} (JM:W.Nodup) {t:Nat} (ht:t∈W) {fr:List SV} (hl:t<fr.length):(IG W fr).getD t AQ= .dJ t:=
 RP fr (W.map fun t=>(t,SV.dJ t)) (by rw[AB3];exact JM) (DB.2 ⟨t,ht,rfl⟩) hl
set_option maxHeartbeats 1000000 in
theorem zX {cx:Cx} (hcx:cx.Ok P) {f:FuncId} {fn:Func} {r0 pre rest tail:Code} {i3 i4 H4 n:Nat} {o1 o2 o3 o4:Oper} {t:TypeId} {W:List Nat} {F:ByteArray->Option Bool}
  (hf:P.funcs[f]? =some fn) (hb:fn.body=some (.seq r0 (.seq pre (.seq (.seq (.region i3 #[o1,o2] false) (.block H4 (.loop (.seq (.region i4 #[o3,o4] false) rest)))) tail))))
  (hnm : (fn.name == "runtime.NumGoroutine") = false) (hn : fn.ntmps = n) (hn1 : 27 ≤ n) (hres : fn.results = #[.tmp 2])
  (h1:o1.op= .move (.tmp 0)/\o1.dst=some 23/\o1.guard=none) (h2:o2.op= .range t (.tmp 23)/\o2.dst=some 24/\o2.guard=none) (hu:P.underlying t=some .string)
  (h3:o3.op= .next (.tmp 24) true/\o3.dst=some 25/\o3.guard=none) (h4:o4.op= .extract (.tmp 25) 0/\o4.dst=some 26/\o4.guard=none)
  (hW:zT (AFE W) (24::writes (.seq (.region i4 #[o3,o4] false) rest))=true) (hW2:(!W.contains 24|| !W.contains 25|| !W.contains 26||(writes r0).contains 0||(writes pre).contains 0||(writes rest).contains 24)=false)
  (hF:∀ s,F s=rk P cx r0 Bool 1000000 (fun e fr L=>match e with
   | .normal=>rk P cx pre Bool 1000000 (fun e fr _=>match e with
    | .normal=>AB2 P cx rest tail W H4 (fr.set 23 (.str s)) s
    | .ret=>wM fr
    |_=>none) fr L
   |_=>none) (.str s::List.replicate (n-1) AQ) []):
  CallsV P cx.tb f { ps:=[⟨.str,false,false,false⟩],rs:=[⟨.bool,false,false,false⟩],os:=[],bk:=[],F:=F }:=by
 refine⟨calleeRuns_of hf hb hnm,fun x r hr w G ms hG AGO JM ADX _=> ?_⟩
 have hr' :F x=some r:=hr
 rw[hF] at hr'
 have ht:(PK cx.tb G w).Tab:=fun q hq=>by
  obtain⟨⟨q1,_⟩,q2⟩:=ADX q hq
  exact⟨⟨q1,fun x=>x⟩,q2⟩
 refine calls_of_wp hf hb ?_
 generalize hQ:bodyPost P fn (fun e w' =>∃ G' ms',e= .returned ((MP (outSVs [⟨.bool,false,false,false⟩] (HT.left [⟨.bool,false,false,false⟩] [] r) 0)).den (EB ms'))∧
   Rest w w' /\w.heap.size<=w'.heap.size/\(∀ b,b<w.heap.size->b∉BA [⟨.str,false,false,false⟩] x ms->w'.heap[b]? =w.heap[b]?)∧
   (∀ b,G b->G' b)/\(∀ b,G' b->G b\/w.heap.size<=b\/b∈BA [⟨.str,false,false,false⟩] x ms)/\(∀ b,G' b->b<w'.heap.size)∧
   PS (⟨w,fun b=>b∈BA [⟨.str,false,false,false⟩] x ms,G⟩:B4 cx.tb) G' w' ([⟨.bool,false,false,false⟩]++ []) r ms' /\(BA ([⟨.bool,false,false,false⟩]++ []) r ms').Nodup∧
   (ID [] (cnts [⟨.bool,false,false,false⟩])).map ms' =[].map ms/\(∀ q∈([]:List (Nat×Nat×Nat×Nat)),ms' q.1=ms q.2.2.1)/\∀ i∈([]:List Nat),yJ w w' (ms i).A_)=Q
 have fin:∀ (c:B4 cx.tb) (E:Env) (fr:List SV) (L:AE) (a:Act) (w' :World),St c E fr L a w' ->Inv w w' ->wM fr=some r->Q .ret a w' /\Q .normal a w' :=by
  intro c E fr L a w' hst hinv hfr
  subst hQ
  have key:a.defers=[]/\∃ v,(results fn a.tmps).run P w' = .ok v w' /\(∃ G' ms',Ending.returned v= .returned ((MP (outSVs [⟨.bool,false,false,false⟩] (HT.left [⟨.bool,false,false,false⟩] [] r) 0)).den (EB ms'))∧
   Rest w w' /\w.heap.size<=w'.heap.size/\(∀ b,b<w.heap.size->b∉BA [⟨.str,false,false,false⟩] x ms->w'.heap[b]? =w.heap[b]?)∧
   (∀ b,G b->G' b)/\(∀ b,G' b->G b\/w.heap.size<=b\/b∈BA [⟨.str,false,false,false⟩] x ms)/\(∀ b,G' b->b<w'.heap.size)∧
   PS (⟨w,fun b=>b∈BA [⟨.str,false,false,false⟩] x ms,G⟩:B4 cx.tb) G' w' ([⟨.bool,false,false,false⟩]++ []) r ms' /\(BA ([⟨.bool,false,false,false⟩]++ []) r ms').Nodup∧
   (ID [] (cnts [⟨.bool,false,false,false⟩])).map ms' =[].map ms/\(∀ q∈([]:List (Nat×Nat×Nat×Nat)),ms' q.1=ms q.2.2.1)/\∀ i∈([]:List Nat),yJ w w' (ms i).A_):=by
   refine⟨hst.bI.2,_,AHH hst hfr hres,G,ms,rfl,hinv.1,hinv.2.1,fun b hb _=>hinv.2.2 b hb,fun _ h=>h,fun _ h=> .inl h,fun b hb=>jR (hG b hb) hinv.2.1,⟨⟨?_, ?_⟩,trivial⟩,jS,rfl,(fun q hq=>by cases hq),fun q hq=>by cases hq⟩
   ·intro j e he;simp [A7] at he
   ·intro h;cases h
  exact⟨key,key⟩
 have hold:∀ wi,Inv w wi->∀ E,Hd (PK cx.tb G wi) wi E []:=fun wi hi E=>⟨G,holdsNil hi hG ht E⟩
 simp only[Bool.or_eq_false_iff,Bool.not_eq_false',qD,tU,OH] at hW2
 obtain⟨⟨⟨⟨⟨g24,g25⟩,g26⟩,gr0⟩,AOB⟩,AI8⟩:=hW2
 have hs0:St (PK cx.tb G w) (EB ms) (.str x::List.replicate (n-1) AQ) [] { tmps:=(AH (EB ms) (outSVs [⟨.str,false,false,false⟩] x 0)).toArray++Array.replicate (fn.ntmps-(AH (EB ms) (outSVs [⟨.str,false,false,false⟩] x 0)).toArray.size) undef,defers:=[] } w:=by
  refine⟨⟨?_,rfl⟩,hold w (.refl w) _, ?_⟩
  ·apply SS
   simp [outSVs,OJ,E3,AH,SV.den,hn]
   rw[CX,List.map_replicate]
   exact⟨rfl,rfl⟩
  ·intro k
   left
   cases k with
   |zero=>trivial
   |succ k=>
    simp only[List.getD,mY,mZ]
    split <;> exact bJ _ _
 refine wp_seq (wp_mono (lB hcx r0 Bool 1000000 _ _ [] r hr' (PK cx.tb G w) (EB ms) _ w hs0) ?_)
 rintro e a1 w1 ⟨E1,jP,L1,st1,AJV,k1⟩
 obtain rfl:=lD AJV.ZT
 cases e with
 |normal=>
  have inv1:Inv w w1:=st1.inv
  have AOC :=st1.AFD (hold w1 inv1 E1)
  refine wp_seq (wp_mono (lB hcx pre Bool 1000000 _ _ [] r k1 (PK cx.tb G w1) E1 _ w1 AOC) ?_)
  rintro e a2 w2 ⟨E2,tR,L2,st2,AJW,k2⟩
  obtain rfl:=lD AJW.ZT
  have inv2:Inv w w2:=inv1.trans st2.inv
  have hf0:tR.getD 0 AQ= .str x:=by
   rw[AJW.out 0 AOB,AJV.out 0 gr0];rfl
  have j4:tR.length=n:=by
   rw[AJW.len,AJV.len];simp;omega
  cases e with
  |ret=>exact (fin _ _ _ _ _ _ st2 inv2 k2).1
  |normal=>
   show (Code.seq (.seq (.region i3 #[o1,o2] false) (.block H4 (.loop (.seq (.region i4 #[o3,o4] false) rest)))) tail).wp P Q a2 w2
   have k3:AB2 P cx rest tail W H4 (tR.set 23 (.str x)) x=some r:=k2
   unfold AB2 at k3
   obtain⟨m,hm⟩:=JN.1 k3
   generalize hB:w2.heap.size=B
   refine wp_seq (wp_seq (wp_region ?_))
   rw[show List.range (#[o1,o2]:Array Oper).size=[0,1] from rfl,wpOps_cons]
   have hx0:a2.eval (.tmp 0)= .string x:=by
    rw[LN st2.bI (.tmp 0)]
    show (tR.getD 0 AQ).den E2=_
    rw[hf0];rfl
   refine lF (o:=o1) rfl h1.2.2 (run_move h1.1 w2) ?_
   rw[hx0,h1.2.1,wpOps_cons]
   have sm1:Sim E2 (tR.set 23 (.str x)) (a2.put (some 23) (.string x)):=st2.bI.put (some 23) (.str x)
   have hx1:(a2.put (some 23) (.string x)).eval (.tmp 23)= .string x:=by
    rw[LN sm1 (.tmp 23)]
    show ((tR.set 23 (.str x)).getD 23 AQ).den E2=_
    rw[CE,BQ ⟨rfl,by omega⟩];rfl
   refine lF (o:=o2) rfl h2.2.2 (ACX h2.1 hu hx1 w2) ?_
   rw[h2.2.1,hB]
   have sm2:Sim E2 ((tR.set 23 (.str x)).set 24 (.ptr (some ⟨B,0,none⟩))) ((a2.put (some 23) (.string x)).put (some 24) (.pointer (some ⟨B,0,none⟩))):=sm1.put (some 24) (.ptr (some ⟨B,0,none⟩))
   generalize hw3:pU w2 (.stringIter x 0)=w3
   have AJX:Inv w w3:=by
    refine inv2.trans ⟨?_, ?_, ?_⟩
    ·subst hw3;exact⟨rfl,rfl,rfl⟩
    ·subst hw3;simp [pU]
    ·intro b hb;subst hw3;simp only[pU];rw[jQ,BC (by omega)]
   have hit:w3.heap[B]? =some (.stringIter x 0):=by
    rw[<-hw3,←hB]
    exact Array.getElem?_push_size
   have hBw:w.heap.size<=B:=by rw[<-hB];exact inv2.2.1
   have hBs:B<w3.heap.size:=by subst hw3;subst hB;simp [pU]
   generalize AHI:(tR.set 23 (.str x)).set 24 (.ptr (some ⟨B,0,none⟩))=lG at sm2
   have hl3:lG.length=n:=by subst AHI;simpa using j4
   have wf3:iD E2 [] lG:=by
    subst AHI
    intro k
    rw[CE,CE]
    split
    ·exact .inl trivial
    ·split
     ·exact .inl trivial
     ·exact st2.wf k
   generalize ((a2.put (some 23) (.string x)).put (some 24) (.pointer (some ⟨B,0,none⟩)))=a3 at sm2
   have st3:St (PK cx.tb G w3) E2 lG [] a3 w3:=⟨sm2,hold w3 AJX E2,wf3⟩
   have JM:W.Nodup:=by
    have:=hW
    unfold zT AFE at this
    simp only[PG,OH,ABL,List.nil_append] at this
    exact this.2
   have hhd:IG W lG=IG W (tR.set 23 (.str x)):=by
    rw[<-AHI];exact AD1 JM g24 _ _
   generalize hVW:24::writes (.seq (.region i4 #[o3,o4] false) rest)=VW at hW
   have v24:24∈VW:=by rw[<-hVW];simp
   have v25:25∈VW:=by rw[<-hVW];exact m0 _ (DU.2 (.inl (xW.2 ⟨o3,by simp,h3.2.1⟩)))
   have v26:26∈VW:=by rw[<-hVW];exact m0 _ (DU.2 (.inl (xW.2 ⟨o4,by simp,h4.2.1⟩)))
   have ALV:∀ t,t∈writes rest->t∈VW:=by
    intro t ht
    rw[<-hVW]
    exact m0 _ (DU.2 (.inr ht))
   have hpk:∀ fr' :List SV,S6 (AFE W) [] fr' []=some ():=by
    intro fr'
    rfl
   obtain⟨E4,st4,AOD⟩:=wI (A2:=AFE W) hW (holdsNil AJX hG ht E2) wf3 st3 (.refl VW E2 lG []) (hpk lG)
   have he3:a3.eval (.tmp 24)= .pointer (some ⟨B,0,none⟩):=by
    rw[LN sm2 (.tmp 24)]
    show (lG.getD 24 AQ).den E2=_
    rw[<-AHI,CE,BQ ⟨rfl,by simp;omega⟩];rfl
   have hl4:(IG W lG).length=n:=by rw[show (IG W lG).length=lG.length from JB _ _];exact hl3
   generalize hQ' :Exit.then (tail.wp P Q) Q=Q'
   have loop:∀ (m p:Nat) (a:Act) (wi:World) (E:Env),JW (lE P cx rest tail W H4 (tR.set 23 (.str x)) x) m p=some r->St (PK cx.tb G wi) E (IG W lG) [] a wi->Ext VW E2 lG [] E (IG W lG) []→
     a.eval (.tmp 24)= .pointer (some ⟨B,0,none⟩)->Inv w wi->wi.heap[B]? =some (.stringIter x p)->Code.rounds P (.seq (.region i4 #[o3,o4] false) rest) (Exit.inBlock H4 Q') m a wi:=by
    intro m
    induction m with
    |zero=>intro p a wi E hm;cases hm
    |succ m ih=>
     intro p a wi E hm hst I4 he hinv MM
     have hBi:B<wi.heap.size:=by
      rcases GR B wi.heap.size with h|h
      ·exact h
      ·rw[tW h] at MM;cases MM
     rw[rounds_succ]
     refine wp_seq (wp_region ?_)
     rw[show List.range (#[o3,o4]:Array Oper).size=[0,1] from rfl,wpOps_cons]
     obtain⟨n1,n2⟩:=ACY (P:=P) (ρ:=a.eval) h3.1 he MM
     rw[JW] at hm
     have after:∀ (sv:SV) (b:Bool) (wj:World) (K:Exit->List SV->AE->Option (Nat ⊕ Bool)) (y:Nat ⊕ Bool),sv.wf E []->(∃ vs:Array Value,sv.den E= .tuple vs/\vs[0]? =some (.bool b))->Inv w wj→
       rk P cx rest (Nat ⊕ Bool) H4 K (((IG W lG).set 25 sv).set 26 (.HF b)) []=some y→
       (∀ (E' :Env) (fr' :List SV) (a' :Act) (w' :World),St (PK cx.tb G wj) E' fr' [] a' w' ->Ext VW E2 lG [] E' fr' []->a'.eval (.tmp 24)= .pointer (some ⟨B,0,none⟩)->∀ e,K e fr' []=some y->Exit.then (Code.rounds P (.seq (.region i4 #[o3,o4] false) rest) (Exit.inBlock H4 Q') m) (Exit.inBlock H4 Q') e a' w')→
       wpOps P #[o3,o4] (Exit.then (rest.wp P (Exit.then (Code.rounds P (.seq (.region i4 #[o3,o4] false) rest) (Exit.inBlock H4 Q') m) (Exit.inBlock H4 Q'))) (Exit.then (Code.rounds P (.seq (.region i4 #[o3,o4] false) rest) (Exit.inBlock H4 Q') m) (Exit.inBlock H4 Q'))) [1] (a.put o3.dst (sv.den E)) wj:=by
      intro sv b wj K y fG ⟨vs,hv1,hv2⟩ dM hrk hK
      rw[wpOps_cons,h3.2.1]
      have sm:Sim E ((IG W lG).set 25 sv) (a.put (some 25) (sv.den E)):=hst.bI.put (some 25) sv
      have AOE:(a.put (some 25) (sv.den E)).eval (.tmp 25)= .tuple vs:=by
       rw[LN sm (.tmp 25)]
       show (((IG W lG).set 25 sv).getD 25 AQ).den E=_
       rw[CE,BQ ⟨rfl,by omega⟩];exact hv1
      refine lF (o:=o4) rfl h4.2.2 (AFG h4.1 AOE hv2 wj) ?_
      rw[h4.2.1]
      have sm' :Sim E (((IG W lG).set 25 sv).set 26 (.HF b)) ((a.put (some 25) (sv.den E)).put (some 26) (.bool b)):=sm.put (some 26) (.HF b)
      have wf' :iD E [] (((IG W lG).set 25 sv).set 26 (.HF b)):=by
       intro k
       rw[CE,CE]
       split
       ·exact .inl trivial
       ·split
        ·exact .inl fG
        ·exact hst.wf k
      have st' :St (PK cx.tb G wj) E (((IG W lG).set 25 sv).set 26 (.HF b)) [] ((a.put (some 25) (sv.den E)).put (some 26) (.bool b)) wj:=⟨sm',hold wj dM E,wf'⟩
      have AOF:((a.put (some 25) (sv.den E)).put (some 26) (.bool b)).eval (.tmp 24)= .pointer (some ⟨B,0,none⟩):=by
       rw[LN sm' (.tmp 24)]
       show ((((IG W lG).set 25 sv).set 26 (.HF b)).getD 24 AQ).den E=_
       rw[CE,BC (by omega),CE,BC (by omega),←he,LN hst.bI (.tmp 24)]
       rfl
      refine wp_mono (lB hcx rest (Nat ⊕ Bool) H4 K _ [] y hrk (PK cx.tb G wj) E _ wj st') ?_
      rintro e a' w' ⟨E',fr',L',s1,s2,s3⟩
      obtain rfl:=lD s2.ZT
      refine hK E' fr' a' w' s1 ((I4.trans (AFH v25 v26 _ _)).trans (s2.mono ALV)) ?_ e s3
      rw[LN s1.bI (.tmp 24)]
      show (fr'.getD 24 AQ).den E' =_
      have u24:(((IG W lG).set 25 sv).set 26 (.HF b)).getD 24 AQ= .dJ 24:=by
       rw[CE,BC (by omega),CE,BC (by omega),AFI JM g24 (by omega)]
      rw[s2.out 24 AI8,u24]
      show E'.ds 24=_
      rw[s2.ds 24 AI8]
      have:=LN sm' (.tmp 24)
      rw[AOF] at this
      have h5:(ev (((IG W lG).set 25 sv).set 26 (.HF b)) (.tmp 24))= .dJ 24:=u24
      rw[h5] at this
      exact this.symm
     have AFJ:∀ (c:B4 cx.tb) (E' :Env) (fr' :List SV) (a' :Act) (w' :World),St c E' fr' [] a' w' ->Inv w w' ->AFF P cx tail fr' =some r->tail.wp P Q a' w' :=by
      intro c E' fr' a' w' s1 s2 s3
      have s1' :=s1.AFD (hold w' s2 E')
      refine wp_mono (lB hcx tail Bool 1000000 _ _ [] r s3 (PK cx.tb G w') E' _ w' s1') ?_
      rintro e a6 w6 ⟨E6,fr6,L6,q1,q2,q3⟩
      have q4:=s2.trans q1.inv
      cases e with
      |normal=>exact (fin _ _ _ _ _ _ q1 q4 q3).2
      |ret=>exact (fin _ _ _ _ _ _ q1 q4 q3).1
      |exit id=>cases q3
      |goto l=>cases q3
      |panic ch=>cases q3
      |outgrown=>cases q3
     by_cases hp:p<x.size
     ·obtain⟨wj,r1,r2,r3,r4,r5⟩:=n1 hp
      have dM:Inv w wj:=⟨hinv.1.trans r2,by have:=hinv.2.1;omega,fun b hb=>(r5 b (by omega)).trans (hinv.2.2 b hb)⟩
      refine lF (o:=o3) rfl h3.2.2 r1 ?_
      have hd:(SV.oO [.HF true,.int .i64 (p:Int),.int .i32 ((Utf8.decode x p).1:Int)]).den E= .tuple #[.bool true,.int .i64 (p:Int),.int .i32 ((Utf8.decode x p).1:Int)]:=by simp [SV.den,AH]
      rw[<-hd]
      have common:∀ y,lE P cx rest tail W H4 (tR.set 23 (.str x)) x p=some y->(∀ s',y= .inl s' ->JW (lE P cx rest tail W H4 (tR.set 23 (.str x)) x) m s' =some r)->(∀ b,y= .inr b->b=r)->wpOps P #[o3,o4] (Exit.then (rest.wp P (Exit.then (Code.rounds P (.seq (.region i4 #[o3,o4] false) rest) (Exit.inBlock H4 Q') m) (Exit.inBlock H4 Q'))) (Exit.then (Code.rounds P (.seq (.region i4 #[o3,o4] false) rest) (Exit.inBlock H4 Q') m) (Exit.inBlock H4 Q'))) [1] (a.put o3.dst ((SV.oO [.HF true,.int .i64 (p:Int),.int .i32 ((Utf8.decode x p).1:Int)]).den E)) wj:=by
       intro y hy hl hr2
       unfold lE at hy
       rw[decide_eq_true hp,←hhd] at hy
       refine after _ true wj _ y (by simp [SV.wf,GV]) ⟨_,hd,rfl⟩ dM hy ?_
       intro E' fr' a' w' s1 s2 s3 e hk
       have wO:=dM.trans s1.inv
       have AJY :w'.heap[B]? =some (.stringIter x (p+(Utf8.decode x p).2)):=by
        rw[s1.inv.2.2 B (by rw[r3];exact hBi)];exact r4
       cases e with
       |normal=>
        simp only[AR] at hk
        obtain⟨E7,t1,t2⟩:=wI (A2:=AFE W) hW (holdsNil wO hG ht E2) wf3 (s1.AFD (hold w' wO E')) s2 (hpk fr')
        exact ih _ a' w' E7 (hl _ hk.symm) t1 t2 s3 wO AJY
       |ret=>
        obtain⟨z,z1,z2⟩:=map_inr hk
        have:=(fin _ _ _ _ _ _ s1 wO (by rw[z1,hr2 z z2])).1
        subst hQ'
        exact this
       |exit id=>
        simp only at hk
        split at hk
        ·rename_i hid
         obtain⟨z,z1,z2⟩:=map_inr hk
         subst hQ'
         simp only[Exit.then,Exit.inBlock]
         rw[BQ hid]
         exact AFJ _ E' fr' a' w' s1 wO (by rw[z1,hr2 z z2])
        ·cases hk
       |goto l=>cases hk
       |panic ch=>cases hk
       |outgrown=>cases hk
      split at hm
      ·cases hm
      ·rename_i s' kS
       exact common _ kS (fun s'' h=>by cases h;exact hm) (fun b h=>by cases h)
      ·rename_i b kS
       simp only[AR] at hm
       exact common _ kS (fun s'' h=>by cases h) (fun b' h=>by cases h;exact hm)
     ·refine lF (o:=o3) rfl h3.2.2 (n2 hp) ?_
      have hd:(SV.oO [.HF false]).den E= .tuple #[.bool false]:=by simp [SV.den,AH]
      rw[<-hd]
      have common:∀ y,lE P cx rest tail W H4 (tR.set 23 (.str x)) x p=some y->(∀ b,y= .inr b->b=r)->wpOps P #[o3,o4] (Exit.then (rest.wp P (Exit.then (Code.rounds P (.seq (.region i4 #[o3,o4] false) rest) (Exit.inBlock H4 Q') m) (Exit.inBlock H4 Q'))) (Exit.then (Code.rounds P (.seq (.region i4 #[o3,o4] false) rest) (Exit.inBlock H4 Q') m) (Exit.inBlock H4 Q'))) [1] (a.put o3.dst ((SV.oO [.HF false]).den E)) wi:=by
       intro y hy hr2
       unfold lE at hy
       rw[decide_eq_false hp,←hhd] at hy
       refine after _ false wi _ y (by simp [SV.wf,GV]) ⟨_,hd,rfl⟩ hinv hy ?_
       intro E' fr' a' w' s1 s2 s3 e hk
       have wO:=hinv.trans s1.inv
       cases e with
       |ret=>
        obtain⟨z,z1,z2⟩:=map_inr hk
        have:=(fin _ _ _ _ _ _ s1 wO (by rw[z1,hr2 z z2])).1
        subst hQ'
        exact this
       |exit id=>
        simp only at hk
        split at hk
        ·rename_i hid
         obtain⟨z,z1,z2⟩:=map_inr hk
         subst hQ'
         simp only[Exit.then,Exit.inBlock]
         rw[BQ hid]
         exact AFJ _ E' fr' a' w' s1 wO (by rw[z1,hr2 z z2])
        ·cases hk
       |normal=>cases hk
       |goto l=>cases hk
       |panic ch=>cases hk
       |outgrown=>cases hk
      split at hm
      ·cases hm
      ·rename_i s' kS
       exact common _ kS (fun b h=>by cases h)
      ·rename_i b kS
       simp only[AR] at hm
       exact common _ kS (fun b' h=>by cases h;exact hm)
   exact wp_block (wp_loop_rounds m (loop m 0 a3 w3 E4 hm st4 AOD he3 AJX hit))
  |exit id=>cases k2
  |goto l=>cases k2
  |panic ch=>cases k2
  |outgrown=>cases k2
 |ret=>cases k1
 |exit id=>cases k1
 |goto l=>cases k1
 |panic ch=>cases k1
 |outgrown=>cases k1
end Go.V3
namespace Go.Proofs.YtklddkokplchdaaGreatDoor
open Go Go.V3
def AJZ:Array Value:=(([0,1,56,2,57,49,28,3,61,58,42,50,38,29,17,4,62,47,59,36,45,43,51,22,53,39,33,30,24,18,12,5,63,55,48,27,60,41,37,16,46,35,44,21,52,32,23,11,54,26,40,15,34,20,31,10,25,14,19,9,13,8,7,6]:List Int).map (Value.int .u8)).toArray
def bL:Tb:=[(1,AJZ)]
abbrev AHJ:Ty:= .slice .u64
abbrev AK0:Ty:= .slice .bool
abbrev B7:Type:=Int×Int×Int
abbrev AK1:Ty:= .pair AK0 AHJ
abbrev QK:Type:=List (BitVec 64)
abbrev wP:Type:=Int×Bool×Int
abbrev AK2:Type:=List (Int×Int)
abbrev U4:Type:=(List Int)×Int
abbrev ZW:Type:=Int×(List Int)
abbrev X3:Type:=(BitVec 64)×Int
abbrev AB4:Ty:= .slice (.int .i64)
abbrev RR:Type:=(List Bool)×QK
abbrev BY:Type:=Nat×Int×Int×Int
abbrev GM:Type:=Int×Int×Int×Int
abbrev A5:Type:=Int×Int×(List Int)
abbrev ALW:Ty:= .pair (.int .i64) AB4
abbrev AFK:Ty:= .pair (.int .i64) ALW
abbrev wQ:Ty:= .slice AFK
abbrev AY:Type:=Int×QK×(List B7)
abbrev AA:Type:=Int×Int×Int×Int×Int
abbrev HI:Type:=List (List AA)
abbrev wR:Ty:= .pair (.int .i64) (.int .i64)
abbrev lH:Ty:= .pair (.int .i64) wR
abbrev AI9:Ty:= .slice lH
abbrev ALX:Ty:= .pair AHJ AI9
abbrev ALY:Ty:= .pair .N9 lH
abbrev ALZ:Ty:= .slice ALY
abbrev wS:Ty:= .pair (.int .i64) lH
abbrev fY:Ty:= .pair (.int .i64) wS
abbrev AB5:Ty:= .slice fY
abbrev AFL:Ty:= .slice AB5
abbrev lI:Ty:= .pair (.int .i64) ALX
abbrev AM0:Ty:= .pair ALZ (.int .i64)
abbrev AB6:Ty:= .pair .str AM0
abbrev AM1:Ty:= .pair (.int .i64) fY
abbrev AM2:Ty:= .pair (.int .i64) AM1
abbrev AM3:Ty:= .pair (.int .i64) AM2
abbrev AM4:Ty:= .pair (.int .i64) AM3
abbrev AM5:Ty:= .pair AM4 .bool
abbrev AM6:Ty:= .pair (.int .i64) AM5
abbrev AM7:Ty:= .pair AK1 AM6
abbrev AM8:Ty:= .pair wQ AM7
abbrev AM9:Ty:= .pair (.int .i64) AM8
abbrev AMA:Ty:= .pair AFL AM9
abbrev AMB:Ty:= .pair lI AMA
abbrev pW:Ty:= .pair AB6 AMB
abbrev AMC:Ty:= .pair pW wS
abbrev AMD:Ty:= .pair fY (.slice wR)
abbrev P2:Type:=ByteArray×(List BY)×Int
abbrev AIA:Ty:= .pair lI (.pair .u64 AMD)
abbrev T9:Type:=(List AA)×wP×Bool×Int
abbrev pX:Type:=AY×AA×AK2×QK×Int
abbrev YC:Type:=AY×(BitVec 64)×AA×AK2
abbrev wT:Ty:= .pair (.int .i64) (.pair .bool (.int .i64))
abbrev AME:Type:=Int×Int×Int×Int×Int×Int×Int×Int×Int
abbrev BZ:Type:=P2×AY×HI×Int×(List A5)×RR×Int×AME×Bool
abbrev MU:Type:=BZ×Int×Int×Int×Int
abbrev RS:Type:=(BitVec 64)×MU
abbrev AF:CT:=⟨(.int .i64),false,false,false⟩
abbrev AD2:CT:=⟨(.int .i64),false,false,true⟩
abbrev A9:CT:=⟨(.int .i64),false,true,false⟩
abbrev AFM:CT:=⟨(.pair lI lH),true,false,false⟩
abbrev AMF:CT:=⟨(.pair pW wT),true,false,false⟩
abbrev AMG:CT:=⟨(.slice (.int .u8)),false,false,false⟩
abbrev bM:CT:=⟨.bool,false,false,false⟩
abbrev AHK:CT:=⟨.bool,false,false,true⟩
abbrev D1:CT:=⟨.bool,false,true,false⟩
abbrev wU:CT:=⟨.N9,false,false,false⟩
abbrev wV:CT:=⟨.N9,false,true,false⟩
abbrev EO:CT:=⟨.u64,false,false,false⟩
abbrev FV:CT:=⟨.u64,false,true,false⟩
abbrev AB7:CT:=⟨AHJ,false,false,false⟩
abbrev lJ:CT:=⟨AHJ,false,true,false⟩
abbrev YD:CT:=⟨AB4,false,false,false⟩
abbrev B3:CT:=⟨AB4,false,true,false⟩
abbrev YE:CT:=⟨AB4,false,true,true⟩
abbrev AB8:CT:=⟨AFK,true,false,false⟩
abbrev NM:CT:=⟨wQ,false,false,false⟩
abbrev bN:CT:=⟨wQ,false,true,false⟩
abbrev AB9:CT:=⟨wS,true,false,false⟩
abbrev JX:CT:=⟨fY,true,false,false⟩
abbrev pY:CT:=⟨fY,true,true,false⟩
abbrev V4:CT:=⟨AB5,false,false,false⟩
abbrev ABA:CT:=⟨AB5,false,true,false⟩
abbrev fZ:CT:=⟨AK1,true,false,false⟩
abbrev ABB:CT:=⟨AK1,true,true,false⟩
abbrev MV:CT:=⟨AFL,false,false,false⟩
abbrev ABC:CT:=⟨AFL,false,true,false⟩
abbrev BG:CT:=⟨lI,true,false,false⟩
abbrev OP:CT:=⟨lI,true,true,false⟩
abbrev V5:CT:=⟨AB6,true,false,false⟩
abbrev D8:CT:=⟨pW,true,false,false⟩
abbrev AFN:CT:=⟨pW,true,true,false⟩
abbrev FW:CT:=⟨AMC,true,false,true⟩
abbrev ABD:CT:=⟨AIA,true,true,false⟩
abbrev ABE:CT:=⟨AIA,true,true,true⟩
abbrev AFO:CT:=⟨wT,true,false,false⟩
def BD (l b:List (Nat×CT)) (r:List (Nat×Ty)) (d o:List Nat) (n:Nat):U2:={ live:=l,boxes:=b,rows:=r,dead:=d,lost:=o,base:=n }
def AP (a:List (Nat×Nat×Nat)) (b:List Nat) (c:List (Nat×FnI)) (d e:List (Nat×U2)):Cx:={ nm:=a,BN:=b,fns:=nE c,loops:=d,RH:=e,tb:=bL,exts:=[],lets:=[] }
@[reducible] noncomputable def AV (a b:List CT) (f:HT a->Option (HT (b++ []))):FnI:={ ps:=a,rs:=b,os:=[],bk:=[],F:=f }
def DW:List (Nat×Nat)->List Nat
 | []=>[]
 |q::r=>(List.range q.2).map (fun i=>q.1+i)++DW r
abbrev CV:=CallsV Tryz.prog bL
def EqV (i:FnI) (cx:Cx) (c:Code) (rvs:List ResultVar) (n N:Nat):Prop:=(fun x:HT i.ps=>i.F x)=fun x=>rk Tryz.prog cx c (HT (i.rs++i.os)) 1000000 (wJ Tryz.prog rvs i.cl i.pin i.bk i.os (i.rs++i.os) i.ro) (V1 i.ps i.sh x n) (RQ i.ps i.X1 x N)
theorem okW {f : FuncId} {fn : Func} {i : FnI} (cx : Cx) (rvs : List ResultVar) (n N : Nat) (hcx : cx.Ok Tryz.prog) (hf : Tryz.prog.funcs[f]? = some fn) (hb : fn.body = some (fn.body.getD .skip) := by rfl) (hnm : (fn.name == "runtime.NumGoroutine") = false := by kernel_rfl) (hn : fn.ntmps = n := by rfl) (hres : fn.results = rvs.toArray := by rfl) (hps : ∀ x, (foldA i.sh (outSVs i.ps x 0)).length ≤ n := by exact fun x => Nat.le_of_ble_eq_true rfl) (hst : (rvs.length = i.rs.length ∧ i.os.all okO = true ∧ i.os.length = i.bk.length ∧ (i.bk.all fun j => decide (j < cnts i.ps)) = true ∧ (i.pin.all fun q => decide (q.2.2.1 < cnts i.ps)) = true ∧ shOk i N = true) := by decide) (he : EqV i cx (fn.body.getD .skip) rvs n N := by unfold EqV; kernel_rfl) (hro : ∀ x, roInit i x N = true := by intro x; rfl) : CallsV Tryz.prog cx.tb f i := callsV_of_rk hcx hf hb hnm hn hres hps hst (fun x => congrFun he x) hro
end Go.Proofs.YtklddkokplchdaaGreatDoor
set_option maxRecDepth 100000
namespace Go.Proofs.YtklddkokplchdaaGreatDoor
open Go Go.V3
noncomputable section
def F5 (a0:Int) (a1:Int):Option Int:=
if ¬a1=0 then
if (Int.tmod a0 a1)<0 then
some (AG ((Int.tmod a0 a1)+a1))
else some (Int.tmod a0 a1)
else none
@[reducible] def P3:FnI:=AV [AF,AF] [A9] fun x=>F5 x.1 x.2
def bO:Cx:=AP [] [] [] [] []
theorem ZX:CV 4 P3:=okW bO [.tmp 4] 15 0 (AN AB.nil AM.nil) Tryz.func4
def KO (a0:Int):Option Bool:=
if a0≥3 then
some (decide (a0<=8))
else some (false)
@[reducible] def JC:FnI:=AV [AF] [D1] fun x=>KO x
def nF:Cx:=AP [] [] [] [] []
theorem KP:CV 24 JC:=okW nF [.tmp 2] 9 0 (AN AB.nil AM.nil) Tryz.func24
def f_ (a0:QK):Option Bool:=
AS (σ:=Int) (β:=Bool) (fun s1=>
if s1<(a0.length:Int) then
if 0<=s1/\s1<(a0.length:Int) then
if ¬(gl (0#64:(BitVec 64)) a0 s1.toNat)=(0#64) then
some (Sum.inr (false))
else some (Sum.inl (AG (s1+1)))
else none
else some (Sum.inr (true))) (0)
@[reducible] def bP:FnI:=AV [AB7] [D1] fun x=>f_ x
def rQ:Cx:=AP [] [] [] [(0,BD [(7,AF)] [] [] [2,4,8,9,10,11,12,13] [] 1)] []
theorem nG:CV 122 bP:=okW rQ [.tmp 2] 14 0 (AN AB.nil AM.nil) Tryz.func122
def T_ (a0:AY):Option Bool:=
AS (σ:=Int) (β:=Bool) (fun s1=>
if s1<(a0.2.2.length:Int) then
if 0<=s1/\s1<(a0.2.2.length:Int) then
AS (σ:=(Int×Int)) (β:=(Int ⊕ Bool)) (fun s2=>
if s2.1≥0 then
if s2.2<(a0.2.2.length:Int) then
if s2.1=s1 then
some (Sum.inr (Sum.inr (false)))
else if 0<=s2.1/\s2.1<(a0.2.2.length:Int) then
some (Sum.inl ((((gl ((0,0,0):B7) a0.2.2 s2.1.toNat).2).2,AG (s2.2+1))))
else none
else some (Sum.inr (Sum.inl (AG (s1+1))))
else some (Sum.inr (Sum.inl (AG (s1+1))))) ((((gl ((0,0,0):B7) a0.2.2 s1.toNat).2).2,0))
else none
else some (Sum.inr (true))) (0)
@[reducible] def RT:FnI:=AV [BG] [D1] fun x=>T_ x
def eL:Cx:=AP [(1,(2,1))] [] [] [(0,BD [(9,AF)] [] [] (DW [(2,4),(10,29)]) [] 3),(2,BD [(4,AF),(5,AF)] [] [] (DW [(2,1),(18,20)]) [] 3)] []
theorem bQ:CV 123 RT:=okW eL [.tmp 2] 39 1 (AN AB.nil AM.nil) Tryz.func123
def CR (a0:AY):Option Bool:=
Option.bind (KO a0.1) (fun r1=>
if (!r1)=true then
some (false)
else if (a0.2.2.length:Int)<2 then
some (false)
else if (a0.2.2.length:Int)>64 then
some (false)
else if True then
if ¬(a0.2.1.length:Int)=(AG ((a0.2.2.length:Int)*2 ^ min (BitVec.ofInt 64 a0.1).toNat 64)) then
some (false)
else AS (σ:=X3) (β:=Bool) (fun s1=>
if s1.2<(a0.2.2.length:Int) then
if 0<=s1.2/\s1.2<(a0.2.2.length:Int) then
if ((gl ((0,0,0):B7) a0.2.2 s1.2.toNat).1)=(-1) then
if ¬(((gl ((0,0,0):B7) a0.2.2 s1.2.toNat).2).1)=(-1) then
some (Sum.inr (false))
else if ¬(((gl ((0,0,0):B7) a0.2.2 s1.2.toNat).2).2)=(-1) then
some (Sum.inr (false))
else if True then
if True then
if Bd (some (AG (s1.2*2 ^ min (BitVec.ofInt 64 a0.1).toNat 64))) (some (AG ((AG (s1.2+1))*2 ^ min (BitVec.ofInt 64 a0.1).toNat 64))) ((AG ((AG (s1.2+1))*2 ^ min (BitVec.ofInt 64 a0.1).toNat 64)).toNat) a0.2.1.length then
Option.bind (f_ (DQ a0.2.1 ((AG (s1.2*2 ^ min (BitVec.ofInt 64 a0.1).toNat 64)).toNat) (((AG ((AG (s1.2+1))*2 ^ min (BitVec.ofInt 64 a0.1).toNat 64)).toNat)-((AG (s1.2*2 ^ min (BitVec.ofInt 64 a0.1).toNat 64)).toNat)))) (fun r2=>
if (!r2)=true then
some (Sum.inr (false))
else some (Sum.inl ((s1.1,AG (s1.2+1)))))
else none
else none
else none
else if ((gl ((0,0,0):B7) a0.2.2 s1.2.toNat).1)<0 then
some (Sum.inr (false))
else if ((gl ((0,0,0):B7) a0.2.2 s1.2.toNat).1)>4294967295 then
some (Sum.inr (false))
else if (((gl ((0,0,0):B7) a0.2.2 s1.2.toNat).2).1)<0 then
some (Sum.inr (false))
else if ¬(4294967296:Int)=0 then
if ¬(Int.tmod (((gl ((0,0,0):B7) a0.2.2 s1.2.toNat).2).1) 4294967296)=((gl ((0,0,0):B7) a0.2.2 s1.2.toNat).1) then
some (Sum.inr (false))
else if ¬(4294967296:Int)=0 then
if (AG (Int.tdiv (((gl ((0,0,0):B7) a0.2.2 s1.2.toNat).2).1) 4294967296))≥4 then
some (Sum.inr (false))
else if (((gl ((0,0,0):B7) a0.2.2 s1.2.toNat).2).2)<(-1) then
some (Sum.inr (false))
else if (((gl ((0,0,0):B7) a0.2.2 s1.2.toNat).2).2)≥(a0.2.2.length:Int) then
some (Sum.inr (false))
else if (((gl ((0,0,0):B7) a0.2.2 s1.2.toNat).2).2)=s1.2 then
some (Sum.inr (false))
else if (((gl ((0,0,0):B7) a0.2.2 s1.2.toNat).2).2)<0 then
some (Sum.inl ((s1.1,AG (s1.2+1))))
else if 0<=(((gl ((0,0,0):B7) a0.2.2 s1.2.toNat).2).2)/\(((gl ((0,0,0):B7) a0.2.2 s1.2.toNat).2).2)<(a0.2.2.length:Int) then
if True then
if ((s1.1 >>> (BitVec.ofInt 64 (((gl ((0,0,0):B7) a0.2.2 s1.2.toNat).2).2)).toNat) &&& (1#64))=(1#64) then
some (Sum.inr (false))
else if ¬((gl ((0,0,0):B7) a0.2.2 ((((gl ((0,0,0):B7) a0.2.2 s1.2.toNat).2).2).toNat)).1)=((gl ((0,0,0):B7) a0.2.2 s1.2.toNat).1) then
some (Sum.inr (false))
else if ¬(((gl ((0,0,0):B7) a0.2.2 ((((gl ((0,0,0):B7) a0.2.2 s1.2.toNat).2).2).toNat)).2).1)=(((gl ((0,0,0):B7) a0.2.2 s1.2.toNat).2).1) then
some (Sum.inr (false))
else if True then
some (Sum.inl ((s1.1|||((1#64) <<< (BitVec.ofInt 64 (((gl ((0,0,0):B7) a0.2.2 s1.2.toNat).2).2)).toNat),AG (s1.2+1))))
else none
else none
else none
else none
else none
else none
else Option.map Sum.inr (Option.bind (T_ a0) (fun r3=>
some (r3)))) ((0#64,0))
else none)
@[reducible] def B_:FnI:=AV [BG] [D1] fun x=>CR x
def nH:Cx:=AP [(1,(2,1)),(6,(3,1)),(7,(5,1)),(67,(4,1))] [] [(24,JC),(122,bP),(123,RT)] [(0,BD [(4,EO),(37,AF)] [] [] (DW [(2,1),(5,3),(38,114)]) [] 3)] []
theorem B8:CV 78 B_:=okW nH [.tmp 2] 154 4 (AN (.cons KP (.cons nG (.cons bQ AB.nil))) AM.nil) Tryz.func78
def MW (a0:AY):Option Int:=
Option.bind (KO a0.1) (fun r1=>
if (!r1)=true then
some (0)
else if True then
some (AG ((1:Int)*2 ^ min (BitVec.ofInt 64 a0.1).toNat 64))
else none)
@[reducible] def NU:FnI:=AV [BG] [A9] fun x=>MW x
def rR:Cx:=AP [(1,(2,1))] [] [(24,JC)] [] []
theorem QL:CV 135 NU:=okW rR [.tmp 2] 11 1 (AN (.cons KP AB.nil) AM.nil) Tryz.func135
end
end Go.Proofs.YtklddkokplchdaaGreatDoor
