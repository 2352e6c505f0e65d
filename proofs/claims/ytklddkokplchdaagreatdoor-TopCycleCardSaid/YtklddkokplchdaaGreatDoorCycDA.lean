/- A law of the statements is proved here, without any condition. -/
import Derived.Test.YtklddkokplchdaaGreatDoorTopW
import Derived.Test.YtklddkokplchdaaGreatDoorRows
import Derived.Test.YtklddkokplchdaaGreatDoorTie
import Derived.Test.YtklddkokplchdaaGreatDoorCards
import Derived.SevenTiedAt
set_option linter.unusedVariables false
set_option linter.unusedSimpArgs false
set_option maxRecDepth 10000000
set_option maxHeartbeats 4000000
set_option cbv.maxSteps 100000000
namespace Go.Proofs.YtklddkokplchdaaGreatDoor
open Go Go.V3
@[cbv_eval] theorem AOX:H0 10=some (4591870180066957722,0):=by kernel_rfl
theorem AFQ:K9=some true:=by cbv
theorem xO {σ β:Type} {f:σ->Option (σ ⊕ β)} {b:β} (h:Nat->σ) (j:Nat) (hs:∀ k,k<j->f (h k)=some (.inl (h (k+1)))) (he:f (h j)=some (.inr b)):∀ d k,k+d=j->JW f (d+1) (h k)=some b
 |0,k,hk=>by
  have h1:k=j:=by omega
  subst h1
  rw[JW,he]
 |d+1,k,hk=>by
  rw[JW,hs k (by omega)]
  exact xO h j hs he d (k+1) (by omega)
theorem AFR {σ β:Type} {f:σ->Option (σ ⊕ β)} {b:β} (h:Nat->σ) (j:Nat) (hs:∀ k,k<j->f (h k)=some (.inl (h (k+1)))) (he:f (h j)=some (.inr b)):AS f (h 0)=some b:=
 JN.2 ⟨_,xO h j hs he j 0 (by omega)⟩
theorem AFS (k:Nat) (hk:k<=10) (n n' :K_) (h:n'.val=n.val+1):GI (k+2) n=GI k n' :=by
 unfold GI;rw[h];omega
theorem AMS (k:Nat) (hk:k<=10) (n n' :K_) (h:n'.val=n.val+1):aJ (k+2) n=aJ k n' :=by
 unfold aJ;rw[AFS k hk n n' h]
theorem AIF (k:Nat) (hk:k<=10) (n n' :K_) (h:n'.val=n.val+1) (x:Int):frN (k+2) n x=frN k n' x:=by
 unfold frN;rw[AFS k hk n n' h,AMS k hk n n' h]
theorem AMT (j:Nat) (n n' :K_) (h:n'.val=n.val+1):fsN j 2 n=fsN j 0 n' :=by
 have a:=AIF 0 (by omega) n n' h
 have b:=AIF 1 (by omega) n n' h
 unfold fsN
 split <;> simp only[KB,Nat.reduceAdd] at a b ⊢<;> simp only[a,b]
theorem AMU (j:Nat) (n n' :K_) (h:n'.val=n.val+1):blN j 2 n=blN j 0 n' :=by
 have a:=AFS 0 (by omega) n n' h
 have b:=AFS 1 (by omega) n n' h
 unfold blN
 split <;> simp only[KB,Nat.reduceAdd] at a b ⊢<;> simp only[a,b]
theorem AK9 (n n' :K_) (h:n'.val=n.val+1):AHM 1 n=AHM 0 n' :=by
 unfold AHM ZtN baN
 simp only[BP,true_and]
 refine⟨?_, ?_, ?_, ?_, ?_, ?_, ?_⟩ <;> (rw[h];simp;try omega)
theorem AKA (c:CfT) (j:Nat) (n n' :K_) (h:n'.val=n.val+1):xU c j 2 1 n=xU c j 0 0 n' :=by
 unfold xU
 rw[AMT j n n' h,AMU j n n' h,AK9 n n' h,AFS 2 (by omega) n n' h]
def ixN (m:Nat):K_:=⟨min m 1000,by omega⟩
theorem AOY {m:Nat} (h:m<1000):(ixN (m+1)).val=(ixN m).val+1:=by unfold ixN;simp only;omega
def HSN (p:Fin 18):Nat->HpT
 |0=>H1N (PK p) 1
 |m+1=>xU (PK p) ((m+2)%3) 0 0 (ixN m)
theorem AKB (p:Fin 18) (m:Nat) (h:m<1000):CA (HSN p m)=some (HSN p (m+1),true,0):=by
 cases m with
 |zero=>exact AOS p
 |succ m=>
  have hx:=AOY (m:=m) (by omega)
  show CA (xU (PK p) ((m+2)%3) 0 0 (ixN m))=some (xU (PK p) ((m+1+2)%3) 0 0 (ixN (m+1)),true,0)
  have h3:(m+2)%3=0/\(m+1+2)%3=1\/(m+2)%3=1/\(m+1+2)%3=2\/(m+2)%3=2/\(m+1+2)%3=0:=by omega
  rcases h3 with ⟨a,b⟩|⟨a,b⟩|⟨a,b⟩
  ·rw[a,b,AOL,AKA _ _ _ _ hx]
  ·rw[a,b,AOM,AKA _ _ _ _ hx]
  ·rw[a,b,AON,AKA _ _ _ _ hx]
theorem AKC (p:Fin 18) (m:Nat):B9 (HSN p (m+1))=some 32:=by
 show B9 (xU (PK p) ((m+2)%3) 0 0 (ixN m))=some 32
 have h3:(m+2)%3=0\/(m+2)%3=1\/(m+2)%3=2:=by omega
 rcases h3 with a|a|a <;> rw[a]
 ·exact AOU p _
 ·exact AOV p _
 ·exact AOW p _
theorem xP (a b:Int) (h1:0<b) (h2:b<=100):∃ r,F5 a b=some r/\0<=r/\r<b:=by
 have h3:=Int.tmod_lt_of_pos a h1
 have h4: -b<Int.tmod a b:=by
  have:=Int.tmod_lt_of_pos (-a) h1
  rw[Int.neg_tmod] at this
  omega
 unfold F5
 rw[BQ (by omega)]
 by_cases h:Int.tmod a b<0
 ·rw[BQ h,aH (by omega) (by omega)]
  exact⟨_,rfl,by omega,by omega⟩
 ·rw[BC h]
  exact⟨_,rfl,by omega,by omega⟩
theorem tI (y0:Int) (w0:I64 y0):IQ y0=some true:=by
 unfold IQ
 obtain⟨r1,e1,l1,u1⟩:=xP y0 18 (by omega) (by omega)
 obtain⟨r2,e2, -, -⟩:=xP y0 40 (by omega) (by omega)
 obtain⟨q,rfl⟩:∃ q:Nat,r1=(q:Int):=⟨r1.toNat,by omega⟩
 obtain⟨j,hj,e3⟩:∃ j:Nat,j<=1000/\(if r2=0 then (some (Sum.inl 1000):Option (Int ⊕ Bool)) else some (Sum.inl 20))=some (Sum.inl (j:Int)):=by
  by_cases h:r2=0
  ·exact⟨1000,by omega,by rw[BQ h];rfl⟩
  ·exact⟨20,by omega,by rw[BC h];rfl⟩
 rw[e1,VC,e2,VC,e3,VC]
 obtain⟨p,hp⟩:∃ p:Fin 18,p.val=q:=⟨⟨q,by omega⟩,rfl⟩
 subst hp
 have hw:AG ((1:Int)+(p.val:Int))=1+(p.val:Int):=aH (by omega) (by omega)
 simp only[]
 rw[hw,AK6,VC,AK7,VC]
 simp only[]
 rw[AOO,VC,AOP,VC]
 rw[BC (by simp),BC (by simp)]
 simp only[]
 rw[AOQ,VC,AOR,VC]
 have hg:=AOT p
 simp only[]
 cases hk:CA (H1N (xN p) 2) with
 |none=>rw[hk] at hg;cases hg
 |some k=>
  rw[hk,VC] at hg
  obtain⟨k,ok,e⟩:=k
  cases ho:B9 k with
  |none=>simp only[ho] at hg;cases hg
  |some o=>
   simp only[ho,XW,AR,BP] at hg
   obtain⟨⟨rfl,rfl⟩,rfl⟩:=hg
   rw[VC,BC (by simp),BC (by simp)]
   simp only[]
   rw[ho,VC,BC (by simp)]
   refine AFR (fun m=>((m:Int),HSN p m)) j (fun m hm=> ?_) ?_
   ·simp only[]
    rw[BQ (by omega),AKB p m (by omega),VC,BC (by simp),BC (by simp)]
    simp only[]
    rw[AKC,VC,BC (by simp),aH (by omega) (by omega)]
    rfl
   ·simp only[]
    rw[BC (by omega),AFQ]
    rfl
namespace topCycle
open Go.ChangeShapes Go.WideShapes Go.ChangeAt Go.RowKit Go.V3
theorem own:ownKnob Tryz.prog.godebug=none:=by kernel_rfl
theorem laidOut:laidOutB Tryz.prog=true:=by kernel_rfl
theorem door_met (os : Os) (args : Array Value) : laidMetH Tryz.prog [("math/bits.deBruijn64tab", Rows.laid_math_bits_deBruijn64tab)] ((World.doorLaid Tryz.prog 4000 os).forCall (fun _ _ => 0) ⟨#[], args, []⟩).memory :=
 laidMetH_of_parts3 (fuel:=8) (laidMet_of_run' 8 (by kernel_rfl) (by kernel_rfl)) (by kernel_rfl) (by kernel_rfl)
set_option maxRecDepth 100000 in
theorem lifted (os:Os) (started:os.Started) (H:Type) (enc:TypeId×Value->H):
  ReturnsInHanded {} Tryz.checked os 3 .any (fun w args => (Rows.topCycleSpec.pre enc Tryz.prog Tryz.f3 [] false w args ∧ laidMetH Tryz.prog [("math/bits.deBruijn64tab", Rows.laid_math_bits_deBruijn64tab)] w) ∧ sizedMet enc Tryz.prog Tryz.f3 (OpenSpec.ofChange Rows.topCycleSpec) false w args) (Rows.topCycleSpec.post enc Tryz.prog Tryz.f3 false true false false) := by
 refine returnsInHanded_of_change_and (C := Tryz.checked) (X := fun w _ => laidMetH Tryz.prog [("math/bits.deBruijn64tab", Rows.laid_math_bits_deBruijn64tab)] w) (fun _ _ _ hh h => h.of_heap hh) own started (by kernel_rfl) Tryz.func3
  (ChangeSpec.witness_shaped (enc := enc) (C := Tryz.checked) (os := os) (X := fun w _ => laidMetH Tryz.prog [("math/bits.deBruijn64tab", Rows.laid_math_bits_deBruijn64tab)] w) false (World.doorLaid Tryz.prog 4000 os) #[.int .i64 0] 8 rfl (World.shaped_of_RefB (by kernel_rfl) (by kernel_rfl)) (by kernel_rfl) (by kernel_rfl) (by kernel_rfl) (door_met os _)) ?_
 intro W base args ds gs before AMV hW _ _ hL _
 have hT:ALU bL W:=by
  intro q hq
  simp only[bL,MK,List.not_mem_nil,or_false] at hq
  subst hq
  exact wL (t:=217) hL (by kernel_rfl) (e:=5) (k:= .u8) (len:=64) (by kernel_rfl) (by kernel_rfl) (by kernel_rfl) (by kernel_rfl) (by kernel_rfl) (by kernel_rfl) [0,1,56,2,57,49,28,3,61,58,42,50,38,29,17,4,62,47,59,36,45,43,51,22,53,39,33,30,24,18,12,5,63,55,48,27,60,41,37,16,46,35,44,21,52,32,23,11,54,26,40,15,34,20,31,10,25,14,19,9,13,8,7,6] rfl
 have AMW:∀ (j:Nat) t v,Tryz.f3.params[j]? =some t->args[j]? =some v->Value.okWide Tryz.prog W .any base t v:=AMV
 have hW' :=hW
 obtain⟨p,q,hA0,hV,rfl,hfz,JM⟩:=hW
 have hA:DataW.TrodAll enc Tryz.prog W 0 (fun _=>true) true Tryz.f3.params.toList args.toList ds p:=hA0
 rw[Tryz.params3] at hA AMW
 obtain⟨v0,vs0,d0,ds0,p0,q0,EN,rfl,rfl,h0,r0⟩:=trodAll_cons hA
 obtain⟨rfl,rfl,rfl⟩:=trodAll_nil r0
 obtain rfl:args= #[v0]:=by cases args;simp_all
 obtain⟨rfl,rfl⟩:=trodVars_none hV
 have k0:=h0
 have lt0:∀ x∈p0,x.block<W.heap.size:=by obtain⟨m,hm⟩:=k0;exact DataW.trod_lt m _ _ _ hm
 obtain⟨a0,rfl,_,_,w0⟩:=open_int Tryz.underlying3 (AMW 0 3 v0 rfl rfl) h0
 have b0:=ACW w0
 refine (AFC T3 rfl hT (x:=(a0:HT LM.ps)) (r:=(true:Bool)) (vals:= #[_]) (w:=W) ?_ (tI a0 b0) (fun _=>rfl)).mono fun e W' ⟨he,bel⟩=> ?_
 ·rfl
 subst he
 simp only[Y_] at hW'
 exact⟨_,rfl,_,_,_,[],_,[],hW',trodAll_mk1 (shut_bool Tryz.underlying4 _),(trodAll_cons_mk (Below.trod laidOut (by kernel_rfl) (of_decide_eq_true (by kernel_rfl)) k0 bel lt0) trodAll_mk0),rfl,bel.frame _,fun h=>by cases h⟩
theorem proved:Rows.TopCycleSaid:=
 OpenClaim.holds_of_wide 3 Tryz.f3 rfl rfl rfl rfl rfl rfl rfl ⟨rfl,rfl,rfl,rfl,rfl⟩ rfl rfl rfl rfl rfl (by kernel_rfl) Tryz.func3 (by kernel_rfl)
  (of_decide_eq_true (by kernel_rfl)) (by unfold Func.isWrapper;first|(rw[BQ (by decide+kernel)];kernel_rfl)|(rw[BC (by decide+kernel)];exact⟨rfl,rfl⟩))
  (fun os started H enc _=>lifted os started H enc)
theorem card:Rows.TopCycleCardSaid:=
 Claim7.holds_tied_plain_at .later [] [.data] true (true, "454d2ba872110fb8efc69e293392165542a48b30d7e5ebdc150c16d8fa3d1696") true proved (fun _ h => by cases h) (by kernel_rfl) (fun _ h => by cases h) topCycle_row_tie rfl ⟨rfl, rfl⟩ (by kernel_rfl) rfl
  (fun f fn hf hfn=>by
   obtain rfl : f = 3 := Option.some.inj ((show Tryz.prog.funcNamed "beltway/beltwaytop.TopCycle" = some 3 by kernel_rfl).symm.trans hf) |>.symm
   obtain rfl:fn=Tryz.f3:=(Option.some.inj (Tryz.func3.symm.trans hfn)).symm
   exact⟨by kernel_rfl,fun j t ht=>by
    rw[Tryz.params3] at ht
    have hm:t∈[3]:=by simpa using Array.mem_of_getElem? ht
    have hR:([3].all fun u=> !Tryz.prog.wantsStandIn u)=true:=by kernel_rfl
    exact (show Tryz.prog.wantsStandIn t=false by simpa using Q7.1 hR t hm)⟩)
  (by kernel_rfl)
end topCycle
end Go.Proofs.YtklddkokplchdaaGreatDoor
