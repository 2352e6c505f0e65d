/- A law of the statements is proved here, without any condition. -/
import Derived.Test.YtjbojdpdkikioaaGreatDoorHeaZ
import Derived.Test.YtjbojdpdkikioaaGreatDoorRows
import Derived.Test.YtjbojdpdkikioaaGreatDoorTie
import Derived.Test.YtjbojdpdkikioaaGreatDoorCards
import Derived.SevenTiedAt
set_option linter.unusedVariables false
set_option linter.unusedSimpArgs false
namespace Go.Proofs.YtjbojdpdkikioaaGreatDoor
open Go Go.V3
namespace condemnChooses
open Go.ChangeShapes Go.WideShapes Go.ChangeAt Go.RowKit Go.V3
theorem own:ownKnob Tryz.prog.godebug=none:=by kernel_rfl
theorem laidOut:laidOutB Tryz.prog=true:=by kernel_rfl
theorem door_met (os : Os) (args : Array Value) : laidMetH Tryz.prog [("math/bits.deBruijn64tab", Rows.laid_math_bits_deBruijn64tab)] ((World.doorLaid Tryz.prog 4000 os).forCall (fun _ _ => 0) ⟨#[], args, []⟩).memory :=
 laidMetH_of_parts3 (fuel:=8) (laidMet_of_run' 8 (by kernel_rfl) (by kernel_rfl)) (by kernel_rfl) (by kernel_rfl)
set_option maxRecDepth 100000 in
theorem lifted (os:Os) (started:os.Started) (H:Type) (enc:TypeId×Value->H):
  ReturnsInHanded {} Tryz.checked os 3 .any (fun w args => (Rows.condemnChoosesSpec.pre enc Tryz.prog Tryz.f3 [] false w args ∧ laidMetH Tryz.prog [("math/bits.deBruijn64tab", Rows.laid_math_bits_deBruijn64tab)] w) ∧ sizedMet enc Tryz.prog Tryz.f3 (OpenSpec.ofChange Rows.condemnChoosesSpec) false w args) (Rows.condemnChoosesSpec.post enc Tryz.prog Tryz.f3 false true false false) := by
 refine returnsInHanded_of_change_and (C := Tryz.checked) (X := fun w _ => laidMetH Tryz.prog [("math/bits.deBruijn64tab", Rows.laid_math_bits_deBruijn64tab)] w) (fun _ _ _ hh h => h.of_heap hh) own started (by kernel_rfl) Tryz.func3
  (ChangeSpec.witness_shaped (enc := enc) (C := Tryz.checked) (os := os) (X := fun w _ => laidMetH Tryz.prog [("math/bits.deBruijn64tab", Rows.laid_math_bits_deBruijn64tab)] w) false (World.doorLaid Tryz.prog 4000 os) #[.agg #[.string ⟨#[]⟩, .slice none 0 0, .int .i64 0], .agg #[.int .i64 0, .slice none 0 0, .slice none 0 0], .slice none 0 0, .slice none 0 0, .agg #[.int .i64 0, .bool false, .int .i64 0], .int .i64 0, .int .i64 0, .bool false, .int .i64 0, .int .i64 0, .int .i64 0] 8 rfl (World.shaped_of_RefB (by kernel_rfl) (by kernel_rfl)) (by kernel_rfl) (by kernel_rfl) (by kernel_rfl) (door_met os _)) ?_
 intro W base args ds gs before ASQ hW _ _ hL _
 have hT:AY6 oB W:=by
  intro q hq
  simp only[oB,GD,kS,sX] at hq
  subst hq
  exact pV (t:=156) hL (by kernel_rfl) (e:=5) (k:= .u8) (len:=64) (by kernel_rfl) (by kernel_rfl) (by kernel_rfl) (by kernel_rfl) (by kernel_rfl) (by kernel_rfl) [0,1,56,2,57,49,28,3,61,58,42,50,38,29,17,4,62,47,59,36,45,43,51,22,53,39,33,30,24,18,12,5,63,55,48,27,60,41,37,16,46,35,44,21,52,32,23,11,54,26,40,15,34,20,31,10,25,14,19,9,13,8,7,6] rfl
 have PQ:∀ (j:Nat) t v,Tryz.f3.params[j]? =some t->args[j]? =some v->Value.okWide Tryz.prog W .any base t v:=ASQ
 have hW' :=hW
 obtain⟨p,q,hA0,hV,rfl,hfz,H9⟩:=hW
 have hA:DataW.TrodAll enc Tryz.prog W 0 (fun _=>true) true Tryz.f3.params.toList args.toList ds p:=hA0
 rw[Tryz.params3] at hA PQ
 obtain⟨v0,vs0,d0,ds0,p0,q0,MX,rfl,rfl,h0,r0⟩:=trodAll_cons hA
 obtain⟨v1,vs1,d1,ds1,p1,q1,rfl,rfl,rfl,h1,r1⟩:=trodAll_cons r0
 obtain⟨v2,vs2,d2,ds2,p2,q2,rfl,rfl,rfl,h2,r2⟩:=trodAll_cons r1
 obtain⟨v3,vs3,d3,ds3,p3,q3,rfl,rfl,rfl,h3,r3⟩:=trodAll_cons r2
 obtain⟨v4,vs4,d4,ds4,p4,q4,rfl,rfl,rfl,h4,r4⟩:=trodAll_cons r3
 obtain⟨v5,vs5,d5,ds5,p5,q5,rfl,rfl,rfl,h5,r5⟩:=trodAll_cons r4
 obtain⟨v6,vs6,d6,ds6,p6,q6,rfl,rfl,rfl,h6,r6⟩:=trodAll_cons r5
 obtain⟨v7,vs7,d7,ds7,p7,q7,rfl,rfl,rfl,h7,r7⟩:=trodAll_cons r6
 obtain⟨v8,vs8,d8,ds8,p8,q8,rfl,rfl,rfl,h8,r8⟩:=trodAll_cons r7
 obtain⟨v9,vs9,d9,ds9,p9,q9,rfl,rfl,rfl,h9,r9⟩:=trodAll_cons r8
 obtain⟨v10,A5B,d10,A5C,p10,q10,rfl,rfl,rfl,tC,JQ⟩:=trodAll_cons r9
 obtain⟨rfl,rfl,rfl⟩:=trodAll_nil JQ
 obtain rfl:args= #[v0,v1,v2,v3,v4,v5,v6,v7,v8,v9,v10]:=by cases args;simp_all
 obtain⟨rfl,rfl⟩:=trodVars_none hV
 have k0:=h0
 have lt0:∀ x∈p0,x.block<W.heap.size:=by obtain⟨m,hm⟩:=k0;exact DataW.trod_lt m _ _ _ hm
 obtain⟨y0,R0,w0⟩:=handed 40 AQG (by kernel_rfl) (PQ 0 24 v0 rfl rfl) k0
 have k1:=h1
 have lt1:∀ x∈p1,x.block<W.heap.size:=by obtain⟨m,hm⟩:=k1;exact DataW.trod_lt m _ _ _ hm
 obtain⟨y1,R1,w1⟩:=handed 40 AEN (by kernel_rfl) (PQ 1 28 v1 rfl rfl) k1
 have k2:=h2
 have lt2:∀ x∈p2,x.block<W.heap.size:=by obtain⟨m,hm⟩:=k2;exact DataW.trod_lt m _ _ _ hm
 obtain⟨y2,R2,w2⟩:=handed 40 AQF (by kernel_rfl) (PQ 2 29 v2 rfl rfl) k2
 have k3:=h3
 have lt3:∀ x∈p3,x.block<W.heap.size:=by obtain⟨m,hm⟩:=k3;exact DataW.trod_lt m _ _ _ hm
 obtain⟨y3,R3,w3⟩:=handed 40 AEM (by kernel_rfl) (PQ 3 30 v3 rfl rfl) k3
 have k4:=h4
 have lt4:∀ x∈p4,x.block<W.heap.size:=by obtain⟨m,hm⟩:=k4;exact DataW.trod_lt m _ _ _ hm
 obtain⟨y4,R4,w4⟩:=handed 40 AW8 (by kernel_rfl) (PQ 4 32 v4 rfl rfl) k4
 have k5:=h5
 have lt5:∀ x∈p5,x.block<W.heap.size:=by obtain⟨m,hm⟩:=k5;exact DataW.trod_lt m _ _ _ hm
 obtain⟨y5,R5,w5⟩:=handed 40 (.int .i64) (by kernel_rfl) (PQ 5 3 v5 rfl rfl) k5
 have k6:=h6
 have lt6:∀ x∈p6,x.block<W.heap.size:=by obtain⟨m,hm⟩:=k6;exact DataW.trod_lt m _ _ _ hm
 obtain⟨y6,R6,w6⟩:=handed 40 (.int .i64) (by kernel_rfl) (PQ 6 3 v6 rfl rfl) k6
 have k7:=h7
 have lt7:∀ x∈p7,x.block<W.heap.size:=by obtain⟨m,hm⟩:=k7;exact DataW.trod_lt m _ _ _ hm
 obtain⟨y7,R7,w7⟩:=handed 40 .bool (by kernel_rfl) (PQ 7 4 v7 rfl rfl) k7
 have k8:=h8
 have lt8:∀ x∈p8,x.block<W.heap.size:=by obtain⟨m,hm⟩:=k8;exact DataW.trod_lt m _ _ _ hm
 obtain⟨y8,R8,w8⟩:=handed 40 (.int .i64) (by kernel_rfl) (PQ 8 3 v8 rfl rfl) k8
 have k9:=h9
 have lt9:∀ x∈p9,x.block<W.heap.size:=by obtain⟨m,hm⟩:=k9;exact DataW.trod_lt m _ _ _ hm
 obtain⟨y9,R9,w9⟩:=handed 40 (.int .i64) (by kernel_rfl) (PQ 9 3 v9 rfl rfl) k9
 have k10:=tC
 have A50:∀ x∈p10,x.block<W.heap.size:=by obtain⟨m,hm⟩:=k10;exact DataW.trod_lt m _ _ _ hm
 obtain⟨y10,R10,w10⟩:=handed 40 (.int .i64) (by kernel_rfl) (PQ 10 3 v10 rfl rfl) k10
 have A11:=AEH.nil W
 obtain⟨m10,A10⟩:=A11.cons (t:=(.int .i64)) (.inr ⟨rfl,MN (t:=3) rfl (PQ 10 3 v10 rfl rfl)⟩) y10 R10
 obtain⟨m9,A9⟩:=A10.cons (t:=(.int .i64)) (.inr ⟨rfl,MN (t:=3) rfl (PQ 9 3 v9 rfl rfl)⟩) y9 R9
 obtain⟨m8,A8⟩:=A9.cons (t:=(.int .i64)) (.inr ⟨rfl,MN (t:=3) rfl (PQ 8 3 v8 rfl rfl)⟩) y8 R8
 obtain⟨m7,A7⟩:=A8.cons (t:= .bool) (.inr ⟨rfl,MN (t:=4) rfl (PQ 7 4 v7 rfl rfl)⟩) y7 R7
 obtain⟨m6,A6⟩:=A7.cons (t:=(.int .i64)) (.inr ⟨rfl,MN (t:=3) rfl (PQ 6 3 v6 rfl rfl)⟩) y6 R6
 obtain⟨m5,A5⟩:=A6.cons (t:=(.int .i64)) (.inr ⟨rfl,MN (t:=3) rfl (PQ 5 3 v5 rfl rfl)⟩) y5 R5
 obtain⟨m4,A4⟩:=A5.cons (t:=AW8) (.inl ⟨rfl,AB6 (t:=32) rfl (PQ 4 32 v4 rfl rfl)⟩) y4 R4
 obtain⟨m3,A3⟩:=A4.cons (t:=AEM) (.inr ⟨rfl,MN (t:=30) rfl (PQ 3 30 v3 rfl rfl)⟩) y3 R3
 obtain⟨m2,A2⟩:=A3.cons (t:=AQF) (.inr ⟨rfl,MN (t:=29) rfl (PQ 2 29 v2 rfl rfl)⟩) y2 R2
 obtain⟨m1,A1⟩:=A2.cons (t:=AEN) (.inl ⟨rfl,AB6 (t:=28) rfl (PQ 1 28 v1 rfl rfl)⟩) y1 R1
 obtain⟨m0,A0⟩:=A1.cons (t:=AQG) (.inl ⟨rfl,AB6 (t:=24) rfl (PQ 0 24 v0 rfl rfl)⟩) y0 R0
 refine (AEI (fi:=JT) QM hT (r:=(true:Bool)) (vals:= #[v0,v1,v2,v3,v4,v5,v6,v7,v8,v9,v10]) (w:=W) A0 (kK y0 w0 y1 w1 y2 w2 y3 w3 y4 w4 y5 (UJ w5) y6 (UJ w6) y7 y8 (UJ w8) y9 (UJ w9) y10 (UJ w10)) (fun _=>rfl)).mono fun e W' ⟨he,bel⟩=> ?_
 subst he
 simp only[GG] at hW'
 exact⟨_,rfl,_,_,_,[],_,[],hW',trodAll_mk1 (shut_bool Tryz.underlying4 _),(trodAll_cons_mk (Below.trod laidOut (by kernel_rfl) (QX (by kernel_rfl)) k0 bel lt0) (trodAll_cons_mk (Below.trod laidOut (by kernel_rfl) (QX (by kernel_rfl)) k1 bel lt1) (trodAll_cons_mk (Below.trod laidOut (by kernel_rfl) (QX (by kernel_rfl)) k2 bel lt2) (trodAll_cons_mk (Below.trod laidOut (by kernel_rfl) (QX (by kernel_rfl)) k3 bel lt3) (trodAll_cons_mk (Below.trod laidOut (by kernel_rfl) (QX (by kernel_rfl)) k4 bel lt4) (trodAll_cons_mk (Below.trod laidOut (by kernel_rfl) (QX (by kernel_rfl)) k5 bel lt5) (trodAll_cons_mk (Below.trod laidOut (by kernel_rfl) (QX (by kernel_rfl)) k6 bel lt6) (trodAll_cons_mk (Below.trod laidOut (by kernel_rfl) (QX (by kernel_rfl)) k7 bel lt7) (trodAll_cons_mk (Below.trod laidOut (by kernel_rfl) (QX (by kernel_rfl)) k8 bel lt8) (trodAll_cons_mk (Below.trod laidOut (by kernel_rfl) (QX (by kernel_rfl)) k9 bel lt9) (trodAll_cons_mk (Below.trod laidOut (by kernel_rfl) (QX (by kernel_rfl)) k10 bel A50) trodAll_mk0))))))))))),rfl,bel.frame _,fun h=>by cases h⟩
theorem proved:Rows.CondemnChoosesSaid:=
 OpenClaim.holds_of_wide 3 Tryz.f3 rfl rfl rfl rfl rfl rfl rfl ⟨rfl,rfl,rfl,rfl,rfl⟩ rfl rfl rfl rfl rfl (by kernel_rfl) Tryz.func3 (by kernel_rfl)
  (QX (by kernel_rfl)) (by unfold Func.isWrapper;first|(rw[AB (by decide+kernel)];kernel_rfl)|(rw[AD (by decide+kernel)];exact⟨rfl,rfl⟩))
  (fun os started H enc _=>lifted os started H enc)
theorem card:Rows.CondemnChoosesCardSaid:=
 Claim7.holds_tied_plain_at .later [] [.data] true (true, "010398a2f16d75a372d4811b85ad0937b15cdcda2f1313ec995c763fd4b79aed") false proved (fun _ h => by cases h) (by kernel_rfl) (fun _ h => by cases h) condemnChooses_row_tie rfl ⟨rfl, rfl⟩ (by kernel_rfl) rfl
  (fun f fn hf hfn=>by
   obtain rfl : f = 3 := Option.some.inj ((show Tryz.prog.funcNamed "beltway/beltwaylaw21.CondemnChooses" = some 3 by kernel_rfl).symm.trans hf) |>.symm
   obtain rfl:fn=Tryz.f3:=(T6 (Tryz.func3.symm.trans hfn)).symm
   exact⟨by kernel_rfl,fun j t ht=>by
    rw[Tryz.params3] at ht
    have hm:t∈[24,28,29,30,32,3,3,4,3,3,3]:=by simpa using Array.mem_of_getElem? ht
    have SZ:([24,28,29,30,32,3,3,4,3,3,3].all fun u=> !Tryz.prog.wantsStandIn u)=true:=by kernel_rfl
    exact (show Tryz.prog.wantsStandIn t=false by simpa using JV.1 SZ t hm)⟩)
  (by kernel_rfl)
end condemnChooses
end Go.Proofs.YtjbojdpdkikioaaGreatDoor
