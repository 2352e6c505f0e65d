/-
  The law of lists: a list whose end refers to its beginning is copied whole, in its order.
-/
import Derived.Test.YtokeceeccmgcmaaDoorRows
import Derived.Test.YtokeceeccmgcmaaDoorTie
import Derived.Test.YtokeceeccmgcmaaDoorCards
import Derived.SevenTiedAt
import Derived.Test.YtokeceeccmgcmaaDoorEvcI
set_option linter.unusedVariables false
namespace Go.Proofs.YtokeceeccmgcmaaDoor
open Go Go.V3

theorem ofInt_succ (b : Int) : BitVec.ofInt 64 (b + 1) = BitVec.ofInt 64 b + 1#64 := by
  rw [BitVec.ofInt_add]; rfl
theorem law_EvacuateList (y0 : Int) (w0 : I64 y0) (y1 : Int) (w1 : I64 y1) : Fbeltwaylaw23_EvacuateList y0 y1 = some true := by
  suffices hh : ∃ b, Fbeltwaylaw23_EvacuateList y0 y1 = some b ∧ b = true by
    obtain ⟨b, h1, rfl⟩ := hh
    exact h1
  unfold Fbeltwaylaw23_EvacuateList
  obtain ⟨r, e1, r0, r1, _⟩ := Mod_ok y0 (m := 40) (by omega) (by omega)
  obtain ⟨m, e2, m0, m1, _⟩ := Mod_ok y1 (m := 3) (by omega) (by omega)
  rw [e1, Option.bind_some, e2, Option.bind_some, rNew_ok (s := 4) (n := 40) (by omega) (by omega), Option.bind_some, if_neg (not_not_intro rfl)]
  rw [w64_id (e := 1 + r) (by omega) (by omega), w64_id (e := 2 + m) (by omega) (by omega)]
  obtain ⟨k, hk⟩ : ∃ k : Nat, (k : Int) = 1 + r := ⟨(1 + r).toNat, by omega⟩
  obtain ⟨n, hn⟩ : ∃ n : Int, n = 2 + m := ⟨_, rfl⟩
  rw [← hk, ← hn]
  have hk0 : 0 < k := by omega
  have hk40 : k ≤ 40 := by omega
  have n0 : 0 ≤ n := by omega
  have hv := VS.new (s := 4) (n := 40) (by omega) (by omega)
  have hfree : ∀ x : Int, 0 ≤ x → x < ((List.replicate (40 : Int).toNat ((-1, -1, -1) : Fr)).length : Int) → (fr (List.replicate (40 : Int).toNat ((-1, -1, -1) : Fr)) x).1 = -1 := by
    intro x x0 x1
    unfold fr
    rw [List.length_replicate] at x1
    rw [gl_rep (by omega)]
  have hfr40 : (frees (List.replicate (40 : Int).toNat ((-1, -1, -1) : Fr))).length = 40 := by
    have : frees (List.replicate (40 : Int).toNat ((-1, -1, -1) : Fr)) = rangeI (List.replicate (40 : Int).toNat ((-1, -1, -1) : Fr)).length := by
      unfold frees owned
      rw [List.filter_eq_self]
      intro a ha
      have := mem_rangeI.1 ha
      exact decide_eq_true (hfree a this.1 this.2)
    rw [this, rangeI_length, List.length_replicate]; rfl
  have hstart : SC k n m 0 0 (4, List.replicate ((40 : Int) * sz 4).toNat 0#64, List.replicate (40 : Int).toNat ((-1, -1, -1) : Fr)) (0, 0, -1, -1, 0) [] [] := by
    refine ⟨hv, rfl, by rw [List.length_replicate]; rfl, ⟨⟨by decide, by decide, by decide, by decide, by decide, by simp only; omega⟩, .inl ⟨rfl, rfl, rfl⟩⟩, rfl, rfl, by simp, .inl ⟨rfl, rfl⟩, fun q _ q1 => frees_all hfree q q1, fun _ => frees_all hfree 0 (by decide), ?_, rfl, fun q hq => by omega, fun q hq => by omega, fun q hq => by omega⟩
    simp only [Int.natCast_zero, Int.zero_mul]
    rw [cl_zero (by omega : (0 : Int) < 16), hfr40]; rfl
  refine loopO_up (fun x (st : List Int × Int × Sp × Inc) => st.2.1 = (x : Int) ∧ x ≤ k ∧ ∃ l, SC k n m x 0 st.2.2.1 st.2.2.2 l st.1) (fun b => b = true) k ?_ ?_ ⟨rfl, by omega, [], hstart⟩
  · rintro x ⟨at', c, s, i⟩ hx ⟨h1, _, l, h2⟩
    simp only at h1 h2 ⊢
    subst h1
    obtain ⟨t, u, j, a, l', g1, g2, g3⟩ := h2.more hk40 hx m0 (by omega) hn
    have hal := h2.alen
    rw [if_pos (by omega), g1, Option.bind_some]
    simp only
    rw [g2, Option.bind_some, if_pos (by simp only [List.length_singleton]; omega), w64_id (e := (x : Int) + 1) (by omega) (by omega)]
    exact .inl ⟨_, rfl, rfl, by omega, l', g3⟩
  rintro ⟨at', c, s, i⟩ ⟨h1, _, l, h2⟩
  simp only at h1 h2 ⊢
  subst h1
  rw [if_neg (by omega)]
  refine map_inr ?_
  have hal := h2.alen
  have hmodk : ∀ d : Nat, d < k → (d + 1) % k < k := fun d _ => Nat.mod_lt _ hk0
  have htm : ∀ d : Nat, d < k → Int.tmod (w64 ((d : Int) + 1)) (k : Int) = (((d + 1) % k : Nat) : Int) := by
    intro d hd
    rw [w64_id (e := (d : Int) + 1) (by omega) (by omega), Int.tmod_eq_emod_of_nonneg (by omega), Int.natCast_emod]
    rfl
  have hat : ∀ (s : Sp) (d : Nat), SC k n m k d s i l at' → ∀ q, q < k → 0 ≤ gl 0 at' q ∧ gl 0 at' q ≤ 16384 := by
    intro s d h q hq
    have hwl := VS.wlen h.vs
    have hwd := h.wd
    have hk2 := mulN (n := n) hk0 n0
    simp only [Int.natCast_zero, Int.zero_mul, Int.zero_add] at hk2
    have hpa : Pa s.2.2 i.2.2.1 l := by
      rcases h.has with ⟨g1, _⟩ | ⟨_, g1⟩
      · omega
      · exact g1
    obtain ⟨⟨a0, a1⟩, _⟩ := adl_rng h.vs hpa (mulN0 (q := q) n0) (by rw [h.z]; exact h.apl q hq)
    omega
  refine loopO_up (fun d (st : Int × Sp) => st.1 = (d : Int) ∧ d ≤ k ∧ SC k n m k d st.2 i l at') (fun b => b = true) k ?_ ?_ ⟨rfl, by omega, h2⟩
  · rintro d ⟨c, s'⟩ hd ⟨g1, _, g2⟩
    simp only at g1 g2 ⊢
    subst g1
    have hm := hmodk d hd
    have hr := hat s' d g2 _ hm
    obtain ⟨t, t1, t2⟩ := g2.set hd m0 (by omega) hn
    rw [if_pos (by omega), if_pos (by omega), if_pos (by omega : ¬ (k : Int) = 0), htm d hd, if_pos (by omega), Int.toNat_natCast, Int.toNat_natCast, w64_id (e := gl 0 at' ((d + 1) % k) + 1) (by omega) (by omega), t1, Option.bind_some, w64_id (e := (d : Int) + 1) (by omega) (by omega)]
    exact .inl ⟨_, rfl, rfl, by omega, t2⟩
  rintro ⟨c, s'⟩ ⟨g1, _, g2⟩
  simp only at g1 g2 ⊢
  subst g1
  have hr := hat s' k g2 0 hk0
  rw [if_neg (by omega)]
  refine map_inr ?_
  rw [if_pos (by omega), w64_id (e := gl 0 at' (Int.toNat 0) + 1) (by show _ ≤ gl 0 at' 0 + 1; omega) (by show gl 0 at' 0 + 1 ≤ _; omega)]
  obtain ⟨c1, c2⟩ := g2.chk hk0 hk40 m0 (by omega) hn
  obtain ⟨b, b1, t, to', lb', mv', rfl, b2⟩ := copy_start (ws := [BitVec.ofInt 64 (gl 0 at' 0 + 1)]) g2.vs.stI (by simp) (by simp) c1 (fun w hw => c2.whole hk0 (by
    have : seqs [i] = [0] := by simp [seqs, g2.seq]
    rw [this] at hw; exact hw))
  have hml := b2.mlen
  have hwd2 := b2.wd
  have hwl := VS.wlen b2.cy.vs
  have hseq := b2.seq
  have hmb : ∀ q, q < k → 0 ≤ (gl (0, 0) mv' q).2 ∧ (gl (0, 0) mv' q).2 ≤ 16384 := by
    intro q hq
    obtain ⟨hp, _⟩ := b2.path hk0
    obtain ⟨⟨a0, a1⟩, _⟩ := adl_rng b2.cy.vs hp (mulN0 (q := q) n0) (by rw [b2.z]; exact b2.tob q hq)
    omega
  have hkn : 0 ≤ (k : Int) * n ∧ (k : Int) * n ≤ 160 := by
    have : (k : Int) * n ≤ 40 * n := Int.mul_le_mul_of_nonneg_right (by omega) n0
    exact ⟨mulN0 n0, by omega⟩
  rw [show gl 0 at' (Int.toNat 0) = gl 0 at' 0 from rfl, b1, Option.bind_some]
  simp only
  rw [if_neg (not_not_intro trivial), if_neg (by omega), if_neg (by simp), w64_id (e := (k : Int) * n) (by omega) (by omega), if_neg (by omega)]
  refine loopO_up (fun x (st : Int) => st = (x : Int)) (fun b => b = true) k ?_ ?_ (s := (0 : Int)) rfl
  · rintro x st hx rfl
    have hm := hmodk x hx
    have hx0 := mulN0 (q := x) n0
    have hxk := mulN (n := n) hx n0
    have hb := hmb _ hm
    obtain ⟨p, hp, ⟨p0, p1⟩, _, p2⟩ := place_ok (m := m) b2.cy.vs b2.cy.fit b2.has m0 (by omega) hx0 (by omega) (by rw [b2.z]; exact b2.tob x hx) (b2.hdb x hx)
    rw [b2.z] at hp
    rw [if_pos (by omega), if_pos (by omega), if_pos (by omega), Int.toNat_natCast, if_neg (by rw [b2.frm x hx]; exact not_not_intro rfl), if_pos (by omega), ref_ok b2.cy.vs p0 p1 p2, Option.bind_some, if_neg (not_not_intro rfl), if_pos (by omega : ¬ (k : Int) = 0), htm x hx, if_pos (by omega), Int.toNat_natCast, b2.lnk x hx p hp,
      w64_id (e := (gl (0, 0) mv' ((x + 1) % k)).2 + 1) (by omega) (by omega), ofInt_succ, if_neg (not_not_intro rfl), w64_id (e := (x : Int) + 1) (by omega) (by omega)]
    exact .inl ⟨_, rfl, rfl⟩
  · rintro st rfl
    have hb := hmb 0 hk0
    rw [if_neg (by omega), if_pos (by simp), if_pos (by omega)]
    refine ⟨_, rfl, ?_⟩
    rw [show Int.toNat 0 = 0 from rfl, w64_id (e := (gl (0, 0) mv' 0).2 + 1) (by omega) (by omega), ofInt_succ]
    exact decide_eq_true rfl
namespace evacuateList
open Go.ChangeShapes Go.WideShapes Go.ChangeAt Go.RowKit Go.V3
set_option linter.unusedVariables false
theorem own : ownKnob Tryd.prog.godebug = none := by kernel_rfl
theorem laidOut : laidOutB Tryd.prog = true := by kernel_rfl
theorem door_met (os : Os) (args : Array Value) : laidMetH Tryd.prog [("math/bits.deBruijn64tab", Rows.laid_math_bits_deBruijn64tab)] ((World.doorLaid Tryd.prog 4000 os).forCall (fun _ _ => 0) ⟨#[], args, []⟩).memory :=
  laidMetH_of_parts3 (fuel := 8) (laidMet_of_run' 8 (by kernel_rfl) (by kernel_rfl)) (by kernel_rfl) (by kernel_rfl)
set_option maxRecDepth 100000 in
theorem lifted (os : Os) (started : os.Started) (H : Type) (enc : TypeId × Value → H) :
    ReturnsInHanded {} Tryd.checked os 3 .any (fun w args => (Rows.evacuateListSpec.pre enc Tryd.prog Tryd.f3 [] false w args ∧ laidMetH Tryd.prog [("math/bits.deBruijn64tab", Rows.laid_math_bits_deBruijn64tab)] w) ∧ sizedMet enc Tryd.prog Tryd.f3 (OpenSpec.ofChange Rows.evacuateListSpec) false w args) (Rows.evacuateListSpec.post enc Tryd.prog Tryd.f3 false true false false) := by
  refine returnsInHanded_of_change_and (C := Tryd.checked) (X := fun w _ => laidMetH Tryd.prog [("math/bits.deBruijn64tab", Rows.laid_math_bits_deBruijn64tab)] w) (fun _ _ _ hh h => h.of_heap hh) own started (by kernel_rfl) Tryd.func3
    (ChangeSpec.witness_shaped (enc := enc) (C := Tryd.checked) (os := os) (X := fun w _ => laidMetH Tryd.prog [("math/bits.deBruijn64tab", Rows.laid_math_bits_deBruijn64tab)] w) false (World.doorLaid Tryd.prog 4000 os) #[.int .i64 0, .int .i64 0] 8 rfl (World.shaped_of_RefB (by kernel_rfl) (by kernel_rfl)) (by kernel_rfl) (by kernel_rfl) (by kernel_rfl) (door_met os _)) ?_
  intro W base args ds gs before hval0 hW _ _ hL _
  have hT : TabW tabs W := by
    intro q hq
    simp only [tabs, List.mem_cons, List.not_mem_nil, or_false] at hq
    subst hq
    exact tab_of_laid (t := 98) hL (by kernel_rfl) (e := 5) (k := .u8) (len := 64) (by kernel_rfl) (by kernel_rfl) (by kernel_rfl) (by kernel_rfl) (by kernel_rfl) (by kernel_rfl) [0, 1, 56, 2, 57, 49, 28, 3, 61, 58, 42, 50, 38, 29, 17, 4, 62, 47, 59, 36, 45, 43, 51, 22, 53, 39, 33, 30, 24, 18, 12, 5, 63, 55, 48, 27, 60, 41, 37, 16, 46, 35, 44, 21, 52, 32, 23, 11, 54, 26, 40, 15, 34, 20, 31, 10, 25, 14, 19, 9, 13, 8, 7, 6] rfl
  have hval : ∀ (j : Nat) t v, Tryd.f3.params[j]? = some t → args[j]? = some v → Value.okWide Tryd.prog W .any base t v := hval0
  have hW' := hW
  obtain ⟨p, q, hA0, hV, rfl, hfz, hnd⟩ := hW
  have hA : DataW.TrodAll enc Tryd.prog W 0 (fun _ => true) true Tryd.f3.params.toList args.toList ds p := hA0
  rw [Tryd.params3] at hA hval
  obtain ⟨v0, vs0, d0, ds0, p0, q0, hargs, rfl, rfl, h0, r0⟩ := trodAll_cons hA
  obtain ⟨v1, vs1, d1, ds1, p1, q1, rfl, rfl, rfl, h1, r1⟩ := trodAll_cons r0
  obtain ⟨rfl, rfl, rfl⟩ := trodAll_nil r1
  obtain rfl : args = #[v0, v1] := by cases args; simp_all
  obtain ⟨rfl, rfl⟩ := trodVars_none hV
  have k0 := h0
  have lt0 : ∀ x ∈ p0, x.block < W.heap.size := by obtain ⟨m, hm⟩ := k0; exact DataW.trod_lt m _ _ _ hm
  obtain ⟨a0, rfl, _, _, w0⟩ := open_int Tryd.underlying3 (hval 0 3 v0 rfl rfl) h0
  have b0 := i64_of_wf w0
  have k1 := h1
  have lt1 : ∀ x ∈ p1, x.block < W.heap.size := by obtain ⟨m, hm⟩ := k1; exact DataW.trod_lt m _ _ _ hm
  obtain ⟨a1, rfl, _, _, w1⟩ := open_int Tryd.underlying3 (hval 1 3 v1 rfl rfl) h1
  have b1 := i64_of_wf w1
  refine (law_bare okFbeltwaylaw23_EvacuateList rfl hT (x := ((a0, a1) : HT iFbeltwaylaw23_EvacuateList.ps)) (r := (true : Bool)) (vals := #[_, _]) (w := W) ?_ (law_EvacuateList a0 b0 a1 b1) (fun _ => rfl)).mono fun e W' ⟨he, bel⟩ => ?_
  · rfl
  subst he
  simp only [List.append_nil] at hW'
  exact ⟨_, rfl, _, _, _, [], _, [], hW', trodAll_mk1 (shut_bool Tryd.underlying4 _), (trodAll_cons_mk (Below.trod laidOut (by kernel_rfl) (of_decide_eq_true (by kernel_rfl)) k0 bel lt0) (trodAll_cons_mk (Below.trod laidOut (by kernel_rfl) (of_decide_eq_true (by kernel_rfl)) k1 bel lt1) trodAll_mk0)), rfl, bel.frame _, fun h => by cases h⟩
theorem proved : Rows.EvacuateListSaid :=
  OpenClaim.holds_of_wide 3 Tryd.f3 rfl rfl rfl rfl rfl rfl rfl ⟨rfl, rfl, rfl, rfl, rfl⟩ rfl rfl rfl rfl rfl (by kernel_rfl) Tryd.func3 (by kernel_rfl)
    (of_decide_eq_true (by kernel_rfl)) (by unfold Func.isWrapper; first | (rw [if_pos (by decide +kernel)]; kernel_rfl) | (rw [if_neg (by decide +kernel)]; exact ⟨rfl, rfl⟩))
    (fun os started H enc _ => lifted os started H enc)
theorem card : Rows.EvacuateListCardSaid :=
  Claim7.holds_tied_plain_at .later [] [.data] true (true, "582bf99c1f8aa22fea2d8dce14d5aa5ad713c6c699284ff169e852c231272e56") false proved (fun _ h => by cases h) (by kernel_rfl) (fun _ h => by cases h) evacuateList_row_tie rfl ⟨rfl, rfl⟩ (by kernel_rfl) rfl
    (fun f fn hf hfn => by
      obtain rfl : f = 3 := Option.some.inj ((show Tryd.prog.funcNamed "beltway/beltwaylaw23.EvacuateList" = some 3 by kernel_rfl).symm.trans hf) |>.symm
      obtain rfl : fn = Tryd.f3 := (Option.some.inj (Tryd.func3.symm.trans hfn)).symm
      exact ⟨by kernel_rfl, fun j t ht => by
        rw [Tryd.params3] at ht
        have hm : t ∈ [3, 3] := by simpa using Array.mem_of_getElem? ht
        have hall : ([3, 3].all fun u => !Tryd.prog.wantsStandIn u) = true := by kernel_rfl
        exact (show Tryd.prog.wantsStandIn t = false by simpa using List.all_eq_true.1 hall t hm)⟩)
    (by kernel_rfl)
end evacuateList
end Go.Proofs.YtokeceeccmgcmaaDoor
