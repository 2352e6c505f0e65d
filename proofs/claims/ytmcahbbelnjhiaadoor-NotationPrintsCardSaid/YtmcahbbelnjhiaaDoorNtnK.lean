/-
  The laws NotationPrints and NotationParses.
-/
import Derived.Test.YtmcahbbelnjhiaaDoorRows
import Derived.Test.YtmcahbbelnjhiaaDoorTie
import Derived.Test.YtmcahbbelnjhiaaDoorCards
import Derived.SevenTiedAt
import Derived.LaidSub
import Derived.Test.YtmcahbbelnjhiaaDoorNtnJ
set_option linter.unusedVariables false
set_option linter.unusedSimpArgs false
namespace Go.Proofs.YtmcahbbelnjhiaaDoor
open Go Go.V3

def EX : Cf := (⟨#[120, 120, 49, 48, 48]⟩, [(pc 25, 0, 1, 1), (pc 25, 0, 1, 2), (0, 0, 0, 2)], 8)
def exS : ByteArray := ⟨#[120, 120, 49, 48, 48, 32, 102, 117, 108, 108, 32, 56, 58, 32, 50, 53, 37, 47, 48, 47, 49, 62, 49, 44, 32, 50, 53, 37, 47, 48, 47, 49, 62, 50, 44, 32, 97, 108, 108, 47, 48, 47, 48, 62, 50]⟩
theorem ex_good : Good EX := good3 (nm_of (by decide)) (pc_vv (by decide) (by decide)) (pc_vv (by decide) (by decide)) (.inl rfl) (by decide) (by decide) (by rintro (⟨_, h⟩ | ⟨h, _⟩); omega; exact h rfl)
theorem ex_says : says (bl exS) = some EX := by rfl
theorem ex_parse : parse exS = (EX, 0) := by
  unfold parse
  rw [if_neg (by decide), ex_says]
  dsimp only
  rw [if_pos ex_good.chk]
theorem awake_ok : Fbeltwaylaw13_awake = some true := by
  unfold Fbeltwaylaw13_awake
  show Option.bind (Fnotation_Parse exS) _ = _
  rw [Parse_ok, ex_parse, Option.bind_some, pPrint_ok (c := EX) (by decide) ex_good.sh, prn_back ex_says ex_good.chk, Option.bind_some]
  rw [if_pos rfl, if_pos rfl]
  exact (if_pos rfl).trans rfl
theorem Same_refl {c : Cf} (hn : c.2.1.length ≤ 1000) (hs : Sh c) : Fbeltwayref12_Same c c = some true := by
  unfold Fbeltwayref12_Same
  rw [if_neg (by simp), if_neg (by simp), if_neg (by simp)]
  refine loopO_run c.2.1.length (fun k hk => ?_) ?_
  · have h1 := hs (k : Int) (by omega) (by omega)
    unfold ru at h1
    rw [if_pos (by omega), if_pos (by omega), if_pos (by omega), if_pos h1, if_pos h1, if_neg (by simp), if_neg (by simp), if_neg (by simp), if_neg (by simp), w64_id (by omega) (by omega)]
  · rw [if_neg (by omega)]
theorem parse_sh (s : ByteArray) : (parse s).1.2.1.length ≤ 1000 ∧ Sh (parse s).1 := by
  have hz : zc.2.1.length ≤ 1000 ∧ Sh zc := ⟨by decide, fun b h0 h1 => absurd h1 (by show ¬ b < 0; omega)⟩
  unfold parse
  split
  · exact hz
  rename_i h
  cases e : says (bl s) with
  | none => exact hz
  | some c =>
    dsimp only
    split
    · obtain ⟨_, _, _, h1, h2, _⟩ := says_ok (by rw [bl_len]; omega) e
      exact ⟨h1, sh_of fun x hx => (h2 x hx).1⟩
    · exact hz
theorem prn_size {c : Cf} : (prn c).1.size ≤ 1000 := by
  unfold prn
  split
  · rename_i hc
    have hg := good_of hc
    have h4 := hg.n
    cases e : ptx c.2.1 with
    | none => exact Nat.zero_le _
    | some ts =>
      dsimp only
      have hp : ∀ (rs : List Ru) (ts : List By), (∀ x ∈ rs, RuP x) → ptx rs = some ts → ts.length = rs.length ∧ ∀ t ∈ ts, t.length ≤ 200 := by
        intro rs
        induction rs with
        | nil => intro ts _ h; cases h; exact ⟨rfl, by simp⟩
        | cons x rs ih =>
          intro ts hok h
          rw [ptx] at h
          obtain ⟨p, hp, h⟩ := Option.bind_eq_some_iff.mp h
          obtain ⟨ts', ht, rfl⟩ := Option.map_eq_some_iff.mp h
          obtain ⟨g1, g2⟩ := ih ts' (fun y hy => hok y (.tail _ hy)) ht
          obtain ⟨p0, p1, _⟩ := tp_some hp
          refine ⟨by rw [List.length_cons, List.length_cons, g1], fun t ht => ?_⟩
          rcases List.mem_cons.mp ht with rfl | ht
          · exact rtx_len p0 p1 (hok x (.head _))
          · exact g2 t ht
      obtain ⟨g1, g2⟩ := hp _ _ (fun x hx => by
        obtain ⟨i, hi, rfl⟩ := List.getElem_of_mem hx
        have := good_rp hg hi
        rwa [gl_lt hi] at this) e
      have := jn_len ts g2
      have := head_size hg
      rw [size_mk, List.length_append]
      omega
  · exact Nat.zero_le _
theorem law_NotationPrints (y0 : Cf) (w0 : Wf (.pair .str (.pair (.slice (.pair .flt (.pair (.int .i64) (.pair (.int .i64) (.int .i64))))) (.int .i64))) y0) (y1 : List Int) (w1 : Wf (.slice (.int .i64)) y1) :
    Fbeltwaylaw13_NotationPrints y0 y1 = some true := by
  unfold Fbeltwaylaw13_NotationPrints
  rw [awake_ok, Option.bind_some]
  by_cases c1 : (y0.2.1.length : Int) > 20
  · rw [if_pos c1]
  rw [if_neg c1]
  by_cases c2 : (y0.1.size : Int) > 300
  · rw [if_pos c2]
  rw [if_neg c2]
  obtain ⟨d, e1, hd⟩ := New0_ok y1 w1.1
  rw [e1, Option.bind_some]
  obtain ⟨c, d', e2, g, _⟩ := Config_ok hd
  obtain ⟨n0, n1⟩ := g.n
  have hnm := g.nm.2.1
  rw [e2, Option.bind_some]
  have hraw : Sh y0 := by
    intro b b0 b1
    exact (w0.2.1.2 _ (gl_mem (d := ((0, 0, 0, 0) : Ru)) (xs := y0.2.1) (k := b.toNat) (by omega))).1
  have hall : ∀ x ∈ [y0, c], x.2.1.length ≤ 1000 ∧ x.1.size ≤ 1000000 ∧ Sh x := by
    intro x hx
    simp only [List.mem_cons, List.not_mem_nil, or_false] at hx
    rcases hx with rfl | rfl
    · exact ⟨by omega, by omega, hraw⟩
    · exact ⟨by omega, by omega, g.sh⟩
  have hlen : ([y0, c] : List Cf).length = 2 := rfl
  generalize ([y0, c] : List Cf) = XS at hall hlen ⊢
  refine loopO_run 2 (fun k hk => ?_) (by rw [if_neg (by omega)]; rfl)
  rw [if_pos (by omega), if_pos ⟨by omega, by omega⟩]
  have hx := hall _ (gl_mem (d := ((⟨#[]⟩, [], 0) : Cf)) (xs := XS) (k := (k : Int).toNat) (by omega))
  generalize gl ((⟨#[]⟩, [], 0) : Cf) XS (k : Int).toNat = x at hx ⊢
  obtain ⟨x1, x2, x3⟩ := hx
  rw [show (x.1, x.2) = x from rfl, pPrint_ok x1 x3, Option.bind_some, rPrint_ok x1 x2 x3, Option.bind_some, if_neg (by simp), if_neg (by simp), w64_id (by omega) (by omega)]
theorem law_NotationParses (y0 : ByteArray) (w0 : Wf .str y0) (y1 : List Int) (w1 : Wf (.slice (.int .i64)) y1) (y2 : Int) (w2 : I64 y2) (y3 : Int) (w3 : I64 y3) :
    Fbeltwaylaw13_NotationParses y0 y1 y2 y3 = some true := by
  unfold Fbeltwaylaw13_NotationParses
  rw [awake_ok, Option.bind_some]
  by_cases c1 : (y0.size : Int) > 1200
  · rw [if_pos c1]
  rw [if_neg c1]
  obtain ⟨d, e1, hd⟩ := New0_ok y1 w1.1
  rw [e1, Option.bind_some]
  obtain ⟨c, d', e2, g, _⟩ := Config_ok hd
  obtain ⟨n0, n1⟩ := g.n
  have hnm := g.nm.2.1
  rw [e2, Option.bind_some]
  dsimp only
  rw [rPrint_ok (c := c) (by omega) (by omega) g.sh, Option.bind_some]
  have ht : ∃ t : ByteArray, 1 ≤ t.size ∧ t.size ≤ 1000 ∧ (if (prn c).1 = (⟨#[]⟩ : ByteArray) then (some (Sum.inl exS) : Option (ByteArray ⊕ Bool)) else some (Sum.inl (prn c).1)) = some (Sum.inl t) := by
    by_cases c2 : (prn c).1 = (⟨#[]⟩ : ByteArray)
    · rw [if_pos c2]
      exact ⟨_, by decide, by decide, rfl⟩
    · rw [if_neg c2]
      refine ⟨_, ?_, prn_size, rfl⟩
      apply Nat.pos_of_ne_zero
      intro h
      apply c2
      apply bl_inj
      have : (bl (prn c).1).length = 0 := by rw [bl_len]; exact h
      exact List.length_eq_zero_iff.mp this
  obtain ⟨t, t0, t1, e3⟩ := ht
  have e3' : (if (prn c).1 = (⟨#[]⟩ : ByteArray) then (some (Sum.inl (⟨#[120, 120, 49, 48, 48, 32, 102, 117, 108, 108, 32, 56, 58, 32, 50, 53, 37, 47, 48, 47, 49, 62, 49, 44, 32, 50, 53, 37, 47, 48, 47, 49, 62, 50, 44, 32, 97, 108, 108, 47, 48, 47, 48, 62, 50]⟩ : ByteArray)) : Option (ByteArray ⊕ Bool)) else some (Sum.inl (prn c).1)) = some (Sum.inl t) := e3
  rw [e3', Option.bind_some]
  dsimp only
  obtain ⟨k, e4, k0, k1⟩ := Mod_ok y2 (m := (t.size : Int)) (by omega) (by omega)
  obtain ⟨b, e5, b0, b1⟩ := Mod_ok y3 (m := 24) (by omega) (by omega)
  rw [e4, Option.bind_some, e5, Option.bind_some]
  rw [if_pos (show 0 ≤ b ∧ b < (((⟨#[32, 97, 108, 108, 47, 62, 37, 48, 49, 50, 51, 52, 53, 54, 55, 56, 57, 45, 97, 98, 102, 117, 58, 44]⟩ : ByteArray).size : Nat) : Int) from ⟨b0, b1⟩)]
  generalize sget (⟨#[32, 97, 108, 108, 47, 62, 37, 48, 49, 50, 51, 52, 53, 54, 55, 56, 57, 45, 97, 98, 102, 117, 58, 44]⟩ : ByteArray) b.toNat = x
  have hb1 : (bstr [x]).size = 1 := rfl
  have hk : k.toNat ≤ t.size := by omega
  have B1 : Bd none (some k) k.toNat t.size := ⟨⟨by omega, by omega⟩, trivial⟩
  have B2 : Bd (some k) none t.size t.size := ⟨trivial, by omega, by omega⟩
  have hw : w64 (k + 1) = k + 1 := w64_id (by omega) (by omega)
  have B3 : Bd (some (k + 1)) none t.size t.size := ⟨trivial, by omega, by omega⟩
  rw [hw]
  rw [if_pos B1, if_pos (by rw [hb1, ByteArray.size_extract]; omega), if_pos B2, if_pos (by rw [ByteArray.size_append, hb1, ByteArray.size_extract, ByteArray.size_extract]; omega), if_pos B1, if_pos (by rw [hb1, ByteArray.size_extract]; omega), if_pos B3, if_pos (by rw [ByteArray.size_append, hb1, ByteArray.size_extract, ByteArray.size_extract]; omega), if_pos B1, if_pos B3, if_pos (by rw [ByteArray.size_extract, ByteArray.size_extract]; omega), if_pos B1, if_pos (by rw [zcom]; omega), if_pos (by rw [ByteArray.size_append, zcom]; omega), if_pos (by rw [show (⟨#[32]⟩ : ByteArray).size = 1 from rfl]; omega)]
  generalize hXS : ([y0, t, _, _, _, _, _, _, _, _, _, _, _, _, _] : List ByteArray) = XS
  have hlen : XS.length = 15 := by rw [← hXS]; rfl
  clear hXS
  refine loopO_run 15 (fun m hm => ?_) (by rw [if_neg (by omega)]; rfl)
  rw [if_pos (by omega), if_pos ⟨by omega, by omega⟩]
  generalize gl (⟨#[]⟩ : ByteArray) XS (m : Int).toNat = s
  obtain ⟨s1, s2⟩ := parse_sh s
  rw [Parse_ok, Option.bind_some, rParse_ok, Option.bind_some, if_neg (by simp), Same_refl s1 s2, Option.bind_some, if_neg (by decide), w64_id (by omega) (by omega)]
namespace notationPrints
open Go.ChangeShapes Go.WideShapes Go.ChangeAt Go.RowKit Go.V3
set_option linter.unusedVariables false
theorem own : ownKnob Tryd.prog.godebug = none := by kernel_rfl
theorem laidOut : laidOutB Tryd.prog = true := by kernel_rfl
theorem door_met (os : Os) (args : Array Value) : laidMetH Tryd.prog [("math/bits.deBruijn32tab", Rows.laid_math_bits_deBruijn32tab), ("math/bits.deBruijn64tab", Rows.laid_math_bits_deBruijn64tab), ("internal/strconv.uint64pow10", Rows.laid_internal_strconv_uint64pow10), ("strconv.ErrRange", Rows.laid_strconv_ErrRange), ("strconv.ErrSyntax", Rows.laid_strconv_ErrSyntax)] ((World.doorLaid Tryd.prog 4000 os).forCall (fun _ _ => 0) ⟨#[], args, []⟩).memory :=
  laidMetH_of_parts3 (fuel := 8) (laidMet_of_run' 8 (by kernel_rfl) (by kernel_rfl)) (by kernel_rfl) (by kernel_rfl)
set_option maxRecDepth 100000 in
theorem lifted (os : Os) (started : os.Started) (H : Type) (enc : TypeId × Value → H) :
    ReturnsInHanded {} Tryd.checked os 3 .any (fun w args => (Rows.notationPrintsSpec.pre enc Tryd.prog Tryd.f3 [] false w args ∧ laidMetH Tryd.prog [("math/bits.deBruijn32tab", Rows.laid_math_bits_deBruijn32tab), ("math/bits.deBruijn64tab", Rows.laid_math_bits_deBruijn64tab), ("internal/strconv.uint64pow10", Rows.laid_internal_strconv_uint64pow10), ("strconv.ErrRange", Rows.laid_strconv_ErrRange), ("strconv.ErrSyntax", Rows.laid_strconv_ErrSyntax)] w) ∧ sizedMet enc Tryd.prog Tryd.f3 (OpenSpec.ofChange Rows.notationPrintsSpec) false w args) (Rows.notationPrintsSpec.post enc Tryd.prog Tryd.f3 false true false false) := by
  refine returnsInHanded_of_change_and (C := Tryd.checked) (X := fun w _ => laidMetH Tryd.prog [("math/bits.deBruijn32tab", Rows.laid_math_bits_deBruijn32tab), ("math/bits.deBruijn64tab", Rows.laid_math_bits_deBruijn64tab), ("internal/strconv.uint64pow10", Rows.laid_internal_strconv_uint64pow10), ("strconv.ErrRange", Rows.laid_strconv_ErrRange), ("strconv.ErrSyntax", Rows.laid_strconv_ErrSyntax)] w) (fun _ _ _ hh h => h.of_heap hh) own started (by kernel_rfl) Tryd.func3
    (ChangeSpec.witness_shaped (enc := enc) (C := Tryd.checked) (os := os) (X := fun w _ => laidMetH Tryd.prog [("math/bits.deBruijn32tab", Rows.laid_math_bits_deBruijn32tab), ("math/bits.deBruijn64tab", Rows.laid_math_bits_deBruijn64tab), ("internal/strconv.uint64pow10", Rows.laid_internal_strconv_uint64pow10), ("strconv.ErrRange", Rows.laid_strconv_ErrRange), ("strconv.ErrSyntax", Rows.laid_strconv_ErrSyntax)] w) false (World.doorLaid Tryd.prog 4000 os) #[.agg #[.string ⟨#[]⟩, .slice none 0 0, .int .i64 0], .slice none 0 0] 8 rfl (World.shaped_of_RefB (by kernel_rfl) (by kernel_rfl)) (by kernel_rfl) (by kernel_rfl) (by kernel_rfl) (door_met os _)) ?_
  intro W base args ds gs before hval0 hW _ _ hL _
  have hT : TabW tabs W := by
    intro q hq
    simp only [tabs, List.mem_cons, List.not_mem_nil, or_false] at hq
    rcases hq with rfl | rfl | rfl
    · have hL1 := laidMetH.filter (fun x => x.1 == "math/bits.deBruijn32tab") hL
      rw [show ([("math/bits.deBruijn32tab", Rows.laid_math_bits_deBruijn32tab), ("math/bits.deBruijn64tab", Rows.laid_math_bits_deBruijn64tab), ("internal/strconv.uint64pow10", Rows.laid_internal_strconv_uint64pow10), ("strconv.ErrRange", Rows.laid_strconv_ErrRange), ("strconv.ErrSyntax", Rows.laid_strconv_ErrSyntax)] : List (String × DataW Unit)).filter (fun x => x.1 == "math/bits.deBruijn32tab") = [("math/bits.deBruijn32tab", Rows.laid_math_bits_deBruijn32tab)] by kernel_rfl] at hL1
      exact tab_of_laid (t := 126) hL1 (by kernel_rfl) (e := 5) (k := .u8) (len := 32) (by kernel_rfl) (by kernel_rfl) (by kernel_rfl) (by kernel_rfl) (by kernel_rfl) (by kernel_rfl) [0, 1, 28, 2, 29, 14, 24, 3, 30, 22, 20, 15, 25, 17, 4, 8, 31, 27, 13, 23, 21, 19, 16, 7, 26, 12, 18, 6, 11, 5, 10, 9] rfl
    · have hL1 := laidMetH.filter (fun x => x.1 == "math/bits.deBruijn64tab") hL
      rw [show ([("math/bits.deBruijn32tab", Rows.laid_math_bits_deBruijn32tab), ("math/bits.deBruijn64tab", Rows.laid_math_bits_deBruijn64tab), ("internal/strconv.uint64pow10", Rows.laid_internal_strconv_uint64pow10), ("strconv.ErrRange", Rows.laid_strconv_ErrRange), ("strconv.ErrSyntax", Rows.laid_strconv_ErrSyntax)] : List (String × DataW Unit)).filter (fun x => x.1 == "math/bits.deBruijn64tab") = [("math/bits.deBruijn64tab", Rows.laid_math_bits_deBruijn64tab)] by kernel_rfl] at hL1
      exact tab_of_laid (t := 127) hL1 (by kernel_rfl) (e := 5) (k := .u8) (len := 64) (by kernel_rfl) (by kernel_rfl) (by kernel_rfl) (by kernel_rfl) (by kernel_rfl) (by kernel_rfl) [0, 1, 56, 2, 57, 49, 28, 3, 61, 58, 42, 50, 38, 29, 17, 4, 62, 47, 59, 36, 45, 43, 51, 22, 53, 39, 33, 30, 24, 18, 12, 5, 63, 55, 48, 27, 60, 41, 37, 16, 46, 35, 44, 21, 52, 32, 23, 11, 54, 26, 40, 15, 34, 20, 31, 10, 25, 14, 19, 9, 13, 8, 7, 6] rfl
    · have hL1 := laidMetH.filter (fun x => x.1 == "internal/strconv.uint64pow10") hL
      rw [show ([("math/bits.deBruijn32tab", Rows.laid_math_bits_deBruijn32tab), ("math/bits.deBruijn64tab", Rows.laid_math_bits_deBruijn64tab), ("internal/strconv.uint64pow10", Rows.laid_internal_strconv_uint64pow10), ("strconv.ErrRange", Rows.laid_strconv_ErrRange), ("strconv.ErrSyntax", Rows.laid_strconv_ErrSyntax)] : List (String × DataW Unit)).filter (fun x => x.1 == "internal/strconv.uint64pow10") = [("internal/strconv.uint64pow10", Rows.laid_internal_strconv_uint64pow10)] by kernel_rfl] at hL1
      exact tab_of_laid (t := 108) hL1 (by kernel_rfl) (e := 69) (k := .u64) (len := 20) (by kernel_rfl) (by kernel_rfl) (by kernel_rfl) (by kernel_rfl) (by kernel_rfl) (by kernel_rfl) [1, 10, 100, 1000, 10000, 100000, 1000000, 10000000, 100000000, 1000000000, 10000000000, 100000000000, 1000000000000, 10000000000000, 100000000000000, 1000000000000000, 10000000000000000, 100000000000000000, 1000000000000000000, 10000000000000000000] rfl
  have hval : ∀ (j : Nat) t v, Tryd.f3.params[j]? = some t → args[j]? = some v → Value.okWide Tryd.prog W .any base t v := hval0
  have hW' := hW
  obtain ⟨p, q, hA0, hV, rfl, hfz, hnd⟩ := hW
  have hA : DataW.TrodAll enc Tryd.prog W 0 (fun _ => true) true Tryd.f3.params.toList args.toList ds p := hA0
  rw [Tryd.params3] at hA hval
  obtain ⟨v0, vs0, d0, ds0, p0, q0, hargs, rfl, rfl, h0, r0⟩ := trodAll_cons hA
  obtain ⟨v1, vs1, d1, ds1, p1, q1, rfl, rfl, rfl, h1, r1⟩ := trodAll_cons r0
  obtain ⟨rfl, rfl, rfl⟩ := trodAll_nil r1
  obtain rfl : args = #[v0, v1] := by cases args; simp_all
  obtain ⟨rfl, rfl⟩ := trodVars_none hV
  have k0 := h0
  have lt0 : ∀ x ∈ p0, x.block < W.heap.size := by obtain ⟨m, hm⟩ := k0; exact DataW.trod_lt m _ _ _ hm
  obtain ⟨y0, R0, w0⟩ := handed 40 (.pair .str (.pair (.slice (.pair .flt (.pair (.int .i64) (.pair (.int .i64) (.int .i64))))) (.int .i64))) (by kernel_rfl) (hval 0 24 v0 rfl rfl) k0
  have k1 := h1
  have lt1 : ∀ x ∈ p1, x.block < W.heap.size := by obtain ⟨m, hm⟩ := k1; exact DataW.trod_lt m _ _ _ hm
  obtain ⟨y1, R1, w1⟩ := handed 40 (.slice (.int .i64)) (by kernel_rfl) (hval 1 25 v1 rfl rfl) k1
  have A2 := Args.nil W
  obtain ⟨m1, A1⟩ := A2.cons (t := (.slice (.int .i64))) (.inr ⟨rfl, plainForm (t := 25) rfl (hval 1 25 v1 rfl rfl)⟩) y1 R1
  obtain ⟨m0, A0⟩ := A1.cons (t := (.pair .str (.pair (.slice (.pair .flt (.pair (.int .i64) (.pair (.int .i64) (.int .i64))))) (.int .i64)))) (.inl ⟨rfl, aggForm (t := 24) rfl (hval 0 24 v0 rfl rfl)⟩) y0 R0
  refine (law_args (fi := iFbeltwaylaw13_NotationPrints) okFbeltwaylaw13_NotationPrints hT (r := (true : Bool)) (vals := #[v0, v1]) (w := W) A0 (law_NotationPrints y0 w0 y1 w1) (fun _ => rfl)).mono fun e W' ⟨he, bel⟩ => ?_
  subst he
  simp only [List.append_nil] at hW'
  exact ⟨_, rfl, _, _, _, [], _, [], hW', trodAll_mk1 (shut_bool Tryd.underlying4 _), (trodAll_cons_mk (Below.trod laidOut (by kernel_rfl) (of_decide_eq_true (by kernel_rfl)) k0 bel lt0) (trodAll_cons_mk (Below.trod laidOut (by kernel_rfl) (of_decide_eq_true (by kernel_rfl)) k1 bel lt1) trodAll_mk0)), rfl, bel.frame _, fun h => by cases h⟩
theorem proved : Rows.NotationPrintsSaid :=
  OpenClaim.holds_of_wide 3 Tryd.f3 rfl rfl rfl rfl rfl rfl rfl ⟨rfl, rfl, rfl, rfl, rfl⟩ rfl rfl rfl rfl rfl (by kernel_rfl) Tryd.func3 (by kernel_rfl)
    (of_decide_eq_true (by kernel_rfl)) (by unfold Func.isWrapper; first | (rw [if_pos (by decide +kernel)]; kernel_rfl) | (rw [if_neg (by decide +kernel)]; exact ⟨rfl, rfl⟩))
    (fun os started H enc _ => lifted os started H enc)
theorem card : Rows.NotationPrintsCardSaid :=
  Claim7.holds_tied_plain_at .later [] [.data, .data, .data, .sentinel, .sentinel] true (true, "4ab9aac6453f0aa6691e537f30575f196dfdb283fa28ab8b3380c7877380275f") true proved (fun _ h => by cases h) (by kernel_rfl) (fun _ h => by cases h) notationPrints_row_tie rfl ⟨rfl, rfl⟩ (by kernel_rfl) rfl
    (fun f fn hf hfn => by
      obtain rfl : f = 3 := Option.some.inj ((show Tryd.prog.funcNamed "beltway/beltwaylaw13.NotationPrints" = some 3 by kernel_rfl).symm.trans hf) |>.symm
      obtain rfl : fn = Tryd.f3 := (Option.some.inj (Tryd.func3.symm.trans hfn)).symm
      exact ⟨by kernel_rfl, fun j t ht => by
        rw [Tryd.params3] at ht
        have hm : t ∈ [24, 25] := by simpa using Array.mem_of_getElem? ht
        have hall : ([24, 25].all fun u => !Tryd.prog.wantsStandIn u) = true := by kernel_rfl
        exact (show Tryd.prog.wantsStandIn t = false by simpa using List.all_eq_true.1 hall t hm)⟩)
    (by kernel_rfl)
end notationPrints
namespace notationParses
open Go.ChangeShapes Go.WideShapes Go.ChangeAt Go.RowKit Go.V3
set_option linter.unusedVariables false
theorem own : ownKnob Tryd.prog.godebug = none := by kernel_rfl
theorem laidOut : laidOutB Tryd.prog = true := by kernel_rfl
theorem door_met (os : Os) (args : Array Value) : laidMetH Tryd.prog [("math/bits.deBruijn32tab", Rows.laid_math_bits_deBruijn32tab), ("math/bits.deBruijn64tab", Rows.laid_math_bits_deBruijn64tab), ("internal/strconv.uint64pow10", Rows.laid_internal_strconv_uint64pow10), ("strconv.ErrRange", Rows.laid_strconv_ErrRange), ("strconv.ErrSyntax", Rows.laid_strconv_ErrSyntax)] ((World.doorLaid Tryd.prog 4000 os).forCall (fun _ _ => 0) ⟨#[], args, []⟩).memory :=
  laidMetH_of_parts3 (fuel := 8) (laidMet_of_run' 8 (by kernel_rfl) (by kernel_rfl)) (by kernel_rfl) (by kernel_rfl)
set_option maxRecDepth 100000 in
theorem lifted (os : Os) (started : os.Started) (H : Type) (enc : TypeId × Value → H) :
    ReturnsInHanded {} Tryd.checked os 4 .any (fun w args => (Rows.notationParsesSpec.pre enc Tryd.prog Tryd.f4 [] false w args ∧ laidMetH Tryd.prog [("math/bits.deBruijn32tab", Rows.laid_math_bits_deBruijn32tab), ("math/bits.deBruijn64tab", Rows.laid_math_bits_deBruijn64tab), ("internal/strconv.uint64pow10", Rows.laid_internal_strconv_uint64pow10), ("strconv.ErrRange", Rows.laid_strconv_ErrRange), ("strconv.ErrSyntax", Rows.laid_strconv_ErrSyntax)] w) ∧ sizedMet enc Tryd.prog Tryd.f4 (OpenSpec.ofChange Rows.notationParsesSpec) false w args) (Rows.notationParsesSpec.post enc Tryd.prog Tryd.f4 false true false false) := by
  refine returnsInHanded_of_change_and (C := Tryd.checked) (X := fun w _ => laidMetH Tryd.prog [("math/bits.deBruijn32tab", Rows.laid_math_bits_deBruijn32tab), ("math/bits.deBruijn64tab", Rows.laid_math_bits_deBruijn64tab), ("internal/strconv.uint64pow10", Rows.laid_internal_strconv_uint64pow10), ("strconv.ErrRange", Rows.laid_strconv_ErrRange), ("strconv.ErrSyntax", Rows.laid_strconv_ErrSyntax)] w) (fun _ _ _ hh h => h.of_heap hh) own started (by kernel_rfl) Tryd.func4
    (ChangeSpec.witness_shaped (enc := enc) (C := Tryd.checked) (os := os) (X := fun w _ => laidMetH Tryd.prog [("math/bits.deBruijn32tab", Rows.laid_math_bits_deBruijn32tab), ("math/bits.deBruijn64tab", Rows.laid_math_bits_deBruijn64tab), ("internal/strconv.uint64pow10", Rows.laid_internal_strconv_uint64pow10), ("strconv.ErrRange", Rows.laid_strconv_ErrRange), ("strconv.ErrSyntax", Rows.laid_strconv_ErrSyntax)] w) false (World.doorLaid Tryd.prog 4000 os) #[.string ⟨#[]⟩, .slice none 0 0, .int .i64 0, .int .i64 0] 8 rfl (World.shaped_of_RefB (by kernel_rfl) (by kernel_rfl)) (by kernel_rfl) (by kernel_rfl) (by kernel_rfl) (door_met os _)) ?_
  intro W base args ds gs before hval0 hW _ _ hL _
  have hT : TabW tabs W := by
    intro q hq
    simp only [tabs, List.mem_cons, List.not_mem_nil, or_false] at hq
    rcases hq with rfl | rfl | rfl
    · have hL1 := laidMetH.filter (fun x => x.1 == "math/bits.deBruijn32tab") hL
      rw [show ([("math/bits.deBruijn32tab", Rows.laid_math_bits_deBruijn32tab), ("math/bits.deBruijn64tab", Rows.laid_math_bits_deBruijn64tab), ("internal/strconv.uint64pow10", Rows.laid_internal_strconv_uint64pow10), ("strconv.ErrRange", Rows.laid_strconv_ErrRange), ("strconv.ErrSyntax", Rows.laid_strconv_ErrSyntax)] : List (String × DataW Unit)).filter (fun x => x.1 == "math/bits.deBruijn32tab") = [("math/bits.deBruijn32tab", Rows.laid_math_bits_deBruijn32tab)] by kernel_rfl] at hL1
      exact tab_of_laid (t := 126) hL1 (by kernel_rfl) (e := 5) (k := .u8) (len := 32) (by kernel_rfl) (by kernel_rfl) (by kernel_rfl) (by kernel_rfl) (by kernel_rfl) (by kernel_rfl) [0, 1, 28, 2, 29, 14, 24, 3, 30, 22, 20, 15, 25, 17, 4, 8, 31, 27, 13, 23, 21, 19, 16, 7, 26, 12, 18, 6, 11, 5, 10, 9] rfl
    · have hL1 := laidMetH.filter (fun x => x.1 == "math/bits.deBruijn64tab") hL
      rw [show ([("math/bits.deBruijn32tab", Rows.laid_math_bits_deBruijn32tab), ("math/bits.deBruijn64tab", Rows.laid_math_bits_deBruijn64tab), ("internal/strconv.uint64pow10", Rows.laid_internal_strconv_uint64pow10), ("strconv.ErrRange", Rows.laid_strconv_ErrRange), ("strconv.ErrSyntax", Rows.laid_strconv_ErrSyntax)] : List (String × DataW Unit)).filter (fun x => x.1 == "math/bits.deBruijn64tab") = [("math/bits.deBruijn64tab", Rows.laid_math_bits_deBruijn64tab)] by kernel_rfl] at hL1
      exact tab_of_laid (t := 127) hL1 (by kernel_rfl) (e := 5) (k := .u8) (len := 64) (by kernel_rfl) (by kernel_rfl) (by kernel_rfl) (by kernel_rfl) (by kernel_rfl) (by kernel_rfl) [0, 1, 56, 2, 57, 49, 28, 3, 61, 58, 42, 50, 38, 29, 17, 4, 62, 47, 59, 36, 45, 43, 51, 22, 53, 39, 33, 30, 24, 18, 12, 5, 63, 55, 48, 27, 60, 41, 37, 16, 46, 35, 44, 21, 52, 32, 23, 11, 54, 26, 40, 15, 34, 20, 31, 10, 25, 14, 19, 9, 13, 8, 7, 6] rfl
    · have hL1 := laidMetH.filter (fun x => x.1 == "internal/strconv.uint64pow10") hL
      rw [show ([("math/bits.deBruijn32tab", Rows.laid_math_bits_deBruijn32tab), ("math/bits.deBruijn64tab", Rows.laid_math_bits_deBruijn64tab), ("internal/strconv.uint64pow10", Rows.laid_internal_strconv_uint64pow10), ("strconv.ErrRange", Rows.laid_strconv_ErrRange), ("strconv.ErrSyntax", Rows.laid_strconv_ErrSyntax)] : List (String × DataW Unit)).filter (fun x => x.1 == "internal/strconv.uint64pow10") = [("internal/strconv.uint64pow10", Rows.laid_internal_strconv_uint64pow10)] by kernel_rfl] at hL1
      exact tab_of_laid (t := 108) hL1 (by kernel_rfl) (e := 69) (k := .u64) (len := 20) (by kernel_rfl) (by kernel_rfl) (by kernel_rfl) (by kernel_rfl) (by kernel_rfl) (by kernel_rfl) [1, 10, 100, 1000, 10000, 100000, 1000000, 10000000, 100000000, 1000000000, 10000000000, 100000000000, 1000000000000, 10000000000000, 100000000000000, 1000000000000000, 10000000000000000, 100000000000000000, 1000000000000000000, 10000000000000000000] rfl
  have hval : ∀ (j : Nat) t v, Tryd.f4.params[j]? = some t → args[j]? = some v → Value.okWide Tryd.prog W .any base t v := hval0
  have hW' := hW
  obtain ⟨p, q, hA0, hV, rfl, hfz, hnd⟩ := hW
  have hA : DataW.TrodAll enc Tryd.prog W 0 (fun _ => true) true Tryd.f4.params.toList args.toList ds p := hA0
  rw [Tryd.params4] at hA hval
  obtain ⟨v0, vs0, d0, ds0, p0, q0, hargs, rfl, rfl, h0, r0⟩ := trodAll_cons hA
  obtain ⟨v1, vs1, d1, ds1, p1, q1, rfl, rfl, rfl, h1, r1⟩ := trodAll_cons r0
  obtain ⟨v2, vs2, d2, ds2, p2, q2, rfl, rfl, rfl, h2, r2⟩ := trodAll_cons r1
  obtain ⟨v3, vs3, d3, ds3, p3, q3, rfl, rfl, rfl, h3, r3⟩ := trodAll_cons r2
  obtain ⟨rfl, rfl, rfl⟩ := trodAll_nil r3
  obtain rfl : args = #[v0, v1, v2, v3] := by cases args; simp_all
  obtain ⟨rfl, rfl⟩ := trodVars_none hV
  have k0 := h0
  have lt0 : ∀ x ∈ p0, x.block < W.heap.size := by obtain ⟨m, hm⟩ := k0; exact DataW.trod_lt m _ _ _ hm
  obtain ⟨y0, R0, w0⟩ := handed 40 .str (by kernel_rfl) (hval 0 9 v0 rfl rfl) k0
  have k1 := h1
  have lt1 : ∀ x ∈ p1, x.block < W.heap.size := by obtain ⟨m, hm⟩ := k1; exact DataW.trod_lt m _ _ _ hm
  obtain ⟨y1, R1, w1⟩ := handed 40 (.slice (.int .i64)) (by kernel_rfl) (hval 1 25 v1 rfl rfl) k1
  have k2 := h2
  have lt2 : ∀ x ∈ p2, x.block < W.heap.size := by obtain ⟨m, hm⟩ := k2; exact DataW.trod_lt m _ _ _ hm
  obtain ⟨y2, R2, w2⟩ := handed 40 (.int .i64) (by kernel_rfl) (hval 2 3 v2 rfl rfl) k2
  have k3 := h3
  have lt3 : ∀ x ∈ p3, x.block < W.heap.size := by obtain ⟨m, hm⟩ := k3; exact DataW.trod_lt m _ _ _ hm
  obtain ⟨y3, R3, w3⟩ := handed 40 (.int .i64) (by kernel_rfl) (hval 3 3 v3 rfl rfl) k3
  have A4 := Args.nil W
  obtain ⟨m3, A3⟩ := A4.cons (t := (.int .i64)) (.inr ⟨rfl, plainForm (t := 3) rfl (hval 3 3 v3 rfl rfl)⟩) y3 R3
  obtain ⟨m2, A2⟩ := A3.cons (t := (.int .i64)) (.inr ⟨rfl, plainForm (t := 3) rfl (hval 2 3 v2 rfl rfl)⟩) y2 R2
  obtain ⟨m1, A1⟩ := A2.cons (t := (.slice (.int .i64))) (.inr ⟨rfl, plainForm (t := 25) rfl (hval 1 25 v1 rfl rfl)⟩) y1 R1
  obtain ⟨m0, A0⟩ := A1.cons (t := .str) (.inr ⟨rfl, plainForm (t := 9) rfl (hval 0 9 v0 rfl rfl)⟩) y0 R0
  refine (law_args (fi := iFbeltwaylaw13_NotationParses) okFbeltwaylaw13_NotationParses hT (r := (true : Bool)) (vals := #[v0, v1, v2, v3]) (w := W) A0 (law_NotationParses y0 w0 y1 w1 y2 (i64_of_wf w2) y3 (i64_of_wf w3)) (fun _ => rfl)).mono fun e W' ⟨he, bel⟩ => ?_
  subst he
  simp only [List.append_nil] at hW'
  exact ⟨_, rfl, _, _, _, [], _, [], hW', trodAll_mk1 (shut_bool Tryd.underlying4 _), (trodAll_cons_mk (Below.trod laidOut (by kernel_rfl) (of_decide_eq_true (by kernel_rfl)) k0 bel lt0) (trodAll_cons_mk (Below.trod laidOut (by kernel_rfl) (of_decide_eq_true (by kernel_rfl)) k1 bel lt1) (trodAll_cons_mk (Below.trod laidOut (by kernel_rfl) (of_decide_eq_true (by kernel_rfl)) k2 bel lt2) (trodAll_cons_mk (Below.trod laidOut (by kernel_rfl) (of_decide_eq_true (by kernel_rfl)) k3 bel lt3) trodAll_mk0)))), rfl, bel.frame _, fun h => by cases h⟩
theorem proved : Rows.NotationParsesSaid :=
  OpenClaim.holds_of_wide 4 Tryd.f4 rfl rfl rfl rfl rfl rfl rfl ⟨rfl, rfl, rfl, rfl, rfl⟩ rfl rfl rfl rfl rfl (by kernel_rfl) Tryd.func4 (by kernel_rfl)
    (of_decide_eq_true (by kernel_rfl)) (by unfold Func.isWrapper; first | (rw [if_pos (by decide +kernel)]; kernel_rfl) | (rw [if_neg (by decide +kernel)]; exact ⟨rfl, rfl⟩))
    (fun os started H enc _ => lifted os started H enc)
theorem card : Rows.NotationParsesCardSaid :=
  Claim7.holds_tied_plain_at .later [] [.data, .data, .data, .sentinel, .sentinel] true (true, "4ab9aac6453f0aa6691e537f30575f196dfdb283fa28ab8b3380c7877380275f") true proved (fun _ h => by cases h) (by kernel_rfl) (fun _ h => by cases h) notationParses_row_tie rfl ⟨rfl, rfl⟩ (by kernel_rfl) rfl
    (fun f fn hf hfn => by
      obtain rfl : f = 4 := Option.some.inj ((show Tryd.prog.funcNamed "beltway/beltwaylaw13.NotationParses" = some 4 by kernel_rfl).symm.trans hf) |>.symm
      obtain rfl : fn = Tryd.f4 := (Option.some.inj (Tryd.func4.symm.trans hfn)).symm
      exact ⟨by kernel_rfl, fun j t ht => by
        rw [Tryd.params4] at ht
        have hm : t ∈ [9, 25, 3, 3] := by simpa using Array.mem_of_getElem? ht
        have hall : ([9, 25, 3, 3].all fun u => !Tryd.prog.wantsStandIn u) = true := by kernel_rfl
        exact (show Tryd.prog.wantsStandIn t = false by simpa using List.all_eq_true.1 hall t hm)⟩)
    (by kernel_rfl)
end notationParses
end Go.Proofs.YtmcahbbelnjhiaaDoor
