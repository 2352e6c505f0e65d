/-
  What the functions of package walk and their references answer.
-/
import Derived.Test.YtjdlaikcdebofaaWlkA
set_option linter.unusedVariables false
namespace Go.Proofs.Ytjdlaikcdebofaa
open Go Go.V3

theorem walk_run {σ τ β : Type} {z W : Int} {ws : List (BitVec 64)} {l : List Int} {f : σ → Option (σ ⊕ β)} {en : Int → τ → σ} {bad good : τ → β} {step : Int → Int → τ → τ} (J : Nat → Int → τ → Prop)
    (hbad : ∀ (k : Nat) at' st, 0 ≤ at' → at' < W → (k : Int) ≤ at' → J k at' st → (∀ a o, adl z l at' = some a → hd (gl 0#64 ws a.toNat) = some o → W - at' < o.1 + o.2 + 1) → ∃ st', f (en at' st) = some (.inr (bad st')))
    (hgo : ∀ (k : Nat) at' st a o, 0 ≤ at' → at' < W → (k : Int) ≤ at' → J k at' st → adl z l at' = some a → hd (gl 0#64 ws a.toNat) = some o → o.1 + o.2 + 1 ≤ W - at' →
      f (en at' st) = some (.inl (en (at' + (1 + o.1 + o.2)) (step a (1 + o.1 + o.2) st))) ∧ J (k + 1) (at' + (1 + o.1 + o.2)) (step a (1 + o.1 + o.2) st))
    (he : ∀ (k : Nat) st, (k : Int) ≤ W → J k W st → f (en W st) = some (.inr (good st))) (hW : 0 ≤ W) {st : τ} (hJ : J 0 0 st) {Q : β → Prop}
    (hb : ob z W ws l W.toNat 0 = none → ∀ st', Q (bad st')) (hg : ∀ os, ob z W ws l W.toNat 0 = some os → Q (good (os.foldl (fun st o => step o.1 o.2 st) st))) :
    ∃ b, loopO f (en 0 st) = some b ∧ Q b := by
  obtain ⟨h1, h2⟩ := walk_loop J hbad hgo he W.toNat 0 0 st (by omega) hW (by omega) (by omega) hJ
  cases h : ob z W ws l W.toNat 0 with
  | none =>
    obtain ⟨st', h3⟩ := h1 h
    exact ⟨_, h3, hb h st'⟩
  | some q =>
    obtain ⟨h3, -⟩ := h2 q h
    exact ⟨_, h3, hg q h⟩
theorem of_ex {α : Type} {x : Option α} {y : α} (h : ∃ b, x = some b ∧ b = y) : x = some y := by
  obtain ⟨b, h1, h2⟩ := h
  rw [h1, h2]
/-- The objects of an increment, if it is not damaged. -/
def obs (s : Sp) (i : Inc) (l : List Int) : Option (List (Int × Int)) := ob (sz s.1) i.2.2.2.2 s.2.1 l i.2.2.2.2.toNat 0
theorem ob_mem {z W : Int} {ws : List (BitVec 64)} {l : List Int} : ∀ {n : Nat} {at' : Int} {os : List (Int × Int)}, 0 ≤ at' → at' ≤ W → ob z W ws l n at' = some os →
    (∀ o ∈ os, ∃ p q, at' ≤ p ∧ adl z l p = some o.1 ∧ hd (gl 0#64 ws o.1.toNat) = some q ∧ o.2 = 1 + q.1 + q.2 ∧ p + o.2 ≤ W) ∧ at' + (os.map (·.2)).sum = W ∧ at' + os.length ≤ W
  | 0, at', os, h0, h1, h => by
    unfold ob at h
    split at h
    · cases h
    · simp only [Option.some.injEq] at h; subst h; simp; omega
  | n + 1, at', os, h0, h1, h => by
    unfold ob at h
    split at h
    rotate_left
    · simp only [Option.some.injEq] at h; subst h; simp; omega
    split at h
    · cases h
    rename_i a ha
    split at h
    · cases h
    rename_i o ho
    have hr := hd_rng ho
    split at h
    · cases h
    cases hq : ob z W ws l n (at' + (1 + o.1 + o.2)) with
    | none => rw [hq] at h; cases h
    | some q =>
      rw [hq] at h
      simp only [Option.map_some, Option.some.injEq] at h
      subst h
      obtain ⟨i1, i2, i3⟩ := ob_mem (by omega) (by omega) hq
      refine ⟨fun x hx => ?_, by simp only [List.map_cons, List.sum_cons]; omega, by simp only [List.length_cons]; omega⟩
      rcases List.mem_cons.1 hx with rfl | hx
      · exact ⟨at', o, Int.le_refl _, ha, ho, rfl, by simp only; omega⟩
      · obtain ⟨p, q', p1, p2, p3, p4, p5⟩ := i1 x hx
        exact ⟨p, q', by omega, p2, p3, p4, p5⟩
theorem obs_len {s : Sp} (h : VS s) {i : Inc} (hf : FitS s i) {l : List Int} {os : List (Int × Int)} (ho : obs s i l = some os) : os.length ≤ 16384 ∧ (os.map (·.2)).sum = i.2.2.2.2 := by
  have hwl := VS.wlen h
  obtain ⟨⟨_, _, _, _, w0, w1⟩, _⟩ := id hf
  obtain ⟨-, h2, h3⟩ := ob_mem (by omega) w0 ho
  omega
theorem fBase_fit {s : Sp} (h : VS s) {i : Inc} (hf : FitS s i) (hw : ¬ i.2.2.2.2 = 0) : Fframe_Base s i.2.2.1 = some (i.2.2.1 * sz s.1, 0) := by
  obtain ⟨_, hf2⟩ := id hf
  rcases hf2 with ⟨hw', _⟩ | ⟨_, ⟨f0, f1⟩, _⟩
  · omega
  exact fBase_ok h f0 f1
theorem obs_zero {s : Sp} {i : Inc} (hw : i.2.2.2.2 = 0) (l : List Int) : obs s i l = some [] := by
  unfold obs
  rw [hw]
  rfl
theorem fold_app (os : List (Int × Int)) (st : List Int) : os.foldl (fun st o => st ++ [o.1]) st = st ++ os.map (·.1) := by
  induction os generalizing st with
  | nil => simp
  | cons o r ih => rw [List.foldl_cons, ih, List.map_cons, List.append_assoc]; rfl
theorem fold_cnt (os : List (Int × Int)) (n w : Int) : os.foldl (fun st o => (st.1 + 1, st.2 + o.2)) (n, w) = (n + os.length, w + (os.map (·.2)).sum) := by
  induction os generalizing n w with
  | nil => simp
  | cons o r ih => rw [List.foldl_cons, ih, List.map_cons, List.sum_cons, List.length_cons]; refine Prod.ext ?_ ?_ <;> simp only <;> omega
theorem fold_has (os : List (Int × Int)) (b : Bool) (t : Int) : os.foldl (fun st o => ((if st.1 = true then true else decide (o.1 = st.2)), st.2)) (b, t) = ((b || decide (t ∈ os.map (·.1))), t) := by
  induction os generalizing b with
  | nil => simp
  | cons o r ih =>
    rw [List.foldl_cons, ih]
    refine Prod.ext ?_ rfl
    simp only
    cases b with
    | true => simp
    | false =>
      rw [Bool.eq_iff_iff]
      simp only [Bool.false_eq_true, if_false, Bool.or_eq_true, decide_eq_true_eq, Bool.false_or, List.map_cons, List.mem_cons]
      constructor
      · rintro (h | h)
        · exact .inl h.symm
        · exact .inr h
      · rintro (h | h)
        · exact .inl h.symm
        · exact .inr h

theorem pObjects_ok {s : Sp} (h : VS s) {i : Inc} (hf : FitS s i) {l : List Int} (hl : Has s i l) :
    Fwalk_Objects s i = some (match obs s i l with | none => ([], 12) | some os => (os.map (·.1), 0)) := by
  have hwl := VS.wlen h
  obtain ⟨⟨_, _, _, _, w0, w1⟩, _⟩ := id hf
  obtain ⟨b, hb, hb'⟩ := bValid_ok h.stI i
  have hbt : b = true := hb'.2 ⟨h, hf⟩
  subst hbt
  have key : ∃ r, Fwalk_each_walk_Objects_1 s i [] = some r ∧ (obs s i l = none → r.1 = 12) ∧ ∀ os, obs s i l = some os → r = (0, os.map (·.1)) := by
    unfold Fwalk_each_walk_Objects_1
    rw [hb, Option.bind_some, if_neg (by simp)]
    by_cases hw : i.2.2.2.2 = 0
    · rw [if_pos hw, obs_zero hw]
      exact ⟨_, rfl, fun h => (by cases h), fun os h => (by cases h; rfl)⟩
    rw [if_neg hw, fBase_fit h hf hw, Option.bind_some]
    refine walk_run (τ := List Int) (β := Int × List Int) (z := sz s.1) (W := i.2.2.2.2) (ws := s.2.1) (l := l) (en := fun a st => (a, st)) (bad := fun st => (12, st)) (good := fun st => (0, st)) (step := fun a _ st => st ++ [a]) (fun k _ st => st.length = k) ?_ ?_ ?_ w0 (st := []) rfl ?_ ?_
    · intro k at' st h0 h1 hk hJ hno
      obtain ⟨a, ha⟩ := at_ok h hf hl h0 h1
      have a0 := ha.a0
      have a1 := ha.a1
      obtain ⟨x, hx, hr⟩ := pDec_ok (gl 0#64 s.2.1 a.toNat)
      simp only
      rw [if_pos h1, ha.pstep, Option.bind_some, if_neg (by simp), if_pos ⟨a0, a1⟩, hx, Option.bind_some]
      rcases hr with ⟨o, g1, rfl⟩ | ⟨g1, g2⟩
      · have hr := hd_rng g1
        have := hno a o ha.adr g1
        rw [if_neg (by simp), if_neg (by simp)]
        simp only
        rw [w64_id (e := (1 : Int) + o.1) (by omega) (by omega), w64_id (e := (1 : Int) + o.1 + o.2) (by omega) (by omega), w64_id (e := i.2.2.2.2 - at') (by omega) (by omega), if_pos (by omega)]
        exact ⟨_, rfl⟩
      · rcases g2 with g2 | ⟨g2, g3⟩
        · rw [if_pos g2]; exact ⟨_, rfl⟩
        · rw [if_neg (not_not_intro g2), if_pos g3]; exact ⟨_, rfl⟩
    · intro k at' st a o h0 h1 hk hJ had ho hfit
      obtain ⟨a', ha⟩ := at_ok h hf hl h0 h1
      obtain rfl : a = a' := by have := ha.adr; rw [had] at this; simpa using this
      have a0 := ha.a0
      have a1 := ha.a1
      have hr := hd_rng ho
      obtain ⟨x, hx, hd'⟩ := pDec_ok (gl 0#64 s.2.1 a.toNat)
      simp only
      rw [if_pos h1, ha.pstep, Option.bind_some, if_neg (by simp), if_pos ⟨a0, a1⟩, hx, Option.bind_some]
      rcases hd' with ⟨o', g1, rfl⟩ | ⟨g1, g2⟩
      rotate_left
      · rw [ho] at g1; cases g1
      obtain rfl : o = o' := by rw [ho] at g1; simpa using g1
      rw [if_neg (by simp), if_neg (by simp)]
      simp only
      rw [w64_id (e := (1 : Int) + o.1) (by omega) (by omega), w64_id (e := (1 : Int) + o.1 + o.2) (by omega) (by omega), w64_id (e := i.2.2.2.2 - at') (by omega) (by omega), if_neg (by omega)]
      unfold Fwalk_Objects_1
      rw [if_pos (by simp only [List.length_singleton]; omega), Option.bind_some, if_neg (by simp), w64_id (by omega) (by omega)]
      exact ⟨rfl, by simp [hJ]⟩
    · intro k st hk hJ
      simp only
      rw [if_neg (by omega)]
    · exact fun hn st' => ⟨fun _ => rfl, fun os hs => by rw [show obs s i l = none from hn] at hs; cases hs⟩
    · intro os hs
      refine ⟨fun hn => ?_, fun os' hs' => ?_⟩
      · rw [show obs s i l = some os from hs] at hn; cases hn
      · obtain rfl : os = os' := by rw [show obs s i l = some os from hs] at hs'; simpa using hs'
        rw [fold_app]; rfl
  obtain ⟨r, k1, k2, k3⟩ := key
  unfold Fwalk_Objects
  rw [k1, Option.bind_some]
  cases ho : obs s i l with
  | none => rw [if_pos (by rw [k2 ho]; decide), k2 ho]
  | some os => rw [k3 os ho]; rfl
theorem pHolds_ok {s : Sp} (h : VS s) {i : Inc} (hf : FitS s i) {l : List Int} (hl : Has s i l) (t : Int) :
    Fwalk_Holds s i t = some (match obs s i l with | none => false | some os => decide (t ∈ os.map (·.1))) := by
  have hwl := VS.wlen h
  obtain ⟨⟨_, _, _, _, w0, w1⟩, _⟩ := id hf
  obtain ⟨b, hb, hb'⟩ := bValid_ok h.stI i
  have hbt : b = true := hb'.2 ⟨h, hf⟩
  subst hbt
  have key : ∃ r, Fwalk_each_walk_Holds_1 s i false t = some r ∧ (obs s i l = none → r.1 = 12) ∧ ∀ os, obs s i l = some os → r = (0, decide (t ∈ os.map (·.1)), t) := by
    unfold Fwalk_each_walk_Holds_1
    rw [hb, Option.bind_some, if_neg (by simp)]
    by_cases hw : i.2.2.2.2 = 0
    · rw [if_pos hw, obs_zero hw]
      exact ⟨_, rfl, fun h => (by cases h), fun os h => (by cases h; simp)⟩
    rw [if_neg hw, fBase_fit h hf hw, Option.bind_some]
    refine walk_run (τ := Bool × Int) (β := Int × Bool × Int) (z := sz s.1) (W := i.2.2.2.2) (ws := s.2.1) (l := l) (en := fun a st => (a, st.1, st.2)) (bad := fun st => (12, st.1, st.2)) (good := fun st => (0, st.1, st.2)) (step := fun a _ st => ((if st.1 = true then true else decide (a = st.2)), st.2)) (fun _ _ st => True) ?_ ?_ ?_ w0 (st := (false, t)) trivial ?_ ?_
    · intro k at' st h0 h1 hk hJ hno
      obtain ⟨a, ha⟩ := at_ok h hf hl h0 h1
      have a0 := ha.a0
      have a1 := ha.a1
      obtain ⟨x, hx, hr⟩ := pDec_ok (gl 0#64 s.2.1 a.toNat)
      simp only
      rw [if_pos h1, ha.pstep, Option.bind_some, if_neg (by simp), if_pos ⟨a0, a1⟩, hx, Option.bind_some]
      rcases hr with ⟨o, g1, rfl⟩ | ⟨g1, g2⟩
      · have hr := hd_rng g1
        have := hno a o ha.adr g1
        rw [if_neg (by simp), if_neg (by simp)]
        simp only
        rw [w64_id (e := (1 : Int) + o.1) (by omega) (by omega), w64_id (e := (1 : Int) + o.1 + o.2) (by omega) (by omega), w64_id (e := i.2.2.2.2 - at') (by omega) (by omega), if_pos (by omega)]
        exact ⟨st, rfl⟩
      · rcases g2 with g2 | ⟨g2, g3⟩
        · rw [if_pos g2]; exact ⟨st, rfl⟩
        · rw [if_neg (not_not_intro g2), if_pos g3]; exact ⟨st, rfl⟩
    · intro k at' st a o h0 h1 hk hJ had ho hfit
      obtain ⟨a', ha⟩ := at_ok h hf hl h0 h1
      obtain rfl : a = a' := by have := ha.adr; rw [had] at this; simpa using this
      have a0 := ha.a0
      have a1 := ha.a1
      have hr := hd_rng ho
      obtain ⟨x, hx, hd'⟩ := pDec_ok (gl 0#64 s.2.1 a.toNat)
      simp only
      rw [if_pos h1, ha.pstep, Option.bind_some, if_neg (by simp), if_pos ⟨a0, a1⟩, hx, Option.bind_some]
      rcases hd' with ⟨o', g1, rfl⟩ | ⟨g1, g2⟩
      rotate_left
      · rw [ho] at g1; cases g1
      obtain rfl : o = o' := by rw [ho] at g1; simpa using g1
      rw [if_neg (by simp), if_neg (by simp)]
      simp only
      rw [w64_id (e := (1 : Int) + o.1) (by omega) (by omega), w64_id (e := (1 : Int) + o.1 + o.2) (by omega) (by omega), w64_id (e := i.2.2.2.2 - at') (by omega) (by omega), if_neg (by omega)]
      have hc : Fwalk_Holds_1 a (1 + o.1 + o.2) st.1 st.2 = some (true, (if st.1 = true then true else decide (a = st.2)), st.2) := by
        unfold Fwalk_Holds_1
        split <;> rfl
      rw [hc, Option.bind_some, if_neg (by simp), w64_id (by omega) (by omega)]
      exact ⟨rfl, trivial⟩
    · intro k st hk hJ
      simp only
      rw [if_neg (by omega)]
    · exact fun hn st' => ⟨fun _ => rfl, fun os hs => by rw [show obs s i l = none from hn] at hs; cases hs⟩
    · intro os hs
      refine ⟨fun hn => ?_, fun os' hs' => ?_⟩
      · rw [show obs s i l = some os from hs] at hn; cases hn
      · obtain rfl : os = os' := by rw [show obs s i l = some os from hs] at hs'; simpa using hs'
        rw [fold_has, Bool.false_or]
  obtain ⟨r, k1, k2, k3⟩ := key
  unfold Fwalk_Holds
  rw [k1, Option.bind_some]
  cases ho : obs s i l with
  | none => rw [if_neg (by rw [k2 ho]; decide)]
  | some os => rw [k3 os ho]; rfl
theorem pLive_ok {s : Sp} (h : VS s) {i : Inc} (hf : FitS s i) {l : List Int} (hl : Has s i l) :
    Fwalk_Live s i = some (match obs s i l with | none => (0, 0, 12) | some os => ((os.length : Int), i.2.2.2.2, 0)) := by
  have hwl := VS.wlen h
  obtain ⟨⟨_, _, _, _, w0, w1⟩, _⟩ := id hf
  obtain ⟨b, hb, hb'⟩ := bValid_ok h.stI i
  have hbt : b = true := hb'.2 ⟨h, hf⟩
  subst hbt
  have key : ∃ r, Fwalk_each_walk_Live_1 s i 0 0 = some r ∧ (obs s i l = none → r.1 = 12) ∧ ∀ os, obs s i l = some os → r = (0, (os.length : Int), i.2.2.2.2) := by
    unfold Fwalk_each_walk_Live_1
    rw [hb, Option.bind_some, if_neg (by simp)]
    by_cases hw : i.2.2.2.2 = 0
    · rw [if_pos hw, obs_zero hw, hw]
      exact ⟨_, rfl, fun h => (by cases h), fun os h => (by cases h; rfl)⟩
    rw [if_neg hw, fBase_fit h hf hw, Option.bind_some]
    refine walk_run (τ := Int × Int) (β := Int × Int × Int) (z := sz s.1) (W := i.2.2.2.2) (ws := s.2.1) (l := l) (en := fun a st => (a, st.1, st.2)) (bad := fun st => (12, st.1, st.2)) (good := fun st => (0, st.1, st.2)) (step := fun _ n st => (st.1 + 1, st.2 + n)) (fun k p st => st.1 = (k : Int) ∧ st.2 = p) ?_ ?_ ?_ w0 (st := (0, 0)) ⟨rfl, rfl⟩ ?_ ?_
    · intro k at' st h0 h1 hk hJ hno
      obtain ⟨a, ha⟩ := at_ok h hf hl h0 h1
      have a0 := ha.a0
      have a1 := ha.a1
      obtain ⟨x, hx, hr⟩ := pDec_ok (gl 0#64 s.2.1 a.toNat)
      simp only
      rw [if_pos h1, ha.pstep, Option.bind_some, if_neg (by simp), if_pos ⟨a0, a1⟩, hx, Option.bind_some]
      rcases hr with ⟨o, g1, rfl⟩ | ⟨g1, g2⟩
      · have hr := hd_rng g1
        have := hno a o ha.adr g1
        rw [if_neg (by simp), if_neg (by simp)]
        simp only
        rw [w64_id (e := (1 : Int) + o.1) (by omega) (by omega), w64_id (e := (1 : Int) + o.1 + o.2) (by omega) (by omega), w64_id (e := i.2.2.2.2 - at') (by omega) (by omega), if_pos (by omega)]
        exact ⟨st, rfl⟩
      · rcases g2 with g2 | ⟨g2, g3⟩
        · rw [if_pos g2]; exact ⟨st, rfl⟩
        · rw [if_neg (not_not_intro g2), if_pos g3]; exact ⟨st, rfl⟩
    · intro k at' st a o h0 h1 hk hJ had ho hfit
      obtain ⟨a', ha⟩ := at_ok h hf hl h0 h1
      obtain rfl : a = a' := by have := ha.adr; rw [had] at this; simpa using this
      have a0 := ha.a0
      have a1 := ha.a1
      have hr := hd_rng ho
      obtain ⟨x, hx, hd'⟩ := pDec_ok (gl 0#64 s.2.1 a.toNat)
      simp only
      rw [if_pos h1, ha.pstep, Option.bind_some, if_neg (by simp), if_pos ⟨a0, a1⟩, hx, Option.bind_some]
      rcases hd' with ⟨o', g1, rfl⟩ | ⟨g1, g2⟩
      rotate_left
      · rw [ho] at g1; cases g1
      obtain rfl : o = o' := by rw [ho] at g1; simpa using g1
      rw [if_neg (by simp), if_neg (by simp)]
      simp only
      rw [w64_id (e := (1 : Int) + o.1) (by omega) (by omega), w64_id (e := (1 : Int) + o.1 + o.2) (by omega) (by omega), w64_id (e := i.2.2.2.2 - at') (by omega) (by omega), if_neg (by omega)]
      unfold Fwalk_Live_1
      rw [Option.bind_some, if_neg (by simp), w64_id (e := at' + (1 + o.1 + o.2)) (by omega) (by omega)]
      simp only
      rw [w64_id (e := st.1 + 1) (by omega) (by omega), w64_id (e := st.2 + (1 + o.1 + o.2)) (by omega) (by omega)]
      exact ⟨rfl, by omega, by omega⟩
    · intro k st hk hJ
      simp only
      rw [if_neg (by omega)]
    · exact fun hn st' => ⟨fun _ => rfl, fun os hs => by rw [show obs s i l = none from hn] at hs; cases hs⟩
    · intro os hs
      refine ⟨fun hn => ?_, fun os' hs' => ?_⟩
      · rw [show obs s i l = some os from hs] at hn; cases hn
      · obtain rfl : os = os' := by rw [show obs s i l = some os from hs] at hs'; simpa using hs'
        rw [fold_cnt, (obs_len h hf hs).2, Int.zero_add, Int.zero_add]
  obtain ⟨r, k1, k2, k3⟩ := key
  unfold Fwalk_Live
  rw [k1, Option.bind_some]
  cases ho : obs s i l with
  | none => rw [if_pos (by rw [k2 ho]; decide), k2 ho]
  | some os => rw [k3 os ho]; rfl
theorem rAll_ok {s : Sp} (h : VS s) {i : Inc} (hf : FitS s i) {l : List Int} (hl : Has s i l) :
    Fbeltwayref10_All s i = some (match obs s i l with | none => ([], 12) | some os => (os.map (·.1), 0)) := by
  have hwl := VS.wlen h
  have hn := h.n.2
  obtain ⟨⟨_, _, _, _, w0, w1⟩, hf2⟩ := id hf
  have hF : i.2.2.2.2 ≠ 0 → 0 ≤ i.2.2.1 ∧ i.2.2.1 < s.2.2.length := fun hw => by
    rcases hf2 with ⟨hw', _⟩ | ⟨_, f, _⟩
    · omega
    · exact f
  have hbase : i.2.2.2.2 ≠ 0 → w64 (i.2.2.1 * 2 ^ min (BitVec.ofInt 64 s.1).toNat 64) = i.2.2.1 * sz s.1 := fun hw => by
    obtain ⟨f0, f1⟩ := hF hw
    have := mul_sz_le h.sh f0 (show i.2.2.1 ≤ 64 by omega)
    rw [pow_sz h.sh, w64_id (by omega) (by omega)]
  unfold Fbeltwayref10_All
  refine of_ex (walk_run (τ := List Int) (β := List Int × Int) (z := sz s.1) (W := i.2.2.2.2) (ws := s.2.1) (l := l) (en := fun a st => (st, a)) (bad := fun st => ([], 12)) (good := fun st => (st, 0)) (step := fun a _ st => st ++ [a]) (fun k _ st => st.length = k) ?_ ?_ ?_ w0 (st := []) rfl ?_ ?_)
  · intro k at' st h0 h1 hk hJ hno
    obtain ⟨a, ha⟩ := at_ok h hf hl h0 h1
    simp only
    rw [if_pos h1, if_pos trivial, hbase (by omega), ha.rstep, Option.bind_some]
    rcases rLook_ok ha with ⟨g1, x, g2, g3⟩ | ⟨o, g1, ⟨y, g2, g3⟩ | ⟨g2, g3⟩⟩
    · rw [g2, Option.bind_some, if_pos g3]; exact ⟨st, rfl⟩
    · have hr := hd_rng g1
      have := hno a o ha.adr g1
      rw [g3, Option.bind_some, if_neg (by simp)]
      simp only
      rw [w64_id (e := at' + 1) (by omega) (by omega), w64_id (e := at' + 1 + o.1) (by omega) (by omega), w64_id (e := at' + 1 + o.1 + o.2) (by omega) (by omega), if_pos (by omega)]
      exact ⟨st, rfl⟩
    · rw [g3, Option.bind_some, if_pos (by simp)]; exact ⟨st, rfl⟩
  · intro k at' st a o h0 h1 hk hJ had ho hfit
    obtain ⟨a', ha⟩ := at_ok h hf hl h0 h1
    obtain rfl : a = a' := by have := ha.adr; rw [had] at this; simpa using this
    have hr := hd_rng ho
    simp only
    rw [if_pos h1, if_pos trivial, hbase (by omega), ha.rstep, Option.bind_some]
    rcases rLook_ok ha with ⟨g1, x, g2, g3⟩ | ⟨o', g1, ⟨y, g2, g3⟩ | ⟨g2, g3⟩⟩
    · rw [ho] at g1; cases g1
    · obtain rfl : o = o' := by rw [ho] at g1; simpa using g1
      rw [g3, Option.bind_some, if_neg (by simp)]
      simp only
      rw [w64_id (e := at' + 1) (by omega) (by omega), w64_id (e := at' + 1 + o.1) (by omega) (by omega), w64_id (e := at' + 1 + o.1 + o.2) (by omega) (by omega), if_neg (by omega),
        if_pos (by simp only [List.length_singleton]; omega), w64_id (e := (1 : Int) + o.1) (by omega) (by omega), w64_id (e := (1 : Int) + o.1 + o.2) (by omega) (by omega), w64_id (e := at' + (1 + o.1 + o.2)) (by omega) (by omega)]
      exact ⟨rfl, by simp [hJ]⟩
    · obtain rfl : o = o' := by rw [ho] at g1; simpa using g1
      obtain ⟨a2, ha2⟩ := at_ok h hf hl (at' := at' + (o.1 + o.2)) (by omega) (by omega)
      rw [ha2.adr] at g2; cases g2
  · intro k st hk hJ
    simp only
    rw [if_neg (by omega)]
  · intro hn st'
    rw [show obs s i l = none from hn]
  · intro os hs
    rw [show obs s i l = some os from hs, fold_app]
    rfl
theorem rObjects_ok {s : Sp} (h : VS s) {i : Inc} (hf : FitS s i) {l : List Int} (hl : Has s i l) :
    Fbeltwayref10_Objects s i = some (match obs s i l with | none => ([], 12) | some os => (os.map (·.1), 0)) := by
  obtain ⟨b, hb, hb'⟩ := Fits_ok h i
  have hbt : b = true := hb'.2 hf
  subst hbt
  unfold Fbeltwayref10_Objects
  rw [VS.valid h, Option.bind_some, if_neg (by simp), hb, Option.bind_some, if_neg (by simp), rAll_ok h hf hl, Option.bind_some]
theorem rHolds_ok {s : Sp} (h : VS s) {i : Inc} (hf : FitS s i) {l : List Int} (hl : Has s i l) (t : Int) :
    Fbeltwayref10_Holds s i t = some (match obs s i l with | none => false | some os => decide (t ∈ os.map (·.1))) := by
  unfold Fbeltwayref10_Holds
  rw [rObjects_ok h hf hl, Option.bind_some]
  have find : ∀ xs : List Int, xs.length ≤ 16384 → loopO (σ := Int) (β := Bool) (fun s1 => if s1 < (xs.length : Int) then if 0 ≤ s1 ∧ s1 < (xs.length : Int) then if (gl (0 : Int) xs s1.toNat) = t then some (Sum.inr true) else some (Sum.inl (w64 (s1 + 1))) else none else some (Sum.inr false)) 0 = some (decide (t ∈ xs)) := by
    intro xs hx
    refine (loopO_up (fun k (st : Int) => st = (k : Int) ∧ t ∉ xs.take k) (fun r => r = decide (t ∈ xs)) xs.length ?_ ?_ (s := (0 : Int)) ⟨rfl, by simp⟩).elim fun r hr => by rw [hr.1, hr.2]
    · rintro k st hk ⟨rfl, ht⟩
      simp only [Int.toNat_natCast]
      rw [if_pos (by omega), if_pos (by omega), w64_id (by omega) (by omega)]
      by_cases he : gl (0 : Int) xs k = t
      · rw [if_pos he]
        exact .inr ⟨_, rfl, (decide_eq_true (he ▸ gl_mem hk)).symm⟩
      · rw [if_neg he]
        refine .inl ⟨_, rfl, by omega, ?_⟩
        rw [List.take_add_one, gl_get? (d := (0 : Int)) hk]
        simp only [Option.toList_some, List.mem_append, List.mem_singleton, not_or]
        exact ⟨ht, fun e => he e.symm⟩
    · rintro st ⟨rfl, ht⟩
      rw [if_neg (by omega)]
      rw [List.take_length] at ht
      exact ⟨_, rfl, (decide_eq_false ht).symm⟩
  cases ho : obs s i l with
  | none => exact (find [] (by simp)).trans (by simp)
  | some os => exact find (os.map (·.1)) (by rw [List.length_map]; exact (obs_len h hf ho).1)
theorem look_mem {s : Sp} (h : VS s) {i : Inc} (hf : FitS s i) {l : List Int} (hl : Has s i l) {os : List (Int × Int)} (ho : obs s i l = some os) {o : Int × Int} (hm : o ∈ os) :
    ∃ q : Int × Int, Fbeltwayref08_Look s o.1 = some (q.1, q.2, 0) ∧ o.2 = 1 + q.1 + q.2 ∧ (0 ≤ q.1 ∧ q.1 ≤ 15) ∧ (0 ≤ q.2 ∧ q.2 ≤ 32) ∧ 0 ≤ o.1 ∧ o.1 < s.2.1.length := by
  obtain ⟨⟨_, _, _, _, w0, w1⟩, _⟩ := id hf
  obtain ⟨p, q, p0, p1, p2, p3, p4⟩ := (ob_mem (by omega) w0 ho).1 o hm
  have hr := hd_rng p2
  obtain ⟨a, ha⟩ := at_ok h hf hl p0 (by omega)
  obtain rfl : o.1 = a := by have := ha.adr; rw [p1] at this; simpa using this
  refine ⟨q, ?_, p3, hr.1, hr.2, ha.a0, ha.a1⟩
  rcases rLook_ok ha with ⟨g1, x, g2, g3⟩ | ⟨o', g1, ⟨y, g2, g3⟩ | ⟨g2, g3⟩⟩
  · rw [p2] at g1; cases g1
  · obtain rfl : q = o' := by rw [p2] at g1; simpa using g1
    exact g3
  · obtain rfl : q = o' := by rw [p2] at g1; simpa using g1
    obtain ⟨a2, ha2⟩ := at_ok h hf hl (at' := p + (q.1 + q.2)) (by omega) (by omega)
    rw [ha2.adr] at g2; cases g2
theorem rLive_ok {s : Sp} (h : VS s) {i : Inc} (hf : FitS s i) {l : List Int} (hl : Has s i l) :
    Fbeltwayref10_Live s i = some (match obs s i l with | none => (0, 0, 12) | some os => ((os.length : Int), i.2.2.2.2, 0)) := by
  unfold Fbeltwayref10_Live
  rw [rObjects_ok h hf hl, Option.bind_some]
  cases ho : obs s i l with
  | none => rw [if_pos (by simp)]
  | some os =>
    obtain ⟨n1, n2⟩ := obs_len h hf ho
    rw [if_neg (by simp)]
    simp only [List.length_map]
    refine (loopO_up (β := Int × Int × Int) (fun k (st : Int × Int) => st.1 = ((os.take k).map (·.2)).sum ∧ st.2 = (k : Int) ∧ st.1 ≤ k * 48 ∧ 0 ≤ st.1) (fun r => r = ((os.length : Int), i.2.2.2.2, 0)) os.length ?_ ?_ (s := ((0 : Int), (0 : Int))) ⟨by simp, rfl, by simp, by simp⟩).elim fun r hr => by rw [hr.1, hr.2]
    · rintro k st hk ⟨e1, e2, e3, e4⟩
      have hg : gl (0 : Int) (os.map (·.1)) k = os[k].1 := by
        rw [gl_lt (by rw [List.length_map]; exact hk), List.getElem_map]
      obtain ⟨q, l1, l2, l3, l4, -⟩ := look_mem h hf hl ho (List.getElem_mem hk)
      rw [e2, if_pos (by omega), if_pos (by omega), Int.toNat_natCast, hg, l1, Option.bind_some]
      simp only
      rw [w64_id (e := (1 : Int) + q.1) (by omega) (by omega), w64_id (e := (1 : Int) + q.1 + q.2) (by omega) (by omega), w64_id (e := st.1 + (1 + q.1 + q.2)) (by omega) (by omega), w64_id (e := (k : Int) + 1) (by omega) (by omega)]
      refine .inl ⟨_, rfl, ?_, by simp only; omega, by simp only; omega, by simp only; omega⟩
      rw [List.take_add_one, List.getElem?_eq_getElem hk]
      simp only [Option.toList_some, List.map_append, List.map_cons, List.map_nil, List.sum_append, List.sum_cons, List.sum_nil]
      omega
    · rintro st ⟨e1, e2, e3, e4⟩
      rw [List.take_length] at e1
      rw [e2, if_neg (by omega)]
      refine ⟨_, rfl, ?_⟩
      rw [e1, n2]

/-- Program and reference answer alike, whatever the increment is. -/
theorem walk_eq {s : Sp} (hI : StI s) (i : Inc) :
    (∃ v, Fwalk_Objects s i = some v ∧ Fbeltwayref10_Objects s i = some v ∧ v.1.length ≤ 16384) ∧
    (∃ v, Fwalk_Live s i = some v ∧ Fbeltwayref10_Live s i = some v) ∧
    ∀ t, ∃ b, Fwalk_Holds s i t = some b ∧ Fbeltwayref10_Holds s i t = some b := by
  by_cases hv : VS s ∧ FitS s i
  · obtain ⟨h, hf⟩ := hv
    obtain ⟨l, hl, -⟩ := hf.has h
    refine ⟨⟨_, pObjects_ok h hf hl, rObjects_ok h hf hl, ?_⟩, ⟨_, pLive_ok h hf hl, rLive_ok h hf hl⟩, fun t => ⟨_, pHolds_ok h hf hl t, rHolds_ok h hf hl t⟩⟩
    cases ho : obs s i l with
    | none => simp
    | some os => simp only [List.length_map]; exact (obs_len h hf ho).1
  · obtain ⟨b, hb, hb'⟩ := bValid_ok hI i
    have hbf : b = false := by
      cases b with
      | false => rfl
      | true => exact absurd (hb'.1 rfl) hv
    subst hbf
    have ro : Fbeltwayref10_Objects s i = some ([], 1) := by
      obtain ⟨c, hc, hc'⟩ := rValid_ok s
      unfold Fbeltwayref10_Objects
      rw [hc, Option.bind_some]
      cases c with
      | false => rw [if_pos (by simp)]
      | true =>
        have h := hc'.1 rfl
        obtain ⟨d, hd1, hd2⟩ := Fits_ok h i
        have hdf : d = false := by
          cases d with
          | false => rfl
          | true => exact absurd ⟨h, hd2.1 rfl⟩ hv
        subst hdf
        rw [if_neg (by simp), hd1, Option.bind_some, if_pos (by simp)]
    have rl : ∀ t : Int, loopO (σ := Int) (β := Bool) (fun s1 => if s1 < ((([] : List Int).length : Nat) : Int) then if 0 ≤ s1 ∧ s1 < ((([] : List Int).length : Nat) : Int) then if (gl (0 : Int) ([] : List Int) s1.toNat) = t then some (Sum.inr true) else some (Sum.inl (w64 (s1 + 1))) else none else some (Sum.inr false)) 0 = some false := by
      intro t
      rw [loopO_eq, if_neg (by simp)]
    refine ⟨⟨_, ?_, ro, by simp⟩, ⟨(0, 0, 1), ?_, ?_⟩, fun t => ⟨false, ?_, ?_⟩⟩
    · unfold Fwalk_Objects Fwalk_each_walk_Objects_1
      rw [hb, Option.bind_some, if_pos (by simp), Option.bind_some, if_pos (by simp)]
    · unfold Fwalk_Live Fwalk_each_walk_Live_1
      rw [hb, Option.bind_some, if_pos (by simp), Option.bind_some, if_pos (by simp)]
    · unfold Fbeltwayref10_Live
      rw [ro, Option.bind_some, if_pos (by simp)]
    · unfold Fwalk_Holds Fwalk_each_walk_Holds_1
      rw [hb, Option.bind_some, if_pos (by simp), Option.bind_some, if_neg (by simp)]
    · unfold Fbeltwayref10_Holds
      rw [ro, Option.bind_some]
      exact rl t
end Go.Proofs.Ytjdlaikcdebofaa
