/-
  What the functions of package walk and their references answer.
-/
import Derived.Test.YtokeceeccmgcmaaDoorWlkA
set_option linter.unusedVariables false
namespace Go.Proofs.YtokeceeccmgcmaaDoor
open Go Go.V3

theorem walk_run {σ τ β : Type} {z W : Int} {ws : List (BitVec 64)} {l : List Int} {f : σ → Option (σ ⊕ β)} {en : Int → τ → σ} {bad good : τ → β} {step : Int → Int → τ → τ} (J : Nat → Int → τ → Prop)
    (hbad : ∀ (k : Nat) at' st, 0 ≤ at' → at' < W → (k : Int) ≤ at' → J k at' st → (∀ a o, adl z l at' = some a → hd (gl 0#64 ws a.toNat) = some o → W - at' < o.1 + o.2 + 1) → ∃ st', f (en at' st) = some (.inr (bad st')))
    (hgo : ∀ (k : Nat) at' st a o, 0 ≤ at' → at' < W → (k : Int) ≤ at' → J k at' st → adl z l at' = some a → hd (gl 0#64 ws a.toNat) = some o → o.1 + o.2 + 1 ≤ W - at' →
      f (en at' st) = some (.inl (en (at' + (1 + o.1 + o.2)) (step a (1 + o.1 + o.2) st))) ∧ J (k + 1) (at' + (1 + o.1 + o.2)) (step a (1 + o.1 + o.2) st))
    (he : ∀ (k : Nat) st, (k : Int) ≤ W → J k W st → f (en W st) = some (.inr (good st))) (hW : 0 ≤ W) {st : τ} (hJ : J 0 0 st) {Q : β → Prop}
    (hb : ob z W ws l W.toNat 0 = none → ∀ st', Q (bad st')) (hg : ∀ os, ob z W ws l W.toNat 0 = some os → Q (good (os.foldl (fun st o => step o.1 o.2 st) st))) :
    ∃ b, loopO f (en 0 st) = some b ∧ Q b := by
  obtain ⟨h1, h2⟩ := walk_loop J hbad hgo he W.toNat 0 0 st (by omega) hW (by omega) (by omega) hJ
  cases h : ob z W ws l W.toNat 0 with
  | none =>
    obtain ⟨st', h3⟩ := h1 h
    exact ⟨_, h3, hb h st'⟩
  | some q =>
    obtain ⟨h3, -⟩ := h2 q h
    exact ⟨_, h3, hg q h⟩
theorem of_ex {α : Type} {x : Option α} {y : α} (h : ∃ b, x = some b ∧ b = y) : x = some y := by
  obtain ⟨b, h1, h2⟩ := h
  rw [h1, h2]
/-- The objects of an increment, if it is not damaged. -/
def obs (s : Sp) (i : Inc) (l : List Int) : Option (List (Int × Int)) := ob (sz s.1) i.2.2.2.2 s.2.1 l i.2.2.2.2.toNat 0
theorem ob_mem {z W : Int} {ws : List (BitVec 64)} {l : List Int} : ∀ {n : Nat} {at' : Int} {os : List (Int × Int)}, 0 ≤ at' → at' ≤ W → ob z W ws l n at' = some os →
    (∀ o ∈ os, ∃ p q, at' ≤ p ∧ adl z l p = some o.1 ∧ hd (gl 0#64 ws o.1.toNat) = some q ∧ o.2 = 1 + q.1 + q.2 ∧ p + o.2 ≤ W) ∧ at' + (os.map (·.2)).sum = W ∧ at' + os.length ≤ W
  | 0, at', os, h0, h1, h => by
    unfold ob at h
    split at h
    · cases h
    · simp only [Option.some.injEq] at h; subst h; simp; omega
  | n + 1, at', os, h0, h1, h => by
    unfold ob at h
    split at h
    rotate_left
    · simp only [Option.some.injEq] at h; subst h; simp; omega
    split at h
    · cases h
    rename_i a ha
    split at h
    · cases h
    rename_i o ho
    have hr := hd_rng ho
    split at h
    · cases h
    cases hq : ob z W ws l n (at' + (1 + o.1 + o.2)) with
    | none => rw [hq] at h; cases h
    | some q =>
      rw [hq] at h
      simp only [Option.map_some, Option.some.injEq] at h
      subst h
      obtain ⟨i1, i2, i3⟩ := ob_mem (by omega) (by omega) hq
      refine ⟨fun x hx => ?_, by simp only [List.map_cons, List.sum_cons]; omega, by simp only [List.length_cons]; omega⟩
      rcases List.mem_cons.1 hx with rfl | hx
      · exact ⟨at', o, Int.le_refl _, ha, ho, rfl, by simp only; omega⟩
      · obtain ⟨p, q', p1, p2, p3, p4, p5⟩ := i1 x hx
        exact ⟨p, q', by omega, p2, p3, p4, p5⟩
theorem obs_len {s : Sp} (h : VS s) {i : Inc} (hf : FitS s i) {l : List Int} {os : List (Int × Int)} (ho : obs s i l = some os) : os.length ≤ 16384 ∧ (os.map (·.2)).sum = i.2.2.2.2 := by
  have hwl := VS.wlen h
  obtain ⟨⟨_, _, _, _, w0, w1⟩, _⟩ := id hf
  obtain ⟨-, h2, h3⟩ := ob_mem (by omega) w0 ho
  omega
theorem fBase_fit {s : Sp} (h : VS s) {i : Inc} (hf : FitS s i) (hw : ¬ i.2.2.2.2 = 0) : Fframe_Base s i.2.2.1 = some (i.2.2.1 * sz s.1, 0) := by
  obtain ⟨_, hf2⟩ := id hf
  rcases hf2 with ⟨hw', _⟩ | ⟨_, ⟨f0, f1⟩, _⟩
  · omega
  exact fBase_ok h f0 f1
theorem obs_zero {s : Sp} {i : Inc} (hw : i.2.2.2.2 = 0) (l : List Int) : obs s i l = some [] := by
  unfold obs
  rw [hw]
  rfl
theorem fold_app (os : List (Int × Int)) (st : List Int) : os.foldl (fun st o => st ++ [o.1]) st = st ++ os.map (·.1) := by
  induction os generalizing st with
  | nil => simp
  | cons o r ih => rw [List.foldl_cons, ih, List.map_cons, List.append_assoc]; rfl
theorem fold_cnt (os : List (Int × Int)) (n w : Int) : os.foldl (fun st o => (st.1 + 1, st.2 + o.2)) (n, w) = (n + os.length, w + (os.map (·.2)).sum) := by
  induction os generalizing n w with
  | nil => simp
  | cons o r ih => rw [List.foldl_cons, ih, List.map_cons, List.sum_cons, List.length_cons]; refine Prod.ext ?_ ?_ <;> simp only <;> omega
theorem fold_has (os : List (Int × Int)) (b : Bool) (t : Int) : os.foldl (fun st o => ((if st.1 = true then true else decide (o.1 = st.2)), st.2)) (b, t) = ((b || decide (t ∈ os.map (·.1))), t) := by
  induction os generalizing b with
  | nil => simp
  | cons o r ih =>
    rw [List.foldl_cons, ih]
    refine Prod.ext ?_ rfl
    simp only
    cases b with
    | true => simp
    | false =>
      rw [Bool.eq_iff_iff]
      simp only [Bool.false_eq_true, if_false, Bool.or_eq_true, decide_eq_true_eq, Bool.false_or, List.map_cons, List.mem_cons]
      constructor
      · rintro (h | h)
        · exact .inl h.symm
        · exact .inr h
      · rintro (h | h)
        · exact .inl h.symm
        · exact .inr h

theorem pObjects_ok {s : Sp} (h : VS s) {i : Inc} (hf : FitS s i) {l : List Int} (hl : Has s i l) :
    Fwalk_Objects s i = some (match obs s i l with | none => ([], 12) | some os => (os.map (·.1), 0)) := by
  have hwl := VS.wlen h
  obtain ⟨⟨_, _, _, _, w0, w1⟩, _⟩ := id hf
  obtain ⟨b, hb, hb'⟩ := bValid_ok h.stI i
  have hbt : b = true := hb'.2 ⟨h, hf⟩
  subst hbt
  have key : ∃ r, Fwalk_each_walk_Objects_1 s i [] = some r ∧ (obs s i l = none → r.1 = 12) ∧ ∀ os, obs s i l = some os → r = (0, os.map (·.1)) := by
    unfold Fwalk_each_walk_Objects_1
    rw [hb, Option.bind_some, if_neg (by simp)]
    by_cases hw : i.2.2.2.2 = 0
    · rw [if_pos hw, obs_zero hw]
      exact ⟨_, rfl, fun h => (by cases h), fun os h => (by cases h; rfl)⟩
    rw [if_neg hw, fBase_fit h hf hw, Option.bind_some]
    refine walk_run (τ := List Int) (β := Int × List Int) (z := sz s.1) (W := i.2.2.2.2) (ws := s.2.1) (l := l) (en := fun a st => (a, st)) (bad := fun st => (12, st)) (good := fun st => (0, st)) (step := fun a _ st => st ++ [a]) (fun k _ st => st.length = k) ?_ ?_ ?_ w0 (st := []) rfl ?_ ?_
    · intro k at' st h0 h1 hk hJ hno
      obtain ⟨a, ha⟩ := at_ok h hf hl h0 h1
      have a0 := ha.a0
      have a1 := ha.a1
      obtain ⟨x, hx, hr⟩ := pDec_ok (gl 0#64 s.2.1 a.toNat)
      simp only
      rw [if_pos h1, ha.pstep, Option.bind_some, if_neg (by simp), if_pos ⟨a0, a1⟩, hx, Option.bind_some]
      rcases hr with ⟨o, g1, rfl⟩ | ⟨g1, g2⟩
      · have hr := hd_rng g1
        have := hno a o ha.adr g1
        rw [if_neg (by simp), if_neg (by simp)]
        simp only
        rw [w64_id (e := (1 : Int) + o.1) (by omega) (by omega), w64_id (e := (1 : Int) + o.1 + o.2) (by omega) (by omega), w64_id (e := i.2.2.2.2 - at') (by omega) (by omega), if_pos (by omega)]
        exact ⟨_, rfl⟩
      · rcases g2 with g2 | ⟨g2, g3⟩
        · rw [if_pos g2]; exact ⟨_, rfl⟩
        · rw [if_neg (not_not_intro g2), if_pos g3]; exact ⟨_, rfl⟩
    · intro k at' st a o h0 h1 hk hJ had ho hfit
      obtain ⟨a', ha⟩ := at_ok h hf hl h0 h1
      obtain rfl : a = a' := by have := ha.adr; rw [had] at this; simpa using this
      have a0 := ha.a0
      have a1 := ha.a1
      have hr := hd_rng ho
      obtain ⟨x, hx, hd'⟩ := pDec_ok (gl 0#64 s.2.1 a.toNat)
      simp only
      rw [if_pos h1, ha.pstep, Option.bind_some, if_neg (by simp), if_pos ⟨a0, a1⟩, hx, Option.bind_some]
      rcases hd' with ⟨o', g1, rfl⟩ | ⟨g1, g2⟩
      rotate_left
      · rw [ho] at g1; cases g1
      obtain rfl : o = o' := by rw [ho] at g1; simpa using g1
      rw [if_neg (by simp), if_neg (by simp)]
      simp only
      rw [w64_id (e := (1 : Int) + o.1) (by omega) (by omega), w64_id (e := (1 : Int) + o.1 + o.2) (by omega) (by omega), w64_id (e := i.2.2.2.2 - at') (by omega) (by omega), if_neg (by omega)]
      unfold Fwalk_Objects_1
      rw [if_pos (by simp only [List.length_singleton]; omega), Option.bind_some, if_neg (by simp), w64_id (by omega) (by omega)]
      exact ⟨rfl, by simp [hJ]⟩
    · intro k st hk hJ
      simp only
      rw [if_neg (by omega)]
    · exact fun hn st' => ⟨fun _ => rfl, fun os hs => by rw [show obs s i l = none from hn] at hs; cases hs⟩
    · intro os hs
      refine ⟨fun hn => ?_, fun os' hs' => ?_⟩
      · rw [show obs s i l = some os from hs] at hn; cases hn
      · obtain rfl : os = os' := by rw [show obs s i l = some os from hs] at hs'; simpa using hs'
        rw [fold_app]; rfl
  obtain ⟨r, k1, k2, k3⟩ := key
  unfold Fwalk_Objects
  rw [k1, Option.bind_some]
  cases ho : obs s i l with
  | none => rw [if_pos (by rw [k2 ho]; decide), k2 ho]
  | some os => rw [k3 os ho]; rfl
theorem look_mem {s : Sp} (h : VS s) {i : Inc} (hf : FitS s i) {l : List Int} (hl : Has s i l) {os : List (Int × Int)} (ho : obs s i l = some os) {o : Int × Int} (hm : o ∈ os) :
    ∃ q : Int × Int, Fbeltwayref08_Look s o.1 = some (q.1, q.2, 0) ∧ o.2 = 1 + q.1 + q.2 ∧ (0 ≤ q.1 ∧ q.1 ≤ 15) ∧ (0 ≤ q.2 ∧ q.2 ≤ 32) ∧ 0 ≤ o.1 ∧ o.1 < s.2.1.length := by
  obtain ⟨⟨_, _, _, _, w0, w1⟩, _⟩ := id hf
  obtain ⟨p, q, p0, p1, p2, p3, p4⟩ := (ob_mem (by omega) w0 ho).1 o hm
  have hr := hd_rng p2
  obtain ⟨a, ha⟩ := at_ok h hf hl p0 (by omega)
  obtain rfl : o.1 = a := by have := ha.adr; rw [p1] at this; simpa using this
  refine ⟨q, ?_, p3, hr.1, hr.2, ha.a0, ha.a1⟩
  rcases rLook_ok ha with ⟨g1, x, g2, g3⟩ | ⟨o', g1, ⟨y, g2, g3⟩ | ⟨g2, g3⟩⟩
  · rw [p2] at g1; cases g1
  · obtain rfl : q = o' := by rw [p2] at g1; simpa using g1
    exact g3
  · obtain rfl : q = o' := by rw [p2] at g1; simpa using g1
    obtain ⟨a2, ha2⟩ := at_ok h hf hl (at' := p + (q.1 + q.2)) (by omega) (by omega)
    rw [ha2.adr] at g2; cases g2
end Go.Proofs.YtokeceeccmgcmaaDoor
