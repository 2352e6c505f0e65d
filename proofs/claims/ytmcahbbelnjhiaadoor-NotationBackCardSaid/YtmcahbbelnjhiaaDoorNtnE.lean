/-
  What the reference reads from a text: whole texts.
-/
import Derived.Test.YtmcahbbelnjhiaaDoorNtnD
set_option linter.unusedVariables false
set_option linter.unusedSimpArgs false
namespace Go.Proofs.YtmcahbbelnjhiaaDoor
open Go Go.V3

noncomputable def rPart (s3 : Cf × (ByteArray × Bool)) : Option (((ByteArray × Bool) × Ru) ⊕ ((Cf × (ByteArray × Bool)) ⊕ (Cf × Int))) :=
if (s3.2.1.size : Int) > 0 then
if 0 ≤ (0 : Int) ∧ (0 : Int) < (s3.2.1.size : Int) then
if (sget s3.2.1 ((0 : Int).toNat)) = 97 then
Option.bind (Fbeltwayref13_reader_take s3.2 (⟨#[97, 108, 108]⟩ : ByteArray)) (fun r4 =>
some (Sum.inl ((r4, (0, 0, 0, 0)))))
else Option.bind (Fbeltwayref13_reader_number s3.2) (fun r5 =>
Option.bind (Fbeltwayref13_reader_take r5.2 (⟨#[37]⟩ : ByteArray)) (fun r6 =>
if r5.1 < 1 then
Option.bind (Fbeltwayref06_Percent r5.1) (fun r7 =>
some (Sum.inl (((r6.1, true), (r7.1, 0, 0, 0)))))
else if r5.1 > 100 then
Option.bind (Fbeltwayref06_Percent r5.1) (fun r8 =>
some (Sum.inl (((r6.1, true), (r8.1, 0, 0, 0)))))
else Option.bind (Fbeltwayref06_Percent r5.1) (fun r9 =>
some (Sum.inl ((r6, (r9.1, 0, 0, 0)))))))
else none
else Option.bind (Fbeltwayref13_reader_number s3.2) (fun r10 =>
Option.bind (Fbeltwayref13_reader_take r10.2 (⟨#[37]⟩ : ByteArray)) (fun r11 =>
if r10.1 < 1 then
Option.bind (Fbeltwayref06_Percent r10.1) (fun r12 =>
some (Sum.inl (((r11.1, true), (r12.1, 0, 0, 0)))))
else if r10.1 > 100 then
Option.bind (Fbeltwayref06_Percent r10.1) (fun r13 =>
some (Sum.inl (((r11.1, true), (r13.1, 0, 0, 0)))))
else Option.bind (Fbeltwayref06_Percent r10.1) (fun r14 =>
some (Sum.inl ((r11, (r14.1, 0, 0, 0)))))))
noncomputable def rStep (s3 : Cf × (ByteArray × Bool)) : Option ((Cf × (ByteArray × Bool)) ⊕ (Cf × Int)) :=
if (!s3.2.2) = true then
Option.bind (rPart s3) (fun q => match q with
| Sum.inl j1 => (Option.bind (Fbeltwayref13_reader_take j1.1 (⟨#[47]⟩ : ByteArray)) (fun r15 =>
Option.bind (Fbeltwayref13_reader_number r15) (fun r16 =>
Option.bind (Fbeltwayref13_reader_take r16.2 (⟨#[47]⟩ : ByteArray)) (fun r17 =>
Option.bind (Fbeltwayref13_reader_number r17) (fun r18 =>
Option.bind (Fbeltwayref13_reader_take r18.2 (⟨#[62]⟩ : ByteArray)) (fun r19 =>
Option.bind (Fbeltwayref13_reader_number r19) (fun r20 =>
if (s3.1.2.1.length + ([(j1.2.1, r16.1, r18.1, r20.1)] : List (Nat × Int × Int × Int)).length) * 32 ≤ 140737488355328 then
if r20.2.2 = true then
Option.map Sum.inr (if r20.2.2 = true then
some ((((⟨#[]⟩ : ByteArray), [], 0), 11))
else Option.bind (Fbeltwayref12_Check (s3.1.1, s3.1.2.1 ++ ([(j1.2.1, r16.1, r18.1, r20.1)] : List (Nat × Int × Int × Int)), s3.1.2.2)) (fun r21 =>
if ¬ r21 = 0 then
some ((((⟨#[]⟩ : ByteArray), [], 0), r21))
else some (((s3.1.1, s3.1.2.1 ++ ([(j1.2.1, r16.1, r18.1, r20.1)] : List (Nat × Int × Int × Int)), s3.1.2.2), 0))))
else if r20.2.1 = (⟨#[]⟩ : ByteArray) then
Option.map Sum.inr (if r20.2.2 = true then
some ((((⟨#[]⟩ : ByteArray), [], 0), 11))
else Option.bind (Fbeltwayref12_Check (s3.1.1, s3.1.2.1 ++ ([(j1.2.1, r16.1, r18.1, r20.1)] : List (Nat × Int × Int × Int)), s3.1.2.2)) (fun r22 =>
if ¬ r22 = 0 then
some ((((⟨#[]⟩ : ByteArray), [], 0), r22))
else some (((s3.1.1, s3.1.2.1 ++ ([(j1.2.1, r16.1, r18.1, r20.1)] : List (Nat × Int × Int × Int)), s3.1.2.2), 0))))
else Option.bind (Fbeltwayref13_reader_take r20.2 (⟨#[44, 32]⟩ : ByteArray)) (fun r23 =>
some (Sum.inl (((s3.1.1, s3.1.2.1 ++ ([(j1.2.1, r16.1, r18.1, r20.1)] : List (Nat × Int × Int × Int)), s3.1.2.2), r23))))
else none)))))))
| Sum.inr b1 => some b1)
else Option.map Sum.inr (if s3.2.2 = true then
some ((((⟨#[]⟩ : ByteArray), [], 0), 11))
else Option.bind (Fbeltwayref12_Check s3.1) (fun r24 =>
if ¬ r24 = 0 then
some ((((⟨#[]⟩ : ByteArray), [], 0), r24))
else some ((s3.1, 0))))
noncomputable def rRest (a0 : ByteArray) (s1 : Int) : Option (Cf × Int) :=
if Bd (some s1) none a0.size a0.size then
Option.bind (Fbeltwayref13_reader_take (a0.extract s1.toNat a0.size, false) (⟨#[32, 102, 117, 108, 108, 32]⟩ : ByteArray)) (fun r1 =>
Option.bind (Fbeltwayref13_reader_number r1) (fun r2 =>
Option.bind (Fbeltwayref13_reader_take r2.2 (⟨#[58, 32]⟩ : ByteArray)) (fun r3 =>
loopO (σ := Cf × (ByteArray × Bool)) (β := Cf × Int) rStep ((a0.extract 0 s1.toNat, [], r2.1), r3))))
else none
noncomputable def rTail (a0 : ByteArray) (s1 : Int) : Option (Cf × Int) :=
if Bd none (some s1) s1.toNat a0.size then
if s1 < 1 then
some ((((⟨#[]⟩ : ByteArray), [], 0), 11))
else if s1 > 16 then
some ((((⟨#[]⟩ : ByteArray), [], 0), 11))
else loopO (σ := Int) (β := ((ByteArray × (List (Nat × Int × Int × Int)) × Int) × Int)) (fun s2 =>
if s2 < ((sbytes (a0.extract 0 s1.toNat)).length : Int) then
if 0 ≤ s2 ∧ s2 < ((sbytes (a0.extract 0 s1.toNat)).length : Int) then
if (gl (0 : Int) (sbytes (a0.extract 0 s1.toNat)) s2.toNat) < 97 then
if (gl (0 : Int) (sbytes (a0.extract 0 s1.toNat)) s2.toNat) < 48 then
if ¬ (gl (0 : Int) (sbytes (a0.extract 0 s1.toNat)) s2.toNat) = 45 then
some (Sum.inr ((((⟨#[]⟩ : ByteArray), [], 0), 11)))
else some (Sum.inl (w64 (s2 + 1)))
else if (gl (0 : Int) (sbytes (a0.extract 0 s1.toNat)) s2.toNat) > 57 then
if ¬ (gl (0 : Int) (sbytes (a0.extract 0 s1.toNat)) s2.toNat) = 45 then
some (Sum.inr ((((⟨#[]⟩ : ByteArray), [], 0), 11)))
else some (Sum.inl (w64 (s2 + 1)))
else some (Sum.inl (w64 (s2 + 1)))
else if (gl (0 : Int) (sbytes (a0.extract 0 s1.toNat)) s2.toNat) > 122 then
if (gl (0 : Int) (sbytes (a0.extract 0 s1.toNat)) s2.toNat) < 48 then
if ¬ (gl (0 : Int) (sbytes (a0.extract 0 s1.toNat)) s2.toNat) = 45 then
some (Sum.inr ((((⟨#[]⟩ : ByteArray), [], 0), 11)))
else some (Sum.inl (w64 (s2 + 1)))
else if (gl (0 : Int) (sbytes (a0.extract 0 s1.toNat)) s2.toNat) > 57 then
if ¬ (gl (0 : Int) (sbytes (a0.extract 0 s1.toNat)) s2.toNat) = 45 then
some (Sum.inr ((((⟨#[]⟩ : ByteArray), [], 0), 11)))
else some (Sum.inl (w64 (s2 + 1)))
else some (Sum.inl (w64 (s2 + 1)))
else some (Sum.inl (w64 (s2 + 1)))
else none
else Option.map Sum.inr (rRest a0 s1)) (0)
else none
theorem rParse_form (a0 : ByteArray) : Fbeltwayref13_Parse a0 = (if (a0.size : Int) > 1024 then
some ((((⟨#[]⟩ : ByteArray), [], 0), 9))
else loopO (σ := Int) (β := (Cf × Int)) (fun s1 =>
if s1 < (a0.size : Int) then
if 0 ≤ s1 ∧ s1 < (a0.size : Int) then
if ¬ (sget a0 s1.toNat) = 32 then
some (Sum.inl (w64 (s1 + 1)))
else Option.map Sum.inr (rTail a0 s1)
else none
else Option.map Sum.inr (rTail a0 s1)) 0) := rfl

/-! A reader, good or spoilt. -/
def Rd (r : ByteArray × Bool) (o : Option By) : Prop := r.1.size ≤ 1024 ∧ match o with | some l => r = (⟨l.toArray⟩, false) | none => r.2 = true
theorem Rd.some {r : ByteArray × Bool} {l : By} (h : Rd r (some l)) : r.2 = false ∧ bl r.1 = l ∧ l.length ≤ 1024 := by
  obtain ⟨h0, h1⟩ := h
  dsimp only at h1
  subst h1
  refine ⟨rfl, bl_mk _, ?_⟩
  rw [← bl_len, bl_mk] at h0; exact h0
theorem Rd.mk {s : ByteArray} {l : By} (h : bl s = l) (hs : s.size ≤ 1024) : Rd (s, false) (.some l) := ⟨hs, by subst h; dsimp only; rw [mk_bl]⟩
theorem size_mk (l : By) : (⟨l.toArray⟩ : ByteArray).size = l.length := by rw [← bl_len, bl_mk]
theorem tTake {r : ByteArray × Bool} {o : Option By} (t : ByteArray) (h : Rd r o) : ∃ r', Fbeltwayref13_reader_take r t = some r' ∧ Rd r' (o.bind (tok (bl t))) := by
  obtain ⟨s, b⟩ := r
  rw [rTake]
  refine ⟨_, rfl, ?_⟩
  have hs : s.size ≤ 1024 := h.1
  have hlen : ∀ r, tok (bl t) (bl s) = .some r → (⟨r.toArray⟩ : ByteArray).size ≤ 1024 := by
    intro r hr
    have := tok_len hr
    rw [bl_len s] at this
    rw [size_mk]; omega
  cases o with
  | none =>
    have hb : b = true := h.2
    subst hb
    cases ht : tok (bl t) (bl s) with
    | none => exact ⟨hs, rfl⟩
    | some r => exact ⟨hlen r ht, rfl⟩
  | some l =>
    obtain ⟨h1, h2, h3⟩ := h.some
    dsimp only at h1 h2
    subst h1; subst h2
    rw [Option.bind_some]
    cases ht : tok (bl t) (bl s) with
    | none => exact ⟨hs, rfl⟩
    | some r => exact ⟨hlen r ht, rfl⟩
theorem tNum {r : ByteArray × Bool} {o : Option By} (h : Rd r o) : ∃ v r', Fbeltwayref13_reader_number r = some (v, r') ∧ ((∃ a, o.bind num = some a ∧ v = a.1 ∧ Rd r' (some a.2)) ∨ (o.bind num = none ∧ Rd r' none)) := by
  obtain ⟨s, b⟩ := r
  have hs : s.size ≤ 1024 := h.1
  rw [rNum s b hs]
  have hlen : ∀ a, num (bl s) = .some a → (⟨a.2.toArray⟩ : ByteArray).size ≤ 1024 := by
    intro a ha
    have := num_len (v := a.1) (r := a.2) ha
    rw [bl_len s] at this
    rw [size_mk]; omega
  cases o with
  | none =>
    have hb : b = true := h.2
    subst hb
    cases ht : num (bl s) with
    | none => exact ⟨_, _, rfl, .inr ⟨rfl, hs, rfl⟩⟩
    | some a => exact ⟨_, _, rfl, .inr ⟨rfl, hlen a ht, rfl⟩⟩
  | some l =>
    obtain ⟨h1, h2, h3⟩ := h.some
    dsimp only at h1 h2
    subst h1; subst h2
    rw [Option.bind_some]
    cases ht : num (bl s) with
    | none => exact ⟨_, _, rfl, .inr ⟨rfl, hs, rfl⟩⟩
    | some a => exact ⟨_, _, rfl, .inl ⟨a, rfl, rfl, hlen a ht, rfl⟩⟩
theorem rPerc_some (p : Int) : ∃ q, Fbeltwayref06_Percent p = some q := by
  by_cases h : 0 ≤ p ∧ p ≤ 100
  · exact ⟨_, rPerc_ok h.1 h.2⟩
  · unfold Fbeltwayref06_Percent
    by_cases h0 : p < 0
    · rw [if_pos h0]; exact ⟨_, rfl⟩
    · rw [if_neg h0, if_pos (by omega)]; exact ⟨_, rfl⟩
theorem Rd.bad {r : ByteArray × Bool} {o : Option By} (h : Rd r o) : Rd (r.1, true) none := ⟨h.1, rfl⟩
theorem rPart_ok {c : Cf} {r : ByteArray × Bool} {l : By} (h : Rd r (some l)) : ∃ r' x, rPart (c, r) = some (.inl (r', (x, 0, 0, 0))) ∧ ((∃ a, gpt l = some a ∧ x = a.1 ∧ Rd r' (some a.2)) ∨ (gpt l = none ∧ Rd r' none)) := by
  obtain ⟨h1, h2, h3⟩ := h.some
  have hsz : r.1.size = l.length := by rw [← bl_len, h2]
  have hnum : tok tAll l = none → ∃ r' x, (Option.bind (Fbeltwayref13_reader_number r) (fun r10 =>
Option.bind (Fbeltwayref13_reader_take r10.2 (⟨#[37]⟩ : ByteArray)) (fun r11 =>
if r10.1 < 1 then
Option.bind (Fbeltwayref06_Percent r10.1) (fun r12 =>
some (Sum.inl (((r11.1, true), (r12.1, 0, 0, 0)))))
else if r10.1 > 100 then
Option.bind (Fbeltwayref06_Percent r10.1) (fun r13 =>
some (Sum.inl (((r11.1, true), (r13.1, 0, 0, 0)))))
else Option.bind (Fbeltwayref06_Percent r10.1) (fun r14 =>
some (Sum.inl ((r11, (r14.1, 0, 0, 0)))))))) = (some (.inl (r', (x, 0, 0, 0))) : Option (((ByteArray × Bool) × Ru) ⊕ ((Cf × (ByteArray × Bool)) ⊕ (Cf × Int)))) ∧ ((∃ a, gpt l = some a ∧ x = a.1 ∧ Rd r' (some a.2)) ∨ (gpt l = none ∧ Rd r' none)) := by
    intro hA
    obtain ⟨v, r1, f1, hv⟩ := tNum h
    rw [f1, Option.bind_some]
    unfold gpt
    rw [hA]
    dsimp only
    rw [Option.bind_some] at hv
    rcases hv with ⟨a, e1, rfl, hr1⟩ | ⟨e1, hr1⟩
    · rw [e1, Option.bind_some]
      obtain ⟨r2, f2, hr2⟩ := tTake ⟨#[37]⟩ hr1
      rw [f2, Option.bind_some]
      rw [Option.bind_some] at hr2
      have e2 : bl (⟨#[37]⟩ : ByteArray) = [37] := rfl
      rw [e2] at hr2
      obtain ⟨q, hq⟩ := rPerc_some a.1
      by_cases c1 : a.1 < 1
      · rw [if_pos c1, hq, Option.bind_some]
        refine ⟨_, _, rfl, .inr ⟨?_, hr2.bad⟩⟩
        cases tok [37] a.2 with
        | none => rfl
        | some z => rw [Option.bind_some, if_neg (by omega)]
      rw [if_neg c1]
      by_cases c2 : a.1 > 100
      · rw [if_pos c2, hq, Option.bind_some]
        refine ⟨_, _, rfl, .inr ⟨?_, hr2.bad⟩⟩
        cases tok [37] a.2 with
        | none => rfl
        | some z => rw [Option.bind_some, if_neg (by omega)]
      rw [if_neg c2, rPerc_ok (by omega) (by omega), Option.bind_some]
      refine ⟨_, _, rfl, ?_⟩
      cases ht : tok [37] a.2 with
      | none => rw [ht] at hr2; exact .inr ⟨rfl, hr2⟩
      | some z =>
        rw [ht] at hr2
        left
        rw [Option.bind_some, if_pos (by omega)]
        exact ⟨_, rfl, rfl, hr2⟩
    · rw [e1]
      obtain ⟨r2, f2, hr2⟩ := tTake ⟨#[37]⟩ hr1
      rw [f2, Option.bind_some]
      obtain ⟨q, hq⟩ := rPerc_some v
      rw [hq]
      simp only [Option.bind_some]
      by_cases c1 : v < 1
      · rw [if_pos c1]; exact ⟨_, _, rfl, .inr ⟨rfl, hr2.bad⟩⟩
      · rw [if_neg c1]
        by_cases c2 : v > 100
        · rw [if_pos c2]; exact ⟨_, _, rfl, .inr ⟨rfl, hr2.bad⟩⟩
        · rw [if_neg c2]; exact ⟨_, _, rfl, .inr ⟨rfl, hr2⟩⟩
  unfold rPart
  dsimp only
  by_cases c1 : (r.1.size : Int) > 0
  · rw [if_pos c1, if_pos (by omega)]
    have hg : sget r.1 ((0 : Int).toNat) = ((l[0]?.getD 0).toNat : Int) := by rw [sget_bl, h2]; rfl
    rw [hg]
    by_cases c2 : ((l[0]?.getD 0).toNat : Int) = 97
    · rw [if_pos c2]
      obtain ⟨r1, f1, hr1⟩ := tTake ⟨#[97, 108, 108]⟩ h
      rw [f1, Option.bind_some]
      refine ⟨_, _, rfl, ?_⟩
      rw [Option.bind_some, show bl (⟨#[97, 108, 108]⟩ : ByteArray) = tAll from rfl] at hr1
      unfold gpt
      cases ht : tok tAll l with
      | some z => rw [ht] at hr1; exact .inl ⟨_, rfl, rfl, hr1⟩
      | none =>
        rw [ht] at hr1
        right
        have hn : num l = none := by
          unfold num
          rw [if_pos]
          left
          cases l with
          | nil => simp
          | cons b t =>
            rw [List.takeWhile_cons, if_neg]
            · simp
            · simp only [List.getElem?_cons_zero, Option.getD_some] at c2
              unfold dig
              rw [decide_eq_true_eq]; omega
        dsimp only
        rw [hn]
        exact ⟨rfl, hr1⟩
    · rw [if_neg c2]
      refine hnum ?_
      cases ht : tok tAll l with
      | none => rfl
      | some z =>
        have := tok_some ht
        rw [this] at c2
        exact absurd rfl c2
  · rw [if_neg c1]
    refine hnum ?_
    cases ht : tok tAll l with
    | none => rfl
    | some z =>
      have := tok_len ht
      simp only [tAll, List.length_cons, List.length_nil] at this
      omega

theorem tNum' {r : ByteArray × Bool} {o : Option By} (h : Rd r o) : ∃ v r', Fbeltwayref13_reader_number r = some (v, r') ∧ Rd r' ((o.bind num).map (·.2)) ∧ ∀ a, o.bind num = some a → v = a.1 := by
  obtain ⟨v, r', f, hv⟩ := tNum h
  refine ⟨v, r', f, ?_⟩
  rcases hv with ⟨a, e, rfl, hr⟩ | ⟨e, hr⟩
  · rw [e]
    exact ⟨hr, fun b hb => by cases hb; rfl⟩
  · rw [e]
    exact ⟨hr, fun b hb => by cases hb⟩
/-- What becomes of a configuration that was read. -/
noncomputable def fin (c : Cf) : Cf × Int := if chk c = 0 then (c, 0) else (zc, chk c)
theorem fin_ok {c : Cf} (hn : c.2.1.length ≤ 1000) (hz : c.1.size ≤ 1000000) (hr : ∀ x ∈ c.2.1, RuOk x) : Option.bind (Fbeltwayref12_Check c) (fun r21 =>
if ¬ r21 = 0 then
some ((((⟨#[]⟩ : ByteArray), [], 0), r21))
else some ((c, 0))) = some (fin c) := by
  rw [rCheck_ok hn hz (sh_of fun x hx => (hr x hx).1), Option.bind_some]
  unfold fin
  by_cases hc : chk c = 0
  · rw [if_neg (not_not_intro hc), if_pos hc]
  · rw [if_pos hc, if_neg hc]; rfl
theorem rStep_ok {nm : ByteArray} {acc : List Ru} {full : Int} {r : ByteArray × Bool} {l : By} (h : Rd r (some l)) (hz : nm.size ≤ 1000000) (hacc : acc.length ≤ 900) (hok : ∀ x ∈ acc, RuOk x) :
    (rule l = none ∧ rStep ((nm, acc, full), r) = some (.inr (zc, 11))) ∨ (∃ x l', rule l = some (x, l') ∧ ((l' = [] ∧ rStep ((nm, acc, full), r) = some (.inr (fin (nm, acc ++ [x], full)))) ∨ (l' ≠ [] ∧ ∃ r', rStep ((nm, acc, full), r) = some (.inl ((nm, acc ++ [x], full), r')) ∧ Rd r' (tok [44, 32] l')))) := by
  unfold rStep
  dsimp only
  rw [if_pos (by rw [h.some.1]; rfl)]
  obtain ⟨r1, x, f1, hp⟩ := rPart_ok (c := (nm, acc, full)) h
  have hr1 : Rd r1 ((gpt l).map (·.2)) := by
    rcases hp with ⟨a, e, _, h⟩ | ⟨e, h⟩
    · rw [e]; exact h
    · rw [e]; exact h
  have hx : ∀ a, gpt l = some a → x = a.1 := by
    rcases hp with ⟨a, e, hx, h⟩ | ⟨e, h⟩
    · rw [e]; intro b hb; cases hb; exact hx
    · rw [e]; intro b hb; cases hb
  rw [f1, Option.bind_some]
  dsimp only
  obtain ⟨r2, f2, hr2⟩ := tTake ⟨#[47]⟩ hr1
  rw [f2, Option.bind_some]
  obtain ⟨v3, r3, f3, hr3, hv3⟩ := tNum' hr2
  rw [f3, Option.bind_some]
  dsimp only
  obtain ⟨r4, f4, hr4⟩ := tTake ⟨#[47]⟩ hr3
  rw [f4, Option.bind_some]
  obtain ⟨v5, r5, f5, hr5, hv5⟩ := tNum' hr4
  rw [f5, Option.bind_some]
  dsimp only
  obtain ⟨r6, f6, hr6⟩ := tTake ⟨#[62]⟩ hr5
  rw [f6, Option.bind_some]
  obtain ⟨v7, r7, f7, hr7, hv7⟩ := tNum' hr6
  rw [f7, Option.bind_some]
  dsimp only
  rw [if_pos (by rw [List.length_singleton]; omega)]
  rw [show bl (⟨#[47]⟩ : ByteArray) = [47] from rfl] at hr2 hr3 hr4 hr5 hr6 hr7 hv3 hv5 hv7
  rw [show bl (⟨#[62]⟩ : ByteArray) = [62] from rfl] at hr6 hr7 hv7
  have hend : (rule l = none ∧ Rd r7 none) ∨ (∃ l', rule l = some ((x, v3, v5, v7), l') ∧ Rd r7 (some l')) := by
    clear f1 f2 f3 f4 f5 f6 f7 hp hr1 hr2 hr3 hr4 hr5 hr6
    unfold rule
    cases e1 : gpt l with
    | none => rw [e1] at hr7; exact .inl ⟨rfl, hr7⟩
    | some a =>
      have := hx a e1
      subst this
      rw [e1] at hr7 hv3 hv5 hv7
      simp only [Option.map_some, Option.bind_some] at hr7 hv3 hv5 hv7 ⊢
      cases e2 : tok [47] a.2 with
      | none => rw [e2] at hr7; exact .inl ⟨rfl, hr7⟩
      | some l2 =>
        rw [e2] at hr7 hv3 hv5 hv7
        simp only [Option.map_some, Option.bind_some] at hr7 hv3 hv5 hv7 ⊢
        cases e3 : num l2 with
        | none => rw [e3] at hr7; exact .inl ⟨rfl, hr7⟩
        | some b =>
          have := hv3 b e3
          subst this
          rw [e3] at hr7 hv5 hv7
          simp only [Option.map_some, Option.bind_some] at hr7 hv5 hv7 ⊢
          cases e4 : tok [47] b.2 with
          | none => rw [e4] at hr7; exact .inl ⟨rfl, hr7⟩
          | some l4 =>
            rw [e4] at hr7 hv5 hv7
            simp only [Option.map_some, Option.bind_some] at hr7 hv5 hv7 ⊢
            cases e5 : num l4 with
            | none => rw [e5] at hr7; exact .inl ⟨rfl, hr7⟩
            | some c =>
              have := hv5 c e5
              subst this
              rw [e5] at hr7 hv7
              simp only [Option.map_some, Option.bind_some] at hr7 hv7 ⊢
              cases e6 : tok [62] c.2 with
              | none => rw [e6] at hr7; exact .inl ⟨rfl, hr7⟩
              | some l6 =>
                rw [e6] at hr7 hv7
                simp only [Option.map_some, Option.bind_some] at hr7 hv7 ⊢
                cases e7 : num l6 with
                | none => rw [e7] at hr7; exact .inl ⟨rfl, hr7⟩
                | some d =>
                  have := hv7 d e7
                  subst this
                  rw [e7] at hr7
                  exact .inr ⟨d.2, rfl, hr7⟩
  rcases hend with ⟨e, hr⟩ | ⟨l', e, hr⟩
  · left
    refine ⟨e, ?_⟩
    have hb : r7.2 = true := hr.2
    rw [if_pos hb, if_pos hb]; rfl
  · right
    refine ⟨_, l', e, ?_⟩
    obtain ⟨g1, g2, g3⟩ := hr.some
    have hr' := hr
    have hx' := rule_vv e
    rw [if_neg (by rw [g1]; decide), g1]
    by_cases c : l' = []
    · left
      refine ⟨c, ?_⟩
      rw [if_pos (bl_inj (by rw [g2, c]; rfl)), if_neg (by decide)]
      rw [fin_ok (c := (nm, acc ++ [(x, v3, v5, v7)], full)) (by dsimp only; rw [List.length_append, List.length_singleton]; omega) hz (by
        intro y hy
        rcases List.mem_append.mp hy with hy | hy
        · exact hok y hy
        · rw [List.mem_singleton] at hy; rw [hy]; exact hx')]
      rfl
    · right
      refine ⟨c, ?_⟩
      rw [if_neg (fun h => c (by rw [← g2, h]; rfl))]
      obtain ⟨r8, f8, hr8⟩ := tTake ⟨#[44, 32]⟩ hr
      rw [f8, Option.bind_some]
      exact ⟨r8, rfl, hr8⟩
theorem rStep_bad (c : Cf) {r : ByteArray × Bool} (h : Rd r none) : rStep (c, r) = some (.inr (zc, 11)) := by
  unfold rStep
  have hb : r.2 = true := h.2
  dsimp only
  rw [hb, if_neg (show ¬ (!true) = true by decide), if_pos rfl]; rfl
theorem rLoop_ok {nm : ByteArray} {full : Int} {r : ByteArray × Bool} {o : Option By} (h : Rd r o) (hz : nm.size ≤ 1000000) : loopO rStep ((nm, [], full), r) = some (match o.bind (rules 1025) with | some rs => fin (nm, rs, full) | none => (zc, 11)) := by
  refine loopO_to (fun m (st : Cf × (ByteArray × Bool)) => ∃ o' acc, st.1 = (nm, acc, full) ∧ Rd st.2 o' ∧ (∀ x ∈ acc, RuOk x) ∧ match o' with
    | none => m = 0 ∧ o.bind (rules 1025) = none
    | some l' => ∃ n, l'.length < n ∧ (rules n l').map (acc ++ ·) = o.bind (rules 1025) ∧ acc.length * 2 + l'.length ≤ 1024 ∧ m = l'.length + 1) (n := match o with | none => 0 | some l => l.length + 1) ?_ ⟨o, [], rfl, h, by simp, ?_⟩
  · rintro m ⟨c, r⟩ ⟨o', acc, hc, hr, hok, ho⟩
    dsimp only at hc hr
    subst hc
    cases o' with
    | none =>
      obtain ⟨rfl, e⟩ := ho
      left
      rw [rStep_bad _ hr, e]
    | some l' =>
      obtain ⟨n, hn, hE, hb, rfl⟩ := ho
      obtain ⟨n, rfl⟩ : ∃ k, n = k + 1 := ⟨n - 1, by omega⟩
      rw [rules] at hE
      rcases rStep_ok (full := full) hr hz (by omega) hok with ⟨e, f⟩ | ⟨x, l2, e, ⟨hl2, f⟩ | ⟨hl2, r', f, hr'⟩⟩
      · left
        rw [e] at hE
        rw [f, ← hE]; rfl
      · left
        rw [e, Option.bind_some, if_pos hl2] at hE
        rw [f, ← hE]; rfl
      · right
        have hlen := rule_len e
        rw [e, Option.bind_some, if_neg hl2] at hE
        dsimp only at hE
        have hok' : ∀ y ∈ acc ++ [x], RuOk y := by
          intro y hy
          rcases List.mem_append.mp hy with hy | hy
          · exact hok y hy
          · rw [List.mem_singleton] at hy; rw [hy]; exact rule_vv e
        cases ht : tok [44, 32] l2 with
        | none =>
          rw [ht] at hE hr'
          exact ⟨0, _, by omega, f, none, acc ++ [x], rfl, hr', hok', rfl, by rw [← hE]; rfl⟩
        | some l3 =>
          rw [ht] at hE hr'
          have hl3 := tok_len ht
          simp only [List.length_cons, List.length_nil] at hl3
          rw [Option.bind_some, rules_map] at hE
          exact ⟨l3.length + 1, _, by omega, f, some l3, acc ++ [x], rfl, hr', hok', n, by omega, hE, by rw [List.length_append, List.length_singleton]; omega, rfl⟩
  · cases o with
    | none => exact ⟨rfl, rfl⟩
    | some l =>
      have := h.some.2.2
      refine ⟨1025, by omega, ?_, by simpa using this, rfl⟩
      simp
end Go.Proofs.YtmcahbbelnjhiaaDoor
