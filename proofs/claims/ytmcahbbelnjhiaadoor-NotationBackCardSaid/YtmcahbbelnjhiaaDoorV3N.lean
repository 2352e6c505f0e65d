/-
  Part N: a whole operation.
-/
import Derived.Test.YtmcahbbelnjhiaaDoorV3M
import Derived.Laws.BytesString
import Derived.Lib.ConvBytes
set_option linter.unusedVariables false
namespace Go.V3
open Go
variable {TB : Tb}

section
variable {P : Program} {lkp : Nat → Option Ent} {L : Store}

theorem run_slicePart {w : World} {t e : TypeId} {q : TypeInfo} {x : SV} {E : Env} {A : Option Addr} {len cap : Nat} {low high : Option SV} {h l : Option Int} {hn ln : Nat} (hu : P.underlying t = some (.slice e)) (hq : P.info? e = some q)
    (hx : x.den E = .slice A len cap) (hh : bnd high len = some (h, hn)) (hl : bnd low 0 = some (l, ln)) (hb : Bd l h hn cap) :
    (Instr.sliceAt t (x.den E) (low.map (SV.den E)) (high.map (SV.den E)) none).run P w = .ok (.slice (if cap = ln then A else padd A (ln * q.size)) (hn - ln) (cap - ln)) w := by
  simp only [Instr.sliceAt, hx, Sem.run_bind, run_underlying hu, Result.andThen]
  simp only [Instr.slice, Sem.run_bind, run_underlying hu, Result.andThen, bounds_run (E := E) w true hh hl rfl hb, sizeOf, typeInfo]
  simp [hq, padd]

theorem bnd_le {low high : Option SV} {n : Nat} {h l : Option Int} {hn ln cap : Nat} (hh : bnd high n = some (h, hn)) (hl : bnd low 0 = some (l, ln)) (hb : Bd l h hn n) (hc : n ≤ cap) : ln ≤ hn ∧ hn ≤ n ∧ Bd l h hn cap := by
  obtain ⟨b1, b2⟩ := hb
  have h2 : ln ≤ hn := by
    unfold bnd at hl
    cases low with
    | none => simp only [Option.some.injEq, Prod.mk.injEq] at hl; obtain ⟨rfl, rfl⟩ := hl; omega
    | some y =>
      simp only at hl
      split at hl
      · simp only [Option.some.injEq, Prod.mk.injEq] at hl
        obtain ⟨rfl, rfl⟩ := hl
        simp only at b2
        omega
      · cases hl
  unfold bnd at hh
  cases high with
  | none => simp only [Option.some.injEq, Prod.mk.injEq] at hh; obtain ⟨rfl, rfl⟩ := hh; exact ⟨h2, Nat.le_refl _, trivial, b2⟩
  | some y =>
    simp only at hh
    split at hh
    · simp only [Option.some.injEq, Prod.mk.injEq] at hh
      obtain ⟨rfl, rfl⟩ := hh
      simp only at b1
      exact ⟨h2, by omega, ⟨b1.1, by omega⟩, b2⟩
    · cases hh

theorem own_sub {α : Type} {R : α → List Value → Prop} {sz : Nat} {c : Cfg TB} {G : Nat → Prop} {w : World} {m : Nm} {xs : List α} (h : Own R sz c G w m xs) {lo n : Nat} (hl : lo + n ≤ m.len) :
    Own R sz c G w (if m.cap = lo then ({ blk := m.blk, off := m.off, nil := m.nil, len := n, cap := m.cap - lo, odd := m.odd, fz := m.fz } : Nm) else { blk := m.blk, off := m.off + lo * sz, nil := m.nil, len := n, cap := m.cap - lo, odd := padd m.odd (lo * sz), fz := m.fz }) (subl xs lo n) := by
  have hcap := own_cap h
  obtain ⟨h1, h2, h3⟩ := h
  have hlen : (subl xs lo n).length = n := by unfold subl; simp; omega
  rcases h3 with ⟨h4, rfl, h6⟩ | ⟨h4, h5, h6, h7, arr, ty, h8, h9, h10⟩
  · have hlo : lo = 0 ∧ n = 0 := by simp at h1; omega
    obtain ⟨rfl, rfl⟩ := hlo
    rw [if_pos h6]
    exact ⟨by simp [subl], trivial, .inl ⟨h4, by simp [subl], by simp [h6]⟩⟩
  · by_cases hc : m.cap = lo
    · have hn : n = 0 := by omega
      subst hn
      rw [if_pos hc]
      exact ⟨by simp [subl], trivial, .inr ⟨h4, h5, h6, by simp [subl], arr, ty, h8, by simp only [hc, Nat.sub_self, Nat.zero_mul]; omega, by intro i x hx; simp [subl] at hx⟩⟩
    · rw [if_neg hc]
      have hm : (m.cap - lo) * sz + lo * sz = m.cap * sz := by rw [← Nat.add_mul]; congr 1; omega
      refine ⟨hlen.symm, trivial, .inr ⟨h4, h5, h6, by rw [hlen]; show n ≤ m.cap - lo; omega, arr, ty, h8, by show m.off + lo * sz + (m.cap - lo) * sz ≤ _; omega, fun i x hx => ?_⟩⟩
      simp only [subl] at hx
      rw [List.getElem?_take] at hx
      split at hx
      · rw [List.getElem?_drop] at hx
        have := h10 _ _ hx
        rw [Nat.add_mul] at this
        rw [Nat.add_assoc]
        exact this
      · cases hx
theorem sliceN_ok {o : Oper} {ρ : Operand → SV} {t : TypeId} {x : Operand} {l h : Option Operand} (hop : o.op = .slice t x l h none) {keep : Bool} {bs : Nat} (hlk : ∀ n e, lkp n = some e → look L n = some e) {v : SV} {ups : Ups}
    (hs : sliceN P lkp t (ρ x) (l.map ρ) (h.map ρ) keep bs pr = some (v, ups)) : RunOk TB P o ρ L v ups := by
  unfold sliceN at hs
  split at hs
  rotate_left
  · cases hs
  rename_i e hu
  split at hs
  rotate_left
  · cases hs
  rename_i q i hq hx
  have hmap : ∀ (E : Env) (y : Option Operand), y.map (fun x => (ρ x).den E) = (y.map ρ).map (SV.den E) := fun E y => by cases y <;> rfl
  split at hs
  · rename_i a xs hl
    cases keep with
    | true =>
      simp only at hs
      split at hs
      rotate_left
      · cases hs
      rename_i hc
      obtain ⟨hqa, hnew⟩ := hc
      split at hs
      rotate_left
      · cases hs
      rename_i hh hn ll ln hhb hlb
      split at hs
      rotate_left
      · cases hs
      rename_i hb
      simp only [pr, Option.some.injEq, Prod.mk.injEq] at hs
      obtain ⟨rfl, rfl⟩ := hs
      have hbs : look L bs = some .rsv := hlk _ _ (by have := newOk_spec hnew 0 (by omega); simpa using this)
      have hLi := hlk _ _ hl
      refine runOk_of fun c w E hH hw => ?_
      obtain ⟨G, hG⟩ := hH
      have hent : Own (Rp G w a) a.sz c G w (E.nm i) xs := hG.ent i _ hLi
      have hcap := own_cap hent
      have hlen := hent.1
      obtain ⟨c1, c2, c3⟩ := bnd_le hhb hlb hb (cap := (E.nm i).cap) (by omega)
      have hsub := own_sub hent (lo := ln) (n := hn - ln) (by omega)
      have hib : i ≠ bs := by intro he; rw [he, hbs] at hLi; cases hLi
      have hkill := hG.kill (look_lt hLi)
      have hbs2 : look (upd L (i, .dead)) bs = some .rsv := by rw [look_upd (look_lt hLi), if_neg (fun he => hib he.symm)]; exact hbs
      have hown : ∀ b, (Ent.row a (subl xs ln (hn - ln))).own (if (E.nm i).cap = ln then ({ blk := (E.nm i).blk, off := (E.nm i).off, nil := (E.nm i).nil, len := hn - ln, cap := (E.nm i).cap - ln, odd := (E.nm i).odd, fz := (E.nm i).fz } : Nm) else { blk := (E.nm i).blk, off := (E.nm i).off + ln * a.sz, nil := (E.nm i).nil, len := hn - ln, cap := (E.nm i).cap - ln, odd := padd (E.nm i).odd (ln * a.sz), fz := (E.nm i).fz }) = some b → (Ent.row a xs).own (E.nm i) = some b := by
        intro b hb
        split at hb <;> exact hb
      have h1 := hkill.change (i := bs) (e' := .row a (subl xs ln (hn - ln))) (m := _) (w' := w) (look_lt hbs2) (.refl _) (Nat.le_refl _) (fun hx => absurd hx (not_al hbs2)) rfl (fun _ _ _ => rfl)
        (fun b hb => by have := hG.ow_ok hLi (.inl (hown b hb)); exact ⟨this.2.1, this.1⟩)
        (fun k f hk hf b hb he => by
          rw [look_upd (look_lt hLi)] at hf
          by_cases hki : k = i
          · subst hki; simp only [if_true, Option.some.injEq] at hf; subst hf; rcases hb with hb | ⟨hb, _⟩ <;> cases hb
          · rw [if_neg hki] at hf
            exact hG.inj k i f _ b hki hf hLi hb (.inl (hown b he)))
        (fun _ => hsub)
      refine ⟨w, _, _, ?_, .inl rfl, ⟨G, h1⟩, fun n hn => ⟨E.set_ne _ (fun he => not_al (he ▸ hbs) hn), al_upd rfl n (al_upd rfl n hn)⟩, rfl, ⟨_, by show look (upd (upd L _) _) bs = _; rw [look_upd (look_lt hbs2), if_pos rfl], rfl⟩⟩
      simp only [execOp, hop, Option.map_none, hmap]
      refine run_next ?_
      rw [run_slicePart (E := E) (x := ρ x) (A := (E.nm i).ad) (len := xs.length) (cap := (E.nm i).cap) hu hq (by rw [hx]; simp [SV.den, hlen]) hhb hlb c3]
      simp only [SV.den, Env.set_eq]
      split
      · rename_i hcl; simp [Nm.ad]
      · simp only [Nm.ad, hqa]
        split
        · rfl
        · simp [padd, add_loc]
    | false =>
    simp only at hs
    split at hs
    rotate_left
    · cases hs
    rename_i hqa
    split at hs
    rotate_left
    · cases hs
    rename_i hh hn ll ln hhb hlb
    split at hs
    rotate_left
    · cases hs
    rename_i hb
    simp only [pr, Option.some.injEq, Prod.mk.injEq] at hs
    obtain ⟨rfl, rfl⟩ := hs
    refine runOk_of fun c w E hH hw => ?_
    obtain ⟨G, hG⟩ := hH
    have hent := hG.ent i _ (hlk _ _ hl)
    have hcap := own_cap hent
    have hlen := hent.1
    obtain ⟨c1, c2, c3⟩ := bnd_le hhb hlb hb (cap := (E.nm i).cap) (by omega)
    have hwx := hw x
    rw [hx] at hwx
    refine ⟨w, E, _, ?_, .inl rfl, ⟨G, hG⟩, fun n hn => ⟨rfl, hn⟩, rfl, ⟨hwx, by omega⟩⟩
    simp only [execOp, hop, Option.map_none, hmap]
    refine run_next ?_
    rw [run_slicePart (E := E) (x := ρ x) (A := (E.nm i).ad) (len := xs.length) (cap := (E.nm i).cap) hu hq (by rw [hx]; simp [SV.den, hlen]) hhb hlb c3]
    simp [SV.den, hqa]
  · rename_i a xs hl
    split at hs
    rotate_left
    · cases hs
    rename_i hc
    obtain ⟨hqa, hnew⟩ := hc
    split at hs
    rotate_left
    · cases hs
    rename_i hh hn ll ln hhb hlb
    split at hs
    rotate_left
    · cases hs
    rename_i hb
    simp only [pr, Option.some.injEq, Prod.mk.injEq] at hs
    obtain ⟨rfl, rfl⟩ := hs
    have hbs : look L bs = some .rsv := hlk _ _ (by have := newOk_spec hnew 0 (by omega); simpa using this)
    refine runOk_of fun c w E hH hw => ?_
    obtain ⟨G, hG⟩ := hH
    have hent : Shr (Rp G w a) a.sz G w (E.nm i) xs := hG.ent i _ (hlk _ _ hl)
    have hlen := hent.1
    obtain ⟨c1, c2, c3⟩ := bnd_le hhb hlb hb (cap := (E.nm i).cap) (by have := hent.2.1; omega)
    have hsub := shr_sub hent (lo := ln) (n := hn - ln) (by omega)
    have h1 := hG.change (i := bs) (e' := .shr a (subl xs ln (hn - ln))) (m := _) (w' := w) (look_lt hbs) (.refl _) (Nat.le_refl _) (fun hx => absurd hx (not_al hbs)) rfl (fun _ _ _ => rfl) (fun b hb => by cases hb) (fun _ _ _ _ _ _ hb => by cases hb) (fun _ => hsub)
    refine ⟨w, _, _, ?_, .inl rfl, ⟨G, h1⟩, fun n hn => ⟨E.set_ne _ (fun he => not_al (he ▸ hbs) hn), al_upd rfl n hn⟩, rfl, ⟨_, by show look (upd L _) bs = _; rw [look_upd (look_lt hbs), if_pos rfl], rfl⟩⟩
    simp only [execOp, hop, Option.map_none, hmap]
    refine run_next ?_
    rw [run_slicePart (E := E) (x := ρ x) (A := (E.nm i).ad) (len := xs.length) (cap := (E.nm i).cap) hu hq (by rw [hx]; simp [SV.den, hlen]) hhb hlb c3]
    simp only [SV.den, Env.set_eq]
    split
    · rename_i hcl; simp [Nm.ad]
    · simp only [Nm.ad, hqa]
      split
      · rfl
      · simp [padd, add_loc]
  · cases hs

theorem run_indexSlice {w : World} {t e : TypeId} {q : TypeInfo} {x i : SV} {E : Env} {p : Addr} {len cap : Nat} {n : Int} (hu : P.underlying t = some (.slice e)) (hq : P.info? e = some q) (hx : x.den E = .slice (some p) len cap) (hi : idxOf i = some n)
    (h0 : 0 ≤ n) (h1 : n < len) : (Instr.indexAt t (x.den E) (i.den E)).run P w = .ok (.pointer (some (p.add (n.toNat * q.size)))) w := by
  obtain ⟨k, hk⟩ := idxOf_den (E := E) hi
  rw [hk, hx]
  simp [Instr.indexAt, asIntOf, run_underlying hu, sizeOf, typeInfo, hq, h0, h1]
theorem run_indexArray {w : World} {t e : TypeId} {len : Nat} {q : TypeInfo} {x i : SV} {E : Env} {p : Addr} {n : Int} (hu : P.underlying t = some (.array len e)) (hq : P.info? e = some q) (hx : x.den E = .pointer (some p)) (hi : idxOf i = some n)
    (h0 : 0 ≤ n) (h1 : n < len) : (Instr.indexAt t (x.den E) (i.den E)).run P w = .ok (.pointer (some (p.add (n.toNat * q.size)))) w := by
  obtain ⟨k, hk⟩ := idxOf_den (E := E) hi
  rw [hk, hx]
  simp [Instr.indexAt, asIntOf, run_underlying hu, sizeOf, typeInfo, hq, h0, h1, Instr.sureAddr]

theorem indexN_ok {o : Oper} {ρ : Operand → SV} {t : TypeId} {x i : Operand} (hop : o.op = .indexAddr t x i) (hlk : ∀ n e, lkp n = some e → look L n = some e) {v : SV} {ups : Ups}
    (hs : indexN P lkp t (ρ x) (ρ i) pr = some (v, ups)) : RunOk TB P o ρ L v ups := by
  have whole : ∀ (j : Nat) (a : Ty) (xs : List a.T) (e : TypeId) (q : TypeInfo) (n : Int), P.underlying t = some (.slice e) → P.info? e = some q → idxOf (ρ i) = some n → ρ x = .slw j → (look L j = some (.row a xs) ∨ look L j = some (.shr a xs)) → q.size = a.sz → 0 ≤ n ∧ n < (xs.length : Int) →
      RunOk TB P o ρ L (.el j n.toNat a.sz 0) [] := by
    intro j a xs e q n hu hq hi hx hl hqa hn
    refine runOk_of fun c w E hH hw => ?_
    obtain ⟨G, hG⟩ := hH
    have hwx := hw x
    rw [hx] at hwx
    have hrd : Rd (Rp G w a) a.sz w (E.nm j) xs := by
      rcases hl with hl | hl
      · exact own_rd (hG.ent j _ hl)
      · exact shr_rd (hG.ent j _ hl)
    have hnil : (E.nm j).nil = false := by
      rcases hrd.2.2 with h | h
      · rw [h] at hn; simp at hn; omega
      · exact h.1
    refine ⟨w, E, _, ?_, .inl rfl, ⟨G, hG⟩, fun n hn => ⟨rfl, hn⟩, rfl, ⟨hwx, by rw [hrd.1]; omega, hnil⟩⟩
    simp only [execOp, hop]
    refine run_next ?_
    rw [run_indexSlice (p := ⟨(E.nm j).blk, (E.nm j).off, none⟩) hu hq (len := (E.nm j).len) (cap := (E.nm j).cap) (by rw [hx]; simp [SV.den, Nm.ad, hnil]) hi hn.1 (by rw [hrd.1]; exact hn.2)]
    simp [SV.den, add_loc, hqa]
  unfold indexN at hs
  split at hs
  · rename_i e n hu hi
    split at hs
    · rename_i q j hq hx
      split at hs
      · rename_i a xs hl
        split at hs
        rotate_left
        · cases hs
        rename_i hqa
        split at hs
        rotate_left
        · cases hs
        rename_i hn
        simp only [pr, Option.some.injEq, Prod.mk.injEq] at hs
        obtain ⟨rfl, rfl⟩ := hs
        exact whole j a xs e q n hu hq hi hx (.inl (hlk _ _ hl)) hqa hn
      · rename_i a xs hl
        split at hs
        rotate_left
        · cases hs
        rename_i hqa
        split at hs
        rotate_left
        · cases hs
        rename_i hn
        simp only [pr, Option.some.injEq, Prod.mk.injEq] at hs
        obtain ⟨rfl, rfl⟩ := hs
        exact whole j a xs e q n hu hq hi hx (.inr (hlk _ _ hl)) hqa hn
      · rename_i a xss hh hl
        split at hs
        rotate_left
        · cases hs
        rename_i hqa
        split at hs
        rotate_left
        · cases hs
        rename_i hn
        simp only [pr, Option.some.injEq, Prod.mk.injEq] at hs
        obtain ⟨rfl, rfl⟩ := hs
        refine runOk_of fun c w E hH hw => ?_
        obtain ⟨G, hG⟩ := hH
        have hwx := hw x
        rw [hx] at hwx
        have hd := hG.dp j _ _ _ (hlk _ _ hl)
        have hlen := hd.len
        have hnil : (E.nm j).nil = false := by
          rcases hd.cs with ⟨_, h2, _⟩ | ⟨h1, _⟩
          · rw [h2] at hn; simp at hn; omega
          · exact h1
        refine ⟨w, E, _, ?_, .inl rfl, ⟨G, hG⟩, fun n hn => ⟨rfl, hn⟩, rfl, ⟨hwx, by rw [hlen]; omega, hnil⟩⟩
        simp only [execOp, hop]
        refine run_next ?_
        rw [run_indexSlice (p := ⟨(E.nm j).blk, (E.nm j).off, none⟩) hu hq (len := (E.nm j).len) (cap := (E.nm j).cap) (by rw [hx]; simp [SV.den, Nm.ad, hnil]) hi hn.1 (by rw [hlen]; exact hn.2)]
        simp [SV.den, add_loc, hqa]
      · cases hs
    · rename_i q j lo len sz hq hx
      split at hs
      rotate_left
      · cases hs
      rename_i a xs hl
      split at hs
      rotate_left
      · cases hs
      rename_i hqa
      split at hs
      rotate_left
      · cases hs
      rename_i hn
      simp only [pr, Option.some.injEq, Prod.mk.injEq] at hs
      obtain ⟨rfl, rfl⟩ := hs
      refine runOk_of fun c w E hH hw => ?_
      obtain ⟨G, hG⟩ := hH
      have hwx := hw x
      rw [hx] at hwx
      obtain ⟨hal, hle⟩ := hwx
      have hlt : lo + n.toNat < (E.nm j).len := by omega
      have hrd := own_rd (hG.ent j _ (hlk _ _ hl))
      have hcap := hrd.2.1
      have hnil : (E.nm j).nil = false := by
        rcases hrd.2.2 with h | h
        · have := hrd.1; rw [h] at this; simp at this; omega
        · exact h.1
      refine ⟨w, E, _, ?_, .inl rfl, ⟨G, hG⟩, fun n hn => ⟨rfl, hn⟩, rfl, ⟨hal, hlt, hnil⟩⟩
      simp only [execOp, hop]
      refine run_next ?_
      have hne : ¬ (E.nm j).cap = lo := by omega
      rw [run_indexSlice (p := ⟨(E.nm j).blk, (E.nm j).off + lo * sz, none⟩) (len := len) (cap := (E.nm j).cap - lo) hu hq (by rw [hx]; simp [SV.den, Nm.ad, hnil, hne, padd, add_loc]) hi hn.1 hn.2]
      simp [SV.den, add_loc, hqa.1, Nat.add_mul, Nat.add_assoc]
    · cases hs
  · rename_i len e n hu hi
    split at hs
    · rename_i q j k sz off hq hx
      split at hs
      · rename_i a xs hl
        split at hs
        rotate_left
        · cases hs
        rename_i hqa
        obtain ⟨q1, q2, q3, q4⟩ := hqa
        split at hs
        rotate_left
        · cases hs
        rename_i hn
        obtain ⟨⟨n0, n1⟩, n2⟩ := hn
        simp only [pr, Option.some.injEq, Prod.mk.injEq] at hs
        obtain ⟨rfl, rfl⟩ := hs
        refine runOk_of fun c w E hH hw => ?_
        obtain ⟨G, hG⟩ := hH
        have hwx := hw x
        rw [hx] at hwx
        obtain ⟨hal, _, hnil⟩ := hwx
        have hlen := (hG.ent j _ (hlk _ _ hl)).1
        refine ⟨w, E, _, ?_, .inl rfl, ⟨G, hG⟩, fun n hn => ⟨rfl, hn⟩, rfl, ⟨hal, by omega, hnil⟩⟩
        simp only [execOp, hop]
        refine run_next ?_
        rw [run_indexArray (p := ⟨(E.nm j).blk, (E.nm j).off + (k * sz + off), none⟩) hu hq (by rw [hx]; rfl) hi n0 n1]
        subst q3; subst q4
        simp [SV.den, add_loc, q1]
      · cases hs
    · cases hs
  · cases hs

theorem lenS'_ok {c : Cfg TB} {w : World} {E : Env} (hH : Hd c w E L) (hlk : ∀ n e, lkp n = some e → look L n = some e) {x : SV} {n : Nat} (h : lenS' lkp x = some n) : ∃ a k, x.den E = .slice a n k := by
  obtain ⟨G, hG⟩ := hH
  unfold lenS' at h
  split at h
  · simp only [Option.some.injEq] at h; subst h; exact ⟨_, _, rfl⟩
  · split at h
    · rename_i i _ t xs hl
      simp only [Option.some.injEq] at h; subst h
      have := (hG.ent i _ (hlk _ _ hl)).1
      exact ⟨(E.nm i).ad, (E.nm i).cap, by simp [SV.den, this]⟩
    · rename_i i _ t xs hl
      simp only [Option.some.injEq] at h; subst h
      have := (hG.ent i _ (hlk _ _ hl)).1
      exact ⟨(E.nm i).ad, (E.nm i).cap, by simp [SV.den, this]⟩
    · rename_i i _ t xs _ hl
      simp only [Option.some.injEq] at h; subst h
      have := (hG.dp i _ _ _ (hlk _ _ hl)).len
      exact ⟨(E.nm i).ad, (E.nm i).cap, by simp [SV.den, this]⟩
    · cases h
  · simp only [Option.some.injEq] at h; subst h; exact ⟨_, _, rfl⟩
  · cases h

def XtOk (P : Program) (n : FuncId) (e : Xt) : Prop :=
  ∃ fn, P.funcs[n]? = some fn ∧ fn.body = none ∧ (fn.name == "runtime.NumGoroutine") = false ∧ Extern.findNext fn = none ∧ Extern.find fn = some e.sem
def Cx.Ok (P : Program) (cx : Cx) : Prop := (∀ n fi, cx.fns n = some fi → CallsV P cx.tb n fi) ∧ ∀ n e, lk cx.exts n = some e → XtOk P n e
theorem xtE_ok {E : Env} {P : Program} (w : World) {n : FuncId} {e : Xt} (hx : XtOk P n e) (args : List SV) : (xtE e args).ok fun v => (callFunc n (denL E args).toArray).run P w = .ok (.value (v.den E)) w := by
  obtain ⟨fn, h1, h2, h3, h4, h5⟩ := hx
  have hrun : ∀ v : Value, (e.sem (denL E args).toArray).run P w = .ok v w → (callFunc n (denL E args).toArray).run P w = .ok (.value v) w := by
    intro v hv
    have hp : (program : Sem Program).run P w = .ok P w := rfl
    unfold callFunc
    simp only [Sem.run_bind, hp, Result.andThen, h1, h3, h2, Option.isNone_none, if_true, Bool.false_eq_true, if_false, h4, h5]
    have hm : (mark (.extern n)).run P w = .ok () w := rfl
    rw [hm]
    simp only [hv]
    rfl
  unfold xtE
  split
  · rename_i o i
    refine ok_chk fun hb => hrun _ ?_
    obtain ⟨b, rfl⟩ := Option.isSome_iff_exists.1 hb.1
    have hb2 : b < 18446744073709551616 := hb.2
    show Result.ok (Value.int .u64 (b : Int)) w = _
    simp only [SV.den, BitVec.toNat_ofNat, Option.getD_some]
    rw [Nat.mod_eq_of_lt (by omega)]
  · rename_i b
    refine ok_chk fun hb => hrun _ ?_
    show Result.ok (Value.int .u64 (b : Int)) w = _
    simp only [SV.den, BitVec.toNat_ofNat]
    rw [Nat.mod_eq_of_lt (by omega)]
  · rename_i x
    refine ok_val (hrun _ ?_)
    show Result.ok (Value.float .f64 ((x.toNat : Int).toNat)) w = _
    rfl
  · exact ok_none
theorem xtE_wf {E : Env} {e : Xt} {args : List SV} {q : Option DP} {v : SV} (h : xtE e args = some (q, v)) : v.wf E L := by
  unfold xtE at h
  repeat' split at h
  all_goals first | (cases h; done) | (simp only [val, chk, Option.some.injEq, Prod.mk.injEq] at h; rw [← h.2]; trivial)

/-! Maps. -/
theorem find_map {kk : IntKind} (n : Int) (v : Bool) : ∀ (xs : List (Int × Bool)) (es : List MapEntry) (i : Nat), es.map (fun e => (e.key, e.val)) = xs.map (fun q => ((.int .i64 q.1 : Value), (.bool q.2 : Value))) →
    (Instr.findNow (.int kk) (.int .i64 n) es i = some none ∧ mget xs n = none ∧ mset xs n v = xs ++ [(n, v)]) ∨
    ∃ j b e, Instr.findNow (.int kk) (.int .i64 n) es i = some (some (i + j, .bool b)) ∧ mget xs n = some b ∧ es[j]? = some e ∧ e.key = .int .i64 n ∧
      (es.modify j fun e => { e with key := .int .i64 n, val := .bool v }).map (fun e => (e.key, e.val)) = (mset xs n v).map (fun q => ((.int .i64 q.1 : Value), (.bool q.2 : Value)))
  | [], [], _, _ => .inl ⟨rfl, rfl, rfl⟩
  | [], _ :: _, _, h => by simp at h
  | _ :: _, [], _, h => by simp at h
  | (a, b) :: r, e :: es, i, h => by
    simp only [List.map_cons, List.cons.injEq, Prod.mk.injEq] at h
    obtain ⟨⟨h1, h2⟩, h3⟩ := h
    have hs : Instr.sameNow (.int kk) (.int .i64 n) e.key = some (n == a) := by rw [h1]; simp [Instr.sameNow]
    by_cases hna : n = a
    · subst hna
      refine .inr ⟨0, b, e, ?_, by simp [mget], rfl, h1, ?_⟩
      · simp [Instr.findNow, hs, h2]
      · simp [mset, h3]
    · have hs' : Instr.sameNow (.int kk) (.int .i64 n) e.key = some false := by rw [hs]; simp [hna]
      rcases find_map (kk := kk) n v r es (i + 1) h3 with ⟨k1, k2, k3⟩ | ⟨j, b', e', k1, k2, k3, k4, k5⟩
      · refine .inl ⟨by simp [Instr.findNow, hs', k1], by simp [mget, hna, k2], by simp [mset, hna, k3]⟩
      · refine .inr ⟨j + 1, b', e', ?_, by simp [mget, hna, k2], by simpa using k3, k4, ?_⟩
        · simp only [Instr.findNow, hs', k1]
          congr 3; omega
        · simp only [mset, if_neg hna, List.modify_succ_cons, List.map_cons, k5, h1, h2]
theorem isMapT_spec {t : TypeId} (h : isMapT P t = true) : ∃ k e kk, P.underlying t = some (.map k e) ∧ P.underlying k = some (.int kk) ∧ ∀ w : World, (zeroValue e).run P w = .ok (.bool false) w := by
  unfold isMapT at h
  split at h
  · rename_i k e hu
    split at h
    · rename_i kk q h1 h2
      split at h
      · rename_i h3
        exact ⟨k, e, kk, hu, h1, fun w => by simp [zeroValue, typeInfo, h2, h3]⟩
      · cases h
    · cases h
  · cases h
theorem run_getObj {w : World} {r : Nat} {es : Array MapEntry} {ck : Nat} (h : w.heap[r]? = some (.map es ck)) : (getObj r).run P w = .ok (.map es ck) w := by simp [getObj, Sem.run, h]
theorem run_checkKey {k : TypeId} {kk : IntKind} (hk : P.underlying k = some (.int kk)) (em : Bool) (v : Value) (w : World) : (Instr.checkKey em 10000 k v).run P w = .ok () w := by
  rw [show (10000 : Nat) = 9999 + 1 from rfl, Instr.checkKey]
  simp [run_underlying hk]
theorem makeMapE_ok {o : Oper} {ρ : Operand → SV} {t : TypeId} (hop : o.op = .makeMap t none) {bs : Nat} (hlk : ∀ n e, lkp n = some e → look L n = some e) {v : SV} {ups : Ups}
    (h : makeMapE lkp bs pr = some (v, ups)) : RunOk TB P o ρ L v ups := by
  unfold makeMapE at h
  split at h
  rotate_left
  · cases h
  rename_i hnew
  have hbs : look L bs = some .rsv := hlk _ _ (by have := newOk_spec hnew 0 (by omega); simpa using this)
  simp only [pr, Option.some.injEq, Prod.mk.injEq] at h
  obtain ⟨rfl, rfl⟩ := h
  refine runOk_of fun c w E hh hw => ?_
  obtain ⟨G, hG⟩ := hh
  obtain ⟨k1, k2⟩ := hG.newBlk hbs (w' := w.alloc (.map #[] 0)) (ob := .map #[] 0) rfl ⟨rfl, rfl, rfl⟩ (e := .map []) (m := ⟨w.heap.size, 0, false, 0, 0, none⟩) rfl ⟨rfl, rfl, rfl⟩
    (fun hnew hold hG hsame => ⟨rfl, rfl, hG, hold, _, _, hnew, rfl⟩)
  refine ⟨w.alloc (.map #[] 0), _, .value (.map (some w.heap.size)), ?_, .inl ?_, ⟨G, k1⟩, k2, rfl, ?_⟩
  · simp only [execOp, hop]
    refine run_next ?_
    rfl
  · simp only [SV.den, Env.set_eq]
  · exact ⟨.map [], by show look (upd L (bs, .map [])) bs = _; rw [look_upd (look_lt hbs), if_pos rfl], rfl⟩
/-- A new row that nobody writes. -/
theorem Holds.newShr {c : Cfg TB} {G : Nat → Prop} {w w' : World} {E : Env} (h : Holds c G w E L) {bs : Nat} (hl : look L bs = some .rsv) (hsz : w'.heap.size = w.heap.size + 1) (hold : ∀ b, b < w.heap.size → w'.heap[b]? = w.heap[b]?) (hr : Rest w w') {a : Ty} {xs : List a.T} {m : Nm}
    (hs : Shr (Rp (fun b => G b ∨ b = w.heap.size) w' a) a.sz (fun b => G b ∨ b = w.heap.size) w' m xs) :
    Holds c (fun b => G b ∨ b = w.heap.size) w' (E.set bs m) (upd L (bs, .shr a xs)) ∧ (∀ n, Al L n → (E.set bs m).nm n = E.nm n ∧ Al (upd L (bs, .shr a xs)) n) := by
  have hno : ¬ c.Old w.heap.size := fun hx => by have := hx.1; have := h.size; omega
  have h1 : Holds c (fun b => G b ∨ b = w.heap.size) w' E L := by
    refine h.after hr (by omega) (fun b hb => hold b (Nat.lt_of_lt_of_le hb.1 h.size)) (fun b hb => hold b (h.gin b hb)) (fun _ hb => .inl hb) ?_ ?_ ?_
    · rintro b (hb | rfl)
      · have := h.gin b hb; omega
      · omega
    · rintro b (hb | rfl)
      · exact .inl hb
      · exact .inr hno
    · intro n e b he hb
      have hlt := h.ow_lt he hb
      refine ⟨hold b hlt, ?_⟩
      rintro (hx | rfl)
      · exact (h.ow_ok he hb).1 hx
      · omega
  refine ⟨h1.change (look_lt hl) (.refl _) (Nat.le_refl _) (fun ha => absurd ha (not_al hl)) rfl (fun _ _ _ => rfl) (fun b hb => by cases hb) (fun _ _ _ _ _ _ hb => by cases hb) (fun _ => hs), fun n hn => ⟨E.set_ne _ (fun he => not_al (he ▸ hl) hn), al_upd rfl n hn⟩⟩
theorem sbytes_len (s : ByteArray) : (sbytes s).length = s.size := by
  unfold sbytes; simp
theorem isU8_spec {e : TypeId} (h : isU8 P e = true) : P.underlying e = some (.int .u8) := by
  unfold isU8 at h
  split at h
  · assumption
  · cases h
theorem u8_cells {G : Nat → Prop} {w : World} {xs : List Int} {cells : List Value} (hl : cells.length = xs.length) (h : RowsIn (Rp G w (.int .u8)) 1 cells.toArray 0 xs) : cells = xs.map (Value.int .u8) := by
  apply List.ext_getElem?
  intro j
  rw [List.getElem?_map]
  rcases Nat.lt_or_ge j xs.length with hj | hj
  · have h1 := h j xs[j] (List.getElem?_eq_getElem hj)
    have h2 : cellsAt cells.toArray (0 + j * 1) 1 = [.int .u8 xs[j]] := h1
    have h3 : (cellsAt cells.toArray (0 + j * 1) 1)[0]? = some (.int .u8 xs[j]) := by rw [h2]; rfl
    rw [cellsAt_get, if_pos (by omega)] at h3
    rw [List.getElem?_eq_getElem hj, Option.map_some, ← h3]
    simp
  · rw [List.getElem?_eq_none (by omega), List.getElem?_eq_none hj]; rfl
theorem convB_ok {o : Oper} {ρ : Operand → SV} {s d : TypeId} {x : Operand} (hop : o.op = .convert s d x) {kp : Bool} {bs : Nat} (hlk : ∀ n e, lkp n = some e → look L n = some e) {v : SV} {ups : Ups}
    (h : convB P lkp s d (ρ x) kp bs pr = some (v, ups)) : RunOk TB P o ρ L v ups := by
  have hr0 : ∀ E : Env, execOp (fun x => (ρ x).den E) o = (do pure (Next.value (← convert s d ((ρ x).den E))) : Sem Next) := by
    intro E; simp only [execOp, hop]
  unfold convB at h
  split at h
  · rename_i e hs hd
    split at h
    rotate_left
    · cases h
    rename_i hu
    have hu := isU8_spec hu
    split at h
    · cases h
    rename_i hnd
    split at h
    rotate_left
    · cases h
    rename_i xs ne u hp
    simp only [pr, Option.some.injEq, Prod.mk.injEq] at h
    obtain ⟨rfl, rfl⟩ := h
    refine runOk_of fun c w E hh hw => ?_
    obtain ⟨G, hG⟩ := hh
    have hrd : Rd (Rp G w (.int .u8)) (Ty.int .u8).sz w (ne.nm E) xs := by
      refine packS_rd hp (by simp) hnd (hw x) ?_
      rintro i t ys (hl | hl)
      · exact shr_rd (hG.ent i _ (hlk _ _ hl))
      · exact own_rd (hG.ent i _ (hlk _ _ hl))
    obtain ⟨cells, c1, c2, c3, _⟩ := rd_first (P := P) hrd
    have hsz : (Ty.int .u8).sz = 1 := rfl
    rw [hsz, Nat.mul_one] at c1
    have hc : cells = xs.map (Value.int .u8) := u8_cells c1 (by
      refine c3 cells.toArray 0 ?_
      rw [hsz, Nat.mul_one]
      unfold cellsAt
      rw [List.drop_zero, List.take_of_length_le (by simp; omega)])
    have hden := packS_den hp E
    have hlen : (ne.nm E).len = xs.length := hrd.1
    refine ⟨w, E, .value (.string (bstr xs)), ?_, .inl rfl, ⟨G, hG⟩, fun n hn => ⟨rfl, hn⟩, rfl, trivial⟩
    rw [hr0]
    refine run_next ?_
    rw [hden, run_convert_bytes_string w s d e _ _ _ hs hu hd]
    have hc2 := c2 w rfl
    cases had : (ne.nm E).ad with
    | none =>
      rw [had] at hc2
      have hxs : xs = [] := by
        have : (Builtin.firstCells (Ty.int .u8).sz xs.length (.slice none (ne.nm E).len (ne.nm E).cap) : Sem _) = pure #[] := rfl
        rw [this] at hc2
        have hc3 : cells.toArray = #[] := by
          have : (Result.ok (#[] : Array Value) w) = .ok cells.toArray w := hc2
          simp only [Result.ok.injEq] at this
          exact this.1.symm
        have : cells.length = 0 := by have := congrArg Array.size hc3; simpa using this
        exact List.length_eq_zero_iff.1 (by omega)
      subst hxs
      rfl
    | some p =>
      rw [had] at hc2
      have hc4 : (loadCells p (xs.length * 1)).run P w = .ok cells.toArray w := hc2
      rw [Nat.mul_one] at hc4
      rw [hlen]
      exact run_bytesToString w p xs.length _ xs (by rw [hc4, hc])
  · rename_i e hs hd
    split at h
    rotate_left
    · cases h
    rename_i hc
    simp only [Bool.and_eq_true] at hc
    obtain ⟨hu, hnew⟩ := hc
    have hu := isU8_spec hu
    split at h
    rotate_left
    · cases h
    rename_i t hx
    simp only [pr, Option.some.injEq, Prod.mk.injEq] at h
    obtain ⟨rfl, rfl⟩ := h
    have hbs : look L bs = some .rsv := hlk _ _ (by have := newOk_spec hnew 0 (by omega); simpa using this)
    refine runOk_of fun c w E hh hw => ?_
    obtain ⟨G, hG⟩ := hh
    have hcap : t.size ≤ grownCap w t.size 0 e := by
      unfold grownCap Question.cut; simp only; omega
    let m : Nm := { blk := w.heap.size, off := 0, nil := false, len := t.size, cap := grownCap w t.size 0 e, odd := none, fz := ⟨true⟩ }
    have hrow : RowsIn (Rp G (Lib.bytesWorld w e t) (.int .u8)) (Ty.int .u8).sz (Lib.bytesCells w e t) 0 (sbytes t) := by
      intro i y hy
      have hi : i < t.size := by
        rw [← sbytes_len t]
        rcases Nat.lt_or_ge i (sbytes t).length with h' | h'
        · exact h'
        · rw [List.getElem?_eq_none h'] at hy; cases hy
      show cellsAt _ (0 + i * 1) 1 = [.int .u8 y]
      apply List.ext_getElem?
      intro j
      rw [cellsAt_get]
      cases j with
      | zero =>
        rw [if_pos (by omega)]
        unfold sbytes at hy
        rw [List.getElem?_map] at hy
        unfold Lib.bytesCells
        rw [Array.getElem?_append_left (by simp; omega), Array.getElem?_map]
        simp only [Nat.zero_add, Nat.mul_one, Nat.add_zero, List.getElem?_cons_zero]
        rw [← Array.getElem?_toList]
        cases hg : t.data.toList[i]? with
        | none => rw [hg] at hy; cases hy
        | some b => rw [hg] at hy; simp only [Option.map_some, Option.some.injEq] at hy ⊢; rw [hy]
      | succ j => rw [if_neg (by omega)]; rfl
    have hcs : (Lib.bytesCells w e t).size = grownCap w t.size 0 e := by
      unfold Lib.bytesCells
      rw [Array.size_append, Array.size_map, Array.size_replicate, ByteArray.size_data]; omega
    have hpush : (Lib.bytesWorld w e t).heap = w.heap.push (.cells (Lib.bytesCells w e t) e ((Lib.bytesCells w e t).size, (Lib.bytesCells w e t).size + 1)) := by
      apply Array.ext_getElem?
      intro k
      rw [Array.getElem?_push]
      by_cases hk : k = w.heap.size
      · rw [if_pos hk, hk]; exact Lib.bytesWorld_at_new w e t
      · rw [if_neg hk]
        rcases Nat.lt_or_ge k w.heap.size with hk' | hk'
        · exact Lib.bytesWorld_at_old w e t k hk'
        · rw [Array.getElem?_eq_none hk', Array.getElem?_eq_none (by rw [Lib.bytesWorld_size]; omega)]
    obtain ⟨k1, k2⟩ := hG.newBlk hbs (w' := Lib.bytesWorld w e t) hpush ⟨rfl, rfl, rfl⟩ (e := .row (.int .u8) (sbytes t)) (m := m) rfl ⟨rfl, rfl, rfl⟩ (fun hb ho hg hs => by
      refine ⟨(sbytes_len t).symm, trivial, .inr ⟨rfl, hg, ho, ?_, Lib.bytesCells w e t, e, hb, ?_, hrow⟩⟩
      · rw [sbytes_len]; exact hcap
      · show 0 + grownCap w t.size 0 e * 1 ≤ _
        rw [hcs]; omega)
    obtain ⟨f1, f2, f3⟩ := hd_finish kp (look_lt hbs) k1
    refine ⟨Lib.bytesWorld w e t, E.set bs m, .value (.slice (some ⟨w.heap.size, 0, none⟩) t.size (grownCap w t.size 0 e)), ?_, .inl ?_, f1, fun n hn => ⟨(k2 n hn).1, f2 n (k2 n hn).2⟩, rfl, ?_⟩
    · rw [hr0, hx]
      refine run_next ?_
      exact Lib.run_convert_string_bytes w s d e t hs hd hu
    · simp only [SV.den, Env.set_eq]; rfl
    · exact f3
  · cases h
/-- A quotient that may be none. -/
theorem quoN_ok {o : Oper} {ρ : Operand → SV} {t rt : TypeId} {x y : Operand} (hop : o.op = .binOp .quo t x y rt) {a b : Nat} (hx : ρ x = .flt a) (hy : ρ y = .flt b) {bs : Nat} (hlk : ∀ n e, lkp n = some e → look L n = some e) (hnew : newOk lkp bs 1 = true) :
    RunOk TB P o ρ L (.nf (fArith .quo a b) bs) [(bs, .dead)] := by
  have hbs : look L bs = some .rsv := hlk _ _ (by have := newOk_spec hnew 0 (by omega); simpa using this)
  refine runOk_of fun c w E hh hw => ?_
  obtain ⟨G, hG⟩ := hh
  have hal : ∀ (m : Nm) (n : Nat), Al L n → (E.set bs m).nm n = E.nm n ∧ Al (updL L [(bs, .dead)]) n := fun m n hn => ⟨E.set_ne _ (fun he => not_al (he ▸ hbs) hn), al_upd rfl n hn⟩
  have hwf : SV.wf E (updL L [(bs, .dead)]) (.nf (fArith .quo a b) bs) := ⟨.dead, by show look (upd L (bs, .dead)) bs = _; rw [look_upd (look_lt hbs), if_pos rfl], rfl⟩
  have hch : ∀ (m : Nm) (w' : World), w'.heap = w.heap → Rest w w' → Holds c G w' (E.set bs m) (upd L (bs, .dead)) := fun m w' hh hr =>
    hG.change (look_lt hbs) hr (by rw [hh]; exact Nat.le_refl _) (fun ha => absurd ha (not_al hbs)) rfl (fun b _ _ => by rw [hh]) (fun b hb => by cases hb) (fun _ _ _ _ _ _ hb => by cases hb) (fun _ => trivial)
  have hr0 : (execOp (fun x => (ρ x).den E) o) = (do pure (Next.value (← Op.floatArith .quo .f64 a b)) : Sem Next) := by
    simp only [execOp, hop, hx, hy, SV.den]; rfl
  cases hq : fArith .quo a b with
  | some r =>
    rw [hq] at hwf
    refine ⟨w, E.set bs ⟨0, 0, true, 0, 0, none⟩, .value (.float .f64 r), ?_, .inl rfl, ⟨G, hch _ w rfl (.refl _)⟩, hal _, rfl, hwf⟩
    rw [hr0]
    refine run_next ?_
    simp only [fArith] at hq
    simp [Op.floatArith, hq]
  | none =>
    rw [hq] at hwf
    let T := w.tape w.drawn (.nanBits .f64 a b)
    refine ⟨{ w with drawn := w.drawn + 1 }, E.set bs ⟨T, 0, true, 0, 0, none⟩, .value (.float .f64 (nanOf T)), ?_, .inl ?_, ⟨G, hch _ _ rfl ⟨rfl, rfl, rfl⟩⟩, hal _, rfl, hwf⟩
    · rw [hr0]
      refine run_next ?_
      simp only [fArith] at hq
      simp only [Op.floatArith, hq]
      rfl
    · simp only [SV.den, Env.set_eq, Option.getD_none]
theorem lookupE_ok {o : Oper} {ρ : Operand → SV} {t : TypeId} {x i : Operand} {ok : Bool} (hop : o.op = .lookup t x i ok) (hlk : ∀ n e, lkp n = some e → look L n = some e) {v : SV} {ups : Ups}
    (h : lookupE P lkp t (ρ x) (ρ i) ok pr = some (v, ups)) : RunOk TB P o ρ L v ups := by
  unfold lookupE at h
  split at h
  rotate_left
  · cases h
  rename_i j n hx hi
  split at h
  rotate_left
  · cases h
  rename_i xs hl
  split at h
  rotate_left
  · cases h
  rename_i hm
  obtain ⟨k, e, kk, u1, u2, u3⟩ := isMapT_spec hm
  obtain ⟨V, hV⟩ : ∃ V : SV, V = (if ok = true then SV.tup [.bool ((mget xs n).getD false), .bool (mget xs n).isSome] else .bool ((mget xs n).getD false)) := ⟨_, rfl⟩
  have hv : v = V ∧ ups = [] := by
    cases ok <;> (simp only [pr, Option.some.injEq, Prod.mk.injEq] at h; exact ⟨by rw [hV]; exact h.1.symm, h.2.symm⟩)
  clear h
  obtain ⟨rfl, rfl⟩ := hv
  subst hV
  refine runOk_of fun c w E hh hw => ?_
  obtain ⟨G, hG⟩ := hh
  obtain ⟨-, -, -, -, es, ck, h5, h6⟩ := hG.ent j _ (hlk _ _ hl)
  refine ⟨w, E, _, ?_, .inl rfl, ⟨G, hG⟩, fun n hn => ⟨rfl, hn⟩, rfl, by cases ok <;> simp [SV.wf, wfL]⟩
  simp only [execOp, hop, hx, hi]
  refine run_next ?_
  have hfind : ∃ r : Option (Nat × Value), (Instr.findKey k (.int .i64 n) es.toList).run P w = .ok r w ∧ r.map (·.2) = (mget xs n).map Value.bool := by
    rcases find_map (kk := kk) n false xs es.toList 0 h6 with ⟨k1, k2, _⟩ | ⟨j', b, e', k1, k2, _⟩
    · exact ⟨none, by simp [Instr.findKey, run_underlying u2, k1], by simp [k2]⟩
    · exact ⟨some (0 + j', .bool b), by simp [Instr.findKey, run_underlying u2, k1], by simp [k2]⟩
  obtain ⟨r, hr1, hr2⟩ := hfind
  simp only [Instr.lookup, Sem.run_bind, run_underlying u1, Result.andThen, SV.den, run_getObj h5, Sem.run_pure, run_checkKey u2, hr1]
  cases r with
  | none =>
    have hg : mget xs n = none := by cases hx : mget xs n with
      | none => rfl
      | some b => rw [hx] at hr2; cases hr2
    cases ok <;> simp [u3, hg, SV.den, denL]
  | some q =>
    obtain ⟨q1, q2⟩ := q
    have hg : ∃ b, mget xs n = some b ∧ q2 = .bool b := by cases hx : mget xs n with
      | none => rw [hx] at hr2; cases hr2
      | some b => rw [hx] at hr2; simp at hr2; exact ⟨b, rfl, hr2⟩
    obtain ⟨b, hg, rfl⟩ := hg
    cases ok <;> simp [hg, SV.den, denL]
theorem mapSetE_ok {o : Oper} {ρ : Operand → SV} {t : TypeId} {x i y : Operand} (hop : o.op = .mapUpdate t x i y) (hlk : ∀ n e, lkp n = some e → look L n = some e) {v : SV} {ups : Ups}
    (h : mapSetE P lkp t (ρ x) (ρ i) (ρ y) pr = some (v, ups)) : RunOk TB P o ρ L v ups := by
  unfold mapSetE at h
  split at h
  rotate_left
  · cases h
  rename_i j n b hx hi hb
  split at h
  rotate_left
  · cases h
  rename_i xs hl
  split at h
  rotate_left
  · cases h
  rename_i hm
  obtain ⟨k, e, kk, u1, u2, u3⟩ := isMapT_spec hm
  simp only [pr, Option.some.injEq, Prod.mk.injEq] at h
  obtain ⟨rfl, rfl⟩ := h
  refine runOk_of fun c w E hh hw => ?_
  obtain ⟨G, hG⟩ := hh
  have hL := hlk _ _ hl
  obtain ⟨e1, e2, e3, e4, es, ck, h5, h6⟩ := hG.ent j _ hL
  have hbd : (ρ y).den E = .bool b := toB_den hb
  have hlt := blk_lt h5
  have key : ∃ es' ck', (Instr.mapUpdate t (.map (some (E.nm j).blk)) (.int .i64 n) (.bool b)).run P w = .ok () { w with heap := w.heap.setIfInBounds (E.nm j).blk (.map es' ck') } ∧ MapIs es' (mset xs n b) := by
    rcases find_map (kk := kk) n b xs es.toList 0 h6 with ⟨k1, k2, k3⟩ | ⟨j', b', e', k1, k2, k3, k4, k5⟩
    · refine ⟨es.push { key := .int .i64 n, val := .bool b, born := ck }, ck + 1, ?_, ?_⟩
      · have hf : (Instr.findKey k (.int .i64 n) es.toList).run P w = .ok none w := by simp [Instr.findKey, run_underlying u2, k1]
        simp only [Instr.mapUpdate, Sem.run_bind, run_underlying u1, Result.andThen, run_getObj h5, run_checkKey u2, hf]
        simp [setObj, Sem.run, h5]
      · unfold MapIs at h6 ⊢
        rw [Array.toList_push, List.map_append, h6, k3]; simp
    · refine ⟨es.modify j' fun e => { e with key := .int .i64 n, val := .bool b }, ck, ?_, ?_⟩
      · have hf : (Instr.findKey k (.int .i64 n) es.toList).run P w = .ok (some (j', .bool b')) w := by simp [Instr.findKey, run_underlying u2, k1]
        have hk : ∀ o, (es[j']?).map (·.key) = some o → (Instr.keyThatStays o (.int .i64 n)).run P w = .ok (.int .i64 n) w := by
          intro o ho
          have : es[j']? = some e' := by simpa using k3
          rw [this] at ho
          simp only [Option.map_some, Option.some.injEq] at ho
          subst ho
          rw [k4]
          simp [Instr.keyThatStays, Instr.sameBits]
        have hk' : (es[j']?).map (·.key) = some (.int .i64 n) := by
          have : es[j']? = some e' := by simpa using k3
          rw [this]; simp [k4]
        simp only [Instr.mapUpdate, Sem.run_bind, run_underlying u1, Result.andThen, run_getObj h5, run_checkKey u2, hf, hk', Option.getD_some, hk _ hk']
        simp [setObj, Sem.run, h5]
      · unfold MapIs
        rw [← k5, Array.toList_modify]
  obtain ⟨es', ck', r1, r2⟩ := key
  let w' : World := { w with heap := w.heap.setIfInBounds (E.nm j).blk (.map es' ck') }
  have hsame : ∀ b, b ≠ (E.nm j).blk → w'.heap[b]? = w.heap[b]? := fun b hb => by
    show (w.heap.setIfInBounds _ _)[b]? = _
    rw [Array.getElem?_setIfInBounds, if_neg (fun h => hb h.symm)]
  have hnew : w'.heap[(E.nm j).blk]? = some (.map es' ck') := by
    show (w.heap.setIfInBounds _ _)[_]? = _
    rw [Array.getElem?_setIfInBounds, if_pos rfl, if_pos hlt]
  have k1 := hG.change (w' := w') (look_lt hL) ⟨rfl, rfl, rfl⟩ (by simp [w']) (fun _ => rfl) (e' := .map (mset xs n b)) (m := E.nm j) rfl
    (fun b _ hb => hsame b (fun he => hb (by simp [Ent.own, he])))
    (fun b hb => by simp only [Ent.own, Option.some.injEq] at hb; subst hb; exact ⟨e4, e3⟩)
    (fun k f hk hf b hb he => hG.inj k j f _ b hk hf hL hb (.inl he))
    (fun _ => ⟨e1, e2, e3, e4, es', ck', hnew, r2⟩)
  have hE : E.set j (E.nm j) = E := by
    refine env_ext (fun k => ?_) rfl (fun _ => rfl)
    by_cases hk : k = j
    · subst hk; rw [Env.set_eq]
    · rw [Env.set_ne _ _ hk]
  rw [hE] at k1
  refine ⟨w', E, .skip, ?_, .inr ⟨rfl, rfl⟩, ⟨G, k1⟩, fun n hn => ⟨rfl, al_upd rfl n hn⟩, rfl, trivial⟩
  simp only [execOp, hop, hx, hi, hbd, SV.den]
  simp only [Sem.run_bind, r1, Result.andThen]
  rfl

theorem memE_ok {cx : Cx} (hcx : cx.Ok P) {o : Oper} {ρ : Operand → SV} (hlk : ∀ n e, lkp n = some e → look L n = some e) {v : SV} {ups : Ups} (h : memE P cx lkp o.dst ρ pr o.op = some (v, ups)) : RunOk cx.tb P o ρ L v ups := by
  generalize hop : o.op = op at h
  unfold memE at h
  split at h
  · split at h
    · exact loadT_ok hop (by assumption) h
    · exact loadE_ok hop hlk h
  · exact storeE_ok hop hlk h
  · exact allocE_ok hop hlk h
  · exact boxE_ok hop hlk h
  · split at h
    · exact buildD_ok hop hlk h
    · exact buildSliceE_ok hop hlk h
  · split at h
    · exact makeD_ok hop hlk h
    · exact makeSliceE_ok hop hlk h
  · exact sliceN_ok hop hlk h
  · exact indexN_ok hop hlk h
  · rename_i args ts
    split at h
    rotate_left
    · cases h
    rename_i x t hargs hts
    split at h
    rotate_left
    · cases h
    rename_i e n hu hn
    simp only [pr, Option.some.injEq, Prod.mk.injEq] at h
    obtain ⟨rfl, rfl⟩ := h
    refine runOk_of fun c w E hH hw => ?_
    obtain ⟨a, k, hx⟩ := lenS'_ok hH hlk hn
    refine ⟨w, E, .value ((SV.int .i64 n).den E), ?_, .inl rfl, hH, fun n hn => ⟨rfl, hn⟩, rfl, trivial⟩
    have hts' : ts = #[t] := by apply Array.ext'; rw [hts]
    have hargs' : (args.map fun x => (ρ x).den E) = #[.slice a n k] := by
      apply Array.ext'
      have : (args.toList.map ρ).map (SV.den E) = [.slice a n k] := by rw [hargs]; simp [hx]
      rw [List.map_map] at this
      rw [Array.toList_map]
      exact this
    simp only [execOp, hop, resolve, invoke, Sem.run_bind, Sem.run_pure, Result.andThen, hargs', hts', builtin]
    simp [Builtin.len_, run_underlying hu, goInt, SV.den]
  · rename_i args ts
    split at h
    · rename_i x y hargs
      split at h
      · exact appendD_ok hop hargs hlk h
      · exact appendE_ok hop hargs hlk (by assumption) h
    · cases h
  · exact makeMapE_ok hop hlk h
  · exact convB_ok hop hlk h
  · split at h
    rotate_left
    · cases h
    rename_i a b hx hy
    split at h
    rotate_left
    · cases h
    rename_i hnew
    simp only [pr, Option.some.injEq, Prod.mk.injEq] at h
    obtain ⟨rfl, rfl⟩ := h
    exact quoN_ok hop hx hy hlk hnew
  · exact lookupE_ok hop hlk h
  · exact mapSetE_ok hop hlk h
  · rename_i f args ts
    split at h
    rotate_left
    · cases h
    rename_i n cs hf
    have hfd := fun E => fnOf_den hf E
    split at h
    rotate_left
    · split at h
      rotate_left
      · cases h
      rename_i e he
      have fin : ∀ q : Option DP, xtE e (args.toList.map ρ ++ cs) = some (q, v) → cnd q → ups = [] → RunOk cx.tb P o ρ L v ups := by
        rintro q hq hc rfl
        refine runOk_of fun c w E hH hw => ⟨w, E, _, ?_, .inl rfl, hH, fun n hn => ⟨rfl, hn⟩, rfl, xtE_wf hq⟩
        rw [← xtE_ok (E := E) w (hcx.2 n e he) (args.toList.map ρ ++ cs) q v hq hc]
        simp only [execOp, hop, resolve, invoke, Sem.run_bind, hfd, Deferred.ofValue, Sem.run_pure, Result.andThen]
        congr 2
        apply Array.ext'
        simp [denL_map, Function.comp_def]
      split at h
      · rename_i u hq
        simp only [pr, Option.some.injEq, Prod.mk.injEq] at h
        obtain ⟨rfl, rfl⟩ := h
        exact fin none hq trivial rfl
      · rename_i q u hq
        have := q.d
        by_cases hp : q.p
        · simp only [hp, if_true, pr, Option.some.injEq, Prod.mk.injEq] at h
          obtain ⟨rfl, rfl⟩ := h
          exact fin (some q) hq hp rfl
        · simp [hp] at h
      · cases h
    rename_i fi hfi
    intro c w E hH hw a next Q ha hn
    show o.upon P a next Q ((execOp a.eval o).run P w)
    have hrun : (execOp (fun x => (ρ x).den E) o).run P w = .ok (.enter n (denL E (args.toList.map ρ ++ cs)).toArray) w := by
      rw [← (hcx.1 n fi hfi).1]
      simp only [execOp, hop, resolve, invoke, Sem.run_bind, hfd, Deferred.ofValue, Sem.run_pure, Result.andThen]
      congr 2
      apply Array.ext'
      simp [denL_map, Function.comp_def]
    rw [ha, hrun]
    have hwl : wfL E L (args.toList.map ρ ++ cs) := wfL_mem.2 fun v hv => by
      rcases List.mem_append.1 hv with hv | hv
      · obtain ⟨x, _, rfl⟩ := List.mem_map.1 hv
        exact hw x
      · exact wfL_mem.1 (fnOf_wf hf (hw f)) v hv
    refine (callP_ok h (hcx.1 n fi hfi) hlk hH hwl).mono ?_
    rintro e w' ⟨E', rfl, h1, h2, h3, h4⟩
    exact hn E' w' h1 h2 h3 h4
  · cases h

theorem partE_wf {E : Env} {t : TypeId} {cs : List SV} {off : Nat} {q : Option DP} {v : SV} (h : partE P t cs off = some (q, v)) (hw : wfL E L cs) : v.wf E L := by
  unfold partE at h
  repeat' split at h
  all_goals first | (cases h; done) | skip
  · simp only [val, Option.some.injEq, Prod.mk.injEq] at h; rw [← h.2]; exact wfL_drop_take hw _ _
  · rename_i hv
    simp only [val, Option.some.injEq, Prod.mk.injEq] at h; rw [← h.2]
    exact wfL_mem.1 hw _ (List.mem_of_getElem? hv)

theorem pure_wf {E : Env} {ρ : Operand → SV} {op : Op} {q : Option DP} {v : SV} (h : pureOp P ρ op = some (q, v)) (hl : ∀ x, (ρ x).wf E L) : v.wf E L := by
  have scal : ∀ v : SV, (match v with | .int _ _ | .u64 _ | .bool _ | .blit _ | .prop _ _ | .str _ | .flt _ => True | _ => False) → v.wf E L := by
    intro v hv
    cases v <;> first | trivial | exact hv.elim
  cases op <;> simp only [pureOp] at h
  case move x => simp only [val, Option.some.injEq, Prod.mk.injEq] at h; rw [← h.2]; exact hl x
  case assign x => simp only [val, Option.some.injEq, Prod.mk.injEq] at h; rw [← h.2]; exact hl x
  case pick c a b =>
    split at h
    · rename_i t _
      simp only [val, Option.some.injEq, Prod.mk.injEq] at h
      rw [← h.2]
      cases t
      · exact hl b
      · exact hl a
    · cases h
  case nilCheck x =>
    split at h
    · rename_i i k sz off hx
      simp only [val, Option.some.injEq, Prod.mk.injEq] at h
      rw [← h.2]
      have := hl x
      rw [hx] at this
      exact this
    · rename_i i off hx
      simp only [val, Option.some.injEq, Prod.mk.injEq] at h
      rw [← h.2]
      have := hl x
      rw [hx] at this
      exact this
    · rename_i f cs hx
      simp only [val, Option.some.injEq, Prod.mk.injEq] at h
      rw [← h.2]
      have := hl x
      rw [hx] at this
      exact this
    · cases h
  case makeFunc fn first captured =>
    split at h
    · simp only [val, Option.some.injEq, Prod.mk.injEq] at h
      rw [← h.2]
      exact wfL_mem.2 fun v hv => by
        obtain ⟨x, _, rfl⟩ := List.mem_map.1 hv
        exact hl x
    · cases h
  case binOp op t x y _ =>
    unfold bin2E aggE binE shE intE u64E fltE nfE at h
    repeat' split at h
    all_goals first | (cases h; done) | (simp only [val, chk, Option.some.injEq, Prod.mk.injEq] at h; rw [← h.2]; trivial)
  case unOp op t x =>
    unfold unE at h
    repeat' split at h
    all_goals first | (cases h; done) | (simp only [val, Option.some.injEq, Prod.mk.injEq] at h; rw [← h.2]; trivial)
  case convert s d x =>
    unfold convE at h
    repeat' split at h
    all_goals first | (cases h; done) | (simp only [val, chk, Option.some.injEq, Prod.mk.injEq] at h; rw [← h.2]; trivial)
  case extract x i =>
    unfold extractE at h
    repeat' split at h
    all_goals first | (cases h; done) | skip
    simp only [val, Option.some.injEq, Prod.mk.injEq] at h; rw [← h.2]
    have := hl x
    rw [‹ρ x = _›] at this
    exact wfL_mem.1 this _ (List.mem_of_getElem? (by assumption))
  case field t x f =>
    unfold fieldE at h
    repeat' split at h
    all_goals first | (cases h; done) | skip
    have := hl x
    rw [‹ρ x = _›] at this
    exact partE_wf h this
  case build t parts =>
    have hparts : ∀ q ∈ (parts.toList.map fun q => (q.1, ρ q.2)), q.2.wf E L := by
      intro q hq
      obtain ⟨y, _, rfl⟩ := List.mem_map.1 hq
      exact hl y.2
    unfold buildE at h
    repeat' split at h
    all_goals first | (cases h; done) | skip
    all_goals
      rename_i hf
      simp only [val, Option.some.injEq, Prod.mk.injEq] at h; rw [← h.2]
      exact fillV_wf _ _ _ hf (zeroE_wf E (by assumption)) hparts
  case indexAddr t x i =>
    unfold indexAddrE at h
    repeat' split at h
    all_goals first | (cases h; done) | skip
    · rename_i hx _ _ _
      simp only [chk, Option.some.injEq, Prod.mk.injEq] at h; rw [← h.2]
      have := hl x
      rw [‹ρ x = _›] at this
      exact this
    · simp only [chk, Option.some.injEq, Prod.mk.injEq] at h; rw [← h.2]
      trivial
  case fieldAddr t x f =>
    unfold fieldAddrE at h
    repeat' split at h
    all_goals first | (cases h; done) | skip
    all_goals
      simp only [val, Option.some.injEq, Prod.mk.injEq] at h; rw [← h.2]
      have := hl x
      rw [‹ρ x = _›] at this
      exact this
  case slice t x l hh m =>
    unfold sliceE at h
    repeat' split at h
    all_goals first | (cases h; done) | (simp only [chk, Option.some.injEq, Prod.mk.injEq] at h; rw [← h.2]; trivial)
  case index t x i =>
    unfold indexE at h
    repeat' split at h
    all_goals first | (cases h; done) | (simp only [chk, Option.some.injEq, Prod.mk.injEq] at h; rw [← h.2]; trivial)
  case call c =>
    obtain ⟨callee, args, ts⟩ := c
    cases callee with
    | builtin b =>
      dsimp only at h
      unfold builtinE lenE at h
      repeat' split at h
      all_goals first | (cases h; done) | (simp only [val, chk, Option.some.injEq, Prod.mk.injEq] at h; rw [← h.2]; trivial)
    | _ => dsimp only at h; cases h
  all_goals cases h

theorem freezeV_ok {o : Oper} {ρ : Operand → SV} (hlk : ∀ n e, lkp n = some e → look L n = some e) {x : Operand} (hrun : ∀ (E : Env) (w : World), (execOp (fun x => (ρ x).den E) o).run P w = .ok (.value ((ρ x).den E)) w) {v : SV} {ups : Ups}
    (h : freezeV lkp (ρ x) pr = some (v, ups)) : RunOk TB P o ρ L v ups := by
  have pass : ρ x = v → ups = [] → RunOk TB P o ρ L v ups := by
    rintro rfl rfl
    exact runOk_of fun c w E hH hw => ⟨w, E, _, hrun E w, .inl rfl, hH, fun n hn => ⟨rfl, hn⟩, rfl, hw x⟩
  unfold freezeV at h
  split at h
  rotate_left
  · simp only [pr, Option.some.injEq, Prod.mk.injEq] at h
    exact pass h.1 h.2.symm
  rename_i i hx
  split at h
  rotate_left
  · simp only [pr, Option.some.injEq, Prod.mk.injEq] at h
    exact pass (hx.trans h.1) h.2.symm
  rename_i t xss hh hl
  split at h
  rotate_left
  · cases h
  rename_i ys u hc
  simp only [pr, Option.some.injEq, Prod.mk.injEq] at h
  obtain ⟨rfl, rfl⟩ := h
  refine runOk_of fun c w E hH hw => ?_
  obtain ⟨G, hG⟩ := hH
  obtain ⟨E1, c1, c2, c3, c4, c5, c6, c7⟩ := closeD_ok hlk hG hl hc
  have h2 := c1.freezeD c4
  have eu : updL L (u ++ [(i, .shr (.slice t) ys)]) = upd (updL L u) (i, .shr (.slice t) ys) := by rw [updL_append]; rfl
  rw [eu]
  refine ⟨w, E1, _, hrun E w, .inl ?_, ⟨_, h2⟩, fun n hn => ⟨c2 n, al_upd rfl n (c5 n hn)⟩, c3, ?_⟩
  · rw [hx]; simp only [SV.den, c2]
  · exact ⟨_, by rw [look_upd (look_lt c4), if_pos rfl], rfl⟩
theorem freezeE_ok {o : Oper} {ρ : Operand → SV} (hlk : ∀ n e, lkp n = some e → look L n = some e) {v : SV} {ups : Ups} (h : freezeE lkp ρ pr o.op = some (v, ups)) : RunOk TB P o ρ L v ups := by
  generalize hop : o.op = op at h
  unfold freezeE at h
  split at h
  · rename_i x
    exact freezeV_ok hlk (fun E w => by simp only [execOp, hop]; rfl) h
  · rename_i x
    exact freezeV_ok hlk (fun E w => by simp only [execOp, hop]; rfl) h
  · cases h

theorem core_ok {cx : Cx} (hcx : cx.Ok P) {o : Oper} {ρ : Operand → SV} (hlk : ∀ n e, lkp n = some e → look L n = some e) {v : SV} {ups : Ups} (h : core P cx lkp o.dst ρ pr o.op = some (v, ups)) : RunOk cx.tb P o ρ L v ups := by
  unfold core at h
  split at h
  · exact freezeE_ok hlk h
  unfold core0 at h
  simp only [letK_eq] at h
  have fin : ∀ (q : Option DP), pureOp P ρ o.op = some (q, v) → cnd q → RunOk cx.tb P o ρ L v [] := by
    intro q hp hq
    refine runOk_of fun c w E hH hw => ?_
    exact ⟨w, E, _, pureOp_ok (E := E) w ρ o.op q v hp hq o rfl, .inl rfl, hH, fun n hn => ⟨rfl, hn⟩, rfl, pure_wf hp hw⟩
  cases hqq : (cx.keeps o.dst && Op.isQuo o.op) with
  | true =>
    rw [hqq] at h
    exact memE_ok hcx hlk h
  | false =>
  rw [hqq] at h
  simp only at h
  split at h
  · rename_i u hp
    simp only [pr, Option.some.injEq, Prod.mk.injEq] at h
    obtain ⟨rfl, rfl⟩ := h
    exact fin _ hp trivial
  · rename_i q u hp
    have := q.d
    by_cases hq : q.p
    · simp only [hq, if_true, pr, Option.some.injEq, Prod.mk.injEq] at h
      obtain ⟨rfl, rfl⟩ := h
      exact fin _ hp hq
    · simp only [hq, if_false] at h; cases h
  · exact memE_ok hcx hlk h
end

end Go.V3
