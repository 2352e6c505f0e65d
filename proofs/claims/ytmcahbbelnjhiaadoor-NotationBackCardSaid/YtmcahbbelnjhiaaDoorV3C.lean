/-
  Part C: packing values, and one operation.
-/
import Derived.Test.YtmcahbbelnjhiaaDoorV3B
set_option linter.unusedVariables false
namespace Go.V3
open Go
variable {TB : Tb}

/-- How slices are taken out: lent, written no more, or given away. -/
inductive PM where
  | lend | frz | own
/-- A name with the blocks that it owns. -/
def Env.nx (E : Env) (i : Nat) : Nm := { E.nm i with ins := ⟨E.ins.l i⟩ }
inductive NE where
  | nil
  | whole (i : Nat)
  | deep (i : Nat)
  | sub (i lo n sz : Nat)
def NE.nm (E : Env) : NE → Nm
  | .nil => ⟨0, 0, true, 0, 0, none⟩
  | .whole i => E.nm i
  | .deep i => E.nx i
  | .sub i lo n sz => if (E.nm i).cap = lo then { blk := (E.nm i).blk, off := (E.nm i).off, nil := (E.nm i).nil, len := n, cap := (E.nm i).cap - lo, odd := (E.nm i).odd, fz := (E.nm i).fz } else { blk := (E.nm i).blk, off := (E.nm i).off + lo * sz, nil := (E.nm i).nil, len := n, cap := (E.nm i).cap - lo, odd := padd (E.nm i).odd (lo * sz), fz := (E.nm i).fz }
def NE.name : NE → Option Nat
  | .nil => none
  | .whole i => some i
  | .deep i => some i
  | .sub i _ _ _ => some i
def nesF (E : Env) (nes : List NE) (k : Nat) : Nm := match nes[k]? with
  | some ne => ne.nm E
  | none => ⟨0, 0, true, 0, 0, none⟩

abbrev Ups := List (Nat × Ent)

/-- What is owned, as a list. -/
inductive OwnE : Ent → (t : Ty) → List t.T → Prop
  | row (t : Ty) (xs : List t.T) : OwnE (.row t xs) t xs
  | deep (t : Ty) (xss : List (List t.T)) : OwnE (.deep t xss none) (.slice t) xss
theorem OwnE.rsv {e : Ent} {t : Ty} {xs : List t.T} (h : OwnE e t xs) : e.isRsv = false := by cases h <;> rfl
def castL {t a : Ty} (h : t = a) (xs : List t.T) : List a.T := h ▸ xs

def packS (md : PM) (lkp : Nat → Option Ent) (a : Ty) : SV → Option (List a.T × NE × Ups)
  | .nils => if a.isKv = true then none else some ([], .nil, [])
  | .slw i => match lkp i with
    | some (.shr t xs) => if h : t = a then (match md with
        | .own => none
        | _ => some (castL h xs, .whole i, [])) else none
    | some (.row t xs) => if h : t = a then (match md with
        | .lend => some (castL h xs, .whole i, [])
        | .frz => some (castL h xs, .whole i, [(i, .shr t xs)])
        | .own => if a.isSl = true then none else some (castL h xs, .whole i, [(i, .dead)])) else none
    | some (.deep t xss none) => if h : Ty.slice t = a then (match md with
        | .lend => some (castL h xss, .whole i, [])
        | .frz => some (castL h xss, .whole i, [(i, .shr (.slice t) xss)])
        | .own => some (castL h xss, .deep i, [(i, .dead)])) else none
    | _ => none
  | .sub i lo n sz => if sz = a.sz then match lkp i with
    | some (.shr t xs) => if h : t = a then (match md with
        | .own => none
        | _ => some (subl (castL h xs) lo n, .sub i lo n sz, [])) else none
    | some (.row t xs) => if h : t = a then (match md with
        | .lend => some (subl (castL h xs) lo n, .sub i lo n sz, [])
        | .frz => some (subl (castL h xs) lo n, .sub i lo n sz, [(i, .shr t xs)])
        | .own => none) else none
    | _ => none
    else none
  | _ => none

def packC (md : PM) (lkp : Nat → Option Ent) : (t : Ty) → List SV → Option (t.T × List SV × List NE × Ups)
  | .int k, cs => match cs with
    | .int k' n :: r => if k' = k then some (n, r, [], []) else none
    | _ => none
  | .u64, cs => match cs with
    | .u64 x :: r => some (x, r, [], [])
    | _ => none
  | .bool, cs => match cs with
    | v :: r => match toB v with
      | some b => some (b, r, [], [])
      | none => none
    | _ => none
  | .str, cs => match cs with
    | .str s :: r => some (s, r, [], [])
    | _ => none
  | .flt, cs => match cs with
    | .flt n :: r => some (n, r, [], [])
    | _ => none
  | .pair a b, cs => match packC md lkp a cs with
    | none => none
    | some (x, r, n1, u1) => match packC md lkp b r with
      | none => none
      | some (y, r', n2, u2) => some ((x, y), r', n1 ++ n2, u1 ++ u2)
  | .slice a, cs => match cs with
    | v :: r => match packS md lkp a v with
      | some (xs, ne, u) => some (xs, r, [ne], u)
      | none => none
    | _ => none
  | .kv, _ => none
  | .nf, cs => match cs with
    | .flt n :: r => some ((some n : Option Nat), r, [.nil], [])
    | .nf o i :: r => some (o, r, [.whole i], [])
    | _ => none
  | .nile, cs => match cs with
    | .raw .nilIface :: r => some ((), r, [], [])
    | _ => none

theorem packS_den {md : PM} {lkp : Nat → Option Ent} {a : Ty} {v : SV} {xs : List a.T} {ne : NE} {u : Ups} (h : packS md lkp a v = some (xs, ne, u)) (E : Env) :
    v.den E = .slice (ne.nm E).ad (ne.nm E).len (ne.nm E).cap := by
  cases v with
  | nils =>
    simp only [packS] at h
    split at h
    · cases h
    simp only [Option.some.injEq, Prod.mk.injEq] at h
    obtain ⟨-, rfl, -⟩ := h
    rfl
  | slw i =>
    simp only [packS] at h
    repeat' split at h
    all_goals first | (cases h; done) | (simp only [Option.some.injEq, Prod.mk.injEq] at h; obtain ⟨-, rfl, -⟩ := h; rfl)
  | sub i lo n sz =>
    have hk : SV.den E (.sub i lo n sz) = .slice ((NE.sub i lo n sz).nm E).ad ((NE.sub i lo n sz).nm E).len ((NE.sub i lo n sz).nm E).cap := by
      simp only [SV.den, NE.nm]
      split
      · simp [Nm.ad]
      · simp only [Nm.ad, padd]
        split
        · rfl
        · simp [add_loc]
    simp only [packS] at h
    repeat' split at h
    all_goals first | (cases h; done) | (simp only [Option.some.injEq, Prod.mk.injEq] at h; obtain ⟨-, rfl, -⟩ := h; exact hk)
  | _ => simp [packS] at h

theorem nesF_append (E : Env) (a b : List NE) : (∀ k, k < a.length → nesF E (a ++ b) k = nesF E a k) ∧ (∀ k, nesF E (a ++ b) (a.length + k) = nesF E b k) := by
  refine ⟨fun k hk => ?_, fun k => ?_⟩
  · simp [nesF, List.getElem?_append_left hk]
  · simp only [nesF]
    rw [List.getElem?_append_right (by omega)]
    simp

theorem packC_den {md : PM} {lkp : Nat → Option Ent} (E : Env) : ∀ (t : Ty) (cs : List SV) (x : t.T) (r : List SV) (nes : List NE) (u : Ups), packC md lkp t cs = some (x, r, nes, u) →
    ∃ c1, cs = c1 ++ r ∧ c1.length = t.sz ∧ nes.length = t.nsl ∧ denL E c1 = enc t x (nesF E nes) := by
  intro t
  induction t with
  | int k =>
    intro cs x r nes u h
    simp only [packC] at h
    repeat' split at h
    all_goals first | (cases h; done) | skip
    rename_i hk
    simp only [Option.some.injEq, Prod.mk.injEq] at h
    obtain ⟨rfl, rfl, rfl, rfl⟩ := h
    subst hk
    exact ⟨[_], rfl, rfl, rfl, rfl⟩
  | u64 =>
    intro cs x r nes u h
    simp only [packC] at h
    repeat' split at h
    all_goals first | (cases h; done) | (simp only [Option.some.injEq, Prod.mk.injEq] at h; obtain ⟨rfl, rfl, rfl, rfl⟩ := h; exact ⟨[_], rfl, rfl, rfl, rfl⟩)
  | bool =>
    intro cs x r nes u h
    simp only [packC] at h
    repeat' split at h
    all_goals first | (cases h; done) | skip
    rename_i hb
    simp only [Option.some.injEq, Prod.mk.injEq] at h
    obtain ⟨rfl, rfl, rfl, rfl⟩ := h
    exact ⟨[_], rfl, rfl, rfl, by simp [denL, toB_den hb, enc]⟩
  | str =>
    intro cs x r nes u h
    simp only [packC] at h
    repeat' split at h
    all_goals first | (cases h; done) | (simp only [Option.some.injEq, Prod.mk.injEq] at h; obtain ⟨rfl, rfl, rfl, rfl⟩ := h; exact ⟨[_], rfl, rfl, rfl, rfl⟩)
  | flt =>
    intro cs x r nes u h
    simp only [packC] at h
    repeat' split at h
    all_goals first | (cases h; done) | (simp only [Option.some.injEq, Prod.mk.injEq] at h; obtain ⟨rfl, rfl, rfl, rfl⟩ := h; exact ⟨[_], rfl, rfl, rfl, rfl⟩)
  | pair a b iha ihb =>
    intro cs x r nes u h
    simp only [packC] at h
    repeat' split at h
    all_goals first | (cases h; done) | skip
    rename_i _ x1 r1 n1 u1 h1 _ x2 r2 n2 u2 h2
    simp only [Option.some.injEq, Prod.mk.injEq] at h
    obtain ⟨rfl, rfl, rfl, rfl⟩ := h
    obtain ⟨c1, e1, l1, m1, d1⟩ := iha _ _ _ _ _ h1
    obtain ⟨c2, e2, l2, m2, d2⟩ := ihb _ _ _ _ _ h2
    refine ⟨c1 ++ c2, by rw [e1, e2, List.append_assoc], by simp [Ty.sz, l1, l2], by simp [Ty.nsl, m1, m2], ?_⟩
    rw [denL_append, d1, d2]
    simp only [enc]
    obtain ⟨k1, k2⟩ := nesF_append E n1 n2
    congr 1
    · exact enc_congr _ _ fun k hk => (k1 k (by omega)).symm
    · exact enc_congr _ _ fun k hk => by rw [← m1]; exact (k2 k).symm
  | slice a ih =>
    intro cs x r nes u h
    simp only [packC] at h
    repeat' split at h
    all_goals first | (cases h; done) | skip
    rename_i hs
    simp only [Option.some.injEq, Prod.mk.injEq] at h
    obtain ⟨rfl, rfl, rfl, rfl⟩ := h
    exact ⟨[_], rfl, rfl, rfl, by simp [denL, enc, packS_den hs E, nesF]⟩
  | kv => intro cs x r nes u h; simp [packC] at h
  | nf =>
    intro cs x r nes u h
    simp only [packC] at h
    repeat' split at h
    all_goals first | (cases h; done) | (simp only [Option.some.injEq, Prod.mk.injEq] at h; obtain ⟨rfl, rfl, rfl, rfl⟩ := h; exact ⟨[_], rfl, rfl, rfl, rfl⟩)
  | nile =>
    intro cs x r nes u h
    simp only [packC] at h
    repeat' split at h
    all_goals first | (cases h; done) | (simp only [Option.some.injEq, Prod.mk.injEq] at h; obtain ⟨_, rfl, rfl, rfl⟩ := h; exact ⟨[_], rfl, rfl, rfl, rfl⟩)

/-! What packed slices hold. -/
/-- What is given up for the sake of a slice. -/
def Upd1 (lkp : Nat → Option Ent) (q : Nat × Ent) : Prop := ∃ t xs, lkp q.1 = some (.row t xs) ∧ (q.2 = .shr t xs ∨ q.2 = .dead)

theorem shr_sub {α : Type} {R : α → List Value → Prop} {sz : Nat} {G : Nat → Prop} {w : World} {m : Nm} {xs : List α} (h : Shr R sz G w m xs) {lo n : Nat} (hl : lo + n ≤ m.len) :
    Shr R sz G w (if m.cap = lo then { blk := m.blk, off := m.off, nil := m.nil, len := n, cap := m.cap - lo, odd := m.odd, fz := m.fz } else { blk := m.blk, off := m.off + lo * sz, nil := m.nil, len := n, cap := m.cap - lo, odd := padd m.odd (lo * sz), fz := m.fz }) (subl xs lo n) := by
  obtain ⟨h1, h0, h2⟩ := h
  by_cases hc : m.cap = lo
  · have hn : n = 0 := by omega
    subst hn
    rw [if_pos hc]
    exact ⟨by simp [subl], by simp, .inl (by simp [subl])⟩
  · rw [if_neg hc]
    refine ⟨by simp [subl]; omega, by simp; omega, ?_⟩
    rcases h2 with rfl | ⟨a, b, arr, ty, fz, h3, h4⟩
    · left; simp [subl]
    · right
      refine ⟨a, b, arr, ty, fz, h3, ?_⟩
      intro i x hx
      simp only [subl] at hx
      rw [List.getElem?_take] at hx
      split at hx
      · rw [List.getElem?_drop] at hx
        have := h4 _ _ hx
        rw [Nat.add_mul] at this
        rw [Nat.add_assoc]
        exact this
      · cases hx

theorem own_shr {α : Type} {R R' : α → List Value → Prop} {sz : Nat} {c : Cfg TB} {G G' : Nat → Prop} {w : World} {m : Nm} {xs : List α} (h : Own R sz c G w m xs) (hr : ∀ x vs, R x vs → R' x vs) (hg : m.nil = false → G' m.blk) :
    Shr R' sz G' w m xs := by
  have hc := own_cap h
  obtain ⟨h1, h2, h3⟩ := h
  refine ⟨h1, hc, ?_⟩
  rcases h3 with ⟨_, h4, _⟩ | ⟨h4, h5, h6, h7, arr, ty, h8, h9, h10⟩
  · exact .inl h4
  · exact .inr ⟨h4, hg h4, arr, ty, _, h8, h10.imp hr⟩

/-- The blocks that nobody writes while what is lent is lent. -/
def GL (G : Nat → Prop) (E : Env) (L : Store) (b : Nat) : Prop := G b ∨ ∃ n t xs, look L n = some (.row t xs) ∧ (Ent.row t xs).own (E.nm n) = some b


theorem packS_ups {md : PM} {lkp : Nat → Option Ent} {a : Ty} {v : SV} {xs : List a.T} {ne : NE} {u : Ups} (h : packS md lkp a v = some (xs, ne, u)) :
    u = [] ∨ (∃ i t ys e, lkp i = some e ∧ OwnE e t ys ∧ md = .frz ∧ ne.name = some i ∧ u = [(i, .shr t ys)]) ∨ md = .own := by
  unfold packS at h
  repeat' split at h
  all_goals first | (cases h; done) | skip
  all_goals (simp only [Option.some.injEq, Prod.mk.injEq] at h; obtain ⟨-, rfl, rfl⟩ := h)
  all_goals first | (exact .inl rfl) | exact .inr (.inr rfl) | (right; left; exact ⟨_, _, _, _, (by assumption), .row _ _, rfl, rfl, rfl⟩) | (right; left; exact ⟨_, _, _, _, (by assumption), .deep _ _, rfl, rfl, rfl⟩)

/-- What a packed slice holds that is lent or written no more. -/
theorem packS_shr {md : PM} {lkp : Nat → Option Ent} {a : Ty} {v : SV} {xs : List a.T} {ne : NE} {u : Ups} (h : packS md lkp a v = some (xs, ne, u)) (hmd : md ≠ .own) {E : Env} {L : Store} (hv : v.wf E L) {G : Nat → Prop} {w : World}
    (h1 : ∀ i t ys, lkp i = some (.shr t ys) → Shr (Rp G w t) t.sz G w (E.nm i) ys)
    (h2 : ∀ i t ys e, ne.name = some i → lkp i = some e → OwnE e t ys → md = .lend ∨ (i, .shr t ys) ∈ u → Shr (Rp G w t) t.sz G w (E.nm i) ys) : SEnt G w (ne.nm E) (.shr a xs) := by
  unfold packS at h
  repeat' split at h
  all_goals first | (cases h; done) | skip
  all_goals (simp only [Option.some.injEq, Prod.mk.injEq] at h; obtain ⟨rfl, rfl, rfl⟩ := h)
  all_goals first | exact absurd rfl hmd | skip
  · exact ⟨rfl, Nat.le_refl _, .inl rfl⟩
  · rename_i hl he _ _; subst he; exact h1 _ _ _ hl
  · rename_i hl he _; subst he; exact h2 _ _ _ _ rfl hl (.row _ _) (.inl rfl)
  · rename_i hl he _; subst he; exact h2 _ _ _ _ rfl hl (.row _ _) (.inr (List.mem_singleton.2 rfl))
  · rename_i hl he _; subst he; exact h2 _ _ _ _ rfl hl (.deep _ _) (.inl rfl)
  · rename_i hl he _; subst he; exact h2 _ _ _ _ rfl hl (.deep _ _) (.inr (List.mem_singleton.2 rfl))
  · rename_i hz _ _ _ hl he _ _; subst he; subst hz; exact shr_sub (h1 _ _ _ hl) hv.2
  · rename_i hz _ _ _ hl he _; subst he; subst hz; exact shr_sub (h2 _ _ _ _ rfl hl (.row _ _) (.inl rfl)) hv.2
  · rename_i hz _ _ _ hl he _; subst he; subst hz; exact shr_sub (h2 _ _ _ _ rfl hl (.row _ _) (.inr (List.mem_singleton.2 rfl))) hv.2

/-- What a packed slice holds that is given away. -/
theorem packS_own {lkp : Nat → Option Ent} {a : Ty} {v : SV} {xs : List a.T} {ne : NE} {u : Ups} (h : packS .own lkp a v = some (xs, ne, u)) :
    (ne = .nil ∧ xs = [] ∧ u = [] ∧ a.isKv = false) ∨ ∃ i, ((ne = .whole i ∧ a.isSl = false) ∨ (ne = .deep i ∧ ∃ b, a = .slice b)) ∧ lkp i = some (ownEnt a xs) ∧ u = [(i, .dead)] := by
  cases v with
  | nils =>
    simp only [packS] at h
    split at h
    · cases h
    rename_i hk
    simp only [Option.some.injEq, Prod.mk.injEq] at h
    obtain ⟨rfl, rfl, rfl⟩ := h
    exact .inl ⟨rfl, rfl, rfl, by simpa using hk⟩
  | slw i =>
    simp only [packS] at h
    split at h
    · split at h <;> cases h
    · rename_i t ys hl
      split at h
      · rename_i he
        subst he
        split at h
        · cases h
        rename_i hsl
        have hsl : t.isSl = false := by simpa using hsl
        simp only [Option.some.injEq, Prod.mk.injEq] at h
        obtain ⟨rfl, rfl, rfl⟩ := h
        exact .inr ⟨i, .inl ⟨rfl, hsl⟩, by rw [hl]; exact congrArg some (ownEnt_flat hsl ys).symm, rfl⟩
      · cases h
    · rename_i t yss hl
      split at h
      · rename_i he
        subst he
        simp only [Option.some.injEq, Prod.mk.injEq] at h
        obtain ⟨rfl, rfl, rfl⟩ := h
        exact .inr ⟨i, .inr ⟨rfl, _, rfl⟩, hl, rfl⟩
      · cases h
    · cases h
  | sub i lo n sz =>
    simp only [packS] at h
    repeat' split at h
    all_goals cases h
  | _ => simp [packS] at h

/-- A slice that is added to. -/
def packApp (lkp : Nat → Option Ent) (a : Ty) : SV → Option (List a.T × NE × Ups)
  | .nils => some ([], .nil, [])
  | .slw i => match lkp i with
    | some (.row t xs) => if h : t = a then some (castL h xs, .whole i, [(i, .dead)]) else none
    | _ => none
  | .sub i 0 n _ => match lkp i with
    | some (.row t xs) => if h : t = a then some (subl (castL h xs) 0 n, .whole i, [(i, .dead)]) else none
    | _ => none
  | _ => none
/-- A name's slice, cut. -/
def Nm.cut (m : Nm) (n : Nat) : Nm := { blk := m.blk, off := m.off, nil := m.nil, len := n, cap := m.cap, odd := m.odd, fz := m.fz }
theorem packApp_own {lkp : Nat → Option Ent} {a : Ty} {v : SV} {xs : List a.T} {ne : NE} {u : Ups} (h : packApp lkp a v = some (xs, ne, u)) :
    (v = .nils ∧ ne = .nil ∧ xs = [] ∧ u = []) ∨ ∃ (i : Nat) (zs : List a.T) (n : Nat), lkp i = some (.row a zs) ∧ u = [(i, .dead)] ∧ xs = subl zs 0 n ∧ ∀ (E : Env) (L : Store), v.wf E L → (E.nm i).len = zs.length → n ≤ zs.length ∧ v.den E = .slice (E.nm i).ad n (E.nm i).cap := by
  cases v with
  | nils =>
    simp only [packApp, Option.some.injEq, Prod.mk.injEq] at h
    obtain ⟨rfl, rfl, rfl⟩ := h
    exact .inl ⟨rfl, rfl, rfl, rfl⟩
  | slw i =>
    simp only [packApp] at h
    split at h
    · rename_i t ys hl
      split at h
      · rename_i he
        subst he
        simp only [Option.some.injEq, Prod.mk.injEq] at h
        obtain ⟨rfl, rfl, rfl⟩ := h
        refine .inr ⟨i, ys, ys.length, hl, rfl, by simp [castL, subl], fun E L _ hlen => ⟨Nat.le_refl _, by simp only [SV.den]; rw [hlen]⟩⟩
      · cases h
    · cases h
  | sub i lo n sz =>
    cases lo with
    | succ _ => simp [packApp] at h
    | zero =>
    simp only [packApp] at h
    split at h
    · rename_i t ys hl
      split at h
      · rename_i he
        subst he
        simp only [Option.some.injEq, Prod.mk.injEq] at h
        obtain ⟨rfl, rfl, rfl⟩ := h
        refine .inr ⟨i, ys, n, hl, rfl, rfl, fun E L hw hlen => ⟨by have := hw.2; omega, ?_⟩⟩
        simp only [SV.den, padd, Nat.zero_mul, Nat.sub_zero]
        congr 1
        split
        · rfl
        · cases (E.nm i).ad with
          | none => rfl
          | some p => rfl
      · cases h
    · cases h
  | _ => simp [packApp] at h

theorem packC_get {md : PM} {lkp : Nat → Option Ent} : ∀ (t : Ty) (cs : List SV) (x : t.T) (r : List SV) (nes : List NE) (u : Ups), packC md lkp t cs = some (x, r, nes, u) →
    (∀ (k : Nat) (o : Bool) (e : Ent), (ents o t x)[k]? = some e → e = .dead ∨ ∃ (a : Ty) (v : SV) (xs : List a.T) (ne : NE) (uk : Ups), packS md lkp a v = some (xs, ne, uk) ∧ nes[k]? = some ne ∧ v ∈ cs ∧ (∀ q ∈ uk, q ∈ u) ∧ e = (match o with | true => ownEnt a xs | false => Ent.shr a xs)) ∧
    (∀ q ∈ u, ∃ (k : Nat) (a : Ty) (v : SV) (xs : List a.T) (ne : NE) (uk : Ups), packS md lkp a v = some (xs, ne, uk) ∧ nes[k]? = some ne ∧ q ∈ uk) := by
  intro t
  induction t with
  | pair a b iha ihb =>
    intro cs x r nes u h
    simp only [packC] at h
    repeat' split at h
    all_goals first | (cases h; done) | skip
    rename_i _ x1 r1 n1 u1 h1 _ x2 r2 n2 u2 h2
    simp only [Option.some.injEq, Prod.mk.injEq] at h
    obtain ⟨rfl, rfl, rfl, rfl⟩ := h
    obtain ⟨c1, e1, l1, m1, _⟩ := packC_den ⟨fun _ => ⟨0, 0, true, 0, 0, none⟩, fun _ => undef⟩ _ _ _ _ _ _ h1
    obtain ⟨p1, q1⟩ := iha _ _ _ _ _ h1
    obtain ⟨p2, q2⟩ := ihb _ _ _ _ _ h2
    refine ⟨?_, ?_⟩
    · intro k o e he
      simp only [ents] at he
      by_cases hk : k < a.nsl
      · rw [List.getElem?_append_left (by rw [ents_length]; exact hk)] at he
        rcases p1 k o e he with hd | ⟨a', v, xs, ne, uk, g1, g2, g3, g4, g5⟩
        · exact .inl hd
        exact .inr ⟨a', v, xs, ne, uk, g1, by rw [List.getElem?_append_left (by omega)]; exact g2, g3, fun q hq => List.mem_append.2 (.inl (g4 q hq)), g5⟩
      · rw [List.getElem?_append_right (by rw [ents_length]; omega), ents_length] at he
        rcases p2 _ o e he with hd | ⟨a', v, xs, ne, uk, g1, g2, g3, g4, g5⟩
        · exact .inl hd
        exact .inr ⟨a', v, xs, ne, uk, g1, by rw [List.getElem?_append_right (by omega), m1]; exact g2, by rw [e1]; exact List.mem_append.2 (.inr g3), fun q hq => List.mem_append.2 (.inr (g4 q hq)), g5⟩
    · intro q hq
      rcases List.mem_append.1 hq with hq | hq
      · obtain ⟨k, a', v, xs, ne, uk, g1, g2, g3⟩ := q1 q hq
        have hk : k < n1.length := by
          rcases Nat.lt_or_ge k n1.length with h1 | h1
          · exact h1
          · rw [List.getElem?_eq_none h1] at g2; cases g2
        exact ⟨k, a', v, xs, ne, uk, g1, by rw [List.getElem?_append_left hk]; exact g2, g3⟩
      · obtain ⟨k, a', v, xs, ne, uk, g1, g2, g3⟩ := q2 q hq
        exact ⟨n1.length + k, a', v, xs, ne, uk, g1, by rw [List.getElem?_append_right (by omega)]; simpa using g2, g3⟩
  | slice a ih =>
    intro cs x r nes u h
    simp only [packC] at h
    repeat' split at h
    all_goals first | (cases h; done) | skip
    rename_i v r' _ xs ne u' hs
    simp only [Option.some.injEq, Prod.mk.injEq] at h
    obtain ⟨rfl, rfl, rfl, rfl⟩ := h
    refine ⟨?_, fun q hq => ⟨0, _, _, _, _, _, hs, rfl, hq⟩⟩
    intro k o e he
    cases k with
    | zero =>
      simp only [ents, List.getElem?_cons_zero, Option.some.injEq] at he
      exact .inr ⟨_, _, _, _, _, hs, rfl, by simp, fun _ h => h, he.symm⟩
    | succ k => simp [ents] at he
  | nf =>
    intro cs x r nes u h
    simp only [packC] at h
    repeat' split at h
    all_goals first | (cases h; done) | skip
    all_goals (simp only [Option.some.injEq, Prod.mk.injEq] at h; obtain ⟨rfl, rfl, rfl, rfl⟩ := h; refine ⟨fun k o e he => .inl ?_, fun q hq => by cases hq⟩; cases k with
      | zero => simp only [ents, List.getElem?_cons_zero, Option.some.injEq] at he; exact he.symm
      | succ k => simp [ents] at he)
  | _ =>
    intro cs x r nes u h
    simp only [packC] at h
    repeat' split at h
    all_goals first | (cases h; done) | skip
    all_goals (simp only [Option.some.injEq, Prod.mk.injEq] at h; obtain ⟨_, rfl, rfl, rfl⟩ := h; exact ⟨fun k o e he => by simp [ents] at he, fun q hq => by cases hq⟩)

/-- Slices are written no more. -/
theorem Holds.freezes {c : Cfg TB} {w : World} {E : Env} : ∀ (u : Ups) {G : Nat → Prop} {L : Store}, Holds c G w E L → (∀ q ∈ u, ∃ t ys, ((∃ e, look L q.1 = some e ∧ OwnE e t ys) ∨ look L q.1 = some (.shr t ys)) ∧ q.2 = .shr t ys) →
    ∃ G', Holds c G' w E (updL L u) ∧ (∀ b, G b → G' b) ∧ (∀ n, Al L n → Al (updL L u) n) ∧
      (∀ n e, look L n = some e → look (updL L u) n = some e ∨ (∃ t ys, OwnE e t ys ∧ look (updL L u) n = some (.shr t ys) ∧ (n, .shr t ys) ∈ u)) ∧ (∀ q ∈ u, look (updL L u) q.1 = some q.2)
  | [], G, L, h, _ => ⟨G, h, fun _ hb => hb, fun _ hn => hn, fun n e he => .inl he, fun q hq => by cases hq⟩
  | q :: r, G, L, h, hu => by
    obtain ⟨t, ys, hq, hq2⟩ := hu q (by simp)
    obtain ⟨i, e⟩ := q
    simp only at hq2 hq
    subst hq2
    have hlt : i < L.length := by rcases hq with ⟨_, h1, _⟩ | h1 <;> exact look_lt h1
    have hl := fun n => look_upd (L := L) (q := (i, Ent.shr t ys)) hlt n
    obtain ⟨G1, h1, hg1⟩ : ∃ G1, Holds c G1 w E (upd L (i, .shr t ys)) ∧ ∀ b, G b → G1 b := by
      rcases hq with ⟨e, hq, ho⟩ | hq
      · cases ho with
        | row => exact ⟨_, h.freeze hq, fun b hb => .inl hb⟩
        | deep => exact ⟨_, h.freezeD hq, fun b hb => .inl hb⟩
      · refine ⟨G, ?_, fun _ hb => hb⟩
        have := h.change (i := i) (e' := .shr t ys) (m := E.nm i) (w' := w) hlt (.refl _) (Nat.le_refl _) (fun _ => rfl) rfl (fun _ _ _ => rfl) (fun b hb => by cases hb) (fun _ _ _ _ _ _ hb => by cases hb) (fun h => h.ent i _ hq)
        have he : E.set i (E.nm i) = E := by
          have : (fun k => if k = i then E.nm i else E.nm k) = E.nm := by funext k; split <;> simp_all
          simp only [Env.set, this]
        rw [he] at this
        exact this
    have hone : ∀ {e1 : Ent} {t1 t2 : Ty} {y1 : List t1.T} {y2 : List t2.T}, OwnE e1 t1 y1 → OwnE e1 t2 y2 → (Ent.shr t1 y1) = .shr t2 y2 := by
      intro e1 t1 t2 y1 y2 a b
      cases a <;> cases b <;> rfl
    obtain ⟨G2, h2, hg2, ha2, hk2, hq2⟩ := Holds.freezes r h1 (by
      intro p hp
      obtain ⟨t', ys', hp1, hp2⟩ := hu p (by simp [hp])
      by_cases hpi : p.1 = i
      · refine ⟨t, ys, .inr (by rw [hl, if_pos hpi]), ?_⟩
        rw [hpi] at hp1
        rw [hp2]
        rcases hq with ⟨e, hq, ho⟩ | hq <;> rcases hp1 with ⟨e', hp1, ho'⟩ | hp1 <;> rw [hq] at hp1 <;> simp only [Option.some.injEq] at hp1
        · subst hp1; exact hone ho' ho
        · subst hp1; cases ho
        · subst hp1; cases ho'
        · exact hp1.symm
      · refine ⟨t', ys', ?_, hp2⟩
        rw [hl, if_neg hpi]; exact hp1)
    refine ⟨G2, h2, fun b hb => hg2 b (hg1 b hb), fun n hn => ha2 n (al_upd rfl n hn), ?_, ?_⟩
    · intro n e he
      by_cases hn : n = i
      · subst hn
        have hx := hk2 n (.shr t ys) (by rw [hl, if_pos rfl])
        have hx' : look (updL L ((n, .shr t ys) :: r)) n = some (.shr t ys) := by
          rcases hx with hx | ⟨_, _, hx, _⟩
          · exact hx
          · cases hx
        rcases hq with ⟨e', hq, ho⟩ | hq
        · rw [hq] at he; simp only [Option.some.injEq] at he; subst he
          exact .inr ⟨t, ys, ho, hx', by simp⟩
        · rw [hq] at he; simp only [Option.some.injEq] at he; subst he
          exact .inl hx'
      · rcases hk2 n e (by rw [hl, if_neg hn]; exact he) with hx | ⟨t', ys', hx1, hx2, hx3⟩
        · exact .inl hx
        · exact .inr ⟨t', ys', hx1, hx2, by simp [hx3]⟩
    · intro p hp
      rcases List.mem_cons.1 hp with rfl | hp
      · rcases hk2 i (.shr t ys) (by rw [hl, if_pos rfl]) with hx | ⟨_, _, hx, _⟩
        · exact hx
        · cases hx
      · exact hq2 p hp

end Go.V3
