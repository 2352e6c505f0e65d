/-
  Part O: regions, in the order of the text and in any order.
-/
import Derived.Test.YtmcahbbelnjhiaaDoorV3N
import Derived.Orders
set_option linter.unusedVariables false
namespace Go.V3
open Go
variable {TB : Tb}

def clean : SV → SV
  | .unk _ => undefV
  | v => v
def evc (fr : List SV) (x : Operand) : SV := clean (ev fr x)
def isUnk : SV → Bool
  | .unk _ => true
  | _ => false
def noUnk (fr : List SV) (op : Op) : Bool := op.operands.toList.all fun x => !(isUnk (ev fr x))

def guardB (all : List Oper) (o : Oper) (fr : List SV) : Option Bool :=
  match o.guard with
  | none => some true
  | some (j, want) => (match all[j]? with
    | none => none
    | some oj => (match oj.dst with
      | none => none
      | some t => (match fr.getD t undefV with
        | .blit b => some (b == want)
        | .raw (.tuple _) => some false
        | _ => none)))
def srcB (all : List Oper) (k : Nat) : Bool := all.any fun o => match o.guard with
  | some (j, _) => j == k
  | none => false

section
variable {α : Type}
def splitB (v : SV) (F : Bool → Option α) : Option α :=
  match v with
  | .blit b => F b
  | .bool b => if b = true then F true else F false
  | .prop p d => @ite _ p d (F true) (F false)
  | _ => none

def stepE (P : Program) (cx : Cx) (all : List Oper) (o : Oper) (k : Nat) (fr : List SV) (lkp : Nat → Option Ent) (K : SV → Ups → Option α) : Option α :=
  match guardB all o fr with
  | none => none
  | some false => K undefV []
  | some true => (match noUnk fr o.op with
    | false => none
    | true => core P cx lkp o.dst (evc fr) (match srcB all k with
      | true => fun v u => splitB v (fun b => K (.blit b) u)
      | false => K) o.op)

def rkOps (P : Program) (cx : Cx) (all : List Oper) : List Oper → Nat → List SV → Store → (List SV → Store → Option α) → Option α
  | [], _, fr, L, K => K fr L
  | o :: r, k, fr, L, K => stepE P cx all o k fr (look L) (fun v u => rkOps P cx all r (k + 1) (putV fr o.dst v) (updL L u) K)
end

theorem splitB_spec {α : Type} {v : SV} {F : Bool → Option α} {a : α} (h : splitB v F = some a) : ∃ b, toB v = some b ∧ F b = some a := by
  unfold splitB at h
  split at h
  · exact ⟨_, rfl, h⟩
  · rename_i b; cases b
    · exact ⟨false, rfl, h⟩
    · exact ⟨true, rfl, h⟩
  · rename_i p d
    by_cases hp : p
    · simp only [hp, if_true] at h; exact ⟨true, by simp [toB, hp], h⟩
    · simp only [hp, if_false] at h; exact ⟨false, by simp [toB, hp], h⟩
  · cases h

/-- What an operation gives: the value that is put, and what changes. -/
theorem stepE_spec {α : Type} {P : Program} {cx : Cx} {all : List Oper} {o : Oper} {k : Nat} {fr : List SV} {lkp : Nat → Option Ent} {K : SV → Ups → Option α} {a : α} (h : stepE P cx all o k fr lkp K = some a) :
    ∃ v u, K v u = some a ∧ stepE P cx all o k fr lkp pr = some (v, u) := by
  unfold stepE at h ⊢
  split at h
  · cases h
  · exact ⟨undefV, [], h, rfl⟩
  · split at h
    · cases h
    · cases hs : srcB all k with
      | false =>
        rw [hs] at h
        simp only at h ⊢
        rw [core_nat, Option.bind_eq_some_iff] at h
        obtain ⟨⟨v, u⟩, h1, h2⟩ := h
        exact ⟨v, u, h2, h1⟩
      | true =>
        rw [hs] at h
        simp only at h ⊢
        rw [core_nat, Option.bind_eq_some_iff] at h
        obtain ⟨⟨v, u⟩, h1, h2⟩ := h
        obtain ⟨b, hb, h3⟩ := splitB_spec h2
        refine ⟨.blit b, u, h3, ?_⟩
        rw [core_nat, h1]
        simp only [Option.bind_some]
        cases v <;> simp only [toB, Option.some.injEq, reduceCtorEq] at hb
        · subst hb; rename_i b; cases b <;> rfl
        · subst hb; rfl
        · subst hb
          rename_i p d
          by_cases hp : p <;> simp [splitB, hp, pr]

/-! The machine's state and the reckoner's. -/
def FrWf (E : Env) (L : Store) (fr : List SV) : Prop := ∀ t, (fr.getD t undefV).wf E L ∨ fr.getD t undefV = .unk t
structure St (c : Cfg TB) (E : Env) (fr : List SV) (L : Store) (a : Act) (w : World) : Prop where
  sim : Sim E fr a
  hd : Hd c w E L
  wf : FrWf E L fr

def LExt (L L' : Store) : Prop := L'.length = L.length ∧ ∀ (n v : Nat) (e : Ent) (v' : Nat) (e' : Ent), L[n]? = some (v, e) → L'[n]? = some (v', e') → v ≤ v' ∧ (v' = v → e' = e)
theorem LExt.refl (L : Store) : LExt L L := ⟨rfl, fun n v e v' e' h h' => by rw [h] at h'; simp only [Option.some.injEq, Prod.mk.injEq] at h'; obtain ⟨rfl, rfl⟩ := h'; exact ⟨Nat.le_refl _, fun _ => rfl⟩⟩
theorem LExt.trans {A B C : Store} (h : LExt A B) (k : LExt B C) : LExt A C := by
  refine ⟨k.1.trans h.1, fun n v e v' e' h1 h2 => ?_⟩
  have hlt : n < A.length := by
    rcases Nat.lt_or_ge n A.length with h | h
    · exact h
    · rw [List.getElem?_eq_none h] at h1; cases h1
  obtain ⟨bv, be, hb⟩ : ∃ bv be, B[n]? = some (bv, be) := ⟨_, _, List.getElem?_eq_getElem (by rw [h.1]; exact hlt)⟩
  obtain ⟨a1, a2⟩ := h.2 n v e _ _ h1 hb
  obtain ⟨b1, b2⟩ := k.2 n _ _ v' e' hb h2
  refine ⟨Nat.le_trans a1 b1, fun he => ?_⟩
  have e1 : bv = v := by omega
  rw [b2 (by omega), a2 e1]
theorem LExt.upd (L : Store) (q : Nat × Ent) : LExt L (upd L q) := by
  refine ⟨upd_length _ _, fun n v e v' e' h1 h2 => ?_⟩
  unfold V3.upd at h2
  split at h2
  · rename_i v0 e0 hq
    rw [List.getElem?_set] at h2
    split at h2
    · rename_i hn
      subst hn
      rw [h1] at hq
      simp only [Option.some.injEq, Prod.mk.injEq] at hq
      obtain ⟨rfl, rfl⟩ := hq
      split at h2
      · simp only [Option.some.injEq, Prod.mk.injEq] at h2
        exact ⟨by omega, fun he => by omega⟩
      · cases h2
    · rw [h1] at h2
      simp only [Option.some.injEq, Prod.mk.injEq] at h2
      obtain ⟨rfl, rfl⟩ := h2
      exact ⟨Nat.le_refl _, fun _ => rfl⟩
  · rw [h1] at h2
    simp only [Option.some.injEq, Prod.mk.injEq] at h2
    obtain ⟨rfl, rfl⟩ := h2
    exact ⟨Nat.le_refl _, fun _ => rfl⟩
theorem LExt.updL (L : Store) (u : Ups) : LExt L (updL L u) := by
  induction u generalizing L with
  | nil => exact .refl _
  | cons q r ih => exact (LExt.upd L q).trans (ih _)

/-- What code may turn: names in use stay, slots that are not written stay. -/
structure Ext (W : List Nat) (E0 : Env) (fr0 : List SV) (L0 : Store) (E : Env) (fr : List SV) (L : Store) : Prop where
  nm : ∀ n, Al L0 n → E.nm n = E0.nm n ∧ Al L n
  ds : ∀ t, t ∉ W → E.ds t = E0.ds t
  lext : LExt L0 L
  len : fr.length = fr0.length
  out : ∀ t, t ∉ W → fr.getD t undefV = fr0.getD t undefV

theorem Ext.refl (W : List Nat) (E : Env) (fr : List SV) (L : Store) : Ext W E fr L E fr L := ⟨fun _ h => ⟨rfl, h⟩, fun _ _ => rfl, .refl _, rfl, fun _ _ => rfl⟩
theorem Ext.trans {W : List Nat} {E0 E1 E2 : Env} {f0 f1 f2 : List SV} {L0 L1 L2 : Store} (h : Ext W E0 f0 L0 E1 f1 L1) (k : Ext W E1 f1 L1 E2 f2 L2) : Ext W E0 f0 L0 E2 f2 L2 :=
  ⟨fun n hn => by obtain ⟨a, b⟩ := h.nm n hn; obtain ⟨c, d⟩ := k.nm n b; exact ⟨c.trans a, d⟩, fun t ht => (k.ds t ht).trans (h.ds t ht), h.lext.trans k.lext, k.len.trans h.len, fun t ht => (k.out t ht).trans (h.out t ht)⟩
theorem Ext.mono {W W' : List Nat} {E0 E1 : Env} {f0 f1 : List SV} {L0 L1 : Store} (h : Ext W E0 f0 L0 E1 f1 L1) (hs : ∀ t, t ∈ W → t ∈ W') : Ext W' E0 f0 L0 E1 f1 L1 :=
  ⟨h.nm, fun t ht => h.ds t (fun hx => ht (hs t hx)), h.lext, h.len, fun t ht => h.out t (fun hx => ht (hs t hx))⟩

theorem getD_set (fr : List SV) (t k : Nat) (v : SV) : (fr.set t v).getD k undefV = if t = k ∧ t < fr.length then v else fr.getD k undefV := by
  simp only [List.getD, List.getElem?_set]
  by_cases h : t = k
  · subst h
    by_cases h2 : t < fr.length
    · simp [h2]
    · simp [h2]
  · simp [h]

theorem denL_fr_ext {E E' : Env} {L L' : Store} {fr : List SV} (hf : FrWf E L fr) (hnm : ∀ n, Al L n → E'.nm n = E.nm n ∧ Al L' n) (hds : E'.ds = E.ds) : denL E' fr = denL E fr ∧ FrWf E' L' fr := by
  have key : ∀ t, (fr.getD t undefV).den E' = (fr.getD t undefV).den E ∧ ((fr.getD t undefV).wf E' L' ∨ fr.getD t undefV = .unk t) := by
    intro t
    rcases hf t with h | h
    · obtain ⟨h1, h2⟩ := wf_ext (fun n hn => (hnm n hn).2) (fun n hn => (hnm n hn).1) _ h
      exact ⟨h2, .inl h1⟩
    · exact ⟨by rw [h]; simp only [SV.den, hds], .inr h⟩
  refine ⟨?_, fun t => (key t).2⟩
  apply List.ext_getElem?
  intro i
  rw [denL_get?, denL_get?]
  by_cases hi : i < fr.length
  · have := (key i).1
    simp only [List.getD, List.getElem?_eq_getElem hi, Option.getD_some] at this
    rw [List.getElem?_eq_getElem hi]
    simp [this]
  · rw [List.getElem?_eq_none (by omega)]; rfl

theorem FrWf.put {E : Env} {L : Store} {fr : List SV} (h : FrWf E L fr) (d : Option Tmp) {v : SV} (hv : v.wf E L) : FrWf E L (putV fr d v) := by
  cases d with
  | none => exact h
  | some d =>
    intro t
    simp only [putV, getD_set]
    split
    · exact .inl hv
    · exact h t

theorem undef_wf (E : Env) (L : Store) : undefV.wf E L := trivial

theorem ev_wf {E : Env} {L : Store} {fr : List SV} (h : FrWf E L fr) (x : Operand) : (evc fr x).wf E L := by
  unfold evc
  cases x with
  | tmp t =>
    show (clean (fr.getD t undefV)).wf E L
    rcases h t with h | h
    · cases hx : fr.getD t undefV <;> first | (rw [hx] at h; exact h) | (rw [hx] at h; exact h.elim)
    · rw [h]; exact undef_wf _ _
  | const v =>
    simp only [ev]
    split
    all_goals first | trivial | (split <;> trivial)
  | global g => trivial
  | func f => trivial

section
variable {P : Program} {ops : Array Oper} {Q : Exit → Act → World → Prop}

theorem yield_blit {E : Env} {fr : List SV} {a : Act} (hs : Sim E fr a) {j t : Nat} {oj : Oper} {b : Bool} (hj : ops.toList[j]? = some oj) (hd : oj.dst = some t) (hv : fr.getD t undefV = .blit b) : yielded ops a.tmps j = some b := by
  have hj' : ops[j]? = some oj := by rw [← Array.getElem?_toList]; exact hj
  have ht : a.tmps[t]? = some (.bool b) := by
    rw [hs.1, List.getElem?_toArray, denL_get?]
    cases hx : fr[t]? with
    | none => simp [List.getD, hx, undefV] at hv
    | some v => simp [List.getD, hx] at hv; simp [hv, SV.den]
  simp [yielded, hj', hd, ht]
theorem yield_undef {E : Env} {fr : List SV} {a : Act} (hs : Sim E fr a) {j t : Nat} {oj : Oper} {vs : Array Value} (hj : ops.toList[j]? = some oj) (hd : oj.dst = some t) (hv : fr.getD t undefV = .raw (.tuple vs)) : yielded ops a.tmps j = none := by
  have hj' : ops[j]? = some oj := by rw [← Array.getElem?_toList]; exact hj
  unfold yielded
  rw [hj']
  simp only [Option.bind_some, hd, hs.1, List.getElem?_toArray, denL_get?]
  cases hx : fr[t]? with
  | none => rfl
  | some v => simp [List.getD, hx] at hv; simp [hv, SV.den]

theorem guardB_ok {E : Env} {fr : List SV} {a : Act} (hs : Sim E fr a) {o : Oper} {b : Bool} (h : guardB ops.toList o fr = some b) : Region.wanted o (yielded ops a.tmps) = b := by
  unfold guardB at h
  unfold Region.wanted
  split at h
  · rename_i hg
    simp only [Option.some.injEq] at h
    rw [hg]; exact h
  · rename_i j want hg
    rw [hg]
    simp only
    split at h
    · cases h
    · rename_i oj hj
      split at h
      · cases h
      · rename_i t hd
        split at h
        · rename_i b' hv
          simp only [Option.some.injEq] at h
          rw [yield_blit hs hj hd hv, ← h]
          cases b' <;> cases want <;> rfl
        · rename_i vs hv
          simp only [Option.some.injEq] at h
          rw [yield_undef hs hj hd hv, ← h]; rfl
        · cases h

/-- One operation of a region. -/
theorem step_ok {cx : Cx} (hcx : cx.Ok P) {o : Oper} {i k : Nat} (ho : ops[i]? = some o) {c : Cfg cx.tb} {E : Env} {fr : List SV} {L : Store} {a : Act} {w : World} (hst : St c E fr L a w) {lkp : Nat → Option Ent} (hlk : ∀ n e, lkp n = some e → look L n = some e)
    {v : SV} {u : Ups} (h : stepE P cx ops.toList o k fr lkp pr = some (v, u)) {K : Act → World → Prop}
    (hK : ∀ E' a' w', St c E' (putV fr o.dst v) (updL L u) a' w' → (∀ n, Al L n → E'.nm n = E.nm n ∧ Al (updL L u) n) → E'.ds = E.ds → K a' w') : wpOp P ops Q i K a w := by
  unfold wpOp
  rw [ho]
  simp only
  unfold stepE at h
  split at h
  · cases h
  · rename_i hg
    simp only [pr, Option.some.injEq, Prod.mk.injEq] at h
    obtain ⟨rfl, rfl⟩ := h
    rw [guardB_ok hst.sim hg]
    simp only [Bool.false_eq_true, if_false]
    exact hK E _ w ⟨hst.sim.put o.dst undefV, hst.hd, hst.wf.put o.dst (undef_wf _ _)⟩ (fun n hn => ⟨rfl, hn⟩) rfl
  · rename_i hg
    rw [guardB_ok hst.sim hg]
    simp only [if_true]
    refine .inl ?_
    split at h
    · cases h
    rename_i hnu
    obtain ⟨v0, hcore, hvv⟩ : ∃ v0, core P cx lkp o.dst (evc fr) pr o.op = some (v0, u) ∧ (∀ E : Env, v.den E = v0.den E) ∧ (∀ E L, v0.wf E L → v.wf E L) := by
      cases hs : srcB ops.toList k with
      | false => rw [hs] at h; exact ⟨v, h, fun _ => rfl, fun _ _ h => h⟩
      | true =>
        rw [hs] at h
        simp only at h
        rw [core_nat, Option.bind_eq_some_iff] at h
        obtain ⟨⟨v0, u0⟩, h1, h2⟩ := h
        obtain ⟨b, hb, h3⟩ := splitB_spec h2
        simp only [pr, Option.some.injEq, Prod.mk.injEq] at h3
        obtain ⟨rfl, rfl⟩ := h3
        exact ⟨v0, h1, fun E => by rw [toB_den hb]; rfl, fun _ _ _ => trivial⟩
    have hsel : ∀ cs b, o.op ≠ .select cs b := by
      intro cs b he
      rw [he] at hcore
      cases hfz : cx.frzd o.dst <;> (cases hkq : (cx.keeps o.dst && Op.isQuo (Op.select cs b)) <;> simp [core, core0, freezeE, hfz, pureOp, memE, Op.isQuo] at hcore hkq)
    obtain ⟨G, hG⟩ := hst.hd
    refine core_ok hcx hlk hcore c w E ⟨G, hG⟩ (fun x => ev_wf hst.wf x) a _ Q ?_ ?_
    · refine execOp_congr o hsel fun x hx => ?_
      rw [ev_den hst.sim x]
      have := List.all_eq_true.1 hnu x (by simpa using hx)
      unfold evc
      cases hv : ev fr x <;> first | rfl | (rw [hv] at this; simp [isUnk] at this)
    · intro E' w' hH hnm hds hwf
      obtain ⟨d1, d2⟩ := denL_fr_ext hst.wf hnm hds
      have hs' : Sim E' fr a := ⟨by rw [hst.sim.1, d1], hst.sim.2⟩
      refine hK E' _ w' ⟨?_, hH, d2.put o.dst (hvv.2 _ _ hwf)⟩ hnm hds
      rw [← hvv.1 E']
      exact hs'.put o.dst v

theorem out_put {W : List Nat} {fr : List SV} {d : Option Tmp} {v : SV} (h : ∀ t, d = some t → t ∈ W) : ∀ t, t ∉ W → (putV fr d v).getD t undefV = fr.getD t undefV := by
  intro t ht
  cases d with
  | none => rfl
  | some d =>
    simp only [putV, getD_set]
    rw [if_neg]
    rintro ⟨rfl, _⟩
    exact ht (h d rfl)
theorem putV_length (fr : List SV) (d : Option Tmp) (v : SV) : (putV fr d v).length = fr.length := by cases d <;> simp [putV]

theorem rkOps_ok {α : Type} {cx : Cx} (hcx : cx.Ok P) {W : List Nat} {c : Cfg cx.tb} {fr0 : List SV} {L0 : Store} {E0 : Env} {K : List SV → Store → Option α} {r0 : α}
    (hK : ∀ E' fr' L' a' w', St c E' fr' L' a' w' → Ext W E0 fr0 L0 E' fr' L' → K fr' L' = some r0 → Q .normal a' w') :
    ∀ (rest : List Oper) (k : Nat), ops.toList.drop k = rest → (∀ o ∈ rest, ∀ d, o.dst = some d → d ∈ W) → ∀ (E : Env) (fr : List SV) (L : Store) (a : Act) (w : World), St c E fr L a w → Ext W E0 fr0 L0 E fr L →
      rkOps P cx ops.toList rest k fr L K = some r0 → wpOps P ops Q (List.range' k rest.length) a w
  | [], k, _, _, E, fr, L, a, w, hst, hext, hv => hK E fr L a w hst hext hv
  | o :: rest, k, hd, hW, E, fr, L, a, w, hst, hext, hv => by
    have hok : ops[k]? = some o := by
      rw [← Array.getElem?_toList]
      have := congrArg (fun l => l[0]?) hd
      simpa [List.getElem?_drop] using this
    have hd' : ops.toList.drop (k + 1) = rest := by
      have := congrArg (List.drop 1) hd
      simpa [List.drop_drop, Nat.add_comm] using this
    obtain ⟨v, u, h1, h2⟩ := stepE_spec hv
    show wpOps P ops Q (k :: List.range' (k + 1) rest.length) a w
    rw [wpOps_cons]
    refine step_ok hcx hok hst (fun n e h => h) h2 fun E' a' w' hst' hnm hds => ?_
    refine rkOps_ok hcx hK rest (k + 1) hd' (fun o' ho' => hW o' (by simp [ho'])) E' _ _ a' w' hst' (hext.trans ?_) h1
    exact ⟨hnm, fun t _ => by rw [hds], LExt.updL L u, putV_length _ _ _, out_put fun t ht => hW o (by simp) t ht⟩
end

end Go.V3
