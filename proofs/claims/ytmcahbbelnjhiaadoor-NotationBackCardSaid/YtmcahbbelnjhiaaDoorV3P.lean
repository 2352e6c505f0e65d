/-
  Part P: regions whose order is drawn: operations that do not meet may change places.
-/
import Derived.Test.YtmcahbbelnjhiaaDoorV3O
set_option linter.unusedVariables false
namespace Go.V3
open Go
variable {TB : Tb}

/-- The operations that must lie before. -/
def bindsTo (o : Oper) : List Nat := (o.after.toList.filter (Region.binds .any)).map (·.on)
/-- All that must lie before, by and by. -/
def ancs (ops : List Oper) : Nat → List Nat → List Nat → List Nat
  | 0, _, seen => seen
  | _ + 1, [], seen => seen
  | n + 1, i :: todo, seen => if seen.contains i then ancs ops n todo seen else match ops[i]? with
    | some o => ancs ops n (bindsTo o ++ todo) (i :: seen)
    | none => ancs ops n todo seen
def ancOf (ops : List Oper) (o : Oper) : List Nat := ancs ops 4000 (bindsTo o) []

/-- The slots that an operation looks at. -/
def looksL (all : List Oper) (o : Oper) : List Nat :=
  (o.op.operands.toList.filterMap fun | .tmp t => some t | _ => none) ++ (match o.guard with
   | some (g, _) => (match all[g]? with
     | some oj => oj.dst.toList
     | none => [])
   | none => [])

mutual
def namesV : SV → List Nat
  | .loc i _ => [i]
  | .el i _ _ _ => [i]
  | .slw i => [i]
  | .sub i _ _ _ => [i]
  | .agg cs => namesL cs
  | .tup vs => namesL vs
  | .mpv i => [i]
  | .clo _ cs => namesL cs
  | _ => []
def namesL : List SV → List Nat
  | [] => []
  | v :: r => namesV v ++ namesL r
end
def directE (fr : List SV) (o : Oper) : List Nat := o.op.operands.toList.flatMap fun x => namesV (evc fr x)
def boxNames (lkp : Nat → Option Ent) (i : Nat) : List Nat := match lkp i with
  | some (.box cs) => namesL cs
  | some (.deep _ _ (some (_, j))) => [j]
  | _ => []
/-- What an operation looks at in the store. -/
def isMv : Op → Bool
  | .move _ => true
  | .assign _ => true
  | _ => false
def footE (cx : Cx) (fr : List SV) (lkp : Nat → Option Ent) (o : Oper) : List Nat := match isMv o.op && !cx.frzd o.dst with
  | true => []
  | false => directE fr o ++ (directE fr o).flatMap (boxNames lkp) ++ (List.range (cx.rng o.dst).2).map fun k => (cx.rng o.dst).1 + k
def restr (ft : List Nat) (lkp : Nat → Option Ent) (n : Nat) : Option Ent := match ft.contains n with
  | true => lkp n
  | false => none

/-- What an operation has met: its slot, the slots and the names that it looked at, the names that it changed. -/
structure Met where
  i : Nat
  dst : Option Nat
  lks : List Nat
  rd : List Nat
  wr : List Nat
def apartB (x y : Met) : Bool :=
  (match x.dst with
  | some d => !y.lks.contains d && !(y.dst == some d)
  | none => true) && (match y.dst with
  | some d => !x.lks.contains d
  | none => true) && x.wr.all (fun n => !y.rd.contains n && !y.wr.contains n) && y.wr.all (fun n => !x.rd.contains n)

section
variable {α : Type}
def rkDs (P : Program) (cx : Cx) (all : List Oper) : List Oper → Nat → List Met → List SV → Store → (List SV → Store → Option α) → Option α
  | [], _, _, fr, L, K => K fr L
  | o :: r, k, acc, fr, L, K => stepE P cx all o k fr (restr (footE cx fr (look L) o) (look L)) (fun v u =>
    match acc.all (fun q => (ancOf all o).contains q.i || apartB q ⟨k, o.dst, looksL all o, footE cx fr (look L) o, u.map (·.1)⟩) with
    | true => rkDs P cx all r (k + 1) (⟨k, o.dst, looksL all o, footE cx fr (look L) o, u.map (·.1)⟩ :: acc) (putV fr o.dst v) (updL L u) K
    | false => none)
end
/-- Each operation stands behind what must lie before it. -/
def topoB (all : List Oper) : List Oper → Nat → Bool
  | [], _ => true
  | o :: r, k => (bindsTo o).all (fun j => decide (j < k)) && topoB all r (k + 1)

/-! One step, and many. -/
def sst (P : Program) (cx : Cx) (all : List Oper) (i : Nat) (s : List SV × Store) : Option ((List SV × Store) × Met) :=
  match all[i]? with
  | none => none
  | some o => match stepE P cx all o i s.1 (restr (footE cx s.1 (look s.2) o) (look s.2)) pr with
    | some (v, u) => some ((putV s.1 o.dst v, updL s.2 u), ⟨i, o.dst, looksL all o, footE cx s.1 (look s.2) o, u.map (·.1)⟩)
    | none => none
def Run (P : Program) (cx : Cx) (all : List Oper) : List Nat → List SV × Store → List SV × Store → List Met → Prop
  | [], s, s', fs => s' = s ∧ fs = []
  | i :: l, s, s', fs => ∃ s1 f fs', sst P cx all i s = some (s1, f) ∧ Run P cx all l s1 s' fs' ∧ fs = f :: fs'

def Fine (all : List Oper) (x y : Met) : Prop := (∃ o, all[y.i]? = some o ∧ x.i ∈ ancOf all o) ∨ apartB x y = true

section
variable {P : Program} {cx : Cx} {all : List Oper}

theorem rkDs_run {α : Type} {K : List SV → Store → Option α} {r0 : α} : ∀ (rest : List Oper) (k : Nat) (acc : List Met) (fr : List SV) (L : Store), all.drop k = rest → rkDs P cx all rest k acc fr L K = some r0 →
    ∃ s' fs, Run P cx all (List.range' k rest.length) (fr, L) s' fs ∧ K s'.1 s'.2 = some r0 ∧ fs.Pairwise (Fine all) ∧ ∀ q ∈ acc, ∀ f ∈ fs, Fine all q f
  | [], k, acc, fr, L, _, h => ⟨(fr, L), [], ⟨rfl, rfl⟩, h, List.Pairwise.nil, fun _ _ _ hf => by cases hf⟩
  | o :: rest, k, acc, fr, L, hd, h => by
    have hok : all[k]? = some o := by
      have := congrArg (fun l => l[0]?) hd
      simpa [List.getElem?_drop] using this
    have hd' : all.drop (k + 1) = rest := by
      have := congrArg (List.drop 1) hd
      simpa [List.drop_drop, Nat.add_comm] using this
    obtain ⟨v, u, h1, h2⟩ := stepE_spec h
    split at h1
    rotate_left
    · cases h1
    rename_i hacc
    obtain ⟨s', fs, r1, r2, r3, r4⟩ := rkDs_run rest (k + 1) _ _ _ hd' h1
    refine ⟨s', ⟨k, o.dst, looksL all o, footE cx fr (look L) o, u.map (·.1)⟩ :: fs, ⟨(putV fr o.dst v, updL L u), ⟨k, o.dst, looksL all o, footE cx fr (look L) o, u.map (·.1)⟩, fs, ?_, r1, rfl⟩, r2, ?_, ?_⟩
    · simp only [sst, hok, h2]
    · exact List.Pairwise.cons (fun f hf => r4 _ (by simp) f hf) r3
    · intro q hq f hf
      rcases List.mem_cons.1 hf with rfl | hf
      · have := List.all_eq_true.1 hacc q hq
        rcases Bool.or_eq_true _ _ ▸ this with h | h
        · exact .inl ⟨o, hok, by simpa using h⟩
        · exact .inr h
      · exact r4 q (by simp [hq]) f hf

theorem core_congr {α : Type} {lkp : Nat → Option Ent} {dst : Option Tmp} {ρ ρ' : Operand → SV} {K : SV → Ups → Option α} {op : Op} (h : ∀ x ∈ op.operands.toList, ρ x = ρ' x) : core P cx lkp dst ρ K op = core P cx lkp dst ρ' K op := by
  have pairs : ∀ ps : Array (Nat × Operand), (∀ x ∈ ps.toList.map (·.2), ρ x = ρ' x) → (ps.toList.map fun q => (q.1, ρ q.2)) = (ps.toList.map fun q => (q.1, ρ' q.2)) := fun ps hp =>
    List.map_congr_left fun p hm => by
      obtain ⟨i, x⟩ := p
      simp only [hp x (List.mem_map.2 ⟨(i, x), hm, rfl⟩)]
  have hfz : freezeE lkp ρ K op = freezeE lkp ρ' K op := by
    cases op <;> simp only [Op.operands] at h <;> simp only [freezeE]
    all_goals rw [h _ (by simp)]
  unfold core
  rw [hfz]
  split
  · rfl
  unfold core0
  cases op <;> simp only [Op.operands] at h <;> simp only [pureOp, memE]
  case build t ps => rw [pairs ps fun x hx => h x (by simpa using hx)]
  case buildSlice t n ps => rw [pairs ps fun x hx => h x (by simpa using hx)]
  case call c =>
    obtain ⟨callee, args, ts⟩ := c
    have hargs : args.toList.map ρ = args.toList.map ρ' := List.map_congr_left fun x hx => h x (by simp [Call.operands]; exact .inr (by simpa using hx))
    cases callee with
    | builtin b => cases b <;> simp only [hargs]
    | value f =>
      have hf : ρ f = ρ' f := h f (by simp [Call.operands])
      simp only [hf, hargs]
    | _ => rfl
  case slice t x lo hi mx => cases lo <;> cases hi <;> cases mx <;> simp_all
  case makeFunc fn first captured =>
    have hc : captured.toList.map ρ = captured.toList.map ρ' := List.map_congr_left fun x hx => h x (by simp; exact .inr (by simpa using hx))
    simp only [hc]
  case makeMap t r => cases r <;> rfl
  case binOp op t x y rt =>
    have hx : ρ x = ρ' x := h x (by simp)
    have hy : ρ y = ρ' y := h y (by simp)
    cases op <;> simp only [hx, hy]
  all_goals first | rfl | (simp_all; done)

theorem evc_putV {fr : List SV} {d : Option Tmp} {v : SV} {x : Operand} (h : ∀ t, d = some t → x ≠ .tmp t) : ev (putV fr d v) x = ev fr x := by
  cases d with
  | none => rfl
  | some d =>
    cases x with
    | tmp t =>
      show (fr.set d v).getD t undefV = fr.getD t undefV
      rw [getD_set, if_neg]
      rintro ⟨rfl, _⟩
      exact h d rfl rfl
    | _ => rfl

theorem putV_comm {fr : List SV} {x y : Option Tmp} {u v : SV} (h : ∀ d, x = some d → y ≠ some d) : putV (putV fr x u) y v = putV (putV fr y v) x u := by
  cases x with
  | none => rfl
  | some d =>
    cases y with
    | none => rfl
    | some e =>
      have hne : d ≠ e := fun he => h d rfl (he ▸ rfl)
      simp [putV, List.set_comm _ _ hne]

theorem look_updL_out {L : Store} {u : Ups} {n : Nat} (h : n ∉ u.map (·.1)) : look (updL L u) n = look L n ∧ (updL L u)[n]? = L[n]? := by
  induction u generalizing L with
  | nil => exact ⟨rfl, rfl⟩
  | cons q r ih =>
    simp only [List.map_cons, List.mem_cons, not_or] at h
    obtain ⟨i1, i2⟩ := ih (L := upd L q) h.2
    have hu : (upd L q)[n]? = L[n]? := by
      unfold upd
      split
      · rw [List.getElem?_set_ne (fun he => h.1 he.symm)]
      · rfl
    have e2 : (updL L (q :: r))[n]? = L[n]? := i2.trans hu
    exact ⟨by unfold look; rw [e2], e2⟩

theorem updL_get {L L' : Store} {u : Ups} {n : Nat} (h : L[n]? = L'[n]?) : (updL L u)[n]? = (updL L' u)[n]? := by
  induction u generalizing L L' with
  | nil => exact h
  | cons q r ih =>
    refine ih (L := upd L q) (L' := upd L' q) ?_
    by_cases hn : q.1 = n
    · subst hn
      unfold upd
      rw [← h]
      cases hx : L[q.1]? with
      | none => simp only; rw [hx, ← h, hx]
      | some p =>
        obtain ⟨v, e⟩ := p
        simp only
        have h1 : q.1 < L.length := by
          rcases Nat.lt_or_ge q.1 L.length with h' | h'
          · exact h'
          · rw [List.getElem?_eq_none h'] at hx; cases hx
        have h2 : q.1 < L'.length := by
          rcases Nat.lt_or_ge q.1 L'.length with h' | h'
          · exact h'
          · rw [h, List.getElem?_eq_none h'] at hx; cases hx
        rw [List.getElem?_set_self h1, List.getElem?_set_self h2]
    · have e : ∀ L : Store, (upd L q)[n]? = L[n]? := by
        intro L
        unfold upd
        split
        · rw [List.getElem?_set_ne hn]
        · rfl
      rw [e, e, h]

theorem updL_comm {L : Store} {u v : Ups} (h : ∀ n ∈ u.map (·.1), n ∉ v.map (·.1)) : updL (updL L u) v = updL (updL L v) u := by
  apply List.ext_getElem?
  intro n
  by_cases hu : n ∈ u.map (·.1)
  · have hv := h n hu
    rw [(look_updL_out hv).2]
    exact updL_get ((look_updL_out hv).2).symm
  · rw [(look_updL_out hu).2]
    exact updL_get (look_updL_out hu).2

theorem restr_congr {ft : List Nat} {f g : Nat → Option Ent} (h : ∀ n ∈ ft, f n = g n) : restr ft f = restr ft g := by
  funext n
  unfold restr
  cases hc : ft.contains n with
  | true => exact h n (by simpa using hc)
  | false => rfl

theorem mem_looks {o : Oper} {t : Nat} (h : Operand.tmp t ∈ o.op.operands.toList) : t ∈ looksL all o := List.mem_append.2 (.inl (List.mem_filterMap.2 ⟨.tmp t, h, rfl⟩))

/-- An operation looks at no more than what it met. -/
theorem sst_frame {i : Nat} {o : Oper} (ho : all[i]? = some o) {fr fr' : List SV} {L L' : Store} (hev : ∀ x ∈ o.op.operands.toList, ev fr' x = ev fr x) (hg : guardB all o fr' = guardB all o fr) (hL : ∀ n ∈ footE cx fr (look L) o, look L' n = look L n) :
    footE cx fr' (look L') o = footE cx fr (look L) o ∧
      stepE P cx all o i fr' (restr (footE cx fr' (look L') o) (look L')) pr = stepE P cx all o i fr (restr (footE cx fr (look L) o) (look L)) pr := by
  have hd : directE fr' o = directE fr o := by
    unfold directE
    rw [List.flatMap_def, List.flatMap_def]
    congr 1
    apply List.map_congr_left
    intro x hx
    simp only [evc, hev x hx]
  have hf : footE cx fr' (look L') o = footE cx fr (look L) o := by
    cases hm : isMv o.op && !cx.frzd o.dst with
    | true => unfold footE; rw [hm]
    | false =>
      unfold footE
      rw [hm, hd]
      simp only
      congr 2
      rw [List.flatMap_def, List.flatMap_def]
      congr 1
      apply List.map_congr_left
      intro n hn
      unfold boxNames
      rw [hL n (by unfold footE; rw [hm]; exact List.mem_append.2 (.inl (List.mem_append.2 (.inl hn))))]
  refine ⟨hf, ?_⟩
  rw [hf, restr_congr hL]
  unfold stepE
  rw [hg]
  have hnu : noUnk fr' o.op = noUnk fr o.op := by
    unfold noUnk
    rw [Bool.eq_iff_iff]
    simp only [List.all_eq_true]
    constructor
    · intro h x hx; rw [← hev x hx]; exact h x hx
    · intro h x hx; rw [hev x hx]; exact h x hx
  rw [hnu]
  split
  · rfl
  · rfl
  · split
    · rfl
    · exact core_congr fun x hx => by simp only [evc, hev x hx]

theorem apartB_spec {x y : Met} (h : apartB x y = true) : (∀ d, x.dst = some d → d ∉ y.lks) ∧ (∀ d, x.dst = some d → y.dst ≠ some d) ∧ (∀ d, y.dst = some d → d ∉ x.lks) ∧ (∀ n ∈ x.wr, n ∉ y.rd ∧ n ∉ y.wr) ∧ (∀ n ∈ y.wr, n ∉ x.rd) := by
  unfold apartB at h
  simp only [Bool.and_eq_true, List.all_eq_true, Bool.not_eq_true', List.contains_eq_mem, decide_eq_false_iff_not] at h
  obtain ⟨⟨⟨h1, h2⟩, h3⟩, h4⟩ := h
  refine ⟨fun d hd => ?_, fun d hd => ?_, fun d hd => ?_, h3, h4⟩
  · rw [hd] at h1; simp at h1; exact h1.1
  · rw [hd] at h1; simp at h1; exact h1.2
  · rw [hd] at h2; simpa using h2

theorem guardB_putV {o : Oper} {fr : List SV} {d : Option Tmp} {v : SV} (h : ∀ t, d = some t → t ∉ looksL all o) : guardB all o (putV fr d v) = guardB all o fr := by
  unfold guardB
  cases hg : o.guard with
  | none => rfl
  | some q =>
    obtain ⟨j, want⟩ := q
    simp only
    cases hj : all[j]? with
    | none => rfl
    | some oj =>
      simp only
      cases hd : oj.dst with
      | none => rfl
      | some t =>
        simp only
        have : (putV fr d v).getD t undefV = fr.getD t undefV := by
          cases d with
          | none => rfl
          | some d =>
            simp only [putV, getD_set]
            rw [if_neg]
            rintro ⟨rfl, _⟩
            refine h d rfl ?_
            unfold looksL
            rw [hg]
            simp [hj, hd]
        rw [this]

theorem ev_putV_of {o : Oper} {fr : List SV} {d : Option Tmp} {v : SV} (h : ∀ t, d = some t → t ∉ looksL all o) : ∀ x ∈ o.op.operands.toList, ev (putV fr d v) x = ev fr x := by
  intro x hx
  refine evc_putV fun t ht he => h t ht ?_
  subst he
  exact mem_looks hx

/-- Two operations that do not meet change places. -/
theorem sst_swap {x i : Nat} {s s1 s2 : List SV × Store} {f g : Met} (h1 : sst P cx all x s = some (s1, f)) (h2 : sst P cx all i s1 = some (s2, g)) (ha : apartB f g = true) :
    ∃ s1', sst P cx all i s = some (s1', g) ∧ sst P cx all x s1' = some (s2, f) := by
  obtain ⟨fr, L⟩ := s
  unfold sst at h1 h2
  split at h1
  · cases h1
  rename_i ox hox
  split at h1
  rotate_left
  · cases h1
  rename_i vx ux hx
  simp only [Option.some.injEq, Prod.mk.injEq] at h1
  obtain ⟨rfl, rfl⟩ := h1
  split at h2
  · cases h2
  rename_i oi hoi
  split at h2
  rotate_left
  · cases h2
  rename_i vi ui hi
  simp only [Option.some.injEq, Prod.mk.injEq] at h2
  obtain ⟨rfl, rfl⟩ := h2
  obtain ⟨a1, a2, a3, a4, a5⟩ := apartB_spec ha
  simp only at a1 a2 a3 a4 a5 hi hx
  -- i first
  obtain ⟨f1, f2⟩ := sst_frame (P := P) (cx := cx) hoi (fr := putV fr ox.dst vx) (fr' := fr) (L := updL L ux) (L' := L) (fun y hy => (ev_putV_of a1 y hy).symm) (guardB_putV a1).symm
    (fun n hn => ((look_updL_out (fun hw => (a4 n hw).1 hn)).1).symm)
  obtain ⟨g1, g2⟩ := sst_frame (P := P) (cx := cx) hox (fr := fr) (fr' := putV fr oi.dst vi) (L := L) (L' := updL L ui) (fun y hy => ev_putV_of a3 y hy) (guardB_putV a3)
    (fun n hn => (look_updL_out (fun hw => a5 n hw hn)).1)
  refine ⟨(putV fr oi.dst vi, updL L ui), ?_, ?_⟩
  · unfold sst
    rw [hoi]
    simp only
    rw [f2, hi]
    simp only [f1]
  · unfold sst
    rw [hox]
    simp only
    rw [g2, hx]
    simp only [g1]
    rw [putV_comm (fr := fr) (x := ox.dst) (y := oi.dst) (u := vx) (v := vi) a2, updL_comm (L := L) (u := ux) (v := ui) (fun n hn => (a4 n hn).2)]

theorem run_bubble {i : Nat} : ∀ (l1 l2 : List Nat) (s s' : List SV × Store) (fs : List Met), Run P cx all (l1 ++ i :: l2) s s' fs → fs.Pairwise (Fine all) → (∀ x ∈ l1, ∀ o, all[i]? = some o → x ∉ ancOf all o) →
    ∃ g fs', Run P cx all (i :: (l1 ++ l2)) s s' (g :: fs') ∧ g ∈ fs ∧ g.i = i ∧ fs'.Sublist fs
  | [], l2, s, s', fs, h, _, _ => by
    obtain ⟨s1, f, fs', h1, h2, rfl⟩ := h
    refine ⟨f, fs', ⟨s1, f, fs', h1, h2, rfl⟩, by simp, ?_, List.sublist_cons_self _ _⟩
    unfold sst at h1
    split at h1
    · cases h1
    · split at h1
      · simp only [Option.some.injEq, Prod.mk.injEq] at h1; rw [← h1.2]
      · cases h1
  | x :: l1, l2, s, s', fs, h, hp, ha => by
    obtain ⟨s1, f, fs1, h1, h2, rfl⟩ := h
    rw [List.pairwise_cons] at hp
    obtain ⟨g, fs', k1, k2, k3, k4⟩ := run_bubble l1 l2 s1 s' fs1 h2 hp.2 (fun y hy => ha y (by simp [hy]))
    obtain ⟨s2, g', fs2, k5, k6, k7⟩ := k1
    simp only [List.cons.injEq] at k7
    obtain ⟨rfl, rfl⟩ := k7
    have hfi : f.i = x := by
      unfold sst at h1
      split at h1
      · cases h1
      · split at h1
        · simp only [Option.some.injEq, Prod.mk.injEq] at h1; rw [← h1.2]
        · cases h1
    have hap : apartB f g = true := by
      rcases hp.1 g k2 with ⟨o, ho, hx⟩ | h
      · rw [k3] at ho
        rw [hfi] at hx
        exact absurd hx (ha x (by simp) o ho)
      · exact h
    obtain ⟨s1', q1, q2⟩ := sst_swap h1 k5 hap
    exact ⟨g, f :: fs', ⟨s1', g, _, q1, ⟨s2, f, _, q2, k6, rfl⟩, rfl⟩, by simp [k2], k3, k4.cons_cons f⟩
end

section
variable {P : Program} {ops : Array Oper} {Q : Exit → Act → World → Prop}

def isL (listed : Array Bool) (i : Nat) : Prop := listed.getD i false = true

theorem ancs_listed {listed : Array Bool} (hc : ∀ i o, ops[i]? = some o → isL listed i → ∀ j ∈ bindsTo o, isL listed j) : ∀ (n : Nat) (todo seen : List Nat), (∀ j ∈ todo, isL listed j) → (∀ j ∈ seen, isL listed j) → ∀ j ∈ ancs ops.toList n todo seen, isL listed j := by
  intro n
  induction n with
  | zero => intro todo seen _ h2 j hj; exact h2 j (by simpa [ancs] using hj)
  | succ n ih =>
    intro todo seen h1 h2
    cases todo with
    | nil => intro j hj; exact h2 j (by simpa [ancs] using hj)
    | cons i todo =>
      have hi := h1 i (by simp)
      have ht : ∀ j ∈ todo, isL listed j := fun j hj => h1 j (by simp [hj])
      simp only [ancs]
      split
      · exact ih todo seen ht h2
      · split
        · rename_i o ho
          refine ih _ _ ?_ ?_
          · intro j hj
            rcases List.mem_append.1 hj with hj | hj
            · exact hc i o (by rw [← Array.getElem?_toList]; exact ho) hi j hj
            · exact ht j hj
          · intro j hj
            rcases List.mem_cons.1 hj with rfl | hj
            · exact hi
            · exact h2 j hj
        · exact ih todo seen ht h2

theorem topoB_spec : ∀ (l : List Oper) (k : Nat), topoB ops.toList l k = true → ∀ (i : Nat) (o : Oper), l[i]? = some o → ∀ j ∈ bindsTo o, j < k + i
  | [], _, _, i, o, h => by simp at h
  | o' :: r, k, h, i, o, ho => by
    simp only [topoB, Bool.and_eq_true, List.all_eq_true, decide_eq_true_eq] at h
    cases i with
    | zero => simp only [List.getElem?_cons_zero, Option.some.injEq] at ho; subst ho; exact h.1
    | succ i =>
      intro j hj
      have := topoB_spec r (k + 1) h.2 i o (by simpa using ho) j hj
      omega

theorem mem_bindsTo {o : Oper} {j : Nat} : j ∈ bindsTo o ↔ ∃ e ∈ o.after, Region.binds .any e = true ∧ e.on = j := by
  unfold bindsTo
  simp only [List.mem_map, List.mem_filter]
  constructor
  · rintro ⟨e, ⟨h1, h2⟩, h3⟩; exact ⟨e, by simpa using h1, h2, h3⟩
  · rintro ⟨e, h1, h2, h3⟩; exact ⟨e, ⟨by simpa using h1, h2⟩, h3⟩

/-- What is known while a region's operations are carried out in some order. -/
structure Sg (ops : Array Oper) (listed : Array Bool) (l : List Nat) : Prop where
  size : listed.size = ops.size
  mem : ∀ i, i ∈ l ↔ i < ops.size ∧ ¬ isL listed i
  sorted : l.Pairwise (· < ·)
  closed : ∀ i o, ops[i]? = some o → isL listed i → ∀ j ∈ bindsTo o, isL listed j

theorem drawOk {cx : Cx} (hcx : cx.Ok P) (htopo : topoB ops.toList ops.toList 0 = true) {W : List Nat} (hW : ∀ (i : Nat) (o : Oper), ops[i]? = some o → ∀ d, o.dst = some d → d ∈ W) {c : Cfg cx.tb} {fr0 : List SV} {L0 : Store} {E0 : Env} {s' : List SV × Store}
    (hK : ∀ E' a' w', St c E' s'.1 s'.2 a' w' → Ext W E0 fr0 L0 E' s'.1 s'.2 → Q .normal a' w') :
    ∀ (n : Nat) (l : List Nat) (listed : Array Bool) (fs : List Met) (s : List SV × Store) (E : Env) (a : Act) (w : World), l.length = n → Sg ops listed l → Run P cx ops.toList l s s' fs → fs.Pairwise (Fine ops.toList) → St c E s.1 s.2 a w → Ext W E0 fr0 L0 E s.1 s.2 →
      wpAny P .any ops Q n listed a w := by
  have hready : ∀ (listed : Array Bool) (l : List Nat), Sg ops listed l → ∀ i, i ∈ Region.ready .any ops listed ↔ i ∈ l ∧ ∃ o, ops[i]? = some o ∧ ∀ j ∈ bindsTo o, isL listed j := by
    intro listed l hs i
    rw [mem_ready]
    constructor
    · rintro ⟨h1, o, ho, h2⟩
      have hlt : i < ops.size := (Array.getElem?_eq_some_iff.1 ho).1
      have hl2 : i < listed.size := by rw [hs.size]; exact hlt
      refine ⟨(hs.mem i).2 ⟨hlt, fun hx => ?_⟩, o, ho, fun j hj => ?_⟩
      · unfold isL at hx
        simp [hl2] at h1 hx
        rw [h1] at hx; cases hx
      · obtain ⟨e, he, hb, rfl⟩ := mem_bindsTo.1 hj
        exact h2 e he hb
    · rintro ⟨h1, o, ho, h2⟩
      obtain ⟨hlt, hn⟩ := (hs.mem i).1 h1
      have hl2 : i < listed.size := by rw [hs.size]; exact hlt
      refine ⟨?_, o, ho, fun e he hb => h2 _ (mem_bindsTo.2 ⟨e, he, hb, rfl⟩)⟩
      unfold isL at hn
      simp [hl2] at hn ⊢
      exact hn
  intro n
  induction n with
  | zero =>
    intro l listed fs s E a w hl hs hrun hpw hst hext
    obtain rfl : l = [] := List.eq_nil_of_length_eq_zero hl
    obtain ⟨rfl, rfl⟩ := hrun
    refine ⟨List.eq_nil_iff_forall_not_mem.2 fun i hi => ?_, hK E a w hst hext⟩
    have := ((hready _ _ hs i).1 hi).1
    cases this
  | succ n ih =>
    intro l listed fs s E a w hl hs hrun hpw hst hext
    refine ⟨fun h0 => ?_, fun i hi => ?_⟩
    · exfalso
      cases l with
      | nil => simp at hl
      | cons k r =>
        obtain ⟨hlt, hn⟩ := (hs.mem k).1 (by simp)
        have ho : ops[k]? = some ops[k] := Array.getElem?_eq_getElem hlt
        have : k ∈ Region.ready .any ops listed := (hready _ _ hs k).2 ⟨by simp, _, ho, fun j hj => by
          have hjk := topoB_spec ops.toList 0 htopo k ops[k] (by rw [Array.getElem?_toList]; exact ho) j hj
          rw [Nat.zero_add] at hjk
          refine Classical.byContradiction fun hx => ?_
          have hjl := (hs.mem j).2 ⟨by omega, hx⟩
          rcases List.mem_cons.1 hjl with rfl | hjl
          · omega
          · have := (List.pairwise_cons.1 hs.sorted).1 j hjl
            omega⟩
        rw [h0] at this; cases this
    · obtain ⟨hil, o, ho, hdep⟩ := (hready _ _ hs i).1 hi
      obtain ⟨l1, l2, rfl⟩ := List.append_of_mem hil
      have ho' : ops.toList[i]? = some o := by rw [Array.getElem?_toList]; exact ho
      have hanc : ∀ x ∈ l1, ∀ o', ops.toList[i]? = some o' → x ∉ ancOf ops.toList o' := by
        intro x hx o' ho2 hin
        rw [ho'] at ho2
        simp only [Option.some.injEq] at ho2
        subst ho2
        have := ancs_listed hs.closed 4000 (bindsTo o) [] hdep (by simp) x hin
        exact ((hs.mem x).1 (by simp [hx])).2 this
      obtain ⟨g, fs2, ⟨s1, g', fs2', k5, k6, k7⟩, k2, k3, k4⟩ := run_bubble l1 l2 s s' fs hrun hpw hanc
      obtain ⟨e1, e2⟩ := List.cons.inj k7
      subst e1
      rw [← e2] at k6
      unfold sst at k5
      rw [ho'] at k5
      simp only at k5
      split at k5
      rotate_left
      · cases k5
      rename_i v u hstep
      simp only [Option.some.injEq, Prod.mk.injEq] at k5
      obtain ⟨rfl, -⟩ := k5
      refine step_ok hcx ho hst (fun n e h => ?_) hstep fun E' a' w' hst' hnm hds => ?_
      · unfold restr at h
        split at h
        · exact h
        · cases h
      · have hnd : (l1 ++ i :: l2).Nodup := hs.sorted.imp (fun h => Nat.ne_of_lt h)
        have hlt : i < ops.size := ((hs.mem i).1 hil).1
        have hset : ∀ j, isL (listed.setIfInBounds i true) j ↔ j = i ∨ isL listed j := by
          intro j
          unfold isL
          by_cases hji : i = j
          · subst hji
            have : i < listed.size := by rw [hs.size]; exact hlt
            simp [this]
          · simp [Array.getElem?_setIfInBounds_ne hji, Ne.symm hji]
        refine ih (l1 ++ l2) (listed.setIfInBounds i true) fs2 _ E' a' w' (by simp at hl ⊢; omega) ⟨by simp [hs.size], fun j => ?_, ?_, ?_⟩ k6 (hpw.sublist k4) hst' (hext.trans ?_)
        · rw [hset, not_or]
          constructor
          · intro hj
            have hjl : j ∈ l1 ++ i :: l2 := by
              rcases List.mem_append.1 hj with h | h
              · exact List.mem_append.2 (.inl h)
              · exact List.mem_append.2 (.inr (by simp [h]))
            obtain ⟨q1, q2⟩ := (hs.mem j).1 hjl
            refine ⟨q1, ?_, q2⟩
            rintro rfl
            rw [List.nodup_append] at hnd
            rcases List.mem_append.1 hj with h | h
            · exact hnd.2.2 j h j (by simp) rfl
            · exact (List.nodup_cons.1 hnd.2.1).1 h
          · rintro ⟨q1, q2, q3⟩
            have := (hs.mem j).2 ⟨q1, q3⟩
            rcases List.mem_append.1 this with h | h
            · exact List.mem_append.2 (.inl h)
            · rcases List.mem_cons.1 h with h | h
              · exact absurd h q2
              · exact List.mem_append.2 (.inr h)
        · exact hs.sorted.sublist (List.Sublist.append_left (List.sublist_cons_self _ _) _)
        · intro j oj hj hlj k hk
          rw [hset] at hlj ⊢
          right
          rcases hlj with rfl | hlj
          · rw [ho] at hj; simp only [Option.some.injEq] at hj; subst hj; exact hdep k hk
          · exact hs.closed j oj hj hlj k hk
        · exact ⟨hnm, fun t _ => by rw [hds], LExt.updL _ _, putV_length _ _ _, out_put fun t ht => hW i o ho t ht⟩
end

end Go.V3
