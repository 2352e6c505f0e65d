/-
  Part G: calls.
-/
import Derived.Test.YtmcahbbelnjhiaaDoorV3F
set_option linter.unusedVariables false
namespace Go.V3
open Go
variable {TB : Tb}

def CalleeRuns (P : Program) (f : FuncId) : Prop := ∀ args w, (callFunc f args).run P w = .ok (.enter f args) w

def HT.left : (as bs : List CT) → HT (as ++ bs) → HT as
  | [], _, _ => ()
  | [_], bs, x => HT.hd _ bs x
  | c :: d :: r, bs, x => (x.1, HT.left (d :: r) bs x.2)
def HT.right : (as bs : List CT) → HT (as ++ bs) → HT bs
  | [], _, x => x
  | c :: r, bs, x => HT.right r bs (HT.tl c (r ++ bs) x)

/-- How parameters are handed over: one by one, or some of them held by a function. -/
inductive Sh where
  | one
  | clo (f : FuncId) (k : Nat)
def foldA : List Sh → List SV → List SV
  | [], vs => vs
  | .one :: r, v :: vs => v :: foldA r vs
  | .one :: _, [] => []
  | .clo f k :: r, vs => .clo f (vs.take k) :: foldA r (vs.drop k)
/-- A function, and what it holds. -/
def fnOf : SV → Option (FuncId × List SV)
  | .clo f cs => some (f, cs)
  | .raw (.func (.func f) ⟨[]⟩ ⟨[]⟩) => some (f, [])
  | _ => none
def unfA : List Sh → List SV → Option (List SV)
  | [], vs => some vs
  | .one :: r, v :: vs => (match unfA r vs with
    | some us => some (v :: us)
    | none => none)
  | .one :: _, [] => none
  | .clo _ _ :: _, [] => none
  | .clo f k :: r, v :: vs => (match fnOf v with
    | some (f', cs) => if f' = f ∧ cs.length = k then (match unfA r vs with
      | some us => some (cs ++ us)
      | none => none) else none
    | none => none)
theorem fnOf_den {v : SV} {f : FuncId} {cs : List SV} (h : fnOf v = some (f, cs)) (E : Env) : v.den E = .func (.func f) #[] (denL E cs).toArray := by
  unfold fnOf at h
  split at h
  · simp only [Option.some.injEq, Prod.mk.injEq] at h
    obtain ⟨rfl, rfl⟩ := h
    simp [SV.den]
  · simp only [Option.some.injEq, Prod.mk.injEq] at h
    obtain ⟨rfl, rfl⟩ := h
    rfl
  · cases h
theorem fnOf_wf {v : SV} {f : FuncId} {cs : List SV} (h : fnOf v = some (f, cs)) {E : Env} {L : Store} (hv : v.wf E L) : wfL E L cs := by
  unfold fnOf at h
  split at h
  · simp only [Option.some.injEq, Prod.mk.injEq] at h
    obtain ⟨rfl, rfl⟩ := h
    simpa [SV.wf] using hv
  · simp only [Option.some.injEq, Prod.mk.injEq] at h
    obtain ⟨rfl, rfl⟩ := h
    trivial
  · cases h
theorem unfA_den (E : Env) : ∀ (sh : List Sh) (vs us : List SV), unfA sh vs = some us → denL E (foldA sh us) = denL E vs
  | [], vs, us, h => by simp only [unfA, Option.some.injEq] at h; subst h; rfl
  | .one :: r, [], us, h => by simp [unfA] at h
  | .one :: r, v :: vs, us, h => by
    simp only [unfA] at h
    split at h
    · rename_i us' hu
      simp only [Option.some.injEq] at h; subst h
      simp only [foldA, denL]; rw [unfA_den E r vs us' hu]
    · cases h
  | .clo f k :: r, [], us, h => by simp [unfA] at h
  | .clo f k :: r, v :: vs, us, h => by
    simp only [unfA] at h
    split at h
    · rename_i f' cs hf
      split at h
      · rename_i hc
        obtain ⟨rfl, rfl⟩ := hc
        split at h
        · rename_i us' hu
          simp only [Option.some.injEq] at h; subst h
          simp only [foldA, denL]
          rw [List.take_left, List.drop_left, unfA_den E r vs us' hu, fnOf_den hf E]
          simp [SV.den]
        · cases h
      · cases h
    · cases h
theorem unfA_wf {E : Env} {L : Store} : ∀ (sh : List Sh) (vs us : List SV), unfA sh vs = some us → wfL E L vs → wfL E L us
  | [], vs, us, h, hw => by simp only [unfA, Option.some.injEq] at h; subst h; exact hw
  | .one :: r, [], us, h, _ => by simp [unfA] at h
  | .one :: r, v :: vs, us, h, hw => by
    simp only [unfA] at h
    split at h
    · rename_i us' hu
      simp only [Option.some.injEq] at h; subst h
      exact ⟨hw.1, unfA_wf r vs us' hu hw.2⟩
    · cases h
  | .clo f k :: r, [], us, h, _ => by simp [unfA] at h
  | .clo f k :: r, v :: vs, us, h, hw => by
    simp only [unfA] at h
    split at h
    · rename_i f' cs hf
      split at h
      · rename_i hc
        split at h
        · rename_i us' hu
          simp only [Option.some.injEq] at h; subst h
          have h1 := wfL_mem.1 (fnOf_wf hf hw.1)
          have h2 := wfL_mem.1 (unfA_wf r vs us' hu hw.2)
          exact wfL_mem.2 fun v hv => (List.mem_append.1 hv).elim (h1 v) (h2 v)
        · cases h
      · cases h
    · cases h
theorem foldA_wf {E : Env} {L : Store} : ∀ (sh : List Sh) (vs : List SV), wfL E L vs → wfL E L (foldA sh vs)
  | [], _, h => h
  | .one :: _, [], _ => trivial
  | .one :: r, v :: vs, h => ⟨h.1, foldA_wf r vs h.2⟩
  | .clo f k :: r, vs, h => by
    have hm := wfL_mem.1 h
    exact ⟨wfL_mem.2 fun v hv => hm v (List.mem_of_mem_take hv), foldA_wf r _ (wfL_mem.2 fun v hv => hm v (List.mem_of_mem_drop hv))⟩
/-- What a function is: its parameters, its results, the boxes and rows that it gives back, where these stand among the names of the parameters, what it computes. -/
structure FnI where
  ps : List CT
  rs : List CT
  os : List CT
  bk : List Nat
  sh : List Sh := []
  F : HT ps → Option (HT (rs ++ os))

def retSV : List SV → SV
  | [v] => v
  | vs => .tup vs

/-- Where the boxes stand among a list's names. -/
def ptrPos : List CT → Nat → List Nat
  | [], _ => []
  | d :: r, n => match d.ptr with
    | true => n :: ptrPos r (n + d.cnt)
    | false => ptrPos r (n + d.cnt)

/-- Where each of a list begins among its names. -/
def osPos : List CT → Nat → List Nat
  | [], _ => []
  | d :: r, n => n :: osPos r (n + d.cnt)
def Ty.isRow : Ty → Bool
  | .slice a => !a.isSl
  | _ => false
/-- What can be given back: a box, a row. -/
def okO (d : CT) : Bool := d.ptr || (d.own && !d.agg && d.t.isRow)
/-- The names that the call gave something for. -/
def bkNames (nes : List NE) : List Nat → Option (List Nat)
  | [] => some []
  | q :: r => match nes[q]? with
    | some (.whole i) => (match bkNames nes r with
      | some l => some (i :: l)
      | none => none)
    | _ => none
theorem bkNames_spec {nes : List NE} (E : Env) : ∀ (bk is : List Nat), bkNames nes bk = some is → bk.map (nesF E nes) = is.map E.nm
  | [], is, h => by simp only [bkNames, Option.some.injEq] at h; subst h; rfl
  | q :: r, is, h => by
    simp only [bkNames] at h
    split at h
    · rename_i i hi
      split at h
      · rename_i l hl
        simp only [Option.some.injEq] at h
        subst h
        simp only [List.map_cons, bkNames_spec E r l hl]
        congr 1
        simp [nesF, hi, NE.nm]
      · cases h
    · cases h

def envOf (ms : Nat → Nm) : Env := { nm := ms, ds := fun _ => undef, ins := ⟨fun k => (ms k).ins.l⟩ }

/-- A function computes what is said. -/
def CallsV (P : Program) (TB : Tb) (f : FuncId) (fi : FnI) : Prop :=
  CalleeRuns P f ∧ ∀ (x : HT fi.ps) (r : HT (fi.rs ++ fi.os)), fi.F x = some r → ∀ (w : World) (G : Nat → Prop) (ms : Nat → Nm), (∀ b, G b → b < w.heap.size) →
    PS (⟨w, fun b => b ∈ ownsP fi.ps x ms, G⟩ : Cfg TB) G w fi.ps x ms → (ownsP fi.ps x ms).Nodup → (⟨w, fun b => b ∈ ownsP fi.ps x ms, G⟩ : Cfg TB).Tab →
    Calls P f (denL (envOf ms) (foldA fi.sh (outSVs fi.ps x 0))).toArray w (fun e w' => ∃ G' ms', e = .returned ((retSV (outSVs fi.rs (HT.left fi.rs fi.os r) 0)).den (envOf ms')) ∧
      Rest w w' ∧ w.heap.size ≤ w'.heap.size ∧ (∀ b, b < w.heap.size → b ∉ ownsP fi.ps x ms → w'.heap[b]? = w.heap[b]?) ∧
      (∀ b, G b → G' b) ∧ (∀ b, G' b → G b ∨ w.heap.size ≤ b ∨ b ∈ ownsP fi.ps x ms) ∧ (∀ b, G' b → b < w'.heap.size) ∧
      PS (⟨w, fun b => b ∈ ownsP fi.ps x ms, G⟩ : Cfg TB) G' w' (fi.rs ++ fi.os) r ms' ∧ (ownsP (fi.rs ++ fi.os) r ms').Nodup ∧
      (osPos fi.os (cnts fi.rs)).map ms' = fi.bk.map ms)

/-- New names for what comes back. -/
def nsls : List CT → Nat
  | [] => 0
  | d :: r => (match d.ptr with
    | true => d.t.nsl
    | false => 0) + nsls r
def nameAt (i : Nat) : List Ent → Ups
  | e :: _ => [(i, e)]
  | [] => []
/-- What comes back takes its old names. -/
def backUps : (cs : List CT) → HT cs → Nat → List Nat → Ups
  | [], _, _, _ => []
  | _ :: _, _, _, [] => []
  | d :: r, x, n, i :: is => match d.ptr with
    | true => nameFrom n (ents d.own d.t (HT.hd d r x)) ++ [(i, .box (unp d.t (HT.hd d r x) n))] ++ backUps r (HT.tl d r x) (n + d.t.nsl) is
    | false => nameAt i (ents d.own d.t (HT.hd d r x)) ++ backUps r (HT.tl d r x) n is

def Ty.flat : Ty → Bool
  | .pair a b => a.flat && b.flat
  | .slice a => a.nsl == 0 && !a.isSl
  | _ => true
def CT.good (d : CT) : Bool := d.t.nsl == 0 || (d.own && d.t.flat)
def FnI.md (fi : FnI) : PM := match (fi.rs ++ fi.os).all CT.good with
  | true => .lend
  | false => .frz
def newOk (lkp : Nat → Option Ent) (base n : Nat) : Bool := (List.range n).all fun k => match lkp (base + k) with
  | some .rsv => true
  | _ => false

def callE (fi : FnI) (base : Nat) (lkp : Nat → Option Ent) (args : List SV) {α : Type} (K : SV → Ups → Option α) : Option α :=
  match unfA fi.sh args with
  | none => none
  | some us => match packA fi.md lkp fi.ps us with
  | none => none
  | some a => match bkNames a.nes fi.bk with
    | none => none
    | some is => match okA a && newOk lkp base (cnts fi.rs + nsls fi.os) && (is.length == fi.os.length) && fi.os.all okO && (decide is.Nodup && is.all (fun i => a.on.contains i)) with
      | true => (fi.F a.x).bind fun r => K (retSV (outSVs fi.rs (HT.left fi.rs fi.os r) base))
          (a.ups ++ (outsUps fi.rs (HT.left fi.rs fi.os r) base ++ backUps fi.os (HT.right fi.rs fi.os r) (base + cnts fi.rs) is))
      | false => none

/-! Soundness. -/
theorem PS.split {c : Cfg TB} {G : Nat → Prop} {w : World} : ∀ (as bs : List CT) (x : HT (as ++ bs)) (ms : Nat → Nm), (PS c G w (as ++ bs) x ms ↔ PS c G w as (HT.left as bs x) ms ∧ PS c G w bs (HT.right as bs x) (fun k => ms (cnts as + k))) ∧
    ownsP (as ++ bs) x ms = ownsP as (HT.left as bs x) ms ++ ownsP bs (HT.right as bs x) (fun k => ms (cnts as + k))
  | [], bs, x, ms => by simp [PS, ownsP, cnts, HT.right]
  | d :: r, bs, x, ms => by
    have hh : HT.hd d r (HT.left (d :: r) bs x) = HT.hd d (r ++ bs) x := by cases r <;> rfl
    have ht : HT.tl d r (HT.left (d :: r) bs x) = HT.left r bs (HT.tl d (r ++ bs) x) := by cases r <;> rfl
    obtain ⟨i1, i2⟩ := PS.split (c := c) (G := G) (w := w) r bs (HT.tl d (r ++ bs) x) (fun k => ms (d.cnt + k))
    have e : (fun k => ms (cnts (d :: r) + k)) = (fun k => ms (d.cnt + (cnts r + k))) := by
      funext k; simp [cnts, Nat.add_assoc]
    have k1 : PS c G w (d :: r ++ bs) x ms ↔ CompOk c G w d (HT.hd d (r ++ bs) x) ms ∧ PS c G w (r ++ bs) (HT.tl d (r ++ bs) x) (fun k => ms (d.cnt + k)) := Iff.rfl
    have k2 : PS c G w (d :: r) (HT.left (d :: r) bs x) ms ↔ CompOk c G w d (HT.hd d r (HT.left (d :: r) bs x)) ms ∧ PS c G w r (HT.tl d r (HT.left (d :: r) bs x)) (fun k => ms (d.cnt + k)) := Iff.rfl
    have k3 : ownsP (d :: r ++ bs) x ms = ownsC d (HT.hd d (r ++ bs) x) ms ++ ownsP (r ++ bs) (HT.tl d (r ++ bs) x) (fun k => ms (d.cnt + k)) := rfl
    have k4 : ownsP (d :: r) (HT.left (d :: r) bs x) ms = ownsC d (HT.hd d r (HT.left (d :: r) bs x)) ms ++ ownsP r (HT.tl d r (HT.left (d :: r) bs x)) (fun k => ms (d.cnt + k)) := rfl
    have k5 : HT.right (d :: r) bs x = HT.right r bs (HT.tl d (r ++ bs) x) := rfl
    rw [hh, ht] at k2 k4
    refine ⟨?_, ?_⟩
    · rw [k1, k2, k5, e, i1, and_assoc]
    · rw [k3, k4, k5, e, i2, List.append_assoc]

theorem CompOk.cfg {c c' : Cfg TB} {G : Nat → Prop} {w : World} {d : CT} {x : d.t.T} {ms : Nat → Nm} (h : CompOk c G w d x ms) (hc : ∀ b, ¬ c.Old b → ¬ c'.Old b) : CompOk c' G w d x ms := by
  refine ⟨fun j e he => ?_, fun hp => ?_⟩
  · have := h.1 j e he
    cases e with
    | row t xs =>
      obtain ⟨h1, h2, h3⟩ := this
      exact ⟨h1, h2, h3.imp id fun ⟨a, b, c, d⟩ => ⟨a, b, hc _ c, d⟩⟩
    | deep t xs q => exact ⟨this.1, this.2.cfg fun b hb => hc _ (this.2.all b hb).2.1⟩
    | _ => exact this
  · obtain ⟨a, b, c, d, e⟩ := h.2 hp
    exact ⟨a, b, c, hc _ d, e⟩
theorem PS.cfg {c c' : Cfg TB} {G : Nat → Prop} {w : World} (hc : ∀ b, ¬ c.Old b → ¬ c'.Old b) : ∀ (cs : List CT) {x : HT cs} {ms : Nat → Nm}, PS c G w cs x ms → PS c' G w cs x ms
  | [], _, _, _ => trivial
  | _ :: r, _, _, h => ⟨h.1.cfg hc, PS.cfg hc r h.2⟩

theorem Rp.flat {G G' : Nat → Prop} {w : World} (t : Ty) (ht : t.nsl = 0) (x : t.T) (vs : List Value) (h : Rp G w t x vs) : Rp G' w t x vs := by
  induction t generalizing vs with
  | pair a b iha ihb =>
    simp only [Ty.nsl] at ht
    obtain ⟨v1, v2, h0, h1, h2⟩ := h
    exact ⟨v1, v2, h0, iha (by omega) _ _ h1, ihb (by omega) _ _ h2⟩
  | slice a => simp [Ty.nsl] at ht
  | _ => exact h

theorem ents_flat {t : Ty} (hf : t.flat = true) {x : t.T} {o : Bool} {j : Nat} {e : Ent} (he : (ents o t x)[j]? = some e) : e = .dead ∨ ∃ (a : Ty) (xs : List a.T), a.nsl = 0 ∧ e = (if o = true then Ent.row a xs else Ent.shr a xs) := by
  induction t generalizing j with
  | pair a b iha ihb =>
    simp only [Ty.flat, Bool.and_eq_true] at hf
    simp only [ents] at he
    by_cases hk : j < (ents o a x.1).length
    · rw [List.getElem?_append_left hk] at he; exact iha hf.1 he
    · rw [List.getElem?_append_right (by omega)] at he; exact ihb hf.2 he
  | slice a =>
    cases j with
    | zero =>
      simp only [ents, List.getElem?_cons_zero, Option.some.injEq] at he
      simp only [Ty.flat, Bool.and_eq_true, beq_iff_eq, Bool.not_eq_true'] at hf
      obtain ⟨ha, hsl⟩ := hf
      refine .inr ⟨a, x, ha, ?_⟩
      rw [← he]; cases o
      · rfl
      · exact ownEnt_flat hsl x
    | succ j => simp [ents] at he
  | nf =>
    cases j with
    | zero => simp only [ents, List.getElem?_cons_zero, Option.some.injEq] at he; exact .inl he.symm
    | succ j => simp [ents] at he
  | _ => simp [ents] at he

/-- A fresh flat value does not care what else nobody writes. -/
theorem CompOk.good {c : Cfg TB} {G G' : Nat → Prop} {w : World} {d : CT} {x : d.t.T} {ms : Nat → Nm} (h : CompOk c G w d x ms) (hd : d.good = true) (hg : ∀ b, G' b → G b) : CompOk c G' w d x ms := by
  refine ⟨fun j e he => ?_, fun hp => ?_⟩
  · have hm := h.1 j e he
    simp only [CT.good, Bool.or_eq_true, Bool.and_eq_true, beq_iff_eq] at hd
    rcases hd with hd | ⟨ho, hf⟩
    · exfalso
      have : (ents d.own d.t x).length = 0 := by rw [ents_length]; exact hd
      rw [List.getElem?_eq_none (by omega)] at he; cases he
    · rcases ents_flat hf he with rfl | ⟨a, xs, ha, rfl⟩
      · trivial
      rw [ho] at hm ⊢
      obtain ⟨h1, h2, h3⟩ := hm
      refine ⟨h1, h2, h3.imp id ?_⟩
      rintro ⟨p1, p2, p3, p4, arr, ty, p5, p6, p7⟩
      exact ⟨p1, fun hx => p2 (hg _ hx), p3, p4, arr, ty, p5, p6, p7.imp fun x vs hx => Rp.flat a ha x vs hx⟩
  · obtain ⟨a, b, c, d, e⟩ := h.2 hp
    exact ⟨a, b, fun hx => c (hg _ hx), d, e⟩
theorem PS.good {c : Cfg TB} {G G' : Nat → Prop} {w : World} (hg : ∀ b, G' b → G b) : ∀ (cs : List CT) {x : HT cs} {ms : Nat → Nm}, cs.all CT.good = true → PS c G w cs x ms → PS c G' w cs x ms
  | [], _, _, _, _ => trivial
  | d :: r, _, _, hd, h => by
    simp only [List.all_cons, Bool.and_eq_true] at hd
    exact ⟨h.1.good hd.1 hg, PS.good hg r hd.2 h.2⟩

/-- All that a state owns, and all that nobody writes, is as it was. -/
theorem Holds.after {c : Cfg TB} {G G' : Nat → Prop} {w w' : World} {E : Env} {L : Store} (h : Holds c G w E L) (hr : Rest w w') (hs : w.heap.size ≤ w'.heap.size) (hold : ∀ b, c.Old b → w'.heap[b]? = w.heap[b]?)
    (hG : ∀ b, G b → w'.heap[b]? = w.heap[b]?) (hg : ∀ b, G b → G' b) (hgi : ∀ b, G' b → b < w'.heap.size) (hgh : ∀ b, G' b → G b ∨ ¬ c.Old b)
    (hown : ∀ n e b, look L n = some e → e.ow E n b → w'.heap[b]? = w.heap[b]? ∧ ¬ G' b) : Holds c G' w' E L :=
  ⟨h.rest.trans hr, Nat.le_trans h.size hs, fun b hb => (hold b hb).trans (h.old b hb), hgi, fun b hb => hg b (h.glo b hb), fun b hb => (hgh b hb).elim (h.ghi b) .inr,
   fun n e he => (h.ent n e he).mono (fun _ h => h) (fun _ _ => rfl) hG hg (fun b hb => hown n e b he (.inl hb)),
   fun n t xss q he => (h.dp n t xss q he).mono (fun _ h => h) (fun _ _ => rfl) hG hg (fun b hb => hown n _ b he (Ent.ow_deep.2 hb)), h.inj, h.tab⟩

/-- What comes back takes its old names. -/
theorem Holds.addBacks {c : Cfg TB} {G : Nat → Prop} {w : World} : ∀ (cs : List CT) {E : Env} {L : Store} (x : HT cs) {n : Nat} {ms : Nat → Nm} (is : List Nat), Holds c G w E L → cs.all okO = true → is.length = cs.length →
    is.Nodup → (∀ j, j < nsls cs → look L (n + j) = some .rsv) → (∀ i ∈ is, look L i = some .dead) → (osPos cs 0).map ms = is.map E.nm →
    PS c G w cs x ms → (ownsP cs x ms).Nodup → (∀ b ∈ ownsP cs x ms, NoOwn E L b) →
    ∃ E', Holds c G w E' (updL L (backUps cs x n is)) ∧ (∀ k, Al L k → E'.nm k = E.nm k ∧ Al (updL L (backUps cs x n is)) k) ∧ E'.ds = E.ds ∧ (∀ k, ¬ (n ≤ k ∧ k < n + nsls cs) → k ∉ is → look (updL L (backUps cs x n is)) k = look L k)
  | [], E, L, x, n, ms, is, h, _, hl, _, _, _, _, _, _, _ => by
    exact ⟨E, h, fun k hk => ⟨rfl, hk⟩, rfl, fun _ _ _ => rfl⟩
  | d :: r, E, L, x, n, ms, [], h, _, hl, _, _, _, _, _, _, _ => by simp at hl
  | d :: r, E, L, x, n, ms, i :: is, h, hp, hl, hisn, hrs, hdead, hpos, hps, hnd, hno => by
    simp only [List.all_cons, Bool.and_eq_true] at hp
    have shift : ∀ (cs : List CT) (a b : Nat), (osPos cs (a + b)) = (osPos cs b).map (fun k => a + k) := by
      intro cs
      induction cs with
      | nil => intros; rfl
      | cons e s ihs =>
        intro a b
        simp only [osPos]
        rw [Nat.add_assoc, ihs]
        simp
    have hisn2 := List.nodup_cons.1 hisn
    have hi0 := hdead i (by simp)
    cases hpt : d.ptr with
    | false =>
      obtain ⟨t, ag, ow, pt⟩ := d
      simp only at hpt
      subst hpt
      have hok := hp.1
      simp only [okO, Bool.false_or, Bool.and_eq_true, Bool.not_eq_true'] at hok
      obtain ⟨⟨rfl, rfl⟩, hsl⟩ := hok
      cases t with
      | slice a =>
        obtain ⟨⟨hc1, -⟩, hps2⟩ := hps
        have hcnt : (CT.mk (.slice a) false true false).cnt = 1 := rfl
        have hsl : a.isSl = false := by simpa [Ty.isRow] using hsl
        have hen : ents true (.slice a) (HT.hd (CT.mk (.slice a) false true false) r x) = [.row a (HT.hd (CT.mk (.slice a) false true false) r x)] := by
          show [ownEnt a _] = _
          rw [ownEnt_flat hsl]
        have hrow : EntM c G w (ms 0) (.row a (HT.hd (CT.mk (.slice a) false true false) r x)) := hc1 0 _ (by show (ents true (.slice a) _)[0]? = _; rw [hen]; rfl)
        have hoc : ownsP (CT.mk (.slice a) false true false :: r) x ms = ((Ent.row a (HT.hd (CT.mk (.slice a) false true false) r x)).own (ms 0)).toList ++ ownsP r (HT.tl (CT.mk (.slice a) false true false) r x) (fun k => ms (1 + k)) := by
          show (([] ++ ownsE (ents true (.slice a) (HT.hd (CT.mk (.slice a) false true false) r x)) (fun j => ms (0 + j))) ++ _) = _
          rw [hen]
          show (([] ++ (((Ent.row a (HT.hd (CT.mk (.slice a) false true false) r x)).own (ms 0)).toList ++ [])) ++ _) = _
          simp
          rfl
        rw [hoc] at hnd hno
        have hnd2 := List.nodup_append.1 hnd
        simp only [osPos, List.map_cons, List.cons.injEq] at hpos
        obtain ⟨hpos0, hposr⟩ := hpos
        have hlt := look_lt hi0
        have hlk := fun k => look_upd (q := (i, Ent.row a (HT.hd (CT.mk (.slice a) false true false) r x))) hlt k
        have hEi : E.set i (ms 0) = E := by
          refine env_ext (fun k => ?_) rfl (fun _ => rfl)
          by_cases hk : k = i
          · subst hk; rw [Env.set_eq, hpos0]
          · exact Env.set_ne _ _ hk
        have h3 := h.change (i := i) (e' := .row a (HT.hd (CT.mk (.slice a) false true false) r x)) (m := ms 0) (w' := w) hlt (.refl _) (Nat.le_refl _) (fun _ => hpos0) rfl (fun _ _ _ => rfl)
          (fun b hb => by have := EntM.owns (e := .row a _) hrow (Ent.ownL_own hb); exact ⟨this.1, this.2.1⟩)
          (by
            intro k f hk hf b hb he
            exact hno b (List.mem_append.2 (.inl (by rw [he]; simp))) k f hf hb)
          (by intro _; exact hrow)
        rw [hEi] at h3
        have hbin : ∀ b ∈ ownsP r (HT.tl (CT.mk (.slice a) false true false) r x) (fun k => ms (1 + k)), NoOwn E (upd L (i, Ent.row a (HT.hd (CT.mk (.slice a) false true false) r x))) b := by
          intro b hb k f hf hfb
          rw [hlk] at hf
          by_cases hki : k = i
          · subst hki
            simp only [if_true, Option.some.injEq] at hf; subst hf
            rw [Ent.ow_flat rfl, ← hpos0] at hfb
            exact hnd2.2.2 b (by rw [hfb]; simp) b hb rfl
          · rw [if_neg hki] at hf
            exact hno b (List.mem_append.2 (.inr hb)) k f hf hfb
        have hposr' : (osPos r 0).map (fun k => ms (1 + k)) = is.map E.nm := by
          rw [← hposr]
          have e := shift r 1 0
          rw [Nat.add_zero] at e
          rw [hcnt, Nat.zero_add, e, List.map_map]
          rfl
        obtain ⟨E', k1, k2, k3, k4⟩ := Holds.addBacks r (HT.tl (CT.mk (.slice a) false true false) r x) (n := n) (ms := fun k => ms (1 + k)) is h3 hp.2 (by simpa using hl) hisn2.2
          (by
            intro j hj
            rw [hlk]
            have hr := hrs j (by simp [nsls]; omega)
            have hne : ¬ (n + j = i) := by
              intro hx; rw [hx, hi0] at hr; cases hr
            rw [if_neg hne]; exact hr)
          (by
            intro k hk
            have hki : ¬ k = i := fun hx => hisn2.1 (hx ▸ hk)
            rw [hlk, if_neg hki]; exact hdead k (by simp [hk]))
          hposr' hps2 hnd2.2.1 hbin
        have eu : updL L (backUps (CT.mk (.slice a) false true false :: r) x n (i :: is)) = updL (upd L (i, Ent.row a (HT.hd (CT.mk (.slice a) false true false) r x))) (backUps r (HT.tl (CT.mk (.slice a) false true false) r x) n is) := by
          simp only [backUps, updL_append]
          rw [show nameAt i (ents (CT.mk (.slice a) false true false).own (CT.mk (.slice a) false true false).t (HT.hd (CT.mk (.slice a) false true false) r x)) = [(i, Ent.row a (HT.hd (CT.mk (.slice a) false true false) r x))] from by rw [hen]; rfl]
          rfl
        rw [eu]
        refine ⟨E', k1, fun k hk => k2 k (al_upd rfl k hk), k3, fun k hk hkis => ?_⟩
        simp only [nsls] at hk
        simp only [List.mem_cons, not_or] at hkis
        rw [k4 k (by omega) hkis.2, hlk, if_neg hkis.1]
      | _ => simp [Ty.isRow] at hsl
    | true =>
    have hpn : d.pn = 1 := by simp [CT.pn, hpt]
    have hcnt : d.cnt = 1 + d.t.nsl := by simp [CT.cnt, hpn]
    obtain ⟨⟨hc1, hc2⟩, hps2⟩ := hps
    obtain ⟨b1, b2, b3, b4, ty, b5⟩ := hc2 hpt
    rw [hpn] at hc1 b5
    have hnd2 := List.nodup_append.1 hnd
    have hoc : ownsC d (HT.hd d r x) ms = (ms 0).blk :: ownsE (ents d.own d.t (HT.hd d r x)) (fun j => ms (1 + j)) := by
      unfold ownsC; rw [hpn, hpt]; rfl
    rw [hoc] at hnd2
    simp only [osPos, List.map_cons, List.cons.injEq] at hpos
    obtain ⟨hpos0, hposr⟩ := hpos
    have hnin := List.nodup_cons.1 hnd2.1
    have hsl : ∀ j, j < d.t.nsl → look L (n + j) = some .rsv := fun j hj => hrs j (by simp [nsls, hpt]; omega)
    obtain ⟨h1, h2⟩ := h.addEnts (ents d.own d.t (HT.hd d r x)) (n := n) (ms := fun j => ms (1 + j)) (fun j hj => hsl j (by rw [ents_length] at hj; exact hj)) hc1 hnin.2
      (fun b hb => hno b (List.mem_append.2 (.inl (by rw [hoc]; exact List.mem_cons_of_mem _ hb))))
    rw [ents_length] at h1 h2
    have hini : ¬ (n ≤ i ∧ i < n + d.t.nsl) := by
      intro hx
      have := hsl (i - n) (by omega)
      have e : n + (i - n) = i := by omega
      rw [e, hi0] at this; cases this
    have hi1 : look (updL L (nameFrom n (ents d.own d.t (HT.hd d r x)))) i = some .dead := by rw [h2, if_neg hini]; exact hi0
    have hlt := look_lt hi1
    have hlk := fun k => look_upd (q := (i, Ent.box (unp d.t (HT.hd d r x) n))) hlt k
    have hEi : (E.put n d.t.nsl (fun j => ms (1 + j))).nm i = ms 0 := by
      rw [Env.put_out _ _ _ _ (by omega), ← hpos0]
    have hal1 : ∀ k, Al L k → Al (updL L (nameFrom n (ents d.own d.t (HT.hd d r x)))) k := by
      intro k hk
      by_cases hkn : n ≤ k ∧ k < n + d.t.nsl
      · exfalso
        have := hsl (k - n) (by omega)
        have e : n + (k - n) = k := by omega
        rw [e] at this
        exact not_al this hk
      · obtain ⟨e, he1, he2⟩ := hk
        exact ⟨e, by rw [h2, if_neg hkn]; exact he1, he2⟩
    have hwf : wfL (E.put n d.t.nsl (fun j => ms (1 + j))) (upd (updL L (nameFrom n (ents d.own d.t (HT.hd d r x)))) (i, Ent.box (unp d.t (HT.hd d r x) n))) (unp d.t (HT.hd d r x) n) := by
      refine unp_wf _ _ _ fun j hj => al_upd rfl _ ?_
      have hlt : j < (ents d.own d.t (HT.hd d r x)).length := by rw [ents_length]; exact hj
      refine ⟨(ents d.own d.t (HT.hd d r x))[j], ?_, ents_mem (List.getElem?_eq_getElem hlt)⟩
      rw [h2, if_pos ⟨by omega, by omega⟩]
      have e : n + j - n = j := by omega
      rw [e, List.getElem?_eq_getElem hlt]
    have eset : (E.put n d.t.nsl (fun j => ms (1 + j))).set i (ms 0) = E.put n d.t.nsl (fun j => ms (1 + j)) := by
      refine env_ext (fun k => ?_) rfl (fun _ => rfl)
      by_cases hk : k = i
      · subst hk; rw [Env.set_eq, hEi]
      · exact Env.set_ne _ _ hk
    have h3 := h1.change (i := i) (e' := .box (unp d.t (HT.hd d r x) n)) (m := ms 0) (w' := w) hlt (.refl _) (Nat.le_refl _) (fun _ => hEi.symm) rfl (fun _ _ _ => rfl)
      (fun b hb => by simp only [Ent.own, Option.some.injEq] at hb; subst hb; exact ⟨b4, b3⟩)
      (by
        intro k f hk hf b hb he
        simp only [Ent.own, Option.some.injEq] at he
        subst he
        rw [h2] at hf
        by_cases hk2 : n ≤ k ∧ k < n + d.t.nsl
        · rw [if_pos hk2] at hf
          have e : k = n + (k - n) := by omega
          rw [e, Ent.ow_put (by omega)] at hb
          exact hnin.1 (ownsE_mem _ _ (fun j => ms (1 + j)) hf hb)
        · rw [if_neg hk2] at hf
          rw [Ent.ow_out (by omega)] at hb
          exact hno _ (List.mem_append.2 (.inl (by rw [hoc]; simp))) k f hf hb)
      (by
        intro _
        rw [eset]
        refine ⟨b1, b2, b3, b4, ⟨ty, ?_⟩, hwf⟩
        rw [b5, unp_den]
        congr 3
        apply enc_congr
        intro j hj
        exact (Env.put_in E n d.t.nsl (fun j => ms (1 + j)) hj).symm)
    rw [eset] at h3
    have hbin : ∀ b ∈ ownsP r (HT.tl d r x) (fun k => ms (d.cnt + k)), NoOwn (E.put n d.t.nsl (fun j => ms (1 + j))) (upd (updL L (nameFrom n (ents d.own d.t (HT.hd d r x)))) (i, Ent.box (unp d.t (HT.hd d r x) n))) b := by
      intro b hb k f hf hfb
      rw [hlk] at hf
      by_cases hki : k = i
      · subst hki
        simp only [if_true, Option.some.injEq] at hf; subst hf
        rw [Ent.ow_flat rfl, hEi] at hfb
        simp only [Ent.own, Option.some.injEq] at hfb
        exact hnd2.2.2 _ (by simp) b hb hfb
      · rw [if_neg hki, h2] at hf
        by_cases hk2 : n ≤ k ∧ k < n + d.t.nsl
        · rw [if_pos hk2] at hf
          have e : k = n + (k - n) := by omega
          rw [e, Ent.ow_put (by omega)] at hfb
          exact hnd2.2.2 b (List.mem_cons_of_mem _ (ownsE_mem _ _ (fun j => ms (1 + j)) hf hfb)) b hb rfl
        · rw [if_neg hk2] at hf
          rw [Ent.ow_out (by omega)] at hfb
          exact hno b (List.mem_append.2 (.inr hb)) k f hf hfb
    have hposr' : (osPos r 0).map (fun k => ms (d.cnt + k)) = is.map E.nm := by
      rw [← hposr]
      have e := shift r d.cnt 0
      rw [Nat.add_zero] at e
      rw [Nat.zero_add, e, List.map_map]
      rfl
    obtain ⟨E', k1, k2, k3, k4⟩ := Holds.addBacks r (HT.tl d r x) (n := n + d.t.nsl) (ms := fun k => ms (d.cnt + k)) is h3 hp.2 (by simpa using hl) hisn2.2
      (by
        intro j hj
        rw [hlk]
        have hr := hrs (d.t.nsl + j) (by simp [nsls, hpt]; omega)
        rw [← Nat.add_assoc] at hr
        have hne : ¬ (n + d.t.nsl + j = i) := by
          intro hx; rw [hx, hi0] at hr; cases hr
        rw [if_neg hne, h2, if_neg (by omega)]
        exact hr)
      (by
        intro k hk
        have hki : ¬ k = i := fun hx => hisn2.1 (hx ▸ hk)
        have hd := hdead k (by simp [hk])
        rw [hlk, if_neg hki, h2, if_neg]
        · exact hd
        · intro hx
          have := hsl (k - n) (by omega)
          have e : n + (k - n) = k := by omega
          rw [e, hd] at this; cases this)
      (by
        rw [hposr']
        apply List.map_congr_left
        intro k hk
        have hd := hdead k (by simp [hk])
        refine (Env.put_out _ _ _ _ ?_).symm
        rcases Nat.lt_or_ge k n with hlt | hge
        · exact .inl hlt
        · right
          rcases Nat.lt_or_ge k (n + d.t.nsl) with hlt2 | hge2
          · exfalso
            have := hsl (k - n) (by omega)
            have e : n + (k - n) = k := by omega
            rw [e, hd] at this; cases this
          · exact hge2) hps2 hnd2.2.1 hbin
    have eu : updL L (backUps (d :: r) x n (i :: is)) = updL (upd (updL L (nameFrom n (ents d.own d.t (HT.hd d r x)))) (i, Ent.box (unp d.t (HT.hd d r x) n))) (backUps r (HT.tl d r x) (n + d.t.nsl) is) := by
      simp only [backUps, hpt, updL_append]
      rfl
    rw [eu]
    refine ⟨E', k1, fun k hk => ?_, by rw [k3]; rfl, fun k hk hkis => ?_⟩
    · obtain ⟨q1, q2⟩ := k2 k (al_upd rfl k (hal1 k hk))
      refine ⟨q1.trans (Env.put_out _ _ _ _ ?_), q2⟩
      rcases Nat.lt_or_ge k n with hlt | hge
      · exact .inl hlt
      · right
        rcases Nat.lt_or_ge k (n + d.t.nsl) with hlt2 | hge2
        · exfalso
          have := hsl (k - n) (by omega)
          have e : n + (k - n) = k := by omega
          rw [e] at this
          exact not_al this hk
        · exact hge2
    · simp only [nsls, hpt] at hk
      simp only [List.mem_cons, not_or] at hkis
      rw [k4 k (by omega) hkis.2, hlk, if_neg hkis.1, h2, if_neg (by omega)]

end Go.V3
