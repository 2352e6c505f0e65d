/-
  Part D: whole lists of values, as they go into a call and come out of it.
-/
import Derived.Test.YtmcahbbelnjhiaaDoorV3C
set_option linter.unusedVariables false
namespace Go.V3
open Go
variable {TB : Tb}

/-- A value in its place: its type, is it a struct, is its memory handed over, is it a box's content behind a pointer. -/
structure CT where
  t : Ty
  agg : Bool
  own : Bool
  ptr : Bool
@[reducible] def HT : List CT → Type
  | [] => Unit
  | c :: r => match r with
    | [] => c.t.T
    | _ :: _ => c.t.T × HT r
def HT.hd : (c : CT) → (r : List CT) → HT (c :: r) → c.t.T
  | _, [], x => x
  | _, _ :: _, x => x.1
def HT.tl : (c : CT) → (r : List CT) → HT (c :: r) → HT r
  | _, [], _ => ()
  | _, _ :: _, x => x.2
def HT.mk : (c : CT) → (r : List CT) → c.t.T → HT r → HT (c :: r)
  | _, [], x, _ => x
  | _, _ :: _, x, y => (x, y)
theorem HT.hd_mk (c : CT) (r : List CT) (x : c.t.T) (y : HT r) : HT.hd c r (HT.mk c r x y) = x := by cases r <;> rfl
theorem HT.tl_mk (c : CT) (r : List CT) (x : c.t.T) (y : HT r) : HT.tl c r (HT.mk c r x y) = y := by cases r <;> rfl

def CT.pn (c : CT) : Nat := match c.ptr with | true => 1 | false => 0
def CT.cnt (c : CT) : Nat := c.pn + c.t.nsl
def cnts : List CT → Nat
  | [] => 0
  | c :: r => c.cnt + cnts r

def nameFrom : Nat → List Ent → Ups
  | _, [] => []
  | n, e :: r => (n, e) :: nameFrom (n + 1) r

/-- A value of a list: what stands for it, and what its names stand for. -/
def outSV (c : CT) (x : c.t.T) (n : Nat) : SV := match c.ptr with
  | true => .loc n 0
  | false => match c.agg with
    | true => .agg (unp c.t x n)
    | false => (unp c.t x n).headD undefV
def outSVs : (cs : List CT) → HT cs → Nat → List SV
  | [], _, _ => []
  | c :: r, x, n => outSV c (HT.hd c r x) n :: outSVs r (HT.tl c r x) (n + c.cnt)
def outUps (c : CT) (x : c.t.T) (n : Nat) : Ups := match c.ptr with
  | true => nameFrom (n + 1) (ents c.own c.t x) ++ [(n, .box (unp c.t x (n + 1)))]
  | false => nameFrom n (ents c.own c.t x)
def outsUps : (cs : List CT) → HT cs → Nat → Ups
  | [], _, _ => []
  | c :: r, x, n => outUps c (HT.hd c r x) n ++ outsUps r (HT.tl c r x) (n + c.cnt)

/-- What holds of a name that no other name is looked at through. -/
def EntM (c : Cfg TB) (G : Nat → Prop) (w : World) (m : Nm) : Ent → Prop
  | .row t xs => Own (Rp G w t) t.sz c G w m xs
  | .shr t xs => Shr (Rp G w t) t.sz G w m xs
  | .deep t xss h => h = none ∧ DeepOk c G w ⟨fun _ => m, fun _ => undef⟩ [] m m.ins.l t xss none
  | .dead => True
  | _ => False
/-- The blocks that go with a name. -/
def Ent.ownL (e : Ent) (m : Nm) : List Nat := match e with
  | .deep _ _ _ => m.ins.l
  | e => (e.own m).toList
theorem Ent.ow_iff {e : Ent} {E : Env} {n b : Nat} {m : Nm} (h1 : E.nm n = m) (h2 : E.ins.l n = m.ins.l) : e.ow E n b ↔ b ∈ e.ownL m := by
  cases e <;> simp [Ent.ow, Ent.own, Ent.ownL, Ent.isDeep, h1, h2]
  all_goals exact ⟨fun h => h.symm, fun h => h.symm⟩
theorem Ent.ow_nx {e : Ent} {E : Env} {n b : Nat} : e.ow E n b ↔ b ∈ e.ownL (E.nx n) := by
  cases e
  case deep t x h => simp [Ent.ow, Ent.own, Ent.ownL, Ent.isDeep, Env.nx]
  case row t x => show (Ent.row t x).own (E.nm n) = some b ∨ _ ↔ b ∈ ((Ent.row t x).own (E.nm n)).toList; simp [Ent.isDeep]
  case box t => show (Ent.box t).own (E.nm n) = some b ∨ _ ↔ b ∈ ((Ent.box t).own (E.nm n)).toList; simp [Ent.isDeep]
  case map t => show (Ent.map t).own (E.nm n) = some b ∨ _ ↔ b ∈ ((Ent.map t).own (E.nm n)).toList; simp [Ent.isDeep]
  all_goals simp [Ent.ow, Ent.own, Ent.ownL, Ent.isDeep]
theorem EntM.nil (c : Cfg TB) (G : Nat → Prop) (w : World) (a : Ty) (ha : a.isKv = false) : EntM c G w ⟨0, 0, true, 0, 0, none⟩ (ownEnt a []) := by
  cases a
  case kv => cases ha
  case slice a => exact ⟨rfl, { len := rfl, off := rfl, nd := List.nodup_nil, all := fun b hb => (by cases hb), cs := .inl ⟨rfl, rfl, rfl⟩ }⟩
  all_goals exact ⟨rfl, trivial, .inl ⟨rfl, rfl, rfl⟩⟩
theorem Ent.ownL_own {e : Ent} {m : Nm} {b : Nat} (h : e.own m = some b) : b ∈ e.ownL m := by
  cases e <;> first | cases h; done | simp [Ent.ownL, h]
theorem EntM.owns {c : Cfg TB} {G : Nat → Prop} {w : World} {m : Nm} {e : Ent} (h : EntM c G w m e) {b : Nat} (hb : b ∈ e.ownL m) : ¬ c.Old b ∧ ¬ G b ∧ b < w.heap.size := by
  cases e with
  | row t xs =>
    have h' : EntOk c G w ⟨fun _ => m, fun _ => undef⟩ [] m (.row t xs) := h
    have hb' : (Ent.row t xs).own m = some b := by simpa [Ent.ownL] using hb
    obtain ⟨_, _, _, h4, h5, o, h6⟩ := h'.own_ok hb'
    exact ⟨h5, h4, blk_lt h6⟩
  | deep t xss q =>
    obtain ⟨h1, h2, arr, ty, _, h3⟩ := h.2.all b hb
    exact ⟨h2, h1, blk_lt h3⟩
  | shr t xs => simp [Ent.ownL, Ent.own] at hb
  | dead => simp [Ent.ownL, Ent.own] at hb
  | _ => exact h.elim

/-- A value of a list lies in memory; its names in order. -/
def CompOk (c : Cfg TB) (G : Nat → Prop) (w : World) (d : CT) (x : d.t.T) (ms : Nat → Nm) : Prop :=
  (∀ j e, (ents d.own d.t x)[j]? = some e → EntM c G w (ms (d.pn + j)) e) ∧
  (d.ptr = true → (ms 0).nil = false ∧ (ms 0).off = (ms 0).pp.pre.length ∧ ¬ G (ms 0).blk ∧ ¬ c.Old (ms 0).blk ∧ ∃ ty, w.heap[(ms 0).blk]? = some (.cells ((ms 0).arr (enc d.t x (fun j => ms (d.pn + j)))) ty (0, 0)))
def PS (c : Cfg TB) (G : Nat → Prop) (w : World) : (cs : List CT) → HT cs → (Nat → Nm) → Prop
  | [], _, _ => True
  | d :: r, x, ms => CompOk c G w d (HT.hd d r x) ms ∧ PS c G w r (HT.tl d r x) (fun k => ms (d.cnt + k))

def ownsE : List Ent → (Nat → Nm) → List Nat
  | [], _ => []
  | e :: r, ms => e.ownL (ms 0) ++ ownsE r (fun k => ms (k + 1))
/-- The blocks that go with a value. -/
def ownsC (d : CT) (x : d.t.T) (ms : Nat → Nm) : List Nat := (match d.ptr with | true => [(ms 0).blk] | false => []) ++ ownsE (ents d.own d.t x) (fun j => ms (d.pn + j))
def ownsP : (cs : List CT) → HT cs → (Nat → Nm) → List Nat
  | [], _, _ => []
  | d :: r, x, ms => ownsC d (HT.hd d r x) ms ++ ownsP r (HT.tl d r x) (fun k => ms (d.cnt + k))

/-- No owner of a block. -/
def NoOwn (E : Env) (L : Store) (b : Nat) : Prop := ∀ n e, look L n = some e → ¬ e.ow E n b

/-- Names of an environment from n on. -/
def Env.put (E : Env) (n cnt : Nat) (ms : Nat → Nm) : Env := { E with nm := fun k => if n ≤ k ∧ k < n + cnt then ms (k - n) else E.nm k, ins := ⟨fun k => if n ≤ k ∧ k < n + cnt then (ms (k - n)).ins.l else E.ins.l k⟩ }

theorem Env.put_in (E : Env) (n cnt : Nat) (ms : Nat → Nm) {j : Nat} (h : j < cnt) : (E.put n cnt ms).nm (n + j) = ms j := by
  simp only [Env.put]
  rw [if_pos ⟨by omega, by omega⟩]
  congr 1; omega
theorem Env.put_out (E : Env) (n cnt : Nat) (ms : Nat → Nm) {k : Nat} (h : k < n ∨ n + cnt ≤ k) : (E.put n cnt ms).nm k = E.nm k := by
  simp only [Env.put]
  rw [if_neg (by omega)]

theorem Env.put_inI (E : Env) (n cnt : Nat) (ms : Nat → Nm) {j : Nat} (h : j < cnt) : (E.put n cnt ms).ins.l (n + j) = (ms j).ins.l := by
  simp only [Env.put]
  rw [if_pos ⟨by omega, by omega⟩]
  congr 3; omega
theorem Env.put_outI (E : Env) (n cnt : Nat) (ms : Nat → Nm) {k : Nat} (h : k < n ∨ n + cnt ≤ k) : (E.put n cnt ms).ins.l k = E.ins.l k := by
  simp only [Env.put]
  rw [if_neg (by omega)]
theorem Ent.ow_put {e : Ent} {E : Env} {n cnt : Nat} {ms : Nat → Nm} {j b : Nat} (h : j < cnt) : e.ow (E.put n cnt ms) (n + j) b ↔ b ∈ e.ownL (ms j) := Ent.ow_iff (E.put_in n cnt ms h) (E.put_inI n cnt ms h)
theorem Ent.ow_same {e : Ent} {E E' : Env} {n b : Nat} (h : E'.nm n = E.nm n ∧ E'.ins.l n = E.ins.l n) : e.ow E' n b ↔ e.ow E n b := by unfold Ent.ow; rw [h.1, h.2]
theorem Ent.ow_out {e : Ent} {E : Env} {n cnt : Nat} {ms : Nat → Nm} {k b : Nat} (h : k < n ∨ n + cnt ≤ k) : e.ow (E.put n cnt ms) k b ↔ e.ow E k b := Ent.ow_same ⟨E.put_out n cnt ms h, E.put_outI n cnt ms h⟩

theorem env_ext {E E' : Env} (h : ∀ k, E.nm k = E'.nm k) (h2 : E.ds = E'.ds) (h3 : ∀ k, E.ins.l k = E'.ins.l k) : E = E' := by
  obtain @⟨a, b, ⟨d⟩⟩ := E
  obtain @⟨a', b', ⟨d'⟩⟩ := E'
  have e1 : a = a' := funext h
  have e2 : b = b' := h2
  have e3 : d = d' := funext h3
  subst e1 e2 e3
  rfl

theorem ownsE_mem {f : Ent} {b : Nat} : ∀ (es : List Ent) (j : Nat) (ms : Nat → Nm), es[j]? = some f → b ∈ f.ownL (ms j) → b ∈ ownsE es ms
  | [], j, ms, h, _ => by simp at h
  | e :: r, 0, ms, h, hb => by
    simp only [List.getElem?_cons_zero, Option.some.injEq] at h; subst h
    simp only [ownsE]; exact List.mem_append.2 (.inl hb)
  | e :: r, j + 1, ms, h, hb => by
    simp only [List.getElem?_cons_succ] at h
    simp only [ownsE]
    exact List.mem_append.2 (.inr (ownsE_mem r j (fun k => ms (k + 1)) h hb))

/-- Slices named from n on. -/
theorem Holds.addEnts {c : Cfg TB} {G : Nat → Prop} {w : World} : ∀ (es : List Ent) {E : Env} {L : Store} {n : Nat} {ms : Nat → Nm}, Holds c G w E L → (∀ j, j < es.length → look L (n + j) = some .rsv) →
    (∀ j e, es[j]? = some e → EntM c G w (ms j) e) → (ownsE es ms).Nodup → (∀ b ∈ ownsE es ms, NoOwn E L b) →
    Holds c G w (E.put n es.length ms) (updL L (nameFrom n es)) ∧ (∀ k, look (updL L (nameFrom n es)) k = if n ≤ k ∧ k < n + es.length then es[k - n]? else look L k)
  | [], E, L, n, ms, h, _, _, _, _ => by
    have e1 : E.put n 0 ms = E := env_ext (fun k => by simp only [Env.put]; rw [if_neg (by omega)]) rfl (fun k => by simp only [Env.put]; rw [if_neg (by omega)])
    refine ⟨by rw [List.length_nil, e1]; exact h, fun k => ?_⟩
    rw [if_neg (by simp)]; rfl
  | e :: r, E, L, n, ms, h, hl, hm, hnd, hno => by
    have h0 : look L n = some .rsv := hl 0 (by simp)
    have hlt := look_lt h0
    have hlk := fun k => look_upd (L := L) (q := (n, e)) hlt k
    have hm0 := hm 0 e rfl
    have hne : e.isRsv = false := by cases e <;> first | rfl | exact hm0.elim
    have hown : ∀ b, b ∈ e.ownL (ms 0) → ¬ c.Old b ∧ ¬ G b := fun b hb => ⟨(hm0.owns hb).1, (hm0.owns hb).2.1⟩
    have hmem : ∀ b, b ∈ e.ownL (ms 0) → b ∈ ownsE (e :: r) ms := by
      intro b hb
      simp only [ownsE]
      exact List.mem_append.2 (.inl hb)
    have how : ∀ b, e.ow (E.setD n (ms 0) (ms 0).ins.l) n b ↔ b ∈ e.ownL (ms 0) := fun b => Ent.ow_iff (E.setD_eq _ _ _).1 (E.setD_eq _ _ _).2
    have h1 : Holds c G w (E.setD n (ms 0) (ms 0).ins.l) (upd L (n, e)) := by
      refine h.changeE hlt (.refl _) (Nat.le_refl _) (fun hal => absurd hal (not_al h0)) (fun k hk => E.setD_ne _ _ hk) hne (fun _ _ _ => rfl) (fun b hb => hown b ((how b).1 hb)) ?_ ?_ ?_
      · intro k f hk hf b hb he
        exact hno b (hmem b ((how b).1 he)) k f hf hb
      · rw [(E.setD_eq _ _ _).1]
        cases e with
        | row t xs => exact hm0
        | shr t xs => exact hm0
        | deep t xss q => trivial
        | dead => trivial
        | _ => exact hm0.elim
      · intro t xss q he
        subst he
        obtain ⟨rfl, hm0⟩ := hm0
        rw [(E.setD_eq _ _ _).1, (E.setD_eq _ _ _).2]
        exact hm0.env ⟨rfl, rfl, rfl, rfl, rfl⟩
    have hnd' : (ownsE r (fun k => ms (k + 1))).Nodup := (List.nodup_append.1 hnd).2.1
    obtain ⟨h2, h3⟩ := Holds.addEnts r (n := n + 1) (ms := fun k => ms (k + 1)) h1 (by
        intro j hj
        rw [hlk, if_neg (by simp; omega)]
        have := hl (j + 1) (by simp; omega)
        rw [← this]; congr 1; omega)
      (fun j e' he' => hm (j + 1) e' (by simpa using he')) hnd' (by
        intro b hb k f hf hfb
        rw [hlk] at hf
        by_cases hk : k = n
        · subst hk
          simp only [if_true, Option.some.injEq] at hf
          subst hf
          exact (List.nodup_append.1 hnd).2.2 b ((how b).1 hfb) b hb rfl
        · rw [if_neg hk] at hf
          rw [Ent.ow_same (E.setD_ne _ _ hk)] at hfb
          exact hno b (by simp only [ownsE]; exact List.mem_append.2 (.inr hb)) k f hf hfb)
    have e1 : (E.setD n (ms 0) (ms 0).ins.l).put (n + 1) r.length (fun k => ms (k + 1)) = E.put n (e :: r).length ms := by
      refine env_ext (fun k => ?_) rfl (fun k => ?_)
      all_goals simp only [Env.put, Env.setD, List.length_cons]
      all_goals by_cases hk : k = n
      all_goals first | subst hk | skip
      · rw [if_neg (by omega), if_pos rfl, if_pos ⟨by omega, by omega⟩]
        congr 1; omega
      · by_cases hk2 : n + 1 ≤ k ∧ k < n + 1 + r.length
        · rw [if_pos hk2, if_pos ⟨by omega, by omega⟩]
          congr 1; omega
        · rw [if_neg hk2, if_neg hk, if_neg (by omega)]
      · rw [if_neg (by omega), if_pos rfl, if_pos ⟨by omega, by omega⟩]
        congr 3; omega
      · by_cases hk2 : n + 1 ≤ k ∧ k < n + 1 + r.length
        · rw [if_pos hk2, if_pos ⟨by omega, by omega⟩]
          congr 3; omega
        · rw [if_neg hk2, if_neg hk, if_neg (by omega)]
    refine ⟨by rw [← e1]; exact h2, fun k => ?_⟩
    have := h3 k
    show look (updL (upd L (n, e)) (nameFrom (n + 1) r)) k = _
    rw [this, hlk, List.length_cons]
    by_cases hk : k = n
    · subst hk
      rw [if_neg (by omega), if_pos rfl, if_pos ⟨by omega, by omega⟩]
      simp
    · by_cases hk2 : n + 1 ≤ k ∧ k < n + 1 + r.length
      · rw [if_pos hk2, if_pos ⟨by omega, by omega⟩]
        have : k - n = (k - (n + 1)) + 1 := by omega
        rw [this]; simp
      · rw [if_neg hk2, if_neg hk, if_neg (by omega)]

theorem updL_append (L : Store) (a b : Ups) : updL L (a ++ b) = updL (updL L a) b := by simp [updL]

theorem ents_mem {o : Bool} {t : Ty} {x : t.T} {e : Ent} {j : Nat} (h : (ents o t x)[j]? = some e) : e.isRsv = false := by
  induction t generalizing j with
  | pair a b iha ihb =>
    simp only [ents] at h
    by_cases hk : j < (ents o a x.1).length
    · rw [List.getElem?_append_left hk] at h; exact iha h
    · rw [List.getElem?_append_right (by omega)] at h; exact ihb h
  | slice a =>
    cases j with
    | zero => simp only [ents, List.getElem?_cons_zero, Option.some.injEq] at h; subst h; cases o <;> first | rfl | exact ownEnt_rsv _ _
    | succ j => simp [ents] at h
  | nf =>
    cases j with
    | zero => simp only [ents, List.getElem?_cons_zero, Option.some.injEq] at h; subst h; rfl
    | succ j => simp [ents] at h
  | _ => simp [ents] at h

theorem unp_wf {E : Env} {L : Store} (t : Ty) (x : t.T) (n : Nat) (h : ∀ j, j < t.nsl → Al L (n + j)) : wfL E L (unp t x n) := by
  induction t generalizing n with
  | pair a b iha ihb =>
    simp only [unp]
    rw [wfL_mem]
    intro v hv
    rcases List.mem_append.1 hv with hv | hv
    · exact wfL_mem.1 (iha x.1 n (fun j hj => h j (by simp [Ty.nsl]; omega))) v hv
    · exact wfL_mem.1 (ihb x.2 _ (fun j hj => by rw [Nat.add_assoc]; exact h _ (by simp [Ty.nsl]; omega))) v hv
  | slice a => exact ⟨h 0 (by simp [Ty.nsl]), trivial⟩
  | nf => exact ⟨h 0 (by simp [Ty.nsl]), trivial⟩
  | _ => exact ⟨trivial, trivial⟩

/-- One value, named from n on. -/
theorem Holds.addComp {c : Cfg TB} {G : Nat → Prop} {w : World} {E : Env} {L : Store} (h : Holds c G w E L) (d : CT) (x : d.t.T) {n : Nat} {ms : Nat → Nm} (hl : ∀ j, j < d.cnt → look L (n + j) = some .rsv)
    (hc : CompOk c G w d x ms) (hnd : (ownsC d x ms).Nodup) (hno : ∀ b ∈ ownsC d x ms, NoOwn E L b) :
    Holds c G w (E.put n d.cnt ms) (updL L (outUps d x n)) ∧ (∀ k, (n ≤ k ∧ k < n + d.cnt → Al (updL L (outUps d x n)) k) ∧ (¬ (n ≤ k ∧ k < n + d.cnt) → look (updL L (outUps d x n)) k = look L k)) ∧
      (outSV d x n).wf (E.put n d.cnt ms) (updL L (outUps d x n)) ∧
      (∀ k f b, n ≤ k ∧ k < n + d.cnt → look (updL L (outUps d x n)) k = some f → f.ow (E.put n d.cnt ms) k b → b ∈ ownsC d x ms) := by
  unfold outUps outSV
  unfold CompOk CT.cnt ownsC CT.pn at *
  cases hp : d.ptr with
  | false =>
    simp only [hp, Nat.zero_add, List.nil_append] at *
    obtain ⟨h1, h2⟩ := Holds.addEnts (ents d.own d.t x) (n := n) (ms := ms) h (fun j hj => hl j (by rw [ents_length] at hj; exact hj)) hc.1 hnd hno
    rw [ents_length] at h1 h2
    have hal : ∀ k, n ≤ k ∧ k < n + d.t.nsl → Al (updL L (nameFrom n (ents d.own d.t x))) k := by
      intro k hk
      have hlt : k - n < (ents d.own d.t x).length := by rw [ents_length]; omega
      refine ⟨(ents d.own d.t x)[k - n], ?_, ents_mem (List.getElem?_eq_getElem hlt)⟩
      rw [h2, if_pos hk, List.getElem?_eq_getElem hlt]
    refine ⟨h1, fun k => ⟨hal k, fun hk => by rw [h2, if_neg hk]⟩, ?_, ?_⟩
    rotate_left
    · intro k f b hk hf hb
      rw [h2, if_pos hk] at hf
      have e0 : k = n + (k - n) := by omega
      rw [e0, Ent.ow_put (by omega)] at hb
      exact ownsE_mem _ _ _ hf hb
    have hw : wfL (E.put n d.t.nsl ms) (updL L (nameFrom n (ents d.own d.t x))) (unp d.t x n) := unp_wf _ _ _ fun j hj => hal _ ⟨by omega, by omega⟩
    cases hd : d.agg with
    | true => exact hw
    | false =>
      show SV.wf _ _ ((unp d.t x n).headD undefV)
      cases hu : unp d.t x n with
      | nil => trivial
      | cons v r => rw [hu] at hw; exact hw.1
  | true =>
    simp only [hp] at *
    obtain ⟨hc1, hc2⟩ := hc
    obtain ⟨b1, b2, b3, b4, ty, b5⟩ := hc2 trivial
    have hnd2 := List.nodup_append.1 hnd
    obtain ⟨h1, h2⟩ := Holds.addEnts (ents d.own d.t x) (n := n + 1) (ms := fun j => ms (1 + j)) h (fun j hj => by have := hl (1 + j) (by rw [ents_length] at hj; omega); rw [← this]; congr 1; omega) hc1 hnd2.2.1
      (fun b hb => hno b (List.mem_append.2 (.inr hb)))
    rw [ents_length] at h1 h2
    have h0 : look (updL L (nameFrom (n + 1) (ents d.own d.t x))) n = some .rsv := by
      rw [h2, if_neg (by omega)]; exact hl 0 (by omega)
    have hlt := look_lt h0
    have hlk := fun k => look_upd (q := (n, Ent.box (unp d.t x (n + 1)))) hlt k
    have hal : ∀ k, n ≤ k ∧ k < n + (1 + d.t.nsl) → Al (upd (updL L (nameFrom (n + 1) (ents d.own d.t x))) (n, Ent.box (unp d.t x (n + 1)))) k := by
      intro k hk
      by_cases hkn : k = n
      · exact ⟨.box (unp d.t x (n + 1)), by rw [hlk, if_pos hkn], rfl⟩
      · have hlt : k - (n + 1) < (ents d.own d.t x).length := by rw [ents_length]; omega
        refine ⟨(ents d.own d.t x)[k - (n + 1)], ?_, ents_mem (List.getElem?_eq_getElem hlt)⟩
        rw [hlk, if_neg hkn, h2, if_pos (by omega), List.getElem?_eq_getElem hlt]
    have e1 : (E.put (n + 1) d.t.nsl (fun j => ms (1 + j))).setD n (ms 0) (ms 0).ins.l = E.put n (1 + d.t.nsl) ms := by
      refine env_ext (fun k => ?_) rfl (fun k => ?_)
      all_goals simp only [Env.put, Env.setD]
      all_goals by_cases hk : k = n
      all_goals first | subst hk | skip
      · rw [if_pos rfl, if_pos (by omega)]
        congr 1; omega
      · rw [if_neg hk]
        by_cases hk2 : n + 1 ≤ k ∧ k < n + 1 + d.t.nsl
        · rw [if_pos hk2, if_pos (by omega)]
          congr 1; omega
        · rw [if_neg hk2, if_neg (by omega)]
      · rw [if_pos rfl, if_pos (by omega)]
        congr 3; omega
      · rw [if_neg hk]
        by_cases hk2 : n + 1 ≤ k ∧ k < n + 1 + d.t.nsl
        · rw [if_pos hk2, if_pos (by omega)]
          congr 3; omega
        · rw [if_neg hk2, if_neg (by omega)]
    have hwf : wfL (E.put n (1 + d.t.nsl) ms) (upd (updL L (nameFrom (n + 1) (ents d.own d.t x))) (n, Ent.box (unp d.t x (n + 1)))) (unp d.t x (n + 1)) :=
      unp_wf _ _ _ fun j hj => hal _ (by omega)
    have h3 := h1.changeL (i := n) (e' := .box (unp d.t x (n + 1))) (m := ms 0) (w' := w) (ms 0).ins.l hlt (.refl _) (Nat.le_refl _) (fun hx => absurd hx (not_al h0)) rfl (fun _ _ _ => rfl)
      (fun b hb => by simp only [Ent.own, Option.some.injEq] at hb; subst hb; exact ⟨b4, b3⟩)
      (by
        intro k f hk hf b hb he
        simp only [Ent.own, Option.some.injEq] at he
        subst he
        rw [h2] at hf
        by_cases hk2 : n + 1 ≤ k ∧ k < n + 1 + d.t.nsl
        · rw [if_pos hk2] at hf
          have hin : (ms 0).blk ∈ ownsE (ents d.own d.t x) (fun j => ms (1 + j)) := by
            have : k = n + 1 + (k - (n + 1)) := by omega
            rw [this, Ent.ow_put (by omega)] at hb
            exact ownsE_mem _ _ _ hf hb
          exact hnd2.2.2 _ (by simp) _ hin rfl
        · rw [if_neg hk2] at hf
          rw [Ent.ow_out (by omega)] at hb
          exact hno _ (List.mem_append.2 (.inl (by simp))) k f hf hb)
      (by
        intro _
        rw [e1]
        refine ⟨b1, b2, b3, b4, ⟨ty, ?_⟩, hwf⟩
        rw [b5, unp_den]
        congr 3
        apply enc_congr
        intro j hj
        show ms (1 + j) = (E.put n (1 + d.t.nsl) ms).nm (n + 1 + j)
        rw [Nat.add_assoc, Env.put_in _ _ _ _ (by omega)])
    rw [e1] at h3
    rw [updL_append]
    refine ⟨h3, fun k => ⟨hal k, fun hk => ?_⟩, hal n (by omega), ?_⟩
    · show look (upd _ _) k = _
      rw [hlk, if_neg (by omega), h2, if_neg (by omega)]
    · intro k f b hk hf hb
      have hf' : look (upd (updL L (nameFrom (n + 1) (ents d.own d.t x))) (n, Ent.box (unp d.t x (n + 1)))) k = some f := hf
      rw [hlk] at hf'
      by_cases hkn : k = n
      · subst hkn
        simp only [if_true, Option.some.injEq] at hf'
        subst hf'
        have hb' := (Ent.ow_put (e := .box (unp d.t x (k + 1))) (E := E) (n := k) (cnt := 1 + d.t.nsl) (ms := ms) (j := 0) (b := b) (by omega)).1 (by simpa using hb)
        simp only [Ent.ownL, Ent.own, Option.toList_some, List.mem_singleton] at hb'
        exact List.mem_append.2 (.inl (by simp [hb']))
      · rw [if_neg hkn, h2, if_pos (by omega)] at hf'
        have e0 : k = n + (1 + (k - (n + 1))) := by omega
        rw [e0, Ent.ow_put (by omega)] at hb
        exact List.mem_append.2 (.inr (ownsE_mem _ _ (fun j => ms (1 + j)) hf' hb))


theorem outUps_al {L : Store} (d : CT) (x : d.t.T) (n : Nat) (k : Nat) (h : Al L k) : Al (updL L (outUps d x n)) k := by
  have key : ∀ (es : List Ent) (L : Store) (n : Nat), (∀ (j : Nat) (e : Ent), es[j]? = some e → e.isRsv = false) → Al L k → Al (updL L (nameFrom n es)) k := by
    intro es
    induction es with
    | nil => intro L n _ h; exact h
    | cons e r ih => intro L n he h; exact ih (upd L (n, e)) (n + 1) (fun j e' hj => he (j + 1) e' (by simpa using hj)) (al_upd (he 0 e rfl) k h)
  unfold outUps
  cases d.ptr with
  | false => exact key _ _ _ (fun j e he => ents_mem he) h
  | true =>
    simp only
    rw [updL_append]
    exact al_upd rfl k (key _ _ _ (fun j e he => ents_mem he) h)

/-- Values of a list, named from n on. -/
theorem Holds.addComps {c : Cfg TB} {G : Nat → Prop} {w : World} : ∀ (cs : List CT) {E : Env} {L : Store} (x : HT cs) {n : Nat} {ms : Nat → Nm}, Holds c G w E L → (∀ j, j < cnts cs → look L (n + j) = some .rsv) →
    PS c G w cs x ms → (ownsP cs x ms).Nodup → (∀ b ∈ ownsP cs x ms, NoOwn E L b) →
    Holds c G w (E.put n (cnts cs) ms) (updL L (outsUps cs x n)) ∧ (∀ k, (n ≤ k ∧ k < n + cnts cs → Al (updL L (outsUps cs x n)) k) ∧ (¬ (n ≤ k ∧ k < n + cnts cs) → look (updL L (outsUps cs x n)) k = look L k)) ∧
      wfL (E.put n (cnts cs) ms) (updL L (outsUps cs x n)) (outSVs cs x n)
  | [], E, L, x, n, ms, h, _, _, _, _ => by
    have e1 : E.put n 0 ms = E := env_ext (fun k => by simp only [Env.put]; rw [if_neg (by omega)]) rfl (fun k => by simp only [Env.put]; rw [if_neg (by omega)])
    refine ⟨by simp only [cnts, e1]; exact h, fun k => ⟨fun hk => by simp [cnts] at hk; omega, fun _ => rfl⟩, trivial⟩
  | d :: r, E, L, x, n, ms, h, hl, hp, hnd, hno => by
    have hnd2 := List.nodup_append.1 hnd
    obtain ⟨h1, h2, h3, h4⟩ := h.addComp d (HT.hd d r x) (n := n) (ms := ms) (fun j hj => hl j (by simp [cnts]; omega)) hp.1 hnd2.1 (fun b hb => hno b (List.mem_append.2 (.inl hb)))
    obtain ⟨k1, k2, k3⟩ := Holds.addComps r (HT.tl d r x) (n := n + d.cnt) (ms := fun k => ms (d.cnt + k)) h1
      (by
        intro j hj
        rw [(h2 _).2 (by omega), Nat.add_assoc]
        exact hl _ (by simp [cnts]; omega)) hp.2 hnd2.2.1
      (by
        intro b hb k f hf hfb
        by_cases hk : n ≤ k ∧ k < n + d.cnt
        · exact hnd2.2.2 b (h4 k f b hk hf hfb) b hb rfl
        · rw [(h2 k).2 hk] at hf
          rw [Ent.ow_out (by omega)] at hfb
          exact hno b (List.mem_append.2 (.inr hb)) k f hf hfb)
    have e1 : (E.put n d.cnt ms).put (n + d.cnt) (cnts r) (fun k => ms (d.cnt + k)) = E.put n (cnts (d :: r)) ms := by
      show _ = E.put n (d.cnt + cnts r) ms
      refine env_ext (fun k => ?_) rfl (fun k => ?_)
      all_goals simp only [Env.put]
      all_goals by_cases hk : n + d.cnt ≤ k ∧ k < n + d.cnt + cnts r
      · rw [if_pos hk, if_pos (by omega)]
        congr 1; omega
      · rw [if_neg hk]
        by_cases hk2 : n ≤ k ∧ k < n + d.cnt
        · rw [if_pos hk2, if_pos (by omega)]
        · rw [if_neg hk2, if_neg (by omega)]
      · rw [if_pos hk, if_pos (by omega)]
        congr 3; omega
      · rw [if_neg hk]
        by_cases hk2 : n ≤ k ∧ k < n + d.cnt
        · rw [if_pos hk2, if_pos (by omega)]
        · rw [if_neg hk2, if_neg (by omega)]
    have e2 : updL L (outsUps (d :: r) x n) = updL (updL L (outUps d (HT.hd d r x) n)) (outsUps r (HT.tl d r x) (n + d.cnt)) := by
      simp only [outsUps, updL_append]
    rw [e1] at k1 k3
    rw [e2]
    have hal : ∀ k, Al (updL L (outUps d (HT.hd d r x) n)) k → Al (updL (updL L (outUps d (HT.hd d r x) n)) (outsUps r (HT.tl d r x) (n + d.cnt))) k := by
      intro k hk
      by_cases hk2 : n + d.cnt ≤ k ∧ k < n + d.cnt + cnts r
      · exact (k2 k).1 hk2
      · obtain ⟨e, he1, he2⟩ := hk
        exact ⟨e, by rw [(k2 k).2 hk2]; exact he1, he2⟩
    refine ⟨k1, fun k => ⟨fun hk => ?_, fun hk => ?_⟩, ?_, k3⟩
    · simp only [cnts] at hk
      by_cases hk2 : n + d.cnt ≤ k ∧ k < n + d.cnt + cnts r
      · exact (k2 k).1 hk2
      · exact hal k ((h2 k).1 (by omega))
    · simp only [cnts] at hk
      rw [(k2 k).2 (by omega), (h2 k).2 (by omega)]
    · refine (wf_ext hal (fun k hk => ?_) _ h3).1
      rw [← e1]
      refine Env.put_out _ _ _ _ ?_
      rcases Nat.lt_or_ge k (n + d.cnt) with hlt | hge
      · exact .inl hlt
      · right
        rcases Nat.lt_or_ge k (n + d.cnt + cnts r) with hlt2 | hge2
        · exfalso
          have : look (updL L (outUps d (HT.hd d r x) n)) k = some .rsv := by
            rw [(h2 k).2 (by omega)]
            have := hl (k - n) (by simp [cnts]; omega)
            have e : n + (k - n) = k := by omega
            rw [e] at this; exact this
          exact not_al this hk
        · exact hge2

/-! Taking values out of a state. -/
/-- What is taken out: the value, where its slices lie, what is written no more, what is given away, what is lent. -/
structure Taken (T : Type) where
  x : T
  nes : List NE
  fz : Ups
  on : List Nat
  ln : List Nat

def packArg (md : PM) (lkp : Nat → Option Ent) (c : CT) (v : SV) : Option (Taken c.t.T) :=
  match c.ptr with
  | true => match v with
    | .loc i off => if off = 0 then (match lkp i with
      | some (.box cs) => match c.own with
        | true => match packC .own lkp c.t cs with
          | some (x, [], nes, u) => some ⟨x, .whole i :: nes, [], i :: u.map (·.1), []⟩
          | _ => none
        | false => match packC md lkp c.t cs with
          | some (x, [], nes, u) => some ⟨x, .whole i :: nes, u, [i], nes.filterMap NE.name⟩
          | _ => none
      | _ => none) else none
    | _ => none
  | false => match (match c.agg, v with
      | true, .agg cs => some cs
      | true, _ => none
      | false, v => some [v]) with
    | none => none
    | some cs => match c.own with
      | true => match packC .own lkp c.t cs with
        | some (x, [], nes, u) => some ⟨x, nes, [], u.map (·.1), []⟩
        | _ => none
      | false => match packC md lkp c.t cs with
        | some (x, [], nes, u) => some ⟨x, nes, u, [], nes.filterMap NE.name⟩
        | _ => none
def packA (md : PM) (lkp : Nat → Option Ent) : (cs : List CT) → List SV → Option (Taken (HT cs))
  | [], [] => some ⟨(), [], [], [], []⟩
  | c :: r, v :: vs => match packArg md lkp c v with
    | none => none
    | some a => match packA md lkp r vs with
      | none => none
      | some b => some ⟨HT.mk c r a.x b.x, a.nes ++ b.nes, a.fz ++ b.fz, a.on ++ b.on, a.ln ++ b.ln⟩
  | _, _ => none
def okA {T : Type} (a : Taken T) : Bool := decide a.on.Nodup && a.on.all fun i => !a.ln.contains i
def Taken.ups {T : Type} (a : Taken T) : Ups := a.fz ++ a.on.map fun i => (i, .dead)

end Go.V3
