/-
  Both prints print the same text.
-/
import Derived.Test.YtmcahbbelnjhiaaDoorNtnH
set_option linter.unusedVariables false
set_option linter.unusedSimpArgs false
namespace Go.Proofs.YtmcahbbelnjhiaaDoor
open Go Go.V3

/-- The texts of rules; none: a share is no percentage. -/
def ptx : List Ru → Option (List By)
  | [] => some []
  | r :: rs => (tp r.1).bind fun p => (ptx rs).map (rtx p r :: ·)
def jn (xs : List By) : By := Lib.join xs [44, 32]
theorem jn_one (x : By) : jn [x] = x := by simp [jn, Lib.join, List.intercalate, List.intersperse]
theorem jn_cons (x y : By) (zs : List By) : jn (x :: y :: zs) = x ++ ([44, 32] ++ jn (y :: zs)) := by
  simp [jn, Lib.join, List.intercalate]
theorem jn_snoc : ∀ (xs : List By) (y : By), xs ≠ [] → jn (xs ++ [y]) = jn xs ++ ([44, 32] ++ y)
  | [], y, h => absurd rfl h
  | [x], y, _ => by rw [List.singleton_append, jn_cons, jn_one, jn_one]
  | x :: x2 :: xs, y, _ => by
    have := jn_snoc (x2 :: xs) y (by simp)
    rw [List.cons_append, List.cons_append, jn_cons, ← List.cons_append, this, jn_cons]
    simp
theorem jn_len : ∀ (xs : List By), (∀ x ∈ xs, x.length ≤ 200) → (jn xs).length ≤ 202 * xs.length
  | [], _ => by simp [jn, Lib.join, List.intercalate]
  | [x], h => by rw [jn_one]; have := h x (.head _); rw [List.length_singleton]; omega
  | x :: y :: zs, h => by
    have h1 := jn_len (y :: zs) fun a ha => h a (.tail _ ha)
    have h2 := h x (.head _)
    rw [jn_cons, List.length_append, List.length_append]
    simp only [List.length_cons, List.length_nil] at *
    omega
def head (c : Cf) : By := bl c.1 ++ (tFull ++ (it c.2.2 ++ [58, 32]))
/-- What is printed of a configuration. -/
noncomputable def prn (c : Cf) : ByteArray × Int := if chk c = 0 then (match ptx c.2.1 with | some ts => (⟨(head c ++ jn ts).toArray⟩, 0) | none => (⟨#[]⟩, 6)) else (⟨#[]⟩, chk c)
theorem good_of {c : Cf} (h : chk c = 0) : Good c := by
  unfold chk at h
  by_cases h1 : nmOk c.1
  rotate_left
  · rw [if_pos h1] at h; exact absurd h (by decide)
  rw [if_neg (not_not_intro h1)] at h
  by_cases h2 : 1 ≤ c.2.1.length ∧ c.2.1.length ≤ 4
  rotate_left
  · rw [if_pos h2] at h; exact absurd h (by decide)
  rw [if_neg (not_not_intro h2)] at h
  by_cases h3 : fe c c.2.1.length 0 = 0
  rotate_left
  · rw [if_pos h3] at h; exact absurd h h3
  rw [if_neg (not_not_intro h3)] at h
  by_cases h4 : ∀ b : Int, 1 ≤ b → b < c.2.1.length → Aim c b
  rotate_left
  · rw [if_pos h4] at h; exact absurd h (by decide)
  rw [if_neg (not_not_intro h4)] at h
  by_cases h5 : FinBad c
  · rw [if_pos h5] at h; exact absurd h (by decide)
  refine ⟨h1, h2, fun b b0 b1 => ?_, h4, h5⟩
  have hb := fe_zero c _ _ h3 b b0 (by omega)
  unfold rErr at hb
  by_cases g1 : VV (ru c b).1
  rotate_left
  · rw [if_pos g1] at hb; exact absurd hb (by decide)
  rw [if_neg (not_not_intro g1)] at hb
  by_cases g2 : LimBad (ru c b) b ((c.2.1.length : Int) - 1)
  · rw [if_pos g2] at hb; exact absurd hb (by decide)
  rw [if_neg g2] at hb
  by_cases g3 : TgtBad (ru c b) b ((c.2.1.length : Int) - 1)
  · rw [if_pos g3] at hb; exact absurd hb (by decide)
  exact ⟨g1, g2, g3⟩
theorem good_rp {c : Cf} (h : Good c) {k : Nat} (hk : k < c.2.1.length) : RuP (gl (0, 0, 0, 0) c.2.1 k) := by
  obtain ⟨h1, h2, h3⟩ := h.ru (k : Int) (by omega) (by omega)
  have hn := h.n
  unfold ru at h1 h2 h3
  rw [Int.toNat_natCast] at h1 h2 h3
  unfold LimBad at h2
  unfold TgtBad at h3
  refine ⟨h1, ⟨?_, ?_⟩, ⟨?_, ?_⟩, ?_⟩
  · clear h3; omega
  · clear h3; omega
  · clear h3; omega
  · clear h3; omega
  · clear h2
    by_cases e : (k : Int) = (c.2.1.length : Int) - 1
    · have : ¬ (gl (0, 0, 0, 0) c.2.1 k).2.2.2 ≠ (k : Int) := fun e2 => h3 (.inl ⟨e, e2⟩)
      omega
    · have : ¬ ((gl (0, 0, 0, 0) c.2.1 k).2.2.2 ≤ (k : Int) ∨ (c.2.1.length : Int) - 1 < (gl (0, 0, 0, 0) c.2.1 k).2.2.2) := fun e2 => h3 (.inr ⟨by omega, e2⟩)
      omega
theorem good_full {c : Cf} (h : Good c) : 0 ≤ c.2.2 ∧ c.2.2 ≤ 64 := by
  have := h.fin
  unfold FinBad at this
  by_cases e : (ru c ((c.2.1.length : Int) - 1)).1 = 0
  · have h2 : ¬ (c.2.2 < 1 ∨ 64 < c.2.2) := fun e2 => this (.inl ⟨e, e2⟩)
    omega
  · have h2 : ¬ c.2.2 ≠ 0 := fun e2 => this (.inr ⟨e, e2⟩)
    omega
theorem drop_gl {xs : List Ru} {k : Nat} (hk : k < xs.length) : xs.drop k = gl (0, 0, 0, 0) xs k :: xs.drop (k + 1) := by
  rw [gl_lt hk]
  exact List.drop_eq_getElem_cons hk
theorem map_app {E : Option (List By)} {acc : List By} {x : By} : (E.map (x :: ·)).map (acc ++ ·) = E.map ((acc ++ [x]) ++ ·) := by
  rw [Option.map_map]
  congr 1
  funext ys
  simp
theorem RuP.lt {r : Ru} (h : RuP r) : r.1 < 18446744073709551616 := by
  rcases h.1 with h | ⟨_, h⟩ <;> omega
theorem head_size {c : Cf} (h : Good c) : (head c).length ≤ 100 := by
  have := it_len (n := c.2.2) (good_full h).1 (by have := (good_full h).2; omega)
  have h1 := h.nm.2.1
  unfold head
  simp only [List.length_append, bl_len, List.length_cons, List.length_nil, tFull]
  omega
theorem pPrint_ok {c : Cf} (hn : c.2.1.length ≤ 1000) (hs : Sh c) : Fnotation_Print c = some (prn c) := by
  rw [pPrint_form, check_ok hn hs, Option.bind_some]
  unfold prn
  by_cases hc : chk c = 0
  rotate_left
  · rw [if_pos hc, if_neg hc]
  rw [if_neg (not_not_intro hc), if_pos hc]
  have hg := good_of hc
  have h4 := hg.n
  refine loopO_to (fun m (st : List ByteArray × Int) => ∃ k : Nat, st.2 = (k : Int) ∧ k ≤ c.2.1.length ∧ m = c.2.1.length - k ∧ st.1.length = k ∧ (∀ x ∈ st.1.map bl, x.length ≤ 200) ∧ (ptx (c.2.1.drop k)).map (st.1.map bl ++ ·) = ptx c.2.1) (n := c.2.1.length) ?_ ⟨0, rfl, Nat.zero_le _, rfl, rfl, by simp, by simp⟩
  rintro m ⟨acc, i⟩ ⟨k, hi, hk, rfl, hl, hx, hE⟩
  dsimp only at hi hl hx hE
  subst hi
  dsimp only
  by_cases h1 : k < c.2.1.length
  · have hr := good_rp hg h1
    rw [drop_gl h1, ptx] at hE
    rw [if_pos (by omega), if_pos (by omega), show ((k : Int)).toNat = k by omega]
    by_cases hz : (gl (0, 0, 0, 0) c.2.1 k).1 = 0
    · rw [if_neg (not_not_intro ((zeroEq hr.1).mpr hz)), pAll_ok (by omega) hr]
      rw [hz, tp_zero, Option.bind_some, map_app] at hE
      right
      refine ⟨c.2.1.length - (k + 1), _, by omega, rfl, k + 1, by dsimp only; rw [w64_id (by omega) (by omega)]; omega, by omega, rfl, by rw [List.length_append, List.length_singleton]; omega, ?_, ?_⟩
      · intro x hx'
        rw [List.map_append, List.map_singleton, bl_mk] at hx'
        rcases List.mem_append.mp hx' with hx' | hx'
        · exact hx x hx'
        · rw [List.mem_singleton] at hx'; rw [hx']; exact rtx_len (by decide) (by decide) hr
      · rw [List.map_append, List.map_singleton, bl_mk]; exact hE
    · rw [if_pos (fun e => hz ((zeroEq hr.1).mp e)), toP_ok hr.lt, Option.bind_some]
      cases ht : tp (gl (0, 0, 0, 0) c.2.1 k).1 with
      | none =>
        rw [ht] at hE
        left
        rw [if_pos (show (!false) = true from rfl), ← hE]; rfl
      | some p =>
        obtain ⟨p0, p1, p2⟩ := tp_some ht
        have hp : p ≠ 0 := fun e => hz ((tp_pos ht).mp e)
        rw [ht, Option.bind_some, map_app] at hE
        dsimp only
        rw [if_neg (show ¬ (!true) = true by decide), pPct_ok (by omega) (by omega) p1 hr]
        right
        refine ⟨c.2.1.length - (k + 1), _, by omega, rfl, k + 1, by dsimp only; rw [w64_id (by omega) (by omega)]; omega, by omega, rfl, by rw [List.length_append, List.length_singleton]; omega, ?_, ?_⟩
        · intro x hx'
          rw [List.map_append, List.map_singleton, bl_mk] at hx'
          rcases List.mem_append.mp hx' with hx' | hx'
          · exact hx x hx'
          · rw [List.mem_singleton] at hx'; rw [hx']; exact rtx_len p0 p1 hr
        · rw [List.map_append, List.map_singleton, bl_mk]; exact hE
  · left
    have hk' : k = c.2.1.length := by omega
    subst hk'
    have hE' : some (acc.map bl) = ptx c.2.1 := by
      rw [← hE, List.drop_length]
      simp [ptx]
    rw [if_neg (by omega), ← hE']
    have hj := jn_len _ hx
    rw [List.length_map] at hj
    have hI := it_size (n := c.2.2) (good_full hg).1 (by have := (good_full hg).2; omega)
    have hN := hg.nm.2.1
    have hjoin : Fjoin acc (⟨#[44, 32]⟩ : ByteArray) = some ⟨(jn (acc.map bl)).toArray⟩ := by
      unfold Fjoin
      rw [if_pos]
      · rfl
      · refine ⟨by omega, ?_⟩
        show (jn (acc.map bl)).length ≤ _
        omega
    have hJ : (⟨(jn (acc.map bl)).toArray⟩ : ByteArray).size ≤ 1000 := by rw [size_mk]; omega
    rw [Fitoa_ok (good_full hg).1 (by have := (good_full hg).2; omega)]
    simp only [ByteArray.size_append, zful, zcol, Option.bind_some]
    rw [hjoin, if_pos (by omega), if_pos (by omega), if_pos (by omega), Option.bind_some, if_pos (by omega)]
    rw [Option.map_some]
    congr 3
    apply bl_inj
    unfold head
    simp only [bl_app, bl_mk, bful, bcol, List.append_assoc]; rfl
theorem rPrint_ok {c : Cf} (hn : c.2.1.length ≤ 1000) (hz : c.1.size ≤ 1000000) (hs : Sh c) : Fbeltwayref13_Print c = some (prn c) := by
  rw [rPrint_form, rCheck_ok hn hz hs, Option.bind_some]
  unfold prn
  by_cases hc : chk c = 0
  rotate_left
  · rw [if_pos hc, if_neg hc]
  rw [if_neg (not_not_intro hc), if_pos hc]
  have hg := good_of hc
  have h4 := hg.n
  have hI := it_size (n := c.2.2) (good_full hg).1 (by have := (good_full hg).2; omega)
  have hN := hg.nm.2.1
  have hh := head_size hg
  have hhead : bl (((c.1 ++ (⟨#[32, 102, 117, 108, 108, 32]⟩ : ByteArray)) ++ (⟨(it c.2.2).toArray⟩ : ByteArray)) ++ (⟨#[58, 32]⟩ : ByteArray)) = head c := by
    unfold head
    simp only [bl_app, bl_mk, bful, bcol, List.append_assoc]; rfl
  rw [Fdig_ok (good_full hg).1 (by have := (good_full hg).2; omega), Option.bind_some, if_pos (by rw [zful]; omega), if_pos (by rw [ByteArray.size_append, zful]; omega), if_pos (by rw [ByteArray.size_append, ByteArray.size_append, zful, zcol]; omega)]
  refine loopO_to (fun m (st : ByteArray × Int) => ∃ (k : Nat) (acc : List By), st.2 = (k : Int) ∧ k ≤ c.2.1.length ∧ m = c.2.1.length - k ∧ acc.length = k ∧ bl st.1 = head c ++ jn acc ∧ (∀ x ∈ acc, x.length ≤ 200) ∧ (ptx (c.2.1.drop k)).map (acc ++ ·) = ptx c.2.1) (n := c.2.1.length) ?_ ⟨0, [], rfl, Nat.zero_le _, rfl, rfl, by rw [hhead]; simp [jn, Lib.join, List.intercalate], by simp, by simp⟩
  rintro m ⟨s, i⟩ ⟨k, acc, hi, hk, rfl, hl, hs', hx, hE⟩
  dsimp only at hi hs'
  subst hi
  have hj := jn_len _ hx
  have hsz : s.size ≤ 1000 := by
    rw [← bl_len, hs', List.length_append]; omega
  dsimp only
  by_cases h1 : k < c.2.1.length
  · have hr := good_rp hg h1
    rw [drop_gl h1, ptx] at hE
    rw [if_pos (by omega), if_pos (by omega), show ((k : Int)).toNat = k by omega, rToP_eq, toP_ok hr.lt, Option.bind_some]
    cases ht : tp (gl (0, 0, 0, 0) c.2.1 k).1 with
    | none =>
      rw [ht] at hE
      left
      rw [if_pos (show (!false) = true from rfl), ← hE]; rfl
    | some p =>
      obtain ⟨p0, p1, p2⟩ := tp_some ht
      rw [ht, Option.bind_some, map_app] at hE
      dsimp only
      rw [if_neg (show ¬ (!true) = true by decide)]
      have hx2 : ∀ x ∈ acc ++ [rtx p (gl (0, 0, 0, 0) c.2.1 k)], x.length ≤ 200 := by
        intro x hx'
        rcases List.mem_append.mp hx' with hx' | hx'
        · exact hx x hx'
        · rw [List.mem_singleton] at hx'; rw [hx']; exact rtx_len p0 p1 hr
      right
      by_cases hk0 : (k : Int) > 0
      · rw [if_pos hk0, if_pos (by rw [zcom]; omega), rRul_ok (by rw [ByteArray.size_append, zcom]; omega) p0 p1 hr]
        refine ⟨c.2.1.length - (k + 1), _, by omega, rfl, k + 1, _, by dsimp only; rw [w64_id (by omega) (by omega)]; omega, by omega, rfl, by rw [List.length_append, List.length_singleton]; omega, ?_, hx2, hE⟩
        rw [bl_mk, bl_app, hs', bcom, jn_snoc _ _ (by rintro rfl; simp at hl; omega)]
        simp only [List.append_assoc]
      · rw [if_neg hk0, rRul_ok (by omega) p0 p1 hr]
        refine ⟨c.2.1.length - (k + 1), _, by omega, rfl, k + 1, _, by dsimp only; rw [w64_id (by omega) (by omega)]; omega, by omega, rfl, by rw [List.length_append, List.length_singleton]; omega, ?_, hx2, hE⟩
        have : acc = [] := List.length_eq_zero_iff.mp (by omega)
        subst this
        rw [bl_mk, hs', List.nil_append, jn_one]
        simp [jn, Lib.join, List.intercalate]
  · left
    have hk' : k = c.2.1.length := by omega
    subst hk'
    have hE' : some acc = ptx c.2.1 := by
      rw [← hE, List.drop_length]
      simp [ptx]
    rw [if_neg (by omega), ← hE']
    dsimp only
    rw [← hs', mk_bl]
end Go.Proofs.YtmcahbbelnjhiaaDoor
