/-
  Objects of increments that are full of objects; how they grow; the laws of package walk.
-/
import Derived.Test.YtjdlaikcdebofaaRows
import Derived.Test.YtjdlaikcdebofaaWlkB
set_option linter.unusedVariables false
namespace Go.Proofs.Ytjdlaikcdebofaa
open Go Go.V3

/-- The addresses and words of tiles. -/
def ads (z : Int) (l : List Int) : Int → List (Int × Int) → List (Int × Int)
  | _, [] => []
  | at', o :: r => ((adl z l at').getD 0, 1 + o.1 + o.2) :: ads z l (at' + (1 + o.1 + o.2)) r
theorem tiles_ob {z : Int} {ws : List (BitVec 64)} {l : List Int} {W : Int} : ∀ {os : List (Int × Int)} {at' : Int} {n : Nat}, Tiles z ws l at' os W → W - at' ≤ n → ob z W ws l n at' = some (ads z l at' os)
  | [], at', n, h, hn => by
    rw [Tiles] at h
    subst h
    cases n <;> (unfold ob; rw [if_neg (by omega)]; rfl)
  | o :: r, at', n, h, hn => by
    obtain ⟨⟨⟨r0, r1⟩, d0, d1⟩, ⟨a, h2, h3⟩, h4⟩ := h
    have hle := h4.le
    cases n with
    | zero => omega
    | succ n =>
      unfold ob
      rw [if_pos (by omega), h2]
      simp only
      rw [h3, hd_hdr r0 r1 d0 d1]
      simp only
      rw [if_neg (by omega), tiles_ob h4 (by omega), Option.map_some]
      simp only [ads, h2, Option.getD_some]
theorem ads_congr {z : Int} {ws : List (BitVec 64)} {l l' : List Int} {W : Int} (hl : ∀ p a, adl z l p = some a → adl z l' p = some a) : ∀ {os : List (Int × Int)} {at' : Int}, Tiles z ws l at' os W → ads z l' at' os = ads z l at' os
  | [], _, _ => rfl
  | o :: r, at', h => by
    obtain ⟨_, ⟨a, h2, _⟩, h4⟩ := h
    simp only [ads]
    rw [ads_congr hl h4, h2, hl _ _ h2]
theorem ads_snoc {z : Int} {ws : List (BitVec 64)} {l l' : List Int} {W : Int} (x : Int × Int) : ∀ {os : List (Int × Int)} {at' : Int}, Tiles z ws l at' os W → ads z l' at' (os ++ [x]) = ads z l' at' os ++ [((adl z l' W).getD 0, 1 + x.1 + x.2)]
  | [], at', h => by rw [Tiles] at h; subst h; rfl
  | o :: r, at', h => by
    simp only [ads, List.cons_append]
    rw [ads_snoc x h.2.2]
theorem has_fn {s : Sp} {i : Inc} {l l' : List Int} (h : Has s i l) (h' : Has s i l') : l = l' := by
  rcases h with ⟨h1, rfl⟩ | ⟨h1, h2⟩ <;> rcases h' with ⟨h3, rfl⟩ | ⟨h3, h4⟩
  · rfl
  · exact absurd h1 h3
  · exact absurd h3 h1
  · exact h2.fn h4
theorem full_obs {s : Sp} {i : Inc} {l : List Int} (hl : Has s i l) (hw : 0 ≤ i.2.2.2.2) {os : List (Int × Int)} (h : Full s i os) : Tiles (sz s.1) s.2.1 l 0 os i.2.2.2.2 ∧ obs s i l = some (ads (sz s.1) l 0 os) := by
  obtain ⟨l', h1, h2⟩ := h
  obtain rfl := has_fn hl h1
  exact ⟨h2, tiles_ob h2 (by omega)⟩
/-- An object more. -/
theorem obs_grow {s : Sp} {i : Inc} {r d : Int} {u : Sp} {j : Inc} {a : Int} {l l' : List Int} (h : VS s) (hi : FitS s i) (r0 : 0 ≤ r) (r1 : r ≤ 15) (d0 : 0 ≤ d) (d1 : d ≤ 32) (g : Added s i r d u j a l l') {os : List (Int × Int)} (hf : Full s i os) :
    ∃ q, obs s i l = some q ∧ Has u j l' ∧ obs u j l' = some (q ++ [(a, 1 + r + d)]) := by
  obtain ⟨⟨_, _, _, _, w0, w1⟩, _⟩ := id hi
  obtain ⟨h1, h2⟩ := full_obs g.grown.has w0 hf
  obtain ⟨s1, s2⟩ := g.self h hi r0 r1 d0 d1
  have hw := g.grown.words
  have hu : Has u j l' := .inr ⟨by omega, g.grown.path⟩
  obtain ⟨h3, h4⟩ := full_obs hu (by omega) (s2 os hf)
  refine ⟨_, h2, hu, ?_⟩
  rw [h4, g.sh, ads_snoc (r, d) h1, ads_congr (fun p a ha => ?_) h1, g.grown.adr]
  · rfl
  · rw [g.grown.more]; exact adl_append ha
theorem ob_nodup {z W : Int} (hz : 0 < z) {ws : List (BitVec 64)} {l : List Int} (hl : l.Nodup) : ∀ {n : Nat} {at' : Int} {os : List (Int × Int)}, 0 ≤ at' → at' ≤ W → ob z W ws l n at' = some os → (os.map (·.1)).Nodup
  | 0, at', os, h0, h1, h => by
    unfold ob at h
    split at h
    · cases h
    · simp only [Option.some.injEq] at h; subst h; exact List.nodup_nil
  | n + 1, at', os, h0, h1, h => by
    unfold ob at h
    split at h
    rotate_left
    · simp only [Option.some.injEq] at h; subst h; exact List.nodup_nil
    split at h
    · cases h
    rename_i a ha
    split at h
    · cases h
    rename_i o ho
    have hr := hd_rng ho
    split at h
    · cases h
    cases hq : ob z W ws l n (at' + (1 + o.1 + o.2)) with
    | none => rw [hq] at h; cases h
    | some q =>
      rw [hq] at h
      simp only [Option.map_some, Option.some.injEq] at h
      subst h
      rw [List.map_cons, List.nodup_cons]
      refine ⟨fun hm => ?_, ob_nodup hz hl (by omega) (by omega) hq⟩
      obtain ⟨x, hx, he⟩ := List.mem_map.1 hm
      simp only at he
      obtain ⟨p, q', p1, p2, -⟩ := (ob_mem (by omega) (by omega) hq).1 x hx
      rw [he] at p2
      have := adl_inj hz hl (by omega) h0 p2 ha
      omega
theorem below_succ : ∀ (l : List Int) (a : Int), l.Nodup → (l.filter fun x => decide (x < a + 1)).length = (l.filter fun x => decide (x < a)).length + if a ∈ l then 1 else 0
  | [], a, _ => rfl
  | x :: r, a, h => by
    obtain ⟨h1, h2⟩ := List.nodup_cons.1 h
    have ih := below_succ r a h2
    by_cases hx : x = a
    · subst hx
      rw [if_neg h1] at ih
      rw [List.filter_cons_of_pos (by simp; omega), List.filter_cons_of_neg (by simp), if_pos (by simp), List.length_cons, ih]
    · have hm : (a ∈ x :: r) ↔ a ∈ r := by simp [Ne.symm hx]
      by_cases hlt : x < a
      · rw [List.filter_cons_of_pos (by simp; omega), List.filter_cons_of_pos (by simp; omega), List.length_cons, List.length_cons, ih]
        simp only [hm]
        omega
      · rw [List.filter_cons_of_neg (by simp; omega), List.filter_cons_of_neg (by simp; omega), ih]
        simp only [hm]

theorem awake_ok : Fbeltwaylaw10_awake = some true := by
  have h0 := VS.new (s := 3) (n := 4) (by omega) (by omega)
  have hn : Fbeltwayref03_New 3 4 = _ := rNew_ok (s := 3) (n := 4) (by omega) (by omega)
  unfold Fbeltwaylaw10_awake
  rw [hn, Option.bind_some]
  have f0 : FitS (3, List.replicate (4 * sz 3).toNat 0#64, List.replicate (4 : Int).toNat (-1, -1, -1)) (0, 0, -1, -1, 0) := ⟨by decide, .inl (by decide)⟩
  rcases Alloc_ok (3, List.replicate (4 * sz 3).toNat 0#64, List.replicate (4 : Int).toNat (-1, -1, -1)) (0, 0, -1, -1, 0) 5 with ⟨h, _⟩ | ⟨_, ⟨_, h, _⟩ | ⟨_, ⟨h, _⟩ | ⟨_, t, j, a, l, l', e1, g1⟩⟩⟩
  · exact absurd ⟨h0, f0, by omega, by omega⟩ h
  · exact absurd (by decide) h
  · exact absurd h (by decide)
  rw [e1, Option.bind_some]
  obtain ⟨u, i1, ad1⟩ := add_ok h0 (r := 1) (d := 3) (by omega) (by omega) (by omega) (by omega) f0 g1
  simp only
  rw [i1, Option.bind_some]
  have fu1 : Full (3, List.replicate (4 * sz 3).toNat 0#64, List.replicate (4 : Int).toNat (-1, -1, -1)) (0, 0, -1, -1, 0) [] := ⟨[], .inl ⟨rfl, rfl⟩, rfl⟩
  obtain ⟨q1, o1, hu1, o2⟩ := obs_grow h0 f0 (by omega) (by omega) (by omega) (by omega) ad1 fu1
  obtain ⟨sf1, sf2⟩ := ad1.self h0 f0 (by omega) (by omega) (by omega) (by omega)
  have hq1 : q1 = [] := by
    have := o1.symm.trans (obs_zero (i := (0, 0, -1, -1, 0)) rfl l)
    simpa using this
  subst hq1
  have hsh := ad1.sh
  have hvs := ad1.vs
  have g3 := ad1.grown
  obtain ⟨t0, t1, fs⟩ := u
  obtain ⟨q, b, F, L, w⟩ := j
  have e2 : (fs, F, L) = ([(0, 0, -1), (-1, -1, -1), (-1, -1, -1), (-1, -1, -1)], 0, 0) := g3.gw.trans (by decide)
  simp only [Prod.mk.injEq] at e2
  obtain ⟨rfl, rfl, rfl⟩ := e2
  obtain rfl : q = 0 := g3.seq
  obtain rfl : b = 0 := g3.belt
  obtain rfl : w = 5 := g3.words
  obtain rfl : t0 = 3 := hsh
  have hp1 : l' = [0] := g3.path.fn ⟨rfl, by decide, by simp only; decide, by simp only [Pa]; decide⟩
  subst hp1
  have ha1 : some a = some 0 := g3.adr.symm.trans (by simp only; decide)
  obtain rfl := Option.some.inj ha1
  simp only
  rcases Alloc_ok (3, t1, [(0, 0, -1), (-1, -1, -1), (-1, -1, -1), (-1, -1, -1)]) (0, 0, 0, 0, 5) 6 with ⟨h, _⟩ | ⟨_, ⟨h, _⟩ | ⟨_, ⟨h, _⟩ | ⟨_, t2, j2, a2, m, m', e3, g2⟩⟩⟩
  · exact absurd ⟨hvs, sf1, by omega, by omega⟩ h
  · exact absurd h (by decide)
  · exact absurd h (by simp only; decide)
  rw [e3, Option.bind_some]
  obtain ⟨u2, i2, ad2⟩ := add_ok hvs (r := 0) (d := 5) (by omega) (by omega) (by omega) (by omega) sf1 g2
  simp only
  rw [i2, Option.bind_some]
  obtain ⟨q2, o3, hu2, o4⟩ := obs_grow hvs sf1 (by omega) (by omega) (by omega) (by omega) ad2 (sf2 _ fu1)
  have hm : m = [0] := has_fn ad2.grown.has hu1
  subst hm
  rw [o2] at o3
  obtain rfl := (Option.some.inj o3).symm
  obtain ⟨sf3, -⟩ := ad2.self hvs sf1 (by omega) (by omega) (by omega) (by omega)
  have hsh2 := ad2.sh
  have hvs2 := ad2.vs
  have g4 := ad2.grown
  have hO := pObjects_ok hvs2 sf3 hu2
  have hH := fun x => pHolds_ok hvs2 sf3 hu2 x
  obtain ⟨u0, u1, fs⟩ := u2
  obtain ⟨q, b, F, L, w⟩ := j2
  have e4 : (fs, F, L) = ([(0, 0, 1), (0, 0, -1), (-1, -1, -1), (-1, -1, -1)], 0, 1) := g4.gw.trans (by simp only; decide)
  simp only [Prod.mk.injEq] at e4
  obtain ⟨rfl, rfl, rfl⟩ := e4
  have hp : m' = [0, 1] := g4.path.fn ⟨rfl, by decide, by simp only; decide, rfl, by decide, by simp only; decide, by simp only [Pa]; decide⟩
  subst hp
  have ha : some a2 = some 5 := g4.adr.symm.trans (by simp only; decide)
  obtain rfl := Option.some.inj ha
  rw [o4] at hO
  simp only
  rw [hO, Option.bind_some, hH, o4, Option.bind_some, hH, o4]
  decide

theorem law_WalkObjects (y0 : Sp) (w0 : Wf spT y0) (y1 : Inc) (w1 : Wf (.pair (.int .i64) (.pair (.int .i64) (.pair (.int .i64) (.pair (.int .i64) (.int .i64))))) y1) (y2 : List Int) (w2 : Wf (.slice (.int .i64)) y2) (y3 : Int) (w3 : I64 y3) (y4 : Int) (w4 : I64 y4) (y5 : Int) (w5 : I64 y5) (y6 : Int) (w6 : I64 y6) (y7 : Int) (w7 : I64 y7) :
    Fbeltwaylaw10_WalkObjects y0 y1 y2 y3 y4 y5 y6 y7 = some true := by
  unfold Fbeltwaylaw10_WalkObjects
  rw [Small_ok, Option.bind_some]
  by_cases hs : y0.2.1.length ≤ 3000 ∧ y0.2.2.length ≤ 80
  rotate_left
  · rw [if_pos (by simp [hs]), awake_ok]; rfl
  rw [if_neg (by simp [hs])]
  obtain ⟨d, e1, hd⟩ := New0_ok y2 w2.1
  rw [e1, Option.bind_some]
  obtain ⟨s, l, d', e2, _, hm⟩ := Space_ok hd
  rw [e2, Option.bind_some]
  have hwl := VS.wlen hm.vs
  have hpick : ∃ j : Inc, (if (l.length : Int) > 0 then
      Option.bind (Fbeltwaymake_Mod y3 (l.length : Int)) (fun r5 =>
      if 0 ≤ r5 ∧ r5 < (l.length : Int) then
      some (Sum.inl (β := Bool) (((gl ((0, 0, 0, 0, 0) : Inc) l r5.toNat).1, ((gl ((0, 0, 0, 0, 0) : Inc) l r5.toNat).2).1, (((gl ((0, 0, 0, 0, 0) : Inc) l r5.toNat).2).2).1, ((((gl ((0, 0, 0, 0, 0) : Inc) l r5.toNat).2).2).2))))
      else none)
      else some (Sum.inl (y1))) = some (Sum.inl j) := by
    have hc := hm.cnt
    by_cases h : (l.length : Int) > 0
    · obtain ⟨m, em, m0, m1, _⟩ := Mod_ok y3 (m := (l.length : Int)) (by omega) (by omega)
      rw [if_pos h, em, Option.bind_some, if_pos ⟨m0, m1⟩]
      exact ⟨_, rfl⟩
    · rw [if_neg h]; exact ⟨_, rfl⟩
  obtain ⟨j, ej⟩ := hpick
  refine (congrArg (fun x => Option.bind x _) ej).trans ?_
  rw [Option.bind_some]
  simp only
  obtain ⟨m, em, m0, m1, _⟩ := Mod_ok y6 (m := 3) (by omega) (by omega)
  obtain ⟨u, e4, k1, k2, k3, k4, k5⟩ := VS.spoilt hm.vs y4 y5 y6
  obtain ⟨v, e5, n1, n2, n3, n4, n5⟩ := VS.spoilt hm.vs 3 y5 y6
  rw [em, Option.bind_some, e4, Option.bind_some, e5, Option.bind_some]
  have hall : ∀ x ∈ [s, y0, u, v], StI x ∧ x.2.1.length ≤ 100000 := by
    intro x hx
    simp only [List.mem_cons, List.not_mem_nil, or_false] at hx
    rcases hx with rfl | rfl | rfl | rfl
    · exact ⟨hm.vs.stI, by omega⟩
    · exact ⟨raw_stI w0, by omega⟩
    · exact ⟨k1.stI (by omega), by omega⟩
    · exact ⟨n1.stI (by omega), by omega⟩
  generalize w64 (j.2.2.2.2 - m) = jw
  refine loopO_run 4 (fun k hk => ?_) (by rw [if_neg (by simp), awake_ok]; rfl)
  rw [if_pos (by simp; omega), if_pos ⟨by omega, by simp; omega⟩]
  obtain ⟨hx, hxl⟩ := hall _ (gl_mem (d := ((0, [], []) : Sp)) (xs := [s, y0, u, v]) (k := (k : Int).toNat) (by simp; omega))
  generalize gl ((0, [], []) : Sp) [s, y0, u, v] (k : Int).toNat = x at hx hxl ⊢
  rw [w64_id (e := (k : Int) + 1) (by omega) (by omega)]
  refine loopO_run 3 (fun p hp => ?_) (by rw [if_neg (by simp)])
  rw [if_pos (by simp; omega), if_pos ⟨by omega, by simp; omega⟩]
  generalize gl ((0, 0, 0, 0, 0) : Inc) [y1, j, (j.1, j.2.1, j.2.2.1, j.2.2.2.1, jw)] (p : Int).toNat = i
  obtain ⟨⟨a1, a2, a3, a4⟩, ⟨b1, b2, b3⟩, hH⟩ := walk_eq hx (i.1, i.2.1, i.2.2.1, i.2.2.2)
  rw [a2, Option.bind_some, a3, Option.bind_some, b2, Option.bind_some, b3, Option.bind_some, if_neg (by simp), SameInts_refl _ (by omega), Option.bind_some, if_neg (by simp), if_neg (by simp), if_neg (by simp), if_neg (by simp)]
  obtain ⟨t, et, t0, t1, _⟩ := Mod_ok y7 (m := (x.2.1.length : Int) + 1) (by omega) (by omega)
  rw [w64_id (e := (x.2.1.length : Int) + 1) (by omega) (by omega), et, Option.bind_some, w64_id (e := (p : Int) + 1) (by omega) (by omega)]
  refine loopO_run 2 (fun c hc => ?_) (by rw [if_neg (by simp)])
  rw [if_pos (by simp; omega), if_pos ⟨by omega, by simp; omega⟩]
  obtain ⟨b, h1, h2⟩ := hH (gl (0 : Int) [y7, t] (c : Int).toNat)
  rw [h1, Option.bind_some, h2, Option.bind_some, if_neg (by simp), w64_id (e := (c : Int) + 1) (by omega) (by omega)]

theorem law_WalkWhole (y0 : List Int) (w0 : Wf (.slice (.int .i64)) y0) (y1 : Int) (w1 : I64 y1) : Fbeltwaylaw10_WalkWhole y0 y1 = some true := by
  unfold Fbeltwaylaw10_WalkWhole
  obtain ⟨d, e1, hd⟩ := New0_ok y0 w0.1
  rw [e1, Option.bind_some]
  obtain ⟨s, l, d', e2, _, hm⟩ := Space_ok hd
  rw [e2, Option.bind_some]
  have hwl := VS.wlen hm.vs
  have hc := hm.cnt
  by_cases h0 : (l.length : Int) = 0
  · rw [if_pos h0, awake_ok]; rfl
  rw [if_neg h0]
  obtain ⟨m, em, m0, m1, _⟩ := Mod_ok y1 (m := (l.length : Int)) (by omega) (by omega)
  rw [em, Option.bind_some, if_pos ⟨m0, m1⟩]
  obtain ⟨hf, hw, -, -, os, hfu⟩ := hm.fits _ (gl_mem (d := ((0, 0, 0, 0, 0) : Inc)) (xs := l) (k := m.toNat) (by omega))
  generalize gl ((0, 0, 0, 0, 0) : Inc) l m.toNat = i at *
  obtain ⟨c, hl, hcl, -⟩ := hf.has hm.vs
  obtain ⟨-, ho⟩ := full_obs hl (by omega) hfu
  have hO := pObjects_ok hm.vs hf hl
  have hL := pLive_ok hm.vs hf hl
  have hH := fun x => pHolds_ok hm.vs hf hl x
  obtain ⟨on, osum⟩ := obs_len hm.vs hf ho
  have hlook := fun o (h : o ∈ ads (sz s.1) c 0 os) => look_mem hm.vs hf hl ho h
  rw [ho] at hO hL
  have hnd : ((ads (sz s.1) c 0 os).map (·.1)).Nodup := by
    refine ob_nodup (sz_pos' s.1) ?_ (Int.le_refl 0) (by omega) ho
    rcases hl with ⟨_, rfl⟩ | ⟨_, hp⟩
    · exact List.nodup_nil
    · exact hp.nodup
  have hH' : ∀ x, Fwalk_Holds s i x = some (decide (x ∈ (ads (sz s.1) c 0 os).map (·.1))) := fun x => by rw [hH x, ho]
  clear hH
  simp only at hO hL
  have hrng : ∀ x : Int, x ∈ (ads (sz s.1) c 0 os).map (fun o : Int × Int => o.1) → 0 ≤ x ∧ x < (s.2.1.length : Int) := by
    intro x hx
    obtain ⟨o, h1, rfl⟩ := List.mem_map.1 hx
    obtain ⟨q, -, -, -, -, q1, q2⟩ := hlook o h1
    exact ⟨q1, q2⟩
  have hlen : (((ads (sz s.1) c 0 os).map (fun o : Int × Int => o.1)).length) = (ads (sz s.1) c 0 os).length := List.length_map ..
  rw [hO, Option.bind_some, hL, Option.bind_some]
  simp only
  rw [if_neg (by simp), if_neg (by simp), if_neg (by rw [hlen]; simp), if_neg (by simp)]
  clear hO hL hlook ho
  generalize (ads (sz s.1) c 0 os).map (fun o : Int × Int => o.1) = A at *
  have hA : A.length ≤ 16384 := by omega
  refine of_ex (loopO_up (fun k (st : Int × Int) => st.2 = (k : Int) - 1 ∧ st.1 = (((A.filter fun x => decide (x < (k : Int) - 1)).length : Nat) : Int)) (fun r => r = true) (s.2.1.length + 2) ?_ ?_ (s := ((0 : Int), (-1 : Int))) ⟨by simp, ?_⟩)
  · rintro k ⟨h, x⟩ hk ⟨ex, eh⟩
    simp only at ex eh ⊢
    subst ex
    have hfl : (A.filter fun x => decide (x < (k : Int) - 1)).length ≤ A.length := List.length_filter_le ..
    have hb := below_succ A ((k : Int) - 1) hnd
    rw [show (k : Int) - 1 + 1 = ((k + 1 : Nat) : Int) - 1 from by omega] at hb
    rw [if_pos (by omega), hH', Option.bind_some, w64_id (e := (k : Int) - 1 + 1) (by omega) (by omega), w64_id (e := h + 1) (by omega) (by omega)]
    by_cases hin : (k : Int) - 1 ∈ A
    · rw [if_pos (decide_eq_true hin)]
      rw [if_pos hin] at hb
      exact .inl ⟨_, rfl, by simp only; omega, by simp only; omega⟩
    · rw [if_neg (by simpa using hin)]
      rw [if_neg hin] at hb
      exact .inl ⟨_, rfl, by simp only; omega, by simp only; omega⟩
  · rintro ⟨h, x⟩ ⟨ex, eh⟩
    simp only at ex eh ⊢
    rw [if_neg (by omega)]
    refine ⟨_, ?_, rfl⟩
    have hall : (A.filter fun x => decide (x < ((s.2.1.length + 2 : Nat) : Int) - 1)) = A := by
      rw [List.filter_eq_self]
      intro x hx
      have := hrng x hx
      simp; omega
    rw [hall] at eh
    have fin : loopO (σ := Int) (β := Bool) (fun s2 => if s2 < (A.length : Int) then if 0 ≤ s2 ∧ s2 < (A.length : Int) then Option.bind (Fwalk_Holds s (i.1, i.2.1, i.2.2.1, i.2.2.2) (gl (0 : Int) A s2.toNat)) (fun r8 => if (!r8) = true then some (Sum.inr false) else some (Sum.inl (w64 (s2 + 1)))) else none else some (Sum.inr (decide (h = (A.length : Int))))) 0 = some true := by
      refine loopO_run A.length (fun k hk => ?_) ?_
      · rw [if_pos (by omega), if_pos (by omega), show (i.1, i.2.1, i.2.2.1, i.2.2.2) = i from rfl, hH', Option.bind_some, Int.toNat_natCast, if_neg (by simp [gl_mem hk]), w64_id (by omega) (by omega)]
      · rw [if_neg (by omega), decide_eq_true eh]
    exact congrArg (Option.map Sum.inr) fin
  · simp only
    rw [show (A.filter fun x => decide (x < ((0 : Nat) : Int) - 1)) = [] from by
      rw [List.filter_eq_nil_iff]
      intro x hx
      have := hrng x hx
      simp; omega]
    rfl

theorem law_WalkGrows (y0 : List Int) (w0 : Wf (.slice (.int .i64)) y0) (y1 : Int) (w1 : I64 y1) (y2 : Int) (w2 : I64 y2) (y3 : Int) (w3 : I64 y3) : Fbeltwaylaw10_WalkGrows y0 y1 y2 y3 = some true := by
  unfold Fbeltwaylaw10_WalkGrows
  obtain ⟨d, e1, hd⟩ := New0_ok y0 w0.1
  rw [e1, Option.bind_some]
  obtain ⟨s, l, d', e2, _, hm⟩ := Space_ok hd
  rw [e2, Option.bind_some]
  have hwl := VS.wlen hm.vs
  have hc := hm.cnt
  by_cases h0 : (l.length : Int) = 0
  · rw [if_pos h0, awake_ok]; rfl
  rw [if_neg h0]
  obtain ⟨m, em, m0, m1, _⟩ := Mod_ok y1 (m := (l.length : Int)) (by omega) (by omega)
  rw [em, Option.bind_some, if_pos ⟨m0, m1⟩]
  obtain ⟨hf, hw, -, -, os, hfu⟩ := hm.fits _ (gl_mem (d := ((0, 0, 0, 0, 0) : Inc)) (xs := l) (k := m.toNat) (by omega))
  generalize gl ((0, 0, 0, 0, 0) : Inc) l m.toNat = i at *
  obtain ⟨r, er, r0, r1, _⟩ := Mod_ok y2 (m := 16) (by omega) (by omega)
  obtain ⟨g, eg, g0, g1, _⟩ := Mod_ok y3 (m := 33) (by omega) (by omega)
  rw [er, Option.bind_some, eg, Option.bind_some, w64_id (e := (1 : Int) + r) (by omega) (by omega), w64_id (e := (1 : Int) + r + g) (by omega) (by omega)]
  rw [show (i.1, i.2.1, i.2.2.1, i.2.2.2) = i from rfl]
  have fail : ∀ x : Sp × Inc × Int × Int, x.2.2.2 ≠ 0 → (if ¬ x.2.2.2 = 0 then Option.bind (Fbeltwaylaw10_awake) (fun r8 => some (r8)) else some false) = some true := by
    intro x hx
    rw [if_pos hx, awake_ok]; rfl
  rcases Alloc_ok s i (1 + r + g) with ⟨_, e3⟩ | ⟨_, ⟨_, _, e3⟩ | ⟨_, ⟨_, e3⟩ | ⟨_, t, j, a, c, c', e3, gr⟩⟩⟩
  · rw [e3, Option.bind_some, if_pos (by simp), awake_ok]; rfl
  · rw [e3, Option.bind_some, if_pos (by simp), awake_ok]; rfl
  · rw [e3, Option.bind_some, if_pos (by simp), awake_ok]; rfl
  obtain ⟨u, i1, ad⟩ := add_ok hm.vs r0 (by omega) g0 (by omega) hf gr
  obtain ⟨q, o1, hu, o2⟩ := obs_grow hm.vs hf r0 (by omega) g0 (by omega) ad hfu
  obtain ⟨sf, -⟩ := ad.self hm.vs hf r0 (by omega) g0 (by omega)
  have hn1 := (obs_len hm.vs hf o1).1
  have hO1 := pObjects_ok hm.vs hf gr.has
  have hO2 := pObjects_ok ad.vs sf hu
  have hH := pHolds_ok ad.vs sf hu a
  rw [o1] at hO1
  rw [o2] at hO2 hH
  simp only at hO1 hO2 hH
  rw [e3, Option.bind_some]
  simp only
  rw [if_neg (by simp), i1, Option.bind_some, hO1, Option.bind_some]
  simp only
  rw [hO2, Option.bind_some, if_pos trivial, if_pos rfl, if_pos (by simp only [List.length_map, List.length_singleton]; omega), List.map_append,
    show List.map (fun x : Int × Int => x.1) [(a, 1 + r + g)] = [a] from rfl, SameInts_refl _ (by simp only [List.length_append, List.length_map, List.length_singleton]; omega), Option.bind_some, if_pos rfl, hH, Option.bind_some, if_pos (by simp), awake_ok]
  rfl
namespace walkObjects
open Go.ChangeShapes Go.WideShapes Go.ChangeAt Go.RowKit Go.V3
set_option linter.unusedVariables false
theorem own : ownKnob Try.prog.godebug = none := by kernel_rfl
theorem laidOut : laidOutB Try.prog = true := by kernel_rfl
set_option maxRecDepth 100000 in
theorem lifted (os : Os) (started : os.Started) (H : Type) (enc : TypeId × Value → H) :
    ReturnsInHanded {} Try.checked os 4 .any (Rows.walkObjectsSpec.pre6 enc Try.prog Try.f4 Rows.walkObjectsRow.domain false) (Rows.walkObjectsSpec.post enc Try.prog Try.f4 false true false false) := by
  refine returnsInHanded_of_change (C := Try.checked) own started (by kernel_rfl) Try.func4
    (ChangeSpec.witness6 (enc := enc) (C := Try.checked) false ⟨#[], #[.agg #[.int .i64 0, .slice none 0 0, .slice none 0 0], .agg #[.int .i64 0, .int .i64 0, .int .i64 0, .int .i64 0, .int .i64 0], .slice none 0 0, .int .i64 0, .int .i64 0, .int .i64 0, .int .i64 0, .int .i64 0], []⟩ 8 (by kernel_rfl) (by kernel_rfl) (by kernel_rfl) (by kernel_rfl)) ?_
  intro W base args ds gs before hval0 hW hcnd _
  have hT : TabW tabs W := TabW.nil W
  have hval : ∀ (j : Nat) t v, Try.f4.params[j]? = some t → args[j]? = some v → Value.okWide Try.prog W .any base t v := hval0
  have hW' := hW
  obtain ⟨p, q, hA0, hV, rfl, hfz, hnd⟩ := hW
  have hA : DataW.TrodAll enc Try.prog W 0 (fun _ => true) true Try.f4.params.toList args.toList ds p := hA0
  rw [Try.params4] at hA hval
  obtain ⟨v0, vs0, d0, ds0, p0, q0, hargs, rfl, rfl, h0, r0⟩ := trodAll_cons hA
  obtain ⟨v1, vs1, d1, ds1, p1, q1, rfl, rfl, rfl, h1, r1⟩ := trodAll_cons r0
  obtain ⟨v2, vs2, d2, ds2, p2, q2, rfl, rfl, rfl, h2, r2⟩ := trodAll_cons r1
  obtain ⟨v3, vs3, d3, ds3, p3, q3, rfl, rfl, rfl, h3, r3⟩ := trodAll_cons r2
  obtain ⟨v4, vs4, d4, ds4, p4, q4, rfl, rfl, rfl, h4, r4⟩ := trodAll_cons r3
  obtain ⟨v5, vs5, d5, ds5, p5, q5, rfl, rfl, rfl, h5, r5⟩ := trodAll_cons r4
  obtain ⟨v6, vs6, d6, ds6, p6, q6, rfl, rfl, rfl, h6, r6⟩ := trodAll_cons r5
  obtain ⟨v7, vs7, d7, ds7, p7, q7, rfl, rfl, rfl, h7, r7⟩ := trodAll_cons r6
  obtain ⟨rfl, rfl, rfl⟩ := trodAll_nil r7
  obtain rfl : args = #[v0, v1, v2, v3, v4, v5, v6, v7] := by cases args; simp_all
  obtain ⟨rfl, rfl⟩ := trodVars_none hV
  have k0 := h0
  have lt0 : ∀ x ∈ p0, x.block < W.heap.size := by obtain ⟨m, hm⟩ := k0; exact DataW.trod_lt m _ _ _ hm
  obtain ⟨y0, R0, w0⟩ := handed 40 (.pair (.int .i64) (.pair (.slice .u64) (.slice (.pair (.int .i64) (.pair (.int .i64) (.int .i64)))))) (by kernel_rfl) (hval 0 26 v0 rfl rfl) k0
  have k1 := h1
  have lt1 : ∀ x ∈ p1, x.block < W.heap.size := by obtain ⟨m, hm⟩ := k1; exact DataW.trod_lt m _ _ _ hm
  obtain ⟨y1, R1, w1⟩ := handed 40 (.pair (.int .i64) (.pair (.int .i64) (.pair (.int .i64) (.pair (.int .i64) (.int .i64))))) (by kernel_rfl) (hval 1 34 v1 rfl rfl) k1
  have k2 := h2
  have lt2 : ∀ x ∈ p2, x.block < W.heap.size := by obtain ⟨m, hm⟩ := k2; exact DataW.trod_lt m _ _ _ hm
  obtain ⟨y2, R2, w2⟩ := handed 40 (.slice (.int .i64)) (by kernel_rfl) (hval 2 22 v2 rfl rfl) k2
  have k3 := h3
  have lt3 : ∀ x ∈ p3, x.block < W.heap.size := by obtain ⟨m, hm⟩ := k3; exact DataW.trod_lt m _ _ _ hm
  obtain ⟨y3, R3, w3⟩ := handed 40 (.int .i64) (by kernel_rfl) (hval 3 3 v3 rfl rfl) k3
  have k4 := h4
  have lt4 : ∀ x ∈ p4, x.block < W.heap.size := by obtain ⟨m, hm⟩ := k4; exact DataW.trod_lt m _ _ _ hm
  obtain ⟨y4, R4, w4⟩ := handed 40 (.int .i64) (by kernel_rfl) (hval 4 3 v4 rfl rfl) k4
  have k5 := h5
  have lt5 : ∀ x ∈ p5, x.block < W.heap.size := by obtain ⟨m, hm⟩ := k5; exact DataW.trod_lt m _ _ _ hm
  obtain ⟨y5, R5, w5⟩ := handed 40 (.int .i64) (by kernel_rfl) (hval 5 3 v5 rfl rfl) k5
  have k6 := h6
  have lt6 : ∀ x ∈ p6, x.block < W.heap.size := by obtain ⟨m, hm⟩ := k6; exact DataW.trod_lt m _ _ _ hm
  obtain ⟨y6, R6, w6⟩ := handed 40 (.int .i64) (by kernel_rfl) (hval 6 3 v6 rfl rfl) k6
  have k7 := h7
  have lt7 : ∀ x ∈ p7, x.block < W.heap.size := by obtain ⟨m, hm⟩ := k7; exact DataW.trod_lt m _ _ _ hm
  obtain ⟨y7, R7, w7⟩ := handed 40 (.int .i64) (by kernel_rfl) (hval 7 3 v7 rfl rfl) k7
  have A8 := Args.nil W
  obtain ⟨m7, A7⟩ := A8.cons (t := (.int .i64)) (.inr ⟨rfl, plainForm (t := 3) rfl (hval 7 3 v7 rfl rfl)⟩) y7 R7
  obtain ⟨m6, A6⟩ := A7.cons (t := (.int .i64)) (.inr ⟨rfl, plainForm (t := 3) rfl (hval 6 3 v6 rfl rfl)⟩) y6 R6
  obtain ⟨m5, A5⟩ := A6.cons (t := (.int .i64)) (.inr ⟨rfl, plainForm (t := 3) rfl (hval 5 3 v5 rfl rfl)⟩) y5 R5
  obtain ⟨m4, A4⟩ := A5.cons (t := (.int .i64)) (.inr ⟨rfl, plainForm (t := 3) rfl (hval 4 3 v4 rfl rfl)⟩) y4 R4
  obtain ⟨m3, A3⟩ := A4.cons (t := (.int .i64)) (.inr ⟨rfl, plainForm (t := 3) rfl (hval 3 3 v3 rfl rfl)⟩) y3 R3
  obtain ⟨m2, A2⟩ := A3.cons (t := (.slice (.int .i64))) (.inr ⟨rfl, plainForm (t := 22) rfl (hval 2 22 v2 rfl rfl)⟩) y2 R2
  obtain ⟨m1, A1⟩ := A2.cons (t := (.pair (.int .i64) (.pair (.int .i64) (.pair (.int .i64) (.pair (.int .i64) (.int .i64)))))) (.inl ⟨rfl, aggForm (t := 34) rfl (hval 1 34 v1 rfl rfl)⟩) y1 R1
  obtain ⟨m0, A0⟩ := A1.cons (t := (.pair (.int .i64) (.pair (.slice .u64) (.slice (.pair (.int .i64) (.pair (.int .i64) (.int .i64))))))) (.inl ⟨rfl, aggForm (t := 26) rfl (hval 0 26 v0 rfl rfl)⟩) y0 R0
  refine (law_args (fi := iFbeltwaylaw10_WalkObjects) okFbeltwaylaw10_WalkObjects hT (r := (true : Bool)) (vals := #[v0, v1, v2, v3, v4, v5, v6, v7]) (w := W) A0 (law_WalkObjects y0 w0 y1 w1 y2 w2 y3 (i64_of_wf w3) y4 (i64_of_wf w4) y5 (i64_of_wf w5) y6 (i64_of_wf w6) y7 (i64_of_wf w7)) (fun _ => rfl)).mono fun e W' ⟨he, bel⟩ => ?_
  subst he
  simp only [List.append_nil] at hW'
  exact ⟨_, rfl, _, _, _, [], _, [], hW', trodAll_mk1 (shut_bool Try.underlying4 _), (trodAll_cons_mk (Below.trod laidOut (by kernel_rfl) (of_decide_eq_true (by kernel_rfl)) k0 bel lt0) (trodAll_cons_mk (Below.trod laidOut (by kernel_rfl) (of_decide_eq_true (by kernel_rfl)) k1 bel lt1) (trodAll_cons_mk (Below.trod laidOut (by kernel_rfl) (of_decide_eq_true (by kernel_rfl)) k2 bel lt2) (trodAll_cons_mk (Below.trod laidOut (by kernel_rfl) (of_decide_eq_true (by kernel_rfl)) k3 bel lt3) (trodAll_cons_mk (Below.trod laidOut (by kernel_rfl) (of_decide_eq_true (by kernel_rfl)) k4 bel lt4) (trodAll_cons_mk (Below.trod laidOut (by kernel_rfl) (of_decide_eq_true (by kernel_rfl)) k5 bel lt5) (trodAll_cons_mk (Below.trod laidOut (by kernel_rfl) (of_decide_eq_true (by kernel_rfl)) k6 bel lt6) (trodAll_cons_mk (Below.trod laidOut (by kernel_rfl) (of_decide_eq_true (by kernel_rfl)) k7 bel lt7) trodAll_mk0)))))))), rfl, bel.frame _, fun h => by cases h⟩
theorem proved : Rows.WalkObjectsSaid :=
  OpenClaim.holds_of_wide 4 Try.f4 rfl rfl rfl rfl rfl rfl rfl ⟨rfl, rfl, rfl, rfl, rfl⟩ rfl rfl rfl rfl rfl (by kernel_rfl) Try.func4 (by kernel_rfl)
    (of_decide_eq_true (by kernel_rfl)) (by unfold Func.isWrapper; first | (rw [if_pos (by decide +kernel)]; kernel_rfl) | (rw [if_neg (by decide +kernel)]; exact ⟨rfl, rfl⟩))
    (fun os started H enc _ => lifted os started H enc)
end walkObjects
namespace walkWhole
open Go.ChangeShapes Go.WideShapes Go.ChangeAt Go.RowKit Go.V3
set_option linter.unusedVariables false
theorem own : ownKnob Try.prog.godebug = none := by kernel_rfl
theorem laidOut : laidOutB Try.prog = true := by kernel_rfl
set_option maxRecDepth 100000 in
theorem lifted (os : Os) (started : os.Started) (H : Type) (enc : TypeId × Value → H) :
    ReturnsInHanded {} Try.checked os 5 .any (Rows.walkWholeSpec.pre6 enc Try.prog Try.f5 Rows.walkWholeRow.domain false) (Rows.walkWholeSpec.post enc Try.prog Try.f5 false true false false) := by
  refine returnsInHanded_of_change (C := Try.checked) own started (by kernel_rfl) Try.func5
    (ChangeSpec.witness6 (enc := enc) (C := Try.checked) false ⟨#[], #[.slice none 0 0, .int .i64 0], []⟩ 8 (by kernel_rfl) (by kernel_rfl) (by kernel_rfl) (by kernel_rfl)) ?_
  intro W base args ds gs before hval0 hW hcnd _
  have hT : TabW tabs W := TabW.nil W
  have hval : ∀ (j : Nat) t v, Try.f5.params[j]? = some t → args[j]? = some v → Value.okWide Try.prog W .any base t v := hval0
  have hW' := hW
  obtain ⟨p, q, hA0, hV, rfl, hfz, hnd⟩ := hW
  have hA : DataW.TrodAll enc Try.prog W 0 (fun _ => true) true Try.f5.params.toList args.toList ds p := hA0
  rw [Try.params5] at hA hval
  obtain ⟨v0, vs0, d0, ds0, p0, q0, hargs, rfl, rfl, h0, r0⟩ := trodAll_cons hA
  obtain ⟨v1, vs1, d1, ds1, p1, q1, rfl, rfl, rfl, h1, r1⟩ := trodAll_cons r0
  obtain ⟨rfl, rfl, rfl⟩ := trodAll_nil r1
  obtain rfl : args = #[v0, v1] := by cases args; simp_all
  obtain ⟨rfl, rfl⟩ := trodVars_none hV
  have k0 := h0
  have lt0 : ∀ x ∈ p0, x.block < W.heap.size := by obtain ⟨m, hm⟩ := k0; exact DataW.trod_lt m _ _ _ hm
  obtain ⟨y0, R0, w0⟩ := handed 40 (.slice (.int .i64)) (by kernel_rfl) (hval 0 22 v0 rfl rfl) k0
  have k1 := h1
  have lt1 : ∀ x ∈ p1, x.block < W.heap.size := by obtain ⟨m, hm⟩ := k1; exact DataW.trod_lt m _ _ _ hm
  obtain ⟨y1, R1, w1⟩ := handed 40 (.int .i64) (by kernel_rfl) (hval 1 3 v1 rfl rfl) k1
  have A2 := Args.nil W
  obtain ⟨m1, A1⟩ := A2.cons (t := (.int .i64)) (.inr ⟨rfl, plainForm (t := 3) rfl (hval 1 3 v1 rfl rfl)⟩) y1 R1
  obtain ⟨m0, A0⟩ := A1.cons (t := (.slice (.int .i64))) (.inr ⟨rfl, plainForm (t := 22) rfl (hval 0 22 v0 rfl rfl)⟩) y0 R0
  refine (law_args (fi := iFbeltwaylaw10_WalkWhole) okFbeltwaylaw10_WalkWhole hT (r := (true : Bool)) (vals := #[v0, v1]) (w := W) A0 (law_WalkWhole y0 w0 y1 (i64_of_wf w1)) (fun _ => rfl)).mono fun e W' ⟨he, bel⟩ => ?_
  subst he
  simp only [List.append_nil] at hW'
  exact ⟨_, rfl, _, _, _, [], _, [], hW', trodAll_mk1 (shut_bool Try.underlying4 _), (trodAll_cons_mk (Below.trod laidOut (by kernel_rfl) (of_decide_eq_true (by kernel_rfl)) k0 bel lt0) (trodAll_cons_mk (Below.trod laidOut (by kernel_rfl) (of_decide_eq_true (by kernel_rfl)) k1 bel lt1) trodAll_mk0)), rfl, bel.frame _, fun h => by cases h⟩
theorem proved : Rows.WalkWholeSaid :=
  OpenClaim.holds_of_wide 5 Try.f5 rfl rfl rfl rfl rfl rfl rfl ⟨rfl, rfl, rfl, rfl, rfl⟩ rfl rfl rfl rfl rfl (by kernel_rfl) Try.func5 (by kernel_rfl)
    (of_decide_eq_true (by kernel_rfl)) (by unfold Func.isWrapper; first | (rw [if_pos (by decide +kernel)]; kernel_rfl) | (rw [if_neg (by decide +kernel)]; exact ⟨rfl, rfl⟩))
    (fun os started H enc _ => lifted os started H enc)
end walkWhole
namespace walkGrows
open Go.ChangeShapes Go.WideShapes Go.ChangeAt Go.RowKit Go.V3
set_option linter.unusedVariables false
theorem own : ownKnob Try.prog.godebug = none := by kernel_rfl
theorem laidOut : laidOutB Try.prog = true := by kernel_rfl
set_option maxRecDepth 100000 in
theorem lifted (os : Os) (started : os.Started) (H : Type) (enc : TypeId × Value → H) :
    ReturnsInHanded {} Try.checked os 3 .any (Rows.walkGrowsSpec.pre6 enc Try.prog Try.f3 Rows.walkGrowsRow.domain false) (Rows.walkGrowsSpec.post enc Try.prog Try.f3 false true false false) := by
  refine returnsInHanded_of_change (C := Try.checked) own started (by kernel_rfl) Try.func3
    (ChangeSpec.witness6 (enc := enc) (C := Try.checked) false ⟨#[], #[.slice none 0 0, .int .i64 0, .int .i64 0, .int .i64 0], []⟩ 8 (by kernel_rfl) (by kernel_rfl) (by kernel_rfl) (by kernel_rfl)) ?_
  intro W base args ds gs before hval0 hW hcnd _
  have hT : TabW tabs W := TabW.nil W
  have hval : ∀ (j : Nat) t v, Try.f3.params[j]? = some t → args[j]? = some v → Value.okWide Try.prog W .any base t v := hval0
  have hW' := hW
  obtain ⟨p, q, hA0, hV, rfl, hfz, hnd⟩ := hW
  have hA : DataW.TrodAll enc Try.prog W 0 (fun _ => true) true Try.f3.params.toList args.toList ds p := hA0
  rw [Try.params3] at hA hval
  obtain ⟨v0, vs0, d0, ds0, p0, q0, hargs, rfl, rfl, h0, r0⟩ := trodAll_cons hA
  obtain ⟨v1, vs1, d1, ds1, p1, q1, rfl, rfl, rfl, h1, r1⟩ := trodAll_cons r0
  obtain ⟨v2, vs2, d2, ds2, p2, q2, rfl, rfl, rfl, h2, r2⟩ := trodAll_cons r1
  obtain ⟨v3, vs3, d3, ds3, p3, q3, rfl, rfl, rfl, h3, r3⟩ := trodAll_cons r2
  obtain ⟨rfl, rfl, rfl⟩ := trodAll_nil r3
  obtain rfl : args = #[v0, v1, v2, v3] := by cases args; simp_all
  obtain ⟨rfl, rfl⟩ := trodVars_none hV
  have k0 := h0
  have lt0 : ∀ x ∈ p0, x.block < W.heap.size := by obtain ⟨m, hm⟩ := k0; exact DataW.trod_lt m _ _ _ hm
  obtain ⟨y0, R0, w0⟩ := handed 40 (.slice (.int .i64)) (by kernel_rfl) (hval 0 22 v0 rfl rfl) k0
  have k1 := h1
  have lt1 : ∀ x ∈ p1, x.block < W.heap.size := by obtain ⟨m, hm⟩ := k1; exact DataW.trod_lt m _ _ _ hm
  obtain ⟨y1, R1, w1⟩ := handed 40 (.int .i64) (by kernel_rfl) (hval 1 3 v1 rfl rfl) k1
  have k2 := h2
  have lt2 : ∀ x ∈ p2, x.block < W.heap.size := by obtain ⟨m, hm⟩ := k2; exact DataW.trod_lt m _ _ _ hm
  obtain ⟨y2, R2, w2⟩ := handed 40 (.int .i64) (by kernel_rfl) (hval 2 3 v2 rfl rfl) k2
  have k3 := h3
  have lt3 : ∀ x ∈ p3, x.block < W.heap.size := by obtain ⟨m, hm⟩ := k3; exact DataW.trod_lt m _ _ _ hm
  obtain ⟨y3, R3, w3⟩ := handed 40 (.int .i64) (by kernel_rfl) (hval 3 3 v3 rfl rfl) k3
  have A4 := Args.nil W
  obtain ⟨m3, A3⟩ := A4.cons (t := (.int .i64)) (.inr ⟨rfl, plainForm (t := 3) rfl (hval 3 3 v3 rfl rfl)⟩) y3 R3
  obtain ⟨m2, A2⟩ := A3.cons (t := (.int .i64)) (.inr ⟨rfl, plainForm (t := 3) rfl (hval 2 3 v2 rfl rfl)⟩) y2 R2
  obtain ⟨m1, A1⟩ := A2.cons (t := (.int .i64)) (.inr ⟨rfl, plainForm (t := 3) rfl (hval 1 3 v1 rfl rfl)⟩) y1 R1
  obtain ⟨m0, A0⟩ := A1.cons (t := (.slice (.int .i64))) (.inr ⟨rfl, plainForm (t := 22) rfl (hval 0 22 v0 rfl rfl)⟩) y0 R0
  refine (law_args (fi := iFbeltwaylaw10_WalkGrows) okFbeltwaylaw10_WalkGrows hT (r := (true : Bool)) (vals := #[v0, v1, v2, v3]) (w := W) A0 (law_WalkGrows y0 w0 y1 (i64_of_wf w1) y2 (i64_of_wf w2) y3 (i64_of_wf w3)) (fun _ => rfl)).mono fun e W' ⟨he, bel⟩ => ?_
  subst he
  simp only [List.append_nil] at hW'
  exact ⟨_, rfl, _, _, _, [], _, [], hW', trodAll_mk1 (shut_bool Try.underlying4 _), (trodAll_cons_mk (Below.trod laidOut (by kernel_rfl) (of_decide_eq_true (by kernel_rfl)) k0 bel lt0) (trodAll_cons_mk (Below.trod laidOut (by kernel_rfl) (of_decide_eq_true (by kernel_rfl)) k1 bel lt1) (trodAll_cons_mk (Below.trod laidOut (by kernel_rfl) (of_decide_eq_true (by kernel_rfl)) k2 bel lt2) (trodAll_cons_mk (Below.trod laidOut (by kernel_rfl) (of_decide_eq_true (by kernel_rfl)) k3 bel lt3) trodAll_mk0)))), rfl, bel.frame _, fun h => by cases h⟩
theorem proved : Rows.WalkGrowsSaid :=
  OpenClaim.holds_of_wide 3 Try.f3 rfl rfl rfl rfl rfl rfl rfl ⟨rfl, rfl, rfl, rfl, rfl⟩ rfl rfl rfl rfl rfl (by kernel_rfl) Try.func3 (by kernel_rfl)
    (of_decide_eq_true (by kernel_rfl)) (by unfold Func.isWrapper; first | (rw [if_pos (by decide +kernel)]; kernel_rfl) | (rw [if_neg (by decide +kernel)]; exact ⟨rfl, rfl⟩))
    (fun os started H enc _ => lifted os started H enc)
end walkGrows
end Go.Proofs.Ytjdlaikcdebofaa
