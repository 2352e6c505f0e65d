/-
  Objects of increments that are full of objects; how they grow (for other seats).
-/
import Derived.Test.YtokeceeccmgcmaaDoorWlkB
set_option linter.unusedVariables false
namespace Go.Proofs.YtokeceeccmgcmaaDoor
open Go Go.V3

/-- The addresses and words of tiles. -/
def ads (z : Int) (l : List Int) : Int → List (Int × Int) → List (Int × Int)
  | _, [] => []
  | at', o :: r => ((adl z l at').getD 0, 1 + o.1 + o.2) :: ads z l (at' + (1 + o.1 + o.2)) r
theorem tiles_ob {z : Int} {ws : List (BitVec 64)} {l : List Int} {W : Int} : ∀ {os : List (Int × Int)} {at' : Int} {n : Nat}, Tiles z ws l at' os W → W - at' ≤ n → ob z W ws l n at' = some (ads z l at' os)
  | [], at', n, h, hn => by
    rw [Tiles] at h
    subst h
    cases n <;> (unfold ob; rw [if_neg (by omega)]; rfl)
  | o :: r, at', n, h, hn => by
    obtain ⟨⟨⟨r0, r1⟩, d0, d1⟩, ⟨a, h2, h3⟩, h4⟩ := h
    have hle := h4.le
    cases n with
    | zero => omega
    | succ n =>
      unfold ob
      rw [if_pos (by omega), h2]
      simp only
      rw [h3, hd_hdr r0 r1 d0 d1]
      simp only
      rw [if_neg (by omega), tiles_ob h4 (by omega), Option.map_some]
      simp only [ads, h2, Option.getD_some]
theorem ads_congr {z : Int} {ws : List (BitVec 64)} {l l' : List Int} {W : Int} (hl : ∀ p a, adl z l p = some a → adl z l' p = some a) : ∀ {os : List (Int × Int)} {at' : Int}, Tiles z ws l at' os W → ads z l' at' os = ads z l at' os
  | [], _, _ => rfl
  | o :: r, at', h => by
    obtain ⟨_, ⟨a, h2, _⟩, h4⟩ := h
    simp only [ads]
    rw [ads_congr hl h4, h2, hl _ _ h2]
theorem ads_snoc {z : Int} {ws : List (BitVec 64)} {l l' : List Int} {W : Int} (x : Int × Int) : ∀ {os : List (Int × Int)} {at' : Int}, Tiles z ws l at' os W → ads z l' at' (os ++ [x]) = ads z l' at' os ++ [((adl z l' W).getD 0, 1 + x.1 + x.2)]
  | [], at', h => by rw [Tiles] at h; subst h; rfl
  | o :: r, at', h => by
    simp only [ads, List.cons_append]
    rw [ads_snoc x h.2.2]
theorem has_fn {s : Sp} {i : Inc} {l l' : List Int} (h : Has s i l) (h' : Has s i l') : l = l' := by
  rcases h with ⟨h1, rfl⟩ | ⟨h1, h2⟩ <;> rcases h' with ⟨h3, rfl⟩ | ⟨h3, h4⟩
  · rfl
  · exact absurd h1 h3
  · exact absurd h3 h1
  · exact h2.fn h4
theorem full_obs {s : Sp} {i : Inc} {l : List Int} (hl : Has s i l) (hw : 0 ≤ i.2.2.2.2) {os : List (Int × Int)} (h : Full s i os) : Tiles (sz s.1) s.2.1 l 0 os i.2.2.2.2 ∧ obs s i l = some (ads (sz s.1) l 0 os) := by
  obtain ⟨l', h1, h2⟩ := h
  obtain rfl := has_fn hl h1
  exact ⟨h2, tiles_ob h2 (by omega)⟩
/-- An object more. -/
theorem obs_grow {s : Sp} {i : Inc} {r d : Int} {u : Sp} {j : Inc} {a : Int} {l l' : List Int} (h : VS s) (hi : FitS s i) (r0 : 0 ≤ r) (r1 : r ≤ 15) (d0 : 0 ≤ d) (d1 : d ≤ 32) (g : Added s i r d u j a l l') {os : List (Int × Int)} (hf : Full s i os) :
    ∃ q, obs s i l = some q ∧ Has u j l' ∧ obs u j l' = some (q ++ [(a, 1 + r + d)]) := by
  obtain ⟨⟨_, _, _, _, w0, w1⟩, _⟩ := id hi
  obtain ⟨h1, h2⟩ := full_obs g.grown.has w0 hf
  obtain ⟨s1, s2⟩ := g.self h hi r0 r1 d0 d1
  have hw := g.grown.words
  have hu : Has u j l' := .inr ⟨by omega, g.grown.path⟩
  obtain ⟨h3, h4⟩ := full_obs hu (by omega) (s2 os hf)
  refine ⟨_, h2, hu, ?_⟩
  rw [h4, g.sh, ads_snoc (r, d) h1, ads_congr (fun p a ha => ?_) h1, g.grown.adr]
  · rfl
  · rw [g.grown.more]; exact adl_append ha
theorem ob_nodup {z W : Int} (hz : 0 < z) {ws : List (BitVec 64)} {l : List Int} (hl : l.Nodup) : ∀ {n : Nat} {at' : Int} {os : List (Int × Int)}, 0 ≤ at' → at' ≤ W → ob z W ws l n at' = some os → (os.map (·.1)).Nodup
  | 0, at', os, h0, h1, h => by
    unfold ob at h
    split at h
    · cases h
    · simp only [Option.some.injEq] at h; subst h; exact List.nodup_nil
  | n + 1, at', os, h0, h1, h => by
    unfold ob at h
    split at h
    rotate_left
    · simp only [Option.some.injEq] at h; subst h; exact List.nodup_nil
    split at h
    · cases h
    rename_i a ha
    split at h
    · cases h
    rename_i o ho
    have hr := hd_rng ho
    split at h
    · cases h
    cases hq : ob z W ws l n (at' + (1 + o.1 + o.2)) with
    | none => rw [hq] at h; cases h
    | some q =>
      rw [hq] at h
      simp only [Option.map_some, Option.some.injEq] at h
      subst h
      rw [List.map_cons, List.nodup_cons]
      refine ⟨fun hm => ?_, ob_nodup hz hl (by omega) (by omega) hq⟩
      obtain ⟨x, hx, he⟩ := List.mem_map.1 hm
      simp only at he
      obtain ⟨p, q', p1, p2, -⟩ := (ob_mem (by omega) (by omega) hq).1 x hx
      rw [he] at p2
      have := adl_inj hz hl (by omega) h0 p2 ha
      omega
end Go.Proofs.YtokeceeccmgcmaaDoor
