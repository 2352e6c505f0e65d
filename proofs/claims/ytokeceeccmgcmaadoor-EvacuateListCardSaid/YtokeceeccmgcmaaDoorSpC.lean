/-
  Plain laws of spaces: free frames, how frames are taken and linked, places in a chain.
-/
import Derived.Test.YtokeceeccmgcmaaDoorSpA
set_option linter.unusedVariables false
namespace Go.V3
open Go

theorem Pa.congr {fs fs' : List Fr} (hl : fs'.length = fs.length) (hn : ∀ i : Int, 0 ≤ i → i < fs.length → nx fs' i = nx fs i) : ∀ {l : List Int} {i : Int}, Pa fs i l → Pa fs' i l
  | [], _, h => h
  | a :: r, i, h => by
    obtain ⟨rfl, h0, h1, h2⟩ := h
    exact ⟨rfl, h0, by omega, by rw [hn i h0 h1]; exact Pa.congr hl hn h2⟩
theorem Pa.congr' {fs fs' : List Fr} (hl : fs'.length = fs.length) : ∀ {l : List Int} {i : Int}, (∀ i ∈ l, nx fs' i = nx fs i) → Pa fs i l → Pa fs' i l
  | [], _, _, h => h
  | a :: r, i, hn, h => by
    obtain ⟨rfl, h0, h1, h2⟩ := h
    exact ⟨rfl, h0, by omega, by rw [hn i (by simp)]; exact Pa.congr' hl (fun j hj => hn j (by simp [hj])) h2⟩
/-- A path that is led on. -/
theorem Pa.link {fs fs' : List Fr} (hl : fs'.length = fs.length) {last f : Int} {lf : List Int} (hn : ∀ i : Int, 0 ≤ i → i < fs.length → i ≠ last → nx fs' i = nx fs i) (h0 : nx fs last = -1) (h1 : nx fs' last = f) (hf : Pa fs f lf) (hx : last ∉ lf) :
    ∀ {l : List Int} {i : Int}, Pa fs i l → Pa fs' i (if last ∈ l then l ++ lf else l) := by
  have hf' : Pa fs' f lf := hf.congr' hl fun i hi => hn i (hf.mem hi).1 (hf.mem hi).2 (fun e => hx (e ▸ hi))
  intro l
  induction l with
  | nil => intro i h; rw [if_neg (by simp)]; exact h
  | cons a r ih =>
    intro i h
    obtain ⟨rfl, g0, g1, g2⟩ := h
    by_cases ha : i = last
    · subst ha
      rw [h0] at g2
      have hr : r = [] := by
        cases r with
        | nil => rfl
        | cons b r => obtain ⟨e, g3, _⟩ := g2; omega
      subst hr
      rw [if_pos (by simp)]
      exact ⟨rfl, g0, by omega, by rw [h1]; exact hf'⟩
    · have := ih g2
      by_cases hm : last ∈ r
      · rw [if_pos hm] at this
        rw [if_pos (by simp [hm])]
        exact ⟨rfl, g0, by omega, by rw [hn i g0 g1 ha]; exact this⟩
      · rw [if_neg hm] at this
        rw [if_neg (by simp only [List.mem_cons, not_or]; exact ⟨fun e => ha e.symm, hm⟩)]
        exact ⟨rfl, g0, by omega, by rw [hn i g0 g1 ha]; exact this⟩

/-- The numbers below n. -/
def rangeI (n : Nat) : List Int := (List.range n).map fun k : Nat => (k : Int)
theorem rangeI_succ (n : Nat) : rangeI (n + 1) = rangeI n ++ [(n : Int)] := by simp [rangeI, List.range_succ]
theorem mem_rangeI {n : Nat} {i : Int} : i ∈ rangeI n ↔ 0 ≤ i ∧ i < n := by
  simp only [rangeI, List.mem_map, List.mem_range]
  constructor
  · rintro ⟨k, hk, rfl⟩; omega
  · rintro ⟨h0, h1⟩; exact ⟨i.toNat, by omega, by omega⟩
theorem rangeI_length (n : Nat) : (rangeI n).length = n := by simp [rangeI]
theorem rangeI_pw (n : Nat) : (rangeI n).Pairwise (· < ·) := by
  induction n with
  | zero => simp [rangeI]
  | succ n ih =>
    rw [rangeI_succ, List.pairwise_append]
    refine ⟨ih, by simp, fun a ha b hb => ?_⟩
    have := mem_rangeI.1 ha
    simp at hb; omega

/-- The frames with an owner, in order. -/
def owned (fs : List Fr) (q : Int) : List Int := (rangeI fs.length).filter fun i => decide ((fr fs i).1 = q)
def frees (fs : List Fr) : List Int := owned fs (-1)
theorem mem_owned {fs : List Fr} {q i : Int} : i ∈ owned fs q ↔ (0 ≤ i ∧ i < fs.length) ∧ (fr fs i).1 = q := by
  simp [owned, mem_rangeI]
theorem owned_pw (fs : List Fr) (q : Int) : (owned fs q).Pairwise (· < ·) := (rangeI_pw _).filter _
theorem owned_nodup (fs : List Fr) (q : Int) : (owned fs q).Nodup := (owned_pw fs q).imp fun h => by omega
theorem owned_len (fs : List Fr) (q : Int) : (owned fs q).length ≤ fs.length := by
  have := List.length_filter_le (fun i => decide ((fr fs i).1 = q)) (rangeI fs.length)
  rw [rangeI_length] at this
  exact this
/-- Two ascending lists with the same members are one. -/
theorem pw_ext : ∀ {l l' : List Int}, l.Pairwise (· < ·) → l'.Pairwise (· < ·) → (∀ x, x ∈ l ↔ x ∈ l') → l = l'
  | [], [], _, _, _ => rfl
  | [], b :: r', _, _, h => absurd ((h b).2 (by simp)) (by simp)
  | a :: r, [], _, _, h => absurd ((h a).1 (by simp)) (by simp)
  | a :: r, b :: r', p, p', h => by
    have hab : a = b := by
      have h1 := (h a).1 (by simp)
      have h2 := (h b).2 (by simp)
      rcases List.mem_cons.1 h1 with h3 | h3
      · exact h3
      · rcases List.mem_cons.1 h2 with h4 | h4
        · exact h4.symm
        · have := (List.pairwise_cons.1 p).1 b h4
          have := (List.pairwise_cons.1 p').1 a h3
          omega
    subst hab
    rw [pw_ext (List.pairwise_cons.1 p).2 (List.pairwise_cons.1 p').2 fun x => ?_]
    have hx := h x
    simp only [List.mem_cons] at hx
    constructor
    · intro hm
      rcases hx.1 (.inr hm) with rfl | h5
      · exact absurd ((List.pairwise_cons.1 p).1 x hm) (by omega)
      · exact h5
    · intro hm
      rcases hx.2 (.inr hm) with rfl | h5
      · exact absurd ((List.pairwise_cons.1 p').1 x hm) (by omega)
      · exact h5
theorem frees_cons {fs : List Fr} {f : Int} {r : List Int} (h : frees fs = f :: r) : (0 ≤ f ∧ f < fs.length) ∧ (fr fs f).1 = -1 ∧ ∀ j : Int, 0 ≤ j → j < f → (fr fs j).1 ≠ -1 := by
  have hm : f ∈ frees fs := by rw [h]; simp
  obtain ⟨h1, h2⟩ := mem_owned.1 hm
  refine ⟨h1, h2, fun j h0 hj he => ?_⟩
  have hj' : j ∈ frees fs := mem_owned.2 ⟨⟨h0, by omega⟩, he⟩
  have hp := owned_pw fs (-1)
  rw [h] at hj'
  rw [show owned fs (-1) = f :: r from h] at hp
  rcases List.mem_cons.1 hj' with h3 | h3
  · omega
  · have := (List.pairwise_cons.1 hp).1 j h3; omega

/-- A frame that gets an owner. -/
theorem owned_take {fs : List Fr} {f o st : Int} {r : List Int} (h : frees fs = f :: r) (ho : o ≠ -1) :
    frees (fs.set f.toNat (o, st, -1)) = r ∧ (owned (fs.set f.toNat (o, st, -1)) o).length = (owned fs o).length + 1 ∧ ∀ q, q ≠ o → q ≠ -1 → owned (fs.set f.toNat (o, st, -1)) q = owned fs q := by
  obtain ⟨⟨h0, h1⟩, h2, h3⟩ := frees_cons h
  have hm : ∀ q i, i ∈ owned (fs.set f.toNat (o, st, -1)) q ↔ (0 ≤ i ∧ i < fs.length) ∧ (if i = f then o else (fr fs i).1) = q := by
    intro q i
    rw [mem_owned, List.length_set]
    refine and_congr_right fun hi => ?_
    rw [fr_set h0 h1 hi.1]
    split <;> rfl
  have hnd := owned_pw fs (-1)
  rw [show owned fs (-1) = f :: r from h] at hnd
  refine ⟨pw_ext (owned_pw _ _) (List.pairwise_cons.1 hnd).2 fun x => ?_, ?_, fun q h4 h5 => pw_ext (owned_pw _ _) (owned_pw _ _) fun x => ?_⟩
  · show x ∈ owned _ _ ↔ _
    rw [hm]
    have hx : x ∈ owned fs (-1) ↔ _ := mem_owned
    rw [show owned fs (-1) = f :: r from h] at hx
    simp only [List.mem_cons] at hx
    have hlt := (List.pairwise_cons.1 hnd).1
    constructor
    · rintro ⟨h6, h7⟩
      by_cases hxf : x = f
      · rw [if_pos hxf] at h7; exact absurd h7 ho
      · rw [if_neg hxf] at h7
        rcases hx.2 ⟨h6, h7⟩ with h8 | h8
        · exact absurd h8 hxf
        · exact h8
    · intro h6
      have h7 := hx.1 (.inr h6)
      have := hlt x h6
      exact ⟨h7.1, by rw [if_neg (by omega)]; exact h7.2⟩
  · have hp : (owned (fs.set f.toNat (o, st, -1)) o).Perm (f :: owned fs o) := by
      rw [List.perm_ext_iff_of_nodup (owned_nodup _ _) (List.nodup_cons.2 ⟨fun hf => by have := (mem_owned.1 hf).2; omega, owned_nodup _ _⟩)]
      intro x
      rw [hm, List.mem_cons, mem_owned]
      by_cases hxf : x = f
      · subst hxf; simp [h0, h1]
      · simp [hxf]
    rw [hp.length_eq, List.length_cons]
  · rw [hm, mem_owned]
    refine and_congr_right fun hi => ?_
    by_cases hxf : x = f
    · rw [if_pos hxf, hxf, h2]; constructor <;> intro h6 <;> omega
    · rw [if_neg hxf]
theorem owned_next {fs : List Fr} {a : Int} {x : Fr} (h0 : 0 ≤ a) (h1 : a < fs.length) (hx : x.1 = (fr fs a).1) (q : Int) : owned (fs.set a.toNat x) q = owned fs q := by
  refine pw_ext (owned_pw _ _) (owned_pw _ _) fun i => ?_
  rw [mem_owned, mem_owned, List.length_set]
  refine and_congr_right fun hi => ?_
  rw [fr_set h0 h1 hi.1]
  split
  · rename_i h; rw [h, hx]
  · rfl

/-- Where a place of a chain lies. -/
def adl (z : Int) : List Int → Int → Option Int
  | [], _ => none
  | g :: r, off => if off < z then some (g * z + off) else adl z r (off - z)
theorem adl_some {z : Int} (hz : 0 < z) : ∀ {l : List Int} {off : Int}, 0 ≤ off → off < l.length * z → ∃ g, l[(off / z).toNat]? = some g ∧ adl z l off = some (g * z + off % z)
  | [], off, h0, h1 => by simp at h1; omega
  | g :: r, off, h0, h1 => by
    rw [adl]
    by_cases h : off < z
    · rw [if_pos h, Int.ediv_eq_zero_of_lt h0 h, Int.emod_eq_of_lt h0 h]
      exact ⟨g, rfl, rfl⟩
    · rw [if_neg h]
      have h2 : off < ((r.length : Int) + 1) * z := by simpa using h1
      rw [Int.add_mul, Int.one_mul] at h2
      obtain ⟨g', h3, h4⟩ := adl_some hz (l := r) (off := off - z) (by omega) (by omega)
      have e : (off - z) / z = off / z - 1 := by rw [Int.sub_ediv_of_dvd _ ⟨1, (Int.mul_one z).symm⟩, Int.ediv_self (by omega)]
      have e2 : (off - z) % z = off % z := by rw [Int.sub_emod, Int.emod_self, Int.sub_zero, Int.emod_emod]
      have hp : 1 ≤ off / z := by rw [Int.le_ediv_iff_mul_le hz]; omega
      rw [e] at h3
      rw [e2] at h4
      refine ⟨g', ?_, h4⟩
      rw [show (off / z).toNat = (off / z - 1).toNat + 1 from by omega, List.getElem?_cons_succ]
      exact h3
theorem adl_none {z : Int} (hz : 0 < z) : ∀ {l : List Int} {off : Int}, 0 ≤ off → (l.length : Int) * z ≤ off → adl z l off = none
  | [], _, _, _ => rfl
  | g :: r, off, h0, h1 => by
    have h2 : ((r.length : Int) + 1) * z ≤ off := by simpa using h1
    rw [Int.add_mul, Int.one_mul] at h2
    have h3 : 0 ≤ (r.length : Int) * z := Int.mul_nonneg (by omega) (by omega)
    rw [adl, if_neg (by omega)]
    exact adl_none hz (by omega) (by omega)
theorem adl_lt {z : Int} (hz : 0 < z) {l : List Int} {off a : Int} (h0 : 0 ≤ off) (h : adl z l off = some a) : off < l.length * z := by
  rcases Int.lt_or_le off (l.length * z) with h1 | h1
  · exact h1
  · rw [adl_none hz h0 h1] at h; cases h
theorem adl_append {z : Int} : ∀ {l l' : List Int} {off a : Int}, adl z l off = some a → adl z (l ++ l') off = some a
  | [], _, _, _, h => by cases h
  | g :: r, l', off, a, h => by
    rw [List.cons_append]
    rw [adl] at h ⊢
    split
    · rename_i h1; rw [if_pos h1] at h; exact h
    · rename_i h1; rw [if_neg h1] at h; exact adl_append h
theorem ediv_lt_iff {z : Int} (hz : 0 < z) {off n : Int} : off / z < n ↔ off < n * z := Int.ediv_lt_iff_lt_mul hz
theorem addr_frame {z : Int} (hz : 0 < z) {g o : Int} (h0 : 0 ≤ o) (h1 : o < z) : (g * z + o) / z = g ∧ (g * z + o) % z = o := by
  constructor
  · rw [Int.add_comm, Int.add_mul_ediv_right _ _ (by omega), Int.ediv_eq_zero_of_lt h0 h1, Int.zero_add]
  · rw [Int.add_comm, Int.add_mul_emod_self_right, Int.emod_eq_of_lt h0 h1]
/-- Steps add up. -/
theorem adl_step {z : Int} (hz : 0 < z) {fs : List Fr} : ∀ {l : List Int} {i off a k : Int}, Pa fs i l → 0 ≤ off → adl z l off = some a → 0 ≤ k → ∃ l', Pa fs (a / z) l' ∧ (0 ≤ a / z ∧ a / z < fs.length ∧ a / z ∈ l) ∧ adl z l' (a % z + k) = adl z l (off + k)
  | [], _, _, _, _, _, _, h, _ => by cases h
  | g :: r, i, off, a, k, hp, h0, h, hk => by
    have hp' := hp
    obtain ⟨rfl, g0, g1, g2⟩ := hp
    rw [adl] at h
    by_cases h1 : off < z
    · rw [if_pos h1] at h
      simp only [Option.some.injEq] at h
      subst h
      obtain ⟨e1, e2⟩ := addr_frame hz (g := i) h0 h1
      rw [e1, e2]
      exact ⟨_, hp', ⟨g0, g1, by simp⟩, rfl⟩
    · rw [if_neg h1] at h
      obtain ⟨l', h2, ⟨h3, h4, h5⟩, h6⟩ := adl_step hz g2 (by omega) h hk
      refine ⟨l', h2, ⟨h3, h4, by simp [h5]⟩, ?_⟩
      rw [h6, adl, if_neg (by omega)]
      congr 1; omega

/-! Valid spaces that change. -/
theorem VS.rng {s : Sp} (h : VS s) : Rng s.2.2 := by
  intro i h0 h1
  rw [nx_in h0 h1]
  rcases h.fr i h0 h1 with ⟨hf, _⟩ | hu
  · rw [show (Go.V3.fr s.2.2 i).2.2 = -1 from by rw [hf]]; omega
  · exact ⟨hu.2.1, hu.2.2.1⟩
theorem VS.used {s : Sp} (h : VS s) {i : Int} (h0 : 0 ≤ i) (h1 : i < s.2.2.length) (hu : (Go.V3.fr s.2.2 i).1 ≠ -1) : UsedOk s.2.2 i := by
  rcases h.fr i h0 h1 with ⟨hf, _⟩ | hu'
  · exact absurd (by rw [hf]) hu
  · exact hu'
theorem VS.free {s : Sp} (h : VS s) {i : Int} (h0 : 0 ≤ i) (h1 : i < s.2.2.length) (hu : (Go.V3.fr s.2.2 i).1 = -1) : Free (Go.V3.fr s.2.2 i) ∧ Zero s i := by
  rcases h.fr i h0 h1 with hf | hu'
  · exact hf
  · have := hu'.1.1; omega
theorem VS.stI {s : Sp} (h : VS s) (i : Int) (h0 : 0 ≤ i) (h1 : i < s.2.2.length) : (Go.V3.fr s.2.2 i).2.1 ≤ 9223372036854775807 := by
  rcases h.fr i h0 h1 with ⟨hf, _⟩ | hu'
  · rw [hf]; decide
  · obtain ⟨_, _, b, _, _, hb⟩ := hu'.1; omega
/-- Owners go along with a path. -/
theorem VS.owner {s : Sp} (h : VS s) : ∀ {l : List Int} {i : Int}, Pa s.2.2 i l → ∀ x ∈ l, (Go.V3.fr s.2.2 x).1 = (Go.V3.fr s.2.2 i).1 ∧ (Go.V3.fr s.2.2 x).2.1 = (Go.V3.fr s.2.2 i).2.1
  | [], _, _, x, hx => by cases hx
  | a :: r, i, hp, x, hx => by
    obtain ⟨rfl, g0, g1, g2⟩ := hp
    rcases List.mem_cons.1 hx with rfl | hx
    · exact ⟨rfl, rfl⟩
    · have h1 := h.owner g2 x hx
      have h2 := h.rng i g0 g1
      have hne : nx s.2.2 i ≠ -1 := by
        intro e
        cases r with
        | nil => cases hx
        | cons b r => obtain ⟨e2, g3, _⟩ := g2; omega
      rw [nx_in g0 g1] at h1 hne
      rcases h.fr i g0 g1 with ⟨hf, _⟩ | hu
      · rw [hf] at hne; exact absurd rfl hne
      · have := hu.2.2.2.2 hne
        exact ⟨h1.1.trans this.1, h1.2.trans this.2⟩

theorem mem_len {l : List Int} (h : 0 < l.length) : ∃ x, l.getLast? = some x ∧ x ∈ l := by
  cases l with
  | nil => simp at h
  | cons a r => exact ⟨_, List.getLast?_eq_some_getLast (by simp), List.getLast_mem _⟩
/-- The last of a path leads nowhere, and it is the only one. -/
theorem Pa.last {fs : List Fr} : ∀ {l : List Int} {i x : Int}, Pa fs i l → l.getLast? = some x → nx fs x = -1 ∧ x ∈ l
  | [], _, _, _, h => by cases h
  | [a], i, x, hp, h => by
    obtain ⟨rfl, _, _, h2⟩ := hp
    simp only [List.getLast?_singleton, Option.some.injEq] at h
    subst h
    exact ⟨h2, by simp⟩
  | a :: b :: r, i, x, hp, h => by
    obtain ⟨rfl, _, _, h2⟩ := hp
    rw [List.getLast?_cons_cons] at h
    obtain ⟨h3, h4⟩ := h2.last h
    exact ⟨h3, by simp [h4]⟩

theorem VS.take {s : Sp} (h : VS s) {f o b : Int} (h0 : 0 ≤ f) (h1 : f < s.2.2.length) (hf : (Go.V3.fr s.2.2 f).1 = -1) (o0 : 0 ≤ o) (o1 : o ≤ 4294967295) (b0 : 0 ≤ b) (b1 : b < 4) :
    VS (s.1, s.2.1, s.2.2.set f.toNat (o, b * 4294967296 + o, -1)) ∧ ∀ i : Int, 0 ≤ i → i < s.2.2.length → nx (s.2.2.set f.toNat (o, b * 4294967296 + o, -1)) i = nx s.2.2 i := by
  have hfree := (h.free h0 h1 hf).1
  have hfr : ∀ i : Int, 0 ≤ i → Go.V3.fr (s.2.2.set f.toNat (o, b * 4294967296 + o, -1)) i = if i = f then (o, b * 4294967296 + o, -1) else Go.V3.fr s.2.2 i := fun i hi => fr_set h0 h1 hi
  have hnx : ∀ i : Int, 0 ≤ i → i < s.2.2.length → nx (s.2.2.set f.toNat (o, b * 4294967296 + o, -1)) i = nx s.2.2 i := by
    intro i i0 i1
    rw [nx_in i0 (by rw [List.length_set]; exact i1), nx_in i0 i1, hfr i i0]
    by_cases hi : i = f
    · rw [if_pos hi, hi, hfree]
    · rw [if_neg hi]
  refine ⟨⟨h.sh, by simpa using h.n, by simpa using h.w, ?_, ?_, ?_⟩, hnx⟩
  · intro i i0 i1
    simp only [List.length_set] at i1
    by_cases hi : i = f
    · subst hi
      right
      unfold UsedOk
      simp only [hfr i i0, if_true, List.length_set]
      exact ⟨⟨by simpa using o0, by simpa using o1, b, b0, b1, by simp only; omega⟩, by omega, by omega, by omega, fun h => absurd rfl h⟩
    · rcases h.fr i i0 i1 with ⟨hf1, hz⟩ | hu
      · left
        simp only
        rw [hfr i i0, if_neg hi]
        exact ⟨hf1, hz⟩
      · right
        unfold UsedOk
        simp only [hfr i i0, if_neg hi, List.length_set]
        refine ⟨hu.1, hu.2.1, hu.2.2.1, hu.2.2.2.1, fun hne => ?_⟩
        have := hu.2.1
        have hnf : (Go.V3.fr s.2.2 i).2.2 ≠ f := by
          intro e
          have h2 := (hu.2.2.2.2 hne).1
          rw [e, hf] at h2
          have := hu.1.1; omega
        rw [hfr _ (by omega), if_neg hnf]
        exact hu.2.2.2.2 hne
  · intro i j i0 i1 j0 j1 he hne
    simp only [List.length_set] at i1 j1 he hne
    rw [hnx i i0 i1, hnx j j0 j1] at he
    rw [hnx i i0 i1] at hne
    exact h.inj i j i0 i1 j0 j1 he hne
  · intro i i0 i1
    simp only [List.length_set] at i1
    obtain ⟨l, hl⟩ := h.acy i i0 i1
    exact ⟨l, hl.congr (by simp) hnx⟩

/-- Nothing leads to a free frame. -/
theorem VS.no_in {s : Sp} (h : VS s) {f : Int} (f0 : 0 ≤ f) (hf : (Go.V3.fr s.2.2 f).1 = -1) (i : Int) (i0 : 0 ≤ i) (i1 : i < s.2.2.length) : nx s.2.2 i ≠ f := by
  intro hj
  have hne : nx s.2.2 i ≠ -1 := by omega
  rw [nx_in i0 i1] at hj hne
  rcases h.fr i i0 i1 with ⟨g1, _⟩ | g1
  · rw [g1] at hne; exact hne rfl
  · have := (g1.2.2.2.2 hne).1
    rw [hj, hf] at this
    have := g1.1.1
    omega
theorem frees_head {fs : List Fr} {k : Int} (k0 : 0 ≤ k) (k1 : k < fs.length) (hk : (fr fs k).1 = -1) (hb : ∀ j : Int, 0 ≤ j → j < k → (fr fs j).1 ≠ -1) : ∃ r, frees fs = k :: r := by
  have hm : k ∈ frees fs := mem_owned.2 ⟨⟨k0, k1⟩, hk⟩
  cases h : frees fs with
  | nil => rw [h] at hm; cases hm
  | cons f r =>
    obtain ⟨⟨f0, f1⟩, f2, f3⟩ := frees_cons h
    have : f = k := by
      rcases Int.lt_or_le f k with h1 | h1
      · exact absurd f2 (hb f f0 h1)
      · rcases Int.lt_or_le k f with h2 | h2
        · exact absurd hk (f3 k k0 h2)
        · omega
    rw [this]; exact ⟨r, rfl⟩

theorem VS.link {s : Sp} (h : VS s) {a f : Int} (a0 : 0 ≤ a) (a1 : a < s.2.2.length) (f0 : 0 ≤ f) (f1 : f < s.2.2.length) (hau : (Go.V3.fr s.2.2 a).1 ≠ -1) (hn : nx s.2.2 a = -1)
    (ho : (Go.V3.fr s.2.2 f).1 = (Go.V3.fr s.2.2 a).1) (hst : (Go.V3.fr s.2.2 f).2.1 = (Go.V3.fr s.2.2 a).2.1) (hin : ∀ i : Int, 0 ≤ i → i < s.2.2.length → nx s.2.2 i ≠ f) {lf : List Int} (hlf : Pa s.2.2 f lf) (hx : a ∉ lf) :
    VS (s.1, s.2.1, s.2.2.set a.toNat ((Go.V3.fr s.2.2 a).1, (Go.V3.fr s.2.2 a).2.1, f)) ∧
      (∀ (l : List Int) (i : Int), Pa s.2.2 i l → Pa (s.2.2.set a.toNat ((Go.V3.fr s.2.2 a).1, (Go.V3.fr s.2.2 a).2.1, f)) i (if a ∈ l then l ++ lf else l)) := by
  have hu := h.used a0 a1 hau
  have haf : f ≠ a := by
    rintro rfl
    cases lf with
    | nil => rw [Pa] at hlf; omega
    | cons b r => obtain ⟨rfl, _⟩ := hlf; simp at hx
  have hfr : ∀ i : Int, 0 ≤ i → Go.V3.fr (s.2.2.set a.toNat ((Go.V3.fr s.2.2 a).1, (Go.V3.fr s.2.2 a).2.1, f)) i = if i = a then ((Go.V3.fr s.2.2 a).1, (Go.V3.fr s.2.2 a).2.1, f) else Go.V3.fr s.2.2 i := fun i hi => fr_set a0 a1 hi
  have hnx : ∀ i : Int, 0 ≤ i → i < s.2.2.length → nx (s.2.2.set a.toNat ((Go.V3.fr s.2.2 a).1, (Go.V3.fr s.2.2 a).2.1, f)) i = if i = a then f else nx s.2.2 i := by
    intro i i0 i1
    rw [nx_in i0 (by rw [List.length_set]; exact i1), nx_in i0 i1, hfr i i0]
    by_cases hi : i = a
    · rw [if_pos hi, if_pos hi]
    · rw [if_neg hi, if_neg hi]
  have hpa : ∀ (l : List Int) (i : Int), Pa s.2.2 i l → Pa (s.2.2.set a.toNat ((Go.V3.fr s.2.2 a).1, (Go.V3.fr s.2.2 a).2.1, f)) i (if a ∈ l then l ++ lf else l) := fun l i hl =>
    Pa.link (by simp) (fun i i0 i1 hi => by rw [hnx i i0 i1, if_neg hi]) hn (by rw [hnx a a0 a1, if_pos rfl]) hlf hx hl
  have hown : ∀ i : Int, 0 ≤ i → (Go.V3.fr (s.2.2.set a.toNat ((Go.V3.fr s.2.2 a).1, (Go.V3.fr s.2.2 a).2.1, f)) i).1 = (Go.V3.fr s.2.2 i).1 ∧ (Go.V3.fr (s.2.2.set a.toNat ((Go.V3.fr s.2.2 a).1, (Go.V3.fr s.2.2 a).2.1, f)) i).2.1 = (Go.V3.fr s.2.2 i).2.1 := by
    intro i i0
    rw [hfr i i0]
    by_cases hi : i = a
    · rw [if_pos hi, hi]; exact ⟨rfl, rfl⟩
    · rw [if_neg hi]; exact ⟨rfl, rfl⟩
  refine ⟨⟨h.sh, by simpa using h.n, by simpa using h.w, ?_, ?_, ?_⟩, hpa⟩
  · intro i i0 i1
    simp only [List.length_set] at i1
    by_cases hi : i = a
    · subst hi
      right
      unfold UsedOk
      simp only [hfr i i0, if_true, List.length_set]
      exact ⟨hu.1, by omega, f1, haf, fun _ => by rw [(hown f f0).1, (hown f f0).2]; exact ⟨ho, hst⟩⟩
    · rcases h.fr i i0 i1 with ⟨hf1, hz⟩ | hu
      · left
        simp only
        rw [hfr i i0, if_neg hi]
        exact ⟨hf1, hz⟩
      · right
        unfold UsedOk
        simp only [hfr i i0, if_neg hi, List.length_set]
        refine ⟨hu.1, hu.2.1, hu.2.2.1, hu.2.2.2.1, fun hne => ?_⟩
        have := hu.2.1
        rw [(hown _ (by omega)).1, (hown _ (by omega)).2]
        exact hu.2.2.2.2 hne
  · intro i j i0 i1 j0 j1 he hne
    simp only [List.length_set] at i1 j1 he hne
    rw [hnx i i0 i1, hnx j j0 j1] at he
    rw [hnx i i0 i1] at hne
    by_cases hi : i = a
    · by_cases hj : j = a
      · omega
      · rw [if_pos hi, if_neg hj] at he
        exact absurd he.symm (hin j j0 j1)
    · by_cases hj : j = a
      · rw [if_neg hi, if_pos hj] at he
        exact absurd he (hin i i0 i1)
      · rw [if_neg hi, if_neg hj] at he
        rw [if_neg hi] at hne
        exact h.inj i j i0 i1 j0 j1 he hne
  · intro i i0 i1
    simp only [List.length_set] at i1
    obtain ⟨l, hl⟩ := h.acy i i0 i1
    exact ⟨_, hpa l i hl⟩

/-- A word of a used frame is written. -/
theorem VS.word {s : Sp} (h : VS s) {x : Int} (x0 : 0 ≤ x) (hu : (Go.V3.fr s.2.2 (x / sz s.1)).1 ≠ -1) (v : BitVec 64) : VS (s.1, s.2.1.set x.toNat v, s.2.2) := by
  refine ⟨h.sh, h.n, by simpa using h.w, ?_, h.inj, h.acy⟩
  intro i i0 i1
  rcases h.fr i i0 i1 with ⟨hf, hz⟩ | hus
  · refine .inl ⟨hf, fun a a0 a1 => ?_⟩
    have hz' := hz a a0 a1
    show gl 0#64 (s.2.1.set x.toNat v) a = 0#64
    have hp := sz_pos' s.1
    have hax : a ≠ x.toNat := by
      intro e
      apply hu
      have : x / sz s.1 = i := by
        have e1 : (a : Int) = x := by omega
        rw [← e1]
        apply Int.le_antisymm
        · exact Int.lt_add_one_iff.1 ((Int.ediv_lt_iff_lt_mul hp).2 a1)
        · exact (Int.le_ediv_iff_mul_le hp).2 a0
      rw [this, hf]
    refine Eq.trans ?_ hz'
    unfold gl
    simp only [List.getD_eq_getElem?_getD, List.getElem?_set_ne (fun e => hax e.symm)]
  · exact .inr hus

theorem VS.new {s n : Int} (hs : 3 ≤ s ∧ s ≤ 8) (hn : 2 ≤ n ∧ n ≤ 64) : VS (s, List.replicate (n * sz s).toNat 0#64, List.replicate n.toNat (-1, -1, -1)) := by
  have hm := (mul_sz hs (by omega : 0 ≤ n) (Int.le_refl n)).1
  have hp := sz_pos' s
  have hfr : ∀ i : Int, 0 ≤ i → i < n.toNat → Go.V3.fr (List.replicate n.toNat (-1, -1, -1)) i = (-1, -1, -1) := fun i i0 i1 => gl_rep (by omega)
  refine ⟨hs, by simp; omega, by simp only [List.length_replicate]; rw [Int.toNat_of_nonneg hm, Int.toNat_of_nonneg (by omega)], ?_, ?_, ?_⟩
  · intro i i0 i1
    simp only [List.length_replicate] at i1
    refine .inl ⟨hfr i i0 i1, fun a a0 a1 => gl_rep ?_⟩
    simp only at a1
    have : (i + 1) * sz s ≤ n * sz s := Int.mul_le_mul_of_nonneg_right (by omega) (by omega)
    omega
  · intro i j i0 i1 j0 j1 he hne
    simp only [List.length_replicate] at i1
    rw [nx_in i0 (by simpa using i1), hfr i i0 i1] at hne
    exact absurd rfl hne
  · intro i i0 i1
    simp only [List.length_replicate] at i1
    refine ⟨[i], rfl, i0, by simpa using i1, ?_⟩
    rw [nx_in i0 (by simpa using i1), hfr i i0 i1]
    rfl
end Go.V3
