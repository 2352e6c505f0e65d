/-
  Plain laws that the proofs share: wrapped numbers, loops, lists.
-/
import Derived.Test.YtmcahbbelnjhiaaDoorV3V
set_option linter.unusedVariables false
namespace Go.V3
open Go

theorem w64_id {e : Int} (h1 : -9223372036854775808 ≤ e) (h2 : e ≤ 9223372036854775807) : w64 e = e := InK.wrap (k := .i64) (show I64 e from ⟨h1, h2⟩)

theorem loopO_ind {σ β : Type} {f : σ → Option (σ ⊕ β)} (I : Nat → σ → Prop) (Q : β → Prop)
    (hs : ∀ n s, I n s → (∃ b, f s = some (.inr b) ∧ Q b) ∨ (∃ m s', m < n ∧ f s = some (.inl s') ∧ I m s')) : ∀ n s, I n s → ∃ b, loopO f s = some b ∧ Q b := by
  intro n
  induction n using Nat.strongRecOn with
  | ind n ih =>
    intro s h
    rcases hs n s h with ⟨b, hb, hq⟩ | ⟨m, s', hm, hf, hi⟩
    · exact ⟨b, by rw [loopO_eq, hb], hq⟩
    · obtain ⟨b, hb, hq⟩ := ih m hm s' hi
      exact ⟨b, by rw [loopO_eq, hf]; exact hb, hq⟩

/-- A loop that must give one value. -/
theorem loopO_to {σ β : Type} {f : σ → Option (σ ⊕ β)} {b : β} (I : Nat → σ → Prop)
    (hs : ∀ n s, I n s → f s = some (.inr b) ∨ (∃ m s', m < n ∧ f s = some (.inl s') ∧ I m s')) {n : Nat} {s : σ} (h : I n s) : loopO f s = some b := by
  obtain ⟨c, h1, h2⟩ := loopO_ind I (fun c => c = b) (fun n s h => (hs n s h).imp (fun h => ⟨b, h, rfl⟩) id) n s h
  rw [h1, h2]

theorem iBits_mask (k : Nat) (hk : k < 63) {a : Int} (h0 : 0 ≤ a) (h1 : a ≤ 9223372036854775807) : iBits .and a (2 ^ k - 1) = a % 2 ^ k := by
  obtain ⟨n, rfl⟩ := Int.eq_ofNat_of_zero_le h0
  have e1 : ((2 : Int) ^ k - 1) = ((2 ^ k - 1 : Nat) : Int) := by
    have : 0 < 2 ^ k := Nat.two_pow_pos k
    have h2 : ((2 ^ k : Nat) : Int) = (2 : Int) ^ k := by push_cast; rfl
    omega
  have hp : 2 ^ k ≤ 2 ^ 62 := Nat.pow_le_pow_right (by omega) (by omega)
  have hp' : (2:Nat) ^ 62 = 4611686018427387904 := by decide
  have e2 : (BitVec.ofInt 64 (n : Int) &&& BitVec.ofInt 64 ((2 ^ k - 1 : Nat) : Int)).toNat = n % 2 ^ k := by
    rw [BitVec.toNat_and, BitVec.ofInt_natCast, BitVec.ofInt_natCast, BitVec.toNat_ofNat, BitVec.toNat_ofNat, Nat.mod_eq_of_lt (by omega), Nat.mod_eq_of_lt (by omega), Nat.and_two_pow_sub_one_eq_mod]
  unfold iBits
  rw [e1]
  show IntKind.i64.wrap _ = _
  rw [e2]
  have hl : n % 2 ^ k < 2 ^ k := Nat.mod_lt _ (Nat.two_pow_pos k)
  have := w64_id (e := ((n % 2 ^ k : Nat) : Int)) (by omega) (by omega)
  rw [w64] at this
  rw [this]
  push_cast
  rfl

theorem ext_replicate {α : Type} {xs : List α} {n : Nat} {v : α} (hl : xs.length = n) (h : ∀ j, j < n → xs[j]? = some v) : xs = List.replicate n v := by
  apply List.ext_getElem?
  intro j
  rw [List.getElem?_replicate]
  split
  · rename_i hj; exact h j hj
  · rename_i hj; exact List.getElem?_eq_none (by omega)

end Go.V3
