/-
  What a law's walk owes to its row: nothing that was there has turned.
-/
import Derived.Test.YtdkigndboblimaaVmC
namespace Go.Vm
open Go Go.RowKit

/-- Below its old size the new heap is as the old one was. -/
structure HB (h h' : Heap) : Prop where
  size : h.size ≤ h'.size
  block : ∀ k, k < h.size → h'[k]? = h[k]?

theorem HB.refl (h : Heap) : HB h h := ⟨Nat.le_refl _, fun _ _ => rfl⟩
theorem HB.trans {a b c : Heap} (h : HB a b) (k : HB b c) : HB a c :=
  ⟨Nat.le_trans h.size k.size, fun i hi => (k.block i (Nat.lt_of_lt_of_le hi h.size)).trans (h.block i hi)⟩
theorem HB.push (h : Heap) (o : Obj) : HB h (h.push o) := ⟨by simp, fun k hk => by rw [Array.getElem?_push, if_neg (by omega)]⟩
theorem HB.new {h h' : Heap} {cs : List SV} {t : TypeId} {b : Nat} (hn : HNew h cs t b h') : HB h h' := by
  rw [hn.2]; exact .push _ _
theorem HB.below {w w' : World} (h : HB w.heap w'.heap) (r : Rest w w') : Below w.heap.size w w' :=
  ⟨r.os, r.tape, r.output, h.size, h.block⟩

theorem HB.cell {h h' : Heap} (hb : HB h h') {a : Addr} {v : Value} (hc : hcell h a = some v) : hcell h' a = some v := by
  have hlt : a.block < h.size := by
    rcases Nat.lt_or_ge a.block h.size with hl | hl
    · exact hl
    · unfold hcell at hc; rw [Array.getElem?_eq_none hl] at hc; cases hc
  unfold hcell at *
  rw [hb.block _ hlt]
  exact hc

/-- A law's call: true, and nothing that was there has turned. -/
theorem law_calls {P : Program} {f : FuncId} {args : List SV} {vals : Array Value} {w : World} (hv : (denL args).toArray = vals)
    (h : CallsH P f args w.heap (fun r h' => r = .bool true ∧ HB w.heap h')) : Calls P f vals w (fun e w' => e = .returned (.bool true) ∧ Below w.heap.size w w') := by
  rw [← hv]
  refine (h.2 w rfl).mono ?_
  rintro e w' ⟨r, rfl, ⟨rfl, hb⟩, hr⟩
  exact ⟨rfl, hb.below hr⟩

end Go.Vm
