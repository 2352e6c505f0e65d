/-
  Reading what a call has just made.
-/
import Derived.Test.YtdkigndboblimaaLaw
namespace Go.Vm
open Go

theorem hcell_new {h h1 : Heap} {cs : List SV} {t : TypeId} {b : Nat} (hn : HNew h cs t b h1) (i : Nat) : hcell h1 ⟨b, i, none⟩ = (cs[i]?).map SV.den := by
  obtain ⟨rfl, rfl⟩ := hn
  unfold hcell
  simp [denL_get?]

theorem HNew.cellAt {h h1 h2 : Heap} {cs : List SV} {t : TypeId} {b : Nat} (hn : HNew h cs t b h1) (hb : HB h1 h2) {i : Nat} {v : SV} (hv : cs[i]? = some v) : hcell h2 ⟨b, i, none⟩ = some v.den :=
  hb.cell (by rw [hcell_new hn, hv]; rfl)

theorem add_zero_off (b n : Nat) : (⟨b, 0, none⟩ : Addr).add n = ⟨b, n, none⟩ := by
  unfold Addr.add
  split
  · rename_i h; subst h; rfl
  · simp

theorem padd_block (b n : Nat) : padd (some ⟨b, 0, none⟩) n = some ⟨b, n, none⟩ := by
  simp [padd, add_zero_off]

theorem HNew.ld {h h1 h2 : Heap} {cs : List SV} {t : TypeId} {b : Nat} (hn : HNew h cs t b h1) (hb : HB h1 h2) {i : Nat} {v : SV} (hv : cs[i]? = some v) : HLd h2 (padd (some ⟨b, 0, none⟩) i) [v] := by
  rw [padd_block]
  refine ⟨_, rfl, fun j hj => ?_⟩
  have : j = 0 := by simpa using hj
  subst this
  exact hn.cellAt hb hv

theorem ld_of {h h1 h2 : Heap} {cs : List SV} {t : TypeId} {b : Nat} (hn : HNew h cs t b h1) (hb : HB h1 h2) {i : Nat} {v : SV} {p : Option Addr} (hp : p = padd (some ⟨b, 0, none⟩) i) (hv : cs[i]? = some v) : HLd h2 p [v] := by
  rw [hp]; exact hn.ld hb hv

/-- A place in a short list, by cases. -/
theorem ix_new (b len : Nat) (i : Int) (h0 : 0 ≤ i) (h1 : i < len) : Ix (some ⟨b, 0, none⟩) len i := ⟨rfl, h0, h1⟩

theorem ld1 {g : Heap} {b i : Nat} {v : SV} {p : Option Addr} (h : hcell g ⟨b, i, none⟩ = some v.den) (hp : p = padd (some ⟨b, 0, none⟩) i) : HLd g p [v] := by
  rw [hp, padd_block]
  refine ⟨_, rfl, fun j hj => ?_⟩
  have : j = 0 := by simpa using hj
  subst this
  exact h

/-- A block that holds two ints. -/
def HPair (g : Heap) (b : Nat) (x y : Int) : Prop := hcell g ⟨b, 0, none⟩ = some (.int .i64 x) ∧ hcell g ⟨b, 1, none⟩ = some (.int .i64 y)
theorem HPair.mono {g g' : Heap} {b : Nat} {x y : Int} (h : HPair g b x y) (hb : HB g g') : HPair g' b x y := ⟨hb.cell h.1, hb.cell h.2⟩
theorem HPair.new {h h1 : Heap} {t : TypeId} {b : Nat} {x y : Int} (hn : HNew h [.int .i64 x, .int .i64 y] t b h1) : HPair h1 b x y := ⟨hcell_new hn 0, hcell_new hn 1⟩
theorem HPair.ld0 {g : Heap} {b : Nat} {x y : Int} (h : HPair g b x y) : HLd g (padd (some ⟨b, 0, none⟩) ((0 : Int).toNat * 1)) [.int .i64 x] := ld1 (v := .int .i64 x) h.1 rfl
theorem HPair.ld1 {g : Heap} {b : Nat} {x y : Int} (h : HPair g b x y) : HLd g (padd (some ⟨b, 0, none⟩) ((1 : Int).toNat * 1)) [.int .i64 y] := Vm.ld1 (v := .int .i64 y) h.2 rfl
theorem ix0 (b : Nat) : Ix (some ⟨b, 0, none⟩) 2 0 := ⟨rfl, by decide, by decide⟩
theorem ix1 (b : Nat) : Ix (some ⟨b, 0, none⟩) 2 1 := ⟨rfl, by decide, by decide⟩

/-- A block that holds these values. -/
def HRow (g : Heap) (b : Nat) (cs : List SV) : Prop := ∀ i v, cs[i]? = some v → hcell g ⟨b, i, none⟩ = some v.den
theorem HRow.mono {g g' : Heap} {b : Nat} {cs : List SV} (h : HRow g b cs) (hb : HB g g') : HRow g' b cs := fun i v hv => hb.cell (h i v hv)
theorem HRow.new {h h1 : Heap} {t : TypeId} {b : Nat} {cs : List SV} (hn : HNew h cs t b h1) : HRow h1 b cs := fun i v hv => by rw [hcell_new hn, hv]; rfl
theorem HRow.ld {g : Heap} {b i : Nat} {cs : List SV} {v : SV} {p : Option Addr} (h : HRow g b cs) (hv : cs[i]? = some v) (hp : p = padd (some ⟨b, 0, none⟩) i) : HLd g p [v] := Vm.ld1 (h i v hv) hp

end Go.Vm
