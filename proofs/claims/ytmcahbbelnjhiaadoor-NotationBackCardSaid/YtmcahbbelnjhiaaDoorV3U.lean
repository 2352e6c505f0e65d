/-
  Part U: what a law's walk owes to its row: it answers true, and nothing that was there has turned.
-/
import Derived.Test.YtmcahbbelnjhiaaDoorV3T
import Derived.ProofKit
import Derived.OpenShut
import Derived.ChangeOld
import Derived.Below
set_option linter.unusedVariables false
namespace Go.V3
open Go Go.RowKit
variable {TB : Tb}

theorem i64_of_wf {a : Int} (h : (Lit.int .i64 a).wf = true) : I64 a := by
  simp [Lit.wf, IntKind.min, IntKind.max, IntKind.signed, IntKind.bits] at h
  exact ⟨by omega, by omega⟩

theorem u64_of_wf {a : Int} (h : (Lit.int .u64 a).wf = true) : ∃ x : BitVec 64, a = (x.toNat : Int) := by
  simp [Lit.wf, IntKind.min, IntKind.max, IntKind.signed, IntKind.bits] at h
  refine ⟨BitVec.ofNat 64 a.toNat, ?_⟩
  rw [BitVec.toNat_ofNat]
  have : a.toNat < 2 ^ 64 := by omega
  rw [Nat.mod_eq_of_lt this]
  omega

def nm0 : Nm := ⟨0, 0, true, 0, 0, none⟩
/-- Parameters without memory. -/
def bare : List CT → Bool
  | [] => true
  | d :: r => !d.ptr && d.t.nsl == 0 && bare r

theorem ents_nil {own : Bool} {t : Ty} (h : t.nsl = 0) (x : t.T) : ents own t x = [] := by
  have := ents_length own t x
  rw [h] at this
  exact List.eq_nil_of_length_eq_zero this

theorem bare_ps {c : Cfg TB} {G : Nat → Prop} {w : World} : ∀ (cs : List CT) (x : HT cs) (ms : Nat → Nm), bare cs = true → PS c G w cs x ms ∧ ownsP cs x ms = []
  | [], _, _, _ => ⟨trivial, rfl⟩
  | d :: r, x, ms, h => by
    simp only [bare, Bool.and_eq_true, Bool.not_eq_true', beq_iff_eq] at h
    obtain ⟨⟨hp, hn⟩, hr⟩ := h
    obtain ⟨h1, h2⟩ := bare_ps r (HT.tl d r x) (fun k => ms (d.cnt + k)) hr
    refine ⟨⟨⟨?_, ?_⟩, h1⟩, ?_⟩
    · intro j e he
      rw [ents_nil hn] at he
      simp at he
    · intro h; rw [hp] at h; cases h
    · rw [ownsP, h2, ownsC, hp, ents_nil hn]
      rfl

/-- The tables lie in a world. -/
def TabW (TB : Tb) (w : World) : Prop := ∀ q ∈ TB, q.1 < w.heap.size ∧ ∃ ty fz, w.heap[q.1]? = some (.cells q.2 ty fz)
theorem TabW.nil (w : World) : TabW [] w := fun q h => by cases h
/-- A law over bare values: true, and nothing that was there has turned. -/
theorem law_bare {P : Program} {f : FuncId} {fi : FnI} (hc : CallsV P TB f fi) (hb : bare fi.ps = true) {vals : Array Value} {w : World} (hT : TabW TB w) {x : HT fi.ps} {r : HT (fi.rs ++ fi.os)}
    (hv : (denL (envOf fun _ => nm0) (outSVs fi.ps x 0)).toArray = vals) (hr : fi.F x = some r) (ht : ∀ ms, (retSV (outSVs fi.rs (HT.left fi.rs fi.os r) 0)).den (envOf ms) = .bool true) (hsh : fi.sh = [] := by rfl) :
    Calls P f vals w (fun e w' => e = .returned (.bool true) ∧ Below w.heap.size w w') := by
  have h0 := bare_ps (c := (⟨w, fun b => b ∈ ownsP fi.ps x (fun _ => nm0), fun _ => False⟩ : Cfg TB)) (G := fun _ => False) (w := w) fi.ps x (fun _ => nm0) hb
  have h := hc.2 x r hr w (fun _ => False) (fun _ => nm0) (fun _ h => h.elim) h0.1 (by rw [h0.2]; exact List.nodup_nil) (fun q hq => ⟨⟨(hT q hq).1, by rw [h0.2]; exact List.not_mem_nil⟩, (hT q hq).2⟩)
  rw [hsh] at h
  replace h : Calls P f (denL (envOf fun _ => nm0) (outSVs fi.ps x 0)).toArray w _ := h
  rw [hv] at h
  refine h.mono ?_
  rintro e w' ⟨G', ms', rfl, hrest, hs, hold, -⟩
  refine ⟨by rw [ht], ⟨hrest.os, hrest.tape, hrest.output, hs, fun b hb => hold b hb ?_⟩⟩
  rw [h0.2]
  exact List.not_mem_nil

end Go.V3
