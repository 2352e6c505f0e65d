/-
  Part X: tables of numbers in package-level variables: what the condition on them gives.
-/
import Derived.Test.YtmcahbbelnjhiaaDoorV3V
import Derived.LaidMore
import Derived.MakeChecks
import Derived.Stop.Joined
set_option linter.unusedVariables false
namespace Go.V3
open Go Go.ChangeShapes Go.WideShapes Go.RowKit

theorem tab_cells {H : Type} {enc : TypeId × Value → H} {P : Program} {w : World} {e : TypeId} {k : IntKind} (he : P.underlying e = some (.int k)) (hc : P.cellsOf e = 1) :
    ∀ (m : Nat) (ns : List Int) (cs : List Value), cs.length = ns.length → (∀ i, i < ns.length → ∃ x ps, DataW.trod enc P w 0 (fun _ => true) false m e ((cs.drop i).take 1) = some (x, ps) ∧ ns[i]?.map (fun n => (DataW.lit (.int k n) : DataW H)) = some x) → cs = ns.map (Value.int k)
  | m, [], cs, hl, _ => by simpa using hl
  | m, n :: ns, [], hl, _ => by simp at hl
  | m, n :: ns, c :: cs, hl, h => by
    obtain ⟨x, ps, h1, h2⟩ := h 0 (by simp)
    obtain ⟨q, e1, e2, _⟩ := DataW.trod_int he h1
    simp only [List.drop_zero, List.take_succ_cons, List.take_zero, List.cons.injEq, and_true] at e1
    simp only [Prod.mk.injEq] at e2
    simp only [List.getElem?_cons_zero, Option.map_some, Option.some.injEq] at h2
    rw [e2.1] at h2
    simp only [DataW.lit.injEq, Lit.int.injEq, true_and] at h2
    rw [List.map_cons, e1, h2]
    congr 1
    refine tab_cells (enc := enc) (w := w) he hc m ns cs (by simpa using hl) fun i hi => ?_
    obtain ⟨x, ps, h3, h4⟩ := h (i + 1) (by simpa using hi)
    exact ⟨x, ps, by simpa using h3, by simpa using h4⟩

/-- A table that reads as listed lies in the memory. -/
theorem tab_of_laid {P : Program} {W : World} {nm : String} {d : DataW Unit} (h : laidMetH P [(nm, d)] W) (hp : ([(nm, d)].all fun x => x.2.handleName?.isNone) = true) {g t e : Nat} {len : Nat} {k : IntKind} (hg : P.globalNamed nm = some g)
    (ht : (P.globals[g]?).map (·.type) = some t) (hu : P.underlying t = some (.array len e)) (he : P.underlying e = some (.int k)) (hc : P.cellsOf e = 1) (hct : P.cellsOf t = len) (ns : List Int) (hd : d = .agg (ns.map fun n => .lit (.int k n))) :
    g < W.heap.size ∧ ∃ ty fz, W.heap[g]? = some (.cells (ns.map (Value.int k)).toArray ty fz) := by
  rw [MakeChecks.laidMetH_plain _ _ _ hp] at h
  obtain ⟨ps, ⟨g0, t0, cs0, f0, p0, q0, hg0, ht0, hv0, hd0, _⟩, _⟩ := h
  obtain rfl := Option.some.inj (hg.symm.trans hg0)
  obtain rfl := Option.some.inj (ht.symm.trans ht0)
  obtain ⟨xs, m, rfl, hx, hlen, hxl, hel⟩ := DataW.trod_array hu hd0
  simp only [Prod.mk.injEq] at hx
  have hxs := hx.1
  subst hd
  simp only [DataW.agg.injEq] at hxs
  have hl2 : ns.length = xs.length := by
    have := congrArg List.length hxs
    simpa using this
  have hcs : cs0.toList = ns.map (Value.int k) := by
    refine tab_cells (enc := fun _ => ()) (w := W) he hc m ns cs0.toList (by rw [hlen, hct, hl2, hxl]) fun i hi => ?_
    have h1 := hel i (by omega)
    rw [hc, Nat.mul_one] at h1
    obtain ⟨⟨x, q⟩, hxi⟩ : ∃ y, xs[i]? = some y := ⟨_, List.getElem?_eq_getElem (by omega)⟩
    rw [hxi] at h1
    refine ⟨x, q, h1, ?_⟩
    have := congrArg (fun l => l[i]?) hxs
    simp only [List.getElem?_map, hxi, Option.map_some] at this
    exact this
  unfold World.var? at hv0
  rw [hg] at hv0
  simp only [Option.bind_some] at hv0
  split at hv0
  · rename_i cs ty fz hb
    simp only [Option.some.injEq] at hv0
    subst hv0
    have e : cs = (ns.map (Value.int k)).toArray := by
      rw [← hcs]
    refine ⟨?_, ty, fz, by rw [hb, e]⟩
    rcases Nat.lt_or_ge g W.heap.size with h1 | h1
    · exact h1
    · rw [Array.getElem?_eq_none h1] at hb; cases hb
  · cases hv0
end Go.V3
