/-
  No cell of these rows narrows 'for every input' (looked for: loops, veiled, ifaces, maps, wideKeys, modest, calm, conditions, laid).
  DERIVED. THE GIVEN ROWS OF THIS SEAT. 3 by the template 'for every input the law returns true; each argument reads behind the call as it read before'; 0 by the template 'total and deterministic' (their statements: YtnfleglhbgknmaaTotals.lean).
  GIVEN WITH THE SEED: the statements are not yours to turn. If you find one false, say at which input.
  Laid BY PROGRAM, IN A SANDBOX (cutbox-rows.mjs): the forced cells as the released guide's own fill.sh prints them over the translation 2f86ada811f086a8… (all of the seat's roots in one cut). By AI agents, Wed Nov 11 2026. No macro, syntax, notation, axiom, sorry.
-/
import Derived.Test.YtnfleglhbgknmaaChecked
import GoSem.Claim
import GoSem.ClaimJoined
import GoSem.ClaimMapViews
import Derived.JoinedTies
import Derived.KernelRfl
namespace Go.Proofs.Ytnfleglhbgknmaa
/- THE CELL 'sum', in the pinned program and in every row, IS THE sha256 OF THE DUMP (.gsa) THAT YtnfleglhbgknmaaProg.lean LOADS. Nothing in Lean hashes anything: it is a label: what it is worth is what the hold of that sum in a sandbox is worth. -/
noncomputable def Try.pinned : Pinned := { name := "ytnfleglhbgknmaa", sum := "2f86ada811f086a8337a9fe9b56c26eaa421dba5c25a8cf39f294f03087968f8", checked := Try.checked }
namespace Rows
def none {H : Type} : Left H := { results := [], args := [] }

/-- 'beltwaylaw11.BeltFifo': WHATEVER THE INPUT: true; the input reads as it did. -/
def beltFifoSpec : ChangeSpec := { name := "beltFifo", fn := fun _ => fun
  | [d1, d2] => { results := [.lit (.bool true)], args := [d1, d2] }
  | _ => none }
def beltFifoRow : OpenClaim := { program := "ytnfleglhbgknmaa", sum := "2f86ada811f086a8337a9fe9b56c26eaa421dba5c25a8cf39f294f03087968f8", func := "beltway/beltwaylaw11.BeltFifo", spec := "beltFifo", apart := false }
def BeltFifoSaid : Prop := beltFifoRow.holds Try.pinned (OpenSpec.ofChange beltFifoSpec)

/-- ITS FALSE NEIGHBOUR: 'it returns false'. Refute it at one input. -/
def beltFifoWrong : ChangeSpec := { name := "beltFifo", fn := fun _ => fun
  | [d1, d2] => { results := [.lit (.bool false)], args := [d1, d2] }
  | _ => none }
def BeltFifoWrongFalsely : Prop := beltFifoRow.holds Try.pinned (OpenSpec.ofChange beltFifoWrong)

/-- 'beltwaylaw11.BeltValid': WHATEVER THE INPUT: true; the input reads as it did. -/
def beltValidSpec : ChangeSpec := { name := "beltValid", fn := fun _ => fun
  | [d1, d2, d3, d4, d5, d6] => { results := [.lit (.bool true)], args := [d1, d2, d3, d4, d5, d6] }
  | _ => none }
def beltValidRow : OpenClaim := { program := "ytnfleglhbgknmaa", sum := "2f86ada811f086a8337a9fe9b56c26eaa421dba5c25a8cf39f294f03087968f8", func := "beltway/beltwaylaw11.BeltValid", spec := "beltValid", apart := false }
def BeltValidSaid : Prop := beltValidRow.holds Try.pinned (OpenSpec.ofChange beltValidSpec)

/-- ITS FALSE NEIGHBOUR: 'it returns false'. Refute it at one input. -/
def beltValidWrong : ChangeSpec := { name := "beltValid", fn := fun _ => fun
  | [d1, d2, d3, d4, d5, d6] => { results := [.lit (.bool false)], args := [d1, d2, d3, d4, d5, d6] }
  | _ => none }
def BeltValidWrongFalsely : Prop := beltValidRow.holds Try.pinned (OpenSpec.ofChange beltValidWrong)

/-- 'beltwaylaw11.BeltFrames': WHATEVER THE INPUT: true; the input reads as it did. -/
def beltFramesSpec : ChangeSpec := { name := "beltFrames", fn := fun _ => fun
  | [d] => { results := [.lit (.bool true)], args := [d] }
  | _ => none }
def beltFramesRow : OpenClaim := { program := "ytnfleglhbgknmaa", sum := "2f86ada811f086a8337a9fe9b56c26eaa421dba5c25a8cf39f294f03087968f8", func := "beltway/beltwaylaw11.BeltFrames", spec := "beltFrames", apart := false }
def BeltFramesSaid : Prop := beltFramesRow.holds Try.pinned (OpenSpec.ofChange beltFramesSpec)

/-- ITS FALSE NEIGHBOUR: 'it returns false'. Refute it at one input. -/
def beltFramesWrong : ChangeSpec := { name := "beltFrames", fn := fun _ => fun
  | [d] => { results := [.lit (.bool false)], args := [d] }
  | _ => none }
def BeltFramesWrongFalsely : Prop := beltFramesRow.holds Try.pinned (OpenSpec.ofChange beltFramesWrong)

/- THE SECOND FORM. 'bulk': how many values and letters a reading holds, each counted each time it is reached (what is shared counts as often as it is met; a slice's spare places count too). A statement '..UptoSaid' is the law's where the arguments, and the package variables that the reading takes, are together of bulk at most 1048576: NARROWER than '..Said'. Prove '..Said' where nothing that the law and all that it calls make is longer than what came in: it says more and counts as full. Else prove '..UptoSaid'. A law counts once. -/
mutual
def uptoBulk {H : Type} : DataW H → Nat
  | .lit (.string bytes) => bytes.length + 1
  | .lit _ => 1
  | .nil => 1
  | .ptr d => uptoBulk d + 1
  | .slice elems spare => uptoBulkAll elems + uptoBulkAll spare + 1
  | .agg parts => uptoBulkAll parts + 1
  | .iface _ d => uptoBulk d + 1
  | .map entries => uptoBulkEntries entries + 1
  | .held _ => 1
def uptoBulkAll {H : Type} : List (DataW H) → Nat
  | [] => 0
  | d :: r => uptoBulk d + uptoBulkAll r
def uptoBulkEntries {H : Type} : List (Lit × DataW H) → Nat
  | [] => 0
  | x :: r => uptoBulkEntry x + uptoBulkEntries r
def uptoBulkEntry {H : Type} : Lit × DataW H → Nat
  | (.string bytes, d) => bytes.length + uptoBulk d + 1
  | (_, d) => uptoBulk d + 1
 end
def uptoSmall : (H : Type) → List (DataW H) → Bool := fun _ ds => decide (uptoBulkAll ds ≤ 1048576)
def OpenSpec.upto (s : _root_.Go.ChangeSpec) : _root_.Go.OpenSpec := { _root_.Go.OpenSpec.ofChange s with cond := some uptoSmall }

/-- 'beltwaylaw11.BeltFifo', WHERE WHAT IT READS IS OF BULK AT MOST 1048576: true; the input reads as it did. -/
def beltFifoUptoRow : OpenClaim := { program := "ytnfleglhbgknmaa", sum := "2f86ada811f086a8337a9fe9b56c26eaa421dba5c25a8cf39f294f03087968f8", func := "beltway/beltwaylaw11.BeltFifo", spec := "beltFifo", apart := false, narrowed := true }
def BeltFifoUptoSaid : Prop := beltFifoUptoRow.holds Try.pinned (OpenSpec.upto beltFifoSpec)

/-- 'beltwaylaw11.BeltValid', WHERE WHAT IT READS IS OF BULK AT MOST 1048576: true; the input reads as it did. -/
def beltValidUptoRow : OpenClaim := { program := "ytnfleglhbgknmaa", sum := "2f86ada811f086a8337a9fe9b56c26eaa421dba5c25a8cf39f294f03087968f8", func := "beltway/beltwaylaw11.BeltValid", spec := "beltValid", apart := false, narrowed := true }
def BeltValidUptoSaid : Prop := beltValidUptoRow.holds Try.pinned (OpenSpec.upto beltValidSpec)

/-- 'beltwaylaw11.BeltFrames', WHERE WHAT IT READS IS OF BULK AT MOST 1048576: true; the input reads as it did. -/
def beltFramesUptoRow : OpenClaim := { program := "ytnfleglhbgknmaa", sum := "2f86ada811f086a8337a9fe9b56c26eaa421dba5c25a8cf39f294f03087968f8", func := "beltway/beltwaylaw11.BeltFrames", spec := "beltFrames", apart := false, narrowed := true }
def BeltFramesUptoSaid : Prop := beltFramesUptoRow.holds Try.pinned (OpenSpec.upto beltFramesSpec)

end Rows
end Go.Proofs.Ytnfleglhbgknmaa
