/-
  No cell of these rows narrows 'for every input' (looked for: loops, veiled, ifaces, maps, wideKeys, modest, calm, conditions, laid).
  DERIVED. THE GIVEN ROWS OF THIS SEAT. 6 by the template 'for every input the law returns true; each argument reads behind the call as it read before'; 0 by the template 'total and deterministic' (their statements: YtgegpaefamemlaaTotals.lean).
  GIVEN WITH THE SEED: the statements are not yours to turn. If you find one false, say at which input.
  Laid BY PROGRAM, IN A SANDBOX (cutbox-rows.mjs): the forced cells as the released guide's own fill.sh prints them over the translation 7cf43277557a20a5… (all of the seat's roots in one cut). By AI agents, Wed Nov 11 2026. No macro, syntax, notation, axiom, sorry.
-/
import Derived.Test.YtgegpaefamemlaaChecked
import GoSem.Claim
import GoSem.ClaimJoined
import GoSem.ClaimMapViews
import Derived.JoinedTies
import Derived.KernelRfl
namespace Go.Proofs.Ytgegpaefamemlaa
/- THE CELL 'sum', in the pinned program and in every row, IS THE sha256 OF THE DUMP (.gsa) THAT YtgegpaefamemlaaProg.lean LOADS. Nothing in Lean hashes anything: it is a label: what it is worth is what the hold of that sum in a sandbox is worth. -/
noncomputable def Try.pinned : Pinned := { name := "ytgegpaefamemlaa", sum := "7cf43277557a20a54c79855237ce0638b670573360e1f7f19de0d0db489df9bb", checked := Try.checked }
namespace Rows
def none {H : Type} : Left H := { results := [], args := [] }

/-- 'beltwaylaw06.ShareExact': WHATEVER THE INPUT: true; the input reads as it did. -/
def shareExactSpec : ChangeSpec := { name := "shareExact", fn := fun _ => fun
  | [d1, d2] => { results := [.lit (.bool true)], args := [d1, d2] }
  | _ => none }
def shareExactRow : OpenClaim := { program := "ytgegpaefamemlaa", sum := "7cf43277557a20a54c79855237ce0638b670573360e1f7f19de0d0db489df9bb", func := "beltway/beltwaylaw06.ShareExact", spec := "shareExact", inPlace := ["math.Float64frombits", "math.Float64bits"], apart := false }
def ShareExactSaid : Prop := shareExactRow.holds Try.pinned (OpenSpec.ofChange shareExactSpec)

/-- ITS FALSE NEIGHBOUR: 'it returns false'. Refute it at one input. -/
def shareExactWrong : ChangeSpec := { name := "shareExact", fn := fun _ => fun
  | [d1, d2] => { results := [.lit (.bool false)], args := [d1, d2] }
  | _ => none }
def ShareExactWrongFalsely : Prop := shareExactRow.holds Try.pinned (OpenSpec.ofChange shareExactWrong)

/-- 'beltwaylaw06.ShareRatios': WHATEVER THE INPUT: true; the input reads as it did. -/
def shareRatiosSpec : ChangeSpec := { name := "shareRatios", fn := fun _ => fun
  | [d1, d2] => { results := [.lit (.bool true)], args := [d1, d2] }
  | _ => none }
def shareRatiosRow : OpenClaim := { program := "ytgegpaefamemlaa", sum := "7cf43277557a20a54c79855237ce0638b670573360e1f7f19de0d0db489df9bb", func := "beltway/beltwaylaw06.ShareRatios", spec := "shareRatios", inPlace := ["math.Float64bits", "math.Float64frombits"], apart := false }
def ShareRatiosSaid : Prop := shareRatiosRow.holds Try.pinned (OpenSpec.ofChange shareRatiosSpec)

/-- ITS FALSE NEIGHBOUR: 'it returns false'. Refute it at one input. -/
def shareRatiosWrong : ChangeSpec := { name := "shareRatios", fn := fun _ => fun
  | [d1, d2] => { results := [.lit (.bool false)], args := [d1, d2] }
  | _ => none }
def ShareRatiosWrongFalsely : Prop := shareRatiosRow.holds Try.pinned (OpenSpec.ofChange shareRatiosWrong)

/-- 'beltwaylaw06.ShareFrames': WHATEVER THE INPUT: true; the input reads as it did. -/
def shareFramesSpec : ChangeSpec := { name := "shareFrames", fn := fun _ => fun
  | [d1, d2, d3] => { results := [.lit (.bool true)], args := [d1, d2, d3] }
  | _ => none }
def shareFramesRow : OpenClaim := { program := "ytgegpaefamemlaa", sum := "7cf43277557a20a54c79855237ce0638b670573360e1f7f19de0d0db489df9bb", func := "beltway/beltwaylaw06.ShareFrames", spec := "shareFrames", inPlace := ["math.Float64frombits", "math.Float64bits"], apart := false }
def ShareFramesSaid : Prop := shareFramesRow.holds Try.pinned (OpenSpec.ofChange shareFramesSpec)

/-- ITS FALSE NEIGHBOUR: 'it returns false'. Refute it at one input. -/
def shareFramesWrong : ChangeSpec := { name := "shareFrames", fn := fun _ => fun
  | [d1, d2, d3] => { results := [.lit (.bool false)], args := [d1, d2, d3] }
  | _ => none }
def ShareFramesWrongFalsely : Prop := shareFramesRow.holds Try.pinned (OpenSpec.ofChange shareFramesWrong)

/-- 'beltwaylaw06.ShareGrows': WHATEVER THE INPUT: true; the input reads as it did. -/
def shareGrowsSpec : ChangeSpec := { name := "shareGrows", fn := fun _ => fun
  | [d1, d2, d3, d4, d5, d6] => { results := [.lit (.bool true)], args := [d1, d2, d3, d4, d5, d6] }
  | _ => none }
def shareGrowsRow : OpenClaim := { program := "ytgegpaefamemlaa", sum := "7cf43277557a20a54c79855237ce0638b670573360e1f7f19de0d0db489df9bb", func := "beltway/beltwaylaw06.ShareGrows", spec := "shareGrows", inPlace := ["math.Float64frombits", "math.Float64bits"], apart := false }
def ShareGrowsSaid : Prop := shareGrowsRow.holds Try.pinned (OpenSpec.ofChange shareGrowsSpec)

/-- ITS FALSE NEIGHBOUR: 'it returns false'. Refute it at one input. -/
def shareGrowsWrong : ChangeSpec := { name := "shareGrows", fn := fun _ => fun
  | [d1, d2, d3, d4, d5, d6] => { results := [.lit (.bool false)], args := [d1, d2, d3, d4, d5, d6] }
  | _ => none }
def ShareGrowsWrongFalsely : Prop := shareGrowsRow.holds Try.pinned (OpenSpec.ofChange shareGrowsWrong)

/-- 'beltwaylaw06.ShareOrder': WHATEVER THE INPUT: true; the input reads as it did. -/
def shareOrderSpec : ChangeSpec := { name := "shareOrder", fn := fun _ => fun
  | [d1, d2, d3, d4, d5, d6] => { results := [.lit (.bool true)], args := [d1, d2, d3, d4, d5, d6] }
  | _ => none }
def shareOrderRow : OpenClaim := { program := "ytgegpaefamemlaa", sum := "7cf43277557a20a54c79855237ce0638b670573360e1f7f19de0d0db489df9bb", func := "beltway/beltwaylaw06.ShareOrder", spec := "shareOrder", inPlace := ["math.Float64frombits", "math.Float64bits"], apart := false }
def ShareOrderSaid : Prop := shareOrderRow.holds Try.pinned (OpenSpec.ofChange shareOrderSpec)

/-- ITS FALSE NEIGHBOUR: 'it returns false'. Refute it at one input. -/
def shareOrderWrong : ChangeSpec := { name := "shareOrder", fn := fun _ => fun
  | [d1, d2, d3, d4, d5, d6] => { results := [.lit (.bool false)], args := [d1, d2, d3, d4, d5, d6] }
  | _ => none }
def ShareOrderWrongFalsely : Prop := shareOrderRow.holds Try.pinned (OpenSpec.ofChange shareOrderWrong)

/-- 'beltwaylaw06.SharePercents': WHATEVER THE INPUT: true; the input reads as it did. -/
def sharePercentsSpec : ChangeSpec := { name := "sharePercents", fn := fun _ => fun
  | [d1, d2, d3] => { results := [.lit (.bool true)], args := [d1, d2, d3] }
  | _ => none }
def sharePercentsRow : OpenClaim := { program := "ytgegpaefamemlaa", sum := "7cf43277557a20a54c79855237ce0638b670573360e1f7f19de0d0db489df9bb", func := "beltway/beltwaylaw06.SharePercents", spec := "sharePercents", inPlace := ["math.Float64bits", "math.Float64frombits"], apart := false }
def SharePercentsSaid : Prop := sharePercentsRow.holds Try.pinned (OpenSpec.ofChange sharePercentsSpec)

/-- ITS FALSE NEIGHBOUR: 'it returns false'. Refute it at one input. -/
def sharePercentsWrong : ChangeSpec := { name := "sharePercents", fn := fun _ => fun
  | [d1, d2, d3] => { results := [.lit (.bool false)], args := [d1, d2, d3] }
  | _ => none }
def SharePercentsWrongFalsely : Prop := sharePercentsRow.holds Try.pinned (OpenSpec.ofChange sharePercentsWrong)

/- THE SECOND FORM. 'bulk': how many values and letters a reading holds, each counted each time it is reached (what is shared counts as often as it is met; a slice's spare places count too). A statement '..UptoSaid' is the law's where the arguments, and the package variables that the reading takes, are together of bulk at most 1048576: NARROWER than '..Said'. Prove '..Said' where nothing that the law and all that it calls make is longer than what came in: it says more and counts as full. Else prove '..UptoSaid'. A law counts once. -/
mutual
def uptoBulk {H : Type} : DataW H → Nat
  | .lit (.string bytes) => bytes.length + 1
  | .lit _ => 1
  | .nil => 1
  | .ptr d => uptoBulk d + 1
  | .slice elems spare => uptoBulkAll elems + uptoBulkAll spare + 1
  | .agg parts => uptoBulkAll parts + 1
  | .iface _ d => uptoBulk d + 1
  | .map entries => uptoBulkEntries entries + 1
  | .held _ => 1
def uptoBulkAll {H : Type} : List (DataW H) → Nat
  | [] => 0
  | d :: r => uptoBulk d + uptoBulkAll r
def uptoBulkEntries {H : Type} : List (Lit × DataW H) → Nat
  | [] => 0
  | x :: r => uptoBulkEntry x + uptoBulkEntries r
def uptoBulkEntry {H : Type} : Lit × DataW H → Nat
  | (.string bytes, d) => bytes.length + uptoBulk d + 1
  | (_, d) => uptoBulk d + 1
 end
def uptoSmall : (H : Type) → List (DataW H) → Bool := fun _ ds => decide (uptoBulkAll ds ≤ 1048576)
def OpenSpec.upto (s : _root_.Go.ChangeSpec) : _root_.Go.OpenSpec := { _root_.Go.OpenSpec.ofChange s with cond := some uptoSmall }

/-- 'beltwaylaw06.ShareExact', WHERE WHAT IT READS IS OF BULK AT MOST 1048576: true; the input reads as it did. -/
def shareExactUptoRow : OpenClaim := { program := "ytgegpaefamemlaa", sum := "7cf43277557a20a54c79855237ce0638b670573360e1f7f19de0d0db489df9bb", func := "beltway/beltwaylaw06.ShareExact", spec := "shareExact", inPlace := ["math.Float64frombits", "math.Float64bits"], apart := false, narrowed := true }
def ShareExactUptoSaid : Prop := shareExactUptoRow.holds Try.pinned (OpenSpec.upto shareExactSpec)

/-- 'beltwaylaw06.ShareRatios', WHERE WHAT IT READS IS OF BULK AT MOST 1048576: true; the input reads as it did. -/
def shareRatiosUptoRow : OpenClaim := { program := "ytgegpaefamemlaa", sum := "7cf43277557a20a54c79855237ce0638b670573360e1f7f19de0d0db489df9bb", func := "beltway/beltwaylaw06.ShareRatios", spec := "shareRatios", inPlace := ["math.Float64bits", "math.Float64frombits"], apart := false, narrowed := true }
def ShareRatiosUptoSaid : Prop := shareRatiosUptoRow.holds Try.pinned (OpenSpec.upto shareRatiosSpec)

/-- 'beltwaylaw06.ShareFrames', WHERE WHAT IT READS IS OF BULK AT MOST 1048576: true; the input reads as it did. -/
def shareFramesUptoRow : OpenClaim := { program := "ytgegpaefamemlaa", sum := "7cf43277557a20a54c79855237ce0638b670573360e1f7f19de0d0db489df9bb", func := "beltway/beltwaylaw06.ShareFrames", spec := "shareFrames", inPlace := ["math.Float64frombits", "math.Float64bits"], apart := false, narrowed := true }
def ShareFramesUptoSaid : Prop := shareFramesUptoRow.holds Try.pinned (OpenSpec.upto shareFramesSpec)

/-- 'beltwaylaw06.ShareGrows', WHERE WHAT IT READS IS OF BULK AT MOST 1048576: true; the input reads as it did. -/
def shareGrowsUptoRow : OpenClaim := { program := "ytgegpaefamemlaa", sum := "7cf43277557a20a54c79855237ce0638b670573360e1f7f19de0d0db489df9bb", func := "beltway/beltwaylaw06.ShareGrows", spec := "shareGrows", inPlace := ["math.Float64frombits", "math.Float64bits"], apart := false, narrowed := true }
def ShareGrowsUptoSaid : Prop := shareGrowsUptoRow.holds Try.pinned (OpenSpec.upto shareGrowsSpec)

/-- 'beltwaylaw06.ShareOrder', WHERE WHAT IT READS IS OF BULK AT MOST 1048576: true; the input reads as it did. -/
def shareOrderUptoRow : OpenClaim := { program := "ytgegpaefamemlaa", sum := "7cf43277557a20a54c79855237ce0638b670573360e1f7f19de0d0db489df9bb", func := "beltway/beltwaylaw06.ShareOrder", spec := "shareOrder", inPlace := ["math.Float64frombits", "math.Float64bits"], apart := false, narrowed := true }
def ShareOrderUptoSaid : Prop := shareOrderUptoRow.holds Try.pinned (OpenSpec.upto shareOrderSpec)

/-- 'beltwaylaw06.SharePercents', WHERE WHAT IT READS IS OF BULK AT MOST 1048576: true; the input reads as it did. -/
def sharePercentsUptoRow : OpenClaim := { program := "ytgegpaefamemlaa", sum := "7cf43277557a20a54c79855237ce0638b670573360e1f7f19de0d0db489df9bb", func := "beltway/beltwaylaw06.SharePercents", spec := "sharePercents", inPlace := ["math.Float64bits", "math.Float64frombits"], apart := false, narrowed := true }
def SharePercentsUptoSaid : Prop := sharePercentsUptoRow.holds Try.pinned (OpenSpec.upto sharePercentsSpec)

end Rows
end Go.Proofs.Ytgegpaefamemlaa
