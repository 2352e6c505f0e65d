/-
  No cell of these rows narrows 'for every input' (looked for: loops, veiled, ifaces, maps, wideKeys, modest, calm, conditions, laid).
  DERIVED. THE GIVEN ROWS OF THIS SEAT. 4 by the template 'for every input the law returns true; each argument reads behind the call as it read before'; 0 by the template 'total and deterministic' (their statements: YthmiilamegpllaaGreatTotals.lean).
  GIVEN WITH THE SEED: the statements are not yours to turn. If you find one false, say at which input.
  Laid BY PROGRAM, IN A SANDBOX (cutbox-rows.mjs): the forced cells as the released guide's own fill.sh prints them over the translation 60df0e2ba502b709… (all of the seat's roots in one cut). By AI agents, Wed Nov 11 2026. No macro, syntax, notation, axiom, sorry.
-/
import Derived.Test.YthmiilamegpllaaGreatChecked
import GoSem.Claim
import GoSem.ClaimJoined
import GoSem.ClaimMapViews
import Derived.JoinedTies
import Derived.KernelRfl
namespace Go.Proofs.YthmiilamegpllaaGreat
/- THE CELL 'sum', in the pinned program and in every row, IS THE sha256 OF THE DUMP (.gsa) THAT YthmiilamegpllaaGreatProg.lean LOADS. Nothing in Lean hashes anything: it is a label: what it is worth is what the hold of that sum in a sandbox is worth. -/
noncomputable def Tryz.pinned : Pinned := { name := "ythmiilamegpllaagreat", sum := "60df0e2ba502b709978ad35b76b32f3d209b502c39790913c4bbcae492492cf8", checked := Tryz.checked }
namespace Rows
def none {H : Type} : Left H := { results := [], args := [] }

/-- 'beltwaylaw17.TriggerDecides': WHATEVER THE INPUT: true; the input reads as it did. -/
def triggerDecidesSpec : ChangeSpec := { name := "triggerDecides", fn := fun _ => fun
  | [d1, d2, d3, d4, d5, d6, d7, d8, d9] => { results := [.lit (.bool true)], args := [d1, d2, d3, d4, d5, d6, d7, d8, d9] }
  | _ => none }
def triggerDecidesRow : OpenClaim := { program := "ythmiilamegpllaagreat", sum := "60df0e2ba502b709978ad35b76b32f3d209b502c39790913c4bbcae492492cf8", func := "beltway/beltwaylaw17.TriggerDecides", spec := "triggerDecides", inPlace := ["math.Float64bits", "math.Float64frombits"], unfollowed := true, recurses := true, apart := false }
def TriggerDecidesSaid : Prop := triggerDecidesRow.holds Tryz.pinned (OpenSpec.ofChange triggerDecidesSpec)

/-- ITS FALSE NEIGHBOUR: 'it returns false'. Refute it at one input. -/
def triggerDecidesWrong : ChangeSpec := { name := "triggerDecides", fn := fun _ => fun
  | [d1, d2, d3, d4, d5, d6, d7, d8, d9] => { results := [.lit (.bool false)], args := [d1, d2, d3, d4, d5, d6, d7, d8, d9] }
  | _ => none }
def TriggerDecidesWrongFalsely : Prop := triggerDecidesRow.holds Tryz.pinned (OpenSpec.ofChange triggerDecidesWrong)

/-- 'beltwaylaw17.TriggerGrants': WHATEVER THE INPUT: true; the input reads as it did. -/
def triggerGrantsSpec : ChangeSpec := { name := "triggerGrants", fn := fun _ => fun
  | [d1, d2] => { results := [.lit (.bool true)], args := [d1, d2] }
  | _ => none }
def triggerGrantsRow : OpenClaim := { program := "ythmiilamegpllaagreat", sum := "60df0e2ba502b709978ad35b76b32f3d209b502c39790913c4bbcae492492cf8", func := "beltway/beltwaylaw17.TriggerGrants", spec := "triggerGrants", inPlace := ["math.Float64bits", "math.Float64frombits"], unfollowed := true, recurses := true, apart := false }
def TriggerGrantsSaid : Prop := triggerGrantsRow.holds Tryz.pinned (OpenSpec.ofChange triggerGrantsSpec)

/-- ITS FALSE NEIGHBOUR: 'it returns false'. Refute it at one input. -/
def triggerGrantsWrong : ChangeSpec := { name := "triggerGrants", fn := fun _ => fun
  | [d1, d2] => { results := [.lit (.bool false)], args := [d1, d2] }
  | _ => none }
def TriggerGrantsWrongFalsely : Prop := triggerGrantsRow.holds Tryz.pinned (OpenSpec.ofChange triggerGrantsWrong)

/-- 'beltwaylaw17.TriggerLimits': WHATEVER THE INPUT: true; the input reads as it did. -/
def triggerLimitsSpec : ChangeSpec := { name := "triggerLimits", fn := fun _ => fun
  | [d1, d2] => { results := [.lit (.bool true)], args := [d1, d2] }
  | _ => none }
def triggerLimitsRow : OpenClaim := { program := "ythmiilamegpllaagreat", sum := "60df0e2ba502b709978ad35b76b32f3d209b502c39790913c4bbcae492492cf8", func := "beltway/beltwaylaw17.TriggerLimits", spec := "triggerLimits", inPlace := ["math.Float64bits", "math.Float64frombits"], unfollowed := true, recurses := true, apart := false }
def TriggerLimitsSaid : Prop := triggerLimitsRow.holds Tryz.pinned (OpenSpec.ofChange triggerLimitsSpec)

/-- ITS FALSE NEIGHBOUR: 'it returns false'. Refute it at one input. -/
def triggerLimitsWrong : ChangeSpec := { name := "triggerLimits", fn := fun _ => fun
  | [d1, d2] => { results := [.lit (.bool false)], args := [d1, d2] }
  | _ => none }
def TriggerLimitsWrongFalsely : Prop := triggerLimitsRow.holds Tryz.pinned (OpenSpec.ofChange triggerLimitsWrong)

/-- 'beltwaylaw17.TriggerOver': WHATEVER THE INPUT: true; the input reads as it did. -/
def triggerOverSpec : ChangeSpec := { name := "triggerOver", fn := fun _ => fun
  | [d1, d2, d3, d4, d5] => { results := [.lit (.bool true)], args := [d1, d2, d3, d4, d5] }
  | _ => none }
def triggerOverRow : OpenClaim := { program := "ythmiilamegpllaagreat", sum := "60df0e2ba502b709978ad35b76b32f3d209b502c39790913c4bbcae492492cf8", func := "beltway/beltwaylaw17.TriggerOver", spec := "triggerOver", inPlace := ["math.Float64bits", "math.Float64frombits"], unfollowed := true, recurses := true, apart := false }
def TriggerOverSaid : Prop := triggerOverRow.holds Tryz.pinned (OpenSpec.ofChange triggerOverSpec)

/-- ITS FALSE NEIGHBOUR: 'it returns false'. Refute it at one input. -/
def triggerOverWrong : ChangeSpec := { name := "triggerOver", fn := fun _ => fun
  | [d1, d2, d3, d4, d5] => { results := [.lit (.bool false)], args := [d1, d2, d3, d4, d5] }
  | _ => none }
def TriggerOverWrongFalsely : Prop := triggerOverRow.holds Tryz.pinned (OpenSpec.ofChange triggerOverWrong)

/- THE SECOND FORM. 'bulk': how many values and letters a reading holds, each counted each time it is reached (what is shared counts as often as it is met; a slice's spare places count too). A statement '..UptoSaid' is the law's where the arguments, and the package variables that the reading takes, are together of bulk at most 1048576: NARROWER than '..Said'. Prove '..Said' where nothing that the law and all that it calls make is longer than what came in: it says more and counts as full. Else prove '..UptoSaid'. A law counts once. -/
mutual
def uptoBulk {H : Type} : DataW H → Nat
  | .lit (.string bytes) => bytes.length + 1
  | .lit _ => 1
  | .nil => 1
  | .ptr d => uptoBulk d + 1
  | .slice elems spare => uptoBulkAll elems + uptoBulkAll spare + 1
  | .agg parts => uptoBulkAll parts + 1
  | .iface _ d => uptoBulk d + 1
  | .map entries => uptoBulkEntries entries + 1
  | .held _ => 1
def uptoBulkAll {H : Type} : List (DataW H) → Nat
  | [] => 0
  | d :: r => uptoBulk d + uptoBulkAll r
def uptoBulkEntries {H : Type} : List (Lit × DataW H) → Nat
  | [] => 0
  | x :: r => uptoBulkEntry x + uptoBulkEntries r
def uptoBulkEntry {H : Type} : Lit × DataW H → Nat
  | (.string bytes, d) => bytes.length + uptoBulk d + 1
  | (_, d) => uptoBulk d + 1
 end
def uptoSmall : (H : Type) → List (DataW H) → Bool := fun _ ds => decide (uptoBulkAll ds ≤ 1048576)
def OpenSpec.upto (s : _root_.Go.ChangeSpec) : _root_.Go.OpenSpec := { _root_.Go.OpenSpec.ofChange s with cond := some uptoSmall }

/-- 'beltwaylaw17.TriggerDecides', WHERE WHAT IT READS IS OF BULK AT MOST 1048576: true; the input reads as it did. -/
def triggerDecidesUptoRow : OpenClaim := { program := "ythmiilamegpllaagreat", sum := "60df0e2ba502b709978ad35b76b32f3d209b502c39790913c4bbcae492492cf8", func := "beltway/beltwaylaw17.TriggerDecides", spec := "triggerDecides", inPlace := ["math.Float64bits", "math.Float64frombits"], unfollowed := true, recurses := true, apart := false, narrowed := true }
def TriggerDecidesUptoSaid : Prop := triggerDecidesUptoRow.holds Tryz.pinned (OpenSpec.upto triggerDecidesSpec)

/-- 'beltwaylaw17.TriggerGrants', WHERE WHAT IT READS IS OF BULK AT MOST 1048576: true; the input reads as it did. -/
def triggerGrantsUptoRow : OpenClaim := { program := "ythmiilamegpllaagreat", sum := "60df0e2ba502b709978ad35b76b32f3d209b502c39790913c4bbcae492492cf8", func := "beltway/beltwaylaw17.TriggerGrants", spec := "triggerGrants", inPlace := ["math.Float64bits", "math.Float64frombits"], unfollowed := true, recurses := true, apart := false, narrowed := true }
def TriggerGrantsUptoSaid : Prop := triggerGrantsUptoRow.holds Tryz.pinned (OpenSpec.upto triggerGrantsSpec)

/-- 'beltwaylaw17.TriggerLimits', WHERE WHAT IT READS IS OF BULK AT MOST 1048576: true; the input reads as it did. -/
def triggerLimitsUptoRow : OpenClaim := { program := "ythmiilamegpllaagreat", sum := "60df0e2ba502b709978ad35b76b32f3d209b502c39790913c4bbcae492492cf8", func := "beltway/beltwaylaw17.TriggerLimits", spec := "triggerLimits", inPlace := ["math.Float64bits", "math.Float64frombits"], unfollowed := true, recurses := true, apart := false, narrowed := true }
def TriggerLimitsUptoSaid : Prop := triggerLimitsUptoRow.holds Tryz.pinned (OpenSpec.upto triggerLimitsSpec)

/-- 'beltwaylaw17.TriggerOver', WHERE WHAT IT READS IS OF BULK AT MOST 1048576: true; the input reads as it did. -/
def triggerOverUptoRow : OpenClaim := { program := "ythmiilamegpllaagreat", sum := "60df0e2ba502b709978ad35b76b32f3d209b502c39790913c4bbcae492492cf8", func := "beltway/beltwaylaw17.TriggerOver", spec := "triggerOver", inPlace := ["math.Float64bits", "math.Float64frombits"], unfollowed := true, recurses := true, apart := false, narrowed := true }
def TriggerOverUptoSaid : Prop := triggerOverUptoRow.holds Tryz.pinned (OpenSpec.upto triggerOverSpec)

end Rows
end Go.Proofs.YthmiilamegpllaaGreat
