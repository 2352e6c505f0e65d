/-
  No cell of these rows narrows 'for every input' (looked for: loops, veiled, ifaces, maps, wideKeys, modest, calm, conditions, laid).
  DERIVED. THE GIVEN ROWS OF THIS SEAT. 4 by the template 'for every input the law returns true; each argument reads behind the call as it read before'; 0 by the template 'total and deterministic' (their statements: YtdkigndboblimaaTotals.lean).
  GIVEN WITH THE SEED: the statements are not yours to turn. If you find one false, say at which input.
  Laid BY PROGRAM, IN A SANDBOX (cutbox-rows.mjs): the forced cells as the released guide's own fill.sh prints them over the translation dc6a69a523220bc2… (all of the seat's roots in one cut). By AI agents, Wed Nov 11 2026. No macro, syntax, notation, axiom, sorry.
-/
import Derived.Test.YtdkigndboblimaaChecked
import GoSem.Claim
import GoSem.ClaimJoined
import GoSem.ClaimMapViews
import Derived.JoinedTies
import Derived.KernelRfl
namespace Go.Proofs.Ytdkigndboblimaa
/- THE CELL 'sum', in the pinned program and in every row, IS THE sha256 OF THE DUMP (.gsa) THAT YtdkigndboblimaaProg.lean LOADS. Nothing in Lean hashes anything: it is a label: what it is worth is what the hold of that sum in a sandbox is worth. -/
noncomputable def Try.pinned : Pinned := { name := "ytdkigndboblimaa", sum := "dc6a69a523220bc29867a3439651d2a41e96d72cf529b26b3910833ae2c7449f", checked := Try.checked }
namespace Rows
def none {H : Type} : Left H := { results := [], args := [] }

/-- 'beltwaylaw07.HeaderMakes': WHATEVER THE INPUT: true; the input reads as it did. -/
def headerMakesSpec : ChangeSpec := { name := "headerMakes", fn := fun _ => fun
  | [d1, d2, d3] => { results := [.lit (.bool true)], args := [d1, d2, d3] }
  | _ => none }
def headerMakesRow : OpenClaim := { program := "ytdkigndboblimaa", sum := "dc6a69a523220bc29867a3439651d2a41e96d72cf529b26b3910833ae2c7449f", func := "beltway/beltwaylaw07.HeaderMakes", spec := "headerMakes", apart := false }
def HeaderMakesSaid : Prop := headerMakesRow.holds Try.pinned (OpenSpec.ofChange headerMakesSpec)

/-- ITS FALSE NEIGHBOUR: 'it returns false'. Refute it at one input. -/
def headerMakesWrong : ChangeSpec := { name := "headerMakes", fn := fun _ => fun
  | [d1, d2, d3] => { results := [.lit (.bool false)], args := [d1, d2, d3] }
  | _ => none }
def HeaderMakesWrongFalsely : Prop := headerMakesRow.holds Try.pinned (OpenSpec.ofChange headerMakesWrong)

/-- 'beltwaylaw07.HeaderApart': WHATEVER THE INPUT: true; the input reads as it did. -/
def headerApartSpec : ChangeSpec := { name := "headerApart", fn := fun _ => fun
  | [d1, d2, d3, d4, d5, d6] => { results := [.lit (.bool true)], args := [d1, d2, d3, d4, d5, d6] }
  | _ => none }
def headerApartRow : OpenClaim := { program := "ytdkigndboblimaa", sum := "dc6a69a523220bc29867a3439651d2a41e96d72cf529b26b3910833ae2c7449f", func := "beltway/beltwaylaw07.HeaderApart", spec := "headerApart", apart := false }
def HeaderApartSaid : Prop := headerApartRow.holds Try.pinned (OpenSpec.ofChange headerApartSpec)

/-- ITS FALSE NEIGHBOUR: 'it returns false'. Refute it at one input. -/
def headerApartWrong : ChangeSpec := { name := "headerApart", fn := fun _ => fun
  | [d1, d2, d3, d4, d5, d6] => { results := [.lit (.bool false)], args := [d1, d2, d3, d4, d5, d6] }
  | _ => none }
def HeaderApartWrongFalsely : Prop := headerApartRow.holds Try.pinned (OpenSpec.ofChange headerApartWrong)

/-- 'beltwaylaw07.HeaderReads': WHATEVER THE INPUT: true; the input reads as it did. -/
def headerReadsSpec : ChangeSpec := { name := "headerReads", fn := fun _ => fun
  | [d1, d2, d3, d4] => { results := [.lit (.bool true)], args := [d1, d2, d3, d4] }
  | _ => none }
def headerReadsRow : OpenClaim := { program := "ytdkigndboblimaa", sum := "dc6a69a523220bc29867a3439651d2a41e96d72cf529b26b3910833ae2c7449f", func := "beltway/beltwaylaw07.HeaderReads", spec := "headerReads", apart := false }
def HeaderReadsSaid : Prop := headerReadsRow.holds Try.pinned (OpenSpec.ofChange headerReadsSpec)

/-- ITS FALSE NEIGHBOUR: 'it returns false'. Refute it at one input. -/
def headerReadsWrong : ChangeSpec := { name := "headerReads", fn := fun _ => fun
  | [d1, d2, d3, d4] => { results := [.lit (.bool false)], args := [d1, d2, d3, d4] }
  | _ => none }
def HeaderReadsWrongFalsely : Prop := headerReadsRow.holds Try.pinned (OpenSpec.ofChange headerReadsWrong)

/-- 'beltwaylaw07.HeaderBack': WHATEVER THE INPUT: true; the input reads as it did. -/
def headerBackSpec : ChangeSpec := { name := "headerBack", fn := fun _ => fun
  | [d1, d2, d3, d4] => { results := [.lit (.bool true)], args := [d1, d2, d3, d4] }
  | _ => none }
def headerBackRow : OpenClaim := { program := "ytdkigndboblimaa", sum := "dc6a69a523220bc29867a3439651d2a41e96d72cf529b26b3910833ae2c7449f", func := "beltway/beltwaylaw07.HeaderBack", spec := "headerBack", apart := false }
def HeaderBackSaid : Prop := headerBackRow.holds Try.pinned (OpenSpec.ofChange headerBackSpec)

/-- ITS FALSE NEIGHBOUR: 'it returns false'. Refute it at one input. -/
def headerBackWrong : ChangeSpec := { name := "headerBack", fn := fun _ => fun
  | [d1, d2, d3, d4] => { results := [.lit (.bool false)], args := [d1, d2, d3, d4] }
  | _ => none }
def HeaderBackWrongFalsely : Prop := headerBackRow.holds Try.pinned (OpenSpec.ofChange headerBackWrong)

/- THE SECOND FORM. 'bulk': how many values and letters a reading holds, each counted each time it is reached (what is shared counts as often as it is met; a slice's spare places count too). A statement '..UptoSaid' is the law's where the arguments, and the package variables that the reading takes, are together of bulk at most 1048576: NARROWER than '..Said'. Prove '..Said' where nothing that the law and all that it calls make is longer than what came in: it says more and counts as full. Else prove '..UptoSaid'. A law counts once. -/
mutual
def uptoBulk {H : Type} : DataW H → Nat
  | .lit (.string bytes) => bytes.length + 1
  | .lit _ => 1
  | .nil => 1
  | .ptr d => uptoBulk d + 1
  | .slice elems spare => uptoBulkAll elems + uptoBulkAll spare + 1
  | .agg parts => uptoBulkAll parts + 1
  | .iface _ d => uptoBulk d + 1
  | .map entries => uptoBulkEntries entries + 1
  | .held _ => 1
def uptoBulkAll {H : Type} : List (DataW H) → Nat
  | [] => 0
  | d :: r => uptoBulk d + uptoBulkAll r
def uptoBulkEntries {H : Type} : List (Lit × DataW H) → Nat
  | [] => 0
  | x :: r => uptoBulkEntry x + uptoBulkEntries r
def uptoBulkEntry {H : Type} : Lit × DataW H → Nat
  | (.string bytes, d) => bytes.length + uptoBulk d + 1
  | (_, d) => uptoBulk d + 1
 end
def uptoSmall : (H : Type) → List (DataW H) → Bool := fun _ ds => decide (uptoBulkAll ds ≤ 1048576)
def OpenSpec.upto (s : _root_.Go.ChangeSpec) : _root_.Go.OpenSpec := { _root_.Go.OpenSpec.ofChange s with cond := some uptoSmall }

/-- 'beltwaylaw07.HeaderMakes', WHERE WHAT IT READS IS OF BULK AT MOST 1048576: true; the input reads as it did. -/
def headerMakesUptoRow : OpenClaim := { program := "ytdkigndboblimaa", sum := "dc6a69a523220bc29867a3439651d2a41e96d72cf529b26b3910833ae2c7449f", func := "beltway/beltwaylaw07.HeaderMakes", spec := "headerMakes", apart := false, narrowed := true }
def HeaderMakesUptoSaid : Prop := headerMakesUptoRow.holds Try.pinned (OpenSpec.upto headerMakesSpec)

/-- 'beltwaylaw07.HeaderApart', WHERE WHAT IT READS IS OF BULK AT MOST 1048576: true; the input reads as it did. -/
def headerApartUptoRow : OpenClaim := { program := "ytdkigndboblimaa", sum := "dc6a69a523220bc29867a3439651d2a41e96d72cf529b26b3910833ae2c7449f", func := "beltway/beltwaylaw07.HeaderApart", spec := "headerApart", apart := false, narrowed := true }
def HeaderApartUptoSaid : Prop := headerApartUptoRow.holds Try.pinned (OpenSpec.upto headerApartSpec)

/-- 'beltwaylaw07.HeaderReads', WHERE WHAT IT READS IS OF BULK AT MOST 1048576: true; the input reads as it did. -/
def headerReadsUptoRow : OpenClaim := { program := "ytdkigndboblimaa", sum := "dc6a69a523220bc29867a3439651d2a41e96d72cf529b26b3910833ae2c7449f", func := "beltway/beltwaylaw07.HeaderReads", spec := "headerReads", apart := false, narrowed := true }
def HeaderReadsUptoSaid : Prop := headerReadsUptoRow.holds Try.pinned (OpenSpec.upto headerReadsSpec)

/-- 'beltwaylaw07.HeaderBack', WHERE WHAT IT READS IS OF BULK AT MOST 1048576: true; the input reads as it did. -/
def headerBackUptoRow : OpenClaim := { program := "ytdkigndboblimaa", sum := "dc6a69a523220bc29867a3439651d2a41e96d72cf529b26b3910833ae2c7449f", func := "beltway/beltwaylaw07.HeaderBack", spec := "headerBack", apart := false, narrowed := true }
def HeaderBackUptoSaid : Prop := headerBackUptoRow.holds Try.pinned (OpenSpec.upto headerBackSpec)

end Rows
end Go.Proofs.Ytdkigndboblimaa
