/-
  No cell of these rows narrows 'for every input' (looked for: loops, veiled, ifaces, maps, wideKeys, modest, calm, conditions, laid).
  DERIVED. THE GIVEN ROWS OF THIS SEAT. 6 by the template 'for every input the law returns true; each argument reads behind the call as it read before'; 0 by the template 'total and deterministic' (their statements: YtlbciinlnccnaaaTotals.lean).
  GIVEN WITH THE SEED: the statements are not yours to turn. If you find one false, say at which input.
  Laid BY PROGRAM, IN A SANDBOX (cutbox-rows.mjs): the forced cells as the released guide's own fill.sh prints them over the translation 3855cef80abdc538… (all of the seat's roots in one cut). By AI agents, Wed Nov 11 2026. No macro, syntax, notation, axiom, sorry.
-/
import Derived.Test.YtlbciinlnccnaaaChecked
import GoSem.Claim
import GoSem.ClaimJoined
import GoSem.ClaimMapViews
import Derived.JoinedTies
import Derived.KernelRfl
namespace Go.Proofs.Ytlbciinlnccnaaa
/- THE CELL 'sum', in the pinned program and in every row, IS THE sha256 OF THE DUMP (.gsa) THAT YtlbciinlnccnaaaProg.lean LOADS. Nothing in Lean hashes anything: it is a label: what it is worth is what the hold of that sum in a sandbox is worth. -/
noncomputable def Try.pinned : Pinned := { name := "ytlbciinlnccnaaa", sum := "3855cef80abdc538a7cd203deb7bc16fbe038f2bcefaa2ebd1548fedf5ef6602", checked := Try.checked }
namespace Rows
def none {H : Type} : Left H := { results := [], args := [] }

/-- 'beltwaylaw01.BitsMasks': WHATEVER THE INPUT: true; the input reads as it did. -/
def bitsMasksSpec : ChangeSpec := { name := "bitsMasks", fn := fun _ => fun
  | [d1, d2] => { results := [.lit (.bool true)], args := [d1, d2] }
  | _ => none }
def bitsMasksRow : OpenClaim := { program := "ytlbciinlnccnaaa", sum := "3855cef80abdc538a7cd203deb7bc16fbe038f2bcefaa2ebd1548fedf5ef6602", func := "beltway/beltwaylaw01.BitsMasks", spec := "bitsMasks", apart := false }
def BitsMasksSaid : Prop := bitsMasksRow.holds Try.pinned (OpenSpec.ofChange bitsMasksSpec)

/-- ITS FALSE NEIGHBOUR: 'it returns false'. Refute it at one input. -/
def bitsMasksWrong : ChangeSpec := { name := "bitsMasks", fn := fun _ => fun
  | [d1, d2] => { results := [.lit (.bool false)], args := [d1, d2] }
  | _ => none }
def BitsMasksWrongFalsely : Prop := bitsMasksRow.holds Try.pinned (OpenSpec.ofChange bitsMasksWrong)

/-- 'beltwaylaw01.BitsBack': WHATEVER THE INPUT: true; the input reads as it did. -/
def bitsBackSpec : ChangeSpec := { name := "bitsBack", fn := fun _ => fun
  | [d1, d2, d3, d4, d5] => { results := [.lit (.bool true)], args := [d1, d2, d3, d4, d5] }
  | _ => none }
def bitsBackRow : OpenClaim := { program := "ytlbciinlnccnaaa", sum := "3855cef80abdc538a7cd203deb7bc16fbe038f2bcefaa2ebd1548fedf5ef6602", func := "beltway/beltwaylaw01.BitsBack", spec := "bitsBack", apart := false }
def BitsBackSaid : Prop := bitsBackRow.holds Try.pinned (OpenSpec.ofChange bitsBackSpec)

/-- ITS FALSE NEIGHBOUR: 'it returns false'. Refute it at one input. -/
def bitsBackWrong : ChangeSpec := { name := "bitsBack", fn := fun _ => fun
  | [d1, d2, d3, d4, d5] => { results := [.lit (.bool false)], args := [d1, d2, d3, d4, d5] }
  | _ => none }
def BitsBackWrongFalsely : Prop := bitsBackRow.holds Try.pinned (OpenSpec.ofChange bitsBackWrong)

/-- 'beltwaylaw01.BitsCeils': WHATEVER THE INPUT: true; the input reads as it did. -/
def bitsCeilsSpec : ChangeSpec := { name := "bitsCeils", fn := fun _ => fun
  | [d1, d2, d3] => { results := [.lit (.bool true)], args := [d1, d2, d3] }
  | _ => none }
def bitsCeilsRow : OpenClaim := { program := "ytlbciinlnccnaaa", sum := "3855cef80abdc538a7cd203deb7bc16fbe038f2bcefaa2ebd1548fedf5ef6602", func := "beltway/beltwaylaw01.BitsCeils", spec := "bitsCeils", apart := false }
def BitsCeilsSaid : Prop := bitsCeilsRow.holds Try.pinned (OpenSpec.ofChange bitsCeilsSpec)

/-- ITS FALSE NEIGHBOUR: 'it returns false'. Refute it at one input. -/
def bitsCeilsWrong : ChangeSpec := { name := "bitsCeils", fn := fun _ => fun
  | [d1, d2, d3] => { results := [.lit (.bool false)], args := [d1, d2, d3] }
  | _ => none }
def BitsCeilsWrongFalsely : Prop := bitsCeilsRow.holds Try.pinned (OpenSpec.ofChange bitsCeilsWrong)

/-- 'beltwaylaw01.BitsFields': WHATEVER THE INPUT: true; the input reads as it did. -/
def bitsFieldsSpec : ChangeSpec := { name := "bitsFields", fn := fun _ => fun
  | [d1, d2, d3, d4] => { results := [.lit (.bool true)], args := [d1, d2, d3, d4] }
  | _ => none }
def bitsFieldsRow : OpenClaim := { program := "ytlbciinlnccnaaa", sum := "3855cef80abdc538a7cd203deb7bc16fbe038f2bcefaa2ebd1548fedf5ef6602", func := "beltway/beltwaylaw01.BitsFields", spec := "bitsFields", apart := false }
def BitsFieldsSaid : Prop := bitsFieldsRow.holds Try.pinned (OpenSpec.ofChange bitsFieldsSpec)

/-- ITS FALSE NEIGHBOUR: 'it returns false'. Refute it at one input. -/
def bitsFieldsWrong : ChangeSpec := { name := "bitsFields", fn := fun _ => fun
  | [d1, d2, d3, d4] => { results := [.lit (.bool false)], args := [d1, d2, d3, d4] }
  | _ => none }
def BitsFieldsWrongFalsely : Prop := bitsFieldsRow.holds Try.pinned (OpenSpec.ofChange bitsFieldsWrong)

/-- 'beltwaylaw01.BitsParts': WHATEVER THE INPUT: true; the input reads as it did. -/
def bitsPartsSpec : ChangeSpec := { name := "bitsParts", fn := fun _ => fun
  | [d1, d2, d3, d4] => { results := [.lit (.bool true)], args := [d1, d2, d3, d4] }
  | _ => none }
def bitsPartsRow : OpenClaim := { program := "ytlbciinlnccnaaa", sum := "3855cef80abdc538a7cd203deb7bc16fbe038f2bcefaa2ebd1548fedf5ef6602", func := "beltway/beltwaylaw01.BitsParts", spec := "bitsParts", apart := false }
def BitsPartsSaid : Prop := bitsPartsRow.holds Try.pinned (OpenSpec.ofChange bitsPartsSpec)

/-- ITS FALSE NEIGHBOUR: 'it returns false'. Refute it at one input. -/
def bitsPartsWrong : ChangeSpec := { name := "bitsParts", fn := fun _ => fun
  | [d1, d2, d3, d4] => { results := [.lit (.bool false)], args := [d1, d2, d3, d4] }
  | _ => none }
def BitsPartsWrongFalsely : Prop := bitsPartsRow.holds Try.pinned (OpenSpec.ofChange bitsPartsWrong)

/-- 'beltwaylaw01.BitsLogs': WHATEVER THE INPUT: true; the input reads as it did. -/
def bitsLogsSpec : ChangeSpec := { name := "bitsLogs", fn := fun _ => fun
  | [d1, d2] => { results := [.lit (.bool true)], args := [d1, d2] }
  | _ => none }
def bitsLogsRow : OpenClaim := { program := "ytlbciinlnccnaaa", sum := "3855cef80abdc538a7cd203deb7bc16fbe038f2bcefaa2ebd1548fedf5ef6602", func := "beltway/beltwaylaw01.BitsLogs", spec := "bitsLogs", apart := false }
def BitsLogsSaid : Prop := bitsLogsRow.holds Try.pinned (OpenSpec.ofChange bitsLogsSpec)

/-- ITS FALSE NEIGHBOUR: 'it returns false'. Refute it at one input. -/
def bitsLogsWrong : ChangeSpec := { name := "bitsLogs", fn := fun _ => fun
  | [d1, d2] => { results := [.lit (.bool false)], args := [d1, d2] }
  | _ => none }
def BitsLogsWrongFalsely : Prop := bitsLogsRow.holds Try.pinned (OpenSpec.ofChange bitsLogsWrong)

/- THE SECOND FORM. 'bulk': how many values and letters a reading holds, each counted each time it is reached (what is shared counts as often as it is met; a slice's spare places count too). A statement '..UptoSaid' is the law's where the arguments, and the package variables that the reading takes, are together of bulk at most 1048576: NARROWER than '..Said'. Prove '..Said' where nothing that the law and all that it calls make is longer than what came in: it says more and counts as full. Else prove '..UptoSaid'. A law counts once. -/
mutual
def uptoBulk {H : Type} : DataW H → Nat
  | .lit (.string bytes) => bytes.length + 1
  | .lit _ => 1
  | .nil => 1
  | .ptr d => uptoBulk d + 1
  | .slice elems spare => uptoBulkAll elems + uptoBulkAll spare + 1
  | .agg parts => uptoBulkAll parts + 1
  | .iface _ d => uptoBulk d + 1
  | .map entries => uptoBulkEntries entries + 1
  | .held _ => 1
def uptoBulkAll {H : Type} : List (DataW H) → Nat
  | [] => 0
  | d :: r => uptoBulk d + uptoBulkAll r
def uptoBulkEntries {H : Type} : List (Lit × DataW H) → Nat
  | [] => 0
  | x :: r => uptoBulkEntry x + uptoBulkEntries r
def uptoBulkEntry {H : Type} : Lit × DataW H → Nat
  | (.string bytes, d) => bytes.length + uptoBulk d + 1
  | (_, d) => uptoBulk d + 1
 end
def uptoSmall : (H : Type) → List (DataW H) → Bool := fun _ ds => decide (uptoBulkAll ds ≤ 1048576)
def OpenSpec.upto (s : _root_.Go.ChangeSpec) : _root_.Go.OpenSpec := { _root_.Go.OpenSpec.ofChange s with cond := some uptoSmall }

/-- 'beltwaylaw01.BitsMasks', WHERE WHAT IT READS IS OF BULK AT MOST 1048576: true; the input reads as it did. -/
def bitsMasksUptoRow : OpenClaim := { program := "ytlbciinlnccnaaa", sum := "3855cef80abdc538a7cd203deb7bc16fbe038f2bcefaa2ebd1548fedf5ef6602", func := "beltway/beltwaylaw01.BitsMasks", spec := "bitsMasks", apart := false, narrowed := true }
def BitsMasksUptoSaid : Prop := bitsMasksUptoRow.holds Try.pinned (OpenSpec.upto bitsMasksSpec)

/-- 'beltwaylaw01.BitsBack', WHERE WHAT IT READS IS OF BULK AT MOST 1048576: true; the input reads as it did. -/
def bitsBackUptoRow : OpenClaim := { program := "ytlbciinlnccnaaa", sum := "3855cef80abdc538a7cd203deb7bc16fbe038f2bcefaa2ebd1548fedf5ef6602", func := "beltway/beltwaylaw01.BitsBack", spec := "bitsBack", apart := false, narrowed := true }
def BitsBackUptoSaid : Prop := bitsBackUptoRow.holds Try.pinned (OpenSpec.upto bitsBackSpec)

/-- 'beltwaylaw01.BitsCeils', WHERE WHAT IT READS IS OF BULK AT MOST 1048576: true; the input reads as it did. -/
def bitsCeilsUptoRow : OpenClaim := { program := "ytlbciinlnccnaaa", sum := "3855cef80abdc538a7cd203deb7bc16fbe038f2bcefaa2ebd1548fedf5ef6602", func := "beltway/beltwaylaw01.BitsCeils", spec := "bitsCeils", apart := false, narrowed := true }
def BitsCeilsUptoSaid : Prop := bitsCeilsUptoRow.holds Try.pinned (OpenSpec.upto bitsCeilsSpec)

/-- 'beltwaylaw01.BitsFields', WHERE WHAT IT READS IS OF BULK AT MOST 1048576: true; the input reads as it did. -/
def bitsFieldsUptoRow : OpenClaim := { program := "ytlbciinlnccnaaa", sum := "3855cef80abdc538a7cd203deb7bc16fbe038f2bcefaa2ebd1548fedf5ef6602", func := "beltway/beltwaylaw01.BitsFields", spec := "bitsFields", apart := false, narrowed := true }
def BitsFieldsUptoSaid : Prop := bitsFieldsUptoRow.holds Try.pinned (OpenSpec.upto bitsFieldsSpec)

/-- 'beltwaylaw01.BitsParts', WHERE WHAT IT READS IS OF BULK AT MOST 1048576: true; the input reads as it did. -/
def bitsPartsUptoRow : OpenClaim := { program := "ytlbciinlnccnaaa", sum := "3855cef80abdc538a7cd203deb7bc16fbe038f2bcefaa2ebd1548fedf5ef6602", func := "beltway/beltwaylaw01.BitsParts", spec := "bitsParts", apart := false, narrowed := true }
def BitsPartsUptoSaid : Prop := bitsPartsUptoRow.holds Try.pinned (OpenSpec.upto bitsPartsSpec)

/-- 'beltwaylaw01.BitsLogs', WHERE WHAT IT READS IS OF BULK AT MOST 1048576: true; the input reads as it did. -/
def bitsLogsUptoRow : OpenClaim := { program := "ytlbciinlnccnaaa", sum := "3855cef80abdc538a7cd203deb7bc16fbe038f2bcefaa2ebd1548fedf5ef6602", func := "beltway/beltwaylaw01.BitsLogs", spec := "bitsLogs", apart := false, narrowed := true }
def BitsLogsUptoSaid : Prop := bitsLogsUptoRow.holds Try.pinned (OpenSpec.upto bitsLogsSpec)

end Rows
end Go.Proofs.Ytlbciinlnccnaaa
