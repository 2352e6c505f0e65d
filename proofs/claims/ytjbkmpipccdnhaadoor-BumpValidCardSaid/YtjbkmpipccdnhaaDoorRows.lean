/-
  NARROWER THAN 'FOR EVERY INPUT', by the rows' own cells (each row's printed sentence says how): BumpValid: laid · BumpWastes: laid · BumpApart: laid · BumpAllocs: laid · BumpDrops: laid.
  DERIVED. THE GIVEN ROWS OF THIS SEAT. 5 by the template 'for every input the law returns true; each argument reads behind the call as it read before'; 0 by the template 'total and deterministic' (their statements: YtjbkmpipccdnhaaDoorTotals.lean).
  GIVEN WITH THE SEED: the statements are not yours to turn. If you find one false, say at which input.
  Laid BY PROGRAM, IN A SANDBOX (cutbox-rows.mjs): the forced cells as the released guide's own fill.sh prints them over the translation 0548ad47b2e6028e… (all of the seat's roots in one cut). By AI agents, Wed Nov 11 2026. No macro, syntax, notation, axiom, sorry.
-/
import Derived.Test.YtjbkmpipccdnhaaDoorChecked
import GoSem.Claim
import GoSem.ClaimJoined
import GoSem.ClaimMapViews
import Derived.JoinedTies
import Derived.KernelRfl
namespace Go.Proofs.YtjbkmpipccdnhaaDoor
/- THE CELL 'sum', in the pinned program and in every row, IS THE sha256 OF THE DUMP (.gsa) THAT YtjbkmpipccdnhaaDoorProg.lean LOADS. Nothing in Lean hashes anything: it is a label: what it is worth is what the hold of that sum in a sandbox is worth. -/
noncomputable def Tryd.pinned : Pinned := { name := "ytjbkmpipccdnhaadoor", sum := "0548ad47b2e6028e3744461942a58f286133511a2040c8cac404abf861a4bbde", checked := Tryd.checked }
namespace Rows
def none {H : Type} : Left H := { results := [], args := [] }

/- WHAT THE LISTED PACKAGE-LEVEL VARIABLES READ AS WHEN THE CALL BEGINS. Each datum BY PROGRAM (the guide's laid-datum.mjs) off the statement by which the dump's own 'gosem.cut.vars' lays the variable. In a bare row this is a premise. The card (YtjbkmpipccdnhaaDoorCards.lean) ties it to the program's text. -/
def laid_math_bits_deBruijn64tab {H : Type} : DataW H := .agg [.lit (.int .u8 0), .lit (.int .u8 1), .lit (.int .u8 56), .lit (.int .u8 2), .lit (.int .u8 57), .lit (.int .u8 49), .lit (.int .u8 28), .lit (.int .u8 3), .lit (.int .u8 61), .lit (.int .u8 58), .lit (.int .u8 42), .lit (.int .u8 50), .lit (.int .u8 38), .lit (.int .u8 29), .lit (.int .u8 17), .lit (.int .u8 4), .lit (.int .u8 62), .lit (.int .u8 47), .lit (.int .u8 59), .lit (.int .u8 36), .lit (.int .u8 45), .lit (.int .u8 43), .lit (.int .u8 51), .lit (.int .u8 22), .lit (.int .u8 53), .lit (.int .u8 39), .lit (.int .u8 33), .lit (.int .u8 30), .lit (.int .u8 24), .lit (.int .u8 18), .lit (.int .u8 12), .lit (.int .u8 5), .lit (.int .u8 63), .lit (.int .u8 55), .lit (.int .u8 48), .lit (.int .u8 27), .lit (.int .u8 60), .lit (.int .u8 41), .lit (.int .u8 37), .lit (.int .u8 16), .lit (.int .u8 46), .lit (.int .u8 35), .lit (.int .u8 44), .lit (.int .u8 21), .lit (.int .u8 52), .lit (.int .u8 32), .lit (.int .u8 23), .lit (.int .u8 11), .lit (.int .u8 54), .lit (.int .u8 26), .lit (.int .u8 40), .lit (.int .u8 15), .lit (.int .u8 34), .lit (.int .u8 20), .lit (.int .u8 31), .lit (.int .u8 10), .lit (.int .u8 25), .lit (.int .u8 14), .lit (.int .u8 19), .lit (.int .u8 9), .lit (.int .u8 13), .lit (.int .u8 8), .lit (.int .u8 7), .lit (.int .u8 6)]

/-- 'beltwaylaw09.BumpValid': WHATEVER THE INPUT: true; the input reads as it did. -/
def bumpValidSpec : ChangeSpec := { name := "bumpValid", fn := fun _ => fun
  | [d1, d2, d3, d4, d5, d6, d7] => { results := [.lit (.bool true)], args := [d1, d2, d3, d4, d5, d6, d7] }
  | _ => none }
def bumpValidRow : OpenClaim := { program := "ytjbkmpipccdnhaadoor", sum := "0548ad47b2e6028e3744461942a58f286133511a2040c8cac404abf861a4bbde", func := "beltway/beltwaylaw09.BumpValid", spec := "bumpValid", named := ["math/bits.deBruijn64tab"], apart := false, laid := [("math/bits.deBruijn64tab", laid_math_bits_deBruijn64tab)] }
def BumpValidSaid : Prop := bumpValidRow.holds Tryd.pinned (OpenSpec.ofChange bumpValidSpec)

/-- ITS FALSE NEIGHBOUR: 'it returns false'. Refute it at one input. -/
def bumpValidWrong : ChangeSpec := { name := "bumpValid", fn := fun _ => fun
  | [d1, d2, d3, d4, d5, d6, d7] => { results := [.lit (.bool false)], args := [d1, d2, d3, d4, d5, d6, d7] }
  | _ => none }
def BumpValidWrongFalsely : Prop := bumpValidRow.holds Tryd.pinned (OpenSpec.ofChange bumpValidWrong)

/-- 'beltwaylaw09.BumpWastes': WHATEVER THE INPUT: true; the input reads as it did. -/
def bumpWastesSpec : ChangeSpec := { name := "bumpWastes", fn := fun _ => fun
  | [d1, d2, d3] => { results := [.lit (.bool true)], args := [d1, d2, d3] }
  | _ => none }
def bumpWastesRow : OpenClaim := { program := "ytjbkmpipccdnhaadoor", sum := "0548ad47b2e6028e3744461942a58f286133511a2040c8cac404abf861a4bbde", func := "beltway/beltwaylaw09.BumpWastes", spec := "bumpWastes", named := ["math/bits.deBruijn64tab"], apart := false, laid := [("math/bits.deBruijn64tab", laid_math_bits_deBruijn64tab)] }
def BumpWastesSaid : Prop := bumpWastesRow.holds Tryd.pinned (OpenSpec.ofChange bumpWastesSpec)

/-- ITS FALSE NEIGHBOUR: 'it returns false'. Refute it at one input. -/
def bumpWastesWrong : ChangeSpec := { name := "bumpWastes", fn := fun _ => fun
  | [d1, d2, d3] => { results := [.lit (.bool false)], args := [d1, d2, d3] }
  | _ => none }
def BumpWastesWrongFalsely : Prop := bumpWastesRow.holds Tryd.pinned (OpenSpec.ofChange bumpWastesWrong)

/-- 'beltwaylaw09.BumpApart': WHATEVER THE INPUT: true; the input reads as it did. -/
def bumpApartSpec : ChangeSpec := { name := "bumpApart", fn := fun _ => fun
  | [d] => { results := [.lit (.bool true)], args := [d] }
  | _ => none }
def bumpApartRow : OpenClaim := { program := "ytjbkmpipccdnhaadoor", sum := "0548ad47b2e6028e3744461942a58f286133511a2040c8cac404abf861a4bbde", func := "beltway/beltwaylaw09.BumpApart", spec := "bumpApart", named := ["math/bits.deBruijn64tab"], apart := false, laid := [("math/bits.deBruijn64tab", laid_math_bits_deBruijn64tab)] }
def BumpApartSaid : Prop := bumpApartRow.holds Tryd.pinned (OpenSpec.ofChange bumpApartSpec)

/-- ITS FALSE NEIGHBOUR: 'it returns false'. Refute it at one input. -/
def bumpApartWrong : ChangeSpec := { name := "bumpApart", fn := fun _ => fun
  | [d] => { results := [.lit (.bool false)], args := [d] }
  | _ => none }
def BumpApartWrongFalsely : Prop := bumpApartRow.holds Tryd.pinned (OpenSpec.ofChange bumpApartWrong)

/-- 'beltwaylaw09.BumpAllocs': WHATEVER THE INPUT: true; the input reads as it did. -/
def bumpAllocsSpec : ChangeSpec := { name := "bumpAllocs", fn := fun _ => fun
  | [d1, d2, d3, d4, d5, d6, d7] => { results := [.lit (.bool true)], args := [d1, d2, d3, d4, d5, d6, d7] }
  | _ => none }
def bumpAllocsRow : OpenClaim := { program := "ytjbkmpipccdnhaadoor", sum := "0548ad47b2e6028e3744461942a58f286133511a2040c8cac404abf861a4bbde", func := "beltway/beltwaylaw09.BumpAllocs", spec := "bumpAllocs", named := ["math/bits.deBruijn64tab"], apart := false, laid := [("math/bits.deBruijn64tab", laid_math_bits_deBruijn64tab)] }
def BumpAllocsSaid : Prop := bumpAllocsRow.holds Tryd.pinned (OpenSpec.ofChange bumpAllocsSpec)

/-- ITS FALSE NEIGHBOUR: 'it returns false'. Refute it at one input. -/
def bumpAllocsWrong : ChangeSpec := { name := "bumpAllocs", fn := fun _ => fun
  | [d1, d2, d3, d4, d5, d6, d7] => { results := [.lit (.bool false)], args := [d1, d2, d3, d4, d5, d6, d7] }
  | _ => none }
def BumpAllocsWrongFalsely : Prop := bumpAllocsRow.holds Tryd.pinned (OpenSpec.ofChange bumpAllocsWrong)

/-- 'beltwaylaw09.BumpDrops': WHATEVER THE INPUT: true; the input reads as it did. -/
def bumpDropsSpec : ChangeSpec := { name := "bumpDrops", fn := fun _ => fun
  | [d1, d2] => { results := [.lit (.bool true)], args := [d1, d2] }
  | _ => none }
def bumpDropsRow : OpenClaim := { program := "ytjbkmpipccdnhaadoor", sum := "0548ad47b2e6028e3744461942a58f286133511a2040c8cac404abf861a4bbde", func := "beltway/beltwaylaw09.BumpDrops", spec := "bumpDrops", named := ["math/bits.deBruijn64tab"], apart := false, laid := [("math/bits.deBruijn64tab", laid_math_bits_deBruijn64tab)] }
def BumpDropsSaid : Prop := bumpDropsRow.holds Tryd.pinned (OpenSpec.ofChange bumpDropsSpec)

/-- ITS FALSE NEIGHBOUR: 'it returns false'. Refute it at one input. -/
def bumpDropsWrong : ChangeSpec := { name := "bumpDrops", fn := fun _ => fun
  | [d1, d2] => { results := [.lit (.bool false)], args := [d1, d2] }
  | _ => none }
def BumpDropsWrongFalsely : Prop := bumpDropsRow.holds Tryd.pinned (OpenSpec.ofChange bumpDropsWrong)

/- THE SECOND FORM. 'bulk': how many values and letters a reading holds, each counted each time it is reached (what is shared counts as often as it is met; a slice's spare places count too). A statement '..UptoSaid' is the law's where the arguments, and the package variables that the reading takes, are together of bulk at most 1048576: NARROWER than '..Said'. Prove '..Said' where nothing that the law and all that it calls make is longer than what came in: it says more and counts as full. Else prove '..UptoSaid'. A law counts once. -/
mutual
def uptoBulk {H : Type} : DataW H → Nat
  | .lit (.string bytes) => bytes.length + 1
  | .lit _ => 1
  | .nil => 1
  | .ptr d => uptoBulk d + 1
  | .slice elems spare => uptoBulkAll elems + uptoBulkAll spare + 1
  | .agg parts => uptoBulkAll parts + 1
  | .iface _ d => uptoBulk d + 1
  | .map entries => uptoBulkEntries entries + 1
  | .held _ => 1
def uptoBulkAll {H : Type} : List (DataW H) → Nat
  | [] => 0
  | d :: r => uptoBulk d + uptoBulkAll r
def uptoBulkEntries {H : Type} : List (Lit × DataW H) → Nat
  | [] => 0
  | x :: r => uptoBulkEntry x + uptoBulkEntries r
def uptoBulkEntry {H : Type} : Lit × DataW H → Nat
  | (.string bytes, d) => bytes.length + uptoBulk d + 1
  | (_, d) => uptoBulk d + 1
 end
def uptoSmall : (H : Type) → List (DataW H) → Bool := fun _ ds => decide (uptoBulkAll ds ≤ 1048576)
def OpenSpec.upto (s : _root_.Go.ChangeSpec) : _root_.Go.OpenSpec := { _root_.Go.OpenSpec.ofChange s with cond := some uptoSmall }

/-- 'beltwaylaw09.BumpValid', WHERE WHAT IT READS IS OF BULK AT MOST 1048576: true; the input reads as it did. -/
def bumpValidUptoRow : OpenClaim := { program := "ytjbkmpipccdnhaadoor", sum := "0548ad47b2e6028e3744461942a58f286133511a2040c8cac404abf861a4bbde", func := "beltway/beltwaylaw09.BumpValid", spec := "bumpValid", named := ["math/bits.deBruijn64tab"], apart := false, laid := [("math/bits.deBruijn64tab", laid_math_bits_deBruijn64tab)], narrowed := true }
def BumpValidUptoSaid : Prop := bumpValidUptoRow.holds Tryd.pinned (OpenSpec.upto bumpValidSpec)

/-- 'beltwaylaw09.BumpWastes', WHERE WHAT IT READS IS OF BULK AT MOST 1048576: true; the input reads as it did. -/
def bumpWastesUptoRow : OpenClaim := { program := "ytjbkmpipccdnhaadoor", sum := "0548ad47b2e6028e3744461942a58f286133511a2040c8cac404abf861a4bbde", func := "beltway/beltwaylaw09.BumpWastes", spec := "bumpWastes", named := ["math/bits.deBruijn64tab"], apart := false, laid := [("math/bits.deBruijn64tab", laid_math_bits_deBruijn64tab)], narrowed := true }
def BumpWastesUptoSaid : Prop := bumpWastesUptoRow.holds Tryd.pinned (OpenSpec.upto bumpWastesSpec)

/-- 'beltwaylaw09.BumpApart', WHERE WHAT IT READS IS OF BULK AT MOST 1048576: true; the input reads as it did. -/
def bumpApartUptoRow : OpenClaim := { program := "ytjbkmpipccdnhaadoor", sum := "0548ad47b2e6028e3744461942a58f286133511a2040c8cac404abf861a4bbde", func := "beltway/beltwaylaw09.BumpApart", spec := "bumpApart", named := ["math/bits.deBruijn64tab"], apart := false, laid := [("math/bits.deBruijn64tab", laid_math_bits_deBruijn64tab)], narrowed := true }
def BumpApartUptoSaid : Prop := bumpApartUptoRow.holds Tryd.pinned (OpenSpec.upto bumpApartSpec)

/-- 'beltwaylaw09.BumpAllocs', WHERE WHAT IT READS IS OF BULK AT MOST 1048576: true; the input reads as it did. -/
def bumpAllocsUptoRow : OpenClaim := { program := "ytjbkmpipccdnhaadoor", sum := "0548ad47b2e6028e3744461942a58f286133511a2040c8cac404abf861a4bbde", func := "beltway/beltwaylaw09.BumpAllocs", spec := "bumpAllocs", named := ["math/bits.deBruijn64tab"], apart := false, laid := [("math/bits.deBruijn64tab", laid_math_bits_deBruijn64tab)], narrowed := true }
def BumpAllocsUptoSaid : Prop := bumpAllocsUptoRow.holds Tryd.pinned (OpenSpec.upto bumpAllocsSpec)

/-- 'beltwaylaw09.BumpDrops', WHERE WHAT IT READS IS OF BULK AT MOST 1048576: true; the input reads as it did. -/
def bumpDropsUptoRow : OpenClaim := { program := "ytjbkmpipccdnhaadoor", sum := "0548ad47b2e6028e3744461942a58f286133511a2040c8cac404abf861a4bbde", func := "beltway/beltwaylaw09.BumpDrops", spec := "bumpDrops", named := ["math/bits.deBruijn64tab"], apart := false, laid := [("math/bits.deBruijn64tab", laid_math_bits_deBruijn64tab)], narrowed := true }
def BumpDropsUptoSaid : Prop := bumpDropsUptoRow.holds Tryd.pinned (OpenSpec.upto bumpDropsSpec)

end Rows
end Go.Proofs.YtjbkmpipccdnhaaDoor
