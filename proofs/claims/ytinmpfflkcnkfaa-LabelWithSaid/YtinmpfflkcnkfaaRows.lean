/-
  No cell of these rows narrows 'for every input' (looked for: loops, veiled, ifaces, maps, wideKeys, modest, calm, conditions, laid).
  DERIVED. THE GIVEN ROWS OF THIS SEAT. 9 by the template 'for every input the law returns true; each argument reads behind the call as it read before'; 0 by the template 'total and deterministic' (their statements: YtinmpfflkcnkfaaTotals.lean).
  GIVEN WITH THE SEED: the statements are not yours to turn. If you find one false, say at which input.
  Laid BY PROGRAM, IN A SANDBOX (cutbox-rows.mjs): the forced cells as the released guide's own fill.sh prints them over the translation 1ce27dd379217cb2… (all of the seat's roots in one cut). By AI agents, Wed Nov 11 2026. No macro, syntax, notation, axiom, sorry.
-/
import Derived.Test.YtinmpfflkcnkfaaChecked
import GoSem.Claim
import GoSem.ClaimJoined
import GoSem.ClaimMapViews
import Derived.JoinedTies
import Derived.KernelRfl
namespace Go.Proofs.Ytinmpfflkcnkfaa
/- THE CELL 'sum', in the pinned program and in every row, IS THE sha256 OF THE DUMP (.gsa) THAT YtinmpfflkcnkfaaProg.lean LOADS. Nothing in Lean hashes anything: it is a label: what it is worth is what the hold of that sum in a sandbox is worth. -/
noncomputable def Try.pinned : Pinned := { name := "ytinmpfflkcnkfaa", sum := "1ce27dd379217cb2fd49d1fe91dedf1657a45b849ae2c26ab4467227542d58aa", checked := Try.checked }
namespace Rows
def none {H : Type} : Left H := { results := [], args := [] }

/-- 'spillwaylaw3.LabelReads': WHATEVER THE INPUT: true; the input reads as it did. -/
def labelReadsSpec : ChangeSpec := { name := "labelReads", fn := fun _ => fun
  | [d] => { results := [.lit (.bool true)], args := [d] }
  | _ => none }
def labelReadsRow : OpenClaim := { program := "ytinmpfflkcnkfaa", sum := "1ce27dd379217cb2fd49d1fe91dedf1657a45b849ae2c26ab4467227542d58aa", func := "spillway/spillwaylaw3.LabelReads", spec := "labelReads", inPlace := ["internal/bytealg.abigen_runtime_cmpstring", "internal/bytealg.IndexByteString", "internal/bytealg.IndexString", "internal/abi.NoEscape", "internal/bytealg.MakeNoZero"], unfollowed := true, recurses := true, named := ["internal/bytealg.MaxLen"], apart := false }
def LabelReadsSaid : Prop := labelReadsRow.holds Try.pinned (OpenSpec.ofChange labelReadsSpec)

/-- ITS FALSE NEIGHBOUR: 'it returns false'. Refute it at one input. -/
def labelReadsWrong : ChangeSpec := { name := "labelReads", fn := fun _ => fun
  | [d] => { results := [.lit (.bool false)], args := [d] }
  | _ => none }
def LabelReadsWrongFalsely : Prop := labelReadsRow.holds Try.pinned (OpenSpec.ofChange labelReadsWrong)

/-- 'spillwaylaw3.LabelBack': WHATEVER THE INPUT: true; the input reads as it did. -/
def labelBackSpec : ChangeSpec := { name := "labelBack", fn := fun _ => fun
  | [d1, d2] => { results := [.lit (.bool true)], args := [d1, d2] }
  | _ => none }
def labelBackRow : OpenClaim := { program := "ytinmpfflkcnkfaa", sum := "1ce27dd379217cb2fd49d1fe91dedf1657a45b849ae2c26ab4467227542d58aa", func := "spillway/spillwaylaw3.LabelBack", spec := "labelBack", inPlace := ["internal/bytealg.abigen_runtime_cmpstring", "internal/bytealg.IndexByteString", "internal/bytealg.IndexString", "internal/abi.NoEscape", "internal/bytealg.MakeNoZero"], unfollowed := true, recurses := true, named := ["internal/bytealg.MaxLen"], apart := false }
def LabelBackSaid : Prop := labelBackRow.holds Try.pinned (OpenSpec.ofChange labelBackSpec)

/-- ITS FALSE NEIGHBOUR: 'it returns false'. Refute it at one input. -/
def labelBackWrong : ChangeSpec := { name := "labelBack", fn := fun _ => fun
  | [d1, d2] => { results := [.lit (.bool false)], args := [d1, d2] }
  | _ => none }
def LabelBackWrongFalsely : Prop := labelBackRow.holds Try.pinned (OpenSpec.ofChange labelBackWrong)

/-- 'spillwaylaw3.LabelBounds': WHATEVER THE INPUT: true; the input reads as it did. -/
def labelBoundsSpec : ChangeSpec := { name := "labelBounds", fn := fun _ => fun
  | [d1, d2, d3] => { results := [.lit (.bool true)], args := [d1, d2, d3] }
  | _ => none }
def labelBoundsRow : OpenClaim := { program := "ytinmpfflkcnkfaa", sum := "1ce27dd379217cb2fd49d1fe91dedf1657a45b849ae2c26ab4467227542d58aa", func := "spillway/spillwaylaw3.LabelBounds", spec := "labelBounds", inPlace := ["internal/bytealg.abigen_runtime_cmpstring", "internal/bytealg.IndexByteString", "internal/bytealg.IndexString", "internal/abi.NoEscape", "internal/bytealg.MakeNoZero"], unfollowed := true, recurses := true, named := ["internal/bytealg.MaxLen"], apart := false }
def LabelBoundsSaid : Prop := labelBoundsRow.holds Try.pinned (OpenSpec.ofChange labelBoundsSpec)

/-- ITS FALSE NEIGHBOUR: 'it returns false'. Refute it at one input. -/
def labelBoundsWrong : ChangeSpec := { name := "labelBounds", fn := fun _ => fun
  | [d1, d2, d3] => { results := [.lit (.bool false)], args := [d1, d2, d3] }
  | _ => none }
def LabelBoundsWrongFalsely : Prop := labelBoundsRow.holds Try.pinned (OpenSpec.ofChange labelBoundsWrong)

/-- 'spillwaylaw3.LabelSorted': WHATEVER THE INPUT: true; the input reads as it did. -/
def labelSortedSpec : ChangeSpec := { name := "labelSorted", fn := fun _ => fun
  | [d1, d2] => { results := [.lit (.bool true)], args := [d1, d2] }
  | _ => none }
def labelSortedRow : OpenClaim := { program := "ytinmpfflkcnkfaa", sum := "1ce27dd379217cb2fd49d1fe91dedf1657a45b849ae2c26ab4467227542d58aa", func := "spillway/spillwaylaw3.LabelSorted", spec := "labelSorted", inPlace := ["internal/bytealg.abigen_runtime_cmpstring", "internal/bytealg.IndexByteString", "internal/bytealg.IndexString", "internal/abi.NoEscape", "internal/bytealg.MakeNoZero"], unfollowed := true, recurses := true, named := ["internal/bytealg.MaxLen"], apart := false }
def LabelSortedSaid : Prop := labelSortedRow.holds Try.pinned (OpenSpec.ofChange labelSortedSpec)

/-- ITS FALSE NEIGHBOUR: 'it returns false'. Refute it at one input. -/
def labelSortedWrong : ChangeSpec := { name := "labelSorted", fn := fun _ => fun
  | [d1, d2] => { results := [.lit (.bool false)], args := [d1, d2] }
  | _ => none }
def LabelSortedWrongFalsely : Prop := labelSortedRow.holds Try.pinned (OpenSpec.ofChange labelSortedWrong)

/-- 'spillwaylaw3.LabelCmp': WHATEVER THE INPUT: true; the input reads as it did. -/
def labelCmpSpec : ChangeSpec := { name := "labelCmp", fn := fun _ => fun
  | [d1, d2, d3, d4] => { results := [.lit (.bool true)], args := [d1, d2, d3, d4] }
  | _ => none }
def labelCmpRow : OpenClaim := { program := "ytinmpfflkcnkfaa", sum := "1ce27dd379217cb2fd49d1fe91dedf1657a45b849ae2c26ab4467227542d58aa", func := "spillway/spillwaylaw3.LabelCmp", spec := "labelCmp", inPlace := ["internal/bytealg.abigen_runtime_cmpstring", "internal/bytealg.IndexByteString", "internal/bytealg.IndexString", "internal/abi.NoEscape", "internal/bytealg.MakeNoZero"], unfollowed := true, recurses := true, named := ["internal/bytealg.MaxLen"], apart := false }
def LabelCmpSaid : Prop := labelCmpRow.holds Try.pinned (OpenSpec.ofChange labelCmpSpec)

/-- ITS FALSE NEIGHBOUR: 'it returns false'. Refute it at one input. -/
def labelCmpWrong : ChangeSpec := { name := "labelCmp", fn := fun _ => fun
  | [d1, d2, d3, d4] => { results := [.lit (.bool false)], args := [d1, d2, d3, d4] }
  | _ => none }
def LabelCmpWrongFalsely : Prop := labelCmpRow.holds Try.pinned (OpenSpec.ofChange labelCmpWrong)

/-- 'spillwaylaw3.LabelQuotes': WHATEVER THE INPUT: true; the input reads as it did. -/
def labelQuotesSpec : ChangeSpec := { name := "labelQuotes", fn := fun _ => fun
  | [d1, d2] => { results := [.lit (.bool true)], args := [d1, d2] }
  | _ => none }
def labelQuotesRow : OpenClaim := { program := "ytinmpfflkcnkfaa", sum := "1ce27dd379217cb2fd49d1fe91dedf1657a45b849ae2c26ab4467227542d58aa", func := "spillway/spillwaylaw3.LabelQuotes", spec := "labelQuotes", inPlace := ["internal/bytealg.abigen_runtime_cmpstring", "internal/bytealg.IndexByteString", "internal/bytealg.IndexString", "internal/abi.NoEscape", "internal/bytealg.MakeNoZero"], unfollowed := true, recurses := true, named := ["internal/bytealg.MaxLen"], apart := false }
def LabelQuotesSaid : Prop := labelQuotesRow.holds Try.pinned (OpenSpec.ofChange labelQuotesSpec)

/-- ITS FALSE NEIGHBOUR: 'it returns false'. Refute it at one input. -/
def labelQuotesWrong : ChangeSpec := { name := "labelQuotes", fn := fun _ => fun
  | [d1, d2] => { results := [.lit (.bool false)], args := [d1, d2] }
  | _ => none }
def LabelQuotesWrongFalsely : Prop := labelQuotesRow.holds Try.pinned (OpenSpec.ofChange labelQuotesWrong)

/-- 'spillwaylaw3.LabelParts': WHATEVER THE INPUT: true; the input reads as it did. -/
def labelPartsSpec : ChangeSpec := { name := "labelParts", fn := fun _ => fun
  | [d1, d2] => { results := [.lit (.bool true)], args := [d1, d2] }
  | _ => none }
def labelPartsRow : OpenClaim := { program := "ytinmpfflkcnkfaa", sum := "1ce27dd379217cb2fd49d1fe91dedf1657a45b849ae2c26ab4467227542d58aa", func := "spillway/spillwaylaw3.LabelParts", spec := "labelParts", inPlace := ["internal/bytealg.abigen_runtime_cmpstring", "internal/bytealg.IndexByteString", "internal/bytealg.IndexString", "internal/abi.NoEscape", "internal/bytealg.MakeNoZero"], unfollowed := true, recurses := true, named := ["internal/bytealg.MaxLen"], apart := false }
def LabelPartsSaid : Prop := labelPartsRow.holds Try.pinned (OpenSpec.ofChange labelPartsSpec)

/-- ITS FALSE NEIGHBOUR: 'it returns false'. Refute it at one input. -/
def labelPartsWrong : ChangeSpec := { name := "labelParts", fn := fun _ => fun
  | [d1, d2] => { results := [.lit (.bool false)], args := [d1, d2] }
  | _ => none }
def LabelPartsWrongFalsely : Prop := labelPartsRow.holds Try.pinned (OpenSpec.ofChange labelPartsWrong)

/-- 'spillwaylaw3.LabelWith': WHATEVER THE INPUT: true; the input reads as it did. -/
def labelWithSpec : ChangeSpec := { name := "labelWith", fn := fun _ => fun
  | [d1, d2, d3] => { results := [.lit (.bool true)], args := [d1, d2, d3] }
  | _ => none }
def labelWithRow : OpenClaim := { program := "ytinmpfflkcnkfaa", sum := "1ce27dd379217cb2fd49d1fe91dedf1657a45b849ae2c26ab4467227542d58aa", func := "spillway/spillwaylaw3.LabelWith", spec := "labelWith", inPlace := ["internal/bytealg.abigen_runtime_cmpstring", "internal/bytealg.IndexByteString", "internal/bytealg.IndexString", "internal/abi.NoEscape", "internal/bytealg.MakeNoZero", "slices.overlaps[spillway/api.Pair]"], unfollowed := true, recurses := true, named := ["internal/bytealg.MaxLen"], apart := false }
def LabelWithSaid : Prop := labelWithRow.holds Try.pinned (OpenSpec.ofChange labelWithSpec)

/-- ITS FALSE NEIGHBOUR: 'it returns false'. Refute it at one input. -/
def labelWithWrong : ChangeSpec := { name := "labelWith", fn := fun _ => fun
  | [d1, d2, d3] => { results := [.lit (.bool false)], args := [d1, d2, d3] }
  | _ => none }
def LabelWithWrongFalsely : Prop := labelWithRow.holds Try.pinned (OpenSpec.ofChange labelWithWrong)

/-- 'spillwaylaw3.LabelTells': WHATEVER THE INPUT: true; the input reads as it did. -/
def labelTellsSpec : ChangeSpec := { name := "labelTells", fn := fun _ => fun
  | [d1, d2, d3, d4] => { results := [.lit (.bool true)], args := [d1, d2, d3, d4] }
  | _ => none }
def labelTellsRow : OpenClaim := { program := "ytinmpfflkcnkfaa", sum := "1ce27dd379217cb2fd49d1fe91dedf1657a45b849ae2c26ab4467227542d58aa", func := "spillway/spillwaylaw3.LabelTells", spec := "labelTells", inPlace := ["internal/bytealg.abigen_runtime_cmpstring", "internal/bytealg.IndexByteString", "internal/bytealg.IndexString", "internal/abi.NoEscape", "internal/bytealg.MakeNoZero", "slices.overlaps[spillway/api.Pair]"], unfollowed := true, recurses := true, named := ["internal/bytealg.MaxLen"], apart := false }
def LabelTellsSaid : Prop := labelTellsRow.holds Try.pinned (OpenSpec.ofChange labelTellsSpec)

/-- ITS FALSE NEIGHBOUR: 'it returns false'. Refute it at one input. -/
def labelTellsWrong : ChangeSpec := { name := "labelTells", fn := fun _ => fun
  | [d1, d2, d3, d4] => { results := [.lit (.bool false)], args := [d1, d2, d3, d4] }
  | _ => none }
def LabelTellsWrongFalsely : Prop := labelTellsRow.holds Try.pinned (OpenSpec.ofChange labelTellsWrong)

/- THE SECOND FORM. 'bulk': how many values and letters a reading holds, each counted each time it is reached (what is shared counts as often as it is met; a slice's spare places count too). A statement '..UptoSaid' is the law's where the arguments, and the package variables that the reading takes, are together of bulk at most 1048576: NARROWER than '..Said'. Prove '..Said' where nothing that the law and all that it calls make is longer than what came in: it says more and counts as full. Else prove '..UptoSaid'. A law counts once. -/
mutual
def uptoBulk {H : Type} : DataW H → Nat
  | .lit (.string bytes) => bytes.length + 1
  | .lit _ => 1
  | .nil => 1
  | .ptr d => uptoBulk d + 1
  | .slice elems spare => uptoBulkAll elems + uptoBulkAll spare + 1
  | .agg parts => uptoBulkAll parts + 1
  | .iface _ d => uptoBulk d + 1
  | .map entries => uptoBulkEntries entries + 1
  | .held _ => 1
def uptoBulkAll {H : Type} : List (DataW H) → Nat
  | [] => 0
  | d :: r => uptoBulk d + uptoBulkAll r
def uptoBulkEntries {H : Type} : List (Lit × DataW H) → Nat
  | [] => 0
  | x :: r => uptoBulkEntry x + uptoBulkEntries r
def uptoBulkEntry {H : Type} : Lit × DataW H → Nat
  | (.string bytes, d) => bytes.length + uptoBulk d + 1
  | (_, d) => uptoBulk d + 1
 end
def uptoSmall : (H : Type) → List (DataW H) → Bool := fun _ ds => decide (uptoBulkAll ds ≤ 1048576)
def OpenSpec.upto (s : _root_.Go.ChangeSpec) : _root_.Go.OpenSpec := { _root_.Go.OpenSpec.ofChange s with cond := some uptoSmall }

/-- 'spillwaylaw3.LabelReads', WHERE WHAT IT READS IS OF BULK AT MOST 1048576: true; the input reads as it did. -/
def labelReadsUptoRow : OpenClaim := { program := "ytinmpfflkcnkfaa", sum := "1ce27dd379217cb2fd49d1fe91dedf1657a45b849ae2c26ab4467227542d58aa", func := "spillway/spillwaylaw3.LabelReads", spec := "labelReads", inPlace := ["internal/bytealg.abigen_runtime_cmpstring", "internal/bytealg.IndexByteString", "internal/bytealg.IndexString", "internal/abi.NoEscape", "internal/bytealg.MakeNoZero"], unfollowed := true, recurses := true, named := ["internal/bytealg.MaxLen"], apart := false, narrowed := true }
def LabelReadsUptoSaid : Prop := labelReadsUptoRow.holds Try.pinned (OpenSpec.upto labelReadsSpec)

/-- 'spillwaylaw3.LabelBack', WHERE WHAT IT READS IS OF BULK AT MOST 1048576: true; the input reads as it did. -/
def labelBackUptoRow : OpenClaim := { program := "ytinmpfflkcnkfaa", sum := "1ce27dd379217cb2fd49d1fe91dedf1657a45b849ae2c26ab4467227542d58aa", func := "spillway/spillwaylaw3.LabelBack", spec := "labelBack", inPlace := ["internal/bytealg.abigen_runtime_cmpstring", "internal/bytealg.IndexByteString", "internal/bytealg.IndexString", "internal/abi.NoEscape", "internal/bytealg.MakeNoZero"], unfollowed := true, recurses := true, named := ["internal/bytealg.MaxLen"], apart := false, narrowed := true }
def LabelBackUptoSaid : Prop := labelBackUptoRow.holds Try.pinned (OpenSpec.upto labelBackSpec)

/-- 'spillwaylaw3.LabelBounds', WHERE WHAT IT READS IS OF BULK AT MOST 1048576: true; the input reads as it did. -/
def labelBoundsUptoRow : OpenClaim := { program := "ytinmpfflkcnkfaa", sum := "1ce27dd379217cb2fd49d1fe91dedf1657a45b849ae2c26ab4467227542d58aa", func := "spillway/spillwaylaw3.LabelBounds", spec := "labelBounds", inPlace := ["internal/bytealg.abigen_runtime_cmpstring", "internal/bytealg.IndexByteString", "internal/bytealg.IndexString", "internal/abi.NoEscape", "internal/bytealg.MakeNoZero"], unfollowed := true, recurses := true, named := ["internal/bytealg.MaxLen"], apart := false, narrowed := true }
def LabelBoundsUptoSaid : Prop := labelBoundsUptoRow.holds Try.pinned (OpenSpec.upto labelBoundsSpec)

/-- 'spillwaylaw3.LabelSorted', WHERE WHAT IT READS IS OF BULK AT MOST 1048576: true; the input reads as it did. -/
def labelSortedUptoRow : OpenClaim := { program := "ytinmpfflkcnkfaa", sum := "1ce27dd379217cb2fd49d1fe91dedf1657a45b849ae2c26ab4467227542d58aa", func := "spillway/spillwaylaw3.LabelSorted", spec := "labelSorted", inPlace := ["internal/bytealg.abigen_runtime_cmpstring", "internal/bytealg.IndexByteString", "internal/bytealg.IndexString", "internal/abi.NoEscape", "internal/bytealg.MakeNoZero"], unfollowed := true, recurses := true, named := ["internal/bytealg.MaxLen"], apart := false, narrowed := true }
def LabelSortedUptoSaid : Prop := labelSortedUptoRow.holds Try.pinned (OpenSpec.upto labelSortedSpec)

/-- 'spillwaylaw3.LabelCmp', WHERE WHAT IT READS IS OF BULK AT MOST 1048576: true; the input reads as it did. -/
def labelCmpUptoRow : OpenClaim := { program := "ytinmpfflkcnkfaa", sum := "1ce27dd379217cb2fd49d1fe91dedf1657a45b849ae2c26ab4467227542d58aa", func := "spillway/spillwaylaw3.LabelCmp", spec := "labelCmp", inPlace := ["internal/bytealg.abigen_runtime_cmpstring", "internal/bytealg.IndexByteString", "internal/bytealg.IndexString", "internal/abi.NoEscape", "internal/bytealg.MakeNoZero"], unfollowed := true, recurses := true, named := ["internal/bytealg.MaxLen"], apart := false, narrowed := true }
def LabelCmpUptoSaid : Prop := labelCmpUptoRow.holds Try.pinned (OpenSpec.upto labelCmpSpec)

/-- 'spillwaylaw3.LabelQuotes', WHERE WHAT IT READS IS OF BULK AT MOST 1048576: true; the input reads as it did. -/
def labelQuotesUptoRow : OpenClaim := { program := "ytinmpfflkcnkfaa", sum := "1ce27dd379217cb2fd49d1fe91dedf1657a45b849ae2c26ab4467227542d58aa", func := "spillway/spillwaylaw3.LabelQuotes", spec := "labelQuotes", inPlace := ["internal/bytealg.abigen_runtime_cmpstring", "internal/bytealg.IndexByteString", "internal/bytealg.IndexString", "internal/abi.NoEscape", "internal/bytealg.MakeNoZero"], unfollowed := true, recurses := true, named := ["internal/bytealg.MaxLen"], apart := false, narrowed := true }
def LabelQuotesUptoSaid : Prop := labelQuotesUptoRow.holds Try.pinned (OpenSpec.upto labelQuotesSpec)

/-- 'spillwaylaw3.LabelParts', WHERE WHAT IT READS IS OF BULK AT MOST 1048576: true; the input reads as it did. -/
def labelPartsUptoRow : OpenClaim := { program := "ytinmpfflkcnkfaa", sum := "1ce27dd379217cb2fd49d1fe91dedf1657a45b849ae2c26ab4467227542d58aa", func := "spillway/spillwaylaw3.LabelParts", spec := "labelParts", inPlace := ["internal/bytealg.abigen_runtime_cmpstring", "internal/bytealg.IndexByteString", "internal/bytealg.IndexString", "internal/abi.NoEscape", "internal/bytealg.MakeNoZero"], unfollowed := true, recurses := true, named := ["internal/bytealg.MaxLen"], apart := false, narrowed := true }
def LabelPartsUptoSaid : Prop := labelPartsUptoRow.holds Try.pinned (OpenSpec.upto labelPartsSpec)

/-- 'spillwaylaw3.LabelWith', WHERE WHAT IT READS IS OF BULK AT MOST 1048576: true; the input reads as it did. -/
def labelWithUptoRow : OpenClaim := { program := "ytinmpfflkcnkfaa", sum := "1ce27dd379217cb2fd49d1fe91dedf1657a45b849ae2c26ab4467227542d58aa", func := "spillway/spillwaylaw3.LabelWith", spec := "labelWith", inPlace := ["internal/bytealg.abigen_runtime_cmpstring", "internal/bytealg.IndexByteString", "internal/bytealg.IndexString", "internal/abi.NoEscape", "internal/bytealg.MakeNoZero", "slices.overlaps[spillway/api.Pair]"], unfollowed := true, recurses := true, named := ["internal/bytealg.MaxLen"], apart := false, narrowed := true }
def LabelWithUptoSaid : Prop := labelWithUptoRow.holds Try.pinned (OpenSpec.upto labelWithSpec)

/-- 'spillwaylaw3.LabelTells', WHERE WHAT IT READS IS OF BULK AT MOST 1048576: true; the input reads as it did. -/
def labelTellsUptoRow : OpenClaim := { program := "ytinmpfflkcnkfaa", sum := "1ce27dd379217cb2fd49d1fe91dedf1657a45b849ae2c26ab4467227542d58aa", func := "spillway/spillwaylaw3.LabelTells", spec := "labelTells", inPlace := ["internal/bytealg.abigen_runtime_cmpstring", "internal/bytealg.IndexByteString", "internal/bytealg.IndexString", "internal/abi.NoEscape", "internal/bytealg.MakeNoZero", "slices.overlaps[spillway/api.Pair]"], unfollowed := true, recurses := true, named := ["internal/bytealg.MaxLen"], apart := false, narrowed := true }
def LabelTellsUptoSaid : Prop := labelTellsUptoRow.holds Try.pinned (OpenSpec.upto labelTellsSpec)

end Rows
end Go.Proofs.Ytinmpfflkcnkfaa
