/-
  No cell of these rows narrows 'for every input' (looked for: loops, veiled, ifaces, maps, wideKeys, modest, calm, conditions, laid).
  DERIVED. THE GIVEN ROWS OF THIS SEAT. 5 by the template 'for every input the law returns true; each argument reads behind the call as it read before'; 0 by the template 'total and deterministic' (their statements: YtdeennacdlpheaaTotals.lean).
  GIVEN WITH THE SEED: the statements are not yours to turn. If you find one false, say at which input.
  Laid BY PROGRAM, IN A SANDBOX (cutbox-rows.mjs): the forced cells as the released guide's own fill.sh prints them over the translation 34fc8333b7f16546… (all of the seat's roots in one cut). By AI agents, Wed Nov 11 2026. No macro, syntax, notation, axiom, sorry.
-/
import Derived.Test.YtdeennacdlpheaaChecked
import GoSem.Claim
import GoSem.ClaimJoined
import GoSem.ClaimMapViews
import Derived.JoinedTies
import Derived.KernelRfl
namespace Go.Proofs.Ytdeennacdlpheaa
/- THE CELL 'sum', in the pinned program and in every row, IS THE sha256 OF THE DUMP (.gsa) THAT YtdeennacdlpheaaProg.lean LOADS. Nothing in Lean hashes anything: it is a label: what it is worth is what the hold of that sum in a sandbox is worth. -/
noncomputable def Try.pinned : Pinned := { name := "ytdeennacdlpheaa", sum := "34fc8333b7f16546b6d8e52d95d6d2ed677fb02be2b1ad2aeaa1bfaa97758725", checked := Try.checked }
namespace Rows
def none {H : Type} : Left H := { results := [], args := [] }

/-- 'spillwaylaw17.VectorMatch': WHATEVER THE INPUT: true; the input reads as it did. -/
def vectorMatchSpec : ChangeSpec := { name := "vectorMatch", fn := fun _ => fun
  | [d1, d2, d3] => { results := [.lit (.bool true)], args := [d1, d2, d3] }
  | _ => none }
def vectorMatchRow : OpenClaim := { program := "ytdeennacdlpheaa", sum := "34fc8333b7f16546b6d8e52d95d6d2ed677fb02be2b1ad2aeaa1bfaa97758725", func := "spillway/spillwaylaw17.VectorMatch", spec := "vectorMatch", inPlace := ["internal/bytealg.abigen_runtime_cmpstring", "slices.overlaps[spillway/vector.keyed]", "math/bits.Add64"], unfollowed := true, recurses := true, named := ["math/bits.divideError", "math/bits.overflowError"], apart := false }
def VectorMatchSaid : Prop := vectorMatchRow.holds Try.pinned (OpenSpec.ofChange vectorMatchSpec)

/-- ITS FALSE NEIGHBOUR: 'it returns false'. Refute it at one input. -/
def vectorMatchWrong : ChangeSpec := { name := "vectorMatch", fn := fun _ => fun
  | [d1, d2, d3] => { results := [.lit (.bool false)], args := [d1, d2, d3] }
  | _ => none }
def VectorMatchWrongFalsely : Prop := vectorMatchRow.holds Try.pinned (OpenSpec.ofChange vectorMatchWrong)

/-- 'spillwaylaw17.VectorCounts': WHATEVER THE INPUT: true; the input reads as it did. -/
def vectorCountsSpec : ChangeSpec := { name := "vectorCounts", fn := fun _ => fun
  | [d1, d2] => { results := [.lit (.bool true)], args := [d1, d2] }
  | _ => none }
def vectorCountsRow : OpenClaim := { program := "ytdeennacdlpheaa", sum := "34fc8333b7f16546b6d8e52d95d6d2ed677fb02be2b1ad2aeaa1bfaa97758725", func := "spillway/spillwaylaw17.VectorCounts", spec := "vectorCounts", inPlace := ["internal/bytealg.abigen_runtime_cmpstring", "slices.overlaps[spillway/vector.keyed]", "math/bits.Add64"], unfollowed := true, recurses := true, named := ["math/bits.divideError", "math/bits.overflowError"], apart := false }
def VectorCountsSaid : Prop := vectorCountsRow.holds Try.pinned (OpenSpec.ofChange vectorCountsSpec)

/-- ITS FALSE NEIGHBOUR: 'it returns false'. Refute it at one input. -/
def vectorCountsWrong : ChangeSpec := { name := "vectorCounts", fn := fun _ => fun
  | [d1, d2] => { results := [.lit (.bool false)], args := [d1, d2] }
  | _ => none }
def VectorCountsWrongFalsely : Prop := vectorCountsRow.holds Try.pinned (OpenSpec.ofChange vectorCountsWrong)

/-- 'spillwaylaw17.VectorOrder': WHATEVER THE INPUT: true; the input reads as it did. -/
def vectorOrderSpec : ChangeSpec := { name := "vectorOrder", fn := fun _ => fun
  | [d1, d2, d3, d4] => { results := [.lit (.bool true)], args := [d1, d2, d3, d4] }
  | _ => none }
def vectorOrderRow : OpenClaim := { program := "ytdeennacdlpheaa", sum := "34fc8333b7f16546b6d8e52d95d6d2ed677fb02be2b1ad2aeaa1bfaa97758725", func := "spillway/spillwaylaw17.VectorOrder", spec := "vectorOrder", inPlace := ["internal/bytealg.abigen_runtime_cmpstring", "slices.overlaps[spillway/vector.keyed]", "math/bits.Add64"], unfollowed := true, recurses := true, named := ["math/bits.divideError", "math/bits.overflowError"], apart := false }
def VectorOrderSaid : Prop := vectorOrderRow.holds Try.pinned (OpenSpec.ofChange vectorOrderSpec)

/-- ITS FALSE NEIGHBOUR: 'it returns false'. Refute it at one input. -/
def vectorOrderWrong : ChangeSpec := { name := "vectorOrder", fn := fun _ => fun
  | [d1, d2, d3, d4] => { results := [.lit (.bool false)], args := [d1, d2, d3, d4] }
  | _ => none }
def VectorOrderWrongFalsely : Prop := vectorOrderRow.holds Try.pinned (OpenSpec.ofChange vectorOrderWrong)

/-- 'spillwaylaw17.VectorBare': WHATEVER THE INPUT: true; the input reads as it did. -/
def vectorBareSpec : ChangeSpec := { name := "vectorBare", fn := fun _ => fun
  | [d1, d2] => { results := [.lit (.bool true)], args := [d1, d2] }
  | _ => none }
def vectorBareRow : OpenClaim := { program := "ytdeennacdlpheaa", sum := "34fc8333b7f16546b6d8e52d95d6d2ed677fb02be2b1ad2aeaa1bfaa97758725", func := "spillway/spillwaylaw17.VectorBare", spec := "vectorBare", inPlace := ["internal/bytealg.abigen_runtime_cmpstring", "slices.overlaps[spillway/vector.keyed]", "math/bits.Add64"], unfollowed := true, recurses := true, named := ["math/bits.divideError", "math/bits.overflowError"], apart := false }
def VectorBareSaid : Prop := vectorBareRow.holds Try.pinned (OpenSpec.ofChange vectorBareSpec)

/-- ITS FALSE NEIGHBOUR: 'it returns false'. Refute it at one input. -/
def vectorBareWrong : ChangeSpec := { name := "vectorBare", fn := fun _ => fun
  | [d1, d2] => { results := [.lit (.bool false)], args := [d1, d2] }
  | _ => none }
def VectorBareWrongFalsely : Prop := vectorBareRow.holds Try.pinned (OpenSpec.ofChange vectorBareWrong)

/-- 'spillwaylaw17.VectorFilters': WHATEVER THE INPUT: true; the input reads as it did. -/
def vectorFiltersSpec : ChangeSpec := { name := "vectorFilters", fn := fun _ => fun
  | [d1, d2, d3, d4] => { results := [.lit (.bool true)], args := [d1, d2, d3, d4] }
  | _ => none }
def vectorFiltersRow : OpenClaim := { program := "ytdeennacdlpheaa", sum := "34fc8333b7f16546b6d8e52d95d6d2ed677fb02be2b1ad2aeaa1bfaa97758725", func := "spillway/spillwaylaw17.VectorFilters", spec := "vectorFilters", inPlace := ["internal/bytealg.abigen_runtime_cmpstring", "slices.overlaps[spillway/vector.keyed]", "math/bits.Add64"], unfollowed := true, recurses := true, named := ["math/bits.divideError", "math/bits.overflowError"], apart := false }
def VectorFiltersSaid : Prop := vectorFiltersRow.holds Try.pinned (OpenSpec.ofChange vectorFiltersSpec)

/-- ITS FALSE NEIGHBOUR: 'it returns false'. Refute it at one input. -/
def vectorFiltersWrong : ChangeSpec := { name := "vectorFilters", fn := fun _ => fun
  | [d1, d2, d3, d4] => { results := [.lit (.bool false)], args := [d1, d2, d3, d4] }
  | _ => none }
def VectorFiltersWrongFalsely : Prop := vectorFiltersRow.holds Try.pinned (OpenSpec.ofChange vectorFiltersWrong)

/- THE SECOND FORM. 'bulk': how many values and letters a reading holds, each counted each time it is reached (what is shared counts as often as it is met; a slice's spare places count too). A statement '..UptoSaid' is the law's where the arguments, and the package variables that the reading takes, are together of bulk at most 1048576: NARROWER than '..Said'. Prove '..Said' where nothing that the law and all that it calls make is longer than what came in: it says more and counts as full. Else prove '..UptoSaid'. A law counts once. -/
mutual
def uptoBulk {H : Type} : DataW H → Nat
  | .lit (.string bytes) => bytes.length + 1
  | .lit _ => 1
  | .nil => 1
  | .ptr d => uptoBulk d + 1
  | .slice elems spare => uptoBulkAll elems + uptoBulkAll spare + 1
  | .agg parts => uptoBulkAll parts + 1
  | .iface _ d => uptoBulk d + 1
  | .map entries => uptoBulkEntries entries + 1
  | .held _ => 1
def uptoBulkAll {H : Type} : List (DataW H) → Nat
  | [] => 0
  | d :: r => uptoBulk d + uptoBulkAll r
def uptoBulkEntries {H : Type} : List (Lit × DataW H) → Nat
  | [] => 0
  | x :: r => uptoBulkEntry x + uptoBulkEntries r
def uptoBulkEntry {H : Type} : Lit × DataW H → Nat
  | (.string bytes, d) => bytes.length + uptoBulk d + 1
  | (_, d) => uptoBulk d + 1
 end
def uptoSmall : (H : Type) → List (DataW H) → Bool := fun _ ds => decide (uptoBulkAll ds ≤ 1048576)
def OpenSpec.upto (s : _root_.Go.ChangeSpec) : _root_.Go.OpenSpec := { _root_.Go.OpenSpec.ofChange s with cond := some uptoSmall }

/-- 'spillwaylaw17.VectorMatch', WHERE WHAT IT READS IS OF BULK AT MOST 1048576: true; the input reads as it did. -/
def vectorMatchUptoRow : OpenClaim := { program := "ytdeennacdlpheaa", sum := "34fc8333b7f16546b6d8e52d95d6d2ed677fb02be2b1ad2aeaa1bfaa97758725", func := "spillway/spillwaylaw17.VectorMatch", spec := "vectorMatch", inPlace := ["internal/bytealg.abigen_runtime_cmpstring", "slices.overlaps[spillway/vector.keyed]", "math/bits.Add64"], unfollowed := true, recurses := true, named := ["math/bits.divideError", "math/bits.overflowError"], apart := false, narrowed := true }
def VectorMatchUptoSaid : Prop := vectorMatchUptoRow.holds Try.pinned (OpenSpec.upto vectorMatchSpec)

/-- 'spillwaylaw17.VectorCounts', WHERE WHAT IT READS IS OF BULK AT MOST 1048576: true; the input reads as it did. -/
def vectorCountsUptoRow : OpenClaim := { program := "ytdeennacdlpheaa", sum := "34fc8333b7f16546b6d8e52d95d6d2ed677fb02be2b1ad2aeaa1bfaa97758725", func := "spillway/spillwaylaw17.VectorCounts", spec := "vectorCounts", inPlace := ["internal/bytealg.abigen_runtime_cmpstring", "slices.overlaps[spillway/vector.keyed]", "math/bits.Add64"], unfollowed := true, recurses := true, named := ["math/bits.divideError", "math/bits.overflowError"], apart := false, narrowed := true }
def VectorCountsUptoSaid : Prop := vectorCountsUptoRow.holds Try.pinned (OpenSpec.upto vectorCountsSpec)

/-- 'spillwaylaw17.VectorOrder', WHERE WHAT IT READS IS OF BULK AT MOST 1048576: true; the input reads as it did. -/
def vectorOrderUptoRow : OpenClaim := { program := "ytdeennacdlpheaa", sum := "34fc8333b7f16546b6d8e52d95d6d2ed677fb02be2b1ad2aeaa1bfaa97758725", func := "spillway/spillwaylaw17.VectorOrder", spec := "vectorOrder", inPlace := ["internal/bytealg.abigen_runtime_cmpstring", "slices.overlaps[spillway/vector.keyed]", "math/bits.Add64"], unfollowed := true, recurses := true, named := ["math/bits.divideError", "math/bits.overflowError"], apart := false, narrowed := true }
def VectorOrderUptoSaid : Prop := vectorOrderUptoRow.holds Try.pinned (OpenSpec.upto vectorOrderSpec)

/-- 'spillwaylaw17.VectorBare', WHERE WHAT IT READS IS OF BULK AT MOST 1048576: true; the input reads as it did. -/
def vectorBareUptoRow : OpenClaim := { program := "ytdeennacdlpheaa", sum := "34fc8333b7f16546b6d8e52d95d6d2ed677fb02be2b1ad2aeaa1bfaa97758725", func := "spillway/spillwaylaw17.VectorBare", spec := "vectorBare", inPlace := ["internal/bytealg.abigen_runtime_cmpstring", "slices.overlaps[spillway/vector.keyed]", "math/bits.Add64"], unfollowed := true, recurses := true, named := ["math/bits.divideError", "math/bits.overflowError"], apart := false, narrowed := true }
def VectorBareUptoSaid : Prop := vectorBareUptoRow.holds Try.pinned (OpenSpec.upto vectorBareSpec)

/-- 'spillwaylaw17.VectorFilters', WHERE WHAT IT READS IS OF BULK AT MOST 1048576: true; the input reads as it did. -/
def vectorFiltersUptoRow : OpenClaim := { program := "ytdeennacdlpheaa", sum := "34fc8333b7f16546b6d8e52d95d6d2ed677fb02be2b1ad2aeaa1bfaa97758725", func := "spillway/spillwaylaw17.VectorFilters", spec := "vectorFilters", inPlace := ["internal/bytealg.abigen_runtime_cmpstring", "slices.overlaps[spillway/vector.keyed]", "math/bits.Add64"], unfollowed := true, recurses := true, named := ["math/bits.divideError", "math/bits.overflowError"], apart := false, narrowed := true }
def VectorFiltersUptoSaid : Prop := vectorFiltersUptoRow.holds Try.pinned (OpenSpec.upto vectorFiltersSpec)

end Rows
end Go.Proofs.Ytdeennacdlpheaa
