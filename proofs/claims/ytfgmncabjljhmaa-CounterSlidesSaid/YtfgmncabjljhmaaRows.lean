/-
  No cell of these rows narrows 'for every input' (looked for: loops, veiled, ifaces, maps, wideKeys, modest, calm, conditions, laid).
  DERIVED. THE GIVEN ROWS OF THIS SEAT. 5 by the template 'for every input the law returns true; each argument reads behind the call as it read before'; 0 by the template 'total and deterministic' (their statements: YtfgmncabjljhmaaTotals.lean).
  GIVEN WITH THE SEED: the statements are not yours to turn. If you find one false, say at which input.
  Laid BY PROGRAM, IN A SANDBOX (cutbox-rows.mjs): the forced cells as the released guide's own fill.sh prints them over the translation 07f63608c16e5e63… (all of the seat's roots in one cut). By AI agents, Wed Nov 11 2026. No macro, syntax, notation, axiom, sorry.
-/
import Derived.Test.YtfgmncabjljhmaaChecked
import GoSem.Claim
import GoSem.ClaimJoined
import GoSem.ClaimMapViews
import Derived.JoinedTies
import Derived.KernelRfl
namespace Go.Proofs.Ytfgmncabjljhmaa
/- THE CELL 'sum', in the pinned program and in every row, IS THE sha256 OF THE DUMP (.gsa) THAT YtfgmncabjljhmaaProg.lean LOADS. Nothing in Lean hashes anything: it is a label: what it is worth is what the hold of that sum in a sandbox is worth. -/
noncomputable def Try.pinned : Pinned := { name := "ytfgmncabjljhmaa", sum := "07f63608c16e5e630bc33f67039c4197920fa8f64e23aa8187da67e82998d2dc", checked := Try.checked }
namespace Rows
def none {H : Type} : Left H := { results := [], args := [] }

/-- 'spillwaylaw14.CounterOf': WHATEVER THE INPUT: true; the input reads as it did. -/
def counterOfSpec : ChangeSpec := { name := "counterOf", fn := fun _ => fun
  | [d] => { results := [.lit (.bool true)], args := [d] }
  | _ => none }
def counterOfRow : OpenClaim := { program := "ytfgmncabjljhmaa", sum := "07f63608c16e5e630bc33f67039c4197920fa8f64e23aa8187da67e82998d2dc", func := "spillway/spillwaylaw14.CounterOf", spec := "counterOf", inPlace := ["math/bits.Add64"], named := ["math/bits.divideError", "math/bits.overflowError"], apart := false }
def CounterOfSaid : Prop := counterOfRow.holds Try.pinned (OpenSpec.ofChange counterOfSpec)

/-- ITS FALSE NEIGHBOUR: 'it returns false'. Refute it at one input. -/
def counterOfWrong : ChangeSpec := { name := "counterOf", fn := fun _ => fun
  | [d] => { results := [.lit (.bool false)], args := [d] }
  | _ => none }
def CounterOfWrongFalsely : Prop := counterOfRow.holds Try.pinned (OpenSpec.ofChange counterOfWrong)

/-- 'spillwaylaw14.CounterRises': WHATEVER THE INPUT: true; the input reads as it did. -/
def counterRisesSpec : ChangeSpec := { name := "counterRises", fn := fun _ => fun
  | [d1, d2] => { results := [.lit (.bool true)], args := [d1, d2] }
  | _ => none }
def counterRisesRow : OpenClaim := { program := "ytfgmncabjljhmaa", sum := "07f63608c16e5e630bc33f67039c4197920fa8f64e23aa8187da67e82998d2dc", func := "spillway/spillwaylaw14.CounterRises", spec := "counterRises", inPlace := ["math/bits.Add64"], named := ["math/bits.divideError", "math/bits.overflowError"], apart := false }
def CounterRisesSaid : Prop := counterRisesRow.holds Try.pinned (OpenSpec.ofChange counterRisesSpec)

/-- ITS FALSE NEIGHBOUR: 'it returns false'. Refute it at one input. -/
def counterRisesWrong : ChangeSpec := { name := "counterRises", fn := fun _ => fun
  | [d1, d2] => { results := [.lit (.bool false)], args := [d1, d2] }
  | _ => none }
def CounterRisesWrongFalsely : Prop := counterRisesRow.holds Try.pinned (OpenSpec.ofChange counterRisesWrong)

/-- 'spillwaylaw14.CounterShifts': WHATEVER THE INPUT: true; the input reads as it did. -/
def counterShiftsSpec : ChangeSpec := { name := "counterShifts", fn := fun _ => fun
  | [d1, d2] => { results := [.lit (.bool true)], args := [d1, d2] }
  | _ => none }
def counterShiftsRow : OpenClaim := { program := "ytfgmncabjljhmaa", sum := "07f63608c16e5e630bc33f67039c4197920fa8f64e23aa8187da67e82998d2dc", func := "spillway/spillwaylaw14.CounterShifts", spec := "counterShifts", inPlace := ["math/bits.Add64"], named := ["math/bits.divideError", "math/bits.overflowError"], apart := false }
def CounterShiftsSaid : Prop := counterShiftsRow.holds Try.pinned (OpenSpec.ofChange counterShiftsSpec)

/-- ITS FALSE NEIGHBOUR: 'it returns false'. Refute it at one input. -/
def counterShiftsWrong : ChangeSpec := { name := "counterShifts", fn := fun _ => fun
  | [d1, d2] => { results := [.lit (.bool false)], args := [d1, d2] }
  | _ => none }
def CounterShiftsWrongFalsely : Prop := counterShiftsRow.holds Try.pinned (OpenSpec.ofChange counterShiftsWrong)

/-- 'spillwaylaw14.CounterPlays': WHATEVER THE INPUT: true; the input reads as it did. -/
def counterPlaysSpec : ChangeSpec := { name := "counterPlays", fn := fun _ => fun
  | [d1, d2] => { results := [.lit (.bool true)], args := [d1, d2] }
  | _ => none }
def counterPlaysRow : OpenClaim := { program := "ytfgmncabjljhmaa", sum := "07f63608c16e5e630bc33f67039c4197920fa8f64e23aa8187da67e82998d2dc", func := "spillway/spillwaylaw14.CounterPlays", spec := "counterPlays", inPlace := ["math/bits.Add64"], named := ["math/bits.divideError", "math/bits.overflowError"], apart := false }
def CounterPlaysSaid : Prop := counterPlaysRow.holds Try.pinned (OpenSpec.ofChange counterPlaysSpec)

/-- ITS FALSE NEIGHBOUR: 'it returns false'. Refute it at one input. -/
def counterPlaysWrong : ChangeSpec := { name := "counterPlays", fn := fun _ => fun
  | [d1, d2] => { results := [.lit (.bool false)], args := [d1, d2] }
  | _ => none }
def CounterPlaysWrongFalsely : Prop := counterPlaysRow.holds Try.pinned (OpenSpec.ofChange counterPlaysWrong)

/-- 'spillwaylaw14.CounterSlides': WHATEVER THE INPUT: true; the input reads as it did. -/
def counterSlidesSpec : ChangeSpec := { name := "counterSlides", fn := fun _ => fun
  | [d1, d2, d3] => { results := [.lit (.bool true)], args := [d1, d2, d3] }
  | _ => none }
def counterSlidesRow : OpenClaim := { program := "ytfgmncabjljhmaa", sum := "07f63608c16e5e630bc33f67039c4197920fa8f64e23aa8187da67e82998d2dc", func := "spillway/spillwaylaw14.CounterSlides", spec := "counterSlides", inPlace := ["math/bits.Add64"], named := ["math/bits.divideError", "math/bits.overflowError"], apart := false }
def CounterSlidesSaid : Prop := counterSlidesRow.holds Try.pinned (OpenSpec.ofChange counterSlidesSpec)

/-- ITS FALSE NEIGHBOUR: 'it returns false'. Refute it at one input. -/
def counterSlidesWrong : ChangeSpec := { name := "counterSlides", fn := fun _ => fun
  | [d1, d2, d3] => { results := [.lit (.bool false)], args := [d1, d2, d3] }
  | _ => none }
def CounterSlidesWrongFalsely : Prop := counterSlidesRow.holds Try.pinned (OpenSpec.ofChange counterSlidesWrong)

/- THE SECOND FORM. 'bulk': how many values and letters a reading holds, each counted each time it is reached (what is shared counts as often as it is met; a slice's spare places count too). A statement '..UptoSaid' is the law's where the arguments, and the package variables that the reading takes, are together of bulk at most 1048576: NARROWER than '..Said'. Prove '..Said' where nothing that the law and all that it calls make is longer than what came in: it says more and counts as full. Else prove '..UptoSaid'. A law counts once. -/
mutual
def uptoBulk {H : Type} : DataW H → Nat
  | .lit (.string bytes) => bytes.length + 1
  | .lit _ => 1
  | .nil => 1
  | .ptr d => uptoBulk d + 1
  | .slice elems spare => uptoBulkAll elems + uptoBulkAll spare + 1
  | .agg parts => uptoBulkAll parts + 1
  | .iface _ d => uptoBulk d + 1
  | .map entries => uptoBulkEntries entries + 1
  | .held _ => 1
def uptoBulkAll {H : Type} : List (DataW H) → Nat
  | [] => 0
  | d :: r => uptoBulk d + uptoBulkAll r
def uptoBulkEntries {H : Type} : List (Lit × DataW H) → Nat
  | [] => 0
  | x :: r => uptoBulkEntry x + uptoBulkEntries r
def uptoBulkEntry {H : Type} : Lit × DataW H → Nat
  | (.string bytes, d) => bytes.length + uptoBulk d + 1
  | (_, d) => uptoBulk d + 1
 end
def uptoSmall : (H : Type) → List (DataW H) → Bool := fun _ ds => decide (uptoBulkAll ds ≤ 1048576)
def OpenSpec.upto (s : _root_.Go.ChangeSpec) : _root_.Go.OpenSpec := { _root_.Go.OpenSpec.ofChange s with cond := some uptoSmall }

/-- 'spillwaylaw14.CounterOf', WHERE WHAT IT READS IS OF BULK AT MOST 1048576: true; the input reads as it did. -/
def counterOfUptoRow : OpenClaim := { program := "ytfgmncabjljhmaa", sum := "07f63608c16e5e630bc33f67039c4197920fa8f64e23aa8187da67e82998d2dc", func := "spillway/spillwaylaw14.CounterOf", spec := "counterOf", inPlace := ["math/bits.Add64"], named := ["math/bits.divideError", "math/bits.overflowError"], apart := false, narrowed := true }
def CounterOfUptoSaid : Prop := counterOfUptoRow.holds Try.pinned (OpenSpec.upto counterOfSpec)

/-- 'spillwaylaw14.CounterRises', WHERE WHAT IT READS IS OF BULK AT MOST 1048576: true; the input reads as it did. -/
def counterRisesUptoRow : OpenClaim := { program := "ytfgmncabjljhmaa", sum := "07f63608c16e5e630bc33f67039c4197920fa8f64e23aa8187da67e82998d2dc", func := "spillway/spillwaylaw14.CounterRises", spec := "counterRises", inPlace := ["math/bits.Add64"], named := ["math/bits.divideError", "math/bits.overflowError"], apart := false, narrowed := true }
def CounterRisesUptoSaid : Prop := counterRisesUptoRow.holds Try.pinned (OpenSpec.upto counterRisesSpec)

/-- 'spillwaylaw14.CounterShifts', WHERE WHAT IT READS IS OF BULK AT MOST 1048576: true; the input reads as it did. -/
def counterShiftsUptoRow : OpenClaim := { program := "ytfgmncabjljhmaa", sum := "07f63608c16e5e630bc33f67039c4197920fa8f64e23aa8187da67e82998d2dc", func := "spillway/spillwaylaw14.CounterShifts", spec := "counterShifts", inPlace := ["math/bits.Add64"], named := ["math/bits.divideError", "math/bits.overflowError"], apart := false, narrowed := true }
def CounterShiftsUptoSaid : Prop := counterShiftsUptoRow.holds Try.pinned (OpenSpec.upto counterShiftsSpec)

/-- 'spillwaylaw14.CounterPlays', WHERE WHAT IT READS IS OF BULK AT MOST 1048576: true; the input reads as it did. -/
def counterPlaysUptoRow : OpenClaim := { program := "ytfgmncabjljhmaa", sum := "07f63608c16e5e630bc33f67039c4197920fa8f64e23aa8187da67e82998d2dc", func := "spillway/spillwaylaw14.CounterPlays", spec := "counterPlays", inPlace := ["math/bits.Add64"], named := ["math/bits.divideError", "math/bits.overflowError"], apart := false, narrowed := true }
def CounterPlaysUptoSaid : Prop := counterPlaysUptoRow.holds Try.pinned (OpenSpec.upto counterPlaysSpec)

/-- 'spillwaylaw14.CounterSlides', WHERE WHAT IT READS IS OF BULK AT MOST 1048576: true; the input reads as it did. -/
def counterSlidesUptoRow : OpenClaim := { program := "ytfgmncabjljhmaa", sum := "07f63608c16e5e630bc33f67039c4197920fa8f64e23aa8187da67e82998d2dc", func := "spillway/spillwaylaw14.CounterSlides", spec := "counterSlides", inPlace := ["math/bits.Add64"], named := ["math/bits.divideError", "math/bits.overflowError"], apart := false, narrowed := true }
def CounterSlidesUptoSaid : Prop := counterSlidesUptoRow.holds Try.pinned (OpenSpec.upto counterSlidesSpec)

end Rows
end Go.Proofs.Ytfgmncabjljhmaa
