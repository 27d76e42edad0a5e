/-
  No cell of these rows narrows 'for every input' (looked for: loops, veiled, ifaces, maps, wideKeys, modest, calm, conditions, laid).
  DERIVED. THE GIVEN ROWS OF THIS SEAT. 5 by the template 'for every input the law returns true; each argument reads behind the call as it read before'; 0 by the template 'total and deterministic' (their statements: YtdaajnaphkepmaaTotals.lean).
  GIVEN WITH THE SEED: the statements are not yours to turn. If you find one false, say at which input.
  Laid BY PROGRAM, IN A SANDBOX (cutbox-rows.mjs): the forced cells as the released guide's own fill.sh prints them over the translation 1f6503caf685aa13… (all of the seat's roots in one cut). By AI agents, Wed Nov 11 2026. No macro, syntax, notation, axiom, sorry.
-/
import Derived.Test.YtdaajnaphkepmaaChecked
import GoSem.Claim
import GoSem.ClaimJoined
import GoSem.ClaimMapViews
import Derived.JoinedTies
import Derived.KernelRfl
namespace Go.Proofs.Ytdaajnaphkepmaa
/- THE CELL 'sum', in the pinned program and in every row, IS THE sha256 OF THE DUMP (.gsa) THAT YtdaajnaphkepmaaProg.lean LOADS. Nothing in Lean hashes anything: it is a label: what it is worth is what the hold of that sum in a sandbox is worth. -/
noncomputable def Try.pinned : Pinned := { name := "ytdaajnaphkepmaa", sum := "1f6503caf685aa1352fbeda84afae5e417c93f5bdfa8f9788c435ca6f7ae7023", checked := Try.checked }
namespace Rows
def none {H : Type} : Left H := { results := [], args := [] }

/-- 'spillwaylaw12.RingOvf': WHATEVER THE INPUT: true; the input reads as it did. -/
def ringOvfSpec : ChangeSpec := { name := "ringOvf", fn := fun _ => fun
  | [d1, d2] => { results := [.lit (.bool true)], args := [d1, d2] }
  | _ => none }
def ringOvfRow : OpenClaim := { program := "ytdaajnaphkepmaa", sum := "1f6503caf685aa1352fbeda84afae5e417c93f5bdfa8f9788c435ca6f7ae7023", func := "spillway/spillwaylaw12.RingOvf", spec := "ringOvf", inPlace := ["math/bits.Add64"], named := ["math/bits.divideError", "math/bits.overflowError"], apart := false }
def RingOvfSaid : Prop := ringOvfRow.holds Try.pinned (OpenSpec.ofChange ringOvfSpec)

/-- ITS FALSE NEIGHBOUR: 'it returns false'. Refute it at one input. -/
def ringOvfWrong : ChangeSpec := { name := "ringOvf", fn := fun _ => fun
  | [d1, d2] => { results := [.lit (.bool false)], args := [d1, d2] }
  | _ => none }
def RingOvfWrongFalsely : Prop := ringOvfRow.holds Try.pinned (OpenSpec.ofChange ringOvfWrong)

/-- 'spillwaylaw12.RingBounds': WHATEVER THE INPUT: true; the input reads as it did. -/
def ringBoundsSpec : ChangeSpec := { name := "ringBounds", fn := fun _ => fun
  | [d1, d2] => { results := [.lit (.bool true)], args := [d1, d2] }
  | _ => none }
def ringBoundsRow : OpenClaim := { program := "ytdaajnaphkepmaa", sum := "1f6503caf685aa1352fbeda84afae5e417c93f5bdfa8f9788c435ca6f7ae7023", func := "spillway/spillwaylaw12.RingBounds", spec := "ringBounds", inPlace := ["math/bits.Add64"], named := ["math/bits.divideError", "math/bits.overflowError"], apart := false }
def RingBoundsSaid : Prop := ringBoundsRow.holds Try.pinned (OpenSpec.ofChange ringBoundsSpec)

/-- ITS FALSE NEIGHBOUR: 'it returns false'. Refute it at one input. -/
def ringBoundsWrong : ChangeSpec := { name := "ringBounds", fn := fun _ => fun
  | [d1, d2] => { results := [.lit (.bool false)], args := [d1, d2] }
  | _ => none }
def RingBoundsWrongFalsely : Prop := ringBoundsRow.holds Try.pinned (OpenSpec.ofChange ringBoundsWrong)

/-- 'spillwaylaw12.RingForgets': WHATEVER THE INPUT: true; the input reads as it did. -/
def ringForgetsSpec : ChangeSpec := { name := "ringForgets", fn := fun _ => fun
  | [d1, d2, d3] => { results := [.lit (.bool true)], args := [d1, d2, d3] }
  | _ => none }
def ringForgetsRow : OpenClaim := { program := "ytdaajnaphkepmaa", sum := "1f6503caf685aa1352fbeda84afae5e417c93f5bdfa8f9788c435ca6f7ae7023", func := "spillway/spillwaylaw12.RingForgets", spec := "ringForgets", inPlace := ["math/bits.Add64"], named := ["math/bits.divideError", "math/bits.overflowError"], apart := false }
def RingForgetsSaid : Prop := ringForgetsRow.holds Try.pinned (OpenSpec.ofChange ringForgetsSpec)

/-- ITS FALSE NEIGHBOUR: 'it returns false'. Refute it at one input. -/
def ringForgetsWrong : ChangeSpec := { name := "ringForgets", fn := fun _ => fun
  | [d1, d2, d3] => { results := [.lit (.bool false)], args := [d1, d2, d3] }
  | _ => none }
def RingForgetsWrongFalsely : Prop := ringForgetsRow.holds Try.pinned (OpenSpec.ofChange ringForgetsWrong)

/-- 'spillwaylaw12.RingMeans': WHATEVER THE INPUT: true; the input reads as it did. -/
def ringMeansSpec : ChangeSpec := { name := "ringMeans", fn := fun _ => fun
  | [d] => { results := [.lit (.bool true)], args := [d] }
  | _ => none }
def ringMeansRow : OpenClaim := { program := "ytdaajnaphkepmaa", sum := "1f6503caf685aa1352fbeda84afae5e417c93f5bdfa8f9788c435ca6f7ae7023", func := "spillway/spillwaylaw12.RingMeans", spec := "ringMeans", inPlace := ["math/bits.Add64"], named := ["math/bits.divideError", "math/bits.overflowError"], apart := false }
def RingMeansSaid : Prop := ringMeansRow.holds Try.pinned (OpenSpec.ofChange ringMeansSpec)

/-- ITS FALSE NEIGHBOUR: 'it returns false'. Refute it at one input. -/
def ringMeansWrong : ChangeSpec := { name := "ringMeans", fn := fun _ => fun
  | [d] => { results := [.lit (.bool false)], args := [d] }
  | _ => none }
def RingMeansWrongFalsely : Prop := ringMeansRow.holds Try.pinned (OpenSpec.ofChange ringMeansWrong)

/-- 'spillwaylaw12.RingPlays': WHATEVER THE INPUT: true; the input reads as it did. -/
def ringPlaysSpec : ChangeSpec := { name := "ringPlays", fn := fun _ => fun
  | [d1, d2] => { results := [.lit (.bool true)], args := [d1, d2] }
  | _ => none }
def ringPlaysRow : OpenClaim := { program := "ytdaajnaphkepmaa", sum := "1f6503caf685aa1352fbeda84afae5e417c93f5bdfa8f9788c435ca6f7ae7023", func := "spillway/spillwaylaw12.RingPlays", spec := "ringPlays", inPlace := ["math/bits.Add64"], named := ["math/bits.divideError", "math/bits.overflowError"], apart := false }
def RingPlaysSaid : Prop := ringPlaysRow.holds Try.pinned (OpenSpec.ofChange ringPlaysSpec)

/-- ITS FALSE NEIGHBOUR: 'it returns false'. Refute it at one input. -/
def ringPlaysWrong : ChangeSpec := { name := "ringPlays", fn := fun _ => fun
  | [d1, d2] => { results := [.lit (.bool false)], args := [d1, d2] }
  | _ => none }
def RingPlaysWrongFalsely : Prop := ringPlaysRow.holds Try.pinned (OpenSpec.ofChange ringPlaysWrong)

/- THE SECOND FORM. 'bulk': how many values and letters a reading holds, each counted each time it is reached (what is shared counts as often as it is met; a slice's spare places count too). A statement '..UptoSaid' is the law's where the arguments, and the package variables that the reading takes, are together of bulk at most 1048576: NARROWER than '..Said'. Prove '..Said' where nothing that the law and all that it calls make is longer than what came in: it says more and counts as full. Else prove '..UptoSaid'. A law counts once. -/
mutual
def uptoBulk {H : Type} : DataW H → Nat
  | .lit (.string bytes) => bytes.length + 1
  | .lit _ => 1
  | .nil => 1
  | .ptr d => uptoBulk d + 1
  | .slice elems spare => uptoBulkAll elems + uptoBulkAll spare + 1
  | .agg parts => uptoBulkAll parts + 1
  | .iface _ d => uptoBulk d + 1
  | .map entries => uptoBulkEntries entries + 1
  | .held _ => 1
def uptoBulkAll {H : Type} : List (DataW H) → Nat
  | [] => 0
  | d :: r => uptoBulk d + uptoBulkAll r
def uptoBulkEntries {H : Type} : List (Lit × DataW H) → Nat
  | [] => 0
  | x :: r => uptoBulkEntry x + uptoBulkEntries r
def uptoBulkEntry {H : Type} : Lit × DataW H → Nat
  | (.string bytes, d) => bytes.length + uptoBulk d + 1
  | (_, d) => uptoBulk d + 1
 end
def uptoSmall : (H : Type) → List (DataW H) → Bool := fun _ ds => decide (uptoBulkAll ds ≤ 1048576)
def OpenSpec.upto (s : _root_.Go.ChangeSpec) : _root_.Go.OpenSpec := { _root_.Go.OpenSpec.ofChange s with cond := some uptoSmall }

/-- 'spillwaylaw12.RingOvf', WHERE WHAT IT READS IS OF BULK AT MOST 1048576: true; the input reads as it did. -/
def ringOvfUptoRow : OpenClaim := { program := "ytdaajnaphkepmaa", sum := "1f6503caf685aa1352fbeda84afae5e417c93f5bdfa8f9788c435ca6f7ae7023", func := "spillway/spillwaylaw12.RingOvf", spec := "ringOvf", inPlace := ["math/bits.Add64"], named := ["math/bits.divideError", "math/bits.overflowError"], apart := false, narrowed := true }
def RingOvfUptoSaid : Prop := ringOvfUptoRow.holds Try.pinned (OpenSpec.upto ringOvfSpec)

/-- 'spillwaylaw12.RingBounds', WHERE WHAT IT READS IS OF BULK AT MOST 1048576: true; the input reads as it did. -/
def ringBoundsUptoRow : OpenClaim := { program := "ytdaajnaphkepmaa", sum := "1f6503caf685aa1352fbeda84afae5e417c93f5bdfa8f9788c435ca6f7ae7023", func := "spillway/spillwaylaw12.RingBounds", spec := "ringBounds", inPlace := ["math/bits.Add64"], named := ["math/bits.divideError", "math/bits.overflowError"], apart := false, narrowed := true }
def RingBoundsUptoSaid : Prop := ringBoundsUptoRow.holds Try.pinned (OpenSpec.upto ringBoundsSpec)

/-- 'spillwaylaw12.RingForgets', WHERE WHAT IT READS IS OF BULK AT MOST 1048576: true; the input reads as it did. -/
def ringForgetsUptoRow : OpenClaim := { program := "ytdaajnaphkepmaa", sum := "1f6503caf685aa1352fbeda84afae5e417c93f5bdfa8f9788c435ca6f7ae7023", func := "spillway/spillwaylaw12.RingForgets", spec := "ringForgets", inPlace := ["math/bits.Add64"], named := ["math/bits.divideError", "math/bits.overflowError"], apart := false, narrowed := true }
def RingForgetsUptoSaid : Prop := ringForgetsUptoRow.holds Try.pinned (OpenSpec.upto ringForgetsSpec)

/-- 'spillwaylaw12.RingMeans', WHERE WHAT IT READS IS OF BULK AT MOST 1048576: true; the input reads as it did. -/
def ringMeansUptoRow : OpenClaim := { program := "ytdaajnaphkepmaa", sum := "1f6503caf685aa1352fbeda84afae5e417c93f5bdfa8f9788c435ca6f7ae7023", func := "spillway/spillwaylaw12.RingMeans", spec := "ringMeans", inPlace := ["math/bits.Add64"], named := ["math/bits.divideError", "math/bits.overflowError"], apart := false, narrowed := true }
def RingMeansUptoSaid : Prop := ringMeansUptoRow.holds Try.pinned (OpenSpec.upto ringMeansSpec)

/-- 'spillwaylaw12.RingPlays', WHERE WHAT IT READS IS OF BULK AT MOST 1048576: true; the input reads as it did. -/
def ringPlaysUptoRow : OpenClaim := { program := "ytdaajnaphkepmaa", sum := "1f6503caf685aa1352fbeda84afae5e417c93f5bdfa8f9788c435ca6f7ae7023", func := "spillway/spillwaylaw12.RingPlays", spec := "ringPlays", inPlace := ["math/bits.Add64"], named := ["math/bits.divideError", "math/bits.overflowError"], apart := false, narrowed := true }
def RingPlaysUptoSaid : Prop := ringPlaysUptoRow.holds Try.pinned (OpenSpec.upto ringPlaysSpec)

end Rows
end Go.Proofs.Ytdaajnaphkepmaa
