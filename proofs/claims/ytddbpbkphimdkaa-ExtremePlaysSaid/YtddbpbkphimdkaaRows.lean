/-
  No cell of these rows narrows 'for every input' (looked for: loops, veiled, ifaces, maps, wideKeys, modest, calm, conditions, laid).
  DERIVED. THE GIVEN ROWS OF THIS SEAT. 3 by the template 'for every input the law returns true; each argument reads behind the call as it read before'; 0 by the template 'total and deterministic' (their statements: YtddbpbkphimdkaaTotals.lean).
  GIVEN WITH THE SEED: the statements are not yours to turn. If you find one false, say at which input.
  Laid BY PROGRAM, IN A SANDBOX (cutbox-rows.mjs): the forced cells as the released guide's own fill.sh prints them over the translation f18b9f8ddfeca1fe… (all of the seat's roots in one cut). By AI agents, Wed Nov 11 2026. No macro, syntax, notation, axiom, sorry.
-/
import Derived.Test.YtddbpbkphimdkaaChecked
import GoSem.Claim
import GoSem.ClaimJoined
import GoSem.ClaimMapViews
import Derived.JoinedTies
import Derived.KernelRfl
namespace Go.Proofs.Ytddbpbkphimdkaa
/- THE CELL 'sum', in the pinned program and in every row, IS THE sha256 OF THE DUMP (.gsa) THAT YtddbpbkphimdkaaProg.lean LOADS. Nothing in Lean hashes anything: it is a label: what it is worth is what the hold of that sum in a sandbox is worth. -/
noncomputable def Try.pinned : Pinned := { name := "ytddbpbkphimdkaa", sum := "f18b9f8ddfeca1fed073eedaf832cb9c8a9b10af7b7fee36db1368ddd0bace2a", checked := Try.checked }
namespace Rows
def none {H : Type} : Left H := { results := [], args := [] }

/-- 'spillwaylaw13.ExtremePlays': WHATEVER THE INPUT: true; the input reads as it did. -/
def extremePlaysSpec : ChangeSpec := { name := "extremePlays", fn := fun _ => fun
  | [d1, d2] => { results := [.lit (.bool true)], args := [d1, d2] }
  | _ => none }
def extremePlaysRow : OpenClaim := { program := "ytddbpbkphimdkaa", sum := "f18b9f8ddfeca1fed073eedaf832cb9c8a9b10af7b7fee36db1368ddd0bace2a", func := "spillway/spillwaylaw13.ExtremePlays", spec := "extremePlays", named := ["math/bits.divideError", "math/bits.overflowError"], apart := false }
def ExtremePlaysSaid : Prop := extremePlaysRow.holds Try.pinned (OpenSpec.ofChange extremePlaysSpec)

/-- ITS FALSE NEIGHBOUR: 'it returns false'. Refute it at one input. -/
def extremePlaysWrong : ChangeSpec := { name := "extremePlays", fn := fun _ => fun
  | [d1, d2] => { results := [.lit (.bool false)], args := [d1, d2] }
  | _ => none }
def ExtremePlaysWrongFalsely : Prop := extremePlaysRow.holds Try.pinned (OpenSpec.ofChange extremePlaysWrong)

/-- 'spillwaylaw13.ExtremeSlides': WHATEVER THE INPUT: true; the input reads as it did. -/
def extremeSlidesSpec : ChangeSpec := { name := "extremeSlides", fn := fun _ => fun
  | [d1, d2, d3] => { results := [.lit (.bool true)], args := [d1, d2, d3] }
  | _ => none }
def extremeSlidesRow : OpenClaim := { program := "ytddbpbkphimdkaa", sum := "f18b9f8ddfeca1fed073eedaf832cb9c8a9b10af7b7fee36db1368ddd0bace2a", func := "spillway/spillwaylaw13.ExtremeSlides", spec := "extremeSlides", named := ["math/bits.divideError", "math/bits.overflowError"], apart := false }
def ExtremeSlidesSaid : Prop := extremeSlidesRow.holds Try.pinned (OpenSpec.ofChange extremeSlidesSpec)

/-- ITS FALSE NEIGHBOUR: 'it returns false'. Refute it at one input. -/
def extremeSlidesWrong : ChangeSpec := { name := "extremeSlides", fn := fun _ => fun
  | [d1, d2, d3] => { results := [.lit (.bool false)], args := [d1, d2, d3] }
  | _ => none }
def ExtremeSlidesWrongFalsely : Prop := extremeSlidesRow.holds Try.pinned (OpenSpec.ofChange extremeSlidesWrong)

/-- 'spillwaylaw13.ExtremeBoth': WHATEVER THE INPUT: true; the input reads as it did. -/
def extremeBothSpec : ChangeSpec := { name := "extremeBoth", fn := fun _ => fun
  | [d1, d2] => { results := [.lit (.bool true)], args := [d1, d2] }
  | _ => none }
def extremeBothRow : OpenClaim := { program := "ytddbpbkphimdkaa", sum := "f18b9f8ddfeca1fed073eedaf832cb9c8a9b10af7b7fee36db1368ddd0bace2a", func := "spillway/spillwaylaw13.ExtremeBoth", spec := "extremeBoth", named := ["math/bits.divideError", "math/bits.overflowError"], apart := false }
def ExtremeBothSaid : Prop := extremeBothRow.holds Try.pinned (OpenSpec.ofChange extremeBothSpec)

/-- ITS FALSE NEIGHBOUR: 'it returns false'. Refute it at one input. -/
def extremeBothWrong : ChangeSpec := { name := "extremeBoth", fn := fun _ => fun
  | [d1, d2] => { results := [.lit (.bool false)], args := [d1, d2] }
  | _ => none }
def ExtremeBothWrongFalsely : Prop := extremeBothRow.holds Try.pinned (OpenSpec.ofChange extremeBothWrong)

/- THE SECOND FORM. 'bulk': how many values and letters a reading holds, each counted each time it is reached (what is shared counts as often as it is met; a slice's spare places count too). A statement '..UptoSaid' is the law's where the arguments, and the package variables that the reading takes, are together of bulk at most 1048576: NARROWER than '..Said'. Prove '..Said' where nothing that the law and all that it calls make is longer than what came in: it says more and counts as full. Else prove '..UptoSaid'. A law counts once. -/
mutual
def uptoBulk {H : Type} : DataW H → Nat
  | .lit (.string bytes) => bytes.length + 1
  | .lit _ => 1
  | .nil => 1
  | .ptr d => uptoBulk d + 1
  | .slice elems spare => uptoBulkAll elems + uptoBulkAll spare + 1
  | .agg parts => uptoBulkAll parts + 1
  | .iface _ d => uptoBulk d + 1
  | .map entries => uptoBulkEntries entries + 1
  | .held _ => 1
def uptoBulkAll {H : Type} : List (DataW H) → Nat
  | [] => 0
  | d :: r => uptoBulk d + uptoBulkAll r
def uptoBulkEntries {H : Type} : List (Lit × DataW H) → Nat
  | [] => 0
  | x :: r => uptoBulkEntry x + uptoBulkEntries r
def uptoBulkEntry {H : Type} : Lit × DataW H → Nat
  | (.string bytes, d) => bytes.length + uptoBulk d + 1
  | (_, d) => uptoBulk d + 1
 end
def uptoSmall : (H : Type) → List (DataW H) → Bool := fun _ ds => decide (uptoBulkAll ds ≤ 1048576)
def OpenSpec.upto (s : _root_.Go.ChangeSpec) : _root_.Go.OpenSpec := { _root_.Go.OpenSpec.ofChange s with cond := some uptoSmall }

/-- 'spillwaylaw13.ExtremePlays', WHERE WHAT IT READS IS OF BULK AT MOST 1048576: true; the input reads as it did. -/
def extremePlaysUptoRow : OpenClaim := { program := "ytddbpbkphimdkaa", sum := "f18b9f8ddfeca1fed073eedaf832cb9c8a9b10af7b7fee36db1368ddd0bace2a", func := "spillway/spillwaylaw13.ExtremePlays", spec := "extremePlays", named := ["math/bits.divideError", "math/bits.overflowError"], apart := false, narrowed := true }
def ExtremePlaysUptoSaid : Prop := extremePlaysUptoRow.holds Try.pinned (OpenSpec.upto extremePlaysSpec)

/-- 'spillwaylaw13.ExtremeSlides', WHERE WHAT IT READS IS OF BULK AT MOST 1048576: true; the input reads as it did. -/
def extremeSlidesUptoRow : OpenClaim := { program := "ytddbpbkphimdkaa", sum := "f18b9f8ddfeca1fed073eedaf832cb9c8a9b10af7b7fee36db1368ddd0bace2a", func := "spillway/spillwaylaw13.ExtremeSlides", spec := "extremeSlides", named := ["math/bits.divideError", "math/bits.overflowError"], apart := false, narrowed := true }
def ExtremeSlidesUptoSaid : Prop := extremeSlidesUptoRow.holds Try.pinned (OpenSpec.upto extremeSlidesSpec)

/-- 'spillwaylaw13.ExtremeBoth', WHERE WHAT IT READS IS OF BULK AT MOST 1048576: true; the input reads as it did. -/
def extremeBothUptoRow : OpenClaim := { program := "ytddbpbkphimdkaa", sum := "f18b9f8ddfeca1fed073eedaf832cb9c8a9b10af7b7fee36db1368ddd0bace2a", func := "spillway/spillwaylaw13.ExtremeBoth", spec := "extremeBoth", named := ["math/bits.divideError", "math/bits.overflowError"], apart := false, narrowed := true }
def ExtremeBothUptoSaid : Prop := extremeBothUptoRow.holds Try.pinned (OpenSpec.upto extremeBothSpec)

end Rows
end Go.Proofs.Ytddbpbkphimdkaa
