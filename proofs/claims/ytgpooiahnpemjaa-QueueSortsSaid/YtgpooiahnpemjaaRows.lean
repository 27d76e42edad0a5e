/-
  No cell of these rows narrows 'for every input' (looked for: loops, veiled, ifaces, maps, wideKeys, modest, calm, conditions, laid).
  DERIVED. THE GIVEN ROWS OF THIS SEAT. 6 by the template 'for every input the law returns true; each argument reads behind the call as it read before'; 0 by the template 'total and deterministic' (their statements: YtgpooiahnpemjaaTotals.lean).
  GIVEN WITH THE SEED: the statements are not yours to turn. If you find one false, say at which input.
  Laid BY PROGRAM, IN A SANDBOX (cutbox-rows.mjs): the forced cells as the released guide's own fill.sh prints them over the translation fa7663057ea1870e… (all of the seat's roots in one cut). By AI agents, Wed Nov 11 2026. No macro, syntax, notation, axiom, sorry.
-/
import Derived.Test.YtgpooiahnpemjaaChecked
import GoSem.Claim
import GoSem.ClaimJoined
import GoSem.ClaimMapViews
import Derived.JoinedTies
import Derived.KernelRfl
namespace Go.Proofs.Ytgpooiahnpemjaa
/- THE CELL 'sum', in the pinned program and in every row, IS THE sha256 OF THE DUMP (.gsa) THAT YtgpooiahnpemjaaProg.lean LOADS. Nothing in Lean hashes anything: it is a label: what it is worth is what the hold of that sum in a sandbox is worth. -/
noncomputable def Try.pinned : Pinned := { name := "ytgpooiahnpemjaa", sum := "fa7663057ea1870eea0f52b1c14d3ab8b8f2c4bbc8516a31af50034dc318d22f", checked := Try.checked }
namespace Rows
def none {H : Type} : Left H := { results := [], args := [] }

/-- 'spillwaylaw23.QueueGone': WHATEVER THE INPUT: true; the input reads as it did. -/
def queueGoneSpec : ChangeSpec := { name := "queueGone", fn := fun _ => fun
  | [d1, d2] => { results := [.lit (.bool true)], args := [d1, d2] }
  | _ => none }
def queueGoneRow : OpenClaim := { program := "ytgpooiahnpemjaa", sum := "fa7663057ea1870eea0f52b1c14d3ab8b8f2c4bbc8516a31af50034dc318d22f", func := "spillway/spillwaylaw23.QueueGone", spec := "queueGone", inPlace := ["internal/bytealg.abigen_runtime_cmpstring", "internal/bytealg.IndexByteString"], unfollowed := true, recurses := true, named := ["math/bits.divideError", "math/bits.overflowError"], apart := false }
def QueueGoneSaid : Prop := queueGoneRow.holds Try.pinned (OpenSpec.ofChange queueGoneSpec)

/-- ITS FALSE NEIGHBOUR: 'it returns false'. Refute it at one input. -/
def queueGoneWrong : ChangeSpec := { name := "queueGone", fn := fun _ => fun
  | [d1, d2] => { results := [.lit (.bool false)], args := [d1, d2] }
  | _ => none }
def QueueGoneWrongFalsely : Prop := queueGoneRow.holds Try.pinned (OpenSpec.ofChange queueGoneWrong)

/-- 'spillwaylaw23.QueueDrops': WHATEVER THE INPUT: true; the input reads as it did. -/
def queueDropsSpec : ChangeSpec := { name := "queueDrops", fn := fun _ => fun
  | [d] => { results := [.lit (.bool true)], args := [d] }
  | _ => none }
def queueDropsRow : OpenClaim := { program := "ytgpooiahnpemjaa", sum := "fa7663057ea1870eea0f52b1c14d3ab8b8f2c4bbc8516a31af50034dc318d22f", func := "spillway/spillwaylaw23.QueueDrops", spec := "queueDrops", inPlace := ["internal/bytealg.abigen_runtime_cmpstring", "internal/bytealg.IndexByteString"], unfollowed := true, recurses := true, named := ["math/bits.divideError", "math/bits.overflowError"], apart := false }
def QueueDropsSaid : Prop := queueDropsRow.holds Try.pinned (OpenSpec.ofChange queueDropsSpec)

/-- ITS FALSE NEIGHBOUR: 'it returns false'. Refute it at one input. -/
def queueDropsWrong : ChangeSpec := { name := "queueDrops", fn := fun _ => fun
  | [d] => { results := [.lit (.bool false)], args := [d] }
  | _ => none }
def QueueDropsWrongFalsely : Prop := queueDropsRow.holds Try.pinned (OpenSpec.ofChange queueDropsWrong)

/-- 'spillwaylaw23.QueueAcks': WHATEVER THE INPUT: true; the input reads as it did. -/
def queueAcksSpec : ChangeSpec := { name := "queueAcks", fn := fun _ => fun
  | [d1, d2, d3] => { results := [.lit (.bool true)], args := [d1, d2, d3] }
  | _ => none }
def queueAcksRow : OpenClaim := { program := "ytgpooiahnpemjaa", sum := "fa7663057ea1870eea0f52b1c14d3ab8b8f2c4bbc8516a31af50034dc318d22f", func := "spillway/spillwaylaw23.QueueAcks", spec := "queueAcks", inPlace := ["internal/bytealg.abigen_runtime_cmpstring", "internal/bytealg.IndexByteString"], unfollowed := true, recurses := true, named := ["math/bits.divideError", "math/bits.overflowError"], apart := false }
def QueueAcksSaid : Prop := queueAcksRow.holds Try.pinned (OpenSpec.ofChange queueAcksSpec)

/-- ITS FALSE NEIGHBOUR: 'it returns false'. Refute it at one input. -/
def queueAcksWrong : ChangeSpec := { name := "queueAcks", fn := fun _ => fun
  | [d1, d2, d3] => { results := [.lit (.bool false)], args := [d1, d2, d3] }
  | _ => none }
def QueueAcksWrongFalsely : Prop := queueAcksRow.holds Try.pinned (OpenSpec.ofChange queueAcksWrong)

/-- 'spillwaylaw23.QueuePlays': WHATEVER THE INPUT: true; the input reads as it did. -/
def queuePlaysSpec : ChangeSpec := { name := "queuePlays", fn := fun _ => fun
  | [d] => { results := [.lit (.bool true)], args := [d] }
  | _ => none }
def queuePlaysRow : OpenClaim := { program := "ytgpooiahnpemjaa", sum := "fa7663057ea1870eea0f52b1c14d3ab8b8f2c4bbc8516a31af50034dc318d22f", func := "spillway/spillwaylaw23.QueuePlays", spec := "queuePlays", inPlace := ["internal/bytealg.abigen_runtime_cmpstring", "internal/bytealg.IndexByteString"], unfollowed := true, recurses := true, named := ["math/bits.divideError", "math/bits.overflowError"], apart := false }
def QueuePlaysSaid : Prop := queuePlaysRow.holds Try.pinned (OpenSpec.ofChange queuePlaysSpec)

/-- ITS FALSE NEIGHBOUR: 'it returns false'. Refute it at one input. -/
def queuePlaysWrong : ChangeSpec := { name := "queuePlays", fn := fun _ => fun
  | [d] => { results := [.lit (.bool false)], args := [d] }
  | _ => none }
def QueuePlaysWrongFalsely : Prop := queuePlaysRow.holds Try.pinned (OpenSpec.ofChange queuePlaysWrong)

/-- 'spillwaylaw23.QueueTells': WHATEVER THE INPUT: true; the input reads as it did. -/
def queueTellsSpec : ChangeSpec := { name := "queueTells", fn := fun _ => fun
  | [d1, d2] => { results := [.lit (.bool true)], args := [d1, d2] }
  | _ => none }
def queueTellsRow : OpenClaim := { program := "ytgpooiahnpemjaa", sum := "fa7663057ea1870eea0f52b1c14d3ab8b8f2c4bbc8516a31af50034dc318d22f", func := "spillway/spillwaylaw23.QueueTells", spec := "queueTells", inPlace := ["internal/bytealg.abigen_runtime_cmpstring", "internal/bytealg.IndexByteString"], unfollowed := true, recurses := true, named := ["math/bits.divideError", "math/bits.overflowError"], apart := false }
def QueueTellsSaid : Prop := queueTellsRow.holds Try.pinned (OpenSpec.ofChange queueTellsSpec)

/-- ITS FALSE NEIGHBOUR: 'it returns false'. Refute it at one input. -/
def queueTellsWrong : ChangeSpec := { name := "queueTells", fn := fun _ => fun
  | [d1, d2] => { results := [.lit (.bool false)], args := [d1, d2] }
  | _ => none }
def QueueTellsWrongFalsely : Prop := queueTellsRow.holds Try.pinned (OpenSpec.ofChange queueTellsWrong)

/-- 'spillwaylaw23.QueueSorts': WHATEVER THE INPUT: true; the input reads as it did. -/
def queueSortsSpec : ChangeSpec := { name := "queueSorts", fn := fun _ => fun
  | [d1, d2] => { results := [.lit (.bool true)], args := [d1, d2] }
  | _ => none }
def queueSortsRow : OpenClaim := { program := "ytgpooiahnpemjaa", sum := "fa7663057ea1870eea0f52b1c14d3ab8b8f2c4bbc8516a31af50034dc318d22f", func := "spillway/spillwaylaw23.QueueSorts", spec := "queueSorts", inPlace := ["internal/bytealg.abigen_runtime_cmpstring", "internal/bytealg.IndexByteString"], unfollowed := true, recurses := true, named := ["math/bits.divideError", "math/bits.overflowError"], apart := false }
def QueueSortsSaid : Prop := queueSortsRow.holds Try.pinned (OpenSpec.ofChange queueSortsSpec)

/-- ITS FALSE NEIGHBOUR: 'it returns false'. Refute it at one input. -/
def queueSortsWrong : ChangeSpec := { name := "queueSorts", fn := fun _ => fun
  | [d1, d2] => { results := [.lit (.bool false)], args := [d1, d2] }
  | _ => none }
def QueueSortsWrongFalsely : Prop := queueSortsRow.holds Try.pinned (OpenSpec.ofChange queueSortsWrong)

/- THE SECOND FORM. 'bulk': how many values and letters a reading holds, each counted each time it is reached (what is shared counts as often as it is met; a slice's spare places count too). A statement '..UptoSaid' is the law's where the arguments, and the package variables that the reading takes, are together of bulk at most 1048576: NARROWER than '..Said'. Prove '..Said' where nothing that the law and all that it calls make is longer than what came in: it says more and counts as full. Else prove '..UptoSaid'. A law counts once. -/
mutual
def uptoBulk {H : Type} : DataW H → Nat
  | .lit (.string bytes) => bytes.length + 1
  | .lit _ => 1
  | .nil => 1
  | .ptr d => uptoBulk d + 1
  | .slice elems spare => uptoBulkAll elems + uptoBulkAll spare + 1
  | .agg parts => uptoBulkAll parts + 1
  | .iface _ d => uptoBulk d + 1
  | .map entries => uptoBulkEntries entries + 1
  | .held _ => 1
def uptoBulkAll {H : Type} : List (DataW H) → Nat
  | [] => 0
  | d :: r => uptoBulk d + uptoBulkAll r
def uptoBulkEntries {H : Type} : List (Lit × DataW H) → Nat
  | [] => 0
  | x :: r => uptoBulkEntry x + uptoBulkEntries r
def uptoBulkEntry {H : Type} : Lit × DataW H → Nat
  | (.string bytes, d) => bytes.length + uptoBulk d + 1
  | (_, d) => uptoBulk d + 1
 end
def uptoSmall : (H : Type) → List (DataW H) → Bool := fun _ ds => decide (uptoBulkAll ds ≤ 1048576)
def OpenSpec.upto (s : _root_.Go.ChangeSpec) : _root_.Go.OpenSpec := { _root_.Go.OpenSpec.ofChange s with cond := some uptoSmall }

/-- 'spillwaylaw23.QueueGone', WHERE WHAT IT READS IS OF BULK AT MOST 1048576: true; the input reads as it did. -/
def queueGoneUptoRow : OpenClaim := { program := "ytgpooiahnpemjaa", sum := "fa7663057ea1870eea0f52b1c14d3ab8b8f2c4bbc8516a31af50034dc318d22f", func := "spillway/spillwaylaw23.QueueGone", spec := "queueGone", inPlace := ["internal/bytealg.abigen_runtime_cmpstring", "internal/bytealg.IndexByteString"], unfollowed := true, recurses := true, named := ["math/bits.divideError", "math/bits.overflowError"], apart := false, narrowed := true }
def QueueGoneUptoSaid : Prop := queueGoneUptoRow.holds Try.pinned (OpenSpec.upto queueGoneSpec)

/-- 'spillwaylaw23.QueueDrops', WHERE WHAT IT READS IS OF BULK AT MOST 1048576: true; the input reads as it did. -/
def queueDropsUptoRow : OpenClaim := { program := "ytgpooiahnpemjaa", sum := "fa7663057ea1870eea0f52b1c14d3ab8b8f2c4bbc8516a31af50034dc318d22f", func := "spillway/spillwaylaw23.QueueDrops", spec := "queueDrops", inPlace := ["internal/bytealg.abigen_runtime_cmpstring", "internal/bytealg.IndexByteString"], unfollowed := true, recurses := true, named := ["math/bits.divideError", "math/bits.overflowError"], apart := false, narrowed := true }
def QueueDropsUptoSaid : Prop := queueDropsUptoRow.holds Try.pinned (OpenSpec.upto queueDropsSpec)

/-- 'spillwaylaw23.QueueAcks', WHERE WHAT IT READS IS OF BULK AT MOST 1048576: true; the input reads as it did. -/
def queueAcksUptoRow : OpenClaim := { program := "ytgpooiahnpemjaa", sum := "fa7663057ea1870eea0f52b1c14d3ab8b8f2c4bbc8516a31af50034dc318d22f", func := "spillway/spillwaylaw23.QueueAcks", spec := "queueAcks", inPlace := ["internal/bytealg.abigen_runtime_cmpstring", "internal/bytealg.IndexByteString"], unfollowed := true, recurses := true, named := ["math/bits.divideError", "math/bits.overflowError"], apart := false, narrowed := true }
def QueueAcksUptoSaid : Prop := queueAcksUptoRow.holds Try.pinned (OpenSpec.upto queueAcksSpec)

/-- 'spillwaylaw23.QueuePlays', WHERE WHAT IT READS IS OF BULK AT MOST 1048576: true; the input reads as it did. -/
def queuePlaysUptoRow : OpenClaim := { program := "ytgpooiahnpemjaa", sum := "fa7663057ea1870eea0f52b1c14d3ab8b8f2c4bbc8516a31af50034dc318d22f", func := "spillway/spillwaylaw23.QueuePlays", spec := "queuePlays", inPlace := ["internal/bytealg.abigen_runtime_cmpstring", "internal/bytealg.IndexByteString"], unfollowed := true, recurses := true, named := ["math/bits.divideError", "math/bits.overflowError"], apart := false, narrowed := true }
def QueuePlaysUptoSaid : Prop := queuePlaysUptoRow.holds Try.pinned (OpenSpec.upto queuePlaysSpec)

/-- 'spillwaylaw23.QueueTells', WHERE WHAT IT READS IS OF BULK AT MOST 1048576: true; the input reads as it did. -/
def queueTellsUptoRow : OpenClaim := { program := "ytgpooiahnpemjaa", sum := "fa7663057ea1870eea0f52b1c14d3ab8b8f2c4bbc8516a31af50034dc318d22f", func := "spillway/spillwaylaw23.QueueTells", spec := "queueTells", inPlace := ["internal/bytealg.abigen_runtime_cmpstring", "internal/bytealg.IndexByteString"], unfollowed := true, recurses := true, named := ["math/bits.divideError", "math/bits.overflowError"], apart := false, narrowed := true }
def QueueTellsUptoSaid : Prop := queueTellsUptoRow.holds Try.pinned (OpenSpec.upto queueTellsSpec)

/-- 'spillwaylaw23.QueueSorts', WHERE WHAT IT READS IS OF BULK AT MOST 1048576: true; the input reads as it did. -/
def queueSortsUptoRow : OpenClaim := { program := "ytgpooiahnpemjaa", sum := "fa7663057ea1870eea0f52b1c14d3ab8b8f2c4bbc8516a31af50034dc318d22f", func := "spillway/spillwaylaw23.QueueSorts", spec := "queueSorts", inPlace := ["internal/bytealg.abigen_runtime_cmpstring", "internal/bytealg.IndexByteString"], unfollowed := true, recurses := true, named := ["math/bits.divideError", "math/bits.overflowError"], apart := false, narrowed := true }
def QueueSortsUptoSaid : Prop := queueSortsUptoRow.holds Try.pinned (OpenSpec.upto queueSortsSpec)

end Rows
end Go.Proofs.Ytgpooiahnpemjaa
