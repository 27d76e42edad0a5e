/-
  NARROWER THAN 'FOR EVERY INPUT', by the rows' own cells (each row's printed sentence says how): PatternTells: laid · PatternPlain: laid · PatternParts: laid · PatternAll: laid · PatternStars: laid.
  DERIVED. THE GIVEN ROWS OF THIS SEAT. 5 by the template 'for every input the law returns true; each argument reads behind the call as it read before'; 0 by the template 'total and deterministic' (their statements: YtpmgmepanbdfpaaDoorTotals.lean).
  GIVEN WITH THE SEED: the statements are not yours to turn. If you find one false, say at which input.
  Laid BY PROGRAM, IN A SANDBOX (cutbox-rows.mjs): the forced cells as the released guide's own fill.sh prints them over the translation c25e41627f0be040… (all of the seat's roots in one cut). By AI agents, Wed Nov 11 2026. No macro, syntax, notation, axiom, sorry.
-/
import Derived.Test.YtpmgmepanbdfpaaDoorChecked
import GoSem.PinnedTables
import GoSem.Claim
import GoSem.ClaimJoined
import GoSem.ClaimMapViews
import Derived.JoinedTies
import Derived.KernelRfl
namespace Go.Proofs.YtpmgmepanbdfpaaDoor
/- THE CELL 'sum', in the pinned program and in every row, IS THE sha256 OF THE DUMP (.gsa) THAT YtpmgmepanbdfpaaDoorProg.lean LOADS. Nothing in Lean hashes anything: it is a label: what it is worth is what the hold of that sum in a sandbox is worth. -/
noncomputable def Tryd.pinned : Pinned := { name := "ytpmgmepanbdfpaadoor", sum := "c25e41627f0be04053c3ed3104bfb8da74a14119fb0057e9a4d64d2506c67f58", checked := Tryd.checked }
namespace Rows
def none {H : Type} : Left H := { results := [], args := [] }

/- WHAT THE LISTED PACKAGE-LEVEL VARIABLES READ AS WHEN THE CALL BEGINS. Each datum BY PROGRAM (the guide's laid-datum.mjs) off the statement by which the dump's own 'gosem.cut.vars' lays the variable. In a bare row this is a premise. The card (YtpmgmepanbdfpaaDoorCards.lean) ties it to the program's text. -/
def laid_unicode_utf8_acceptRanges {H : Type} : DataW H := .agg [.agg [.lit (.int .u8 128), .lit (.int .u8 191)], .agg [.lit (.int .u8 160), .lit (.int .u8 191)], .agg [.lit (.int .u8 128), .lit (.int .u8 159)], .agg [.lit (.int .u8 144), .lit (.int .u8 191)], .agg [.lit (.int .u8 128), .lit (.int .u8 143)], .agg [.lit (.int .u8 0), .lit (.int .u8 0)], .agg [.lit (.int .u8 0), .lit (.int .u8 0)], .agg [.lit (.int .u8 0), .lit (.int .u8 0)], .agg [.lit (.int .u8 0), .lit (.int .u8 0)], .agg [.lit (.int .u8 0), .lit (.int .u8 0)], .agg [.lit (.int .u8 0), .lit (.int .u8 0)], .agg [.lit (.int .u8 0), .lit (.int .u8 0)], .agg [.lit (.int .u8 0), .lit (.int .u8 0)], .agg [.lit (.int .u8 0), .lit (.int .u8 0)], .agg [.lit (.int .u8 0), .lit (.int .u8 0)], .agg [.lit (.int .u8 0), .lit (.int .u8 0)]]
/-- One of Go's own tables, pinned by name: the form's constant. -/
def laid_unicode_utf8_first : DataW Unit := Go.Pinned.utf8First

/-- 'spillwaylaw4.PatternTells': WHATEVER THE INPUT: true; the input reads as it did. -/
def patternTellsSpec : ChangeSpec := { name := "patternTells", fn := fun _ => fun
  | [d1, d2, d3, d4] => { results := [.lit (.bool true)], args := [d1, d2, d3, d4] }
  | _ => none }
def patternTellsRow : OpenClaim := { program := "ytpmgmepanbdfpaadoor", sum := "c25e41627f0be04053c3ed3104bfb8da74a14119fb0057e9a4d64d2506c67f58", func := "spillway/spillwaylaw4.PatternTells", spec := "patternTells", inPlace := ["internal/bytealg.IndexByteString", "internal/bytealg.IndexString"], named := ["unicode/utf8.first", "unicode/utf8.acceptRanges", "internal/bytealg.MaxLen"], apart := false, laid := [("unicode/utf8.acceptRanges", laid_unicode_utf8_acceptRanges), ("unicode/utf8.first", laid_unicode_utf8_first)] }
def PatternTellsSaid : Prop := patternTellsRow.holds Tryd.pinned (OpenSpec.ofChange patternTellsSpec)

/-- ITS FALSE NEIGHBOUR: 'it returns false'. Refute it at one input. -/
def patternTellsWrong : ChangeSpec := { name := "patternTells", fn := fun _ => fun
  | [d1, d2, d3, d4] => { results := [.lit (.bool false)], args := [d1, d2, d3, d4] }
  | _ => none }
def PatternTellsWrongFalsely : Prop := patternTellsRow.holds Tryd.pinned (OpenSpec.ofChange patternTellsWrong)

/-- 'spillwaylaw4.PatternPlain': WHATEVER THE INPUT: true; the input reads as it did. -/
def patternPlainSpec : ChangeSpec := { name := "patternPlain", fn := fun _ => fun
  | [d1, d2, d3] => { results := [.lit (.bool true)], args := [d1, d2, d3] }
  | _ => none }
def patternPlainRow : OpenClaim := { program := "ytpmgmepanbdfpaadoor", sum := "c25e41627f0be04053c3ed3104bfb8da74a14119fb0057e9a4d64d2506c67f58", func := "spillway/spillwaylaw4.PatternPlain", spec := "patternPlain", inPlace := ["internal/bytealg.IndexByteString", "internal/bytealg.IndexString"], named := ["unicode/utf8.first", "unicode/utf8.acceptRanges", "internal/bytealg.MaxLen"], apart := false, laid := [("unicode/utf8.acceptRanges", laid_unicode_utf8_acceptRanges), ("unicode/utf8.first", laid_unicode_utf8_first)] }
def PatternPlainSaid : Prop := patternPlainRow.holds Tryd.pinned (OpenSpec.ofChange patternPlainSpec)

/-- ITS FALSE NEIGHBOUR: 'it returns false'. Refute it at one input. -/
def patternPlainWrong : ChangeSpec := { name := "patternPlain", fn := fun _ => fun
  | [d1, d2, d3] => { results := [.lit (.bool false)], args := [d1, d2, d3] }
  | _ => none }
def PatternPlainWrongFalsely : Prop := patternPlainRow.holds Tryd.pinned (OpenSpec.ofChange patternPlainWrong)

/-- 'spillwaylaw4.PatternParts': WHATEVER THE INPUT: true; the input reads as it did. -/
def patternPartsSpec : ChangeSpec := { name := "patternParts", fn := fun _ => fun
  | [d1, d2, d3] => { results := [.lit (.bool true)], args := [d1, d2, d3] }
  | _ => none }
def patternPartsRow : OpenClaim := { program := "ytpmgmepanbdfpaadoor", sum := "c25e41627f0be04053c3ed3104bfb8da74a14119fb0057e9a4d64d2506c67f58", func := "spillway/spillwaylaw4.PatternParts", spec := "patternParts", inPlace := ["internal/bytealg.IndexByteString", "internal/bytealg.IndexString"], named := ["unicode/utf8.first", "unicode/utf8.acceptRanges", "internal/bytealg.MaxLen"], apart := false, laid := [("unicode/utf8.acceptRanges", laid_unicode_utf8_acceptRanges), ("unicode/utf8.first", laid_unicode_utf8_first)] }
def PatternPartsSaid : Prop := patternPartsRow.holds Tryd.pinned (OpenSpec.ofChange patternPartsSpec)

/-- ITS FALSE NEIGHBOUR: 'it returns false'. Refute it at one input. -/
def patternPartsWrong : ChangeSpec := { name := "patternParts", fn := fun _ => fun
  | [d1, d2, d3] => { results := [.lit (.bool false)], args := [d1, d2, d3] }
  | _ => none }
def PatternPartsWrongFalsely : Prop := patternPartsRow.holds Tryd.pinned (OpenSpec.ofChange patternPartsWrong)

/-- 'spillwaylaw4.PatternAll': WHATEVER THE INPUT: true; the input reads as it did. -/
def patternAllSpec : ChangeSpec := { name := "patternAll", fn := fun _ => fun
  | [d1, d2, d3] => { results := [.lit (.bool true)], args := [d1, d2, d3] }
  | _ => none }
def patternAllRow : OpenClaim := { program := "ytpmgmepanbdfpaadoor", sum := "c25e41627f0be04053c3ed3104bfb8da74a14119fb0057e9a4d64d2506c67f58", func := "spillway/spillwaylaw4.PatternAll", spec := "patternAll", inPlace := ["internal/bytealg.IndexByteString", "internal/bytealg.IndexString"], named := ["unicode/utf8.first", "unicode/utf8.acceptRanges", "internal/bytealg.MaxLen"], apart := false, laid := [("unicode/utf8.acceptRanges", laid_unicode_utf8_acceptRanges), ("unicode/utf8.first", laid_unicode_utf8_first)] }
def PatternAllSaid : Prop := patternAllRow.holds Tryd.pinned (OpenSpec.ofChange patternAllSpec)

/-- ITS FALSE NEIGHBOUR: 'it returns false'. Refute it at one input. -/
def patternAllWrong : ChangeSpec := { name := "patternAll", fn := fun _ => fun
  | [d1, d2, d3] => { results := [.lit (.bool false)], args := [d1, d2, d3] }
  | _ => none }
def PatternAllWrongFalsely : Prop := patternAllRow.holds Tryd.pinned (OpenSpec.ofChange patternAllWrong)

/-- 'spillwaylaw4.PatternStars': WHATEVER THE INPUT: true; the input reads as it did. -/
def patternStarsSpec : ChangeSpec := { name := "patternStars", fn := fun _ => fun
  | [d1, d2, d3] => { results := [.lit (.bool true)], args := [d1, d2, d3] }
  | _ => none }
def patternStarsRow : OpenClaim := { program := "ytpmgmepanbdfpaadoor", sum := "c25e41627f0be04053c3ed3104bfb8da74a14119fb0057e9a4d64d2506c67f58", func := "spillway/spillwaylaw4.PatternStars", spec := "patternStars", inPlace := ["internal/bytealg.IndexByteString", "internal/bytealg.IndexString"], named := ["unicode/utf8.first", "unicode/utf8.acceptRanges", "internal/bytealg.MaxLen"], apart := false, laid := [("unicode/utf8.acceptRanges", laid_unicode_utf8_acceptRanges), ("unicode/utf8.first", laid_unicode_utf8_first)] }
def PatternStarsSaid : Prop := patternStarsRow.holds Tryd.pinned (OpenSpec.ofChange patternStarsSpec)

/-- ITS FALSE NEIGHBOUR: 'it returns false'. Refute it at one input. -/
def patternStarsWrong : ChangeSpec := { name := "patternStars", fn := fun _ => fun
  | [d1, d2, d3] => { results := [.lit (.bool false)], args := [d1, d2, d3] }
  | _ => none }
def PatternStarsWrongFalsely : Prop := patternStarsRow.holds Tryd.pinned (OpenSpec.ofChange patternStarsWrong)

/- THE SECOND FORM. 'bulk': how many values and letters a reading holds, each counted each time it is reached (what is shared counts as often as it is met; a slice's spare places count too). A statement '..UptoSaid' is the law's where the arguments, and the package variables that the reading takes, are together of bulk at most 1048576: NARROWER than '..Said'. Prove '..Said' where nothing that the law and all that it calls make is longer than what came in: it says more and counts as full. Else prove '..UptoSaid'. A law counts once. -/
mutual
def uptoBulk {H : Type} : DataW H → Nat
  | .lit (.string bytes) => bytes.length + 1
  | .lit _ => 1
  | .nil => 1
  | .ptr d => uptoBulk d + 1
  | .slice elems spare => uptoBulkAll elems + uptoBulkAll spare + 1
  | .agg parts => uptoBulkAll parts + 1
  | .iface _ d => uptoBulk d + 1
  | .map entries => uptoBulkEntries entries + 1
  | .held _ => 1
def uptoBulkAll {H : Type} : List (DataW H) → Nat
  | [] => 0
  | d :: r => uptoBulk d + uptoBulkAll r
def uptoBulkEntries {H : Type} : List (Lit × DataW H) → Nat
  | [] => 0
  | x :: r => uptoBulkEntry x + uptoBulkEntries r
def uptoBulkEntry {H : Type} : Lit × DataW H → Nat
  | (.string bytes, d) => bytes.length + uptoBulk d + 1
  | (_, d) => uptoBulk d + 1
 end
def uptoSmall : (H : Type) → List (DataW H) → Bool := fun _ ds => decide (uptoBulkAll ds ≤ 1048576)
def OpenSpec.upto (s : _root_.Go.ChangeSpec) : _root_.Go.OpenSpec := { _root_.Go.OpenSpec.ofChange s with cond := some uptoSmall }

/-- 'spillwaylaw4.PatternTells', WHERE WHAT IT READS IS OF BULK AT MOST 1048576: true; the input reads as it did. -/
def patternTellsUptoRow : OpenClaim := { program := "ytpmgmepanbdfpaadoor", sum := "c25e41627f0be04053c3ed3104bfb8da74a14119fb0057e9a4d64d2506c67f58", func := "spillway/spillwaylaw4.PatternTells", spec := "patternTells", inPlace := ["internal/bytealg.IndexByteString", "internal/bytealg.IndexString"], named := ["unicode/utf8.first", "unicode/utf8.acceptRanges", "internal/bytealg.MaxLen"], apart := false, laid := [("unicode/utf8.acceptRanges", laid_unicode_utf8_acceptRanges), ("unicode/utf8.first", laid_unicode_utf8_first)], narrowed := true }
def PatternTellsUptoSaid : Prop := patternTellsUptoRow.holds Tryd.pinned (OpenSpec.upto patternTellsSpec)

/-- 'spillwaylaw4.PatternPlain', WHERE WHAT IT READS IS OF BULK AT MOST 1048576: true; the input reads as it did. -/
def patternPlainUptoRow : OpenClaim := { program := "ytpmgmepanbdfpaadoor", sum := "c25e41627f0be04053c3ed3104bfb8da74a14119fb0057e9a4d64d2506c67f58", func := "spillway/spillwaylaw4.PatternPlain", spec := "patternPlain", inPlace := ["internal/bytealg.IndexByteString", "internal/bytealg.IndexString"], named := ["unicode/utf8.first", "unicode/utf8.acceptRanges", "internal/bytealg.MaxLen"], apart := false, laid := [("unicode/utf8.acceptRanges", laid_unicode_utf8_acceptRanges), ("unicode/utf8.first", laid_unicode_utf8_first)], narrowed := true }
def PatternPlainUptoSaid : Prop := patternPlainUptoRow.holds Tryd.pinned (OpenSpec.upto patternPlainSpec)

/-- 'spillwaylaw4.PatternParts', WHERE WHAT IT READS IS OF BULK AT MOST 1048576: true; the input reads as it did. -/
def patternPartsUptoRow : OpenClaim := { program := "ytpmgmepanbdfpaadoor", sum := "c25e41627f0be04053c3ed3104bfb8da74a14119fb0057e9a4d64d2506c67f58", func := "spillway/spillwaylaw4.PatternParts", spec := "patternParts", inPlace := ["internal/bytealg.IndexByteString", "internal/bytealg.IndexString"], named := ["unicode/utf8.first", "unicode/utf8.acceptRanges", "internal/bytealg.MaxLen"], apart := false, laid := [("unicode/utf8.acceptRanges", laid_unicode_utf8_acceptRanges), ("unicode/utf8.first", laid_unicode_utf8_first)], narrowed := true }
def PatternPartsUptoSaid : Prop := patternPartsUptoRow.holds Tryd.pinned (OpenSpec.upto patternPartsSpec)

/-- 'spillwaylaw4.PatternAll', WHERE WHAT IT READS IS OF BULK AT MOST 1048576: true; the input reads as it did. -/
def patternAllUptoRow : OpenClaim := { program := "ytpmgmepanbdfpaadoor", sum := "c25e41627f0be04053c3ed3104bfb8da74a14119fb0057e9a4d64d2506c67f58", func := "spillway/spillwaylaw4.PatternAll", spec := "patternAll", inPlace := ["internal/bytealg.IndexByteString", "internal/bytealg.IndexString"], named := ["unicode/utf8.first", "unicode/utf8.acceptRanges", "internal/bytealg.MaxLen"], apart := false, laid := [("unicode/utf8.acceptRanges", laid_unicode_utf8_acceptRanges), ("unicode/utf8.first", laid_unicode_utf8_first)], narrowed := true }
def PatternAllUptoSaid : Prop := patternAllUptoRow.holds Tryd.pinned (OpenSpec.upto patternAllSpec)

/-- 'spillwaylaw4.PatternStars', WHERE WHAT IT READS IS OF BULK AT MOST 1048576: true; the input reads as it did. -/
def patternStarsUptoRow : OpenClaim := { program := "ytpmgmepanbdfpaadoor", sum := "c25e41627f0be04053c3ed3104bfb8da74a14119fb0057e9a4d64d2506c67f58", func := "spillway/spillwaylaw4.PatternStars", spec := "patternStars", inPlace := ["internal/bytealg.IndexByteString", "internal/bytealg.IndexString"], named := ["unicode/utf8.first", "unicode/utf8.acceptRanges", "internal/bytealg.MaxLen"], apart := false, laid := [("unicode/utf8.acceptRanges", laid_unicode_utf8_acceptRanges), ("unicode/utf8.first", laid_unicode_utf8_first)], narrowed := true }
def PatternStarsUptoSaid : Prop := patternStarsUptoRow.holds Tryd.pinned (OpenSpec.upto patternStarsSpec)

end Rows
end Go.Proofs.YtpmgmepanbdfpaaDoor
