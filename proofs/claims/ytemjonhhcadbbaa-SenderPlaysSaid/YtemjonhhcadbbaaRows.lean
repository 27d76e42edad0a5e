/-
  No cell of these rows narrows 'for every input' (looked for: loops, veiled, ifaces, maps, wideKeys, modest, calm, conditions, laid).
  DERIVED. THE GIVEN ROWS OF THIS SEAT. 5 by the template 'for every input the law returns true; each argument reads behind the call as it read before'; 0 by the template 'total and deterministic' (their statements: YtemjonhhcadbbaaTotals.lean).
  GIVEN WITH THE SEED: the statements are not yours to turn. If you find one false, say at which input.
  Laid BY PROGRAM, IN A SANDBOX (cutbox-rows.mjs): the forced cells as the released guide's own fill.sh prints them over the translation c8058923ad08397e… (all of the seat's roots in one cut). By AI agents, Wed Nov 11 2026. No macro, syntax, notation, axiom, sorry.
-/
import Derived.Test.YtemjonhhcadbbaaChecked
import GoSem.Claim
import GoSem.ClaimJoined
import GoSem.ClaimMapViews
import Derived.JoinedTies
import Derived.KernelRfl
namespace Go.Proofs.Ytemjonhhcadbbaa
/- THE CELL 'sum', in the pinned program and in every row, IS THE sha256 OF THE DUMP (.gsa) THAT YtemjonhhcadbbaaProg.lean LOADS. Nothing in Lean hashes anything: it is a label: what it is worth is what the hold of that sum in a sandbox is worth. -/
noncomputable def Try.pinned : Pinned := { name := "ytemjonhhcadbbaa", sum := "c8058923ad08397eec7f42d7a1539e8a93cecbe9cb71089373c4b3c82946d506", checked := Try.checked }
namespace Rows
def none {H : Type} : Left H := { results := [], args := [] }

/-- 'spillwaylaw24.SenderIdle': WHATEVER THE INPUT: true; the input reads as it did. -/
def senderIdleSpec : ChangeSpec := { name := "senderIdle", fn := fun _ => fun
  | [d] => { results := [.lit (.bool true)], args := [d] }
  | _ => none }
def senderIdleRow : OpenClaim := { program := "ytemjonhhcadbbaa", sum := "c8058923ad08397eec7f42d7a1539e8a93cecbe9cb71089373c4b3c82946d506", func := "spillway/spillwaylaw24.SenderIdle", spec := "senderIdle", inPlace := ["internal/bytealg.abigen_runtime_cmpstring"], unfollowed := true, recurses := true, apart := false }
def SenderIdleSaid : Prop := senderIdleRow.holds Try.pinned (OpenSpec.ofChange senderIdleSpec)

/-- ITS FALSE NEIGHBOUR: 'it returns false'. Refute it at one input. -/
def senderIdleWrong : ChangeSpec := { name := "senderIdle", fn := fun _ => fun
  | [d] => { results := [.lit (.bool false)], args := [d] }
  | _ => none }
def SenderIdleWrongFalsely : Prop := senderIdleRow.holds Try.pinned (OpenSpec.ofChange senderIdleWrong)

/-- 'spillwaylaw24.SenderWaits': WHATEVER THE INPUT: true; the input reads as it did. -/
def senderWaitsSpec : ChangeSpec := { name := "senderWaits", fn := fun _ => fun
  | [d1, d2] => { results := [.lit (.bool true)], args := [d1, d2] }
  | _ => none }
def senderWaitsRow : OpenClaim := { program := "ytemjonhhcadbbaa", sum := "c8058923ad08397eec7f42d7a1539e8a93cecbe9cb71089373c4b3c82946d506", func := "spillway/spillwaylaw24.SenderWaits", spec := "senderWaits", inPlace := ["internal/bytealg.abigen_runtime_cmpstring"], unfollowed := true, recurses := true, apart := false }
def SenderWaitsSaid : Prop := senderWaitsRow.holds Try.pinned (OpenSpec.ofChange senderWaitsSpec)

/-- ITS FALSE NEIGHBOUR: 'it returns false'. Refute it at one input. -/
def senderWaitsWrong : ChangeSpec := { name := "senderWaits", fn := fun _ => fun
  | [d1, d2] => { results := [.lit (.bool false)], args := [d1, d2] }
  | _ => none }
def SenderWaitsWrongFalsely : Prop := senderWaitsRow.holds Try.pinned (OpenSpec.ofChange senderWaitsWrong)

/-- 'spillwaylaw24.SenderLow': WHATEVER THE INPUT: true; the input reads as it did. -/
def senderLowSpec : ChangeSpec := { name := "senderLow", fn := fun _ => fun
  | [d1, d2] => { results := [.lit (.bool true)], args := [d1, d2] }
  | _ => none }
def senderLowRow : OpenClaim := { program := "ytemjonhhcadbbaa", sum := "c8058923ad08397eec7f42d7a1539e8a93cecbe9cb71089373c4b3c82946d506", func := "spillway/spillwaylaw24.SenderLow", spec := "senderLow", inPlace := ["internal/bytealg.abigen_runtime_cmpstring"], unfollowed := true, recurses := true, apart := false }
def SenderLowSaid : Prop := senderLowRow.holds Try.pinned (OpenSpec.ofChange senderLowSpec)

/-- ITS FALSE NEIGHBOUR: 'it returns false'. Refute it at one input. -/
def senderLowWrong : ChangeSpec := { name := "senderLow", fn := fun _ => fun
  | [d1, d2] => { results := [.lit (.bool false)], args := [d1, d2] }
  | _ => none }
def SenderLowWrongFalsely : Prop := senderLowRow.holds Try.pinned (OpenSpec.ofChange senderLowWrong)

/-- 'spillwaylaw24.SenderPlays': WHATEVER THE INPUT: true; the input reads as it did. -/
def senderPlaysSpec : ChangeSpec := { name := "senderPlays", fn := fun _ => fun
  | [d] => { results := [.lit (.bool true)], args := [d] }
  | _ => none }
def senderPlaysRow : OpenClaim := { program := "ytemjonhhcadbbaa", sum := "c8058923ad08397eec7f42d7a1539e8a93cecbe9cb71089373c4b3c82946d506", func := "spillway/spillwaylaw24.SenderPlays", spec := "senderPlays", inPlace := ["internal/bytealg.abigen_runtime_cmpstring"], unfollowed := true, recurses := true, apart := false }
def SenderPlaysSaid : Prop := senderPlaysRow.holds Try.pinned (OpenSpec.ofChange senderPlaysSpec)

/-- ITS FALSE NEIGHBOUR: 'it returns false'. Refute it at one input. -/
def senderPlaysWrong : ChangeSpec := { name := "senderPlays", fn := fun _ => fun
  | [d] => { results := [.lit (.bool false)], args := [d] }
  | _ => none }
def SenderPlaysWrongFalsely : Prop := senderPlaysRow.holds Try.pinned (OpenSpec.ofChange senderPlaysWrong)

/-- 'spillwaylaw24.SenderAcked': WHATEVER THE INPUT: true; the input reads as it did. -/
def senderAckedSpec : ChangeSpec := { name := "senderAcked", fn := fun _ => fun
  | [d1, d2] => { results := [.lit (.bool true)], args := [d1, d2] }
  | _ => none }
def senderAckedRow : OpenClaim := { program := "ytemjonhhcadbbaa", sum := "c8058923ad08397eec7f42d7a1539e8a93cecbe9cb71089373c4b3c82946d506", func := "spillway/spillwaylaw24.SenderAcked", spec := "senderAcked", inPlace := ["internal/bytealg.abigen_runtime_cmpstring"], unfollowed := true, recurses := true, apart := false }
def SenderAckedSaid : Prop := senderAckedRow.holds Try.pinned (OpenSpec.ofChange senderAckedSpec)

/-- ITS FALSE NEIGHBOUR: 'it returns false'. Refute it at one input. -/
def senderAckedWrong : ChangeSpec := { name := "senderAcked", fn := fun _ => fun
  | [d1, d2] => { results := [.lit (.bool false)], args := [d1, d2] }
  | _ => none }
def SenderAckedWrongFalsely : Prop := senderAckedRow.holds Try.pinned (OpenSpec.ofChange senderAckedWrong)

/- THE SECOND FORM. 'bulk': how many values and letters a reading holds, each counted each time it is reached (what is shared counts as often as it is met; a slice's spare places count too). A statement '..UptoSaid' is the law's where the arguments, and the package variables that the reading takes, are together of bulk at most 1048576: NARROWER than '..Said'. Prove '..Said' where nothing that the law and all that it calls make is longer than what came in: it says more and counts as full. Else prove '..UptoSaid'. A law counts once. -/
mutual
def uptoBulk {H : Type} : DataW H → Nat
  | .lit (.string bytes) => bytes.length + 1
  | .lit _ => 1
  | .nil => 1
  | .ptr d => uptoBulk d + 1
  | .slice elems spare => uptoBulkAll elems + uptoBulkAll spare + 1
  | .agg parts => uptoBulkAll parts + 1
  | .iface _ d => uptoBulk d + 1
  | .map entries => uptoBulkEntries entries + 1
  | .held _ => 1
def uptoBulkAll {H : Type} : List (DataW H) → Nat
  | [] => 0
  | d :: r => uptoBulk d + uptoBulkAll r
def uptoBulkEntries {H : Type} : List (Lit × DataW H) → Nat
  | [] => 0
  | x :: r => uptoBulkEntry x + uptoBulkEntries r
def uptoBulkEntry {H : Type} : Lit × DataW H → Nat
  | (.string bytes, d) => bytes.length + uptoBulk d + 1
  | (_, d) => uptoBulk d + 1
 end
def uptoSmall : (H : Type) → List (DataW H) → Bool := fun _ ds => decide (uptoBulkAll ds ≤ 1048576)
def OpenSpec.upto (s : _root_.Go.ChangeSpec) : _root_.Go.OpenSpec := { _root_.Go.OpenSpec.ofChange s with cond := some uptoSmall }

/-- 'spillwaylaw24.SenderIdle', WHERE WHAT IT READS IS OF BULK AT MOST 1048576: true; the input reads as it did. -/
def senderIdleUptoRow : OpenClaim := { program := "ytemjonhhcadbbaa", sum := "c8058923ad08397eec7f42d7a1539e8a93cecbe9cb71089373c4b3c82946d506", func := "spillway/spillwaylaw24.SenderIdle", spec := "senderIdle", inPlace := ["internal/bytealg.abigen_runtime_cmpstring"], unfollowed := true, recurses := true, apart := false, narrowed := true }
def SenderIdleUptoSaid : Prop := senderIdleUptoRow.holds Try.pinned (OpenSpec.upto senderIdleSpec)

/-- 'spillwaylaw24.SenderWaits', WHERE WHAT IT READS IS OF BULK AT MOST 1048576: true; the input reads as it did. -/
def senderWaitsUptoRow : OpenClaim := { program := "ytemjonhhcadbbaa", sum := "c8058923ad08397eec7f42d7a1539e8a93cecbe9cb71089373c4b3c82946d506", func := "spillway/spillwaylaw24.SenderWaits", spec := "senderWaits", inPlace := ["internal/bytealg.abigen_runtime_cmpstring"], unfollowed := true, recurses := true, apart := false, narrowed := true }
def SenderWaitsUptoSaid : Prop := senderWaitsUptoRow.holds Try.pinned (OpenSpec.upto senderWaitsSpec)

/-- 'spillwaylaw24.SenderLow', WHERE WHAT IT READS IS OF BULK AT MOST 1048576: true; the input reads as it did. -/
def senderLowUptoRow : OpenClaim := { program := "ytemjonhhcadbbaa", sum := "c8058923ad08397eec7f42d7a1539e8a93cecbe9cb71089373c4b3c82946d506", func := "spillway/spillwaylaw24.SenderLow", spec := "senderLow", inPlace := ["internal/bytealg.abigen_runtime_cmpstring"], unfollowed := true, recurses := true, apart := false, narrowed := true }
def SenderLowUptoSaid : Prop := senderLowUptoRow.holds Try.pinned (OpenSpec.upto senderLowSpec)

/-- 'spillwaylaw24.SenderPlays', WHERE WHAT IT READS IS OF BULK AT MOST 1048576: true; the input reads as it did. -/
def senderPlaysUptoRow : OpenClaim := { program := "ytemjonhhcadbbaa", sum := "c8058923ad08397eec7f42d7a1539e8a93cecbe9cb71089373c4b3c82946d506", func := "spillway/spillwaylaw24.SenderPlays", spec := "senderPlays", inPlace := ["internal/bytealg.abigen_runtime_cmpstring"], unfollowed := true, recurses := true, apart := false, narrowed := true }
def SenderPlaysUptoSaid : Prop := senderPlaysUptoRow.holds Try.pinned (OpenSpec.upto senderPlaysSpec)

/-- 'spillwaylaw24.SenderAcked', WHERE WHAT IT READS IS OF BULK AT MOST 1048576: true; the input reads as it did. -/
def senderAckedUptoRow : OpenClaim := { program := "ytemjonhhcadbbaa", sum := "c8058923ad08397eec7f42d7a1539e8a93cecbe9cb71089373c4b3c82946d506", func := "spillway/spillwaylaw24.SenderAcked", spec := "senderAcked", inPlace := ["internal/bytealg.abigen_runtime_cmpstring"], unfollowed := true, recurses := true, apart := false, narrowed := true }
def SenderAckedUptoSaid : Prop := senderAckedUptoRow.holds Try.pinned (OpenSpec.upto senderAckedSpec)

end Rows
end Go.Proofs.Ytemjonhhcadbbaa
