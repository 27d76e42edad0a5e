/-
  DERIVED. GIVEN WITH THE SEED: THE CARDS: each row of YtnfddeiegbifhaaDoorRows.lean that lists a variable, with what it lists TIED to the program's text (the seventh form; the later family's looks); each row that meets fmt, with fmt's text TOLD by the authors' own Lean function (tested against real Go, not proved from fmt's source: count such statements apart). THE CARD IS WHAT COUNTS. Prove the row's statement (the work); the ties are given (YtnfddeiegbifhaaDoorTie.lean); close each card by the builder's one call (the guide's Derived/Test/ToyasCard.lean, 'card_holds'). Laid BY PROGRAM, IN A SANDBOX (cutbox-door.mjs). By AI agents, Wed Nov 11 2026. No macro, syntax, notation, axiom, sorry.
-/
import Derived.Test.YtnfddeiegbifhaaDoorRows
import GoSem.ClaimSeven
namespace Go.Proofs.YtnfddeiegbifhaaDoor
namespace Rows

/-- THE TIED CARD OF 'spillwaylaw16.HistoryRefuses'. -/
def historyRefusesCard : Claim7 := { stood := { row := historyRefusesRow, standIns := [], harness := (true, "e8aff0da0b8246c2b77b3deca34439ddff06adf763d5c94f63922a30afa891ba"), looks := false }, kinds := [], alts := [], laidByText := true, laidKinds := [.data, .pinned], laidTests := true, laidLooks := .later }
def HistoryRefusesCardSaid : Prop := Claim7.holds Tryd.pinned (.plain (OpenSpec.ofChange historyRefusesSpec)) historyRefusesCard

/-- THE TIED CARD OF 'spillwaylaw16.HistoryStays'. -/
def historyStaysCard : Claim7 := { stood := { row := historyStaysRow, standIns := [], harness := (true, "e8aff0da0b8246c2b77b3deca34439ddff06adf763d5c94f63922a30afa891ba"), looks := false }, kinds := [], alts := [], laidByText := true, laidKinds := [.data, .pinned], laidTests := true, laidLooks := .later }
def HistoryStaysCardSaid : Prop := Claim7.holds Tryd.pinned (.plain (OpenSpec.ofChange historyStaysSpec)) historyStaysCard

/-- THE TIED CARD OF 'spillwaylaw16.HistoryPlays'. -/
def historyPlaysCard : Claim7 := { stood := { row := historyPlaysRow, standIns := [], harness := (true, "e8aff0da0b8246c2b77b3deca34439ddff06adf763d5c94f63922a30afa891ba"), looks := false }, kinds := [], alts := [], laidByText := true, laidKinds := [.data, .pinned], laidTests := true, laidLooks := .later }
def HistoryPlaysCardSaid : Prop := Claim7.holds Tryd.pinned (.plain (OpenSpec.ofChange historyPlaysSpec)) historyPlaysCard

/-- THE SECOND FORM's CARD OF 'spillwaylaw16.HistoryRefuses'. -/
def historyRefusesUptoCard : Claim7 := { stood := { row := historyRefusesUptoRow, standIns := [], harness := (true, "e8aff0da0b8246c2b77b3deca34439ddff06adf763d5c94f63922a30afa891ba"), looks := false }, kinds := [], alts := [], laidByText := true, laidKinds := [.data, .pinned], laidTests := true, laidLooks := .later }
def HistoryRefusesUptoCardSaid : Prop := Claim7.holds Tryd.pinned (.plain (OpenSpec.upto historyRefusesSpec)) historyRefusesUptoCard

/-- THE SECOND FORM's CARD OF 'spillwaylaw16.HistoryStays'. -/
def historyStaysUptoCard : Claim7 := { stood := { row := historyStaysUptoRow, standIns := [], harness := (true, "e8aff0da0b8246c2b77b3deca34439ddff06adf763d5c94f63922a30afa891ba"), looks := false }, kinds := [], alts := [], laidByText := true, laidKinds := [.data, .pinned], laidTests := true, laidLooks := .later }
def HistoryStaysUptoCardSaid : Prop := Claim7.holds Tryd.pinned (.plain (OpenSpec.upto historyStaysSpec)) historyStaysUptoCard

/-- THE SECOND FORM's CARD OF 'spillwaylaw16.HistoryPlays'. -/
def historyPlaysUptoCard : Claim7 := { stood := { row := historyPlaysUptoRow, standIns := [], harness := (true, "e8aff0da0b8246c2b77b3deca34439ddff06adf763d5c94f63922a30afa891ba"), looks := false }, kinds := [], alts := [], laidByText := true, laidKinds := [.data, .pinned], laidTests := true, laidLooks := .later }
def HistoryPlaysUptoCardSaid : Prop := Claim7.holds Tryd.pinned (.plain (OpenSpec.upto historyPlaysSpec)) historyPlaysUptoCard
end Rows
end Go.Proofs.YtnfddeiegbifhaaDoor
