/-
  DERIVED. GIVEN WITH THE SEED: THE CARDS: each row of YtpmgmepanbdfpaaDoorRows.lean that lists a variable, with what it lists TIED to the program's text (the seventh form; the later family's looks); each row that meets fmt, with fmt's text TOLD by the authors' own Lean function (tested against real Go, not proved from fmt's source: count such statements apart). THE CARD IS WHAT COUNTS. Prove the row's statement (the work); the ties are given (YtpmgmepanbdfpaaDoorTie.lean); close each card by the builder's one call (the guide's Derived/Test/ToyasCard.lean, 'card_holds'). Laid BY PROGRAM, IN A SANDBOX (cutbox-door.mjs). By AI agents, Wed Nov 11 2026. No macro, syntax, notation, axiom, sorry.
-/
import Derived.Test.YtpmgmepanbdfpaaDoorRows
import GoSem.ClaimSeven
namespace Go.Proofs.YtpmgmepanbdfpaaDoor
namespace Rows

/-- THE TIED CARD OF 'spillwaylaw4.PatternTells'. -/
def patternTellsCard : Claim7 := { stood := { row := patternTellsRow, standIns := [], harness := (true, "8f0b65d1c2c151409c6e6b5886394d0c448de9f4b1b04dffad5958d15c2ae34d"), looks := false }, kinds := [], alts := [], laidByText := true, laidKinds := [.data, .pinned], laidTests := true, laidLooks := .later }
def PatternTellsCardSaid : Prop := Claim7.holds Tryd.pinned (.plain (OpenSpec.ofChange patternTellsSpec)) patternTellsCard

/-- THE TIED CARD OF 'spillwaylaw4.PatternPlain'. -/
def patternPlainCard : Claim7 := { stood := { row := patternPlainRow, standIns := [], harness := (true, "8f0b65d1c2c151409c6e6b5886394d0c448de9f4b1b04dffad5958d15c2ae34d"), looks := false }, kinds := [], alts := [], laidByText := true, laidKinds := [.data, .pinned], laidTests := true, laidLooks := .later }
def PatternPlainCardSaid : Prop := Claim7.holds Tryd.pinned (.plain (OpenSpec.ofChange patternPlainSpec)) patternPlainCard

/-- THE TIED CARD OF 'spillwaylaw4.PatternParts'. -/
def patternPartsCard : Claim7 := { stood := { row := patternPartsRow, standIns := [], harness := (true, "8f0b65d1c2c151409c6e6b5886394d0c448de9f4b1b04dffad5958d15c2ae34d"), looks := false }, kinds := [], alts := [], laidByText := true, laidKinds := [.data, .pinned], laidTests := true, laidLooks := .later }
def PatternPartsCardSaid : Prop := Claim7.holds Tryd.pinned (.plain (OpenSpec.ofChange patternPartsSpec)) patternPartsCard

/-- THE TIED CARD OF 'spillwaylaw4.PatternAll'. -/
def patternAllCard : Claim7 := { stood := { row := patternAllRow, standIns := [], harness := (true, "8f0b65d1c2c151409c6e6b5886394d0c448de9f4b1b04dffad5958d15c2ae34d"), looks := false }, kinds := [], alts := [], laidByText := true, laidKinds := [.data, .pinned], laidTests := true, laidLooks := .later }
def PatternAllCardSaid : Prop := Claim7.holds Tryd.pinned (.plain (OpenSpec.ofChange patternAllSpec)) patternAllCard

/-- THE TIED CARD OF 'spillwaylaw4.PatternStars'. -/
def patternStarsCard : Claim7 := { stood := { row := patternStarsRow, standIns := [], harness := (true, "8f0b65d1c2c151409c6e6b5886394d0c448de9f4b1b04dffad5958d15c2ae34d"), looks := false }, kinds := [], alts := [], laidByText := true, laidKinds := [.data, .pinned], laidTests := true, laidLooks := .later }
def PatternStarsCardSaid : Prop := Claim7.holds Tryd.pinned (.plain (OpenSpec.ofChange patternStarsSpec)) patternStarsCard

/-- THE SECOND FORM's CARD OF 'spillwaylaw4.PatternTells'. -/
def patternTellsUptoCard : Claim7 := { stood := { row := patternTellsUptoRow, standIns := [], harness := (true, "8f0b65d1c2c151409c6e6b5886394d0c448de9f4b1b04dffad5958d15c2ae34d"), looks := false }, kinds := [], alts := [], laidByText := true, laidKinds := [.data, .pinned], laidTests := true, laidLooks := .later }
def PatternTellsUptoCardSaid : Prop := Claim7.holds Tryd.pinned (.plain (OpenSpec.upto patternTellsSpec)) patternTellsUptoCard

/-- THE SECOND FORM's CARD OF 'spillwaylaw4.PatternPlain'. -/
def patternPlainUptoCard : Claim7 := { stood := { row := patternPlainUptoRow, standIns := [], harness := (true, "8f0b65d1c2c151409c6e6b5886394d0c448de9f4b1b04dffad5958d15c2ae34d"), looks := false }, kinds := [], alts := [], laidByText := true, laidKinds := [.data, .pinned], laidTests := true, laidLooks := .later }
def PatternPlainUptoCardSaid : Prop := Claim7.holds Tryd.pinned (.plain (OpenSpec.upto patternPlainSpec)) patternPlainUptoCard

/-- THE SECOND FORM's CARD OF 'spillwaylaw4.PatternParts'. -/
def patternPartsUptoCard : Claim7 := { stood := { row := patternPartsUptoRow, standIns := [], harness := (true, "8f0b65d1c2c151409c6e6b5886394d0c448de9f4b1b04dffad5958d15c2ae34d"), looks := false }, kinds := [], alts := [], laidByText := true, laidKinds := [.data, .pinned], laidTests := true, laidLooks := .later }
def PatternPartsUptoCardSaid : Prop := Claim7.holds Tryd.pinned (.plain (OpenSpec.upto patternPartsSpec)) patternPartsUptoCard

/-- THE SECOND FORM's CARD OF 'spillwaylaw4.PatternAll'. -/
def patternAllUptoCard : Claim7 := { stood := { row := patternAllUptoRow, standIns := [], harness := (true, "8f0b65d1c2c151409c6e6b5886394d0c448de9f4b1b04dffad5958d15c2ae34d"), looks := false }, kinds := [], alts := [], laidByText := true, laidKinds := [.data, .pinned], laidTests := true, laidLooks := .later }
def PatternAllUptoCardSaid : Prop := Claim7.holds Tryd.pinned (.plain (OpenSpec.upto patternAllSpec)) patternAllUptoCard

/-- THE SECOND FORM's CARD OF 'spillwaylaw4.PatternStars'. -/
def patternStarsUptoCard : Claim7 := { stood := { row := patternStarsUptoRow, standIns := [], harness := (true, "8f0b65d1c2c151409c6e6b5886394d0c448de9f4b1b04dffad5958d15c2ae34d"), looks := false }, kinds := [], alts := [], laidByText := true, laidKinds := [.data, .pinned], laidTests := true, laidLooks := .later }
def PatternStarsUptoCardSaid : Prop := Claim7.holds Tryd.pinned (.plain (OpenSpec.upto patternStarsSpec)) patternStarsUptoCard
end Rows
end Go.Proofs.YtpmgmepanbdfpaaDoor
