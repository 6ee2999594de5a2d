/-
  DERIVED. GIVEN WITH THE SEED: THE CARDS: each row of YtadmmmehphhecaaGreatDoorRows.lean that lists a variable, with what it lists TIED to the program's text (the seventh form; the later family's looks); each row that meets fmt, with fmt's text TOLD by the authors' own Lean function (tested against real Go, not proved from fmt's source: count such statements apart). THE CARD IS WHAT COUNTS. Prove the row's statement (the work); the ties are given (YtadmmmehphhecaaGreatDoorTie.lean); close each card by the builder's one call (the guide's Derived/Test/ToyasCard.lean, 'card_holds'). Laid BY PROGRAM, IN A SANDBOX (cutbox-door.mjs). By AI agents, Wed Nov 11 2026. No macro, syntax, notation, axiom, sorry.
-/
import Derived.Test.YtadmmmehphhecaaGreatDoorRows
import GoSem.ClaimSeven
namespace Go.Proofs.YtadmmmehphhecaaGreatDoor
namespace Rows

/-- THE TIED CARD OF 'whelklaw03.SumsNumbers'. -/
def sumsNumbersCard : Claim7 := { stood := { row := sumsNumbersRow, standIns := [], harness := (true, "de5f2bf01d17494fe65ff79c84d6f18fc2d0b3268bda0c5ff877aa72a5516be8"), looks := true }, kinds := [], alts := [], laidByText := true, laidKinds := [.data, .data, .data, .data, .sentinel, .sentinel, .pinned], laidTests := true, laidLooks := .later }
def SumsNumbersCardSaid : Prop := Claim7.holds Tryz.pinned (.plain (OpenSpec.ofChange sumsNumbersSpec)) sumsNumbersCard

/-- THE TIED CARD OF 'whelklaw03.SumsShows'. -/
def sumsShowsCard : Claim7 := { stood := { row := sumsShowsRow, standIns := [], harness := (true, "de5f2bf01d17494fe65ff79c84d6f18fc2d0b3268bda0c5ff877aa72a5516be8"), looks := true }, kinds := [], alts := [], laidByText := true, laidKinds := [.data, .data, .data, .data, .sentinel, .sentinel, .pinned], laidTests := true, laidLooks := .later }
def SumsShowsCardSaid : Prop := Claim7.holds Tryz.pinned (.plain (OpenSpec.ofChange sumsShowsSpec)) sumsShowsCard

/-- THE TIED CARD OF 'whelklaw03.SumsValues'. -/
def sumsValuesCard : Claim7 := { stood := { row := sumsValuesRow, standIns := [], harness := (true, "de5f2bf01d17494fe65ff79c84d6f18fc2d0b3268bda0c5ff877aa72a5516be8"), looks := true }, kinds := [], alts := [], laidByText := true, laidKinds := [.data, .data, .data, .data, .sentinel, .sentinel, .pinned], laidTests := true, laidLooks := .later }
def SumsValuesCardSaid : Prop := Claim7.holds Tryz.pinned (.plain (OpenSpec.ofChange sumsValuesSpec)) sumsValuesCard

/-- THE SECOND FORM's CARD OF 'whelklaw03.SumsNumbers'. -/
def sumsNumbersUptoCard : Claim7 := { stood := { row := sumsNumbersUptoRow, standIns := [], harness := (true, "de5f2bf01d17494fe65ff79c84d6f18fc2d0b3268bda0c5ff877aa72a5516be8"), looks := true }, kinds := [], alts := [], laidByText := true, laidKinds := [.data, .data, .data, .data, .sentinel, .sentinel, .pinned], laidTests := true, laidLooks := .later }
def SumsNumbersUptoCardSaid : Prop := Claim7.holds Tryz.pinned (.plain (OpenSpec.upto sumsNumbersSpec)) sumsNumbersUptoCard

/-- THE SECOND FORM's CARD OF 'whelklaw03.SumsShows'. -/
def sumsShowsUptoCard : Claim7 := { stood := { row := sumsShowsUptoRow, standIns := [], harness := (true, "de5f2bf01d17494fe65ff79c84d6f18fc2d0b3268bda0c5ff877aa72a5516be8"), looks := true }, kinds := [], alts := [], laidByText := true, laidKinds := [.data, .data, .data, .data, .sentinel, .sentinel, .pinned], laidTests := true, laidLooks := .later }
def SumsShowsUptoCardSaid : Prop := Claim7.holds Tryz.pinned (.plain (OpenSpec.upto sumsShowsSpec)) sumsShowsUptoCard

/-- THE SECOND FORM's CARD OF 'whelklaw03.SumsValues'. -/
def sumsValuesUptoCard : Claim7 := { stood := { row := sumsValuesUptoRow, standIns := [], harness := (true, "de5f2bf01d17494fe65ff79c84d6f18fc2d0b3268bda0c5ff877aa72a5516be8"), looks := true }, kinds := [], alts := [], laidByText := true, laidKinds := [.data, .data, .data, .data, .sentinel, .sentinel, .pinned], laidTests := true, laidLooks := .later }
def SumsValuesUptoCardSaid : Prop := Claim7.holds Tryz.pinned (.plain (OpenSpec.upto sumsValuesSpec)) sumsValuesUptoCard
end Rows
end Go.Proofs.YtadmmmehphhecaaGreatDoor
