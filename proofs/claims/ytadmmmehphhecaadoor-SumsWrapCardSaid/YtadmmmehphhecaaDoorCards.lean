/-
  DERIVED. GIVEN WITH THE SEED: THE CARDS: each row of YtadmmmehphhecaaDoorRows.lean that lists a variable, with what it lists TIED to the program's text (the seventh form; the later family's looks); each row that meets fmt, with fmt's text TOLD by the authors' own Lean function (tested against real Go, not proved from fmt's source: count such statements apart). THE CARD IS WHAT COUNTS. Prove the row's statement (the work); the ties are given (YtadmmmehphhecaaDoorTie.lean); close each card by the builder's one call (the guide's Derived/Test/ToyasCard.lean, 'card_holds'). Laid BY PROGRAM, IN A SANDBOX (cutbox-door.mjs). By AI agents, Wed Nov 11 2026. No macro, syntax, notation, axiom, sorry.
-/
import Derived.Test.YtadmmmehphhecaaDoorRows
import GoSem.ClaimSeven
namespace Go.Proofs.YtadmmmehphhecaaDoor
namespace Rows

/-- THE TIED CARD OF 'whelklaw03.SumsBack'. -/
def sumsBackCard : Claim7 := { stood := { row := sumsBackRow, standIns := [], harness := (true, "0e1d71b5e299a2ae67257aaddcab9737230a14ae8013f52c5c7a82fa69353a36"), looks := true }, kinds := [], alts := [], laidByText := true, laidKinds := [.data, .data, .data, .data, .sentinel, .sentinel, .pinned], laidTests := true, laidLooks := .later }
def SumsBackCardSaid : Prop := Claim7.holds Tryd.pinned (.plain (OpenSpec.ofChange sumsBackSpec)) sumsBackCard

/-- THE TIED CARD OF 'whelklaw03.SumsWrap'. -/
def sumsWrapCard : Claim7 := { stood := { row := sumsWrapRow, standIns := [], harness := (true, "0e1d71b5e299a2ae67257aaddcab9737230a14ae8013f52c5c7a82fa69353a36"), looks := true }, kinds := [], alts := [], laidByText := true, laidKinds := [.data, .data, .data, .data, .sentinel, .sentinel, .pinned], laidTests := true, laidLooks := .later }
def SumsWrapCardSaid : Prop := Claim7.holds Tryd.pinned (.plain (OpenSpec.ofChange sumsWrapSpec)) sumsWrapCard

/-- THE TIED CARD OF 'whelklaw03.SumsHalf'. -/
def sumsHalfCard : Claim7 := { stood := { row := sumsHalfRow, standIns := [], harness := (true, "0e1d71b5e299a2ae67257aaddcab9737230a14ae8013f52c5c7a82fa69353a36"), looks := true }, kinds := [], alts := [], laidByText := true, laidKinds := [.data, .data, .data, .data, .sentinel, .sentinel, .pinned], laidTests := true, laidLooks := .later }
def SumsHalfCardSaid : Prop := Claim7.holds Tryd.pinned (.plain (OpenSpec.ofChange sumsHalfSpec)) sumsHalfCard

/-- THE SECOND FORM's CARD OF 'whelklaw03.SumsBack'. -/
def sumsBackUptoCard : Claim7 := { stood := { row := sumsBackUptoRow, standIns := [], harness := (true, "0e1d71b5e299a2ae67257aaddcab9737230a14ae8013f52c5c7a82fa69353a36"), looks := true }, kinds := [], alts := [], laidByText := true, laidKinds := [.data, .data, .data, .data, .sentinel, .sentinel, .pinned], laidTests := true, laidLooks := .later }
def SumsBackUptoCardSaid : Prop := Claim7.holds Tryd.pinned (.plain (OpenSpec.upto sumsBackSpec)) sumsBackUptoCard

/-- THE SECOND FORM's CARD OF 'whelklaw03.SumsWrap'. -/
def sumsWrapUptoCard : Claim7 := { stood := { row := sumsWrapUptoRow, standIns := [], harness := (true, "0e1d71b5e299a2ae67257aaddcab9737230a14ae8013f52c5c7a82fa69353a36"), looks := true }, kinds := [], alts := [], laidByText := true, laidKinds := [.data, .data, .data, .data, .sentinel, .sentinel, .pinned], laidTests := true, laidLooks := .later }
def SumsWrapUptoCardSaid : Prop := Claim7.holds Tryd.pinned (.plain (OpenSpec.upto sumsWrapSpec)) sumsWrapUptoCard

/-- THE SECOND FORM's CARD OF 'whelklaw03.SumsHalf'. -/
def sumsHalfUptoCard : Claim7 := { stood := { row := sumsHalfUptoRow, standIns := [], harness := (true, "0e1d71b5e299a2ae67257aaddcab9737230a14ae8013f52c5c7a82fa69353a36"), looks := true }, kinds := [], alts := [], laidByText := true, laidKinds := [.data, .data, .data, .data, .sentinel, .sentinel, .pinned], laidTests := true, laidLooks := .later }
def SumsHalfUptoCardSaid : Prop := Claim7.holds Tryd.pinned (.plain (OpenSpec.upto sumsHalfSpec)) sumsHalfUptoCard
end Rows
end Go.Proofs.YtadmmmehphhecaaDoor
