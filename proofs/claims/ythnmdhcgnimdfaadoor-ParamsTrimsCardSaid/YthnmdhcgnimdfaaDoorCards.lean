/-
  DERIVED. GIVEN WITH THE SEED: THE CARDS: each row of YthnmdhcgnimdfaaDoorRows.lean that lists a variable, with what it lists TIED to the program's text (the seventh form; the later family's looks); each row that meets fmt, with fmt's text TOLD by the authors' own Lean function (tested against real Go, not proved from fmt's source: count such statements apart). THE CARD IS WHAT COUNTS. Prove the row's statement (the work); the ties are given (YthnmdhcgnimdfaaDoorTie.lean); close each card by the builder's one call (the guide's Derived/Test/ToyasCard.lean, 'card_holds'). Laid BY PROGRAM, IN A SANDBOX (cutbox-door.mjs). By AI agents, Wed Nov 11 2026. No macro, syntax, notation, axiom, sorry.
-/
import Derived.Test.YthnmdhcgnimdfaaDoorRows
import GoSem.ClaimSeven
namespace Go.Proofs.YthnmdhcgnimdfaaDoor
namespace Rows

/-- THE TIED CARD OF 'whelklaw15.ParamsTrims'. -/
def paramsTrimsCard : Claim7 := { stood := { row := paramsTrimsRow, standIns := [], harness := (true, "3f97022c6aac6dbdda27b75f925b6ad5a222c20d61fa87559dde6114d5fb92d6"), looks := true }, kinds := [], alts := [], laidByText := true, laidKinds := [.data, .data, .data, .data, .sentinel, .sentinel, .pinned], laidTests := true, laidLooks := .later }
def ParamsTrimsCardSaid : Prop := Claim7.holds Tryd.pinned (.plain (OpenSpec.ofChange paramsTrimsSpec)) paramsTrimsCard

/-- THE TIED CARD OF 'whelklaw15.ParamsLeaves'. -/
def paramsLeavesCard : Claim7 := { stood := { row := paramsLeavesRow, standIns := [], harness := (true, "3f97022c6aac6dbdda27b75f925b6ad5a222c20d61fa87559dde6114d5fb92d6"), looks := true }, kinds := [], alts := [], laidByText := true, laidKinds := [.data, .data, .data, .data, .sentinel, .sentinel, .pinned], laidTests := true, laidLooks := .later }
def ParamsLeavesCardSaid : Prop := Claim7.holds Tryd.pinned (.plain (OpenSpec.ofChange paramsLeavesSpec)) paramsLeavesCard

/-- THE TIED CARD OF 'whelklaw15.ParamsArgs'. -/
def paramsArgsCard : Claim7 := { stood := { row := paramsArgsRow, standIns := [], harness := (true, "3f97022c6aac6dbdda27b75f925b6ad5a222c20d61fa87559dde6114d5fb92d6"), looks := true }, kinds := [], alts := [], laidByText := true, laidKinds := [.data, .data, .data, .data, .sentinel, .sentinel, .pinned], laidTests := true, laidLooks := .later }
def ParamsArgsCardSaid : Prop := Claim7.holds Tryd.pinned (.plain (OpenSpec.ofChange paramsArgsSpec)) paramsArgsCard

/-- THE TIED CARD OF 'whelklaw15.ParamsParts'. -/
def paramsPartsCard : Claim7 := { stood := { row := paramsPartsRow, standIns := [], harness := (true, "3f97022c6aac6dbdda27b75f925b6ad5a222c20d61fa87559dde6114d5fb92d6"), looks := true }, kinds := [], alts := [], laidByText := true, laidKinds := [.data, .data, .data, .data, .sentinel, .sentinel, .pinned], laidTests := true, laidLooks := .later }
def ParamsPartsCardSaid : Prop := Claim7.holds Tryd.pinned (.plain (OpenSpec.ofChange paramsPartsSpec)) paramsPartsCard

/-- THE SECOND FORM's CARD OF 'whelklaw15.ParamsTrims'. -/
def paramsTrimsUptoCard : Claim7 := { stood := { row := paramsTrimsUptoRow, standIns := [], harness := (true, "3f97022c6aac6dbdda27b75f925b6ad5a222c20d61fa87559dde6114d5fb92d6"), looks := true }, kinds := [], alts := [], laidByText := true, laidKinds := [.data, .data, .data, .data, .sentinel, .sentinel, .pinned], laidTests := true, laidLooks := .later }
def ParamsTrimsUptoCardSaid : Prop := Claim7.holds Tryd.pinned (.plain (OpenSpec.upto paramsTrimsSpec)) paramsTrimsUptoCard

/-- THE SECOND FORM's CARD OF 'whelklaw15.ParamsLeaves'. -/
def paramsLeavesUptoCard : Claim7 := { stood := { row := paramsLeavesUptoRow, standIns := [], harness := (true, "3f97022c6aac6dbdda27b75f925b6ad5a222c20d61fa87559dde6114d5fb92d6"), looks := true }, kinds := [], alts := [], laidByText := true, laidKinds := [.data, .data, .data, .data, .sentinel, .sentinel, .pinned], laidTests := true, laidLooks := .later }
def ParamsLeavesUptoCardSaid : Prop := Claim7.holds Tryd.pinned (.plain (OpenSpec.upto paramsLeavesSpec)) paramsLeavesUptoCard

/-- THE SECOND FORM's CARD OF 'whelklaw15.ParamsArgs'. -/
def paramsArgsUptoCard : Claim7 := { stood := { row := paramsArgsUptoRow, standIns := [], harness := (true, "3f97022c6aac6dbdda27b75f925b6ad5a222c20d61fa87559dde6114d5fb92d6"), looks := true }, kinds := [], alts := [], laidByText := true, laidKinds := [.data, .data, .data, .data, .sentinel, .sentinel, .pinned], laidTests := true, laidLooks := .later }
def ParamsArgsUptoCardSaid : Prop := Claim7.holds Tryd.pinned (.plain (OpenSpec.upto paramsArgsSpec)) paramsArgsUptoCard

/-- THE SECOND FORM's CARD OF 'whelklaw15.ParamsParts'. -/
def paramsPartsUptoCard : Claim7 := { stood := { row := paramsPartsUptoRow, standIns := [], harness := (true, "3f97022c6aac6dbdda27b75f925b6ad5a222c20d61fa87559dde6114d5fb92d6"), looks := true }, kinds := [], alts := [], laidByText := true, laidKinds := [.data, .data, .data, .data, .sentinel, .sentinel, .pinned], laidTests := true, laidLooks := .later }
def ParamsPartsUptoCardSaid : Prop := Claim7.holds Tryd.pinned (.plain (OpenSpec.upto paramsPartsSpec)) paramsPartsUptoCard
end Rows
end Go.Proofs.YthnmdhcgnimdfaaDoor
