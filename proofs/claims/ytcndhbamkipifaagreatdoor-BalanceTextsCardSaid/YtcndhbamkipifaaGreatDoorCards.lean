/-
  DERIVED. GIVEN WITH THE SEED: THE CARDS: each row of YtcndhbamkipifaaGreatDoorRows.lean that lists a variable, with what it lists TIED to the program's text (the seventh form; the later family's looks); each row that meets fmt, with fmt's text TOLD by the authors' own Lean function (tested against real Go, not proved from fmt's source: count such statements apart). THE CARD IS WHAT COUNTS. Prove the row's statement (the work); the ties are given (YtcndhbamkipifaaGreatDoorTie.lean); close each card by the builder's one call (the guide's Derived/Test/ToyasCard.lean, 'card_holds'). Laid BY PROGRAM, IN A SANDBOX (cutbox-door.mjs). By AI agents, Wed Nov 11 2026. No macro, syntax, notation, axiom, sorry.
-/
import Derived.Test.YtcndhbamkipifaaGreatDoorRows
import GoSem.ClaimSeven
namespace Go.Proofs.YtcndhbamkipifaaGreatDoor
namespace Rows

/-- THE TIED CARD OF 'manifoldlaw53.BalanceTexts'. -/
def balanceTextsCard : Claim7 := { stood := { row := balanceTextsRow, standIns := [], harness := (true, "276b6802b7bfad1d93549e429dc4a1c61411a2b39cf6a63c679086be8c924300"), looks := true }, kinds := [], alts := [], laidByText := true, laidKinds := [.data, .data, .data, .data, .sentinel, .sentinel, .pinned], laidTests := true, laidLooks := .later }
def BalanceTextsCardSaid : Prop := Claim7.holds Tryz.pinned (.plain (OpenSpec.ofChange balanceTextsSpec)) balanceTextsCard

/-- THE TIED CARD OF 'manifoldlaw53.BalanceDecodes'. -/
def balanceDecodesCard : Claim7 := { stood := { row := balanceDecodesRow, standIns := [], harness := (true, "276b6802b7bfad1d93549e429dc4a1c61411a2b39cf6a63c679086be8c924300"), looks := true }, kinds := [], alts := [], laidByText := true, laidKinds := [.data, .data, .data, .data, .sentinel, .sentinel, .pinned], laidTests := true, laidLooks := .later }
def BalanceDecodesCardSaid : Prop := Claim7.holds Tryz.pinned (.plain (OpenSpec.ofChange balanceDecodesSpec)) balanceDecodesCard

/-- THE SECOND FORM's CARD OF 'manifoldlaw53.BalanceTexts'. -/
def balanceTextsUptoCard : Claim7 := { stood := { row := balanceTextsUptoRow, standIns := [], harness := (true, "276b6802b7bfad1d93549e429dc4a1c61411a2b39cf6a63c679086be8c924300"), looks := true }, kinds := [], alts := [], laidByText := true, laidKinds := [.data, .data, .data, .data, .sentinel, .sentinel, .pinned], laidTests := true, laidLooks := .later }
def BalanceTextsUptoCardSaid : Prop := Claim7.holds Tryz.pinned (.plain (OpenSpec.upto balanceTextsSpec)) balanceTextsUptoCard

/-- THE SECOND FORM's CARD OF 'manifoldlaw53.BalanceDecodes'. -/
def balanceDecodesUptoCard : Claim7 := { stood := { row := balanceDecodesUptoRow, standIns := [], harness := (true, "276b6802b7bfad1d93549e429dc4a1c61411a2b39cf6a63c679086be8c924300"), looks := true }, kinds := [], alts := [], laidByText := true, laidKinds := [.data, .data, .data, .data, .sentinel, .sentinel, .pinned], laidTests := true, laidLooks := .later }
def BalanceDecodesUptoCardSaid : Prop := Claim7.holds Tryz.pinned (.plain (OpenSpec.upto balanceDecodesSpec)) balanceDecodesUptoCard
end Rows
end Go.Proofs.YtcndhbamkipifaaGreatDoor
