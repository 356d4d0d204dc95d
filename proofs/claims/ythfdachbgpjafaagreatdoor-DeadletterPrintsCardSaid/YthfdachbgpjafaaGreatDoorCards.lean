/-
  DERIVED. GIVEN WITH THE SEED: THE CARDS: each row of YthfdachbgpjafaaGreatDoorRows.lean that lists a variable, with what it lists TIED to the program's text (the seventh form; the later family's looks); each row that meets fmt, with fmt's text TOLD by the authors' own Lean function (tested against real Go, not proved from fmt's source: count such statements apart). THE CARD IS WHAT COUNTS. Prove the row's statement (the work); the ties are given (YthfdachbgpjafaaGreatDoorTie.lean); close each card by the builder's one call (the guide's Derived/Test/ToyasCard.lean, 'card_holds'). Laid BY PROGRAM, IN A SANDBOX (cutbox-door.mjs). By AI agents, Wed Nov 11 2026. No macro, syntax, notation, axiom, sorry.
-/
import Derived.Test.YthfdachbgpjafaaGreatDoorRows
import GoSem.ClaimSeven
namespace Go.Proofs.YthfdachbgpjafaaGreatDoor
namespace Rows

/-- THE TIED CARD OF 'manifoldlaw55.DeadletterChecks'. -/
def deadletterChecksCard : Claim7 := { stood := { row := deadletterChecksRow, standIns := [], harness := (true, "fa35a57d87a42f7a93b9e7700521ed7d2e42410bd08e0cbfb6a93d41545acef1"), looks := true }, kinds := [], alts := [], laidByText := true, laidKinds := [.data, .data, .data, .data, .sentinel, .sentinel, .widerDeep, .pinned], laidTests := true, laidLooks := .later }
def DeadletterChecksCardSaid : Prop := Claim7.holds Tryz.pinned (.plain (OpenSpec.ofChange deadletterChecksSpec)) deadletterChecksCard

/-- THE TIED CARD OF 'manifoldlaw55.DeadletterMatches'. -/
def deadletterMatchesCard : Claim7 := { stood := { row := deadletterMatchesRow, standIns := [], harness := (true, "fa35a57d87a42f7a93b9e7700521ed7d2e42410bd08e0cbfb6a93d41545acef1"), looks := true }, kinds := [], alts := [], laidByText := true, laidKinds := [.data, .data, .data, .data, .sentinel, .sentinel, .widerDeep, .pinned], laidTests := true, laidLooks := .later }
def DeadletterMatchesCardSaid : Prop := Claim7.holds Tryz.pinned (.plain (OpenSpec.ofChange deadletterMatchesSpec)) deadletterMatchesCard

/-- THE TIED CARD OF 'manifoldlaw55.DeadletterGroups'. -/
def deadletterGroupsCard : Claim7 := { stood := { row := deadletterGroupsRow, standIns := [], harness := (true, "fa35a57d87a42f7a93b9e7700521ed7d2e42410bd08e0cbfb6a93d41545acef1"), looks := true }, kinds := [], alts := [], laidByText := true, laidKinds := [.data, .data, .data, .data, .sentinel, .sentinel, .widerDeep, .pinned], laidTests := true, laidLooks := .later }
def DeadletterGroupsCardSaid : Prop := Claim7.holds Tryz.pinned (.plain (OpenSpec.ofChange deadletterGroupsSpec)) deadletterGroupsCard

/-- THE TIED CARD OF 'manifoldlaw55.DeadletterSelects'. -/
def deadletterSelectsCard : Claim7 := { stood := { row := deadletterSelectsRow, standIns := [], harness := (true, "fa35a57d87a42f7a93b9e7700521ed7d2e42410bd08e0cbfb6a93d41545acef1"), looks := true }, kinds := [], alts := [], laidByText := true, laidKinds := [.data, .data, .data, .data, .sentinel, .sentinel, .widerDeep, .pinned], laidTests := true, laidLooks := .later }
def DeadletterSelectsCardSaid : Prop := Claim7.holds Tryz.pinned (.plain (OpenSpec.ofChange deadletterSelectsSpec)) deadletterSelectsCard

/-- THE TIED CARD OF 'manifoldlaw55.DeadletterPrints'. -/
def deadletterPrintsCard : Claim7 := { stood := { row := deadletterPrintsRow, standIns := [], harness := (true, "fa35a57d87a42f7a93b9e7700521ed7d2e42410bd08e0cbfb6a93d41545acef1"), looks := true }, kinds := [], alts := [], laidByText := true, laidKinds := [.data, .data, .data, .data, .sentinel, .sentinel, .widerDeep, .pinned], laidTests := true, laidLooks := .later }
def DeadletterPrintsCardSaid : Prop := Claim7.holds Tryz.pinned (.plain (OpenSpec.ofChange deadletterPrintsSpec)) deadletterPrintsCard

/-- THE SECOND FORM's CARD OF 'manifoldlaw55.DeadletterChecks'. -/
def deadletterChecksUptoCard : Claim7 := { stood := { row := deadletterChecksUptoRow, standIns := [], harness := (true, "fa35a57d87a42f7a93b9e7700521ed7d2e42410bd08e0cbfb6a93d41545acef1"), looks := true }, kinds := [], alts := [], laidByText := true, laidKinds := [.data, .data, .data, .data, .sentinel, .sentinel, .widerDeep, .pinned], laidTests := true, laidLooks := .later }
def DeadletterChecksUptoCardSaid : Prop := Claim7.holds Tryz.pinned (.plain (OpenSpec.upto deadletterChecksSpec)) deadletterChecksUptoCard

/-- THE SECOND FORM's CARD OF 'manifoldlaw55.DeadletterMatches'. -/
def deadletterMatchesUptoCard : Claim7 := { stood := { row := deadletterMatchesUptoRow, standIns := [], harness := (true, "fa35a57d87a42f7a93b9e7700521ed7d2e42410bd08e0cbfb6a93d41545acef1"), looks := true }, kinds := [], alts := [], laidByText := true, laidKinds := [.data, .data, .data, .data, .sentinel, .sentinel, .widerDeep, .pinned], laidTests := true, laidLooks := .later }
def DeadletterMatchesUptoCardSaid : Prop := Claim7.holds Tryz.pinned (.plain (OpenSpec.upto deadletterMatchesSpec)) deadletterMatchesUptoCard

/-- THE SECOND FORM's CARD OF 'manifoldlaw55.DeadletterGroups'. -/
def deadletterGroupsUptoCard : Claim7 := { stood := { row := deadletterGroupsUptoRow, standIns := [], harness := (true, "fa35a57d87a42f7a93b9e7700521ed7d2e42410bd08e0cbfb6a93d41545acef1"), looks := true }, kinds := [], alts := [], laidByText := true, laidKinds := [.data, .data, .data, .data, .sentinel, .sentinel, .widerDeep, .pinned], laidTests := true, laidLooks := .later }
def DeadletterGroupsUptoCardSaid : Prop := Claim7.holds Tryz.pinned (.plain (OpenSpec.upto deadletterGroupsSpec)) deadletterGroupsUptoCard

/-- THE SECOND FORM's CARD OF 'manifoldlaw55.DeadletterSelects'. -/
def deadletterSelectsUptoCard : Claim7 := { stood := { row := deadletterSelectsUptoRow, standIns := [], harness := (true, "fa35a57d87a42f7a93b9e7700521ed7d2e42410bd08e0cbfb6a93d41545acef1"), looks := true }, kinds := [], alts := [], laidByText := true, laidKinds := [.data, .data, .data, .data, .sentinel, .sentinel, .widerDeep, .pinned], laidTests := true, laidLooks := .later }
def DeadletterSelectsUptoCardSaid : Prop := Claim7.holds Tryz.pinned (.plain (OpenSpec.upto deadletterSelectsSpec)) deadletterSelectsUptoCard

/-- THE SECOND FORM's CARD OF 'manifoldlaw55.DeadletterPrints'. -/
def deadletterPrintsUptoCard : Claim7 := { stood := { row := deadletterPrintsUptoRow, standIns := [], harness := (true, "fa35a57d87a42f7a93b9e7700521ed7d2e42410bd08e0cbfb6a93d41545acef1"), looks := true }, kinds := [], alts := [], laidByText := true, laidKinds := [.data, .data, .data, .data, .sentinel, .sentinel, .widerDeep, .pinned], laidTests := true, laidLooks := .later }
def DeadletterPrintsUptoCardSaid : Prop := Claim7.holds Tryz.pinned (.plain (OpenSpec.upto deadletterPrintsSpec)) deadletterPrintsUptoCard
end Rows
end Go.Proofs.YthfdachbgpjafaaGreatDoor
