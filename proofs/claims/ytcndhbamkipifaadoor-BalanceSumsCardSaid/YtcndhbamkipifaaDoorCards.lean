/-
  DERIVED. GIVEN WITH THE SEED: THE CARDS: each row of YtcndhbamkipifaaDoorRows.lean that lists a variable, with what it lists TIED to the program's text (the seventh form; the later family's looks); each row that meets fmt, with fmt's text TOLD by the authors' own Lean function (tested against real Go, not proved from fmt's source: count such statements apart). THE CARD IS WHAT COUNTS. Prove the row's statement (the work); the ties are given (YtcndhbamkipifaaDoorTie.lean); close each card by the builder's one call (the guide's Derived/Test/ToyasCard.lean, 'card_holds'). Laid BY PROGRAM, IN A SANDBOX (cutbox-door.mjs). By AI agents, Wed Nov 11 2026. No macro, syntax, notation, axiom, sorry.
-/
import Derived.Test.YtcndhbamkipifaaDoorRows
import GoSem.ClaimSeven
namespace Go.Proofs.YtcndhbamkipifaaDoor
namespace Rows

/-- THE TIED CARD OF 'manifoldlaw53.BalanceSums'. -/
def balanceSumsCard : Claim7 := { stood := { row := balanceSumsRow, standIns := [], harness := (true, "cf9548f6b48137c708a7eefb9d81c19c4e44bd89fdd4494678b4e7221acb4708"), looks := false }, kinds := [], alts := [], laidByText := true, laidKinds := [.data, .data, .data], laidTests := true, laidLooks := .later }
def BalanceSumsCardSaid : Prop := Claim7.holds Tryd.pinned (.plain (OpenSpec.ofChange balanceSumsSpec)) balanceSumsCard

/-- THE TIED CARD OF 'manifoldlaw53.BalanceShares'. -/
def balanceSharesCard : Claim7 := { stood := { row := balanceSharesRow, standIns := [], harness := (true, "cf9548f6b48137c708a7eefb9d81c19c4e44bd89fdd4494678b4e7221acb4708"), looks := false }, kinds := [], alts := [], laidByText := true, laidKinds := [.data, .data, .data], laidTests := true, laidLooks := .later }
def BalanceSharesCardSaid : Prop := Claim7.holds Tryd.pinned (.plain (OpenSpec.ofChange balanceSharesSpec)) balanceSharesCard

/-- THE TIED CARD OF 'manifoldlaw53.BalanceChecks'. -/
def balanceChecksCard : Claim7 := { stood := { row := balanceChecksRow, standIns := [], harness := (true, "cf9548f6b48137c708a7eefb9d81c19c4e44bd89fdd4494678b4e7221acb4708"), looks := false }, kinds := [], alts := [], laidByText := true, laidKinds := [.data, .data, .data], laidTests := true, laidLooks := .later }
def BalanceChecksCardSaid : Prop := Claim7.holds Tryd.pinned (.plain (OpenSpec.ofChange balanceChecksSpec)) balanceChecksCard

/-- THE SECOND FORM's CARD OF 'manifoldlaw53.BalanceSums'. -/
def balanceSumsUptoCard : Claim7 := { stood := { row := balanceSumsUptoRow, standIns := [], harness := (true, "cf9548f6b48137c708a7eefb9d81c19c4e44bd89fdd4494678b4e7221acb4708"), looks := false }, kinds := [], alts := [], laidByText := true, laidKinds := [.data, .data, .data], laidTests := true, laidLooks := .later }
def BalanceSumsUptoCardSaid : Prop := Claim7.holds Tryd.pinned (.plain (OpenSpec.upto balanceSumsSpec)) balanceSumsUptoCard

/-- THE SECOND FORM's CARD OF 'manifoldlaw53.BalanceShares'. -/
def balanceSharesUptoCard : Claim7 := { stood := { row := balanceSharesUptoRow, standIns := [], harness := (true, "cf9548f6b48137c708a7eefb9d81c19c4e44bd89fdd4494678b4e7221acb4708"), looks := false }, kinds := [], alts := [], laidByText := true, laidKinds := [.data, .data, .data], laidTests := true, laidLooks := .later }
def BalanceSharesUptoCardSaid : Prop := Claim7.holds Tryd.pinned (.plain (OpenSpec.upto balanceSharesSpec)) balanceSharesUptoCard

/-- THE SECOND FORM's CARD OF 'manifoldlaw53.BalanceChecks'. -/
def balanceChecksUptoCard : Claim7 := { stood := { row := balanceChecksUptoRow, standIns := [], harness := (true, "cf9548f6b48137c708a7eefb9d81c19c4e44bd89fdd4494678b4e7221acb4708"), looks := false }, kinds := [], alts := [], laidByText := true, laidKinds := [.data, .data, .data], laidTests := true, laidLooks := .later }
def BalanceChecksUptoCardSaid : Prop := Claim7.holds Tryd.pinned (.plain (OpenSpec.upto balanceChecksSpec)) balanceChecksUptoCard
end Rows
end Go.Proofs.YtcndhbamkipifaaDoor
