/-
  DERIVED. GIVEN WITH THE SEED: THE CARDS: each row of YthoooflagabpoaaDoorRows.lean that lists a variable, with what it lists TIED to the program's text (the seventh form; the later family's looks); each row that meets fmt, with fmt's text TOLD by the authors' own Lean function (tested against real Go, not proved from fmt's source: count such statements apart). THE CARD IS WHAT COUNTS. Prove the row's statement (the work); the ties are given (YthoooflagabpoaaDoorTie.lean); close each card by the builder's one call (the guide's Derived/Test/ToyasCard.lean, 'card_holds'). Laid BY PROGRAM, IN A SANDBOX (cutbox-door.mjs). By AI agents, Wed Nov 11 2026. No macro, syntax, notation, axiom, sorry.
-/
import Derived.Test.YthoooflagabpoaaDoorRows
import GoSem.ClaimSeven
namespace Go.Proofs.YthoooflagabpoaaDoor
namespace Rows

/-- THE TIED CARD OF 'passkeylaw30.AccountNames'. -/
def accountNamesCard : Claim7 := { stood := { row := accountNamesRow, standIns := [], harness := (true, "2fd9bccd8cd4b0c5eb898e507afdcc0a1e7841cb3cd5533e64b31ed9484fd17c"), looks := false }, kinds := [], alts := [], laidByText := true, laidKinds := [.data, .data, .data], laidTests := true, laidLooks := .later }
def AccountNamesCardSaid : Prop := Claim7.holds Tryd.pinned (.plain (OpenSpec.ofChange accountNamesSpec)) accountNamesCard

/-- THE SECOND FORM's CARD OF 'passkeylaw30.AccountNames'. -/
def accountNamesUptoCard : Claim7 := { stood := { row := accountNamesUptoRow, standIns := [], harness := (true, "2fd9bccd8cd4b0c5eb898e507afdcc0a1e7841cb3cd5533e64b31ed9484fd17c"), looks := false }, kinds := [], alts := [], laidByText := true, laidKinds := [.data, .data, .data], laidTests := true, laidLooks := .later }
def AccountNamesUptoCardSaid : Prop := Claim7.holds Tryd.pinned (.plain (OpenSpec.upto accountNamesSpec)) accountNamesUptoCard
end Rows
end Go.Proofs.YthoooflagabpoaaDoor
