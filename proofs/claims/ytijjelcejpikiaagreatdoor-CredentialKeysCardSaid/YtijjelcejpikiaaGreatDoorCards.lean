/-
  DERIVED. GIVEN WITH THE SEED: THE CARDS: each row of YtijjelcejpikiaaGreatDoorRows.lean that lists a variable, with what it lists TIED to the program's text (the seventh form; the later family's looks); each row that meets fmt, with fmt's text TOLD by the authors' own Lean function (tested against real Go, not proved from fmt's source: count such statements apart). THE CARD IS WHAT COUNTS. Prove the row's statement (the work); the ties are given (YtijjelcejpikiaaGreatDoorTie.lean); close each card by the builder's one call (the guide's Derived/Test/ToyasCard.lean, 'card_holds'). Laid BY PROGRAM, IN A SANDBOX (cutbox-door.mjs). By AI agents, Wed Nov 11 2026. No macro, syntax, notation, axiom, sorry.
-/
import Derived.Test.YtijjelcejpikiaaGreatDoorRows
import GoSem.ClaimSeven
namespace Go.Proofs.YtijjelcejpikiaaGreatDoor
namespace Rows

/-- THE TIED CARD OF 'passkeylaw15.CredentialValidates'. -/
def credentialValidatesCard : Claim7 := { stood := { row := credentialValidatesRow, standIns := [], harness := (true, "e4940e58b26e1568381fa16b7c1c78fb424aa7625545c7b829078d6f32c48e43"), looks := false }, kinds := [], alts := [], laidByText := true, laidKinds := [.data, .pinned], laidTests := true, laidLooks := .later }
def CredentialValidatesCardSaid : Prop := Claim7.holds Tryz.pinned (.plain (OpenSpec.ofChange credentialValidatesSpec)) credentialValidatesCard

/-- THE TIED CARD OF 'passkeylaw15.CredentialUnwraps'. -/
def credentialUnwrapsCard : Claim7 := { stood := { row := credentialUnwrapsRow, standIns := [], harness := (true, "e4940e58b26e1568381fa16b7c1c78fb424aa7625545c7b829078d6f32c48e43"), looks := false }, kinds := [], alts := [], laidByText := true, laidKinds := [.data, .pinned], laidTests := true, laidLooks := .later }
def CredentialUnwrapsCardSaid : Prop := Claim7.holds Tryz.pinned (.plain (OpenSpec.ofChange credentialUnwrapsSpec)) credentialUnwrapsCard

/-- THE TIED CARD OF 'passkeylaw15.CredentialBack'. -/
def credentialBackCard : Claim7 := { stood := { row := credentialBackRow, standIns := [], harness := (true, "e4940e58b26e1568381fa16b7c1c78fb424aa7625545c7b829078d6f32c48e43"), looks := false }, kinds := [], alts := [], laidByText := true, laidKinds := [.data, .pinned], laidTests := true, laidLooks := .later }
def CredentialBackCardSaid : Prop := Claim7.holds Tryz.pinned (.plain (OpenSpec.ofChange credentialBackSpec)) credentialBackCard

/-- THE TIED CARD OF 'passkeylaw15.CredentialIDs'. -/
def credentialIDsCard : Claim7 := { stood := { row := credentialIDsRow, standIns := [], harness := (true, "e4940e58b26e1568381fa16b7c1c78fb424aa7625545c7b829078d6f32c48e43"), looks := false }, kinds := [], alts := [], laidByText := true, laidKinds := [.data, .pinned], laidTests := true, laidLooks := .later }
def CredentialIDsCardSaid : Prop := Claim7.holds Tryz.pinned (.plain (OpenSpec.ofChange credentialIDsSpec)) credentialIDsCard

/-- THE TIED CARD OF 'passkeylaw15.CredentialDecodes'. -/
def credentialDecodesCard : Claim7 := { stood := { row := credentialDecodesRow, standIns := [], harness := (true, "e4940e58b26e1568381fa16b7c1c78fb424aa7625545c7b829078d6f32c48e43"), looks := false }, kinds := [], alts := [], laidByText := true, laidKinds := [.data, .pinned], laidTests := true, laidLooks := .later }
def CredentialDecodesCardSaid : Prop := Claim7.holds Tryz.pinned (.plain (OpenSpec.ofChange credentialDecodesSpec)) credentialDecodesCard

/-- THE TIED CARD OF 'passkeylaw15.CredentialGrants'. -/
def credentialGrantsCard : Claim7 := { stood := { row := credentialGrantsRow, standIns := [], harness := (true, "e4940e58b26e1568381fa16b7c1c78fb424aa7625545c7b829078d6f32c48e43"), looks := false }, kinds := [], alts := [], laidByText := true, laidKinds := [.data, .pinned], laidTests := true, laidLooks := .later }
def CredentialGrantsCardSaid : Prop := Claim7.holds Tryz.pinned (.plain (OpenSpec.ofChange credentialGrantsSpec)) credentialGrantsCard

/-- THE TIED CARD OF 'passkeylaw15.CredentialKeys'. -/
def credentialKeysCard : Claim7 := { stood := { row := credentialKeysRow, standIns := [], harness := (true, "e4940e58b26e1568381fa16b7c1c78fb424aa7625545c7b829078d6f32c48e43"), looks := false }, kinds := [], alts := [], laidByText := true, laidKinds := [.data, .pinned], laidTests := true, laidLooks := .later }
def CredentialKeysCardSaid : Prop := Claim7.holds Tryz.pinned (.plain (OpenSpec.ofChange credentialKeysSpec)) credentialKeysCard

/-- THE SECOND FORM's CARD OF 'passkeylaw15.CredentialValidates'. -/
def credentialValidatesUptoCard : Claim7 := { stood := { row := credentialValidatesUptoRow, standIns := [], harness := (true, "e4940e58b26e1568381fa16b7c1c78fb424aa7625545c7b829078d6f32c48e43"), looks := false }, kinds := [], alts := [], laidByText := true, laidKinds := [.data, .pinned], laidTests := true, laidLooks := .later }
def CredentialValidatesUptoCardSaid : Prop := Claim7.holds Tryz.pinned (.plain (OpenSpec.upto credentialValidatesSpec)) credentialValidatesUptoCard

/-- THE SECOND FORM's CARD OF 'passkeylaw15.CredentialUnwraps'. -/
def credentialUnwrapsUptoCard : Claim7 := { stood := { row := credentialUnwrapsUptoRow, standIns := [], harness := (true, "e4940e58b26e1568381fa16b7c1c78fb424aa7625545c7b829078d6f32c48e43"), looks := false }, kinds := [], alts := [], laidByText := true, laidKinds := [.data, .pinned], laidTests := true, laidLooks := .later }
def CredentialUnwrapsUptoCardSaid : Prop := Claim7.holds Tryz.pinned (.plain (OpenSpec.upto credentialUnwrapsSpec)) credentialUnwrapsUptoCard

/-- THE SECOND FORM's CARD OF 'passkeylaw15.CredentialBack'. -/
def credentialBackUptoCard : Claim7 := { stood := { row := credentialBackUptoRow, standIns := [], harness := (true, "e4940e58b26e1568381fa16b7c1c78fb424aa7625545c7b829078d6f32c48e43"), looks := false }, kinds := [], alts := [], laidByText := true, laidKinds := [.data, .pinned], laidTests := true, laidLooks := .later }
def CredentialBackUptoCardSaid : Prop := Claim7.holds Tryz.pinned (.plain (OpenSpec.upto credentialBackSpec)) credentialBackUptoCard

/-- THE SECOND FORM's CARD OF 'passkeylaw15.CredentialIDs'. -/
def credentialIDsUptoCard : Claim7 := { stood := { row := credentialIDsUptoRow, standIns := [], harness := (true, "e4940e58b26e1568381fa16b7c1c78fb424aa7625545c7b829078d6f32c48e43"), looks := false }, kinds := [], alts := [], laidByText := true, laidKinds := [.data, .pinned], laidTests := true, laidLooks := .later }
def CredentialIDsUptoCardSaid : Prop := Claim7.holds Tryz.pinned (.plain (OpenSpec.upto credentialIDsSpec)) credentialIDsUptoCard

/-- THE SECOND FORM's CARD OF 'passkeylaw15.CredentialDecodes'. -/
def credentialDecodesUptoCard : Claim7 := { stood := { row := credentialDecodesUptoRow, standIns := [], harness := (true, "e4940e58b26e1568381fa16b7c1c78fb424aa7625545c7b829078d6f32c48e43"), looks := false }, kinds := [], alts := [], laidByText := true, laidKinds := [.data, .pinned], laidTests := true, laidLooks := .later }
def CredentialDecodesUptoCardSaid : Prop := Claim7.holds Tryz.pinned (.plain (OpenSpec.upto credentialDecodesSpec)) credentialDecodesUptoCard

/-- THE SECOND FORM's CARD OF 'passkeylaw15.CredentialGrants'. -/
def credentialGrantsUptoCard : Claim7 := { stood := { row := credentialGrantsUptoRow, standIns := [], harness := (true, "e4940e58b26e1568381fa16b7c1c78fb424aa7625545c7b829078d6f32c48e43"), looks := false }, kinds := [], alts := [], laidByText := true, laidKinds := [.data, .pinned], laidTests := true, laidLooks := .later }
def CredentialGrantsUptoCardSaid : Prop := Claim7.holds Tryz.pinned (.plain (OpenSpec.upto credentialGrantsSpec)) credentialGrantsUptoCard

/-- THE SECOND FORM's CARD OF 'passkeylaw15.CredentialKeys'. -/
def credentialKeysUptoCard : Claim7 := { stood := { row := credentialKeysUptoRow, standIns := [], harness := (true, "e4940e58b26e1568381fa16b7c1c78fb424aa7625545c7b829078d6f32c48e43"), looks := false }, kinds := [], alts := [], laidByText := true, laidKinds := [.data, .pinned], laidTests := true, laidLooks := .later }
def CredentialKeysUptoCardSaid : Prop := Claim7.holds Tryz.pinned (.plain (OpenSpec.upto credentialKeysSpec)) credentialKeysUptoCard
end Rows
end Go.Proofs.YtijjelcejpikiaaGreatDoor
