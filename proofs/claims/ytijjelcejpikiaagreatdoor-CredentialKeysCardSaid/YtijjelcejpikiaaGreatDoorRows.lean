/-
  NARROWER THAN 'FOR EVERY INPUT', by the rows' own cells (each row's printed sentence says how): CredentialValidates: laid · CredentialUnwraps: laid · CredentialBack: laid · CredentialIDs: laid · CredentialDecodes: laid · CredentialGrants: laid · CredentialKeys: laid.
  DERIVED. THE GIVEN ROWS OF THIS SEAT. 7 by the template 'for every input the law returns true; each argument reads behind the call as it read before'; 0 by the template 'total and deterministic' (their statements: YtijjelcejpikiaaGreatDoorTotals.lean).
  GIVEN WITH THE SEED: the statements are not yours to turn. If you find one false, say at which input.
  Laid BY PROGRAM, IN A SANDBOX (cutbox-rows.mjs): the forced cells as the released guide's own fill.sh prints them over the translation 226b5cbad1834db5… (all of the seat's roots in one cut). By AI agents, Wed Nov 11 2026. No macro, syntax, notation, axiom, sorry.
-/
import Derived.Test.YtijjelcejpikiaaGreatDoorChecked
import GoSem.PinnedTables
import GoSem.Claim
import GoSem.ClaimJoined
import GoSem.ClaimMapViews
import Derived.JoinedTies
import Derived.KernelRfl
namespace Go.Proofs.YtijjelcejpikiaaGreatDoor
/- THE CELL 'sum', in the pinned program and in every row, IS THE sha256 OF THE DUMP (.gsa) THAT YtijjelcejpikiaaGreatDoorProg.lean LOADS. Nothing in Lean hashes anything: it is a label: what it is worth is what the hold of that sum in a sandbox is worth. -/
noncomputable def Tryz.pinned : Pinned := { name := "ytijjelcejpikiaagreatdoor", sum := "226b5cbad1834db5e5aa272553f72cee4367133a171cee7018feddf3ed900642", checked := Tryz.checked }
namespace Rows
def none {H : Type} : Left H := { results := [], args := [] }

/- WHAT THE LISTED PACKAGE-LEVEL VARIABLES READ AS WHEN THE CALL BEGINS. Each datum BY PROGRAM (the guide's laid-datum.mjs) off the statement by which the dump's own 'gosem.cut.vars' lays the variable. In a bare row this is a premise. The card (YtijjelcejpikiaaGreatDoorCards.lean) ties it to the program's text. -/
def laid_unicode_utf8_acceptRanges {H : Type} : DataW H := .agg [.agg [.lit (.int .u8 128), .lit (.int .u8 191)], .agg [.lit (.int .u8 160), .lit (.int .u8 191)], .agg [.lit (.int .u8 128), .lit (.int .u8 159)], .agg [.lit (.int .u8 144), .lit (.int .u8 191)], .agg [.lit (.int .u8 128), .lit (.int .u8 143)], .agg [.lit (.int .u8 0), .lit (.int .u8 0)], .agg [.lit (.int .u8 0), .lit (.int .u8 0)], .agg [.lit (.int .u8 0), .lit (.int .u8 0)], .agg [.lit (.int .u8 0), .lit (.int .u8 0)], .agg [.lit (.int .u8 0), .lit (.int .u8 0)], .agg [.lit (.int .u8 0), .lit (.int .u8 0)], .agg [.lit (.int .u8 0), .lit (.int .u8 0)], .agg [.lit (.int .u8 0), .lit (.int .u8 0)], .agg [.lit (.int .u8 0), .lit (.int .u8 0)], .agg [.lit (.int .u8 0), .lit (.int .u8 0)], .agg [.lit (.int .u8 0), .lit (.int .u8 0)]]
/-- One of Go's own tables, pinned by name: the form's constant. -/
def laid_unicode_utf8_first : DataW Unit := Go.Pinned.utf8First

/-- 'passkeylaw15.CredentialValidates': WHATEVER THE INPUT: true; the input reads as it did. -/
def credentialValidatesSpec : ChangeSpec := { name := "credentialValidates", fn := fun _ => fun
  | [d1, d2, d3] => { results := [.lit (.bool true)], args := [d1, d2, d3] }
  | _ => none }
def credentialValidatesRow : OpenClaim := { program := "ytijjelcejpikiaagreatdoor", sum := "226b5cbad1834db5e5aa272553f72cee4367133a171cee7018feddf3ed900642", func := "passkey/passkeylaw15.CredentialValidates", spec := "credentialValidates", inPlace := ["internal/reflectlite.ValueOf", "internal/reflectlite.Swapper", "(internal/reflectlite.Value).Len"], unfollowed := true, recurses := true, named := ["unicode/utf8.first", "unicode/utf8.acceptRanges"], apart := false, laid := [("unicode/utf8.acceptRanges", laid_unicode_utf8_acceptRanges), ("unicode/utf8.first", laid_unicode_utf8_first)] }
def CredentialValidatesSaid : Prop := credentialValidatesRow.holds Tryz.pinned (OpenSpec.ofChange credentialValidatesSpec)

/-- ITS FALSE NEIGHBOUR: 'it returns false'. Refute it at one input. -/
def credentialValidatesWrong : ChangeSpec := { name := "credentialValidates", fn := fun _ => fun
  | [d1, d2, d3] => { results := [.lit (.bool false)], args := [d1, d2, d3] }
  | _ => none }
def CredentialValidatesWrongFalsely : Prop := credentialValidatesRow.holds Tryz.pinned (OpenSpec.ofChange credentialValidatesWrong)

/-- 'passkeylaw15.CredentialUnwraps': WHATEVER THE INPUT: true; the input reads as it did. -/
def credentialUnwrapsSpec : ChangeSpec := { name := "credentialUnwraps", fn := fun _ => fun
  | [d1, d2, d3, d4, d5, d6, d7] => { results := [.lit (.bool true)], args := [d1, d2, d3, d4, d5, d6, d7] }
  | _ => none }
def credentialUnwrapsRow : OpenClaim := { program := "ytijjelcejpikiaagreatdoor", sum := "226b5cbad1834db5e5aa272553f72cee4367133a171cee7018feddf3ed900642", func := "passkey/passkeylaw15.CredentialUnwraps", spec := "credentialUnwraps", inPlace := ["internal/reflectlite.ValueOf", "internal/reflectlite.Swapper", "(internal/reflectlite.Value).Len"], unfollowed := true, recurses := true, named := ["unicode/utf8.first", "unicode/utf8.acceptRanges"], apart := false, laid := [("unicode/utf8.acceptRanges", laid_unicode_utf8_acceptRanges), ("unicode/utf8.first", laid_unicode_utf8_first)] }
def CredentialUnwrapsSaid : Prop := credentialUnwrapsRow.holds Tryz.pinned (OpenSpec.ofChange credentialUnwrapsSpec)

/-- ITS FALSE NEIGHBOUR: 'it returns false'. Refute it at one input. -/
def credentialUnwrapsWrong : ChangeSpec := { name := "credentialUnwraps", fn := fun _ => fun
  | [d1, d2, d3, d4, d5, d6, d7] => { results := [.lit (.bool false)], args := [d1, d2, d3, d4, d5, d6, d7] }
  | _ => none }
def CredentialUnwrapsWrongFalsely : Prop := credentialUnwrapsRow.holds Tryz.pinned (OpenSpec.ofChange credentialUnwrapsWrong)

/-- 'passkeylaw15.CredentialBack': WHATEVER THE INPUT: true; the input reads as it did. -/
def credentialBackSpec : ChangeSpec := { name := "credentialBack", fn := fun _ => fun
  | [d1, d2, d3] => { results := [.lit (.bool true)], args := [d1, d2, d3] }
  | _ => none }
def credentialBackRow : OpenClaim := { program := "ytijjelcejpikiaagreatdoor", sum := "226b5cbad1834db5e5aa272553f72cee4367133a171cee7018feddf3ed900642", func := "passkey/passkeylaw15.CredentialBack", spec := "credentialBack", inPlace := ["internal/reflectlite.ValueOf", "internal/reflectlite.Swapper", "(internal/reflectlite.Value).Len"], unfollowed := true, recurses := true, named := ["unicode/utf8.first", "unicode/utf8.acceptRanges"], apart := false, laid := [("unicode/utf8.acceptRanges", laid_unicode_utf8_acceptRanges), ("unicode/utf8.first", laid_unicode_utf8_first)] }
def CredentialBackSaid : Prop := credentialBackRow.holds Tryz.pinned (OpenSpec.ofChange credentialBackSpec)

/-- ITS FALSE NEIGHBOUR: 'it returns false'. Refute it at one input. -/
def credentialBackWrong : ChangeSpec := { name := "credentialBack", fn := fun _ => fun
  | [d1, d2, d3] => { results := [.lit (.bool false)], args := [d1, d2, d3] }
  | _ => none }
def CredentialBackWrongFalsely : Prop := credentialBackRow.holds Tryz.pinned (OpenSpec.ofChange credentialBackWrong)

/-- 'passkeylaw15.CredentialIDs': WHATEVER THE INPUT: true; the input reads as it did. -/
def credentialIDsSpec : ChangeSpec := { name := "credentialIDs", fn := fun _ => fun
  | [d1, d2, d3, d4, d5] => { results := [.lit (.bool true)], args := [d1, d2, d3, d4, d5] }
  | _ => none }
def credentialIDsRow : OpenClaim := { program := "ytijjelcejpikiaagreatdoor", sum := "226b5cbad1834db5e5aa272553f72cee4367133a171cee7018feddf3ed900642", func := "passkey/passkeylaw15.CredentialIDs", spec := "credentialIDs", inPlace := ["internal/reflectlite.ValueOf", "internal/reflectlite.Swapper", "(internal/reflectlite.Value).Len"], unfollowed := true, recurses := true, named := ["unicode/utf8.first", "unicode/utf8.acceptRanges"], apart := false, laid := [("unicode/utf8.acceptRanges", laid_unicode_utf8_acceptRanges), ("unicode/utf8.first", laid_unicode_utf8_first)] }
def CredentialIDsSaid : Prop := credentialIDsRow.holds Tryz.pinned (OpenSpec.ofChange credentialIDsSpec)

/-- ITS FALSE NEIGHBOUR: 'it returns false'. Refute it at one input. -/
def credentialIDsWrong : ChangeSpec := { name := "credentialIDs", fn := fun _ => fun
  | [d1, d2, d3, d4, d5] => { results := [.lit (.bool false)], args := [d1, d2, d3, d4, d5] }
  | _ => none }
def CredentialIDsWrongFalsely : Prop := credentialIDsRow.holds Tryz.pinned (OpenSpec.ofChange credentialIDsWrong)

/-- 'passkeylaw15.CredentialDecodes': WHATEVER THE INPUT: true; the input reads as it did. -/
def credentialDecodesSpec : ChangeSpec := { name := "credentialDecodes", fn := fun _ => fun
  | [d1, d2, d3, d4] => { results := [.lit (.bool true)], args := [d1, d2, d3, d4] }
  | _ => none }
def credentialDecodesRow : OpenClaim := { program := "ytijjelcejpikiaagreatdoor", sum := "226b5cbad1834db5e5aa272553f72cee4367133a171cee7018feddf3ed900642", func := "passkey/passkeylaw15.CredentialDecodes", spec := "credentialDecodes", inPlace := ["internal/reflectlite.ValueOf", "internal/reflectlite.Swapper", "(internal/reflectlite.Value).Len"], unfollowed := true, recurses := true, named := ["unicode/utf8.first", "unicode/utf8.acceptRanges"], apart := false, laid := [("unicode/utf8.acceptRanges", laid_unicode_utf8_acceptRanges), ("unicode/utf8.first", laid_unicode_utf8_first)] }
def CredentialDecodesSaid : Prop := credentialDecodesRow.holds Tryz.pinned (OpenSpec.ofChange credentialDecodesSpec)

/-- ITS FALSE NEIGHBOUR: 'it returns false'. Refute it at one input. -/
def credentialDecodesWrong : ChangeSpec := { name := "credentialDecodes", fn := fun _ => fun
  | [d1, d2, d3, d4] => { results := [.lit (.bool false)], args := [d1, d2, d3, d4] }
  | _ => none }
def CredentialDecodesWrongFalsely : Prop := credentialDecodesRow.holds Tryz.pinned (OpenSpec.ofChange credentialDecodesWrong)

/-- 'passkeylaw15.CredentialGrants': WHATEVER THE INPUT: true; the input reads as it did. -/
def credentialGrantsSpec : ChangeSpec := { name := "credentialGrants", fn := fun _ => fun
  | [d1, d2, d3, d4, d5, d6, d7] => { results := [.lit (.bool true)], args := [d1, d2, d3, d4, d5, d6, d7] }
  | _ => none }
def credentialGrantsRow : OpenClaim := { program := "ytijjelcejpikiaagreatdoor", sum := "226b5cbad1834db5e5aa272553f72cee4367133a171cee7018feddf3ed900642", func := "passkey/passkeylaw15.CredentialGrants", spec := "credentialGrants", inPlace := ["internal/reflectlite.ValueOf", "internal/reflectlite.Swapper", "(internal/reflectlite.Value).Len"], unfollowed := true, recurses := true, named := ["unicode/utf8.first", "unicode/utf8.acceptRanges"], apart := false, laid := [("unicode/utf8.acceptRanges", laid_unicode_utf8_acceptRanges), ("unicode/utf8.first", laid_unicode_utf8_first)] }
def CredentialGrantsSaid : Prop := credentialGrantsRow.holds Tryz.pinned (OpenSpec.ofChange credentialGrantsSpec)

/-- ITS FALSE NEIGHBOUR: 'it returns false'. Refute it at one input. -/
def credentialGrantsWrong : ChangeSpec := { name := "credentialGrants", fn := fun _ => fun
  | [d1, d2, d3, d4, d5, d6, d7] => { results := [.lit (.bool false)], args := [d1, d2, d3, d4, d5, d6, d7] }
  | _ => none }
def CredentialGrantsWrongFalsely : Prop := credentialGrantsRow.holds Tryz.pinned (OpenSpec.ofChange credentialGrantsWrong)

/-- 'passkeylaw15.CredentialKeys': WHATEVER THE INPUT: true; the input reads as it did. -/
def credentialKeysSpec : ChangeSpec := { name := "credentialKeys", fn := fun _ => fun
  | [d1, d2] => { results := [.lit (.bool true)], args := [d1, d2] }
  | _ => none }
def credentialKeysRow : OpenClaim := { program := "ytijjelcejpikiaagreatdoor", sum := "226b5cbad1834db5e5aa272553f72cee4367133a171cee7018feddf3ed900642", func := "passkey/passkeylaw15.CredentialKeys", spec := "credentialKeys", inPlace := ["internal/reflectlite.ValueOf", "internal/reflectlite.Swapper", "(internal/reflectlite.Value).Len"], unfollowed := true, recurses := true, named := ["unicode/utf8.first", "unicode/utf8.acceptRanges"], apart := false, laid := [("unicode/utf8.acceptRanges", laid_unicode_utf8_acceptRanges), ("unicode/utf8.first", laid_unicode_utf8_first)] }
def CredentialKeysSaid : Prop := credentialKeysRow.holds Tryz.pinned (OpenSpec.ofChange credentialKeysSpec)

/-- ITS FALSE NEIGHBOUR: 'it returns false'. Refute it at one input. -/
def credentialKeysWrong : ChangeSpec := { name := "credentialKeys", fn := fun _ => fun
  | [d1, d2] => { results := [.lit (.bool false)], args := [d1, d2] }
  | _ => none }
def CredentialKeysWrongFalsely : Prop := credentialKeysRow.holds Tryz.pinned (OpenSpec.ofChange credentialKeysWrong)

/- THE SECOND FORM. 'bulk': how many values and letters a reading holds, each counted each time it is reached (what is shared counts as often as it is met; a slice's spare places count too). A statement '..UptoSaid' is the law's where the arguments, and the package variables that the reading takes, are together of bulk at most 1048576: NARROWER than '..Said'. Prove '..Said' where nothing that the law and all that it calls make is longer than what came in: it says more and counts as full. Else prove '..UptoSaid'. A law counts once. -/
mutual
def uptoBulk {H : Type} : DataW H → Nat
  | .lit (.string bytes) => bytes.length + 1
  | .lit _ => 1
  | .nil => 1
  | .ptr d => uptoBulk d + 1
  | .slice elems spare => uptoBulkAll elems + uptoBulkAll spare + 1
  | .agg parts => uptoBulkAll parts + 1
  | .iface _ d => uptoBulk d + 1
  | .map entries => uptoBulkEntries entries + 1
  | .held _ => 1
def uptoBulkAll {H : Type} : List (DataW H) → Nat
  | [] => 0
  | d :: r => uptoBulk d + uptoBulkAll r
def uptoBulkEntries {H : Type} : List (Lit × DataW H) → Nat
  | [] => 0
  | x :: r => uptoBulkEntry x + uptoBulkEntries r
def uptoBulkEntry {H : Type} : Lit × DataW H → Nat
  | (.string bytes, d) => bytes.length + uptoBulk d + 1
  | (_, d) => uptoBulk d + 1
 end
def uptoSmall : (H : Type) → List (DataW H) → Bool := fun _ ds => decide (uptoBulkAll ds ≤ 1048576)
def OpenSpec.upto (s : _root_.Go.ChangeSpec) : _root_.Go.OpenSpec := { _root_.Go.OpenSpec.ofChange s with cond := some uptoSmall }

/-- 'passkeylaw15.CredentialValidates', WHERE WHAT IT READS IS OF BULK AT MOST 1048576: true; the input reads as it did. -/
def credentialValidatesUptoRow : OpenClaim := { program := "ytijjelcejpikiaagreatdoor", sum := "226b5cbad1834db5e5aa272553f72cee4367133a171cee7018feddf3ed900642", func := "passkey/passkeylaw15.CredentialValidates", spec := "credentialValidates", inPlace := ["internal/reflectlite.ValueOf", "internal/reflectlite.Swapper", "(internal/reflectlite.Value).Len"], unfollowed := true, recurses := true, named := ["unicode/utf8.first", "unicode/utf8.acceptRanges"], apart := false, laid := [("unicode/utf8.acceptRanges", laid_unicode_utf8_acceptRanges), ("unicode/utf8.first", laid_unicode_utf8_first)], narrowed := true }
def CredentialValidatesUptoSaid : Prop := credentialValidatesUptoRow.holds Tryz.pinned (OpenSpec.upto credentialValidatesSpec)

/-- 'passkeylaw15.CredentialUnwraps', WHERE WHAT IT READS IS OF BULK AT MOST 1048576: true; the input reads as it did. -/
def credentialUnwrapsUptoRow : OpenClaim := { program := "ytijjelcejpikiaagreatdoor", sum := "226b5cbad1834db5e5aa272553f72cee4367133a171cee7018feddf3ed900642", func := "passkey/passkeylaw15.CredentialUnwraps", spec := "credentialUnwraps", inPlace := ["internal/reflectlite.ValueOf", "internal/reflectlite.Swapper", "(internal/reflectlite.Value).Len"], unfollowed := true, recurses := true, named := ["unicode/utf8.first", "unicode/utf8.acceptRanges"], apart := false, laid := [("unicode/utf8.acceptRanges", laid_unicode_utf8_acceptRanges), ("unicode/utf8.first", laid_unicode_utf8_first)], narrowed := true }
def CredentialUnwrapsUptoSaid : Prop := credentialUnwrapsUptoRow.holds Tryz.pinned (OpenSpec.upto credentialUnwrapsSpec)

/-- 'passkeylaw15.CredentialBack', WHERE WHAT IT READS IS OF BULK AT MOST 1048576: true; the input reads as it did. -/
def credentialBackUptoRow : OpenClaim := { program := "ytijjelcejpikiaagreatdoor", sum := "226b5cbad1834db5e5aa272553f72cee4367133a171cee7018feddf3ed900642", func := "passkey/passkeylaw15.CredentialBack", spec := "credentialBack", inPlace := ["internal/reflectlite.ValueOf", "internal/reflectlite.Swapper", "(internal/reflectlite.Value).Len"], unfollowed := true, recurses := true, named := ["unicode/utf8.first", "unicode/utf8.acceptRanges"], apart := false, laid := [("unicode/utf8.acceptRanges", laid_unicode_utf8_acceptRanges), ("unicode/utf8.first", laid_unicode_utf8_first)], narrowed := true }
def CredentialBackUptoSaid : Prop := credentialBackUptoRow.holds Tryz.pinned (OpenSpec.upto credentialBackSpec)

/-- 'passkeylaw15.CredentialIDs', WHERE WHAT IT READS IS OF BULK AT MOST 1048576: true; the input reads as it did. -/
def credentialIDsUptoRow : OpenClaim := { program := "ytijjelcejpikiaagreatdoor", sum := "226b5cbad1834db5e5aa272553f72cee4367133a171cee7018feddf3ed900642", func := "passkey/passkeylaw15.CredentialIDs", spec := "credentialIDs", inPlace := ["internal/reflectlite.ValueOf", "internal/reflectlite.Swapper", "(internal/reflectlite.Value).Len"], unfollowed := true, recurses := true, named := ["unicode/utf8.first", "unicode/utf8.acceptRanges"], apart := false, laid := [("unicode/utf8.acceptRanges", laid_unicode_utf8_acceptRanges), ("unicode/utf8.first", laid_unicode_utf8_first)], narrowed := true }
def CredentialIDsUptoSaid : Prop := credentialIDsUptoRow.holds Tryz.pinned (OpenSpec.upto credentialIDsSpec)

/-- 'passkeylaw15.CredentialDecodes', WHERE WHAT IT READS IS OF BULK AT MOST 1048576: true; the input reads as it did. -/
def credentialDecodesUptoRow : OpenClaim := { program := "ytijjelcejpikiaagreatdoor", sum := "226b5cbad1834db5e5aa272553f72cee4367133a171cee7018feddf3ed900642", func := "passkey/passkeylaw15.CredentialDecodes", spec := "credentialDecodes", inPlace := ["internal/reflectlite.ValueOf", "internal/reflectlite.Swapper", "(internal/reflectlite.Value).Len"], unfollowed := true, recurses := true, named := ["unicode/utf8.first", "unicode/utf8.acceptRanges"], apart := false, laid := [("unicode/utf8.acceptRanges", laid_unicode_utf8_acceptRanges), ("unicode/utf8.first", laid_unicode_utf8_first)], narrowed := true }
def CredentialDecodesUptoSaid : Prop := credentialDecodesUptoRow.holds Tryz.pinned (OpenSpec.upto credentialDecodesSpec)

/-- 'passkeylaw15.CredentialGrants', WHERE WHAT IT READS IS OF BULK AT MOST 1048576: true; the input reads as it did. -/
def credentialGrantsUptoRow : OpenClaim := { program := "ytijjelcejpikiaagreatdoor", sum := "226b5cbad1834db5e5aa272553f72cee4367133a171cee7018feddf3ed900642", func := "passkey/passkeylaw15.CredentialGrants", spec := "credentialGrants", inPlace := ["internal/reflectlite.ValueOf", "internal/reflectlite.Swapper", "(internal/reflectlite.Value).Len"], unfollowed := true, recurses := true, named := ["unicode/utf8.first", "unicode/utf8.acceptRanges"], apart := false, laid := [("unicode/utf8.acceptRanges", laid_unicode_utf8_acceptRanges), ("unicode/utf8.first", laid_unicode_utf8_first)], narrowed := true }
def CredentialGrantsUptoSaid : Prop := credentialGrantsUptoRow.holds Tryz.pinned (OpenSpec.upto credentialGrantsSpec)

/-- 'passkeylaw15.CredentialKeys', WHERE WHAT IT READS IS OF BULK AT MOST 1048576: true; the input reads as it did. -/
def credentialKeysUptoRow : OpenClaim := { program := "ytijjelcejpikiaagreatdoor", sum := "226b5cbad1834db5e5aa272553f72cee4367133a171cee7018feddf3ed900642", func := "passkey/passkeylaw15.CredentialKeys", spec := "credentialKeys", inPlace := ["internal/reflectlite.ValueOf", "internal/reflectlite.Swapper", "(internal/reflectlite.Value).Len"], unfollowed := true, recurses := true, named := ["unicode/utf8.first", "unicode/utf8.acceptRanges"], apart := false, laid := [("unicode/utf8.acceptRanges", laid_unicode_utf8_acceptRanges), ("unicode/utf8.first", laid_unicode_utf8_first)], narrowed := true }
def CredentialKeysUptoSaid : Prop := credentialKeysUptoRow.holds Tryz.pinned (OpenSpec.upto credentialKeysSpec)

end Rows
end Go.Proofs.YtijjelcejpikiaaGreatDoor
