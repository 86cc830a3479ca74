/-
  No cell of these rows narrows 'for every input' (looked for: loops, veiled, ifaces, maps, wideKeys, modest, calm, conditions, laid).
  DERIVED. THE GIVEN ROWS OF THIS SEAT. 4 by the template 'for every input the law returns true; each argument reads behind the call as it read before'; 0 by the template 'total and deterministic' (their statements: YthoooflagabpoaaTotals.lean).
  GIVEN WITH THE SEED: the statements are not yours to turn. If you find one false, say at which input.
  Laid BY PROGRAM, IN A SANDBOX (cutbox-rows.mjs): the forced cells as the released guide's own fill.sh prints them over the translation 26918bce9b461c75… (all of the seat's roots in one cut). By AI agents, Wed Nov 11 2026. No macro, syntax, notation, axiom, sorry.
-/
import Derived.Test.YthoooflagabpoaaChecked
import GoSem.Claim
import GoSem.ClaimJoined
import GoSem.ClaimMapViews
import Derived.JoinedTies
import Derived.KernelRfl
namespace Go.Proofs.Ythoooflagabpoaa
/- THE CELL 'sum', in the pinned program and in every row, IS THE sha256 OF THE DUMP (.gsa) THAT YthoooflagabpoaaProg.lean LOADS. Nothing in Lean hashes anything: it is a label: what it is worth is what the hold of that sum in a sandbox is worth. -/
noncomputable def Try.pinned : Pinned := { name := "ythoooflagabpoaa", sum := "26918bce9b461c7548e101628df4de7c74ce9ad7a1151fc4de8718f6a0b4396b", checked := Try.checked }
namespace Rows
def none {H : Type} : Left H := { results := [], args := [] }

/-- 'passkeylaw30.AccountShape': WHATEVER THE INPUT: true; the input reads as it did. -/
def accountShapeSpec : ChangeSpec := { name := "accountShape", fn := fun _ => fun
  | [d1, d2, d3] => { results := [.lit (.bool true)], args := [d1, d2, d3] }
  | _ => none }
def accountShapeRow : OpenClaim := { program := "ythoooflagabpoaa", sum := "26918bce9b461c7548e101628df4de7c74ce9ad7a1151fc4de8718f6a0b4396b", func := "passkey/passkeylaw30.AccountShape", spec := "accountShape", inPlace := ["slices.overlaps[passkey/api.Range]"], unfollowed := true, recurses := true, apart := false }
def AccountShapeSaid : Prop := accountShapeRow.holds Try.pinned (OpenSpec.ofChange accountShapeSpec)

/-- ITS FALSE NEIGHBOUR: 'it returns false'. Refute it at one input. -/
def accountShapeWrong : ChangeSpec := { name := "accountShape", fn := fun _ => fun
  | [d1, d2, d3] => { results := [.lit (.bool false)], args := [d1, d2, d3] }
  | _ => none }
def AccountShapeWrongFalsely : Prop := accountShapeRow.holds Try.pinned (OpenSpec.ofChange accountShapeWrong)

/-- 'passkeylaw30.AccountAccepts': WHATEVER THE INPUT: true; the input reads as it did. -/
def accountAcceptsSpec : ChangeSpec := { name := "accountAccepts", fn := fun _ => fun
  | [d1, d2, d3, d4, d5] => { results := [.lit (.bool true)], args := [d1, d2, d3, d4, d5] }
  | _ => none }
def accountAcceptsRow : OpenClaim := { program := "ythoooflagabpoaa", sum := "26918bce9b461c7548e101628df4de7c74ce9ad7a1151fc4de8718f6a0b4396b", func := "passkey/passkeylaw30.AccountAccepts", spec := "accountAccepts", inPlace := ["slices.overlaps[passkey/api.Range]"], unfollowed := true, recurses := true, apart := false }
def AccountAcceptsSaid : Prop := accountAcceptsRow.holds Try.pinned (OpenSpec.ofChange accountAcceptsSpec)

/-- ITS FALSE NEIGHBOUR: 'it returns false'. Refute it at one input. -/
def accountAcceptsWrong : ChangeSpec := { name := "accountAccepts", fn := fun _ => fun
  | [d1, d2, d3, d4, d5] => { results := [.lit (.bool false)], args := [d1, d2, d3, d4, d5] }
  | _ => none }
def AccountAcceptsWrongFalsely : Prop := accountAcceptsRow.holds Try.pinned (OpenSpec.ofChange accountAcceptsWrong)

/-- 'passkeylaw30.AccountLeaves': WHATEVER THE INPUT: true; the input reads as it did. -/
def accountLeavesSpec : ChangeSpec := { name := "accountLeaves", fn := fun _ => fun
  | [d1, d2] => { results := [.lit (.bool true)], args := [d1, d2] }
  | _ => none }
def accountLeavesRow : OpenClaim := { program := "ythoooflagabpoaa", sum := "26918bce9b461c7548e101628df4de7c74ce9ad7a1151fc4de8718f6a0b4396b", func := "passkey/passkeylaw30.AccountLeaves", spec := "accountLeaves", inPlace := ["slices.overlaps[passkey/api.Range]"], unfollowed := true, recurses := true, apart := false }
def AccountLeavesSaid : Prop := accountLeavesRow.holds Try.pinned (OpenSpec.ofChange accountLeavesSpec)

/-- ITS FALSE NEIGHBOUR: 'it returns false'. Refute it at one input. -/
def accountLeavesWrong : ChangeSpec := { name := "accountLeaves", fn := fun _ => fun
  | [d1, d2] => { results := [.lit (.bool false)], args := [d1, d2] }
  | _ => none }
def AccountLeavesWrongFalsely : Prop := accountLeavesRow.holds Try.pinned (OpenSpec.ofChange accountLeavesWrong)

/-- 'passkeylaw30.AccountCopies': WHATEVER THE INPUT: true; the input reads as it did. -/
def accountCopiesSpec : ChangeSpec := { name := "accountCopies", fn := fun _ => fun
  | [d] => { results := [.lit (.bool true)], args := [d] }
  | _ => none }
def accountCopiesRow : OpenClaim := { program := "ythoooflagabpoaa", sum := "26918bce9b461c7548e101628df4de7c74ce9ad7a1151fc4de8718f6a0b4396b", func := "passkey/passkeylaw30.AccountCopies", spec := "accountCopies", inPlace := ["slices.overlaps[passkey/api.Range]"], unfollowed := true, recurses := true, apart := false }
def AccountCopiesSaid : Prop := accountCopiesRow.holds Try.pinned (OpenSpec.ofChange accountCopiesSpec)

/-- ITS FALSE NEIGHBOUR: 'it returns false'. Refute it at one input. -/
def accountCopiesWrong : ChangeSpec := { name := "accountCopies", fn := fun _ => fun
  | [d] => { results := [.lit (.bool false)], args := [d] }
  | _ => none }
def AccountCopiesWrongFalsely : Prop := accountCopiesRow.holds Try.pinned (OpenSpec.ofChange accountCopiesWrong)

/- THE SECOND FORM. 'bulk': how many values and letters a reading holds, each counted each time it is reached (what is shared counts as often as it is met; a slice's spare places count too). A statement '..UptoSaid' is the law's where the arguments, and the package variables that the reading takes, are together of bulk at most 1048576: NARROWER than '..Said'. Prove '..Said' where nothing that the law and all that it calls make is longer than what came in: it says more and counts as full. Else prove '..UptoSaid'. A law counts once. -/
mutual
def uptoBulk {H : Type} : DataW H → Nat
  | .lit (.string bytes) => bytes.length + 1
  | .lit _ => 1
  | .nil => 1
  | .ptr d => uptoBulk d + 1
  | .slice elems spare => uptoBulkAll elems + uptoBulkAll spare + 1
  | .agg parts => uptoBulkAll parts + 1
  | .iface _ d => uptoBulk d + 1
  | .map entries => uptoBulkEntries entries + 1
  | .held _ => 1
def uptoBulkAll {H : Type} : List (DataW H) → Nat
  | [] => 0
  | d :: r => uptoBulk d + uptoBulkAll r
def uptoBulkEntries {H : Type} : List (Lit × DataW H) → Nat
  | [] => 0
  | x :: r => uptoBulkEntry x + uptoBulkEntries r
def uptoBulkEntry {H : Type} : Lit × DataW H → Nat
  | (.string bytes, d) => bytes.length + uptoBulk d + 1
  | (_, d) => uptoBulk d + 1
 end
def uptoSmall : (H : Type) → List (DataW H) → Bool := fun _ ds => decide (uptoBulkAll ds ≤ 1048576)
def OpenSpec.upto (s : _root_.Go.ChangeSpec) : _root_.Go.OpenSpec := { _root_.Go.OpenSpec.ofChange s with cond := some uptoSmall }

/-- 'passkeylaw30.AccountShape', WHERE WHAT IT READS IS OF BULK AT MOST 1048576: true; the input reads as it did. -/
def accountShapeUptoRow : OpenClaim := { program := "ythoooflagabpoaa", sum := "26918bce9b461c7548e101628df4de7c74ce9ad7a1151fc4de8718f6a0b4396b", func := "passkey/passkeylaw30.AccountShape", spec := "accountShape", inPlace := ["slices.overlaps[passkey/api.Range]"], unfollowed := true, recurses := true, apart := false, narrowed := true }
def AccountShapeUptoSaid : Prop := accountShapeUptoRow.holds Try.pinned (OpenSpec.upto accountShapeSpec)

/-- 'passkeylaw30.AccountAccepts', WHERE WHAT IT READS IS OF BULK AT MOST 1048576: true; the input reads as it did. -/
def accountAcceptsUptoRow : OpenClaim := { program := "ythoooflagabpoaa", sum := "26918bce9b461c7548e101628df4de7c74ce9ad7a1151fc4de8718f6a0b4396b", func := "passkey/passkeylaw30.AccountAccepts", spec := "accountAccepts", inPlace := ["slices.overlaps[passkey/api.Range]"], unfollowed := true, recurses := true, apart := false, narrowed := true }
def AccountAcceptsUptoSaid : Prop := accountAcceptsUptoRow.holds Try.pinned (OpenSpec.upto accountAcceptsSpec)

/-- 'passkeylaw30.AccountLeaves', WHERE WHAT IT READS IS OF BULK AT MOST 1048576: true; the input reads as it did. -/
def accountLeavesUptoRow : OpenClaim := { program := "ythoooflagabpoaa", sum := "26918bce9b461c7548e101628df4de7c74ce9ad7a1151fc4de8718f6a0b4396b", func := "passkey/passkeylaw30.AccountLeaves", spec := "accountLeaves", inPlace := ["slices.overlaps[passkey/api.Range]"], unfollowed := true, recurses := true, apart := false, narrowed := true }
def AccountLeavesUptoSaid : Prop := accountLeavesUptoRow.holds Try.pinned (OpenSpec.upto accountLeavesSpec)

/-- 'passkeylaw30.AccountCopies', WHERE WHAT IT READS IS OF BULK AT MOST 1048576: true; the input reads as it did. -/
def accountCopiesUptoRow : OpenClaim := { program := "ythoooflagabpoaa", sum := "26918bce9b461c7548e101628df4de7c74ce9ad7a1151fc4de8718f6a0b4396b", func := "passkey/passkeylaw30.AccountCopies", spec := "accountCopies", inPlace := ["slices.overlaps[passkey/api.Range]"], unfollowed := true, recurses := true, apart := false, narrowed := true }
def AccountCopiesUptoSaid : Prop := accountCopiesUptoRow.holds Try.pinned (OpenSpec.upto accountCopiesSpec)

end Rows
end Go.Proofs.Ythoooflagabpoaa
