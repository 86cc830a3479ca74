/-
The same values with bounded loops, for computing. Printed by a program.
-/
import Derived.Test.YtijjelcejpikiaaGreatDoorEvRun
import Derived.Test.YtijjelcejpikiaaGreatDoorEvPv15
set_option linter.unusedVariables false
set_option maxRecDepth 100000
set_option maxHeartbeats 4000000
namespace Go.Px
open Go Go.Ev
/-- So many rounds are enough. -/
def fuel : Nat := 100000
/-! credential_Validate_c: passkey/credential.Validate -/
noncomputable def credential_Validate_j7_c : (Unit × (ByteArray × ByteArray × ByteArray × Int × Int × Bool × Int × Bool × Bool)) → Option (Int ⊕ Unit) := fun s => match s with
  | ((), (a1, a2, a3, a4, a5, a6, a7, a8, a9)) =>
    cond a8 (
      cond (!a6) (
        some (.inl 18)) (
        cond a9 (
          cond (!a8) (
            some (.inl 18)) (
            some (.inr ()))) (
          some (.inr ())))) (
      cond a9 (
        cond (!a8) (
          some (.inl 18)) (
          some (.inr ()))) (
        some (.inr ())))
noncomputable def credential_Validate_j5_c : (Unit × (ByteArray × ByteArray × ByteArray × Int × Int × Bool × Int × Bool × Bool)) → Option (Int ⊕ Unit) := fun s => match s with
  | ((), (a1, a2, a3, a4, a5, a6, a7, a8, a9)) =>
    Option.bind (utf8_ValidString a1) fun y1 =>
    cond (!y1) (
      some (.inl 6)) (
      Option.bind (utf8_ValidString a3) fun y2 =>
      cond (!y2) (
        some (.inl 6)) (
        Option.bind (credential_Validate_j7_c ((), (a1, a2, a3, a4, a5, a6, a7, a8, a9))) fun y3 =>
        match y3 with
        | (.inl y4) =>
          some (.inl y4)
        | (.inr y5) =>
          some (.inr ())))
noncomputable def credential_Validate_j3_c : (Unit × (ByteArray × ByteArray × ByteArray × Int × Int × Bool × Int × Bool × Bool)) → Option (Int ⊕ Unit) := fun s => match s with
  | ((), (a1, a2, a3, a4, a5, a6, a7, a8, a9)) =>
    cond (decide (a5 < 1)) (
      some (.inl 9)) (
      cond (decide (a5 > 4)) (
        some (.inl 9)) (
        cond (decide (a7 < 1)) (
          some (.inl 9)) (
          cond (decide (a7 > 3)) (
            some (.inl 9)) (
            Option.bind (credential_Validate_j5_c ((), (a1, a2, a3, a4, a5, a6, a7, a8, a9))) fun y1 =>
            match y1 with
            | (.inl y2) =>
              some (.inl y2)
            | (.inr y3) =>
              some (.inr ())))))
noncomputable def credential_Validate_c (a1 : ByteArray) (a2 : ByteArray) (a3 : ByteArray) (a4 : Int) (a5 : Int) (a6 : Bool) (a7 : Int) (a8 : Bool) (a9 : Bool) : Option Int :=
  cond (decide ((((a1.size) : Nat) : Int) < 1)) (
    some 9) (
    cond (decide ((((a1.size) : Nat) : Int) > 64)) (
      some 9) (
      cond (decide ((((a2.size) : Nat) : Int) < 1)) (
        some 9) (
        cond (decide ((((a2.size) : Nat) : Int) > 16)) (
          some 9) (
          cond (decide ((((a3.size) : Nat) : Int) > 32)) (
            some 9) (
            Option.bind (credential_Validate_j3_c ((), (a1, a2, a3, a4, a5, a6, a7, a8, a9))) fun y1 =>
            match y1 with
            | (.inl y2) =>
              some y2
            | (.inr y3) =>
              some 0)))))

theorem credential_Validate_j7_le : ∀ s, Le (credential_Validate_j7_c s) (credential_Validate_j7 s) := fun s => match s with
  | ((), (a1, a2, a3, a4, a5, a6, a7, a8, a9)) => by
    unfold credential_Validate_j7_c credential_Validate_j7
    exact
    (Le.cond
      (Le.cond
        (Le.refl _)
        (Le.cond
          (Le.cond
            (Le.refl _)
            (Le.refl _))
          (Le.refl _)))
      (Le.cond
        (Le.cond
          (Le.refl _)
          (Le.refl _))
        (Le.refl _)))
theorem credential_Validate_j5_le : ∀ s, Le (credential_Validate_j5_c s) (credential_Validate_j5 s) := fun s => match s with
  | ((), (a1, a2, a3, a4, a5, a6, a7, a8, a9)) => by
    unfold credential_Validate_j5_c credential_Validate_j5
    exact
    (Le.bind (Le.refl _) fun y1 =>
    (Le.cond
      (Le.refl _)
      (Le.bind (Le.refl _) fun y2 =>
      (Le.cond
        (Le.refl _)
        (Le.bind (credential_Validate_j7_le _) fun y3 =>
        (match y3 with
        | (.inl y4) =>
          (Le.refl _)
        | (.inr y5) =>
          (Le.refl _)))))))
theorem credential_Validate_j3_le : ∀ s, Le (credential_Validate_j3_c s) (credential_Validate_j3 s) := fun s => match s with
  | ((), (a1, a2, a3, a4, a5, a6, a7, a8, a9)) => by
    unfold credential_Validate_j3_c credential_Validate_j3
    exact
    (Le.cond
      (Le.refl _)
      (Le.cond
        (Le.refl _)
        (Le.cond
          (Le.refl _)
          (Le.cond
            (Le.refl _)
            (Le.bind (credential_Validate_j5_le _) fun y1 =>
            (match y1 with
            | (.inl y2) =>
              (Le.refl _)
            | (.inr y3) =>
              (Le.refl _)))))))
theorem credential_Validate_le (a1 : ByteArray) (a2 : ByteArray) (a3 : ByteArray) (a4 : Int) (a5 : Int) (a6 : Bool) (a7 : Int) (a8 : Bool) (a9 : Bool) : Le (credential_Validate_c a1 a2 a3 a4 a5 a6 a7 a8 a9) (credential_Validate a1 a2 a3 a4 a5 a6 a7 a8 a9) := by
  unfold credential_Validate_c credential_Validate
  exact
    (Le.cond
      (Le.refl _)
      (Le.cond
        (Le.refl _)
        (Le.cond
          (Le.refl _)
          (Le.cond
            (Le.refl _)
            (Le.cond
              (Le.refl _)
              (Le.bind (credential_Validate_j3_le _) fun y1 =>
              (match y1 with
              | (.inl y2) =>
                (Le.refl _)
              | (.inr y3) =>
                (Le.refl _))))))))

/-! cbor_Text_c: passkey/cbor.Text -/
noncomputable def cbor_Text_c (a1 : ByteArray) : Option (Unit × List PD) :=
  some ((), [(PD.agg [(.int .i64 4), (.int .u64 0), (.str a1)])])

theorem cbor_Text_le (a1 : ByteArray) : Le (cbor_Text_c a1) (cbor_Text a1) := by
  unfold cbor_Text_c cbor_Text
  exact
    (Le.refl _)

/-! cbor_Bytes_c: passkey/cbor.Bytes -/
noncomputable def cbor_Bytes_c (a1 : List Int) : Option (Unit × List PD) :=
  some ((), [(PD.agg [(.int .i64 3), (.int .u64 0), (.str (strOf a1))])])

theorem cbor_Bytes_le (a1 : List Int) : Le (cbor_Bytes_c a1) (cbor_Bytes a1) := by
  unfold cbor_Bytes_c cbor_Bytes
  exact
    (Le.refl _)

/-! cbor_Uint_c: passkey/cbor.Uint -/
noncomputable def cbor_Uint_c (a1 : Int) : Option (Unit × List PD) :=
  some ((), [(PD.agg [(.int .i64 1), (.int .u64 a1), (.str (bs []))])])

theorem cbor_Uint_le (a1 : Int) : Le (cbor_Uint_c a1) (cbor_Uint a1) := by
  unfold cbor_Uint_c cbor_Uint
  exact
    (Le.refl _)

/-! cbor_Bool_c: passkey/cbor.Bool -/
noncomputable def cbor_Bool_c (a1 : Bool) : Option (Unit × List PD) :=
  cond a1 (
    some ((), [(PD.agg [(.int .i64 7), (.int .u64 1), (.str (bs []))])])) (
    some ((), [(PD.agg [(.int .i64 7), (.int .u64 0), (.str (bs []))])]))

theorem cbor_Bool_le (a1 : Bool) : Le (cbor_Bool_c a1) (cbor_Bool a1) := by
  unfold cbor_Bool_c cbor_Bool
  exact
    (Le.cond
      (Le.refl _)
      (Le.refl _))

/-! cbor_walk_isKey_c6d_c: (*passkey/cbor.walk).isKey -/
noncomputable def cbor_walk_isKey_c6d_c (a1 : Int) (a2 : Bool) (a3 : List PD) : Option (Bool × ((Unit × Int × Bool) × List PD)) :=
  cond (decide ((((a3.length) : Nat) : Int) > 0)) (
    Option.bind (some ((IntKind.i64.wrap ((((a3.length) : Nat) : Int) - 1)) : Int)) fun y1 =>
    cond (inRange y1 (a3.length)) (
      Option.bind (a3[(Int.toNat y1)]?) fun y2 =>
      Option.bind (PD.boolAt y2 0) fun y3 =>
      cond y3 (
        Option.bind (some ((IntKind.i64.wrap ((((a3.length) : Nat) : Int) - 1)) : Int)) fun y4 =>
        cond (inRange y4 (a3.length)) (
          Option.bind (a3[(Int.toNat y4)]?) fun y5 =>
          Option.bind (PD.intAt .i64 y5 1) fun y6 =>
          some (((Int.tmod y6 2) == 0), (((), a1, a2), a3))) none) (
        some (false, (((), a1, a2), a3)))) none) (
    some (false, (((), a1, a2), a3)))

theorem cbor_walk_isKey_c6d_le (a1 : Int) (a2 : Bool) (a3 : List PD) : Le (cbor_walk_isKey_c6d_c a1 a2 a3) (cbor_walk_isKey_c6d a1 a2 a3) := by
  unfold cbor_walk_isKey_c6d_c cbor_walk_isKey_c6d
  exact
    (Le.cond
      (Le.bind (Le.refl _) fun y1 =>
      (Le.cond
        (Le.bind (Le.refl _) fun y2 =>
        (Le.bind (Le.refl _) fun y3 =>
        (Le.cond
          (Le.bind (Le.refl _) fun y4 =>
          (Le.cond
            (Le.bind (Le.refl _) fun y5 =>
            (Le.bind (Le.refl _) fun y6 =>
            (Le.refl _))) (Le.refl _)))
          (Le.refl _)))) (Le.refl _)))
      (Le.refl _))

/-! cbor_walk_enter_4d8_c: (*passkey/cbor.walk).enter -/
noncomputable def cbor_walk_enter_4d8_c (a1 : Int) (a2 : Int) (a3 : Bool) (a4 : List PD) : Option (Int × ((Unit × Int × Bool) × List PD)) :=
  cond (decide (a2 ≥ 512)) (
    some (8, (((), a2, a3), a4))) (
    cond (decide (a1 < 1)) (
      some (3, (((), a2, a3), a4))) (
      cond (decide (a1 > 8)) (
        some (3, (((), a2, a3), a4))) (
        Option.bind (cbor_walk_isKey_c6d_c a2 a3 a4) fun y1 =>
        cond y1.1 (
          cond (a1 != 1) (
            cond (a1 != 2) (
              cond (a1 != 4) (
                some (3, (((), y1.2.1.2.1, y1.2.1.2.2), y1.2.2))) (
                cond (decide ((((y1.2.2.length) : Nat) : Int) > 8)) (
                  some (5, (((), y1.2.1.2.1, y1.2.1.2.2), y1.2.2))) (
                  some (0, (((), y1.2.1.2.1, y1.2.1.2.2), y1.2.2))))) (
              cond (decide ((((y1.2.2.length) : Nat) : Int) > 8)) (
                some (5, (((), y1.2.1.2.1, y1.2.1.2.2), y1.2.2))) (
                some (0, (((), y1.2.1.2.1, y1.2.1.2.2), y1.2.2))))) (
            cond (decide ((((y1.2.2.length) : Nat) : Int) > 8)) (
              some (5, (((), y1.2.1.2.1, y1.2.1.2.2), y1.2.2))) (
              some (0, (((), y1.2.1.2.1, y1.2.1.2.2), y1.2.2))))) (
          cond (decide ((((y1.2.2.length) : Nat) : Int) > 8)) (
            some (5, (((), y1.2.1.2.1, y1.2.1.2.2), y1.2.2))) (
            some (0, (((), y1.2.1.2.1, y1.2.1.2.2), y1.2.2)))))))

theorem cbor_walk_enter_4d8_le (a1 : Int) (a2 : Int) (a3 : Bool) (a4 : List PD) : Le (cbor_walk_enter_4d8_c a1 a2 a3 a4) (cbor_walk_enter_4d8 a1 a2 a3 a4) := by
  unfold cbor_walk_enter_4d8_c cbor_walk_enter_4d8
  exact
    (Le.cond
      (Le.refl _)
      (Le.cond
        (Le.refl _)
        (Le.cond
          (Le.refl _)
          (Le.bind (cbor_walk_isKey_c6d_le _ _ _) fun y1 =>
          (Le.cond
            (Le.cond
              (Le.cond
                (Le.cond
                  (Le.refl _)
                  (Le.cond
                    (Le.refl _)
                    (Le.refl _)))
                (Le.cond
                  (Le.refl _)
                  (Le.refl _)))
              (Le.cond
                (Le.refl _)
                (Le.refl _)))
            (Le.cond
              (Le.refl _)
              (Le.refl _)))))))

/-! cbor_misshapen_c: passkey/cbor.misshapen -/
noncomputable def cbor_misshapen_j8_c : (Unit × (Int × Int × ByteArray)) → Option Bool := fun s => match s with
  | ((), (a1, a2, a3)) =>
    some (a2 != 0)
noncomputable def cbor_misshapen_j9_c : ((Unit × Int) × (Int × Int × ByteArray)) → Option (Bool ⊕ Unit) := fun s => match s with
  | (((), a1), (a2, a3, a4)) =>
    cond (a1 == 7) (
      some (.inl (decide (a3 > 1)))) (
      some (.inr ()))
noncomputable def cbor_misshapen_j2_c : ((Unit × Bool) × (Int × Int × ByteArray)) → Option Bool := fun s => match s with
  | (((), a1), (a2, a3, a4)) =>
    cond (!a1) (
      cond (!(strEq a4 (bs []))) (
        some true) (
        cond (a2 == 3) (
          Option.bind (cbor_misshapen_j8_c ((), (a2, a3, a4))) fun y1 =>
          some y1) (
          cond (a2 == 4) (
            Option.bind (cbor_misshapen_j8_c ((), (a2, a3, a4))) fun y2 =>
            some y2) (
            cond (a2 == 8) (
              Option.bind (cbor_misshapen_j8_c ((), (a2, a3, a4))) fun y3 =>
              some y3) (
              Option.bind (cbor_misshapen_j9_c (((), a2), (a2, a3, a4))) fun y4 =>
              match y4 with
              | (.inl y5) =>
                some y5
              | (.inr y6) =>
                some false))))) (
      cond (a2 == 3) (
        Option.bind (cbor_misshapen_j8_c ((), (a2, a3, a4))) fun y7 =>
        some y7) (
        cond (a2 == 4) (
          Option.bind (cbor_misshapen_j8_c ((), (a2, a3, a4))) fun y8 =>
          some y8) (
          cond (a2 == 8) (
            Option.bind (cbor_misshapen_j8_c ((), (a2, a3, a4))) fun y9 =>
            some y9) (
            Option.bind (cbor_misshapen_j9_c (((), a2), (a2, a3, a4))) fun y10 =>
            match y10 with
            | (.inl y11) =>
              some y11
            | (.inr y12) =>
              some false))))
noncomputable def cbor_misshapen_c (a1 : Int) (a2 : Int) (a3 : ByteArray) : Option Bool :=
  cond (a1 == 3) (
    Option.bind (cbor_misshapen_j2_c (((), true), (a1, a2, a3))) fun y1 =>
    some y1) (
    Option.bind (cbor_misshapen_j2_c (((), (a1 == 4)), (a1, a2, a3))) fun y2 =>
    some y2)

theorem cbor_misshapen_j8_le : ∀ s, Le (cbor_misshapen_j8_c s) (cbor_misshapen_j8 s) := fun s => match s with
  | ((), (a1, a2, a3)) => by
    unfold cbor_misshapen_j8_c cbor_misshapen_j8
    exact
    (Le.refl _)
theorem cbor_misshapen_j9_le : ∀ s, Le (cbor_misshapen_j9_c s) (cbor_misshapen_j9 s) := fun s => match s with
  | (((), a1), (a2, a3, a4)) => by
    unfold cbor_misshapen_j9_c cbor_misshapen_j9
    exact
    (Le.cond
      (Le.refl _)
      (Le.refl _))
theorem cbor_misshapen_j2_le : ∀ s, Le (cbor_misshapen_j2_c s) (cbor_misshapen_j2 s) := fun s => match s with
  | (((), a1), (a2, a3, a4)) => by
    unfold cbor_misshapen_j2_c cbor_misshapen_j2
    exact
    (Le.cond
      (Le.cond
        (Le.refl _)
        (Le.cond
          (Le.bind (cbor_misshapen_j8_le _) fun y1 =>
          (Le.refl _))
          (Le.cond
            (Le.bind (cbor_misshapen_j8_le _) fun y2 =>
            (Le.refl _))
            (Le.cond
              (Le.bind (cbor_misshapen_j8_le _) fun y3 =>
              (Le.refl _))
              (Le.bind (cbor_misshapen_j9_le _) fun y4 =>
              (match y4 with
              | (.inl y5) =>
                (Le.refl _)
              | (.inr y6) =>
                (Le.refl _)))))))
      (Le.cond
        (Le.bind (cbor_misshapen_j8_le _) fun y7 =>
        (Le.refl _))
        (Le.cond
          (Le.bind (cbor_misshapen_j8_le _) fun y8 =>
          (Le.refl _))
          (Le.cond
            (Le.bind (cbor_misshapen_j8_le _) fun y9 =>
            (Le.refl _))
            (Le.bind (cbor_misshapen_j9_le _) fun y10 =>
            (match y10 with
            | (.inl y11) =>
              (Le.refl _)
            | (.inr y12) =>
              (Le.refl _)))))))
theorem cbor_misshapen_le (a1 : Int) (a2 : Int) (a3 : ByteArray) : Le (cbor_misshapen_c a1 a2 a3) (cbor_misshapen a1 a2 a3) := by
  unfold cbor_misshapen_c cbor_misshapen
  exact
    (Le.cond
      (Le.bind (cbor_misshapen_j2_le _) fun y1 =>
      (Le.refl _))
      (Le.bind (cbor_misshapen_j2_le _) fun y2 =>
      (Le.refl _)))

/-! cbor_tooLarge_c: passkey/cbor.tooLarge -/
noncomputable def cbor_tooLarge_j5_c : ((Unit × Int) × (Int × Int × ByteArray)) → Option (Bool ⊕ Unit) := fun s => match s with
  | (((), a1), (a2, a3, a4)) =>
    cond (a1 == 5) (
      some (.inl (decide (a3 > 512)))) (
      cond (a1 == 6) (
        some (.inl (decide (a3 > 512)))) (
        some (.inr ())))
noncomputable def cbor_tooLarge_c (a1 : Int) (a2 : Int) (a3 : ByteArray) : Option Bool :=
  cond (a1 == 3) (
    some (decide ((((a3.size) : Nat) : Int) > 1024))) (
    cond (a1 == 4) (
      some (decide ((((a3.size) : Nat) : Int) > 1024))) (
      Option.bind (cbor_tooLarge_j5_c (((), a1), (a1, a2, a3))) fun y1 =>
      match y1 with
      | (.inl y2) =>
        some y2
      | (.inr y3) =>
        some false))

theorem cbor_tooLarge_j5_le : ∀ s, Le (cbor_tooLarge_j5_c s) (cbor_tooLarge_j5 s) := fun s => match s with
  | (((), a1), (a2, a3, a4)) => by
    unfold cbor_tooLarge_j5_c cbor_tooLarge_j5
    exact
    (Le.cond
      (Le.refl _)
      (Le.cond
        (Le.refl _)
        (Le.refl _)))
theorem cbor_tooLarge_le (a1 : Int) (a2 : Int) (a3 : ByteArray) : Le (cbor_tooLarge_c a1 a2 a3) (cbor_tooLarge a1 a2 a3) := by
  unfold cbor_tooLarge_c cbor_tooLarge
  exact
    (Le.cond
      (Le.refl _)
      (Le.cond
        (Le.refl _)
        (Le.bind (cbor_tooLarge_j5_le _) fun y1 =>
        (match y1 with
        | (.inl y2) =>
          (Le.refl _)
        | (.inr y3) =>
          (Le.refl _)))))

/-! cbor_head_c: passkey/cbor.head -/
noncomputable def cbor_head_c (a1 : Int) (a2 : Int) : Option (Unit × List Int) :=
  cond (decide (a2 < 24)) (
    Option.bind (some ((IntKind.u8.wrap ((IntKind.u8.wrap (a1 * 32)) + (IntKind.u8.wrap a2))) : Int)) fun y1 =>
    some ((), [y1])) (
    cond (decide (a2 < 256)) (
      Option.bind (some ((IntKind.u8.wrap ((IntKind.u8.wrap (a1 * 32)) + 24)) : Int)) fun y2 =>
      some ((), [y2, (IntKind.u8.wrap a2)])) (
      cond (decide (a2 < 65536)) (
        Option.bind (some ((IntKind.u8.wrap ((IntKind.u8.wrap (a1 * 32)) + 25)) : Int)) fun y3 =>
        some ((), [y3, (IntKind.u8.wrap (shrI .u64 a2 8)), (IntKind.u8.wrap a2)])) (
        cond (decide (a2 < 4294967296)) (
          Option.bind (some ((IntKind.u8.wrap ((IntKind.u8.wrap (a1 * 32)) + 26)) : Int)) fun y4 =>
          some ((), [y4, (IntKind.u8.wrap (shrI .u64 a2 24)), (IntKind.u8.wrap (shrI .u64 a2 16)), (IntKind.u8.wrap (shrI .u64 a2 8)), (IntKind.u8.wrap a2)])) (
          Option.bind (some ((IntKind.u8.wrap ((IntKind.u8.wrap (a1 * 32)) + 27)) : Int)) fun y5 =>
          some ((), [y5, (IntKind.u8.wrap (shrI .u64 a2 56)), (IntKind.u8.wrap (shrI .u64 a2 48)), (IntKind.u8.wrap (shrI .u64 a2 40)), (IntKind.u8.wrap (shrI .u64 a2 32)), (IntKind.u8.wrap (shrI .u64 a2 24)), (IntKind.u8.wrap (shrI .u64 a2 16)), (IntKind.u8.wrap (shrI .u64 a2 8)), (IntKind.u8.wrap a2)])))))

theorem cbor_head_le (a1 : Int) (a2 : Int) : Le (cbor_head_c a1 a2) (cbor_head a1 a2) := by
  unfold cbor_head_c cbor_head
  exact
    (Le.cond
      (Le.bind (Le.refl _) fun y1 =>
      (Le.refl _))
      (Le.cond
        (Le.bind (Le.refl _) fun y2 =>
        (Le.refl _))
        (Le.cond
          (Le.bind (Le.refl _) fun y3 =>
          (Le.refl _))
          (Le.cond
            (Le.bind (Le.refl _) fun y4 =>
            (Le.refl _))
            (Le.bind (Le.refl _) fun y5 =>
            (Le.refl _))))))

/-! cbor_encode_c: passkey/cbor.encode -/
noncomputable def cbor_encode_j8_c : (Unit × (Int × Int × ByteArray)) → Option (Unit × ((Int × Int × ByteArray) × List Int)) := fun s => match s with
  | ((), (a1, a2, a3)) =>
    Option.bind (some ((IntKind.u8.wrap (IntKind.i64.wrap (a1 - 1))) : Int)) fun y1 =>
    Option.bind (some ((IntKind.u64.wrap (((a3.size) : Nat) : Int)) : Int)) fun y2 =>
    Option.bind (cbor_head_c y1 y2) fun y3 =>
    cond (decide (((y3.2 ++ (bytesOf a3)).length) * 1 ≤ 140737488355328)) (
      some ((), ((a1, a2, a3), (y3.2 ++ (bytesOf a3))))) none
noncomputable def cbor_encode_c (a1 : Int) (a2 : Int) (a3 : ByteArray) : Option (Unit × List Int) :=
  cond (a1 == 7) (
    Option.bind (some ((IntKind.u8.wrap (244 + (IntKind.u8.wrap a2))) : Int)) fun y1 =>
    some ((), [y1])) (
    cond (a1 == 8) (
      some ((), [246])) (
      cond (a1 == 3) (
        Option.bind (cbor_encode_j8_c ((), (a1, a2, a3))) fun y2 =>
        some ((), y2.2.2)) (
        cond (a1 == 4) (
          Option.bind (cbor_encode_j8_c ((), (a1, a2, a3))) fun y3 =>
          some ((), y3.2.2)) (
          Option.bind (some ((IntKind.u8.wrap (IntKind.i64.wrap (a1 - 1))) : Int)) fun y4 =>
          Option.bind (cbor_head_c y4 a2) fun y5 =>
          some ((), y5.2)))))

theorem cbor_encode_j8_le : ∀ s, Le (cbor_encode_j8_c s) (cbor_encode_j8 s) := fun s => match s with
  | ((), (a1, a2, a3)) => by
    unfold cbor_encode_j8_c cbor_encode_j8
    exact
    (Le.bind (Le.refl _) fun y1 =>
    (Le.bind (Le.refl _) fun y2 =>
    (Le.bind (cbor_head_le _ _) fun y3 =>
    (Le.cond
      (Le.refl _) (Le.refl _)))))
theorem cbor_encode_le (a1 : Int) (a2 : Int) (a3 : ByteArray) : Le (cbor_encode_c a1 a2 a3) (cbor_encode a1 a2 a3) := by
  unfold cbor_encode_c cbor_encode
  exact
    (Le.cond
      (Le.bind (Le.refl _) fun y1 =>
      (Le.refl _))
      (Le.cond
        (Le.refl _)
        (Le.cond
          (Le.bind (cbor_encode_j8_le _) fun y2 =>
          (Le.refl _))
          (Le.cond
            (Le.bind (cbor_encode_j8_le _) fun y3 =>
            (Le.refl _))
            (Le.bind (Le.refl _) fun y4 =>
            (Le.bind (cbor_head_le _ _) fun y5 =>
            (Le.refl _)))))))

/-! cbor_walk_content_99f_c: (*passkey/cbor.walk).content -/
noncomputable def cbor_walk_content_99f_l18_c : (Unit × ((Unit × Int × Bool) × Unit × List PD)) → Option ((Unit × ((Unit × Int × Bool) × Unit × List PD)) ⊕ (Unit × ((Unit × Int × Bool) × Unit × List PD))) := fun s => match s with
  | ((), (((), a1, a2), (), a3)) =>
    cond (decide ((((a3.length) : Nat) : Int) > 0)) (
      Option.bind (some ((IntKind.i64.wrap ((((a3.length) : Nat) : Int) - 1)) : Int)) fun y1 =>
      cond (inRange y1 (a3.length)) (
        Option.bind (a3[(Int.toNat y1)]?) fun y2 =>
        Option.bind (PD.intAt .i64 y2 1) fun y3 =>
        cond (y3 == 0) (
          Option.bind (some ((IntKind.i64.wrap ((((a3.length) : Nat) : Int) - 1)) : Int)) fun y4 =>
          cond (okBounds 0 y4 (a3.length)) (
            some (.inl ((), (((), a1, a2), (), (cut a3 0 y4))))) none) (
          some (.inr ((), (((), a1, a2), (), a3))))) none) (
      some (.inr ((), (((), a1, a2), (), a3))))
noncomputable def cbor_walk_content_99f_j18_c : (Unit × ((Unit × Int × Bool) × Unit × List PD)) → Option (Int × ((Unit × Int × Bool) × Unit × List PD)) := fun s => match s with
  | ((), (((), a1, a2), (), a3)) =>
    Option.bind (loopN fuel cbor_walk_content_99f_l18_c ((), (((), a1, a2), (), a3))) fun y1 =>
    some (0, (((), y1.2.1.2.1, ((((y1.2.2.2.length) : Nat) : Int) == 0)), (), y1.2.2.2))
noncomputable def cbor_walk_content_99f_j13_c : ((Unit × Unit) × ((Unit × Int × Bool) × List PD × (Int × Int × ByteArray))) → Option (Int × ((Unit × Int × Bool) × Unit × List PD)) := fun s => match s with
  | (((), ()), (((), a1, a2), a3, (a4, a5, a6))) =>
    cond (a4 == 5) (
      cond (decide (((a3 ++ [(PD.agg [(.bool false), (.int .i64 (IntKind.i64.wrap a5)), (.str (bs []))])]).length) * 32 ≤ 140737488355328)) (
        Option.bind (some ((a3 ++ [(PD.agg [(.bool false), (.int .i64 (IntKind.i64.wrap a5)), (.str (bs []))])]) : List PD)) fun y1 =>
        Option.bind (cbor_walk_content_99f_j18_c ((), (((), a1, a2), (), y1))) fun y2 =>
        some (y2.1, (((), y2.2.1.2.1, y2.2.1.2.2), (), y2.2.2.2))) none) (
      cond (a4 == 6) (
        Option.bind (some ((IntKind.i64.wrap (2 * (IntKind.i64.wrap a5))) : Int)) fun y3 =>
        cond (decide (((a3 ++ [(PD.agg [(.bool true), (.int .i64 y3), (.str (bs []))])]).length) * 32 ≤ 140737488355328)) (
          Option.bind (some ((a3 ++ [(PD.agg [(.bool true), (.int .i64 y3), (.str (bs []))])]) : List PD)) fun y4 =>
          Option.bind (cbor_walk_content_99f_j18_c ((), (((), a1, a2), (), y4))) fun y5 =>
          some (y5.1, (((), y5.2.1.2.1, y5.2.1.2.2), (), y5.2.2.2))) none) (
        Option.bind (cbor_walk_content_99f_j18_c ((), (((), a1, a2), (), a3))) fun y6 =>
        some (y6.1, (((), y6.2.1.2.1, y6.2.1.2.2), (), y6.2.2.2))))
noncomputable def cbor_walk_content_99f_j9_c : ((Unit × Unit) × ((Unit × Int × Bool) × List PD × (Int × Int × ByteArray))) → Option (Int × ((Unit × Int × Bool) × Unit × List PD)) := fun s => match s with
  | (((), ()), (((), a1, a2), a3, (a4, a5, a6))) =>
    cond (decide ((((a3.length) : Nat) : Int) > 0)) (
      Option.bind (some ((IntKind.i64.wrap ((((a3.length) : Nat) : Int) - 1)) : Int)) fun y1 =>
      cond (inRange y1 (a3.length)) (
        Option.bind (a3[(Int.toNat y1)]?) fun y2 =>
        Option.bind (PD.intAt .i64 y2 1) fun y3 =>
        cond (inRange y1 (a3.length)) (
          Option.bind (a3[(Int.toNat y1)]?) fun y4 =>
          Option.bind (PD.boolAt y4 0) fun y5 =>
          Option.bind (PD.intAt .i64 y4 1) fun y6 =>
          Option.bind (PD.strAt y4 2) fun y7 =>
          Option.bind (some ((a3.set (Int.toNat y1) (.agg [(.bool y5), (.int .i64 (IntKind.i64.wrap (y3 - 1))), (.str y7)])) : List PD)) fun y8 =>
          Option.bind (cbor_walk_content_99f_j13_c (((), ()), (((), (IntKind.i64.wrap (a1 + 1)), a2), y8, (a4, a5, a6)))) fun y9 =>
          some (y9.1, (((), y9.2.1.2.1, y9.2.1.2.2), (), y9.2.2.2))) none) none) (
      Option.bind (cbor_walk_content_99f_j13_c (((), ()), (((), (IntKind.i64.wrap (a1 + 1)), a2), a3, (a4, a5, a6)))) fun y10 =>
      some (y10.1, (((), y10.2.1.2.1, y10.2.1.2.2), (), y10.2.2.2)))
noncomputable def cbor_walk_content_99f_c (a1 : Int) (a2 : Int) (a3 : ByteArray) (a4 : Int) (a5 : Bool) (a6 : List PD) : Option (Int × ((Unit × Int × Bool) × Unit × List PD)) :=
  cond (a1 == 4) (
    Option.bind (utf8_ValidString a3) fun y1 =>
    cond (!y1) (
      some (6, (((), a4, a5), (), a6))) (
      Option.bind (cbor_walk_isKey_c6d_c a4 a5 a6) fun y2 =>
      cond y2.1 (
        Option.bind (some ((IntKind.i64.wrap ((((y2.2.2.length) : Nat) : Int) - 1)) : Int)) fun y3 =>
        cond (inRange y3 (y2.2.2.length)) (
          Option.bind (cbor_encode_c a1 a2 a3) fun y4 =>
          Option.bind (y2.2.2[(Int.toNat y3)]?) fun y5 =>
          Option.bind (PD.strAt y5 2) fun y6 =>
          cond (!(strEq y6 (bs []))) (
            Option.bind (y2.2.2[(Int.toNat y3)]?) fun y7 =>
            Option.bind (PD.strAt y7 2) fun y8 =>
            cond (decide (((((strOf y4.2).size) : Nat) : Int) < (((y8.size) : Nat) : Int))) (
              some (7, (((), y2.2.1.2.1, y2.2.1.2.2), (), y2.2.2))) (
              Option.bind (y2.2.2[(Int.toNat y3)]?) fun y9 =>
              Option.bind (PD.strAt y9 2) fun y10 =>
              cond (((((strOf y4.2).size) : Nat) : Int) == (((y10.size) : Nat) : Int)) (
                Option.bind (y2.2.2[(Int.toNat y3)]?) fun y11 =>
                Option.bind (PD.strAt y11 2) fun y12 =>
                cond ((strLt (strOf y4.2) y12) || (strEq (strOf y4.2) y12)) (
                  some (7, (((), y2.2.1.2.1, y2.2.1.2.2), (), y2.2.2))) (
                  Option.bind (y2.2.2[(Int.toNat y3)]?) fun y13 =>
                  Option.bind (PD.boolAt y13 0) fun y14 =>
                  Option.bind (PD.intAt .i64 y13 1) fun y15 =>
                  Option.bind (PD.strAt y13 2) fun y16 =>
                  Option.bind (some ((y2.2.2.set (Int.toNat y3) (.agg [(.bool y14), (.int .i64 y15), (.str (strOf y4.2))])) : List PD)) fun y17 =>
                  Option.bind (cbor_walk_content_99f_j9_c (((), ()), (((), y2.2.1.2.1, y2.2.1.2.2), y17, (a1, a2, a3)))) fun y18 =>
                  some (y18.1, (((), y18.2.1.2.1, y18.2.1.2.2), (), y18.2.2.2)))) (
                Option.bind (y2.2.2[(Int.toNat y3)]?) fun y19 =>
                Option.bind (PD.boolAt y19 0) fun y20 =>
                Option.bind (PD.intAt .i64 y19 1) fun y21 =>
                Option.bind (PD.strAt y19 2) fun y22 =>
                Option.bind (some ((y2.2.2.set (Int.toNat y3) (.agg [(.bool y20), (.int .i64 y21), (.str (strOf y4.2))])) : List PD)) fun y23 =>
                Option.bind (cbor_walk_content_99f_j9_c (((), ()), (((), y2.2.1.2.1, y2.2.1.2.2), y23, (a1, a2, a3)))) fun y24 =>
                some (y24.1, (((), y24.2.1.2.1, y24.2.1.2.2), (), y24.2.2.2))))) (
            Option.bind (y2.2.2[(Int.toNat y3)]?) fun y25 =>
            Option.bind (PD.boolAt y25 0) fun y26 =>
            Option.bind (PD.intAt .i64 y25 1) fun y27 =>
            Option.bind (PD.strAt y25 2) fun y28 =>
            Option.bind (some ((y2.2.2.set (Int.toNat y3) (.agg [(.bool y26), (.int .i64 y27), (.str (strOf y4.2))])) : List PD)) fun y29 =>
            Option.bind (cbor_walk_content_99f_j9_c (((), ()), (((), y2.2.1.2.1, y2.2.1.2.2), y29, (a1, a2, a3)))) fun y30 =>
            some (y30.1, (((), y30.2.1.2.1, y30.2.1.2.2), (), y30.2.2.2)))) none) (
        Option.bind (cbor_walk_content_99f_j9_c (((), ()), (((), y2.2.1.2.1, y2.2.1.2.2), y2.2.2, (a1, a2, a3)))) fun y31 =>
        some (y31.1, (((), y31.2.1.2.1, y31.2.1.2.2), (), y31.2.2.2))))) (
    Option.bind (cbor_walk_isKey_c6d_c a4 a5 a6) fun y32 =>
    cond y32.1 (
      Option.bind (some ((IntKind.i64.wrap ((((y32.2.2.length) : Nat) : Int) - 1)) : Int)) fun y33 =>
      cond (inRange y33 (y32.2.2.length)) (
        Option.bind (cbor_encode_c a1 a2 a3) fun y34 =>
        Option.bind (y32.2.2[(Int.toNat y33)]?) fun y35 =>
        Option.bind (PD.strAt y35 2) fun y36 =>
        cond (!(strEq y36 (bs []))) (
          Option.bind (y32.2.2[(Int.toNat y33)]?) fun y37 =>
          Option.bind (PD.strAt y37 2) fun y38 =>
          cond (decide (((((strOf y34.2).size) : Nat) : Int) < (((y38.size) : Nat) : Int))) (
            some (7, (((), y32.2.1.2.1, y32.2.1.2.2), (), y32.2.2))) (
            Option.bind (y32.2.2[(Int.toNat y33)]?) fun y39 =>
            Option.bind (PD.strAt y39 2) fun y40 =>
            cond (((((strOf y34.2).size) : Nat) : Int) == (((y40.size) : Nat) : Int)) (
              Option.bind (y32.2.2[(Int.toNat y33)]?) fun y41 =>
              Option.bind (PD.strAt y41 2) fun y42 =>
              cond ((strLt (strOf y34.2) y42) || (strEq (strOf y34.2) y42)) (
                some (7, (((), y32.2.1.2.1, y32.2.1.2.2), (), y32.2.2))) (
                Option.bind (y32.2.2[(Int.toNat y33)]?) fun y43 =>
                Option.bind (PD.boolAt y43 0) fun y44 =>
                Option.bind (PD.intAt .i64 y43 1) fun y45 =>
                Option.bind (PD.strAt y43 2) fun y46 =>
                Option.bind (some ((y32.2.2.set (Int.toNat y33) (.agg [(.bool y44), (.int .i64 y45), (.str (strOf y34.2))])) : List PD)) fun y47 =>
                Option.bind (cbor_walk_content_99f_j9_c (((), ()), (((), y32.2.1.2.1, y32.2.1.2.2), y47, (a1, a2, a3)))) fun y48 =>
                some (y48.1, (((), y48.2.1.2.1, y48.2.1.2.2), (), y48.2.2.2)))) (
              Option.bind (y32.2.2[(Int.toNat y33)]?) fun y49 =>
              Option.bind (PD.boolAt y49 0) fun y50 =>
              Option.bind (PD.intAt .i64 y49 1) fun y51 =>
              Option.bind (PD.strAt y49 2) fun y52 =>
              Option.bind (some ((y32.2.2.set (Int.toNat y33) (.agg [(.bool y50), (.int .i64 y51), (.str (strOf y34.2))])) : List PD)) fun y53 =>
              Option.bind (cbor_walk_content_99f_j9_c (((), ()), (((), y32.2.1.2.1, y32.2.1.2.2), y53, (a1, a2, a3)))) fun y54 =>
              some (y54.1, (((), y54.2.1.2.1, y54.2.1.2.2), (), y54.2.2.2))))) (
          Option.bind (y32.2.2[(Int.toNat y33)]?) fun y55 =>
          Option.bind (PD.boolAt y55 0) fun y56 =>
          Option.bind (PD.intAt .i64 y55 1) fun y57 =>
          Option.bind (PD.strAt y55 2) fun y58 =>
          Option.bind (some ((y32.2.2.set (Int.toNat y33) (.agg [(.bool y56), (.int .i64 y57), (.str (strOf y34.2))])) : List PD)) fun y59 =>
          Option.bind (cbor_walk_content_99f_j9_c (((), ()), (((), y32.2.1.2.1, y32.2.1.2.2), y59, (a1, a2, a3)))) fun y60 =>
          some (y60.1, (((), y60.2.1.2.1, y60.2.1.2.2), (), y60.2.2.2)))) none) (
      Option.bind (cbor_walk_content_99f_j9_c (((), ()), (((), y32.2.1.2.1, y32.2.1.2.2), y32.2.2, (a1, a2, a3)))) fun y61 =>
      some (y61.1, (((), y61.2.1.2.1, y61.2.1.2.2), (), y61.2.2.2))))

theorem cbor_walk_content_99f_l18_le : ∀ s, Le (cbor_walk_content_99f_l18_c s) (cbor_walk_content_99f_l18 s) := fun s => match s with
  | ((), (((), a1, a2), (), a3)) => by
    unfold cbor_walk_content_99f_l18_c cbor_walk_content_99f_l18
    exact
    (Le.cond
      (Le.bind (Le.refl _) fun y1 =>
      (Le.cond
        (Le.bind (Le.refl _) fun y2 =>
        (Le.bind (Le.refl _) fun y3 =>
        (Le.cond
          (Le.bind (Le.refl _) fun y4 =>
          (Le.cond
            (Le.refl _) (Le.refl _)))
          (Le.refl _)))) (Le.refl _)))
      (Le.refl _))
theorem cbor_walk_content_99f_j18_le : ∀ s, Le (cbor_walk_content_99f_j18_c s) (cbor_walk_content_99f_j18 s) := fun s => match s with
  | ((), (((), a1, a2), (), a3)) => by
    unfold cbor_walk_content_99f_j18_c cbor_walk_content_99f_j18
    exact
    (Le.bind (Le.loop cbor_walk_content_99f_l18_le _ _) fun y1 =>
    (Le.refl _))
theorem cbor_walk_content_99f_j13_le : ∀ s, Le (cbor_walk_content_99f_j13_c s) (cbor_walk_content_99f_j13 s) := fun s => match s with
  | (((), ()), (((), a1, a2), a3, (a4, a5, a6))) => by
    unfold cbor_walk_content_99f_j13_c cbor_walk_content_99f_j13
    exact
    (Le.cond
      (Le.cond
        (Le.bind (Le.refl _) fun y1 =>
        (Le.bind (cbor_walk_content_99f_j18_le _) fun y2 =>
        (Le.refl _))) (Le.refl _))
      (Le.cond
        (Le.bind (Le.refl _) fun y3 =>
        (Le.cond
          (Le.bind (Le.refl _) fun y4 =>
          (Le.bind (cbor_walk_content_99f_j18_le _) fun y5 =>
          (Le.refl _))) (Le.refl _)))
        (Le.bind (cbor_walk_content_99f_j18_le _) fun y6 =>
        (Le.refl _))))
theorem cbor_walk_content_99f_j9_le : ∀ s, Le (cbor_walk_content_99f_j9_c s) (cbor_walk_content_99f_j9 s) := fun s => match s with
  | (((), ()), (((), a1, a2), a3, (a4, a5, a6))) => by
    unfold cbor_walk_content_99f_j9_c cbor_walk_content_99f_j9
    exact
    (Le.cond
      (Le.bind (Le.refl _) fun y1 =>
      (Le.cond
        (Le.bind (Le.refl _) fun y2 =>
        (Le.bind (Le.refl _) fun y3 =>
        (Le.cond
          (Le.bind (Le.refl _) fun y4 =>
          (Le.bind (Le.refl _) fun y5 =>
          (Le.bind (Le.refl _) fun y6 =>
          (Le.bind (Le.refl _) fun y7 =>
          (Le.bind (Le.refl _) fun y8 =>
          (Le.bind (cbor_walk_content_99f_j13_le _) fun y9 =>
          (Le.refl _))))))) (Le.refl _)))) (Le.refl _)))
      (Le.bind (cbor_walk_content_99f_j13_le _) fun y10 =>
      (Le.refl _)))
theorem cbor_walk_content_99f_le (a1 : Int) (a2 : Int) (a3 : ByteArray) (a4 : Int) (a5 : Bool) (a6 : List PD) : Le (cbor_walk_content_99f_c a1 a2 a3 a4 a5 a6) (cbor_walk_content_99f a1 a2 a3 a4 a5 a6) := by
  unfold cbor_walk_content_99f_c cbor_walk_content_99f
  exact
    (Le.cond
      (Le.bind (Le.refl _) fun y1 =>
      (Le.cond
        (Le.refl _)
        (Le.bind (cbor_walk_isKey_c6d_le _ _ _) fun y2 =>
        (Le.cond
          (Le.bind (Le.refl _) fun y3 =>
          (Le.cond
            (Le.bind (cbor_encode_le _ _ _) fun y4 =>
            (Le.bind (Le.refl _) fun y5 =>
            (Le.bind (Le.refl _) fun y6 =>
            (Le.cond
              (Le.bind (Le.refl _) fun y7 =>
              (Le.bind (Le.refl _) fun y8 =>
              (Le.cond
                (Le.refl _)
                (Le.bind (Le.refl _) fun y9 =>
                (Le.bind (Le.refl _) fun y10 =>
                (Le.cond
                  (Le.bind (Le.refl _) fun y11 =>
                  (Le.bind (Le.refl _) fun y12 =>
                  (Le.cond
                    (Le.refl _)
                    (Le.bind (Le.refl _) fun y13 =>
                    (Le.bind (Le.refl _) fun y14 =>
                    (Le.bind (Le.refl _) fun y15 =>
                    (Le.bind (Le.refl _) fun y16 =>
                    (Le.bind (Le.refl _) fun y17 =>
                    (Le.bind (cbor_walk_content_99f_j9_le _) fun y18 =>
                    (Le.refl _))))))))))
                  (Le.bind (Le.refl _) fun y19 =>
                  (Le.bind (Le.refl _) fun y20 =>
                  (Le.bind (Le.refl _) fun y21 =>
                  (Le.bind (Le.refl _) fun y22 =>
                  (Le.bind (Le.refl _) fun y23 =>
                  (Le.bind (cbor_walk_content_99f_j9_le _) fun y24 =>
                  (Le.refl _)))))))))))))
              (Le.bind (Le.refl _) fun y25 =>
              (Le.bind (Le.refl _) fun y26 =>
              (Le.bind (Le.refl _) fun y27 =>
              (Le.bind (Le.refl _) fun y28 =>
              (Le.bind (Le.refl _) fun y29 =>
              (Le.bind (cbor_walk_content_99f_j9_le _) fun y30 =>
              (Le.refl _))))))))))) (Le.refl _)))
          (Le.bind (cbor_walk_content_99f_j9_le _) fun y31 =>
          (Le.refl _))))))
      (Le.bind (cbor_walk_isKey_c6d_le _ _ _) fun y32 =>
      (Le.cond
        (Le.bind (Le.refl _) fun y33 =>
        (Le.cond
          (Le.bind (cbor_encode_le _ _ _) fun y34 =>
          (Le.bind (Le.refl _) fun y35 =>
          (Le.bind (Le.refl _) fun y36 =>
          (Le.cond
            (Le.bind (Le.refl _) fun y37 =>
            (Le.bind (Le.refl _) fun y38 =>
            (Le.cond
              (Le.refl _)
              (Le.bind (Le.refl _) fun y39 =>
              (Le.bind (Le.refl _) fun y40 =>
              (Le.cond
                (Le.bind (Le.refl _) fun y41 =>
                (Le.bind (Le.refl _) fun y42 =>
                (Le.cond
                  (Le.refl _)
                  (Le.bind (Le.refl _) fun y43 =>
                  (Le.bind (Le.refl _) fun y44 =>
                  (Le.bind (Le.refl _) fun y45 =>
                  (Le.bind (Le.refl _) fun y46 =>
                  (Le.bind (Le.refl _) fun y47 =>
                  (Le.bind (cbor_walk_content_99f_j9_le _) fun y48 =>
                  (Le.refl _))))))))))
                (Le.bind (Le.refl _) fun y49 =>
                (Le.bind (Le.refl _) fun y50 =>
                (Le.bind (Le.refl _) fun y51 =>
                (Le.bind (Le.refl _) fun y52 =>
                (Le.bind (Le.refl _) fun y53 =>
                (Le.bind (cbor_walk_content_99f_j9_le _) fun y54 =>
                (Le.refl _)))))))))))))
            (Le.bind (Le.refl _) fun y55 =>
            (Le.bind (Le.refl _) fun y56 =>
            (Le.bind (Le.refl _) fun y57 =>
            (Le.bind (Le.refl _) fun y58 =>
            (Le.bind (Le.refl _) fun y59 =>
            (Le.bind (cbor_walk_content_99f_j9_le _) fun y60 =>
            (Le.refl _))))))))))) (Le.refl _)))
        (Le.bind (cbor_walk_content_99f_j9_le _) fun y61 =>
        (Le.refl _)))))

/-! cbor_Validate_c: passkey/cbor.Validate -/
noncomputable def cbor_Validate_l3_c : ((Unit × List PD × Int × Int) × ((Unit × Int × Bool) × List PD)) → Option (((Unit × List PD × Int × Int) × ((Unit × Int × Bool) × List PD)) ⊕ ((Int × ((Unit × Int × Bool) × List PD)) ⊕ (Unit × ((Unit × Int × Bool) × List PD)))) := fun s => match s with
  | (((), a1, a2, a3), (((), a4, a5), a6)) =>
    cond (decide (a3 < a2)) (
      Option.bind (getI a1 a3) fun y1 =>
      Option.bind (PD.intAt .i64 y1 0) fun y2 =>
      Option.bind (PD.intAt .u64 y1 1) fun y3 =>
      Option.bind (PD.strAt y1 2) fun y4 =>
      cond a5 (
        some (.inr (.inl (2, (((), a4, a5), a6))))) (
        Option.bind (cbor_walk_enter_4d8_c y2 a4 a5 a6) fun y5 =>
        cond (y5.1 != 0) (
          some (.inr (.inl (y5.1, (((), y5.2.1.2.1, y5.2.1.2.2), y5.2.2))))) (
          Option.bind (cbor_misshapen_c y2 y3 y4) fun y6 =>
          cond y6 (
            some (.inr (.inl (4, (((), y5.2.1.2.1, y5.2.1.2.2), y5.2.2))))) (
            Option.bind (cbor_tooLarge_c y2 y3 y4) fun y7 =>
            cond y7 (
              some (.inr (.inl (8, (((), y5.2.1.2.1, y5.2.1.2.2), y5.2.2))))) (
              Option.bind (cbor_walk_content_99f_c y2 y3 y4 y5.2.1.2.1 y5.2.1.2.2 y5.2.2) fun y8 =>
              cond (y8.1 != 0) (
                some (.inr (.inl (y8.1, (((), y8.2.1.2.1, y8.2.1.2.2), y8.2.2.2))))) (
                some (.inl (((), a1, a2, (IntKind.i64.wrap (a3 + 1))), (((), y8.2.1.2.1, y8.2.1.2.2), y8.2.2.2))))))))) (
      some (.inr (.inr ((), (((), a4, a5), a6)))))
noncomputable def cbor_Validate_c (a1 : List PD) : Option Int :=
  Option.bind (loopN fuel cbor_Validate_l3_c (((), a1, (((a1.length) : Nat) : Int), 0), (((), 0, false), []))) fun y1 =>
  match y1 with
  | (.inl y2) =>
    some y2.1
  | (.inr y3) =>
    cond (!y3.2.1.2.2) (
      some 1) (
      some 0)

theorem cbor_Validate_l3_le : ∀ s, Le (cbor_Validate_l3_c s) (cbor_Validate_l3 s) := fun s => match s with
  | (((), a1, a2, a3), (((), a4, a5), a6)) => by
    unfold cbor_Validate_l3_c cbor_Validate_l3
    exact
    (Le.cond
      (Le.bind (Le.refl _) fun y1 =>
      (Le.bind (Le.refl _) fun y2 =>
      (Le.bind (Le.refl _) fun y3 =>
      (Le.bind (Le.refl _) fun y4 =>
      (Le.cond
        (Le.refl _)
        (Le.bind (cbor_walk_enter_4d8_le _ _ _ _) fun y5 =>
        (Le.cond
          (Le.refl _)
          (Le.bind (cbor_misshapen_le _ _ _) fun y6 =>
          (Le.cond
            (Le.refl _)
            (Le.bind (cbor_tooLarge_le _ _ _) fun y7 =>
            (Le.cond
              (Le.refl _)
              (Le.bind (cbor_walk_content_99f_le _ _ _ _ _ _) fun y8 =>
              (Le.cond
                (Le.refl _)
                (Le.refl _))))))))))))))
      (Le.refl _))
theorem cbor_Validate_le (a1 : List PD) : Le (cbor_Validate_c a1) (cbor_Validate a1) := by
  unfold cbor_Validate_c cbor_Validate
  exact
    (Le.bind (Le.loop cbor_Validate_l3_le _ _) fun y1 =>
    (match y1 with
    | (.inl y2) =>
      (Le.refl _)
    | (.inr y3) =>
      (Le.cond
        (Le.refl _)
        (Le.refl _))))

/-! cbor_valid_c: passkey/cbor.valid -/
noncomputable def cbor_valid_l2_c : (List PD × Int × Int) → Option ((List PD × Int × Int) ⊕ (Int ⊕ Unit)) := fun s => match s with
  | (a1, a2, a3) =>
    cond (decide (a3 < a2)) (
      Option.bind (getI a1 a3) fun y1 =>
      Option.bind (PD.slAt 3 y1 0) fun y2 =>
      Option.bind (cbor_Validate_c y2) fun y3 =>
      cond (y3 != 0) (
        some (.inr (.inl y3))) (
        some (.inl (a1, a2, (IntKind.i64.wrap (a3 + 1)))))) (
      some (.inr (.inr ())))
noncomputable def cbor_valid_c (a1 : List PD) : Option Int :=
  Option.bind (loopN fuel cbor_valid_l2_c (a1, (((a1.length) : Nat) : Int), 0)) fun y1 =>
  match y1 with
  | (.inl y2) =>
    some y2
  | (.inr y3) =>
    some 0

theorem cbor_valid_l2_le : ∀ s, Le (cbor_valid_l2_c s) (cbor_valid_l2 s) := fun s => match s with
  | (a1, a2, a3) => by
    unfold cbor_valid_l2_c cbor_valid_l2
    exact
    (Le.cond
      (Le.bind (Le.refl _) fun y1 =>
      (Le.bind (Le.refl _) fun y2 =>
      (Le.bind (cbor_Validate_le _) fun y3 =>
      (Le.cond
        (Le.refl _)
        (Le.refl _)))))
      (Le.refl _))
theorem cbor_valid_le (a1 : List PD) : Le (cbor_valid_c a1) (cbor_valid a1) := by
  unfold cbor_valid_c cbor_valid
  exact
    (Le.bind (Le.loop cbor_valid_l2_le _ _) fun y1 =>
    (match y1 with
    | (.inl y2) =>
      (Le.refl _)
    | (.inr y3) =>
      (Le.refl _)))

/-! cbor_checked_c: passkey/cbor.checked -/
noncomputable def cbor_checked_c (a1 : List PD) : Option (List PD × Int) :=
  Option.bind (cbor_Validate_c a1) fun y1 =>
  cond (y1 != 0) (
    some ([], y1)) (
    some (a1, 0))

theorem cbor_checked_le (a1 : List PD) : Le (cbor_checked_c a1) (cbor_checked a1) := by
  unfold cbor_checked_c cbor_checked
  exact
    (Le.bind (cbor_Validate_le _) fun y1 =>
    (Le.cond
      (Le.refl _)
      (Le.refl _)))

/-! cbor_Map_c: passkey/cbor.Map -/
noncomputable def cbor_Map_l5_c : ((List PD × Unit × Unit × Int × Int) × (List Int × Unit × List Int)) → Option (((List PD × Unit × Unit × Int × Int) × (List Int × Unit × List Int)) ⊕ ((List PD × Unit × Unit) × (List Int × Unit × List Int))) := fun s => match s with
  | ((a1, (), (), a2, a3), (a4, (), a5)) =>
    cond (decide (a3 < a2)) (
      cond (inRange a3 (a5.length)) (
        cond (decide ((Int.toNat a3) < (a5.length))) (
          some (.inl ((a1, (), (), a2, (IntKind.i64.wrap (a3 + 1))), (a4, (), (a5.set (Int.toNat a3) a3))))) none) none) (
      some (.inr ((a1, (), ()), (a4, (), a5))))
noncomputable def cbor_Map_l11_c : ((List PD × Unit × Unit × Int) × (List Int × Unit × List Int)) → Option (((List PD × Unit × Unit × Int) × (List Int × Unit × List Int)) ⊕ (((List PD × Int) × (List Int × Unit × List Int)) ⊕ ((List PD × Unit × Unit) × (List Int × Unit × List Int)))) := fun s => match s with
  | ((a1, (), (), a2), (a3, (), a4)) =>
    cond (decide (a2 < (((a4.length) : Nat) : Int))) (
      cond (inRange a2 (a4.length)) (
        Option.bind (a4[(Int.toNat a2)]?) fun y1 =>
        Option.bind (getI a3 y1) fun y2 =>
        cond (inRange (IntKind.i64.wrap (a2 - 1)) (a4.length)) (
          Option.bind (a4[(Int.toNat (IntKind.i64.wrap (a2 - 1)))]?) fun y3 =>
          Option.bind (getI a3 y3) fun y4 =>
          cond (y2 == y4) (
            some (.inr (.inl (([], 10), (a3, (), a4))))) (
            some (.inl ((a1, (), (), (IntKind.i64.wrap (a2 + 1))), (a3, (), a4))))) none) none) (
      some (.inr (.inr ((a1, (), ()), (a3, (), a4)))))
noncomputable def cbor_Map_l20_c : ((List PD × Unit × Unit × Unit × Int × Int) × (List Int × List PD × List Int)) → Option (((List PD × Unit × Unit × Unit × Int × Int) × (List Int × List PD × List Int)) ⊕ (Unit × List PD)) := fun s => match s with
  | ((a1, (), (), (), a2, a3), (a4, a5, a6)) =>
    cond (decide (a3 < a2)) (
      cond (inRange a3 (a6.length)) (
        Option.bind (a6[(Int.toNat a3)]?) fun y1 =>
        Option.bind (getI a4 y1) fun y2 =>
        Option.bind (cbor_Uint_c y2) fun y3 =>
        cond (decide (((a5 ++ y3.2).length) * 32 ≤ 140737488355328)) (
          Option.bind (getI a1 y1) fun y4 =>
          Option.bind (PD.slAt 3 y4 0) fun y5 =>
          cond (decide ((((a5 ++ y3.2) ++ y5).length) * 32 ≤ 140737488355328)) (
            some (.inl ((a1, (), (), (), a2, (IntKind.i64.wrap (a3 + 1))), (a4, ((a5 ++ y3.2) ++ y5), a6)))) none) none) none) (
      some (.inr ((), a5)))
noncomputable def cbor_Map_c (a1 : List Int) (a2 : List PD) : Option (List PD × Int) :=
  cond ((((a1.length) : Nat) : Int) != (((a2.length) : Nat) : Int)) (
    some ([], 4)) (
    cond (decide (0 ≤ (((a1.length) : Nat) : Int)) && (decide ((((a1.length) : Nat) : Int) ≤ (((a1.length) : Nat) : Int)) && decide ((((a1.length) : Nat) : Int) * 8 ≤ 140737488355328))) (
      Option.bind (some ((List.replicate (Int.toNat (((a1.length) : Nat) : Int)) (0 : Int)) : List Int)) fun y1 =>
      Option.bind (loopN fuel cbor_Map_l5_c ((a2, (), (), (((y1.length) : Nat) : Int), 0), (a1, (), y1))) fun y2 =>
      Option.bind (sort_Slice y2.2.2.2 y2.2.1) fun y3 =>
      Option.bind (loopN fuel cbor_Map_l11_c ((y2.1.1, (), (), 1), (y3.2.2.1, (), y3.2.1))) fun y4 =>
      match y4 with
      | (.inl y5) =>
        some (y5.1.1, y5.1.2)
      | (.inr y6) =>
        Option.bind (cbor_valid_c y6.1.1) fun y7 =>
        cond (y7 != 0) (
          some ([], y7)) (
          Option.bind (some ((IntKind.u64.wrap (((y6.2.1.length) : Nat) : Int)) : Int)) fun y8 =>
          Option.bind (loopN fuel cbor_Map_l20_c ((y6.1.1, (), (), (), (((y6.2.2.2.length) : Nat) : Int), 0), (y6.2.1, [(PD.agg [(.int .i64 6), (.int .u64 y8), (.str (bs []))])], y6.2.2.2))) fun y9 =>
          Option.bind (cbor_checked_c y9.2) fun y10 =>
          some (y10.1, y10.2))) none)

theorem cbor_Map_l5_le : ∀ s, Le (cbor_Map_l5_c s) (cbor_Map_l5 s) := fun s => match s with
  | ((a1, (), (), a2, a3), (a4, (), a5)) => by
    unfold cbor_Map_l5_c cbor_Map_l5
    exact
    (Le.cond
      (Le.cond
        (Le.cond
          (Le.refl _) (Le.refl _)) (Le.refl _))
      (Le.refl _))
theorem cbor_Map_l11_le : ∀ s, Le (cbor_Map_l11_c s) (cbor_Map_l11 s) := fun s => match s with
  | ((a1, (), (), a2), (a3, (), a4)) => by
    unfold cbor_Map_l11_c cbor_Map_l11
    exact
    (Le.cond
      (Le.cond
        (Le.bind (Le.refl _) fun y1 =>
        (Le.bind (Le.refl _) fun y2 =>
        (Le.cond
          (Le.bind (Le.refl _) fun y3 =>
          (Le.bind (Le.refl _) fun y4 =>
          (Le.cond
            (Le.refl _)
            (Le.refl _)))) (Le.refl _)))) (Le.refl _))
      (Le.refl _))
theorem cbor_Map_l20_le : ∀ s, Le (cbor_Map_l20_c s) (cbor_Map_l20 s) := fun s => match s with
  | ((a1, (), (), (), a2, a3), (a4, a5, a6)) => by
    unfold cbor_Map_l20_c cbor_Map_l20
    exact
    (Le.cond
      (Le.cond
        (Le.bind (Le.refl _) fun y1 =>
        (Le.bind (Le.refl _) fun y2 =>
        (Le.bind (cbor_Uint_le _) fun y3 =>
        (Le.cond
          (Le.bind (Le.refl _) fun y4 =>
          (Le.bind (Le.refl _) fun y5 =>
          (Le.cond
            (Le.refl _) (Le.refl _)))) (Le.refl _))))) (Le.refl _))
      (Le.refl _))
theorem cbor_Map_le (a1 : List Int) (a2 : List PD) : Le (cbor_Map_c a1 a2) (cbor_Map a1 a2) := by
  unfold cbor_Map_c cbor_Map
  exact
    (Le.cond
      (Le.refl _)
      (Le.cond
        (Le.bind (Le.refl _) fun y1 =>
        (Le.bind (Le.loop cbor_Map_l5_le _ _) fun y2 =>
        (Le.bind (Le.refl _) fun y3 =>
        (Le.bind (Le.loop cbor_Map_l11_le _ _) fun y4 =>
        (match y4 with
        | (.inl y5) =>
          (Le.refl _)
        | (.inr y6) =>
          (Le.bind (cbor_valid_le _) fun y7 =>
          (Le.cond
            (Le.refl _)
            (Le.bind (Le.refl _) fun y8 =>
            (Le.bind (Le.loop cbor_Map_l20_le _ _) fun y9 =>
            (Le.bind (cbor_checked_le _) fun y10 =>
            (Le.refl _))))))))))) (Le.refl _)))

/-! cbor_Encode_c: passkey/cbor.Encode -/
noncomputable def cbor_Encode_l6_c : ((Unit × List PD × Int × Int) × List Int) → Option (((Unit × List PD × Int × Int) × List Int) ⊕ (Unit × List Int)) := fun s => match s with
  | (((), a1, a2, a3), a4) =>
    cond (decide (a3 < a2)) (
      Option.bind (getI a1 a3) fun y1 =>
      Option.bind (PD.intAt .i64 y1 0) fun y2 =>
      Option.bind (PD.intAt .u64 y1 1) fun y3 =>
      Option.bind (PD.strAt y1 2) fun y4 =>
      Option.bind (cbor_encode_c y2 y3 y4) fun y5 =>
      cond (decide (((a4 ++ y5.2).length) * 1 ≤ 140737488355328)) (
        some (.inl (((), a1, a2, (IntKind.i64.wrap (a3 + 1))), (a4 ++ y5.2)))) none) (
      some (.inr ((), a4)))
noncomputable def cbor_Encode_c (a1 : List PD) : Option ((Unit × Int) × List Int) :=
  Option.bind (cbor_Validate_c a1) fun y1 =>
  cond (y1 != 0) (
    some (((), y1), [])) (
    Option.bind (loopN fuel cbor_Encode_l6_c (((), a1, (((a1.length) : Nat) : Int), 0), [])) fun y2 =>
    some (((), 0), y2.2))

theorem cbor_Encode_l6_le : ∀ s, Le (cbor_Encode_l6_c s) (cbor_Encode_l6 s) := fun s => match s with
  | (((), a1, a2, a3), a4) => by
    unfold cbor_Encode_l6_c cbor_Encode_l6
    exact
    (Le.cond
      (Le.bind (Le.refl _) fun y1 =>
      (Le.bind (Le.refl _) fun y2 =>
      (Le.bind (Le.refl _) fun y3 =>
      (Le.bind (Le.refl _) fun y4 =>
      (Le.bind (cbor_encode_le _ _ _) fun y5 =>
      (Le.cond
        (Le.refl _) (Le.refl _)))))))
      (Le.refl _))
theorem cbor_Encode_le (a1 : List PD) : Le (cbor_Encode_c a1) (cbor_Encode a1) := by
  unfold cbor_Encode_c cbor_Encode
  exact
    (Le.bind (cbor_Validate_le _) fun y1 =>
    (Le.cond
      (Le.refl _)
      (Le.bind (Le.loop cbor_Encode_l6_le _ _) fun y2 =>
      (Le.refl _))))

/-! credential_Encode_c: passkey/credential.Encode -/
noncomputable def credential_Encode_c (a1 : ByteArray) (a2 : ByteArray) (a3 : ByteArray) (a4 : Int) (a5 : Int) (a6 : Bool) (a7 : Int) (a8 : Bool) (a9 : Bool) : Option ((Unit × Int) × List Int) :=
  Option.bind (credential_Validate_c a1 a2 a3 a4 a5 a6 a7 a8 a9) fun y1 =>
  cond (y1 != 0) (
    some (((), y1), [])) (
    Option.bind (cbor_Text_c a1) fun y2 =>
    cond (decide ((a2.size) ≤ 140737488355328)) (
      Option.bind (cbor_Bytes_c (bytesOf a2)) fun y3 =>
      Option.bind (cbor_Text_c a3) fun y4 =>
      Option.bind (cbor_Uint_c a4) fun y5 =>
      Option.bind (cbor_Uint_c (IntKind.u64.wrap a5)) fun y6 =>
      Option.bind (cbor_Bool_c a6) fun y7 =>
      Option.bind (cbor_Uint_c (IntKind.u64.wrap a7)) fun y8 =>
      Option.bind (cbor_Bool_c a8) fun y9 =>
      Option.bind (cbor_Bool_c a9) fun y10 =>
      Option.bind (cbor_Map_c [1, 2, 3, 4, 5, 6, 7, 8, 9] [(PD.sl 3 y2.2), (PD.sl 3 y3.2), (PD.sl 3 y4.2), (PD.sl 3 y5.2), (PD.sl 3 y6.2), (PD.sl 3 y7.2), (PD.sl 3 y8.2), (PD.sl 3 y9.2), (PD.sl 3 y10.2)]) fun y11 =>
      cond (y11.2 != 0) (
        some (((), y11.2), [])) (
        Option.bind (cbor_Encode_c y11.1) fun y12 =>
        some (((), y12.1.2), y12.2))) none)

theorem credential_Encode_le (a1 : ByteArray) (a2 : ByteArray) (a3 : ByteArray) (a4 : Int) (a5 : Int) (a6 : Bool) (a7 : Int) (a8 : Bool) (a9 : Bool) : Le (credential_Encode_c a1 a2 a3 a4 a5 a6 a7 a8 a9) (credential_Encode a1 a2 a3 a4 a5 a6 a7 a8 a9) := by
  unfold credential_Encode_c credential_Encode
  exact
    (Le.bind (credential_Validate_le _ _ _ _ _ _ _ _ _) fun y1 =>
    (Le.cond
      (Le.refl _)
      (Le.bind (cbor_Text_le _) fun y2 =>
      (Le.cond
        (Le.bind (cbor_Bytes_le _) fun y3 =>
        (Le.bind (cbor_Text_le _) fun y4 =>
        (Le.bind (cbor_Uint_le _) fun y5 =>
        (Le.bind (cbor_Uint_le _) fun y6 =>
        (Le.bind (cbor_Bool_le _) fun y7 =>
        (Le.bind (cbor_Uint_le _) fun y8 =>
        (Le.bind (cbor_Bool_le _) fun y9 =>
        (Le.bind (cbor_Bool_le _) fun y10 =>
        (Le.bind (cbor_Map_le _ _) fun y11 =>
        (Le.cond
          (Le.refl _)
          (Le.bind (cbor_Encode_le _) fun y12 =>
          (Le.refl _)))))))))))) (Le.refl _)))))

/-! digest_Words_c: passkey/digest.Words -/
noncomputable def digest_Words_l6_c : ((Unit × Int × List Int × Int × Int × Int) × List Int) → Option (((Unit × Int × List Int × Int × Int × Int) × List Int) ⊕ ((Unit × List Int × Int × Int) × List Int)) := fun s => match s with
  | (((), a1, a2, a3, a4, a5), a6) =>
    cond (decide (a5 < 8)) (
      Option.bind (some ((IntKind.i64.wrap (56 - (IntKind.i64.wrap (8 * a5)))) : Int)) fun y1 =>
      cond (decide (0 ≤ y1)) (
        cond (decide (((a6 ++ [(IntKind.u8.wrap (shrI .u64 a1 y1))]).length) * 1 ≤ 140737488355328)) (
          Option.bind (some ((a6 ++ [(IntKind.u8.wrap (shrI .u64 a1 y1))]) : List Int)) fun y2 =>
          some (.inl (((), a1, a2, a3, a4, (IntKind.i64.wrap (a5 + 1))), y2))) none) none) (
      some (.inr (((), a2, a3, a4), a6)))
noncomputable def digest_Words_l3_c : ((Unit × List Int × Int × Int) × List Int) → Option (((Unit × List Int × Int × Int) × List Int) ⊕ (Unit × List Int)) := fun s => match s with
  | (((), a1, a2, a3), a4) =>
    cond (decide (a3 < a2)) (
      Option.bind (getI a1 a3) fun y1 =>
      Option.bind (loopN fuel digest_Words_l6_c (((), y1, a1, a2, a3, 0), a4)) fun y2 =>
      some (.inl (((), y2.1.2.1, y2.1.2.2.1, (IntKind.i64.wrap (y2.1.2.2.2 + 1))), y2.2))) (
      some (.inr ((), a4)))
noncomputable def digest_Words_c (a1 : List Int) : Option (Unit × List Int) :=
  Option.bind (loopN fuel digest_Words_l3_c (((), a1, (((a1.length) : Nat) : Int), 0), [])) fun y1 =>
  some ((), y1.2)

theorem digest_Words_l6_le : ∀ s, Le (digest_Words_l6_c s) (digest_Words_l6 s) := fun s => match s with
  | (((), a1, a2, a3, a4, a5), a6) => by
    unfold digest_Words_l6_c digest_Words_l6
    exact
    (Le.cond
      (Le.bind (Le.refl _) fun y1 =>
      (Le.cond
        (Le.cond
          (Le.bind (Le.refl _) fun y2 =>
          (Le.refl _)) (Le.refl _)) (Le.refl _)))
      (Le.refl _))
theorem digest_Words_l3_le : ∀ s, Le (digest_Words_l3_c s) (digest_Words_l3 s) := fun s => match s with
  | (((), a1, a2, a3), a4) => by
    unfold digest_Words_l3_c digest_Words_l3
    exact
    (Le.cond
      (Le.bind (Le.refl _) fun y1 =>
      (Le.bind (Le.loop digest_Words_l6_le _ _) fun y2 =>
      (Le.refl _)))
      (Le.refl _))
theorem digest_Words_le (a1 : List Int) : Le (digest_Words_c a1) (digest_Words a1) := by
  unfold digest_Words_c digest_Words
  exact
    (Le.bind (Le.loop digest_Words_l3_le _ _) fun y1 =>
    (Le.refl _))

/-! digest_little_c: passkey/digest.little -/
noncomputable def digest_little_l3_c : (Int × List Int × Int × Int) → Option ((Int × List Int × Int × Int) ⊕ Int) := fun s => match s with
  | (a1, a2, a3, a4) =>
    cond (decide (a4 < a3)) (
      Option.bind (getI a2 a4) fun y1 =>
      cond (decide (0 ≤ (IntKind.i64.wrap (8 * a4)))) (
        Option.bind (some ((shlI .u64 (IntKind.u64.wrap y1) (IntKind.i64.wrap (8 * a4))) : Int)) fun y2 =>
        some (.inl ((bitsI .or .u64 a1 y2), a2, a3, (IntKind.i64.wrap (a4 + 1))))) none) (
      some (.inr a1))
noncomputable def digest_little_c (a1 : List Int) : Option Int :=
  Option.bind (loopN fuel digest_little_l3_c (0, a1, (((a1.length) : Nat) : Int), 0)) fun y1 =>
  some y1

theorem digest_little_l3_le : ∀ s, Le (digest_little_l3_c s) (digest_little_l3 s) := fun s => match s with
  | (a1, a2, a3, a4) => by
    unfold digest_little_l3_c digest_little_l3
    exact
    (Le.cond
      (Le.bind (Le.refl _) fun y1 =>
      (Le.cond
        (Le.bind (Le.refl _) fun y2 =>
        (Le.refl _)) (Le.refl _)))
      (Le.refl _))
theorem digest_little_le (a1 : List Int) : Le (digest_little_c a1) (digest_little a1) := by
  unfold digest_little_c digest_little
  exact
    (Le.bind (Le.loop digest_little_l3_le _ _) fun y1 =>
    (Le.refl _))

/-! bits_RotateLeft64_c: math/bits.RotateLeft64 -/
noncomputable def bits_RotateLeft64_c (a1 : Int) (a2 : Int) : Option Int :=
  Option.bind (some ((bitsI .and .u64 (IntKind.u64.wrap a2) 63) : Int)) fun y1 =>
  cond (decide (0 ≤ y1)) (
    cond (decide (0 ≤ (IntKind.u64.wrap (64 - y1)))) (
      Option.bind (some ((shrI .u64 a1 (IntKind.u64.wrap (64 - y1))) : Int)) fun y2 =>
      some (bitsI .or .u64 (shlI .u64 a1 y1) y2)) none) none

theorem bits_RotateLeft64_le (a1 : Int) (a2 : Int) : Le (bits_RotateLeft64_c a1 a2) (bits_RotateLeft64 a1 a2) := by
  unfold bits_RotateLeft64_c bits_RotateLeft64
  exact
    (Le.bind (Le.refl _) fun y1 =>
    (Le.cond
      (Le.cond
        (Le.bind (Le.refl _) fun y2 =>
        (Le.refl _)) (Le.refl _)) (Le.refl _)))

/-! digest_state_round_a4e_c: (*passkey/digest.state).round -/
noncomputable def digest_state_round_a4e_l1_c : ((Unit × Int × Int) × (Int × Int × Int × Int)) → Option (((Unit × Int × Int) × (Int × Int × Int × Int)) ⊕ (Unit × (Int × Int × Int × Int))) := fun s => match s with
  | (((), a1, a2), (a3, a4, a5, a6)) =>
    cond (decide (a2 < a1)) (
      Option.bind (bits_RotateLeft64_c a4 13) fun y1 =>
      Option.bind (some ((bitsI .xor .u64 y1 (IntKind.u64.wrap (a3 + a4))) : Int)) fun y2 =>
      Option.bind (bits_RotateLeft64_c (IntKind.u64.wrap (a3 + a4)) 32) fun y3 =>
      Option.bind (bits_RotateLeft64_c a6 16) fun y4 =>
      Option.bind (some ((bitsI .xor .u64 y4 (IntKind.u64.wrap (a5 + a6))) : Int)) fun y5 =>
      Option.bind (bits_RotateLeft64_c y5 21) fun y6 =>
      Option.bind (some ((bitsI .xor .u64 y6 (IntKind.u64.wrap (y3 + y5))) : Int)) fun y7 =>
      Option.bind (some ((IntKind.u64.wrap ((IntKind.u64.wrap (a5 + a6)) + y2)) : Int)) fun y8 =>
      Option.bind (bits_RotateLeft64_c y2 17) fun y9 =>
      Option.bind (bits_RotateLeft64_c y8 32) fun y10 =>
      some (.inl (((), a1, (IntKind.i64.wrap (a2 + 1))), ((IntKind.u64.wrap (y3 + y5)), (bitsI .xor .u64 y9 y8), y10, y7)))) (
      some (.inr ((), (a3, a4, a5, a6))))
noncomputable def digest_state_round_a4e_c (a1 : Int) (a2 : Int) (a3 : Int) (a4 : Int) (a5 : Int) : Option (Unit × (Int × Int × Int × Int)) :=
  Option.bind (loopN fuel digest_state_round_a4e_l1_c (((), a1, 0), (a2, a3, a4, a5))) fun y1 =>
  some ((), (y1.2.1, y1.2.2.1, y1.2.2.2.1, y1.2.2.2.2))

theorem digest_state_round_a4e_l1_le : ∀ s, Le (digest_state_round_a4e_l1_c s) (digest_state_round_a4e_l1 s) := fun s => match s with
  | (((), a1, a2), (a3, a4, a5, a6)) => by
    unfold digest_state_round_a4e_l1_c digest_state_round_a4e_l1
    exact
    (Le.cond
      (Le.bind (bits_RotateLeft64_le _ _) fun y1 =>
      (Le.bind (Le.refl _) fun y2 =>
      (Le.bind (bits_RotateLeft64_le _ _) fun y3 =>
      (Le.bind (bits_RotateLeft64_le _ _) fun y4 =>
      (Le.bind (Le.refl _) fun y5 =>
      (Le.bind (bits_RotateLeft64_le _ _) fun y6 =>
      (Le.bind (Le.refl _) fun y7 =>
      (Le.bind (Le.refl _) fun y8 =>
      (Le.bind (bits_RotateLeft64_le _ _) fun y9 =>
      (Le.bind (bits_RotateLeft64_le _ _) fun y10 =>
      (Le.refl _)))))))))))
      (Le.refl _))
theorem digest_state_round_a4e_le (a1 : Int) (a2 : Int) (a3 : Int) (a4 : Int) (a5 : Int) : Le (digest_state_round_a4e_c a1 a2 a3 a4 a5) (digest_state_round_a4e a1 a2 a3 a4 a5) := by
  unfold digest_state_round_a4e_c digest_state_round_a4e
  exact
    (Le.bind (Le.loop digest_state_round_a4e_l1_le _ _) fun y1 =>
    (Le.refl _))

/-! digest_state_word_a4e_c: (*passkey/digest.state).word -/
noncomputable def digest_state_word_a4e_c (a1 : Int) (a2 : Int) (a3 : Int) (a4 : Int) (a5 : Int) : Option (Unit × (Int × Int × Int × Int)) :=
  Option.bind (digest_state_round_a4e_c 2 a2 a3 a4 (bitsI .xor .u64 a5 a1)) fun y1 =>
  some ((), ((bitsI .xor .u64 y1.2.1 a1), y1.2.2.1, y1.2.2.2.1, y1.2.2.2.2))

theorem digest_state_word_a4e_le (a1 : Int) (a2 : Int) (a3 : Int) (a4 : Int) (a5 : Int) : Le (digest_state_word_a4e_c a1 a2 a3 a4 a5) (digest_state_word_a4e a1 a2 a3 a4 a5) := by
  unfold digest_state_word_a4e_c digest_state_word_a4e
  exact
    (Le.bind (digest_state_round_a4e_le _ _ _ _ _) fun y1 =>
    (Le.refl _))

/-! digest_Sum_c: passkey/digest.Sum -/
noncomputable def digest_Sum_l3_c : ((List Int × Unit × Int) × (Int × Int × Int × Int)) → Option (((List Int × Unit × Int) × (Int × Int × Int × Int)) ⊕ ((List Int × Unit × Int) × (Int × Int × Int × Int))) := fun s => match s with
  | ((a1, (), a2), (a3, a4, a5, a6)) =>
    cond (decide ((((a1.length) : Nat) : Int) ≥ 8)) (
      cond ((okBounds 0 8 (a1.length)) && ((decide (8 ≤ (((a1.length) : Nat) : Int))) && (decide ((((a1.length) : Nat) : Int) ≤ (((a1.length) : Nat) : Int))))) (
        Option.bind (digest_little_c (cut a1 0 8)) fun y1 =>
        Option.bind (digest_state_word_a4e_c y1 a3 a4 a5 a6) fun y2 =>
        cond ((okBounds 8 (((a1.length) : Nat) : Int) (a1.length)) && ((decide ((((a1.length) : Nat) : Int) ≤ (((a1.length) : Nat) : Int))) && (decide ((((a1.length) : Nat) : Int) ≤ (((a1.length) : Nat) : Int))))) (
          some (.inl (((cut a1 8 (((a1.length) : Nat) : Int)), (), a2), (y2.2.1, y2.2.2.1, y2.2.2.2.1, y2.2.2.2.2)))) none) none) (
      some (.inr ((a1, (), a2), (a3, a4, a5, a6))))
noncomputable def digest_Sum_c (a1 : Int) (a2 : Int) (a3 : List Int) : Option Int :=
  Option.bind (some ((IntKind.u64.wrap (((a3.length) : Nat) : Int)) : Int)) fun y1 =>
  Option.bind (loopN fuel digest_Sum_l3_c ((a3, (), (shlI .u64 y1 56)), ((bitsI .xor .u64 a1 8317987319222330741), (bitsI .xor .u64 a2 7237128888997146477), (bitsI .xor .u64 a1 7816392313619706465), (bitsI .xor .u64 a2 8387220255154660723)))) fun y2 =>
  Option.bind (digest_little_c y2.1.1) fun y3 =>
  Option.bind (digest_state_word_a4e_c (bitsI .or .u64 y2.1.2.2 y3) y2.2.1 y2.2.2.1 y2.2.2.2.1 y2.2.2.2.2) fun y4 =>
  Option.bind (digest_state_round_a4e_c 4 y4.2.1 y4.2.2.1 (bitsI .xor .u64 y4.2.2.2.1 255) y4.2.2.2.2) fun y5 =>
  Option.bind (some ((bitsI .xor .u64 (bitsI .xor .u64 y5.2.1 y5.2.2.1) y5.2.2.2.1) : Int)) fun y6 =>
  some (bitsI .xor .u64 y6 y5.2.2.2.2)

theorem digest_Sum_l3_le : ∀ s, Le (digest_Sum_l3_c s) (digest_Sum_l3 s) := fun s => match s with
  | ((a1, (), a2), (a3, a4, a5, a6)) => by
    unfold digest_Sum_l3_c digest_Sum_l3
    exact
    (Le.cond
      (Le.cond
        (Le.bind (digest_little_le _) fun y1 =>
        (Le.bind (digest_state_word_a4e_le _ _ _ _ _) fun y2 =>
        (Le.cond
          (Le.refl _) (Le.refl _)))) (Le.refl _))
      (Le.refl _))
theorem digest_Sum_le (a1 : Int) (a2 : Int) (a3 : List Int) : Le (digest_Sum_c a1 a2 a3) (digest_Sum a1 a2 a3) := by
  unfold digest_Sum_c digest_Sum
  exact
    (Le.bind (Le.refl _) fun y1 =>
    (Le.bind (Le.loop digest_Sum_l3_le _ _) fun y2 =>
    (Le.bind (digest_little_le _) fun y3 =>
    (Le.bind (digest_state_word_a4e_le _ _ _ _ _) fun y4 =>
    (Le.bind (digest_state_round_a4e_le _ _ _ _ _) fun y5 =>
    (Le.bind (Le.refl _) fun y6 =>
    (Le.refl _)))))))

/-! digest_Mac_c: passkey/digest.Mac -/
noncomputable def digest_Mac_c (a1 : Int) (a2 : Int) (a3 : List Int) : Option Int :=
  Option.bind (some ((IntKind.u64.wrap (1 + (IntKind.u64.wrap a2))) : Int)) fun y1 =>
  Option.bind (digest_Sum_c a1 y1 a3) fun y2 =>
  some y2

theorem digest_Mac_le (a1 : Int) (a2 : Int) (a3 : List Int) : Le (digest_Mac_c a1 a2 a3) (digest_Mac a1 a2 a3) := by
  unfold digest_Mac_c digest_Mac
  exact
    (Le.bind (Le.refl _) fun y1 =>
    (Le.bind (digest_Sum_le _ _ _) fun y2 =>
    (Le.refl _)))

/-! digest_Derive_c: passkey/digest.Derive -/
noncomputable def digest_Derive_c (a1 : Int) (a2 : ByteArray) (a3 : Int) : Option Int :=
  cond (decide ((a2.size) ≤ 140737488355328)) (
    cond (decide ((((bytesOf a2) ++ [0]).length) * 1 ≤ 140737488355328)) (
      Option.bind (digest_Words_c [(IntKind.u64.wrap a3)]) fun y1 =>
      cond (decide (((((bytesOf a2) ++ [0]) ++ y1.2).length) * 1 ≤ 140737488355328)) (
        Option.bind (digest_Mac_c a1 4 (((bytesOf a2) ++ [0]) ++ y1.2)) fun y2 =>
        some y2) none) none) none

theorem digest_Derive_le (a1 : Int) (a2 : ByteArray) (a3 : Int) : Le (digest_Derive_c a1 a2 a3) (digest_Derive a1 a2 a3) := by
  unfold digest_Derive_c digest_Derive
  exact
    (Le.cond
      (Le.cond
        (Le.bind (digest_Words_le _) fun y1 =>
        (Le.cond
          (Le.bind (digest_Mac_le _ _ _) fun y2 =>
          (Le.refl _)) (Le.refl _))) (Le.refl _)) (Le.refl _))

/-! seal_Stream_c: passkey/seal.Stream -/
noncomputable def seal_Stream_l4_c : ((Int × Int × Int × Unit × Int) × List Int) → Option (((Int × Int × Int × Unit × Int) × List Int) ⊕ ((Int × Unit) × List Int)) := fun s => match s with
  | ((a1, a2, a3, (), a4), a5) =>
    cond (decide ((((a5.length) : Nat) : Int) < a3)) (
      Option.bind (digest_Words_c [a2, a4]) fun y1 =>
      Option.bind (digest_Mac_c a1 5 y1.2) fun y2 =>
      Option.bind (digest_Words_c [y2]) fun y3 =>
      cond (decide (((a5 ++ y3.2).length) * 1 ≤ 140737488355328)) (
        some (.inl ((a1, a2, a3, (), (IntKind.u64.wrap (a4 + 1))), (a5 ++ y3.2)))) none) (
      some (.inr ((a3, ()), a5)))
noncomputable def seal_Stream_c (a1 : Int) (a2 : Int) (a3 : Int) : Option (Unit × List Int) :=
  Option.bind (some ((if (if 1024 < a3 then 1024 else a3) > 0 then (if 1024 < a3 then 1024 else a3) else 0) : Int)) fun y1 =>
  Option.bind (loopN fuel seal_Stream_l4_c ((a1, a2, y1, (), 0), [])) fun y2 =>
  cond (okBounds 0 y2.1.1 (y2.2.length)) (
    some ((), (cut y2.2 0 y2.1.1))) none

theorem seal_Stream_l4_le : ∀ s, Le (seal_Stream_l4_c s) (seal_Stream_l4 s) := fun s => match s with
  | ((a1, a2, a3, (), a4), a5) => by
    unfold seal_Stream_l4_c seal_Stream_l4
    exact
    (Le.cond
      (Le.bind (digest_Words_le _) fun y1 =>
      (Le.bind (digest_Mac_le _ _ _) fun y2 =>
      (Le.bind (digest_Words_le _) fun y3 =>
      (Le.cond
        (Le.refl _) (Le.refl _)))))
      (Le.refl _))
theorem seal_Stream_le (a1 : Int) (a2 : Int) (a3 : Int) : Le (seal_Stream_c a1 a2 a3) (seal_Stream a1 a2 a3) := by
  unfold seal_Stream_c seal_Stream
  exact
    (Le.bind (Le.refl _) fun y1 =>
    (Le.bind (Le.loop seal_Stream_l4_le _ _) fun y2 =>
    (Le.cond
      (Le.refl _) (Le.refl _))))

/-! digest_Hash_c: passkey/digest.Hash -/
noncomputable def digest_Hash_c (a1 : Int) (a2 : List Int) : Option Int :=
  Option.bind (digest_Sum_c (IntKind.u64.wrap a1) 0 a2) fun y1 =>
  some y1

theorem digest_Hash_le (a1 : Int) (a2 : List Int) : Le (digest_Hash_c a1 a2) (digest_Hash a1 a2) := by
  unfold digest_Hash_c digest_Hash
  exact
    (Le.bind (digest_Sum_le _ _ _) fun y1 =>
    (Le.refl _))

/-! authdata_RPHash_c: passkey/authdata.RPHash -/
noncomputable def authdata_RPHash_c (a1 : ByteArray) : Option Int :=
  cond (decide ((a1.size) ≤ 140737488355328)) (
    Option.bind (digest_Hash_c 9 (bytesOf a1)) fun y1 =>
    some y1) none

theorem authdata_RPHash_le (a1 : ByteArray) : Le (authdata_RPHash_c a1) (authdata_RPHash a1) := by
  unfold authdata_RPHash_c authdata_RPHash
  exact
    (Le.cond
      (Le.bind (digest_Hash_le _ _) fun y1 =>
      (Le.refl _)) (Le.refl _))

/-! credential_wrap_c: passkey/credential.wrap -/
noncomputable def credential_wrap_c (a1 : Int) (a2 : ByteArray) : Option ((Int × Unit) × List Int) :=
  Option.bind (digest_Derive_c a1 (bs [119, 114, 97, 112]) 0) fun y1 =>
  Option.bind (authdata_RPHash_c a2) fun y2 =>
  Option.bind (digest_Words_c [y2]) fun y3 =>
  some ((y1, ()), y3.2)

theorem credential_wrap_le (a1 : Int) (a2 : ByteArray) : Le (credential_wrap_c a1 a2) (credential_wrap a1 a2) := by
  unfold credential_wrap_c credential_wrap
  exact
    (Le.bind (digest_Derive_le _ _ _) fun y1 =>
    (Le.bind (authdata_RPHash_le _) fun y2 =>
    (Le.bind (digest_Words_le _) fun y3 =>
    (Le.refl _))))

/-! seal_mixed_c: passkey/seal.mixed -/
noncomputable def seal_mixed_l3_c : ((List Int × Unit × Int × Int) × List Int) → Option (((List Int × Unit × Int × Int) × List Int) ⊕ (Unit × List Int)) := fun s => match s with
  | ((a1, (), a2, a3), a4) =>
    cond (decide (a3 < a2)) (
      cond (inRange a3 (a4.length)) (
        Option.bind (a4[(Int.toNat a3)]?) fun y1 =>
        Option.bind (getI a1 a3) fun y2 =>
        cond (inRange a3 (a4.length)) (
          cond (decide ((Int.toNat a3) < (a4.length))) (
            Option.bind (some ((a4.set (Int.toNat a3) (bitsI .xor .u8 y1 y2)) : List Int)) fun y3 =>
            some (.inl ((a1, (), a2, (IntKind.i64.wrap (a3 + 1))), y3))) none) none) none) (
      some (.inr ((), a4)))
noncomputable def seal_mixed_c (a1 : Int) (a2 : Int) (a3 : List Int) : Option (Unit × List Int) :=
  Option.bind (seal_Stream_c a1 a2 (((a3.length) : Nat) : Int)) fun y1 =>
  Option.bind (loopN fuel seal_mixed_l3_c ((a3, (), (((y1.2.length) : Nat) : Int), 0), y1.2)) fun y2 =>
  some ((), y2.2)

theorem seal_mixed_l3_le : ∀ s, Le (seal_mixed_l3_c s) (seal_mixed_l3 s) := fun s => match s with
  | ((a1, (), a2, a3), a4) => by
    unfold seal_mixed_l3_c seal_mixed_l3
    exact
    (Le.cond
      (Le.cond
        (Le.bind (Le.refl _) fun y1 =>
        (Le.bind (Le.refl _) fun y2 =>
        (Le.cond
          (Le.cond
            (Le.bind (Le.refl _) fun y3 =>
            (Le.refl _)) (Le.refl _)) (Le.refl _)))) (Le.refl _))
      (Le.refl _))
theorem seal_mixed_le (a1 : Int) (a2 : Int) (a3 : List Int) : Le (seal_mixed_c a1 a2 a3) (seal_mixed a1 a2 a3) := by
  unfold seal_mixed_c seal_mixed
  exact
    (Le.bind (seal_Stream_le _ _ _) fun y1 =>
    (Le.bind (Le.loop seal_mixed_l3_le _ _) fun y2 =>
    (Le.refl _)))

/-! seal_tag_c: passkey/seal.tag -/
noncomputable def seal_tag_c (a1 : Int) (a2 : Int) (a3 : List Int) (a4 : List Int) : Option (List Int) :=
  Option.bind (some ((IntKind.u64.wrap (((a3.length) : Nat) : Int)) : Int)) fun y1 =>
  Option.bind (digest_Words_c [a2, y1]) fun y2 =>
  cond (decide (((y2.2 ++ a3).length) * 1 ≤ 140737488355328)) (
    cond (decide ((((y2.2 ++ a3) ++ a4).length) * 1 ≤ 140737488355328)) (
      Option.bind (digest_Mac_c a1 6 ((y2.2 ++ a3) ++ a4)) fun y3 =>
      Option.bind (digest_Words_c [y3]) fun y4 =>
      cond (decide (8 ≤ (y4.2.length))) (
        some (y4.2.take 8)) none) none) none

theorem seal_tag_le (a1 : Int) (a2 : Int) (a3 : List Int) (a4 : List Int) : Le (seal_tag_c a1 a2 a3 a4) (seal_tag a1 a2 a3 a4) := by
  unfold seal_tag_c seal_tag
  exact
    (Le.bind (Le.refl _) fun y1 =>
    (Le.bind (digest_Words_le _) fun y2 =>
    (Le.cond
      (Le.cond
        (Le.bind (digest_Mac_le _ _ _) fun y3 =>
        (Le.bind (digest_Words_le _) fun y4 =>
        (Le.cond
          (Le.refl _) (Le.refl _)))) (Le.refl _)) (Le.refl _))))

/-! seal_Seal_c: passkey/seal.Seal -/
noncomputable def seal_Seal_c (a1 : Int) (a2 : Int) (a3 : List Int) (a4 : List Int) : Option ((Unit × Int) × List Int) :=
  cond (decide ((((a4.length) : Nat) : Int) > 1024)) (
    some (((), 8), [])) (
    cond (decide ((((a3.length) : Nat) : Int) > 1024)) (
      some (((), 8), [])) (
      Option.bind (seal_mixed_c a1 a2 a4) fun y1 =>
      Option.bind (seal_tag_c a1 a2 a3 y1.2) fun y2 =>
      Option.bind (digest_Words_c [a2]) fun y3 =>
      cond (decide (((y3.2 ++ y1.2).length) * 1 ≤ 140737488355328)) (
        cond (decide ((((y3.2 ++ y1.2) ++ ((y2.take 8).drop 0)).length) * 1 ≤ 140737488355328)) (
          some (((), 0), ((y3.2 ++ y1.2) ++ ((y2.take 8).drop 0)))) none) none))

theorem seal_Seal_le (a1 : Int) (a2 : Int) (a3 : List Int) (a4 : List Int) : Le (seal_Seal_c a1 a2 a3 a4) (seal_Seal a1 a2 a3 a4) := by
  unfold seal_Seal_c seal_Seal
  exact
    (Le.cond
      (Le.refl _)
      (Le.cond
        (Le.refl _)
        (Le.bind (seal_mixed_le _ _ _) fun y1 =>
        (Le.bind (seal_tag_le _ _ _ _) fun y2 =>
        (Le.bind (digest_Words_le _) fun y3 =>
        (Le.cond
          (Le.cond
            (Le.refl _) (Le.refl _)) (Le.refl _)))))))

/-! credential_ID_c: passkey/credential.ID -/
noncomputable def credential_ID_c (a1 : Int) (a2 : Int) (a3 : ByteArray) (a4 : ByteArray) (a5 : ByteArray) (a6 : Int) (a7 : Int) (a8 : Bool) (a9 : Int) (a10 : Bool) (a11 : Bool) : Option ((Unit × Int) × List Int) :=
  Option.bind (credential_Encode_c a3 a4 a5 a6 a7 a8 a9 a10 a11) fun y1 =>
  cond (y1.1.2 != 0) (
    some (((), y1.1.2), [])) (
    cond a8 (
      Option.bind (digest_Derive_c a6 (bs [105, 100]) 0) fun y2 =>
      Option.bind (seal_Stream_c y2 0 176) fun y3 =>
      some (((), 0), y3.2)) (
      Option.bind (credential_wrap_c a1 a3) fun y4 =>
      Option.bind (some ((IntKind.i64.wrap (160 - (((y1.2.length) : Nat) : Int))) : Int)) fun y5 =>
      cond (decide (0 ≤ y5) && decide (y5 ≤ 140737488355328)) (
        cond (decide (((y1.2 ++ (List.replicate (Int.toNat y5) (0 : Int))).length) * 1 ≤ 140737488355328)) (
          Option.bind (some ((y1.2 ++ (List.replicate (Int.toNat y5) (0 : Int))) : List Int)) fun y6 =>
          Option.bind (seal_Seal_c y4.1.1 a2 y4.2 y6) fun y7 =>
          some (((), y7.1.2), y7.2)) none) none))

theorem credential_ID_le (a1 : Int) (a2 : Int) (a3 : ByteArray) (a4 : ByteArray) (a5 : ByteArray) (a6 : Int) (a7 : Int) (a8 : Bool) (a9 : Int) (a10 : Bool) (a11 : Bool) : Le (credential_ID_c a1 a2 a3 a4 a5 a6 a7 a8 a9 a10 a11) (credential_ID a1 a2 a3 a4 a5 a6 a7 a8 a9 a10 a11) := by
  unfold credential_ID_c credential_ID
  exact
    (Le.bind (credential_Encode_le _ _ _ _ _ _ _ _ _) fun y1 =>
    (Le.cond
      (Le.refl _)
      (Le.cond
        (Le.bind (digest_Derive_le _ _ _) fun y2 =>
        (Le.bind (seal_Stream_le _ _ _) fun y3 =>
        (Le.refl _)))
        (Le.bind (credential_wrap_le _ _) fun y4 =>
        (Le.bind (Le.refl _) fun y5 =>
        (Le.cond
          (Le.cond
            (Le.bind (Le.refl _) fun y6 =>
            (Le.bind (seal_Seal_le _ _ _ _) fun y7 =>
            (Le.refl _))) (Le.refl _)) (Le.refl _)))))))

/-! seal_word_c: passkey/seal.word -/
noncomputable def seal_word_l3_c : (Int × List Int × Int) → Option ((Int × List Int × Int) ⊕ Int) := fun s => match s with
  | (a1, a2, a3) =>
    cond (decide (a3 < 8)) (
      cond (inRange a3 8) (
        Option.bind (a2[(Int.toNat a3)]?) fun y1 =>
        Option.bind (some ((bitsI .or .u64 (shlI .u64 a1 8) (IntKind.u64.wrap y1)) : Int)) fun y2 =>
        some (.inl (y2, a2, (IntKind.i64.wrap (a3 + 1))))) none) (
      some (.inr a1))
noncomputable def seal_word_c (a1 : List Int) : Option Int :=
  Option.bind (loopN fuel seal_word_l3_c (0, a1, 0)) fun y1 =>
  some y1

theorem seal_word_l3_le : ∀ s, Le (seal_word_l3_c s) (seal_word_l3 s) := fun s => match s with
  | (a1, a2, a3) => by
    unfold seal_word_l3_c seal_word_l3
    exact
    (Le.cond
      (Le.cond
        (Le.bind (Le.refl _) fun y1 =>
        (Le.bind (Le.refl _) fun y2 =>
        (Le.refl _))) (Le.refl _))
      (Le.refl _))
theorem seal_word_le (a1 : List Int) : Le (seal_word_c a1) (seal_word a1) := by
  unfold seal_word_c seal_word
  exact
    (Le.bind (Le.loop seal_word_l3_le _ _) fun y1 =>
    (Le.refl _))

/-! seal_Open_c: passkey/seal.Open -/
noncomputable def seal_Open_c (a1 : Int) (a2 : List Int) (a3 : List Int) : Option ((Unit × Int) × List Int) :=
  cond (decide ((((a3.length) : Nat) : Int) < 16)) (
    some (((), 1), [])) (
    cond (decide ((((a3.length) : Nat) : Int) > 1040)) (
      some (((), 8), [])) (
      cond (decide ((((a2.length) : Nat) : Int) > 1024)) (
        some (((), 8), [])) (
        cond ((okBounds 0 8 (a3.length)) && ((decide (8 ≤ (((a3.length) : Nat) : Int))) && (decide ((((a3.length) : Nat) : Int) ≤ (((a3.length) : Nat) : Int))))) (
          cond (decide (8 ≤ ((cut a3 0 8).length))) (
            Option.bind (seal_word_c ((cut a3 0 8).take 8)) fun y1 =>
            Option.bind (some ((IntKind.i64.wrap ((((a3.length) : Nat) : Int) - 8)) : Int)) fun y2 =>
            cond ((okBounds 8 y2 (a3.length)) && ((decide (y2 ≤ (((a3.length) : Nat) : Int))) && (decide ((((a3.length) : Nat) : Int) ≤ (((a3.length) : Nat) : Int))))) (
              Option.bind (some ((IntKind.i64.wrap ((((a3.length) : Nat) : Int) - 8)) : Int)) fun y3 =>
              cond ((okBounds y3 (((a3.length) : Nat) : Int) (a3.length)) && ((decide ((((a3.length) : Nat) : Int) ≤ (((a3.length) : Nat) : Int))) && (decide ((((a3.length) : Nat) : Int) ≤ (((a3.length) : Nat) : Int))))) (
                cond (decide (8 ≤ ((cut a3 y3 (((a3.length) : Nat) : Int)).length))) (
                  Option.bind (some (((cut a3 y3 (((a3.length) : Nat) : Int)).take 8) : List Int)) fun y4 =>
                  Option.bind (seal_tag_c a1 y1 a2 (cut a3 8 y2)) fun y5 =>
                  cond (!(y4 == y5)) (
                    some (((), 14), [])) (
                    Option.bind (seal_mixed_c a1 y1 (cut a3 8 y2)) fun y6 =>
                    some (((), 0), y6.2))) none) none) none) none) none)))

theorem seal_Open_le (a1 : Int) (a2 : List Int) (a3 : List Int) : Le (seal_Open_c a1 a2 a3) (seal_Open a1 a2 a3) := by
  unfold seal_Open_c seal_Open
  exact
    (Le.cond
      (Le.refl _)
      (Le.cond
        (Le.refl _)
        (Le.cond
          (Le.refl _)
          (Le.cond
            (Le.cond
              (Le.bind (seal_word_le _) fun y1 =>
              (Le.bind (Le.refl _) fun y2 =>
              (Le.cond
                (Le.bind (Le.refl _) fun y3 =>
                (Le.cond
                  (Le.cond
                    (Le.bind (Le.refl _) fun y4 =>
                    (Le.bind (seal_tag_le _ _ _ _) fun y5 =>
                    (Le.cond
                      (Le.refl _)
                      (Le.bind (seal_mixed_le _ _ _) fun y6 =>
                      (Le.refl _))))) (Le.refl _)) (Le.refl _))) (Le.refl _)))) (Le.refl _)) (Le.refl _)))))

/-! cbor_first_c: passkey/cbor.first -/
noncomputable def cbor_first_j6_c : List Int → Option (Int × Int × Int × Int) := fun s => match s with
  | a1 =>
    Option.bind (getI a1 0) fun y1 =>
    Option.bind (some ((IntKind.u64.wrap (IntKind.u8.wrap (y1 - 244))) : Int)) fun y2 =>
    some (7, y2, 1, 0)
noncomputable def cbor_first_j7_c : (List Int × Int × Int) → Option ((Int × Int × Int × Int) ⊕ (List Int × Int)) := fun s => match s with
  | (a1, a2, a3) =>
    cond (a3 == 246) (
      some (.inl (8, 0, 1, 0))) (
      some (.inr (a1, a2)))
noncomputable def cbor_first_j11_c : Unit → Option (Int × Int × Int × Int) := fun s => match s with
  | () =>
    some (0, 0, 0, 2)
noncomputable def cbor_first_l19_c : (Int × Int × Int × Int × List Int × Int × Int) → Option ((Int × Int × Int × Int × List Int × Int × Int) ⊕ (Int × Int × Int × Int)) := fun s => match s with
  | (a1, a2, a3, a4, a5, a6, a7) =>
    cond (decide (a7 < a6)) (
      Option.bind (getI a5 a7) fun y1 =>
      Option.bind (some ((bitsI .or .u64 (shlI .u64 a2 8) (IntKind.u64.wrap y1)) : Int)) fun y2 =>
      some (.inl (a1, y2, a3, a4, a5, a6, (IntKind.i64.wrap (a7 + 1))))) (
      some (.inr (a1, a2, a3, a4)))
noncomputable def cbor_first_c (a1 : List Int) : Option (Int × Int × Int × Int) :=
  cond ((((a1.length) : Nat) : Int) == 0) (
    some (0, 0, 0, 1)) (
    Option.bind (getI a1 0) fun y1 =>
    cond (y1 == 244) (
      Option.bind (cbor_first_j6_c a1) fun y2 =>
      some (y2.1, y2.2.1, y2.2.2.1, y2.2.2.2)) (
      cond (y1 == 245) (
        Option.bind (cbor_first_j6_c a1) fun y3 =>
        some (y3.1, y3.2.1, y3.2.2.1, y3.2.2.2)) (
        Option.bind (cbor_first_j7_c (a1, 0, y1)) fun y4 =>
        match y4 with
        | (.inl y5) =>
          some (y5.1, y5.2.1, y5.2.2.1, y5.2.2.2)
        | (.inr y6) =>
          Option.bind (getI y6.1 0) fun y7 =>
          Option.bind (getI y6.1 0) fun y8 =>
          cond (decide ((IntKind.u8.wrap (Int.tdiv y7 32)) > 5)) (
            Option.bind (cbor_first_j11_c ()) fun y9 =>
            some (y9.1, y9.2.1, y9.2.2.1, y9.2.2.2)) (
            cond (decide ((Int.tmod y8 32) > 27)) (
              Option.bind (cbor_first_j11_c ()) fun y10 =>
              some (y10.1, y10.2.1, y10.2.2.1, y10.2.2.2)) (
              Option.bind (some ((IntKind.i64.wrap (IntKind.u8.wrap (Int.tdiv y7 32))) : Int)) fun y11 =>
              cond (decide ((Int.tmod y8 32) < 24)) (
                some ((IntKind.i64.wrap (1 + y11)), (IntKind.u64.wrap (Int.tmod y8 32)), 1, 0)) (
                Option.bind (some ((IntKind.u8.wrap ((Int.tmod y8 32) - 24)) : Int)) fun y12 =>
                cond (decide (0 ≤ y12)) (
                  Option.bind (some ((IntKind.i64.wrap (1 + (shlI .i64 1 y12))) : Int)) fun y13 =>
                  cond (decide ((((y6.1.length) : Nat) : Int) < y13)) (
                    some (0, 0, 0, 1)) (
                    cond ((okBounds 1 y13 (y6.1.length)) && ((decide (y13 ≤ (((y6.1.length) : Nat) : Int))) && (decide ((((y6.1.length) : Nat) : Int) ≤ (((y6.1.length) : Nat) : Int))))) (
                      Option.bind (some (((((cut y6.1 1 y13).length) : Nat) : Int) : Int)) fun y14 =>
                      Option.bind (loopN fuel cbor_first_l19_c ((IntKind.i64.wrap (1 + y11)), y6.2, y13, (IntKind.u8.wrap (Int.tdiv y7 32)), (cut y6.1 1 y13), y14, 0)) fun y15 =>
                      Option.bind (cbor_head_c y15.2.2.2 y15.2.1) fun y16 =>
                      cond ((((y16.2.length) : Nat) : Int) != y15.2.2.1) (
                        some (0, 0, 0, 2)) (
                        some (y15.1, y15.2.1, y15.2.2.1, 0))) none)) none))))))

theorem cbor_first_j6_le : ∀ s, Le (cbor_first_j6_c s) (cbor_first_j6 s) := fun s => match s with
  | a1 => by
    unfold cbor_first_j6_c cbor_first_j6
    exact
    (Le.bind (Le.refl _) fun y1 =>
    (Le.bind (Le.refl _) fun y2 =>
    (Le.refl _)))
theorem cbor_first_j7_le : ∀ s, Le (cbor_first_j7_c s) (cbor_first_j7 s) := fun s => match s with
  | (a1, a2, a3) => by
    unfold cbor_first_j7_c cbor_first_j7
    exact
    (Le.cond
      (Le.refl _)
      (Le.refl _))
theorem cbor_first_j11_le : ∀ s, Le (cbor_first_j11_c s) (cbor_first_j11 s) := fun s => match s with
  | () => by
    unfold cbor_first_j11_c cbor_first_j11
    exact
    (Le.refl _)
theorem cbor_first_l19_le : ∀ s, Le (cbor_first_l19_c s) (cbor_first_l19 s) := fun s => match s with
  | (a1, a2, a3, a4, a5, a6, a7) => by
    unfold cbor_first_l19_c cbor_first_l19
    exact
    (Le.cond
      (Le.bind (Le.refl _) fun y1 =>
      (Le.bind (Le.refl _) fun y2 =>
      (Le.refl _)))
      (Le.refl _))
theorem cbor_first_le (a1 : List Int) : Le (cbor_first_c a1) (cbor_first a1) := by
  unfold cbor_first_c cbor_first
  exact
    (Le.cond
      (Le.refl _)
      (Le.bind (Le.refl _) fun y1 =>
      (Le.cond
        (Le.bind (cbor_first_j6_le _) fun y2 =>
        (Le.refl _))
        (Le.cond
          (Le.bind (cbor_first_j6_le _) fun y3 =>
          (Le.refl _))
          (Le.bind (cbor_first_j7_le _) fun y4 =>
          (match y4 with
          | (.inl y5) =>
            (Le.refl _)
          | (.inr y6) =>
            (Le.bind (Le.refl _) fun y7 =>
            (Le.bind (Le.refl _) fun y8 =>
            (Le.cond
              (Le.bind (cbor_first_j11_le _) fun y9 =>
              (Le.refl _))
              (Le.cond
                (Le.bind (cbor_first_j11_le _) fun y10 =>
                (Le.refl _))
                (Le.bind (Le.refl _) fun y11 =>
                (Le.cond
                  (Le.refl _)
                  (Le.bind (Le.refl _) fun y12 =>
                  (Le.cond
                    (Le.bind (Le.refl _) fun y13 =>
                    (Le.cond
                      (Le.refl _)
                      (Le.cond
                        (Le.bind (Le.refl _) fun y14 =>
                        (Le.bind (Le.loop cbor_first_l19_le _ _) fun y15 =>
                        (Le.bind (cbor_head_le _ _) fun y16 =>
                        (Le.cond
                          (Le.refl _)
                          (Le.refl _))))) (Le.refl _)))) (Le.refl _)))))))))))))))

/-! cbor_walk_isKey_c34_c: (*passkey/cbor.walk).isKey -/
noncomputable def cbor_walk_isKey_c34_c (a1 : Int) (a2 : Bool) (a3 : List Int) (a4 : Int) (a5 : List PD) : Option (Bool × ((Unit × Int × Bool × List Int × Int) × List PD)) :=
  cond (decide ((((a5.length) : Nat) : Int) > 0)) (
    Option.bind (some ((IntKind.i64.wrap ((((a5.length) : Nat) : Int) - 1)) : Int)) fun y1 =>
    cond (inRange y1 (a5.length)) (
      Option.bind (a5[(Int.toNat y1)]?) fun y2 =>
      Option.bind (PD.boolAt y2 0) fun y3 =>
      cond y3 (
        Option.bind (some ((IntKind.i64.wrap ((((a5.length) : Nat) : Int) - 1)) : Int)) fun y4 =>
        cond (inRange y4 (a5.length)) (
          Option.bind (a5[(Int.toNat y4)]?) fun y5 =>
          Option.bind (PD.intAt .i64 y5 1) fun y6 =>
          some (((Int.tmod y6 2) == 0), (((), a1, a2, a3, a4), a5))) none) (
        some (false, (((), a1, a2, a3, a4), a5)))) none) (
    some (false, (((), a1, a2, a3, a4), a5)))

theorem cbor_walk_isKey_c34_le (a1 : Int) (a2 : Bool) (a3 : List Int) (a4 : Int) (a5 : List PD) : Le (cbor_walk_isKey_c34_c a1 a2 a3 a4 a5) (cbor_walk_isKey_c34 a1 a2 a3 a4 a5) := by
  unfold cbor_walk_isKey_c34_c cbor_walk_isKey_c34
  exact
    (Le.cond
      (Le.bind (Le.refl _) fun y1 =>
      (Le.cond
        (Le.bind (Le.refl _) fun y2 =>
        (Le.bind (Le.refl _) fun y3 =>
        (Le.cond
          (Le.bind (Le.refl _) fun y4 =>
          (Le.cond
            (Le.bind (Le.refl _) fun y5 =>
            (Le.bind (Le.refl _) fun y6 =>
            (Le.refl _))) (Le.refl _)))
          (Le.refl _)))) (Le.refl _)))
      (Le.refl _))

/-! cbor_walk_enter_98d_c: (*passkey/cbor.walk).enter -/
noncomputable def cbor_walk_enter_98d_c (a1 : Int) (a2 : Int) (a3 : Bool) (a4 : List Int) (a5 : Int) (a6 : List PD) : Option (Int × ((Unit × Int × Bool × List Int × Int) × List PD)) :=
  cond (decide (a2 ≥ 512)) (
    some (8, (((), a2, a3, a4, a5), a6))) (
    cond (decide (a1 < 1)) (
      some (3, (((), a2, a3, a4, a5), a6))) (
      cond (decide (a1 > 8)) (
        some (3, (((), a2, a3, a4, a5), a6))) (
        Option.bind (cbor_walk_isKey_c34_c a2 a3 a4 a5 a6) fun y1 =>
        cond y1.1 (
          cond (a1 != 1) (
            cond (a1 != 2) (
              cond (a1 != 4) (
                some (3, (((), y1.2.1.2.1, y1.2.1.2.2.1, y1.2.1.2.2.2.1, y1.2.1.2.2.2.2), y1.2.2))) (
                cond (decide ((((y1.2.2.length) : Nat) : Int) > 8)) (
                  some (5, (((), y1.2.1.2.1, y1.2.1.2.2.1, y1.2.1.2.2.2.1, y1.2.1.2.2.2.2), y1.2.2))) (
                  some (0, (((), y1.2.1.2.1, y1.2.1.2.2.1, y1.2.1.2.2.2.1, y1.2.1.2.2.2.2), y1.2.2))))) (
              cond (decide ((((y1.2.2.length) : Nat) : Int) > 8)) (
                some (5, (((), y1.2.1.2.1, y1.2.1.2.2.1, y1.2.1.2.2.2.1, y1.2.1.2.2.2.2), y1.2.2))) (
                some (0, (((), y1.2.1.2.1, y1.2.1.2.2.1, y1.2.1.2.2.2.1, y1.2.1.2.2.2.2), y1.2.2))))) (
            cond (decide ((((y1.2.2.length) : Nat) : Int) > 8)) (
              some (5, (((), y1.2.1.2.1, y1.2.1.2.2.1, y1.2.1.2.2.2.1, y1.2.1.2.2.2.2), y1.2.2))) (
              some (0, (((), y1.2.1.2.1, y1.2.1.2.2.1, y1.2.1.2.2.2.1, y1.2.1.2.2.2.2), y1.2.2))))) (
          cond (decide ((((y1.2.2.length) : Nat) : Int) > 8)) (
            some (5, (((), y1.2.1.2.1, y1.2.1.2.2.1, y1.2.1.2.2.2.1, y1.2.1.2.2.2.2), y1.2.2))) (
            some (0, (((), y1.2.1.2.1, y1.2.1.2.2.1, y1.2.1.2.2.2.1, y1.2.1.2.2.2.2), y1.2.2)))))))

theorem cbor_walk_enter_98d_le (a1 : Int) (a2 : Int) (a3 : Bool) (a4 : List Int) (a5 : Int) (a6 : List PD) : Le (cbor_walk_enter_98d_c a1 a2 a3 a4 a5 a6) (cbor_walk_enter_98d a1 a2 a3 a4 a5 a6) := by
  unfold cbor_walk_enter_98d_c cbor_walk_enter_98d
  exact
    (Le.cond
      (Le.refl _)
      (Le.cond
        (Le.refl _)
        (Le.cond
          (Le.refl _)
          (Le.bind (cbor_walk_isKey_c34_le _ _ _ _ _) fun y1 =>
          (Le.cond
            (Le.cond
              (Le.cond
                (Le.cond
                  (Le.refl _)
                  (Le.cond
                    (Le.refl _)
                    (Le.refl _)))
                (Le.cond
                  (Le.refl _)
                  (Le.refl _)))
              (Le.cond
                (Le.refl _)
                (Le.refl _)))
            (Le.cond
              (Le.refl _)
              (Le.refl _)))))))

/-! cbor_walk_content_f84_c: (*passkey/cbor.walk).content -/
noncomputable def cbor_walk_content_f84_l18_c : (Unit × ((Unit × Int × Bool × List Int × Int) × Unit × List PD)) → Option ((Unit × ((Unit × Int × Bool × List Int × Int) × Unit × List PD)) ⊕ (Unit × ((Unit × Int × Bool × List Int × Int) × Unit × List PD))) := fun s => match s with
  | ((), (((), a1, a2, a3, a4), (), a5)) =>
    cond (decide ((((a5.length) : Nat) : Int) > 0)) (
      Option.bind (some ((IntKind.i64.wrap ((((a5.length) : Nat) : Int) - 1)) : Int)) fun y1 =>
      cond (inRange y1 (a5.length)) (
        Option.bind (a5[(Int.toNat y1)]?) fun y2 =>
        Option.bind (PD.intAt .i64 y2 1) fun y3 =>
        cond (y3 == 0) (
          Option.bind (some ((IntKind.i64.wrap ((((a5.length) : Nat) : Int) - 1)) : Int)) fun y4 =>
          cond (okBounds 0 y4 (a5.length)) (
            some (.inl ((), (((), a1, a2, a3, a4), (), (cut a5 0 y4))))) none) (
          some (.inr ((), (((), a1, a2, a3, a4), (), a5))))) none) (
      some (.inr ((), (((), a1, a2, a3, a4), (), a5))))
noncomputable def cbor_walk_content_f84_j18_c : (Unit × ((Unit × Int × Bool × List Int × Int) × Unit × List PD)) → Option (Int × ((Unit × Int × Bool × List Int × Int) × Unit × List PD)) := fun s => match s with
  | ((), (((), a1, a2, a3, a4), (), a5)) =>
    Option.bind (loopN fuel cbor_walk_content_f84_l18_c ((), (((), a1, a2, a3, a4), (), a5))) fun y1 =>
    some (0, (((), y1.2.1.2.1, ((((y1.2.2.2.length) : Nat) : Int) == 0), y1.2.1.2.2.2.1, y1.2.1.2.2.2.2), (), y1.2.2.2))
noncomputable def cbor_walk_content_f84_j13_c : ((Unit × Unit) × ((Unit × Int × Bool × List Int × Int) × List PD × (Int × Int × ByteArray))) → Option (Int × ((Unit × Int × Bool × List Int × Int) × Unit × List PD)) := fun s => match s with
  | (((), ()), (((), a1, a2, a3, a4), a5, (a6, a7, a8))) =>
    cond (a6 == 5) (
      cond (decide (((a5 ++ [(PD.agg [(.bool false), (.int .i64 (IntKind.i64.wrap a7)), (.str (bs []))])]).length) * 32 ≤ 140737488355328)) (
        Option.bind (some ((a5 ++ [(PD.agg [(.bool false), (.int .i64 (IntKind.i64.wrap a7)), (.str (bs []))])]) : List PD)) fun y1 =>
        Option.bind (cbor_walk_content_f84_j18_c ((), (((), a1, a2, a3, a4), (), y1))) fun y2 =>
        some (y2.1, (((), y2.2.1.2.1, y2.2.1.2.2.1, y2.2.1.2.2.2.1, y2.2.1.2.2.2.2), (), y2.2.2.2))) none) (
      cond (a6 == 6) (
        Option.bind (some ((IntKind.i64.wrap (2 * (IntKind.i64.wrap a7))) : Int)) fun y3 =>
        cond (decide (((a5 ++ [(PD.agg [(.bool true), (.int .i64 y3), (.str (bs []))])]).length) * 32 ≤ 140737488355328)) (
          Option.bind (some ((a5 ++ [(PD.agg [(.bool true), (.int .i64 y3), (.str (bs []))])]) : List PD)) fun y4 =>
          Option.bind (cbor_walk_content_f84_j18_c ((), (((), a1, a2, a3, a4), (), y4))) fun y5 =>
          some (y5.1, (((), y5.2.1.2.1, y5.2.1.2.2.1, y5.2.1.2.2.2.1, y5.2.1.2.2.2.2), (), y5.2.2.2))) none) (
        Option.bind (cbor_walk_content_f84_j18_c ((), (((), a1, a2, a3, a4), (), a5))) fun y6 =>
        some (y6.1, (((), y6.2.1.2.1, y6.2.1.2.2.1, y6.2.1.2.2.2.1, y6.2.1.2.2.2.2), (), y6.2.2.2))))
noncomputable def cbor_walk_content_f84_j9_c : ((Unit × Unit) × ((Unit × Int × Bool × List Int × Int) × List PD × (Int × Int × ByteArray))) → Option (Int × ((Unit × Int × Bool × List Int × Int) × Unit × List PD)) := fun s => match s with
  | (((), ()), (((), a1, a2, a3, a4), a5, (a6, a7, a8))) =>
    cond (decide ((((a5.length) : Nat) : Int) > 0)) (
      Option.bind (some ((IntKind.i64.wrap ((((a5.length) : Nat) : Int) - 1)) : Int)) fun y1 =>
      cond (inRange y1 (a5.length)) (
        Option.bind (a5[(Int.toNat y1)]?) fun y2 =>
        Option.bind (PD.intAt .i64 y2 1) fun y3 =>
        cond (inRange y1 (a5.length)) (
          Option.bind (a5[(Int.toNat y1)]?) fun y4 =>
          Option.bind (PD.boolAt y4 0) fun y5 =>
          Option.bind (PD.intAt .i64 y4 1) fun y6 =>
          Option.bind (PD.strAt y4 2) fun y7 =>
          Option.bind (some ((a5.set (Int.toNat y1) (.agg [(.bool y5), (.int .i64 (IntKind.i64.wrap (y3 - 1))), (.str y7)])) : List PD)) fun y8 =>
          Option.bind (cbor_walk_content_f84_j13_c (((), ()), (((), (IntKind.i64.wrap (a1 + 1)), a2, a3, a4), y8, (a6, a7, a8)))) fun y9 =>
          some (y9.1, (((), y9.2.1.2.1, y9.2.1.2.2.1, y9.2.1.2.2.2.1, y9.2.1.2.2.2.2), (), y9.2.2.2))) none) none) (
      Option.bind (cbor_walk_content_f84_j13_c (((), ()), (((), (IntKind.i64.wrap (a1 + 1)), a2, a3, a4), a5, (a6, a7, a8)))) fun y10 =>
      some (y10.1, (((), y10.2.1.2.1, y10.2.1.2.2.1, y10.2.1.2.2.2.1, y10.2.1.2.2.2.2), (), y10.2.2.2)))
noncomputable def cbor_walk_content_f84_c (a1 : Int) (a2 : Int) (a3 : ByteArray) (a4 : Int) (a5 : Bool) (a6 : List Int) (a7 : Int) (a8 : List PD) : Option (Int × ((Unit × Int × Bool × List Int × Int) × Unit × List PD)) :=
  cond (a1 == 4) (
    Option.bind (utf8_ValidString a3) fun y1 =>
    cond (!y1) (
      some (6, (((), a4, a5, a6, a7), (), a8))) (
      Option.bind (cbor_walk_isKey_c34_c a4 a5 a6 a7 a8) fun y2 =>
      cond y2.1 (
        Option.bind (some ((IntKind.i64.wrap ((((y2.2.2.length) : Nat) : Int) - 1)) : Int)) fun y3 =>
        cond (inRange y3 (y2.2.2.length)) (
          Option.bind (cbor_encode_c a1 a2 a3) fun y4 =>
          Option.bind (y2.2.2[(Int.toNat y3)]?) fun y5 =>
          Option.bind (PD.strAt y5 2) fun y6 =>
          cond (!(strEq y6 (bs []))) (
            Option.bind (y2.2.2[(Int.toNat y3)]?) fun y7 =>
            Option.bind (PD.strAt y7 2) fun y8 =>
            cond (decide (((((strOf y4.2).size) : Nat) : Int) < (((y8.size) : Nat) : Int))) (
              some (7, (((), y2.2.1.2.1, y2.2.1.2.2.1, y2.2.1.2.2.2.1, y2.2.1.2.2.2.2), (), y2.2.2))) (
              Option.bind (y2.2.2[(Int.toNat y3)]?) fun y9 =>
              Option.bind (PD.strAt y9 2) fun y10 =>
              cond (((((strOf y4.2).size) : Nat) : Int) == (((y10.size) : Nat) : Int)) (
                Option.bind (y2.2.2[(Int.toNat y3)]?) fun y11 =>
                Option.bind (PD.strAt y11 2) fun y12 =>
                cond ((strLt (strOf y4.2) y12) || (strEq (strOf y4.2) y12)) (
                  some (7, (((), y2.2.1.2.1, y2.2.1.2.2.1, y2.2.1.2.2.2.1, y2.2.1.2.2.2.2), (), y2.2.2))) (
                  Option.bind (y2.2.2[(Int.toNat y3)]?) fun y13 =>
                  Option.bind (PD.boolAt y13 0) fun y14 =>
                  Option.bind (PD.intAt .i64 y13 1) fun y15 =>
                  Option.bind (PD.strAt y13 2) fun y16 =>
                  Option.bind (some ((y2.2.2.set (Int.toNat y3) (.agg [(.bool y14), (.int .i64 y15), (.str (strOf y4.2))])) : List PD)) fun y17 =>
                  Option.bind (cbor_walk_content_f84_j9_c (((), ()), (((), y2.2.1.2.1, y2.2.1.2.2.1, y2.2.1.2.2.2.1, y2.2.1.2.2.2.2), y17, (a1, a2, a3)))) fun y18 =>
                  some (y18.1, (((), y18.2.1.2.1, y18.2.1.2.2.1, y18.2.1.2.2.2.1, y18.2.1.2.2.2.2), (), y18.2.2.2)))) (
                Option.bind (y2.2.2[(Int.toNat y3)]?) fun y19 =>
                Option.bind (PD.boolAt y19 0) fun y20 =>
                Option.bind (PD.intAt .i64 y19 1) fun y21 =>
                Option.bind (PD.strAt y19 2) fun y22 =>
                Option.bind (some ((y2.2.2.set (Int.toNat y3) (.agg [(.bool y20), (.int .i64 y21), (.str (strOf y4.2))])) : List PD)) fun y23 =>
                Option.bind (cbor_walk_content_f84_j9_c (((), ()), (((), y2.2.1.2.1, y2.2.1.2.2.1, y2.2.1.2.2.2.1, y2.2.1.2.2.2.2), y23, (a1, a2, a3)))) fun y24 =>
                some (y24.1, (((), y24.2.1.2.1, y24.2.1.2.2.1, y24.2.1.2.2.2.1, y24.2.1.2.2.2.2), (), y24.2.2.2))))) (
            Option.bind (y2.2.2[(Int.toNat y3)]?) fun y25 =>
            Option.bind (PD.boolAt y25 0) fun y26 =>
            Option.bind (PD.intAt .i64 y25 1) fun y27 =>
            Option.bind (PD.strAt y25 2) fun y28 =>
            Option.bind (some ((y2.2.2.set (Int.toNat y3) (.agg [(.bool y26), (.int .i64 y27), (.str (strOf y4.2))])) : List PD)) fun y29 =>
            Option.bind (cbor_walk_content_f84_j9_c (((), ()), (((), y2.2.1.2.1, y2.2.1.2.2.1, y2.2.1.2.2.2.1, y2.2.1.2.2.2.2), y29, (a1, a2, a3)))) fun y30 =>
            some (y30.1, (((), y30.2.1.2.1, y30.2.1.2.2.1, y30.2.1.2.2.2.1, y30.2.1.2.2.2.2), (), y30.2.2.2)))) none) (
        Option.bind (cbor_walk_content_f84_j9_c (((), ()), (((), y2.2.1.2.1, y2.2.1.2.2.1, y2.2.1.2.2.2.1, y2.2.1.2.2.2.2), y2.2.2, (a1, a2, a3)))) fun y31 =>
        some (y31.1, (((), y31.2.1.2.1, y31.2.1.2.2.1, y31.2.1.2.2.2.1, y31.2.1.2.2.2.2), (), y31.2.2.2))))) (
    Option.bind (cbor_walk_isKey_c34_c a4 a5 a6 a7 a8) fun y32 =>
    cond y32.1 (
      Option.bind (some ((IntKind.i64.wrap ((((y32.2.2.length) : Nat) : Int) - 1)) : Int)) fun y33 =>
      cond (inRange y33 (y32.2.2.length)) (
        Option.bind (cbor_encode_c a1 a2 a3) fun y34 =>
        Option.bind (y32.2.2[(Int.toNat y33)]?) fun y35 =>
        Option.bind (PD.strAt y35 2) fun y36 =>
        cond (!(strEq y36 (bs []))) (
          Option.bind (y32.2.2[(Int.toNat y33)]?) fun y37 =>
          Option.bind (PD.strAt y37 2) fun y38 =>
          cond (decide (((((strOf y34.2).size) : Nat) : Int) < (((y38.size) : Nat) : Int))) (
            some (7, (((), y32.2.1.2.1, y32.2.1.2.2.1, y32.2.1.2.2.2.1, y32.2.1.2.2.2.2), (), y32.2.2))) (
            Option.bind (y32.2.2[(Int.toNat y33)]?) fun y39 =>
            Option.bind (PD.strAt y39 2) fun y40 =>
            cond (((((strOf y34.2).size) : Nat) : Int) == (((y40.size) : Nat) : Int)) (
              Option.bind (y32.2.2[(Int.toNat y33)]?) fun y41 =>
              Option.bind (PD.strAt y41 2) fun y42 =>
              cond ((strLt (strOf y34.2) y42) || (strEq (strOf y34.2) y42)) (
                some (7, (((), y32.2.1.2.1, y32.2.1.2.2.1, y32.2.1.2.2.2.1, y32.2.1.2.2.2.2), (), y32.2.2))) (
                Option.bind (y32.2.2[(Int.toNat y33)]?) fun y43 =>
                Option.bind (PD.boolAt y43 0) fun y44 =>
                Option.bind (PD.intAt .i64 y43 1) fun y45 =>
                Option.bind (PD.strAt y43 2) fun y46 =>
                Option.bind (some ((y32.2.2.set (Int.toNat y33) (.agg [(.bool y44), (.int .i64 y45), (.str (strOf y34.2))])) : List PD)) fun y47 =>
                Option.bind (cbor_walk_content_f84_j9_c (((), ()), (((), y32.2.1.2.1, y32.2.1.2.2.1, y32.2.1.2.2.2.1, y32.2.1.2.2.2.2), y47, (a1, a2, a3)))) fun y48 =>
                some (y48.1, (((), y48.2.1.2.1, y48.2.1.2.2.1, y48.2.1.2.2.2.1, y48.2.1.2.2.2.2), (), y48.2.2.2)))) (
              Option.bind (y32.2.2[(Int.toNat y33)]?) fun y49 =>
              Option.bind (PD.boolAt y49 0) fun y50 =>
              Option.bind (PD.intAt .i64 y49 1) fun y51 =>
              Option.bind (PD.strAt y49 2) fun y52 =>
              Option.bind (some ((y32.2.2.set (Int.toNat y33) (.agg [(.bool y50), (.int .i64 y51), (.str (strOf y34.2))])) : List PD)) fun y53 =>
              Option.bind (cbor_walk_content_f84_j9_c (((), ()), (((), y32.2.1.2.1, y32.2.1.2.2.1, y32.2.1.2.2.2.1, y32.2.1.2.2.2.2), y53, (a1, a2, a3)))) fun y54 =>
              some (y54.1, (((), y54.2.1.2.1, y54.2.1.2.2.1, y54.2.1.2.2.2.1, y54.2.1.2.2.2.2), (), y54.2.2.2))))) (
          Option.bind (y32.2.2[(Int.toNat y33)]?) fun y55 =>
          Option.bind (PD.boolAt y55 0) fun y56 =>
          Option.bind (PD.intAt .i64 y55 1) fun y57 =>
          Option.bind (PD.strAt y55 2) fun y58 =>
          Option.bind (some ((y32.2.2.set (Int.toNat y33) (.agg [(.bool y56), (.int .i64 y57), (.str (strOf y34.2))])) : List PD)) fun y59 =>
          Option.bind (cbor_walk_content_f84_j9_c (((), ()), (((), y32.2.1.2.1, y32.2.1.2.2.1, y32.2.1.2.2.2.1, y32.2.1.2.2.2.2), y59, (a1, a2, a3)))) fun y60 =>
          some (y60.1, (((), y60.2.1.2.1, y60.2.1.2.2.1, y60.2.1.2.2.2.1, y60.2.1.2.2.2.2), (), y60.2.2.2)))) none) (
      Option.bind (cbor_walk_content_f84_j9_c (((), ()), (((), y32.2.1.2.1, y32.2.1.2.2.1, y32.2.1.2.2.2.1, y32.2.1.2.2.2.2), y32.2.2, (a1, a2, a3)))) fun y61 =>
      some (y61.1, (((), y61.2.1.2.1, y61.2.1.2.2.1, y61.2.1.2.2.2.1, y61.2.1.2.2.2.2), (), y61.2.2.2))))

theorem cbor_walk_content_f84_l18_le : ∀ s, Le (cbor_walk_content_f84_l18_c s) (cbor_walk_content_f84_l18 s) := fun s => match s with
  | ((), (((), a1, a2, a3, a4), (), a5)) => by
    unfold cbor_walk_content_f84_l18_c cbor_walk_content_f84_l18
    exact
    (Le.cond
      (Le.bind (Le.refl _) fun y1 =>
      (Le.cond
        (Le.bind (Le.refl _) fun y2 =>
        (Le.bind (Le.refl _) fun y3 =>
        (Le.cond
          (Le.bind (Le.refl _) fun y4 =>
          (Le.cond
            (Le.refl _) (Le.refl _)))
          (Le.refl _)))) (Le.refl _)))
      (Le.refl _))
theorem cbor_walk_content_f84_j18_le : ∀ s, Le (cbor_walk_content_f84_j18_c s) (cbor_walk_content_f84_j18 s) := fun s => match s with
  | ((), (((), a1, a2, a3, a4), (), a5)) => by
    unfold cbor_walk_content_f84_j18_c cbor_walk_content_f84_j18
    exact
    (Le.bind (Le.loop cbor_walk_content_f84_l18_le _ _) fun y1 =>
    (Le.refl _))
theorem cbor_walk_content_f84_j13_le : ∀ s, Le (cbor_walk_content_f84_j13_c s) (cbor_walk_content_f84_j13 s) := fun s => match s with
  | (((), ()), (((), a1, a2, a3, a4), a5, (a6, a7, a8))) => by
    unfold cbor_walk_content_f84_j13_c cbor_walk_content_f84_j13
    exact
    (Le.cond
      (Le.cond
        (Le.bind (Le.refl _) fun y1 =>
        (Le.bind (cbor_walk_content_f84_j18_le _) fun y2 =>
        (Le.refl _))) (Le.refl _))
      (Le.cond
        (Le.bind (Le.refl _) fun y3 =>
        (Le.cond
          (Le.bind (Le.refl _) fun y4 =>
          (Le.bind (cbor_walk_content_f84_j18_le _) fun y5 =>
          (Le.refl _))) (Le.refl _)))
        (Le.bind (cbor_walk_content_f84_j18_le _) fun y6 =>
        (Le.refl _))))
theorem cbor_walk_content_f84_j9_le : ∀ s, Le (cbor_walk_content_f84_j9_c s) (cbor_walk_content_f84_j9 s) := fun s => match s with
  | (((), ()), (((), a1, a2, a3, a4), a5, (a6, a7, a8))) => by
    unfold cbor_walk_content_f84_j9_c cbor_walk_content_f84_j9
    exact
    (Le.cond
      (Le.bind (Le.refl _) fun y1 =>
      (Le.cond
        (Le.bind (Le.refl _) fun y2 =>
        (Le.bind (Le.refl _) fun y3 =>
        (Le.cond
          (Le.bind (Le.refl _) fun y4 =>
          (Le.bind (Le.refl _) fun y5 =>
          (Le.bind (Le.refl _) fun y6 =>
          (Le.bind (Le.refl _) fun y7 =>
          (Le.bind (Le.refl _) fun y8 =>
          (Le.bind (cbor_walk_content_f84_j13_le _) fun y9 =>
          (Le.refl _))))))) (Le.refl _)))) (Le.refl _)))
      (Le.bind (cbor_walk_content_f84_j13_le _) fun y10 =>
      (Le.refl _)))
theorem cbor_walk_content_f84_le (a1 : Int) (a2 : Int) (a3 : ByteArray) (a4 : Int) (a5 : Bool) (a6 : List Int) (a7 : Int) (a8 : List PD) : Le (cbor_walk_content_f84_c a1 a2 a3 a4 a5 a6 a7 a8) (cbor_walk_content_f84 a1 a2 a3 a4 a5 a6 a7 a8) := by
  unfold cbor_walk_content_f84_c cbor_walk_content_f84
  exact
    (Le.cond
      (Le.bind (Le.refl _) fun y1 =>
      (Le.cond
        (Le.refl _)
        (Le.bind (cbor_walk_isKey_c34_le _ _ _ _ _) fun y2 =>
        (Le.cond
          (Le.bind (Le.refl _) fun y3 =>
          (Le.cond
            (Le.bind (cbor_encode_le _ _ _) fun y4 =>
            (Le.bind (Le.refl _) fun y5 =>
            (Le.bind (Le.refl _) fun y6 =>
            (Le.cond
              (Le.bind (Le.refl _) fun y7 =>
              (Le.bind (Le.refl _) fun y8 =>
              (Le.cond
                (Le.refl _)
                (Le.bind (Le.refl _) fun y9 =>
                (Le.bind (Le.refl _) fun y10 =>
                (Le.cond
                  (Le.bind (Le.refl _) fun y11 =>
                  (Le.bind (Le.refl _) fun y12 =>
                  (Le.cond
                    (Le.refl _)
                    (Le.bind (Le.refl _) fun y13 =>
                    (Le.bind (Le.refl _) fun y14 =>
                    (Le.bind (Le.refl _) fun y15 =>
                    (Le.bind (Le.refl _) fun y16 =>
                    (Le.bind (Le.refl _) fun y17 =>
                    (Le.bind (cbor_walk_content_f84_j9_le _) fun y18 =>
                    (Le.refl _))))))))))
                  (Le.bind (Le.refl _) fun y19 =>
                  (Le.bind (Le.refl _) fun y20 =>
                  (Le.bind (Le.refl _) fun y21 =>
                  (Le.bind (Le.refl _) fun y22 =>
                  (Le.bind (Le.refl _) fun y23 =>
                  (Le.bind (cbor_walk_content_f84_j9_le _) fun y24 =>
                  (Le.refl _)))))))))))))
              (Le.bind (Le.refl _) fun y25 =>
              (Le.bind (Le.refl _) fun y26 =>
              (Le.bind (Le.refl _) fun y27 =>
              (Le.bind (Le.refl _) fun y28 =>
              (Le.bind (Le.refl _) fun y29 =>
              (Le.bind (cbor_walk_content_f84_j9_le _) fun y30 =>
              (Le.refl _))))))))))) (Le.refl _)))
          (Le.bind (cbor_walk_content_f84_j9_le _) fun y31 =>
          (Le.refl _))))))
      (Le.bind (cbor_walk_isKey_c34_le _ _ _ _ _) fun y32 =>
      (Le.cond
        (Le.bind (Le.refl _) fun y33 =>
        (Le.cond
          (Le.bind (cbor_encode_le _ _ _) fun y34 =>
          (Le.bind (Le.refl _) fun y35 =>
          (Le.bind (Le.refl _) fun y36 =>
          (Le.cond
            (Le.bind (Le.refl _) fun y37 =>
            (Le.bind (Le.refl _) fun y38 =>
            (Le.cond
              (Le.refl _)
              (Le.bind (Le.refl _) fun y39 =>
              (Le.bind (Le.refl _) fun y40 =>
              (Le.cond
                (Le.bind (Le.refl _) fun y41 =>
                (Le.bind (Le.refl _) fun y42 =>
                (Le.cond
                  (Le.refl _)
                  (Le.bind (Le.refl _) fun y43 =>
                  (Le.bind (Le.refl _) fun y44 =>
                  (Le.bind (Le.refl _) fun y45 =>
                  (Le.bind (Le.refl _) fun y46 =>
                  (Le.bind (Le.refl _) fun y47 =>
                  (Le.bind (cbor_walk_content_f84_j9_le _) fun y48 =>
                  (Le.refl _))))))))))
                (Le.bind (Le.refl _) fun y49 =>
                (Le.bind (Le.refl _) fun y50 =>
                (Le.bind (Le.refl _) fun y51 =>
                (Le.bind (Le.refl _) fun y52 =>
                (Le.bind (Le.refl _) fun y53 =>
                (Le.bind (cbor_walk_content_f84_j9_le _) fun y54 =>
                (Le.refl _)))))))))))))
            (Le.bind (Le.refl _) fun y55 =>
            (Le.bind (Le.refl _) fun y56 =>
            (Le.bind (Le.refl _) fun y57 =>
            (Le.bind (Le.refl _) fun y58 =>
            (Le.bind (Le.refl _) fun y59 =>
            (Le.bind (cbor_walk_content_f84_j9_le _) fun y60 =>
            (Le.refl _))))))))))) (Le.refl _)))
        (Le.bind (cbor_walk_content_f84_j9_le _) fun y61 =>
        (Le.refl _)))))

/-! cbor_decoder_next_c34_c: (*passkey/cbor.decoder).next -/
noncomputable def cbor_decoder_next_c34_j12_c : ((Unit × Unit × Int × Int × Unit) × ((Unit × Int × Bool × List Int × Int) × List PD × (Int × Int × ByteArray) × (Int × Int × ByteArray))) → Option (((Unit × Int) × ((Unit × Int × Bool × List Int × Int) × List PD × (Int × Int × ByteArray) × (Int × Int × ByteArray))) ⊕ ((Unit × Unit × Unit) × ((Unit × Int × Bool × List Int × Int) × List PD × (Int × Int × ByteArray) × (Int × Int × ByteArray)))) := fun s => match s with
  | (((), (), a1, a2, ()), (((), a3, a4, a5, a6), a7, (a8, a9, a10), (a11, a12, a13))) =>
    cond (decide (a2 > 1024)) (
      some (.inl (((), 8), (((), a3, a4, a5, a6), a7, (0, 0, (bs [])), (a11, a12, a13))))) (
      Option.bind (some ((IntKind.i64.wrap ((((a5.length) : Nat) : Int) - a6)) : Int)) fun y1 =>
      cond (decide ((IntKind.i64.wrap a2) > y1)) (
        some (.inl (((), 1), (((), a3, a4, a5, a6), a7, (0, 0, (bs [])), (a11, a12, a13))))) (
        Option.bind (some ((IntKind.i64.wrap (a6 + (IntKind.i64.wrap a2))) : Int)) fun y2 =>
        cond ((okBounds a6 y2 (a5.length)) && ((decide (y2 ≤ (((a5.length) : Nat) : Int))) && (decide ((((a5.length) : Nat) : Int) ≤ (((a5.length) : Nat) : Int))))) (
          Option.bind (some ((IntKind.i64.wrap (a6 + (IntKind.i64.wrap a2))) : Int)) fun y3 =>
          some (.inr (((), (), ()), (((), a3, a4, a5, y3), a7, (a8, a9, a10), (a1, 0, (strOf (cut a5 a6 y2))))))) none))
noncomputable def cbor_decoder_next_c34_j22_c : ((Unit × Unit × Unit) × ((Unit × Int × Bool × List Int × Int) × List PD × (Int × Int × ByteArray) × (Int × Int × ByteArray))) → Option ((Unit × Int) × ((Unit × Int × Bool × List Int × Int) × Unit × List PD × (Int × Int × ByteArray))) := fun s => match s with
  | (((), (), ()), (((), a1, a2, a3, a4), a5, (a6, a7, a8), (a9, a10, a11))) =>
    Option.bind (cbor_walk_content_f84_c a9 a10 a11 a1 a2 a3 a4 a5) fun y1 =>
    some (((), y1.1), (((), y1.2.1.2.1, y1.2.1.2.2.1, y1.2.1.2.2.2.1, y1.2.1.2.2.2.2), (), y1.2.2.2, (a9, a10, a11)))
noncomputable def cbor_decoder_next_c34_j18_c : ((Unit × Unit × Int × Unit × Int) × ((Unit × Int × Bool × List Int × Int) × List PD × (Int × Int × ByteArray) × (Int × Int × ByteArray))) → Option (((Unit × Int) × ((Unit × Int × Bool × List Int × Int) × List PD × (Int × Int × ByteArray) × (Int × Int × ByteArray))) ⊕ ((Unit × Unit × Unit) × ((Unit × Int × Bool × List Int × Int) × List PD × (Int × Int × ByteArray) × (Int × Int × ByteArray)))) := fun s => match s with
  | (((), (), a1, (), a2), (((), a3, a4, a5, a6), a7, (a8, a9, a10), (a11, a12, a13))) =>
    cond (a2 == 5) (
      cond (decide (a1 > 512)) (
        some (.inl (((), 8), (((), a3, a4, a5, a6), a7, (0, 0, (bs [])), (a11, a12, a13))))) (
        some (.inr (((), (), ()), (((), a3, a4, a5, a6), a7, (a8, a9, a10), (a11, a12, a13)))))) (
      cond (a2 == 6) (
        cond (decide (a1 > 512)) (
          some (.inl (((), 8), (((), a3, a4, a5, a6), a7, (0, 0, (bs [])), (a11, a12, a13))))) (
          some (.inr (((), (), ()), (((), a3, a4, a5, a6), a7, (a8, a9, a10), (a11, a12, a13)))))) (
        some (.inr (((), (), ()), (((), a3, a4, a5, a6), a7, (a8, a9, a10), (a11, a12, a13))))))
noncomputable def cbor_decoder_next_c34_c (a1 : Int) (a2 : Bool) (a3 : List Int) (a4 : Int) (a5 : List PD) : Option (((Int × Int × ByteArray) × Int) × ((Unit × Int × Bool × List Int × Int) × Unit × List PD)) :=
  cond ((okBounds a4 (((a3.length) : Nat) : Int) (a3.length)) && ((decide ((((a3.length) : Nat) : Int) ≤ (((a3.length) : Nat) : Int))) && (decide ((((a3.length) : Nat) : Int) ≤ (((a3.length) : Nat) : Int))))) (
    Option.bind (cbor_first_c (cut a3 a4 (((a3.length) : Nat) : Int))) fun y1 =>
    cond (y1.2.2.2 != 0) (
      some (((0, 0, (bs [])), y1.2.2.2), (((), a1, a2, a3, a4), (), a5))) (
      Option.bind (cbor_walk_enter_98d_c y1.1 a1 a2 a3 a4 a5) fun y2 =>
      cond (y2.1 != 0) (
        some (((0, 0, (bs [])), y2.1), (((), y2.2.1.2.1, y2.2.1.2.2.1, y2.2.1.2.2.2.1, y2.2.1.2.2.2.2), (), y2.2.2))) (
        Option.bind (some ((IntKind.i64.wrap (y2.2.1.2.2.2.2 + y1.2.2.1)) : Int)) fun y3 =>
        cond (y1.1 == 3) (
          Option.bind (cbor_decoder_next_c34_j12_c (((), (), y1.1, y1.2.1, ()), (((), y2.2.1.2.1, y2.2.1.2.2.1, y2.2.1.2.2.2.1, y3), y2.2.2, (0, 0, (bs [])), (y1.1, y1.2.1, (bs []))))) fun y4 =>
          match y4 with
          | (.inl y5) =>
            some (((y5.2.2.2.1.1, y5.2.2.2.1.2.1, y5.2.2.2.1.2.2), y5.1.2), (((), y5.2.1.2.1, y5.2.1.2.2.1, y5.2.1.2.2.2.1, y5.2.1.2.2.2.2), (), y5.2.2.1))
          | (.inr y6) =>
            Option.bind (cbor_decoder_next_c34_j22_c (((), (), ()), (((), y6.2.1.2.1, y6.2.1.2.2.1, y6.2.1.2.2.2.1, y6.2.1.2.2.2.2), y6.2.2.1, (y6.2.2.2.1.1, y6.2.2.2.1.2.1, y6.2.2.2.1.2.2), (y6.2.2.2.2.1, y6.2.2.2.2.2.1, y6.2.2.2.2.2.2)))) fun y7 =>
            some (((y7.2.2.2.2.1, y7.2.2.2.2.2.1, y7.2.2.2.2.2.2), y7.1.2), (((), y7.2.1.2.1, y7.2.1.2.2.1, y7.2.1.2.2.2.1, y7.2.1.2.2.2.2), (), y7.2.2.2.1))) (
          cond (y1.1 == 4) (
            Option.bind (cbor_decoder_next_c34_j12_c (((), (), y1.1, y1.2.1, ()), (((), y2.2.1.2.1, y2.2.1.2.2.1, y2.2.1.2.2.2.1, y3), y2.2.2, (0, 0, (bs [])), (y1.1, y1.2.1, (bs []))))) fun y8 =>
            match y8 with
            | (.inl y9) =>
              some (((y9.2.2.2.1.1, y9.2.2.2.1.2.1, y9.2.2.2.1.2.2), y9.1.2), (((), y9.2.1.2.1, y9.2.1.2.2.1, y9.2.1.2.2.2.1, y9.2.1.2.2.2.2), (), y9.2.2.1))
            | (.inr y10) =>
              Option.bind (cbor_decoder_next_c34_j22_c (((), (), ()), (((), y10.2.1.2.1, y10.2.1.2.2.1, y10.2.1.2.2.2.1, y10.2.1.2.2.2.2), y10.2.2.1, (y10.2.2.2.1.1, y10.2.2.2.1.2.1, y10.2.2.2.1.2.2), (y10.2.2.2.2.1, y10.2.2.2.2.2.1, y10.2.2.2.2.2.2)))) fun y11 =>
              some (((y11.2.2.2.2.1, y11.2.2.2.2.2.1, y11.2.2.2.2.2.2), y11.1.2), (((), y11.2.1.2.1, y11.2.1.2.2.1, y11.2.1.2.2.2.1, y11.2.1.2.2.2.2), (), y11.2.2.2.1))) (
            Option.bind (cbor_decoder_next_c34_j18_c (((), (), y1.2.1, (), y1.1), (((), y2.2.1.2.1, y2.2.1.2.2.1, y2.2.1.2.2.2.1, y3), y2.2.2, (0, 0, (bs [])), (y1.1, y1.2.1, (bs []))))) fun y12 =>
            match y12 with
            | (.inl y13) =>
              some (((y13.2.2.2.1.1, y13.2.2.2.1.2.1, y13.2.2.2.1.2.2), y13.1.2), (((), y13.2.1.2.1, y13.2.1.2.2.1, y13.2.1.2.2.2.1, y13.2.1.2.2.2.2), (), y13.2.2.1))
            | (.inr y14) =>
              Option.bind (cbor_decoder_next_c34_j22_c (((), (), ()), (((), y14.2.1.2.1, y14.2.1.2.2.1, y14.2.1.2.2.2.1, y14.2.1.2.2.2.2), y14.2.2.1, (y14.2.2.2.1.1, y14.2.2.2.1.2.1, y14.2.2.2.1.2.2), (y14.2.2.2.2.1, y14.2.2.2.2.2.1, y14.2.2.2.2.2.2)))) fun y15 =>
              some (((y15.2.2.2.2.1, y15.2.2.2.2.2.1, y15.2.2.2.2.2.2), y15.1.2), (((), y15.2.1.2.1, y15.2.1.2.2.1, y15.2.1.2.2.2.1, y15.2.1.2.2.2.2), (), y15.2.2.2.1))))))) none

theorem cbor_decoder_next_c34_j12_le : ∀ s, Le (cbor_decoder_next_c34_j12_c s) (cbor_decoder_next_c34_j12 s) := fun s => match s with
  | (((), (), a1, a2, ()), (((), a3, a4, a5, a6), a7, (a8, a9, a10), (a11, a12, a13))) => by
    unfold cbor_decoder_next_c34_j12_c cbor_decoder_next_c34_j12
    exact
    (Le.cond
      (Le.refl _)
      (Le.bind (Le.refl _) fun y1 =>
      (Le.cond
        (Le.refl _)
        (Le.bind (Le.refl _) fun y2 =>
        (Le.cond
          (Le.bind (Le.refl _) fun y3 =>
          (Le.refl _)) (Le.refl _))))))
theorem cbor_decoder_next_c34_j22_le : ∀ s, Le (cbor_decoder_next_c34_j22_c s) (cbor_decoder_next_c34_j22 s) := fun s => match s with
  | (((), (), ()), (((), a1, a2, a3, a4), a5, (a6, a7, a8), (a9, a10, a11))) => by
    unfold cbor_decoder_next_c34_j22_c cbor_decoder_next_c34_j22
    exact
    (Le.bind (cbor_walk_content_f84_le _ _ _ _ _ _ _ _) fun y1 =>
    (Le.refl _))
theorem cbor_decoder_next_c34_j18_le : ∀ s, Le (cbor_decoder_next_c34_j18_c s) (cbor_decoder_next_c34_j18 s) := fun s => match s with
  | (((), (), a1, (), a2), (((), a3, a4, a5, a6), a7, (a8, a9, a10), (a11, a12, a13))) => by
    unfold cbor_decoder_next_c34_j18_c cbor_decoder_next_c34_j18
    exact
    (Le.cond
      (Le.cond
        (Le.refl _)
        (Le.refl _))
      (Le.cond
        (Le.cond
          (Le.refl _)
          (Le.refl _))
        (Le.refl _)))
theorem cbor_decoder_next_c34_le (a1 : Int) (a2 : Bool) (a3 : List Int) (a4 : Int) (a5 : List PD) : Le (cbor_decoder_next_c34_c a1 a2 a3 a4 a5) (cbor_decoder_next_c34 a1 a2 a3 a4 a5) := by
  unfold cbor_decoder_next_c34_c cbor_decoder_next_c34
  exact
    (Le.cond
      (Le.bind (cbor_first_le _) fun y1 =>
      (Le.cond
        (Le.refl _)
        (Le.bind (cbor_walk_enter_98d_le _ _ _ _ _ _) fun y2 =>
        (Le.cond
          (Le.refl _)
          (Le.bind (Le.refl _) fun y3 =>
          (Le.cond
            (Le.bind (cbor_decoder_next_c34_j12_le _) fun y4 =>
            (match y4 with
            | (.inl y5) =>
              (Le.refl _)
            | (.inr y6) =>
              (Le.bind (cbor_decoder_next_c34_j22_le _) fun y7 =>
              (Le.refl _))))
            (Le.cond
              (Le.bind (cbor_decoder_next_c34_j12_le _) fun y8 =>
              (match y8 with
              | (.inl y9) =>
                (Le.refl _)
              | (.inr y10) =>
                (Le.bind (cbor_decoder_next_c34_j22_le _) fun y11 =>
                (Le.refl _))))
              (Le.bind (cbor_decoder_next_c34_j18_le _) fun y12 =>
              (match y12 with
              | (.inl y13) =>
                (Le.refl _)
              | (.inr y14) =>
                (Le.bind (cbor_decoder_next_c34_j22_le _) fun y15 =>
                (Le.refl _))))))))))) (Le.refl _))

/-! cbor_Decode_c: passkey/cbor.Decode -/
noncomputable def cbor_Decode_l2_c : ((Unit × Unit) × (List PD × (Unit × Int × Bool × List Int × Int) × List PD)) → Option (((Unit × Unit) × (List PD × (Unit × Int × Bool × List Int × Int) × List PD)) ⊕ (((List PD × Int × Int) × ((Unit × Int × Bool × List Int × Int) × List PD)) ⊕ ((Unit × Unit) × (List PD × (Unit × Int × Bool × List Int × Int) × List PD)))) := fun s => match s with
  | (((), ()), (a1, ((), a2, a3, a4, a5), a6)) =>
    cond (!a3) (
      Option.bind (cbor_decoder_next_c34_c a2 a3 a4 a5 a6) fun y1 =>
      cond (y1.1.2 != 0) (
        some (.inr (.inl (([], 0, y1.1.2), (((), y1.2.1.2.1, y1.2.1.2.2.1, y1.2.1.2.2.2.1, y1.2.1.2.2.2.2), y1.2.2.2))))) (
        cond (decide (((a1 ++ [(PD.agg [(.int .i64 y1.1.1.1), (.int .u64 y1.1.1.2.1), (.str y1.1.1.2.2)])]).length) * 32 ≤ 140737488355328)) (
          Option.bind (some ((a1 ++ [(PD.agg [(.int .i64 y1.1.1.1), (.int .u64 y1.1.1.2.1), (.str y1.1.1.2.2)])]) : List PD)) fun y2 =>
          some (.inl (((), ()), (y2, ((), y1.2.1.2.1, y1.2.1.2.2.1, y1.2.1.2.2.2.1, y1.2.1.2.2.2.2), y1.2.2.2)))) none)) (
      some (.inr (.inr (((), ()), (a1, ((), a2, a3, a4, a5), a6)))))
noncomputable def cbor_Decode_c (a1 : List Int) : Option (List PD × Int × Int) :=
  Option.bind (loopN fuel cbor_Decode_l2_c (((), ()), ([], ((), 0, false, a1, 0), []))) fun y1 =>
  match y1 with
  | (.inl y2) =>
    some (y2.1.1, y2.1.2.1, y2.1.2.2)
  | (.inr y3) =>
    some (y3.2.1, y3.2.2.1.2.2.2.2, 0)

theorem cbor_Decode_l2_le : ∀ s, Le (cbor_Decode_l2_c s) (cbor_Decode_l2 s) := fun s => match s with
  | (((), ()), (a1, ((), a2, a3, a4, a5), a6)) => by
    unfold cbor_Decode_l2_c cbor_Decode_l2
    exact
    (Le.cond
      (Le.bind (cbor_decoder_next_c34_le _ _ _ _ _) fun y1 =>
      (Le.cond
        (Le.refl _)
        (Le.cond
          (Le.bind (Le.refl _) fun y2 =>
          (Le.refl _)) (Le.refl _))))
      (Le.refl _))
theorem cbor_Decode_le (a1 : List Int) : Le (cbor_Decode_c a1) (cbor_Decode a1) := by
  unfold cbor_Decode_c cbor_Decode
  exact
    (Le.bind (Le.loop cbor_Decode_l2_le _ _) fun y1 =>
    (match y1 with
    | (.inl y2) =>
      (Le.refl _)
    | (.inr y3) =>
      (Le.refl _)))

/-! credential_prefix_1_467_c: passkey/credential.prefix$1 -/
noncomputable def credential_prefix_1_467_c (a1 : Int) (a2 : List PD) : Option ((Int × Int × ByteArray) × List PD) :=
  Option.bind (getI a2 (IntKind.i64.wrap (2 * a1))) fun y1 =>
  Option.bind (PD.intAt .i64 y1 0) fun y2 =>
  Option.bind (PD.intAt .u64 y1 1) fun y3 =>
  Option.bind (PD.strAt y1 2) fun y4 =>
  some ((y2, y3, y4), a2)

theorem credential_prefix_1_467_le (a1 : Int) (a2 : List PD) : Le (credential_prefix_1_467_c a1 a2) (credential_prefix_1_467 a1 a2) := by
  unfold credential_prefix_1_467_c credential_prefix_1_467
  exact
    (Le.bind (Le.refl _) fun y1 =>
    (Le.bind (Le.refl _) fun y2 =>
    (Le.bind (Le.refl _) fun y3 =>
    (Le.bind (Le.refl _) fun y4 =>
    (Le.refl _)))))

/-! credential_prefix_2_f17_c: passkey/credential.prefix$2 -/
noncomputable def credential_prefix_2_f17_c (a1 : Int) (a2 : List PD) : Option (Int × ((Unit × Unit) × List PD)) :=
  Option.bind (credential_prefix_1_467_c a1 a2) fun y1 =>
  Option.bind (some ((if 255 < y1.1.2.1 then 255 else y1.1.2.1) : Int)) fun y2 =>
  some ((IntKind.i64.wrap y2), (((), ()), y1.2))

theorem credential_prefix_2_f17_le (a1 : Int) (a2 : List PD) : Le (credential_prefix_2_f17_c a1 a2) (credential_prefix_2_f17 a1 a2) := by
  unfold credential_prefix_2_f17_c credential_prefix_2_f17
  exact
    (Le.bind (credential_prefix_1_467_le _ _) fun y1 =>
    (Le.bind (Le.refl _) fun y2 =>
    (Le.refl _)))

/-! credential_prefix_3_f17_c: passkey/credential.prefix$3 -/
noncomputable def credential_prefix_3_f17_c (a1 : Int) (a2 : List PD) : Option (Bool × ((Unit × Unit) × List PD)) :=
  Option.bind (credential_prefix_1_467_c a1 a2) fun y1 =>
  some ((y1.1.2.1 == 1), (((), ()), y1.2))

theorem credential_prefix_3_f17_le (a1 : Int) (a2 : List PD) : Le (credential_prefix_3_f17_c a1 a2) (credential_prefix_3_f17 a1 a2) := by
  unfold credential_prefix_3_f17_c credential_prefix_3_f17
  exact
    (Le.bind (credential_prefix_1_467_le _ _) fun y1 =>
    (Le.refl _))

/-! bytes_Equal_c: bytes.Equal -/
noncomputable def bytes_Equal_c (a1 : List Int) (a2 : List Int) : Option Bool :=
  some (strEq (strOf a1) (strOf a2))

theorem bytes_Equal_le (a1 : List Int) (a2 : List Int) : Le (bytes_Equal_c a1 a2) (bytes_Equal a1 a2) := by
  unfold bytes_Equal_c bytes_Equal
  exact
    (Le.refl _)

/-! credential_prefix_c: passkey/credential.prefix -/
noncomputable def credential_prefix_j3_c : (Unit × (ByteArray × ByteArray × ByteArray × Int × Int × Bool × Int × Bool × Bool)) → Option ((Unit × Int × Int) × (ByteArray × ByteArray × ByteArray × Int × Int × Bool × Int × Bool × Bool)) := fun s => match s with
  | ((), (a1, a2, a3, a4, a5, a6, a7, a8, a9)) =>
    some (((), 0, 2), ((bs []), (bs []), (bs []), 0, 0, false, 0, false, false))
noncomputable def credential_prefix_j10_c : (Unit × (ByteArray × ByteArray × ByteArray × Int × Int × Bool × Int × Bool × Bool)) → Option ((Unit × Int × Int) × (ByteArray × ByteArray × ByteArray × Int × Int × Bool × Int × Bool × Bool)) := fun s => match s with
  | ((), (a1, a2, a3, a4, a5, a6, a7, a8, a9)) =>
    some (((), 0, 2), ((bs []), (bs []), (bs []), 0, 0, false, 0, false, false))
noncomputable def credential_prefix_c (a1 : List Int) : Option ((ByteArray × ByteArray × ByteArray × Int × Int × Bool × Int × Bool × Bool) × Int × Int) :=
  Option.bind (cbor_Decode_c a1) fun y1 =>
  cond (y1.2.2 != 0) (
    Option.bind (credential_prefix_j3_c ((), ((bs []), (bs []), (bs []), 0, 0, false, 0, false, false))) fun y2 =>
    some ((y2.2.1, y2.2.2.1, y2.2.2.2.1, y2.2.2.2.2.1, y2.2.2.2.2.2.1, y2.2.2.2.2.2.2.1, y2.2.2.2.2.2.2.2.1, y2.2.2.2.2.2.2.2.2.1, y2.2.2.2.2.2.2.2.2.2), y2.1.2.1, y2.1.2.2)) (
    cond ((((y1.1.length) : Nat) : Int) != 19) (
      Option.bind (credential_prefix_j3_c ((), ((bs []), (bs []), (bs []), 0, 0, false, 0, false, false))) fun y3 =>
      some ((y3.2.1, y3.2.2.1, y3.2.2.2.1, y3.2.2.2.2.1, y3.2.2.2.2.2.1, y3.2.2.2.2.2.2.1, y3.2.2.2.2.2.2.2.1, y3.2.2.2.2.2.2.2.2.1, y3.2.2.2.2.2.2.2.2.2), y3.1.2.1, y3.1.2.2)) (
      Option.bind (credential_prefix_1_467_c 1 y1.1) fun y4 =>
      Option.bind (credential_prefix_1_467_c 2 y4.2) fun y5 =>
      Option.bind (credential_prefix_1_467_c 3 y5.2) fun y6 =>
      Option.bind (credential_prefix_1_467_c 4 y6.2) fun y7 =>
      Option.bind (credential_prefix_2_f17_c 5 y7.2) fun y8 =>
      Option.bind (credential_prefix_3_f17_c 6 y8.2.2) fun y9 =>
      Option.bind (credential_prefix_2_f17_c 7 y9.2.2) fun y10 =>
      Option.bind (credential_prefix_3_f17_c 8 y10.2.2) fun y11 =>
      Option.bind (credential_prefix_3_f17_c 9 y11.2.2) fun y12 =>
      Option.bind (credential_Encode_c y4.1.2.2 y5.1.2.2 y6.1.2.2 y7.1.2.1 y8.1 y9.1 y10.1 y11.1 y12.1) fun y13 =>
      cond (y13.1.2 != 0) (
        Option.bind (credential_prefix_j10_c ((), ((bs []), (bs []), (bs []), 0, 0, false, 0, false, false))) fun y14 =>
        some ((y14.2.1, y14.2.2.1, y14.2.2.2.1, y14.2.2.2.2.1, y14.2.2.2.2.2.1, y14.2.2.2.2.2.2.1, y14.2.2.2.2.2.2.2.1, y14.2.2.2.2.2.2.2.2.1, y14.2.2.2.2.2.2.2.2.2), y14.1.2.1, y14.1.2.2)) (
        cond ((okBounds 0 y1.2.1 (a1.length)) && ((decide (y1.2.1 ≤ (((a1.length) : Nat) : Int))) && (decide ((((a1.length) : Nat) : Int) ≤ (((a1.length) : Nat) : Int))))) (
          Option.bind (bytes_Equal_c y13.2 (cut a1 0 y1.2.1)) fun y15 =>
          cond (!y15) (
            Option.bind (credential_prefix_j10_c ((), ((bs []), (bs []), (bs []), 0, 0, false, 0, false, false))) fun y16 =>
            some ((y16.2.1, y16.2.2.1, y16.2.2.2.1, y16.2.2.2.2.1, y16.2.2.2.2.2.1, y16.2.2.2.2.2.2.1, y16.2.2.2.2.2.2.2.1, y16.2.2.2.2.2.2.2.2.1, y16.2.2.2.2.2.2.2.2.2), y16.1.2.1, y16.1.2.2)) (
            some ((y4.1.2.2, y5.1.2.2, y6.1.2.2, y7.1.2.1, y8.1, y9.1, y10.1, y11.1, y12.1), y1.2.1, 0))) none)))

theorem credential_prefix_j3_le : ∀ s, Le (credential_prefix_j3_c s) (credential_prefix_j3 s) := fun s => match s with
  | ((), (a1, a2, a3, a4, a5, a6, a7, a8, a9)) => by
    unfold credential_prefix_j3_c credential_prefix_j3
    exact
    (Le.refl _)
theorem credential_prefix_j10_le : ∀ s, Le (credential_prefix_j10_c s) (credential_prefix_j10 s) := fun s => match s with
  | ((), (a1, a2, a3, a4, a5, a6, a7, a8, a9)) => by
    unfold credential_prefix_j10_c credential_prefix_j10
    exact
    (Le.refl _)
theorem credential_prefix_le (a1 : List Int) : Le (credential_prefix_c a1) (credential_prefix a1) := by
  unfold credential_prefix_c credential_prefix
  exact
    (Le.bind (cbor_Decode_le _) fun y1 =>
    (Le.cond
      (Le.bind (credential_prefix_j3_le _) fun y2 =>
      (Le.refl _))
      (Le.cond
        (Le.bind (credential_prefix_j3_le _) fun y3 =>
        (Le.refl _))
        (Le.bind (credential_prefix_1_467_le _ _) fun y4 =>
        (Le.bind (credential_prefix_1_467_le _ _) fun y5 =>
        (Le.bind (credential_prefix_1_467_le _ _) fun y6 =>
        (Le.bind (credential_prefix_1_467_le _ _) fun y7 =>
        (Le.bind (credential_prefix_2_f17_le _ _) fun y8 =>
        (Le.bind (credential_prefix_3_f17_le _ _) fun y9 =>
        (Le.bind (credential_prefix_2_f17_le _ _) fun y10 =>
        (Le.bind (credential_prefix_3_f17_le _ _) fun y11 =>
        (Le.bind (credential_prefix_3_f17_le _ _) fun y12 =>
        (Le.bind (credential_Encode_le _ _ _ _ _ _ _ _ _) fun y13 =>
        (Le.cond
          (Le.bind (credential_prefix_j10_le _) fun y14 =>
          (Le.refl _))
          (Le.cond
            (Le.bind (bytes_Equal_le _ _) fun y15 =>
            (Le.cond
              (Le.bind (credential_prefix_j10_le _) fun y16 =>
              (Le.refl _))
              (Le.refl _))) (Le.refl _))))))))))))))))

/-! bytes_trimRightByte_c: bytes.trimRightByte -/
noncomputable def bytes_trimRightByte_l1_c : (List Int × Int) → Option ((List Int × Int) ⊕ List Int) := fun s => match s with
  | (a1, a2) =>
    cond (decide ((((a1.length) : Nat) : Int) > 0)) (
      Option.bind (some ((IntKind.i64.wrap ((((a1.length) : Nat) : Int) - 1)) : Int)) fun y1 =>
      Option.bind (getI a1 y1) fun y2 =>
      cond (y2 == a2) (
        Option.bind (some ((IntKind.i64.wrap ((((a1.length) : Nat) : Int) - 1)) : Int)) fun y3 =>
        cond ((okBounds 0 y3 (a1.length)) && ((decide (y3 ≤ (((a1.length) : Nat) : Int))) && (decide ((((a1.length) : Nat) : Int) ≤ (((a1.length) : Nat) : Int))))) (
          some (.inl ((cut a1 0 y3), a2))) none) (
        some (.inr a1))) (
      some (.inr a1))
noncomputable def bytes_trimRightByte_c (a1 : List Int) (a2 : Int) : Option (List Int) :=
  Option.bind (loopN fuel bytes_trimRightByte_l1_c (a1, a2)) fun y1 =>
  some y1

theorem bytes_trimRightByte_l1_le : ∀ s, Le (bytes_trimRightByte_l1_c s) (bytes_trimRightByte_l1 s) := fun s => match s with
  | (a1, a2) => by
    unfold bytes_trimRightByte_l1_c bytes_trimRightByte_l1
    exact
    (Le.cond
      (Le.bind (Le.refl _) fun y1 =>
      (Le.bind (Le.refl _) fun y2 =>
      (Le.cond
        (Le.bind (Le.refl _) fun y3 =>
        (Le.cond
          (Le.refl _) (Le.refl _)))
        (Le.refl _))))
      (Le.refl _))
theorem bytes_trimRightByte_le (a1 : List Int) (a2 : Int) : Le (bytes_trimRightByte_c a1 a2) (bytes_trimRightByte a1 a2) := by
  unfold bytes_trimRightByte_c bytes_trimRightByte
  exact
    (Le.bind (Le.loop bytes_trimRightByte_l1_le _ _) fun y1 =>
    (Le.refl _))

/-! bytes_trimLeftByte_c: bytes.trimLeftByte -/
noncomputable def bytes_trimLeftByte_l1_c : (List Int × Int) → Option ((List Int × Int) ⊕ List Int) := fun s => match s with
  | (a1, a2) =>
    cond (decide ((((a1.length) : Nat) : Int) > 0)) (
      Option.bind (getI a1 0) fun y1 =>
      cond (y1 == a2) (
        cond ((okBounds 1 (((a1.length) : Nat) : Int) (a1.length)) && ((decide ((((a1.length) : Nat) : Int) ≤ (((a1.length) : Nat) : Int))) && (decide ((((a1.length) : Nat) : Int) ≤ (((a1.length) : Nat) : Int))))) (
          some (.inl ((cut a1 1 (((a1.length) : Nat) : Int)), a2))) none) (
        some (.inr a1))) (
      some (.inr a1))
noncomputable def bytes_trimLeftByte_c (a1 : List Int) (a2 : Int) : Option (List Int) :=
  Option.bind (loopN fuel bytes_trimLeftByte_l1_c (a1, a2)) fun y1 =>
  cond ((((y1.length) : Nat) : Int) == 0) (
    some []) (
    some y1)

theorem bytes_trimLeftByte_l1_le : ∀ s, Le (bytes_trimLeftByte_l1_c s) (bytes_trimLeftByte_l1 s) := fun s => match s with
  | (a1, a2) => by
    unfold bytes_trimLeftByte_l1_c bytes_trimLeftByte_l1
    exact
    (Le.cond
      (Le.bind (Le.refl _) fun y1 =>
      (Le.cond
        (Le.cond
          (Le.refl _) (Le.refl _))
        (Le.refl _)))
      (Le.refl _))
theorem bytes_trimLeftByte_le (a1 : List Int) (a2 : Int) : Le (bytes_trimLeftByte_c a1 a2) (bytes_trimLeftByte a1 a2) := by
  unfold bytes_trimLeftByte_c bytes_trimLeftByte
  exact
    (Le.bind (Le.loop bytes_trimLeftByte_l1_le _ _) fun y1 =>
    (Le.cond
      (Le.refl _)
      (Le.refl _)))

/-! bytes_Trim_c: bytes.Trim -/
noncomputable def bytes_Trim_j6_c : (List Int × ByteArray) → Option (List Int) := fun s => match s with
  | (a1, a2) =>
    Option.bind (strI a2 0) fun y1 =>
    Option.bind (bytes_trimRightByte_c a1 y1) fun y2 =>
    Option.bind (strI a2 0) fun y3 =>
    Option.bind (bytes_trimLeftByte_c y2 y3) fun y4 =>
    some y4
noncomputable def bytes_Trim_c (a1 : List Int) (a2 : ByteArray) : Option (List Int) :=
  cond ((((a1.length) : Nat) : Int) == 0) (
    some []) (
    cond (strEq a2 (bs [])) (
      some a1) (
      cond ((((a2.size) : Nat) : Int) == 1) (
        Option.bind (strI a2 0) fun y1 =>
        cond (decide (y1 < 128)) (
          Option.bind (bytes_Trim_j6_c (a1, a2)) fun y2 =>
          some y2) (
          none)) (
        none)))

theorem bytes_Trim_j6_le : ∀ s, Le (bytes_Trim_j6_c s) (bytes_Trim_j6 s) := fun s => match s with
  | (a1, a2) => by
    unfold bytes_Trim_j6_c bytes_Trim_j6
    exact
    (Le.bind (Le.refl _) fun y1 =>
    (Le.bind (bytes_trimRightByte_le _ _) fun y2 =>
    (Le.bind (Le.refl _) fun y3 =>
    (Le.bind (bytes_trimLeftByte_le _ _) fun y4 =>
    (Le.refl _)))))
theorem bytes_Trim_le (a1 : List Int) (a2 : ByteArray) : Le (bytes_Trim_c a1 a2) (bytes_Trim a1 a2) := by
  unfold bytes_Trim_c bytes_Trim
  exact
    (Le.cond
      (Le.refl _)
      (Le.cond
        (Le.refl _)
        (Le.cond
          (Le.bind (Le.refl _) fun y1 =>
          (Le.cond
            (Le.bind (bytes_Trim_j6_le _) fun y2 =>
            (Le.refl _))
            (Le.refl _)))
          (Le.refl _))))

/-! credential_Unwrap_c: passkey/credential.Unwrap -/
noncomputable def credential_Unwrap_c (a1 : Int) (a2 : ByteArray) (a3 : List Int) : Option ((ByteArray × ByteArray × ByteArray × Int × Int × Bool × Int × Bool × Bool) × Int) :=
  cond ((((a3.length) : Nat) : Int) != 176) (
    some (((bs []), (bs []), (bs []), 0, 0, false, 0, false, false), 4)) (
    Option.bind (credential_wrap_c a1 a2) fun y1 =>
    Option.bind (seal_Open_c y1.1.1 y1.2 a3) fun y2 =>
    cond (y2.1.2 != 0) (
      some (((bs []), (bs []), (bs []), 0, 0, false, 0, false, false), y2.1.2)) (
      Option.bind (credential_prefix_c y2.2) fun y3 =>
      cond (y3.2.2 != 0) (
        some (((bs []), (bs []), (bs []), 0, 0, false, 0, false, false), 2)) (
        cond (okBounds y3.2.1 (((y2.2.length) : Nat) : Int) (y2.2.length)) (
          Option.bind (some ((cut y2.2 y3.2.1 (((y2.2.length) : Nat) : Int)) : List Int)) fun y4 =>
          Option.bind (bytes_Trim_c y4 (bs [0])) fun y5 =>
          cond (decide ((((y5.length) : Nat) : Int) > 0)) (
            some (((bs []), (bs []), (bs []), 0, 0, false, 0, false, false), 2)) (
            cond y3.1.2.2.2.2.2.1 (
              some (((bs []), (bs []), (bs []), 0, 0, false, 0, false, false), 11)) (
              cond (!(strEq y3.1.1 a2)) (
                some (((bs []), (bs []), (bs []), 0, 0, false, 0, false, false), 11)) (
                some ((y3.1.1, y3.1.2.1, y3.1.2.2.1, y3.1.2.2.2.1, y3.1.2.2.2.2.1, y3.1.2.2.2.2.2.1, y3.1.2.2.2.2.2.2.1, y3.1.2.2.2.2.2.2.2.1, y3.1.2.2.2.2.2.2.2.2), 0))))) none)))

theorem credential_Unwrap_le (a1 : Int) (a2 : ByteArray) (a3 : List Int) : Le (credential_Unwrap_c a1 a2 a3) (credential_Unwrap a1 a2 a3) := by
  unfold credential_Unwrap_c credential_Unwrap
  exact
    (Le.cond
      (Le.refl _)
      (Le.bind (credential_wrap_le _ _) fun y1 =>
      (Le.bind (seal_Open_le _ _ _) fun y2 =>
      (Le.cond
        (Le.refl _)
        (Le.bind (credential_prefix_le _) fun y3 =>
        (Le.cond
          (Le.refl _)
          (Le.cond
            (Le.bind (Le.refl _) fun y4 =>
            (Le.bind (bytes_Trim_le _ _) fun y5 =>
            (Le.cond
              (Le.refl _)
              (Le.cond
                (Le.refl _)
                (Le.cond
                  (Le.refl _)
                  (Le.refl _)))))) (Le.refl _))))))))

/-! law15_awake_c: passkey/passkeylaw15.awake -/
noncomputable def law15_awake_c : Option Bool :=
  Option.bind (credential_ID_c 7 8 (bs [97, 46, 101, 120, 97, 109, 112, 108, 101]) (bs [117]) (bs []) 3 1 false 1 false false) fun y1 =>
  Option.bind (credential_Unwrap_c 7 (bs [97, 46, 101, 120, 97, 109, 112, 108, 101]) y1.2) fun y2 =>
  Option.bind (credential_Unwrap_c 7 (bs [98, 46, 101, 120, 97, 109, 112, 108, 101]) y1.2) fun y3 =>
  cond (y1.1.2 == 0) (
    cond (y2.2 == 0) (
      cond (y3.2 == 14) (
        Option.bind (some (((strEq y2.1.1 (bs [97, 46, 101, 120, 97, 109, 112, 108, 101])) && ((strEq y2.1.2.1 (bs [117])) && ((strEq y2.1.2.2.1 (bs [])) && ((y2.1.2.2.2.1 == 3) && ((y2.1.2.2.2.2.1 == 1) && ((y2.1.2.2.2.2.2.1 == false) && ((y2.1.2.2.2.2.2.2.1 == 1) && ((y2.1.2.2.2.2.2.2.2.1 == false) && ((y2.1.2.2.2.2.2.2.2.2 == false) && true))))))))) : Bool)) fun y4 =>
        cond y4 (
          cond ((((y1.2.length) : Nat) : Int) == 176) (
            Option.bind (credential_Validate_c (bs []) (bs []) (bs []) 0 0 false 0 false false) fun y5 =>
            some (y5 == 9)) (
            some false)) (
          some false)) (
        some false)) (
      some false)) (
    some false)

theorem law15_awake_le : Le (law15_awake_c) (law15_awake) := by
  unfold law15_awake_c law15_awake
  exact
    (Le.bind (credential_ID_le _ _ _ _ _ _ _ _ _ _ _) fun y1 =>
    (Le.bind (credential_Unwrap_le _ _ _) fun y2 =>
    (Le.bind (credential_Unwrap_le _ _ _) fun y3 =>
    (Le.cond
      (Le.cond
        (Le.cond
          (Le.bind (Le.refl _) fun y4 =>
          (Le.cond
            (Le.cond
              (Le.bind (credential_Validate_le _ _ _ _ _ _ _ _ _) fun y5 =>
              (Le.refl _))
              (Le.refl _))
            (Le.refl _)))
          (Le.refl _))
        (Le.refl _))
      (Le.refl _)))))

end Go.Px
