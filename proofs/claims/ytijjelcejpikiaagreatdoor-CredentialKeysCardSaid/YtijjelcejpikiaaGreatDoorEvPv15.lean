/-
The values of the functions that the laws of chapter 15 reach, as Lean functions. Printed by a program.
-/
import Derived.Test.YtijjelcejpikiaaGreatDoorEvHoare
import Derived.Lib.ValidU
import Derived.Lib.DecodeN
set_option linter.unusedVariables false
namespace Go.Px
open Go Go.Ev
def bs (l : List UInt8) : ByteArray := ⟨l.toArray⟩
/-- The table utf8.first; closed, so that nothing unfolds it. -/
noncomputable def tabFirst : List Int := Classical.choose (Exists.intro ((List.range 256).map fun c => ((Lib.firstT c : Nat) : Int)) rfl : ∃ l : List Int, l = (List.range 256).map fun c => ((Lib.firstT c : Nat) : Int))
theorem tabFirst_eq : tabFirst = (List.range 256).map fun c => ((Lib.firstT c : Nat) : Int) := Classical.choose_spec (Exists.intro ((List.range 256).map fun c => ((Lib.firstT c : Nat) : Int)) rfl : ∃ l : List Int, l = (List.range 256).map fun c => ((Lib.firstT c : Nat) : Int))
/-- The table utf8.acceptRanges, cell by cell. -/
noncomputable def tabAccept : List Int := Classical.choose (Exists.intro ((List.range 32).map fun c => (((if c % 2 = 0 then Lib.accLo (c / 2) else Lib.accHi (c / 2)) : Nat) : Int)) rfl : ∃ l : List Int, l = (List.range 32).map fun c => (((if c % 2 = 0 then Lib.accLo (c / 2) else Lib.accHi (c / 2)) : Nat) : Int))
theorem tabAccept_eq : tabAccept = (List.range 32).map fun c => (((if c % 2 = 0 then Lib.accLo (c / 2) else Lib.accHi (c / 2)) : Nat) : Int) := Classical.choose_spec (Exists.intro ((List.range 32).map fun c => (((if c % 2 = 0 then Lib.accLo (c / 2) else Lib.accHi (c / 2)) : Nat) : Int)) rfl : ∃ l : List Int, l = (List.range 32).map fun c => (((if c % 2 = 0 then Lib.accLo (c / 2) else Lib.accHi (c / 2)) : Nat) : Int))
/-- What the package variables hold. -/
noncomputable instance globs : Globs := ⟨fun g => if g = 0 then some (.arr .u8 256 tabFirst) else if g = 1 then some (.arr .u8 32 tabAccept) else none⟩
/-- utf8.ValidString. -/
def utf8_ValidString (s : ByteArray) : Option Bool := cond (decide (s.size ≤ 9223372036854775807)) (some (Lib.validD s.data.toList)) none
/-- sort.Slice of an order that stands already, by keys. -/
def sort_Slice (order keys : List Int) : Option (Unit × (List Int × List Int × Unit)) :=
  cond (decide (2 ≤ order.length) && (decide (order.length ≤ 12) && (order.all (fun i => decide (0 ≤ i ∧ i < keys.length)) && (List.range (order.length - 1)).all fun j => !decide (keys.getD (order.getD (j + 1) 0).toNat 0 < keys.getD (order.getD j 0).toNat 0)))) (some ((), order, keys, ())) none

/-! credential_Validate: passkey/credential.Validate -/
noncomputable def credential_Validate_j7 : (Unit × (ByteArray × ByteArray × ByteArray × Int × Int × Bool × Int × Bool × Bool)) → Option (Int ⊕ Unit) := fun s => match s with
  | ((), (a1, a2, a3, a4, a5, a6, a7, a8, a9)) =>
    cond a8 (
      cond (!a6) (
        some (.inl 18)) (
        cond a9 (
          cond (!a8) (
            some (.inl 18)) (
            some (.inr ()))) (
          some (.inr ())))) (
      cond a9 (
        cond (!a8) (
          some (.inl 18)) (
          some (.inr ()))) (
        some (.inr ())))
noncomputable def credential_Validate_j5 : (Unit × (ByteArray × ByteArray × ByteArray × Int × Int × Bool × Int × Bool × Bool)) → Option (Int ⊕ Unit) := fun s => match s with
  | ((), (a1, a2, a3, a4, a5, a6, a7, a8, a9)) =>
    Option.bind (utf8_ValidString a1) fun y1 =>
    cond (!y1) (
      some (.inl 6)) (
      Option.bind (utf8_ValidString a3) fun y2 =>
      cond (!y2) (
        some (.inl 6)) (
        Option.bind (credential_Validate_j7 ((), (a1, a2, a3, a4, a5, a6, a7, a8, a9))) fun y3 =>
        match y3 with
        | (.inl y4) =>
          some (.inl y4)
        | (.inr y5) =>
          some (.inr ())))
noncomputable def credential_Validate_j3 : (Unit × (ByteArray × ByteArray × ByteArray × Int × Int × Bool × Int × Bool × Bool)) → Option (Int ⊕ Unit) := fun s => match s with
  | ((), (a1, a2, a3, a4, a5, a6, a7, a8, a9)) =>
    cond (decide (a5 < 1)) (
      some (.inl 9)) (
      cond (decide (a5 > 4)) (
        some (.inl 9)) (
        cond (decide (a7 < 1)) (
          some (.inl 9)) (
          cond (decide (a7 > 3)) (
            some (.inl 9)) (
            Option.bind (credential_Validate_j5 ((), (a1, a2, a3, a4, a5, a6, a7, a8, a9))) fun y1 =>
            match y1 with
            | (.inl y2) =>
              some (.inl y2)
            | (.inr y3) =>
              some (.inr ())))))
noncomputable def credential_Validate (a1 : ByteArray) (a2 : ByteArray) (a3 : ByteArray) (a4 : Int) (a5 : Int) (a6 : Bool) (a7 : Int) (a8 : Bool) (a9 : Bool) : Option Int :=
  cond (decide ((((a1.size) : Nat) : Int) < 1)) (
    some 9) (
    cond (decide ((((a1.size) : Nat) : Int) > 64)) (
      some 9) (
      cond (decide ((((a2.size) : Nat) : Int) < 1)) (
        some 9) (
        cond (decide ((((a2.size) : Nat) : Int) > 16)) (
          some 9) (
          cond (decide ((((a3.size) : Nat) : Int) > 32)) (
            some 9) (
            Option.bind (credential_Validate_j3 ((), (a1, a2, a3, a4, a5, a6, a7, a8, a9))) fun y1 =>
            match y1 with
            | (.inl y2) =>
              some y2
            | (.inr y3) =>
              some 0)))))

/-! cbor_Text: passkey/cbor.Text -/
noncomputable def cbor_Text (a1 : ByteArray) : Option (Unit × List PD) :=
  some ((), [(PD.agg [(.int .i64 4), (.int .u64 0), (.str a1)])])

/-! cbor_Bytes: passkey/cbor.Bytes -/
noncomputable def cbor_Bytes (a1 : List Int) : Option (Unit × List PD) :=
  some ((), [(PD.agg [(.int .i64 3), (.int .u64 0), (.str (strOf a1))])])

/-! cbor_Uint: passkey/cbor.Uint -/
noncomputable def cbor_Uint (a1 : Int) : Option (Unit × List PD) :=
  some ((), [(PD.agg [(.int .i64 1), (.int .u64 a1), (.str (bs []))])])

/-! cbor_Bool: passkey/cbor.Bool -/
noncomputable def cbor_Bool (a1 : Bool) : Option (Unit × List PD) :=
  cond a1 (
    some ((), [(PD.agg [(.int .i64 7), (.int .u64 1), (.str (bs []))])])) (
    some ((), [(PD.agg [(.int .i64 7), (.int .u64 0), (.str (bs []))])]))

/-! cbor_walk_isKey_c6d: (*passkey/cbor.walk).isKey -/
noncomputable def cbor_walk_isKey_c6d (a1 : Int) (a2 : Bool) (a3 : List PD) : Option (Bool × ((Unit × Int × Bool) × List PD)) :=
  cond (decide ((((a3.length) : Nat) : Int) > 0)) (
    Option.bind (some ((IntKind.i64.wrap ((((a3.length) : Nat) : Int) - 1)) : Int)) fun y1 =>
    cond (inRange y1 (a3.length)) (
      Option.bind (a3[(Int.toNat y1)]?) fun y2 =>
      Option.bind (PD.boolAt y2 0) fun y3 =>
      cond y3 (
        Option.bind (some ((IntKind.i64.wrap ((((a3.length) : Nat) : Int) - 1)) : Int)) fun y4 =>
        cond (inRange y4 (a3.length)) (
          Option.bind (a3[(Int.toNat y4)]?) fun y5 =>
          Option.bind (PD.intAt .i64 y5 1) fun y6 =>
          some (((Int.tmod y6 2) == 0), (((), a1, a2), a3))) none) (
        some (false, (((), a1, a2), a3)))) none) (
    some (false, (((), a1, a2), a3)))

/-! cbor_walk_enter_4d8: (*passkey/cbor.walk).enter -/
noncomputable def cbor_walk_enter_4d8 (a1 : Int) (a2 : Int) (a3 : Bool) (a4 : List PD) : Option (Int × ((Unit × Int × Bool) × List PD)) :=
  cond (decide (a2 ≥ 512)) (
    some (8, (((), a2, a3), a4))) (
    cond (decide (a1 < 1)) (
      some (3, (((), a2, a3), a4))) (
      cond (decide (a1 > 8)) (
        some (3, (((), a2, a3), a4))) (
        Option.bind (cbor_walk_isKey_c6d a2 a3 a4) fun y1 =>
        cond y1.1 (
          cond (a1 != 1) (
            cond (a1 != 2) (
              cond (a1 != 4) (
                some (3, (((), y1.2.1.2.1, y1.2.1.2.2), y1.2.2))) (
                cond (decide ((((y1.2.2.length) : Nat) : Int) > 8)) (
                  some (5, (((), y1.2.1.2.1, y1.2.1.2.2), y1.2.2))) (
                  some (0, (((), y1.2.1.2.1, y1.2.1.2.2), y1.2.2))))) (
              cond (decide ((((y1.2.2.length) : Nat) : Int) > 8)) (
                some (5, (((), y1.2.1.2.1, y1.2.1.2.2), y1.2.2))) (
                some (0, (((), y1.2.1.2.1, y1.2.1.2.2), y1.2.2))))) (
            cond (decide ((((y1.2.2.length) : Nat) : Int) > 8)) (
              some (5, (((), y1.2.1.2.1, y1.2.1.2.2), y1.2.2))) (
              some (0, (((), y1.2.1.2.1, y1.2.1.2.2), y1.2.2))))) (
          cond (decide ((((y1.2.2.length) : Nat) : Int) > 8)) (
            some (5, (((), y1.2.1.2.1, y1.2.1.2.2), y1.2.2))) (
            some (0, (((), y1.2.1.2.1, y1.2.1.2.2), y1.2.2)))))))

/-! cbor_misshapen: passkey/cbor.misshapen -/
noncomputable def cbor_misshapen_j8 : (Unit × (Int × Int × ByteArray)) → Option Bool := fun s => match s with
  | ((), (a1, a2, a3)) =>
    some (a2 != 0)
noncomputable def cbor_misshapen_j9 : ((Unit × Int) × (Int × Int × ByteArray)) → Option (Bool ⊕ Unit) := fun s => match s with
  | (((), a1), (a2, a3, a4)) =>
    cond (a1 == 7) (
      some (.inl (decide (a3 > 1)))) (
      some (.inr ()))
noncomputable def cbor_misshapen_j2 : ((Unit × Bool) × (Int × Int × ByteArray)) → Option Bool := fun s => match s with
  | (((), a1), (a2, a3, a4)) =>
    cond (!a1) (
      cond (!(strEq a4 (bs []))) (
        some true) (
        cond (a2 == 3) (
          Option.bind (cbor_misshapen_j8 ((), (a2, a3, a4))) fun y1 =>
          some y1) (
          cond (a2 == 4) (
            Option.bind (cbor_misshapen_j8 ((), (a2, a3, a4))) fun y2 =>
            some y2) (
            cond (a2 == 8) (
              Option.bind (cbor_misshapen_j8 ((), (a2, a3, a4))) fun y3 =>
              some y3) (
              Option.bind (cbor_misshapen_j9 (((), a2), (a2, a3, a4))) fun y4 =>
              match y4 with
              | (.inl y5) =>
                some y5
              | (.inr y6) =>
                some false))))) (
      cond (a2 == 3) (
        Option.bind (cbor_misshapen_j8 ((), (a2, a3, a4))) fun y7 =>
        some y7) (
        cond (a2 == 4) (
          Option.bind (cbor_misshapen_j8 ((), (a2, a3, a4))) fun y8 =>
          some y8) (
          cond (a2 == 8) (
            Option.bind (cbor_misshapen_j8 ((), (a2, a3, a4))) fun y9 =>
            some y9) (
            Option.bind (cbor_misshapen_j9 (((), a2), (a2, a3, a4))) fun y10 =>
            match y10 with
            | (.inl y11) =>
              some y11
            | (.inr y12) =>
              some false))))
noncomputable def cbor_misshapen (a1 : Int) (a2 : Int) (a3 : ByteArray) : Option Bool :=
  cond (a1 == 3) (
    Option.bind (cbor_misshapen_j2 (((), true), (a1, a2, a3))) fun y1 =>
    some y1) (
    Option.bind (cbor_misshapen_j2 (((), (a1 == 4)), (a1, a2, a3))) fun y2 =>
    some y2)

/-! cbor_tooLarge: passkey/cbor.tooLarge -/
noncomputable def cbor_tooLarge_j5 : ((Unit × Int) × (Int × Int × ByteArray)) → Option (Bool ⊕ Unit) := fun s => match s with
  | (((), a1), (a2, a3, a4)) =>
    cond (a1 == 5) (
      some (.inl (decide (a3 > 512)))) (
      cond (a1 == 6) (
        some (.inl (decide (a3 > 512)))) (
        some (.inr ())))
noncomputable def cbor_tooLarge (a1 : Int) (a2 : Int) (a3 : ByteArray) : Option Bool :=
  cond (a1 == 3) (
    some (decide ((((a3.size) : Nat) : Int) > 1024))) (
    cond (a1 == 4) (
      some (decide ((((a3.size) : Nat) : Int) > 1024))) (
      Option.bind (cbor_tooLarge_j5 (((), a1), (a1, a2, a3))) fun y1 =>
      match y1 with
      | (.inl y2) =>
        some y2
      | (.inr y3) =>
        some false))

/-! cbor_head: passkey/cbor.head -/
noncomputable def cbor_head (a1 : Int) (a2 : Int) : Option (Unit × List Int) :=
  cond (decide (a2 < 24)) (
    Option.bind (some ((IntKind.u8.wrap ((IntKind.u8.wrap (a1 * 32)) + (IntKind.u8.wrap a2))) : Int)) fun y1 =>
    some ((), [y1])) (
    cond (decide (a2 < 256)) (
      Option.bind (some ((IntKind.u8.wrap ((IntKind.u8.wrap (a1 * 32)) + 24)) : Int)) fun y2 =>
      some ((), [y2, (IntKind.u8.wrap a2)])) (
      cond (decide (a2 < 65536)) (
        Option.bind (some ((IntKind.u8.wrap ((IntKind.u8.wrap (a1 * 32)) + 25)) : Int)) fun y3 =>
        some ((), [y3, (IntKind.u8.wrap (shrI .u64 a2 8)), (IntKind.u8.wrap a2)])) (
        cond (decide (a2 < 4294967296)) (
          Option.bind (some ((IntKind.u8.wrap ((IntKind.u8.wrap (a1 * 32)) + 26)) : Int)) fun y4 =>
          some ((), [y4, (IntKind.u8.wrap (shrI .u64 a2 24)), (IntKind.u8.wrap (shrI .u64 a2 16)), (IntKind.u8.wrap (shrI .u64 a2 8)), (IntKind.u8.wrap a2)])) (
          Option.bind (some ((IntKind.u8.wrap ((IntKind.u8.wrap (a1 * 32)) + 27)) : Int)) fun y5 =>
          some ((), [y5, (IntKind.u8.wrap (shrI .u64 a2 56)), (IntKind.u8.wrap (shrI .u64 a2 48)), (IntKind.u8.wrap (shrI .u64 a2 40)), (IntKind.u8.wrap (shrI .u64 a2 32)), (IntKind.u8.wrap (shrI .u64 a2 24)), (IntKind.u8.wrap (shrI .u64 a2 16)), (IntKind.u8.wrap (shrI .u64 a2 8)), (IntKind.u8.wrap a2)])))))

/-! cbor_encode: passkey/cbor.encode -/
noncomputable def cbor_encode_j8 : (Unit × (Int × Int × ByteArray)) → Option (Unit × ((Int × Int × ByteArray) × List Int)) := fun s => match s with
  | ((), (a1, a2, a3)) =>
    Option.bind (some ((IntKind.u8.wrap (IntKind.i64.wrap (a1 - 1))) : Int)) fun y1 =>
    Option.bind (some ((IntKind.u64.wrap (((a3.size) : Nat) : Int)) : Int)) fun y2 =>
    Option.bind (cbor_head y1 y2) fun y3 =>
    cond (decide (((y3.2 ++ (bytesOf a3)).length) * 1 ≤ 140737488355328)) (
      some ((), ((a1, a2, a3), (y3.2 ++ (bytesOf a3))))) none
noncomputable def cbor_encode (a1 : Int) (a2 : Int) (a3 : ByteArray) : Option (Unit × List Int) :=
  cond (a1 == 7) (
    Option.bind (some ((IntKind.u8.wrap (244 + (IntKind.u8.wrap a2))) : Int)) fun y1 =>
    some ((), [y1])) (
    cond (a1 == 8) (
      some ((), [246])) (
      cond (a1 == 3) (
        Option.bind (cbor_encode_j8 ((), (a1, a2, a3))) fun y2 =>
        some ((), y2.2.2)) (
        cond (a1 == 4) (
          Option.bind (cbor_encode_j8 ((), (a1, a2, a3))) fun y3 =>
          some ((), y3.2.2)) (
          Option.bind (some ((IntKind.u8.wrap (IntKind.i64.wrap (a1 - 1))) : Int)) fun y4 =>
          Option.bind (cbor_head y4 a2) fun y5 =>
          some ((), y5.2)))))

/-! cbor_walk_content_99f: (*passkey/cbor.walk).content -/
noncomputable def cbor_walk_content_99f_l18 : (Unit × ((Unit × Int × Bool) × Unit × List PD)) → Option ((Unit × ((Unit × Int × Bool) × Unit × List PD)) ⊕ (Unit × ((Unit × Int × Bool) × Unit × List PD))) := fun s => match s with
  | ((), (((), a1, a2), (), a3)) =>
    cond (decide ((((a3.length) : Nat) : Int) > 0)) (
      Option.bind (some ((IntKind.i64.wrap ((((a3.length) : Nat) : Int) - 1)) : Int)) fun y1 =>
      cond (inRange y1 (a3.length)) (
        Option.bind (a3[(Int.toNat y1)]?) fun y2 =>
        Option.bind (PD.intAt .i64 y2 1) fun y3 =>
        cond (y3 == 0) (
          Option.bind (some ((IntKind.i64.wrap ((((a3.length) : Nat) : Int) - 1)) : Int)) fun y4 =>
          cond (okBounds 0 y4 (a3.length)) (
            some (.inl ((), (((), a1, a2), (), (cut a3 0 y4))))) none) (
          some (.inr ((), (((), a1, a2), (), a3))))) none) (
      some (.inr ((), (((), a1, a2), (), a3))))
noncomputable def cbor_walk_content_99f_j18 : (Unit × ((Unit × Int × Bool) × Unit × List PD)) → Option (Int × ((Unit × Int × Bool) × Unit × List PD)) := fun s => match s with
  | ((), (((), a1, a2), (), a3)) =>
    Option.bind (loopFix cbor_walk_content_99f_l18 ((), (((), a1, a2), (), a3))) fun y1 =>
    some (0, (((), y1.2.1.2.1, ((((y1.2.2.2.length) : Nat) : Int) == 0)), (), y1.2.2.2))
noncomputable def cbor_walk_content_99f_j13 : ((Unit × Unit) × ((Unit × Int × Bool) × List PD × (Int × Int × ByteArray))) → Option (Int × ((Unit × Int × Bool) × Unit × List PD)) := fun s => match s with
  | (((), ()), (((), a1, a2), a3, (a4, a5, a6))) =>
    cond (a4 == 5) (
      cond (decide (((a3 ++ [(PD.agg [(.bool false), (.int .i64 (IntKind.i64.wrap a5)), (.str (bs []))])]).length) * 32 ≤ 140737488355328)) (
        Option.bind (some ((a3 ++ [(PD.agg [(.bool false), (.int .i64 (IntKind.i64.wrap a5)), (.str (bs []))])]) : List PD)) fun y1 =>
        Option.bind (cbor_walk_content_99f_j18 ((), (((), a1, a2), (), y1))) fun y2 =>
        some (y2.1, (((), y2.2.1.2.1, y2.2.1.2.2), (), y2.2.2.2))) none) (
      cond (a4 == 6) (
        Option.bind (some ((IntKind.i64.wrap (2 * (IntKind.i64.wrap a5))) : Int)) fun y3 =>
        cond (decide (((a3 ++ [(PD.agg [(.bool true), (.int .i64 y3), (.str (bs []))])]).length) * 32 ≤ 140737488355328)) (
          Option.bind (some ((a3 ++ [(PD.agg [(.bool true), (.int .i64 y3), (.str (bs []))])]) : List PD)) fun y4 =>
          Option.bind (cbor_walk_content_99f_j18 ((), (((), a1, a2), (), y4))) fun y5 =>
          some (y5.1, (((), y5.2.1.2.1, y5.2.1.2.2), (), y5.2.2.2))) none) (
        Option.bind (cbor_walk_content_99f_j18 ((), (((), a1, a2), (), a3))) fun y6 =>
        some (y6.1, (((), y6.2.1.2.1, y6.2.1.2.2), (), y6.2.2.2))))
noncomputable def cbor_walk_content_99f_j9 : ((Unit × Unit) × ((Unit × Int × Bool) × List PD × (Int × Int × ByteArray))) → Option (Int × ((Unit × Int × Bool) × Unit × List PD)) := fun s => match s with
  | (((), ()), (((), a1, a2), a3, (a4, a5, a6))) =>
    cond (decide ((((a3.length) : Nat) : Int) > 0)) (
      Option.bind (some ((IntKind.i64.wrap ((((a3.length) : Nat) : Int) - 1)) : Int)) fun y1 =>
      cond (inRange y1 (a3.length)) (
        Option.bind (a3[(Int.toNat y1)]?) fun y2 =>
        Option.bind (PD.intAt .i64 y2 1) fun y3 =>
        cond (inRange y1 (a3.length)) (
          Option.bind (a3[(Int.toNat y1)]?) fun y4 =>
          Option.bind (PD.boolAt y4 0) fun y5 =>
          Option.bind (PD.intAt .i64 y4 1) fun y6 =>
          Option.bind (PD.strAt y4 2) fun y7 =>
          Option.bind (some ((a3.set (Int.toNat y1) (.agg [(.bool y5), (.int .i64 (IntKind.i64.wrap (y3 - 1))), (.str y7)])) : List PD)) fun y8 =>
          Option.bind (cbor_walk_content_99f_j13 (((), ()), (((), (IntKind.i64.wrap (a1 + 1)), a2), y8, (a4, a5, a6)))) fun y9 =>
          some (y9.1, (((), y9.2.1.2.1, y9.2.1.2.2), (), y9.2.2.2))) none) none) (
      Option.bind (cbor_walk_content_99f_j13 (((), ()), (((), (IntKind.i64.wrap (a1 + 1)), a2), a3, (a4, a5, a6)))) fun y10 =>
      some (y10.1, (((), y10.2.1.2.1, y10.2.1.2.2), (), y10.2.2.2)))
noncomputable def cbor_walk_content_99f (a1 : Int) (a2 : Int) (a3 : ByteArray) (a4 : Int) (a5 : Bool) (a6 : List PD) : Option (Int × ((Unit × Int × Bool) × Unit × List PD)) :=
  cond (a1 == 4) (
    Option.bind (utf8_ValidString a3) fun y1 =>
    cond (!y1) (
      some (6, (((), a4, a5), (), a6))) (
      Option.bind (cbor_walk_isKey_c6d a4 a5 a6) fun y2 =>
      cond y2.1 (
        Option.bind (some ((IntKind.i64.wrap ((((y2.2.2.length) : Nat) : Int) - 1)) : Int)) fun y3 =>
        cond (inRange y3 (y2.2.2.length)) (
          Option.bind (cbor_encode a1 a2 a3) fun y4 =>
          Option.bind (y2.2.2[(Int.toNat y3)]?) fun y5 =>
          Option.bind (PD.strAt y5 2) fun y6 =>
          cond (!(strEq y6 (bs []))) (
            Option.bind (y2.2.2[(Int.toNat y3)]?) fun y7 =>
            Option.bind (PD.strAt y7 2) fun y8 =>
            cond (decide (((((strOf y4.2).size) : Nat) : Int) < (((y8.size) : Nat) : Int))) (
              some (7, (((), y2.2.1.2.1, y2.2.1.2.2), (), y2.2.2))) (
              Option.bind (y2.2.2[(Int.toNat y3)]?) fun y9 =>
              Option.bind (PD.strAt y9 2) fun y10 =>
              cond (((((strOf y4.2).size) : Nat) : Int) == (((y10.size) : Nat) : Int)) (
                Option.bind (y2.2.2[(Int.toNat y3)]?) fun y11 =>
                Option.bind (PD.strAt y11 2) fun y12 =>
                cond ((strLt (strOf y4.2) y12) || (strEq (strOf y4.2) y12)) (
                  some (7, (((), y2.2.1.2.1, y2.2.1.2.2), (), y2.2.2))) (
                  Option.bind (y2.2.2[(Int.toNat y3)]?) fun y13 =>
                  Option.bind (PD.boolAt y13 0) fun y14 =>
                  Option.bind (PD.intAt .i64 y13 1) fun y15 =>
                  Option.bind (PD.strAt y13 2) fun y16 =>
                  Option.bind (some ((y2.2.2.set (Int.toNat y3) (.agg [(.bool y14), (.int .i64 y15), (.str (strOf y4.2))])) : List PD)) fun y17 =>
                  Option.bind (cbor_walk_content_99f_j9 (((), ()), (((), y2.2.1.2.1, y2.2.1.2.2), y17, (a1, a2, a3)))) fun y18 =>
                  some (y18.1, (((), y18.2.1.2.1, y18.2.1.2.2), (), y18.2.2.2)))) (
                Option.bind (y2.2.2[(Int.toNat y3)]?) fun y19 =>
                Option.bind (PD.boolAt y19 0) fun y20 =>
                Option.bind (PD.intAt .i64 y19 1) fun y21 =>
                Option.bind (PD.strAt y19 2) fun y22 =>
                Option.bind (some ((y2.2.2.set (Int.toNat y3) (.agg [(.bool y20), (.int .i64 y21), (.str (strOf y4.2))])) : List PD)) fun y23 =>
                Option.bind (cbor_walk_content_99f_j9 (((), ()), (((), y2.2.1.2.1, y2.2.1.2.2), y23, (a1, a2, a3)))) fun y24 =>
                some (y24.1, (((), y24.2.1.2.1, y24.2.1.2.2), (), y24.2.2.2))))) (
            Option.bind (y2.2.2[(Int.toNat y3)]?) fun y25 =>
            Option.bind (PD.boolAt y25 0) fun y26 =>
            Option.bind (PD.intAt .i64 y25 1) fun y27 =>
            Option.bind (PD.strAt y25 2) fun y28 =>
            Option.bind (some ((y2.2.2.set (Int.toNat y3) (.agg [(.bool y26), (.int .i64 y27), (.str (strOf y4.2))])) : List PD)) fun y29 =>
            Option.bind (cbor_walk_content_99f_j9 (((), ()), (((), y2.2.1.2.1, y2.2.1.2.2), y29, (a1, a2, a3)))) fun y30 =>
            some (y30.1, (((), y30.2.1.2.1, y30.2.1.2.2), (), y30.2.2.2)))) none) (
        Option.bind (cbor_walk_content_99f_j9 (((), ()), (((), y2.2.1.2.1, y2.2.1.2.2), y2.2.2, (a1, a2, a3)))) fun y31 =>
        some (y31.1, (((), y31.2.1.2.1, y31.2.1.2.2), (), y31.2.2.2))))) (
    Option.bind (cbor_walk_isKey_c6d a4 a5 a6) fun y32 =>
    cond y32.1 (
      Option.bind (some ((IntKind.i64.wrap ((((y32.2.2.length) : Nat) : Int) - 1)) : Int)) fun y33 =>
      cond (inRange y33 (y32.2.2.length)) (
        Option.bind (cbor_encode a1 a2 a3) fun y34 =>
        Option.bind (y32.2.2[(Int.toNat y33)]?) fun y35 =>
        Option.bind (PD.strAt y35 2) fun y36 =>
        cond (!(strEq y36 (bs []))) (
          Option.bind (y32.2.2[(Int.toNat y33)]?) fun y37 =>
          Option.bind (PD.strAt y37 2) fun y38 =>
          cond (decide (((((strOf y34.2).size) : Nat) : Int) < (((y38.size) : Nat) : Int))) (
            some (7, (((), y32.2.1.2.1, y32.2.1.2.2), (), y32.2.2))) (
            Option.bind (y32.2.2[(Int.toNat y33)]?) fun y39 =>
            Option.bind (PD.strAt y39 2) fun y40 =>
            cond (((((strOf y34.2).size) : Nat) : Int) == (((y40.size) : Nat) : Int)) (
              Option.bind (y32.2.2[(Int.toNat y33)]?) fun y41 =>
              Option.bind (PD.strAt y41 2) fun y42 =>
              cond ((strLt (strOf y34.2) y42) || (strEq (strOf y34.2) y42)) (
                some (7, (((), y32.2.1.2.1, y32.2.1.2.2), (), y32.2.2))) (
                Option.bind (y32.2.2[(Int.toNat y33)]?) fun y43 =>
                Option.bind (PD.boolAt y43 0) fun y44 =>
                Option.bind (PD.intAt .i64 y43 1) fun y45 =>
                Option.bind (PD.strAt y43 2) fun y46 =>
                Option.bind (some ((y32.2.2.set (Int.toNat y33) (.agg [(.bool y44), (.int .i64 y45), (.str (strOf y34.2))])) : List PD)) fun y47 =>
                Option.bind (cbor_walk_content_99f_j9 (((), ()), (((), y32.2.1.2.1, y32.2.1.2.2), y47, (a1, a2, a3)))) fun y48 =>
                some (y48.1, (((), y48.2.1.2.1, y48.2.1.2.2), (), y48.2.2.2)))) (
              Option.bind (y32.2.2[(Int.toNat y33)]?) fun y49 =>
              Option.bind (PD.boolAt y49 0) fun y50 =>
              Option.bind (PD.intAt .i64 y49 1) fun y51 =>
              Option.bind (PD.strAt y49 2) fun y52 =>
              Option.bind (some ((y32.2.2.set (Int.toNat y33) (.agg [(.bool y50), (.int .i64 y51), (.str (strOf y34.2))])) : List PD)) fun y53 =>
              Option.bind (cbor_walk_content_99f_j9 (((), ()), (((), y32.2.1.2.1, y32.2.1.2.2), y53, (a1, a2, a3)))) fun y54 =>
              some (y54.1, (((), y54.2.1.2.1, y54.2.1.2.2), (), y54.2.2.2))))) (
          Option.bind (y32.2.2[(Int.toNat y33)]?) fun y55 =>
          Option.bind (PD.boolAt y55 0) fun y56 =>
          Option.bind (PD.intAt .i64 y55 1) fun y57 =>
          Option.bind (PD.strAt y55 2) fun y58 =>
          Option.bind (some ((y32.2.2.set (Int.toNat y33) (.agg [(.bool y56), (.int .i64 y57), (.str (strOf y34.2))])) : List PD)) fun y59 =>
          Option.bind (cbor_walk_content_99f_j9 (((), ()), (((), y32.2.1.2.1, y32.2.1.2.2), y59, (a1, a2, a3)))) fun y60 =>
          some (y60.1, (((), y60.2.1.2.1, y60.2.1.2.2), (), y60.2.2.2)))) none) (
      Option.bind (cbor_walk_content_99f_j9 (((), ()), (((), y32.2.1.2.1, y32.2.1.2.2), y32.2.2, (a1, a2, a3)))) fun y61 =>
      some (y61.1, (((), y61.2.1.2.1, y61.2.1.2.2), (), y61.2.2.2))))

/-! cbor_Validate: passkey/cbor.Validate -/
noncomputable def cbor_Validate_l3 : ((Unit × List PD × Int × Int) × ((Unit × Int × Bool) × List PD)) → Option (((Unit × List PD × Int × Int) × ((Unit × Int × Bool) × List PD)) ⊕ ((Int × ((Unit × Int × Bool) × List PD)) ⊕ (Unit × ((Unit × Int × Bool) × List PD)))) := fun s => match s with
  | (((), a1, a2, a3), (((), a4, a5), a6)) =>
    cond (decide (a3 < a2)) (
      Option.bind (getI a1 a3) fun y1 =>
      Option.bind (PD.intAt .i64 y1 0) fun y2 =>
      Option.bind (PD.intAt .u64 y1 1) fun y3 =>
      Option.bind (PD.strAt y1 2) fun y4 =>
      cond a5 (
        some (.inr (.inl (2, (((), a4, a5), a6))))) (
        Option.bind (cbor_walk_enter_4d8 y2 a4 a5 a6) fun y5 =>
        cond (y5.1 != 0) (
          some (.inr (.inl (y5.1, (((), y5.2.1.2.1, y5.2.1.2.2), y5.2.2))))) (
          Option.bind (cbor_misshapen y2 y3 y4) fun y6 =>
          cond y6 (
            some (.inr (.inl (4, (((), y5.2.1.2.1, y5.2.1.2.2), y5.2.2))))) (
            Option.bind (cbor_tooLarge y2 y3 y4) fun y7 =>
            cond y7 (
              some (.inr (.inl (8, (((), y5.2.1.2.1, y5.2.1.2.2), y5.2.2))))) (
              Option.bind (cbor_walk_content_99f y2 y3 y4 y5.2.1.2.1 y5.2.1.2.2 y5.2.2) fun y8 =>
              cond (y8.1 != 0) (
                some (.inr (.inl (y8.1, (((), y8.2.1.2.1, y8.2.1.2.2), y8.2.2.2))))) (
                some (.inl (((), a1, a2, (IntKind.i64.wrap (a3 + 1))), (((), y8.2.1.2.1, y8.2.1.2.2), y8.2.2.2))))))))) (
      some (.inr (.inr ((), (((), a4, a5), a6)))))
noncomputable def cbor_Validate (a1 : List PD) : Option Int :=
  Option.bind (loopFix cbor_Validate_l3 (((), a1, (((a1.length) : Nat) : Int), 0), (((), 0, false), []))) fun y1 =>
  match y1 with
  | (.inl y2) =>
    some y2.1
  | (.inr y3) =>
    cond (!y3.2.1.2.2) (
      some 1) (
      some 0)

/-! cbor_valid: passkey/cbor.valid -/
noncomputable def cbor_valid_l2 : (List PD × Int × Int) → Option ((List PD × Int × Int) ⊕ (Int ⊕ Unit)) := fun s => match s with
  | (a1, a2, a3) =>
    cond (decide (a3 < a2)) (
      Option.bind (getI a1 a3) fun y1 =>
      Option.bind (PD.slAt 3 y1 0) fun y2 =>
      Option.bind (cbor_Validate y2) fun y3 =>
      cond (y3 != 0) (
        some (.inr (.inl y3))) (
        some (.inl (a1, a2, (IntKind.i64.wrap (a3 + 1)))))) (
      some (.inr (.inr ())))
noncomputable def cbor_valid (a1 : List PD) : Option Int :=
  Option.bind (loopFix cbor_valid_l2 (a1, (((a1.length) : Nat) : Int), 0)) fun y1 =>
  match y1 with
  | (.inl y2) =>
    some y2
  | (.inr y3) =>
    some 0

/-! cbor_checked: passkey/cbor.checked -/
noncomputable def cbor_checked (a1 : List PD) : Option (List PD × Int) :=
  Option.bind (cbor_Validate a1) fun y1 =>
  cond (y1 != 0) (
    some ([], y1)) (
    some (a1, 0))

/-! cbor_Map: passkey/cbor.Map -/
noncomputable def cbor_Map_l5 : ((List PD × Unit × Unit × Int × Int) × (List Int × Unit × List Int)) → Option (((List PD × Unit × Unit × Int × Int) × (List Int × Unit × List Int)) ⊕ ((List PD × Unit × Unit) × (List Int × Unit × List Int))) := fun s => match s with
  | ((a1, (), (), a2, a3), (a4, (), a5)) =>
    cond (decide (a3 < a2)) (
      cond (inRange a3 (a5.length)) (
        cond (decide ((Int.toNat a3) < (a5.length))) (
          some (.inl ((a1, (), (), a2, (IntKind.i64.wrap (a3 + 1))), (a4, (), (a5.set (Int.toNat a3) a3))))) none) none) (
      some (.inr ((a1, (), ()), (a4, (), a5))))
noncomputable def cbor_Map_l11 : ((List PD × Unit × Unit × Int) × (List Int × Unit × List Int)) → Option (((List PD × Unit × Unit × Int) × (List Int × Unit × List Int)) ⊕ (((List PD × Int) × (List Int × Unit × List Int)) ⊕ ((List PD × Unit × Unit) × (List Int × Unit × List Int)))) := fun s => match s with
  | ((a1, (), (), a2), (a3, (), a4)) =>
    cond (decide (a2 < (((a4.length) : Nat) : Int))) (
      cond (inRange a2 (a4.length)) (
        Option.bind (a4[(Int.toNat a2)]?) fun y1 =>
        Option.bind (getI a3 y1) fun y2 =>
        cond (inRange (IntKind.i64.wrap (a2 - 1)) (a4.length)) (
          Option.bind (a4[(Int.toNat (IntKind.i64.wrap (a2 - 1)))]?) fun y3 =>
          Option.bind (getI a3 y3) fun y4 =>
          cond (y2 == y4) (
            some (.inr (.inl (([], 10), (a3, (), a4))))) (
            some (.inl ((a1, (), (), (IntKind.i64.wrap (a2 + 1))), (a3, (), a4))))) none) none) (
      some (.inr (.inr ((a1, (), ()), (a3, (), a4)))))
noncomputable def cbor_Map_l20 : ((List PD × Unit × Unit × Unit × Int × Int) × (List Int × List PD × List Int)) → Option (((List PD × Unit × Unit × Unit × Int × Int) × (List Int × List PD × List Int)) ⊕ (Unit × List PD)) := fun s => match s with
  | ((a1, (), (), (), a2, a3), (a4, a5, a6)) =>
    cond (decide (a3 < a2)) (
      cond (inRange a3 (a6.length)) (
        Option.bind (a6[(Int.toNat a3)]?) fun y1 =>
        Option.bind (getI a4 y1) fun y2 =>
        Option.bind (cbor_Uint y2) fun y3 =>
        cond (decide (((a5 ++ y3.2).length) * 32 ≤ 140737488355328)) (
          Option.bind (getI a1 y1) fun y4 =>
          Option.bind (PD.slAt 3 y4 0) fun y5 =>
          cond (decide ((((a5 ++ y3.2) ++ y5).length) * 32 ≤ 140737488355328)) (
            some (.inl ((a1, (), (), (), a2, (IntKind.i64.wrap (a3 + 1))), (a4, ((a5 ++ y3.2) ++ y5), a6)))) none) none) none) (
      some (.inr ((), a5)))
noncomputable def cbor_Map (a1 : List Int) (a2 : List PD) : Option (List PD × Int) :=
  cond ((((a1.length) : Nat) : Int) != (((a2.length) : Nat) : Int)) (
    some ([], 4)) (
    cond (decide (0 ≤ (((a1.length) : Nat) : Int)) && (decide ((((a1.length) : Nat) : Int) ≤ (((a1.length) : Nat) : Int)) && decide ((((a1.length) : Nat) : Int) * 8 ≤ 140737488355328))) (
      Option.bind (some ((List.replicate (Int.toNat (((a1.length) : Nat) : Int)) (0 : Int)) : List Int)) fun y1 =>
      Option.bind (loopFix cbor_Map_l5 ((a2, (), (), (((y1.length) : Nat) : Int), 0), (a1, (), y1))) fun y2 =>
      Option.bind (sort_Slice y2.2.2.2 y2.2.1) fun y3 =>
      Option.bind (loopFix cbor_Map_l11 ((y2.1.1, (), (), 1), (y3.2.2.1, (), y3.2.1))) fun y4 =>
      match y4 with
      | (.inl y5) =>
        some (y5.1.1, y5.1.2)
      | (.inr y6) =>
        Option.bind (cbor_valid y6.1.1) fun y7 =>
        cond (y7 != 0) (
          some ([], y7)) (
          Option.bind (some ((IntKind.u64.wrap (((y6.2.1.length) : Nat) : Int)) : Int)) fun y8 =>
          Option.bind (loopFix cbor_Map_l20 ((y6.1.1, (), (), (), (((y6.2.2.2.length) : Nat) : Int), 0), (y6.2.1, [(PD.agg [(.int .i64 6), (.int .u64 y8), (.str (bs []))])], y6.2.2.2))) fun y9 =>
          Option.bind (cbor_checked y9.2) fun y10 =>
          some (y10.1, y10.2))) none)

/-! cbor_Encode: passkey/cbor.Encode -/
noncomputable def cbor_Encode_l6 : ((Unit × List PD × Int × Int) × List Int) → Option (((Unit × List PD × Int × Int) × List Int) ⊕ (Unit × List Int)) := fun s => match s with
  | (((), a1, a2, a3), a4) =>
    cond (decide (a3 < a2)) (
      Option.bind (getI a1 a3) fun y1 =>
      Option.bind (PD.intAt .i64 y1 0) fun y2 =>
      Option.bind (PD.intAt .u64 y1 1) fun y3 =>
      Option.bind (PD.strAt y1 2) fun y4 =>
      Option.bind (cbor_encode y2 y3 y4) fun y5 =>
      cond (decide (((a4 ++ y5.2).length) * 1 ≤ 140737488355328)) (
        some (.inl (((), a1, a2, (IntKind.i64.wrap (a3 + 1))), (a4 ++ y5.2)))) none) (
      some (.inr ((), a4)))
noncomputable def cbor_Encode (a1 : List PD) : Option ((Unit × Int) × List Int) :=
  Option.bind (cbor_Validate a1) fun y1 =>
  cond (y1 != 0) (
    some (((), y1), [])) (
    Option.bind (loopFix cbor_Encode_l6 (((), a1, (((a1.length) : Nat) : Int), 0), [])) fun y2 =>
    some (((), 0), y2.2))

/-! credential_Encode: passkey/credential.Encode -/
noncomputable def credential_Encode (a1 : ByteArray) (a2 : ByteArray) (a3 : ByteArray) (a4 : Int) (a5 : Int) (a6 : Bool) (a7 : Int) (a8 : Bool) (a9 : Bool) : Option ((Unit × Int) × List Int) :=
  Option.bind (credential_Validate a1 a2 a3 a4 a5 a6 a7 a8 a9) fun y1 =>
  cond (y1 != 0) (
    some (((), y1), [])) (
    Option.bind (cbor_Text a1) fun y2 =>
    cond (decide ((a2.size) ≤ 140737488355328)) (
      Option.bind (cbor_Bytes (bytesOf a2)) fun y3 =>
      Option.bind (cbor_Text a3) fun y4 =>
      Option.bind (cbor_Uint a4) fun y5 =>
      Option.bind (cbor_Uint (IntKind.u64.wrap a5)) fun y6 =>
      Option.bind (cbor_Bool a6) fun y7 =>
      Option.bind (cbor_Uint (IntKind.u64.wrap a7)) fun y8 =>
      Option.bind (cbor_Bool a8) fun y9 =>
      Option.bind (cbor_Bool a9) fun y10 =>
      Option.bind (cbor_Map [1, 2, 3, 4, 5, 6, 7, 8, 9] [(PD.sl 3 y2.2), (PD.sl 3 y3.2), (PD.sl 3 y4.2), (PD.sl 3 y5.2), (PD.sl 3 y6.2), (PD.sl 3 y7.2), (PD.sl 3 y8.2), (PD.sl 3 y9.2), (PD.sl 3 y10.2)]) fun y11 =>
      cond (y11.2 != 0) (
        some (((), y11.2), [])) (
        Option.bind (cbor_Encode y11.1) fun y12 =>
        some (((), y12.1.2), y12.2))) none)

/-! digest_Words: passkey/digest.Words -/
noncomputable def digest_Words_l6 : ((Unit × Int × List Int × Int × Int × Int) × List Int) → Option (((Unit × Int × List Int × Int × Int × Int) × List Int) ⊕ ((Unit × List Int × Int × Int) × List Int)) := fun s => match s with
  | (((), a1, a2, a3, a4, a5), a6) =>
    cond (decide (a5 < 8)) (
      Option.bind (some ((IntKind.i64.wrap (56 - (IntKind.i64.wrap (8 * a5)))) : Int)) fun y1 =>
      cond (decide (0 ≤ y1)) (
        cond (decide (((a6 ++ [(IntKind.u8.wrap (shrI .u64 a1 y1))]).length) * 1 ≤ 140737488355328)) (
          Option.bind (some ((a6 ++ [(IntKind.u8.wrap (shrI .u64 a1 y1))]) : List Int)) fun y2 =>
          some (.inl (((), a1, a2, a3, a4, (IntKind.i64.wrap (a5 + 1))), y2))) none) none) (
      some (.inr (((), a2, a3, a4), a6)))
noncomputable def digest_Words_l3 : ((Unit × List Int × Int × Int) × List Int) → Option (((Unit × List Int × Int × Int) × List Int) ⊕ (Unit × List Int)) := fun s => match s with
  | (((), a1, a2, a3), a4) =>
    cond (decide (a3 < a2)) (
      Option.bind (getI a1 a3) fun y1 =>
      Option.bind (loopFix digest_Words_l6 (((), y1, a1, a2, a3, 0), a4)) fun y2 =>
      some (.inl (((), y2.1.2.1, y2.1.2.2.1, (IntKind.i64.wrap (y2.1.2.2.2 + 1))), y2.2))) (
      some (.inr ((), a4)))
noncomputable def digest_Words (a1 : List Int) : Option (Unit × List Int) :=
  Option.bind (loopFix digest_Words_l3 (((), a1, (((a1.length) : Nat) : Int), 0), [])) fun y1 =>
  some ((), y1.2)

/-! digest_little: passkey/digest.little -/
noncomputable def digest_little_l3 : (Int × List Int × Int × Int) → Option ((Int × List Int × Int × Int) ⊕ Int) := fun s => match s with
  | (a1, a2, a3, a4) =>
    cond (decide (a4 < a3)) (
      Option.bind (getI a2 a4) fun y1 =>
      cond (decide (0 ≤ (IntKind.i64.wrap (8 * a4)))) (
        Option.bind (some ((shlI .u64 (IntKind.u64.wrap y1) (IntKind.i64.wrap (8 * a4))) : Int)) fun y2 =>
        some (.inl ((bitsI .or .u64 a1 y2), a2, a3, (IntKind.i64.wrap (a4 + 1))))) none) (
      some (.inr a1))
noncomputable def digest_little (a1 : List Int) : Option Int :=
  Option.bind (loopFix digest_little_l3 (0, a1, (((a1.length) : Nat) : Int), 0)) fun y1 =>
  some y1

/-! bits_RotateLeft64: math/bits.RotateLeft64 -/
noncomputable def bits_RotateLeft64 (a1 : Int) (a2 : Int) : Option Int :=
  Option.bind (some ((bitsI .and .u64 (IntKind.u64.wrap a2) 63) : Int)) fun y1 =>
  cond (decide (0 ≤ y1)) (
    cond (decide (0 ≤ (IntKind.u64.wrap (64 - y1)))) (
      Option.bind (some ((shrI .u64 a1 (IntKind.u64.wrap (64 - y1))) : Int)) fun y2 =>
      some (bitsI .or .u64 (shlI .u64 a1 y1) y2)) none) none

/-! digest_state_round_a4e: (*passkey/digest.state).round -/
noncomputable def digest_state_round_a4e_l1 : ((Unit × Int × Int) × (Int × Int × Int × Int)) → Option (((Unit × Int × Int) × (Int × Int × Int × Int)) ⊕ (Unit × (Int × Int × Int × Int))) := fun s => match s with
  | (((), a1, a2), (a3, a4, a5, a6)) =>
    cond (decide (a2 < a1)) (
      Option.bind (bits_RotateLeft64 a4 13) fun y1 =>
      Option.bind (some ((bitsI .xor .u64 y1 (IntKind.u64.wrap (a3 + a4))) : Int)) fun y2 =>
      Option.bind (bits_RotateLeft64 (IntKind.u64.wrap (a3 + a4)) 32) fun y3 =>
      Option.bind (bits_RotateLeft64 a6 16) fun y4 =>
      Option.bind (some ((bitsI .xor .u64 y4 (IntKind.u64.wrap (a5 + a6))) : Int)) fun y5 =>
      Option.bind (bits_RotateLeft64 y5 21) fun y6 =>
      Option.bind (some ((bitsI .xor .u64 y6 (IntKind.u64.wrap (y3 + y5))) : Int)) fun y7 =>
      Option.bind (some ((IntKind.u64.wrap ((IntKind.u64.wrap (a5 + a6)) + y2)) : Int)) fun y8 =>
      Option.bind (bits_RotateLeft64 y2 17) fun y9 =>
      Option.bind (bits_RotateLeft64 y8 32) fun y10 =>
      some (.inl (((), a1, (IntKind.i64.wrap (a2 + 1))), ((IntKind.u64.wrap (y3 + y5)), (bitsI .xor .u64 y9 y8), y10, y7)))) (
      some (.inr ((), (a3, a4, a5, a6))))
noncomputable def digest_state_round_a4e (a1 : Int) (a2 : Int) (a3 : Int) (a4 : Int) (a5 : Int) : Option (Unit × (Int × Int × Int × Int)) :=
  Option.bind (loopFix digest_state_round_a4e_l1 (((), a1, 0), (a2, a3, a4, a5))) fun y1 =>
  some ((), (y1.2.1, y1.2.2.1, y1.2.2.2.1, y1.2.2.2.2))

/-! digest_state_word_a4e: (*passkey/digest.state).word -/
noncomputable def digest_state_word_a4e (a1 : Int) (a2 : Int) (a3 : Int) (a4 : Int) (a5 : Int) : Option (Unit × (Int × Int × Int × Int)) :=
  Option.bind (digest_state_round_a4e 2 a2 a3 a4 (bitsI .xor .u64 a5 a1)) fun y1 =>
  some ((), ((bitsI .xor .u64 y1.2.1 a1), y1.2.2.1, y1.2.2.2.1, y1.2.2.2.2))

/-! digest_Sum: passkey/digest.Sum -/
noncomputable def digest_Sum_l3 : ((List Int × Unit × Int) × (Int × Int × Int × Int)) → Option (((List Int × Unit × Int) × (Int × Int × Int × Int)) ⊕ ((List Int × Unit × Int) × (Int × Int × Int × Int))) := fun s => match s with
  | ((a1, (), a2), (a3, a4, a5, a6)) =>
    cond (decide ((((a1.length) : Nat) : Int) ≥ 8)) (
      cond ((okBounds 0 8 (a1.length)) && ((decide (8 ≤ (((a1.length) : Nat) : Int))) && (decide ((((a1.length) : Nat) : Int) ≤ (((a1.length) : Nat) : Int))))) (
        Option.bind (digest_little (cut a1 0 8)) fun y1 =>
        Option.bind (digest_state_word_a4e y1 a3 a4 a5 a6) fun y2 =>
        cond ((okBounds 8 (((a1.length) : Nat) : Int) (a1.length)) && ((decide ((((a1.length) : Nat) : Int) ≤ (((a1.length) : Nat) : Int))) && (decide ((((a1.length) : Nat) : Int) ≤ (((a1.length) : Nat) : Int))))) (
          some (.inl (((cut a1 8 (((a1.length) : Nat) : Int)), (), a2), (y2.2.1, y2.2.2.1, y2.2.2.2.1, y2.2.2.2.2)))) none) none) (
      some (.inr ((a1, (), a2), (a3, a4, a5, a6))))
noncomputable def digest_Sum (a1 : Int) (a2 : Int) (a3 : List Int) : Option Int :=
  Option.bind (some ((IntKind.u64.wrap (((a3.length) : Nat) : Int)) : Int)) fun y1 =>
  Option.bind (loopFix digest_Sum_l3 ((a3, (), (shlI .u64 y1 56)), ((bitsI .xor .u64 a1 8317987319222330741), (bitsI .xor .u64 a2 7237128888997146477), (bitsI .xor .u64 a1 7816392313619706465), (bitsI .xor .u64 a2 8387220255154660723)))) fun y2 =>
  Option.bind (digest_little y2.1.1) fun y3 =>
  Option.bind (digest_state_word_a4e (bitsI .or .u64 y2.1.2.2 y3) y2.2.1 y2.2.2.1 y2.2.2.2.1 y2.2.2.2.2) fun y4 =>
  Option.bind (digest_state_round_a4e 4 y4.2.1 y4.2.2.1 (bitsI .xor .u64 y4.2.2.2.1 255) y4.2.2.2.2) fun y5 =>
  Option.bind (some ((bitsI .xor .u64 (bitsI .xor .u64 y5.2.1 y5.2.2.1) y5.2.2.2.1) : Int)) fun y6 =>
  some (bitsI .xor .u64 y6 y5.2.2.2.2)

/-! digest_Mac: passkey/digest.Mac -/
noncomputable def digest_Mac (a1 : Int) (a2 : Int) (a3 : List Int) : Option Int :=
  Option.bind (some ((IntKind.u64.wrap (1 + (IntKind.u64.wrap a2))) : Int)) fun y1 =>
  Option.bind (digest_Sum a1 y1 a3) fun y2 =>
  some y2

/-! digest_Derive: passkey/digest.Derive -/
noncomputable def digest_Derive (a1 : Int) (a2 : ByteArray) (a3 : Int) : Option Int :=
  cond (decide ((a2.size) ≤ 140737488355328)) (
    cond (decide ((((bytesOf a2) ++ [0]).length) * 1 ≤ 140737488355328)) (
      Option.bind (digest_Words [(IntKind.u64.wrap a3)]) fun y1 =>
      cond (decide (((((bytesOf a2) ++ [0]) ++ y1.2).length) * 1 ≤ 140737488355328)) (
        Option.bind (digest_Mac a1 4 (((bytesOf a2) ++ [0]) ++ y1.2)) fun y2 =>
        some y2) none) none) none

/-! seal_Stream: passkey/seal.Stream -/
noncomputable def seal_Stream_l4 : ((Int × Int × Int × Unit × Int) × List Int) → Option (((Int × Int × Int × Unit × Int) × List Int) ⊕ ((Int × Unit) × List Int)) := fun s => match s with
  | ((a1, a2, a3, (), a4), a5) =>
    cond (decide ((((a5.length) : Nat) : Int) < a3)) (
      Option.bind (digest_Words [a2, a4]) fun y1 =>
      Option.bind (digest_Mac a1 5 y1.2) fun y2 =>
      Option.bind (digest_Words [y2]) fun y3 =>
      cond (decide (((a5 ++ y3.2).length) * 1 ≤ 140737488355328)) (
        some (.inl ((a1, a2, a3, (), (IntKind.u64.wrap (a4 + 1))), (a5 ++ y3.2)))) none) (
      some (.inr ((a3, ()), a5)))
noncomputable def seal_Stream (a1 : Int) (a2 : Int) (a3 : Int) : Option (Unit × List Int) :=
  Option.bind (some ((if (if 1024 < a3 then 1024 else a3) > 0 then (if 1024 < a3 then 1024 else a3) else 0) : Int)) fun y1 =>
  Option.bind (loopFix seal_Stream_l4 ((a1, a2, y1, (), 0), [])) fun y2 =>
  cond (okBounds 0 y2.1.1 (y2.2.length)) (
    some ((), (cut y2.2 0 y2.1.1))) none

/-! digest_Hash: passkey/digest.Hash -/
noncomputable def digest_Hash (a1 : Int) (a2 : List Int) : Option Int :=
  Option.bind (digest_Sum (IntKind.u64.wrap a1) 0 a2) fun y1 =>
  some y1

/-! authdata_RPHash: passkey/authdata.RPHash -/
noncomputable def authdata_RPHash (a1 : ByteArray) : Option Int :=
  cond (decide ((a1.size) ≤ 140737488355328)) (
    Option.bind (digest_Hash 9 (bytesOf a1)) fun y1 =>
    some y1) none

/-! credential_wrap: passkey/credential.wrap -/
noncomputable def credential_wrap (a1 : Int) (a2 : ByteArray) : Option ((Int × Unit) × List Int) :=
  Option.bind (digest_Derive a1 (bs [119, 114, 97, 112]) 0) fun y1 =>
  Option.bind (authdata_RPHash a2) fun y2 =>
  Option.bind (digest_Words [y2]) fun y3 =>
  some ((y1, ()), y3.2)

/-! seal_mixed: passkey/seal.mixed -/
noncomputable def seal_mixed_l3 : ((List Int × Unit × Int × Int) × List Int) → Option (((List Int × Unit × Int × Int) × List Int) ⊕ (Unit × List Int)) := fun s => match s with
  | ((a1, (), a2, a3), a4) =>
    cond (decide (a3 < a2)) (
      cond (inRange a3 (a4.length)) (
        Option.bind (a4[(Int.toNat a3)]?) fun y1 =>
        Option.bind (getI a1 a3) fun y2 =>
        cond (inRange a3 (a4.length)) (
          cond (decide ((Int.toNat a3) < (a4.length))) (
            Option.bind (some ((a4.set (Int.toNat a3) (bitsI .xor .u8 y1 y2)) : List Int)) fun y3 =>
            some (.inl ((a1, (), a2, (IntKind.i64.wrap (a3 + 1))), y3))) none) none) none) (
      some (.inr ((), a4)))
noncomputable def seal_mixed (a1 : Int) (a2 : Int) (a3 : List Int) : Option (Unit × List Int) :=
  Option.bind (seal_Stream a1 a2 (((a3.length) : Nat) : Int)) fun y1 =>
  Option.bind (loopFix seal_mixed_l3 ((a3, (), (((y1.2.length) : Nat) : Int), 0), y1.2)) fun y2 =>
  some ((), y2.2)

/-! seal_tag: passkey/seal.tag -/
noncomputable def seal_tag (a1 : Int) (a2 : Int) (a3 : List Int) (a4 : List Int) : Option (List Int) :=
  Option.bind (some ((IntKind.u64.wrap (((a3.length) : Nat) : Int)) : Int)) fun y1 =>
  Option.bind (digest_Words [a2, y1]) fun y2 =>
  cond (decide (((y2.2 ++ a3).length) * 1 ≤ 140737488355328)) (
    cond (decide ((((y2.2 ++ a3) ++ a4).length) * 1 ≤ 140737488355328)) (
      Option.bind (digest_Mac a1 6 ((y2.2 ++ a3) ++ a4)) fun y3 =>
      Option.bind (digest_Words [y3]) fun y4 =>
      cond (decide (8 ≤ (y4.2.length))) (
        some (y4.2.take 8)) none) none) none

/-! seal_Seal: passkey/seal.Seal -/
noncomputable def seal_Seal (a1 : Int) (a2 : Int) (a3 : List Int) (a4 : List Int) : Option ((Unit × Int) × List Int) :=
  cond (decide ((((a4.length) : Nat) : Int) > 1024)) (
    some (((), 8), [])) (
    cond (decide ((((a3.length) : Nat) : Int) > 1024)) (
      some (((), 8), [])) (
      Option.bind (seal_mixed a1 a2 a4) fun y1 =>
      Option.bind (seal_tag a1 a2 a3 y1.2) fun y2 =>
      Option.bind (digest_Words [a2]) fun y3 =>
      cond (decide (((y3.2 ++ y1.2).length) * 1 ≤ 140737488355328)) (
        cond (decide ((((y3.2 ++ y1.2) ++ ((y2.take 8).drop 0)).length) * 1 ≤ 140737488355328)) (
          some (((), 0), ((y3.2 ++ y1.2) ++ ((y2.take 8).drop 0)))) none) none))

/-! credential_ID: passkey/credential.ID -/
noncomputable def credential_ID (a1 : Int) (a2 : Int) (a3 : ByteArray) (a4 : ByteArray) (a5 : ByteArray) (a6 : Int) (a7 : Int) (a8 : Bool) (a9 : Int) (a10 : Bool) (a11 : Bool) : Option ((Unit × Int) × List Int) :=
  Option.bind (credential_Encode a3 a4 a5 a6 a7 a8 a9 a10 a11) fun y1 =>
  cond (y1.1.2 != 0) (
    some (((), y1.1.2), [])) (
    cond a8 (
      Option.bind (digest_Derive a6 (bs [105, 100]) 0) fun y2 =>
      Option.bind (seal_Stream y2 0 176) fun y3 =>
      some (((), 0), y3.2)) (
      Option.bind (credential_wrap a1 a3) fun y4 =>
      Option.bind (some ((IntKind.i64.wrap (160 - (((y1.2.length) : Nat) : Int))) : Int)) fun y5 =>
      cond (decide (0 ≤ y5) && decide (y5 ≤ 140737488355328)) (
        cond (decide (((y1.2 ++ (List.replicate (Int.toNat y5) (0 : Int))).length) * 1 ≤ 140737488355328)) (
          Option.bind (some ((y1.2 ++ (List.replicate (Int.toNat y5) (0 : Int))) : List Int)) fun y6 =>
          Option.bind (seal_Seal y4.1.1 a2 y4.2 y6) fun y7 =>
          some (((), y7.1.2), y7.2)) none) none))

/-! seal_word: passkey/seal.word -/
noncomputable def seal_word_l3 : (Int × List Int × Int) → Option ((Int × List Int × Int) ⊕ Int) := fun s => match s with
  | (a1, a2, a3) =>
    cond (decide (a3 < 8)) (
      cond (inRange a3 8) (
        Option.bind (a2[(Int.toNat a3)]?) fun y1 =>
        Option.bind (some ((bitsI .or .u64 (shlI .u64 a1 8) (IntKind.u64.wrap y1)) : Int)) fun y2 =>
        some (.inl (y2, a2, (IntKind.i64.wrap (a3 + 1))))) none) (
      some (.inr a1))
noncomputable def seal_word (a1 : List Int) : Option Int :=
  Option.bind (loopFix seal_word_l3 (0, a1, 0)) fun y1 =>
  some y1

/-! seal_Open: passkey/seal.Open -/
noncomputable def seal_Open (a1 : Int) (a2 : List Int) (a3 : List Int) : Option ((Unit × Int) × List Int) :=
  cond (decide ((((a3.length) : Nat) : Int) < 16)) (
    some (((), 1), [])) (
    cond (decide ((((a3.length) : Nat) : Int) > 1040)) (
      some (((), 8), [])) (
      cond (decide ((((a2.length) : Nat) : Int) > 1024)) (
        some (((), 8), [])) (
        cond ((okBounds 0 8 (a3.length)) && ((decide (8 ≤ (((a3.length) : Nat) : Int))) && (decide ((((a3.length) : Nat) : Int) ≤ (((a3.length) : Nat) : Int))))) (
          cond (decide (8 ≤ ((cut a3 0 8).length))) (
            Option.bind (seal_word ((cut a3 0 8).take 8)) fun y1 =>
            Option.bind (some ((IntKind.i64.wrap ((((a3.length) : Nat) : Int) - 8)) : Int)) fun y2 =>
            cond ((okBounds 8 y2 (a3.length)) && ((decide (y2 ≤ (((a3.length) : Nat) : Int))) && (decide ((((a3.length) : Nat) : Int) ≤ (((a3.length) : Nat) : Int))))) (
              Option.bind (some ((IntKind.i64.wrap ((((a3.length) : Nat) : Int) - 8)) : Int)) fun y3 =>
              cond ((okBounds y3 (((a3.length) : Nat) : Int) (a3.length)) && ((decide ((((a3.length) : Nat) : Int) ≤ (((a3.length) : Nat) : Int))) && (decide ((((a3.length) : Nat) : Int) ≤ (((a3.length) : Nat) : Int))))) (
                cond (decide (8 ≤ ((cut a3 y3 (((a3.length) : Nat) : Int)).length))) (
                  Option.bind (some (((cut a3 y3 (((a3.length) : Nat) : Int)).take 8) : List Int)) fun y4 =>
                  Option.bind (seal_tag a1 y1 a2 (cut a3 8 y2)) fun y5 =>
                  cond (!(y4 == y5)) (
                    some (((), 14), [])) (
                    Option.bind (seal_mixed a1 y1 (cut a3 8 y2)) fun y6 =>
                    some (((), 0), y6.2))) none) none) none) none) none)))

/-! cbor_first: passkey/cbor.first -/
noncomputable def cbor_first_j6 : List Int → Option (Int × Int × Int × Int) := fun s => match s with
  | a1 =>
    Option.bind (getI a1 0) fun y1 =>
    Option.bind (some ((IntKind.u64.wrap (IntKind.u8.wrap (y1 - 244))) : Int)) fun y2 =>
    some (7, y2, 1, 0)
noncomputable def cbor_first_j7 : (List Int × Int × Int) → Option ((Int × Int × Int × Int) ⊕ (List Int × Int)) := fun s => match s with
  | (a1, a2, a3) =>
    cond (a3 == 246) (
      some (.inl (8, 0, 1, 0))) (
      some (.inr (a1, a2)))
noncomputable def cbor_first_j11 : Unit → Option (Int × Int × Int × Int) := fun s => match s with
  | () =>
    some (0, 0, 0, 2)
noncomputable def cbor_first_l19 : (Int × Int × Int × Int × List Int × Int × Int) → Option ((Int × Int × Int × Int × List Int × Int × Int) ⊕ (Int × Int × Int × Int)) := fun s => match s with
  | (a1, a2, a3, a4, a5, a6, a7) =>
    cond (decide (a7 < a6)) (
      Option.bind (getI a5 a7) fun y1 =>
      Option.bind (some ((bitsI .or .u64 (shlI .u64 a2 8) (IntKind.u64.wrap y1)) : Int)) fun y2 =>
      some (.inl (a1, y2, a3, a4, a5, a6, (IntKind.i64.wrap (a7 + 1))))) (
      some (.inr (a1, a2, a3, a4)))
noncomputable def cbor_first (a1 : List Int) : Option (Int × Int × Int × Int) :=
  cond ((((a1.length) : Nat) : Int) == 0) (
    some (0, 0, 0, 1)) (
    Option.bind (getI a1 0) fun y1 =>
    cond (y1 == 244) (
      Option.bind (cbor_first_j6 a1) fun y2 =>
      some (y2.1, y2.2.1, y2.2.2.1, y2.2.2.2)) (
      cond (y1 == 245) (
        Option.bind (cbor_first_j6 a1) fun y3 =>
        some (y3.1, y3.2.1, y3.2.2.1, y3.2.2.2)) (
        Option.bind (cbor_first_j7 (a1, 0, y1)) fun y4 =>
        match y4 with
        | (.inl y5) =>
          some (y5.1, y5.2.1, y5.2.2.1, y5.2.2.2)
        | (.inr y6) =>
          Option.bind (getI y6.1 0) fun y7 =>
          Option.bind (getI y6.1 0) fun y8 =>
          cond (decide ((IntKind.u8.wrap (Int.tdiv y7 32)) > 5)) (
            Option.bind (cbor_first_j11 ()) fun y9 =>
            some (y9.1, y9.2.1, y9.2.2.1, y9.2.2.2)) (
            cond (decide ((Int.tmod y8 32) > 27)) (
              Option.bind (cbor_first_j11 ()) fun y10 =>
              some (y10.1, y10.2.1, y10.2.2.1, y10.2.2.2)) (
              Option.bind (some ((IntKind.i64.wrap (IntKind.u8.wrap (Int.tdiv y7 32))) : Int)) fun y11 =>
              cond (decide ((Int.tmod y8 32) < 24)) (
                some ((IntKind.i64.wrap (1 + y11)), (IntKind.u64.wrap (Int.tmod y8 32)), 1, 0)) (
                Option.bind (some ((IntKind.u8.wrap ((Int.tmod y8 32) - 24)) : Int)) fun y12 =>
                cond (decide (0 ≤ y12)) (
                  Option.bind (some ((IntKind.i64.wrap (1 + (shlI .i64 1 y12))) : Int)) fun y13 =>
                  cond (decide ((((y6.1.length) : Nat) : Int) < y13)) (
                    some (0, 0, 0, 1)) (
                    cond ((okBounds 1 y13 (y6.1.length)) && ((decide (y13 ≤ (((y6.1.length) : Nat) : Int))) && (decide ((((y6.1.length) : Nat) : Int) ≤ (((y6.1.length) : Nat) : Int))))) (
                      Option.bind (some (((((cut y6.1 1 y13).length) : Nat) : Int) : Int)) fun y14 =>
                      Option.bind (loopFix cbor_first_l19 ((IntKind.i64.wrap (1 + y11)), y6.2, y13, (IntKind.u8.wrap (Int.tdiv y7 32)), (cut y6.1 1 y13), y14, 0)) fun y15 =>
                      Option.bind (cbor_head y15.2.2.2 y15.2.1) fun y16 =>
                      cond ((((y16.2.length) : Nat) : Int) != y15.2.2.1) (
                        some (0, 0, 0, 2)) (
                        some (y15.1, y15.2.1, y15.2.2.1, 0))) none)) none))))))

/-! cbor_walk_isKey_c34: (*passkey/cbor.walk).isKey -/
noncomputable def cbor_walk_isKey_c34 (a1 : Int) (a2 : Bool) (a3 : List Int) (a4 : Int) (a5 : List PD) : Option (Bool × ((Unit × Int × Bool × List Int × Int) × List PD)) :=
  cond (decide ((((a5.length) : Nat) : Int) > 0)) (
    Option.bind (some ((IntKind.i64.wrap ((((a5.length) : Nat) : Int) - 1)) : Int)) fun y1 =>
    cond (inRange y1 (a5.length)) (
      Option.bind (a5[(Int.toNat y1)]?) fun y2 =>
      Option.bind (PD.boolAt y2 0) fun y3 =>
      cond y3 (
        Option.bind (some ((IntKind.i64.wrap ((((a5.length) : Nat) : Int) - 1)) : Int)) fun y4 =>
        cond (inRange y4 (a5.length)) (
          Option.bind (a5[(Int.toNat y4)]?) fun y5 =>
          Option.bind (PD.intAt .i64 y5 1) fun y6 =>
          some (((Int.tmod y6 2) == 0), (((), a1, a2, a3, a4), a5))) none) (
        some (false, (((), a1, a2, a3, a4), a5)))) none) (
    some (false, (((), a1, a2, a3, a4), a5)))

/-! cbor_walk_enter_98d: (*passkey/cbor.walk).enter -/
noncomputable def cbor_walk_enter_98d (a1 : Int) (a2 : Int) (a3 : Bool) (a4 : List Int) (a5 : Int) (a6 : List PD) : Option (Int × ((Unit × Int × Bool × List Int × Int) × List PD)) :=
  cond (decide (a2 ≥ 512)) (
    some (8, (((), a2, a3, a4, a5), a6))) (
    cond (decide (a1 < 1)) (
      some (3, (((), a2, a3, a4, a5), a6))) (
      cond (decide (a1 > 8)) (
        some (3, (((), a2, a3, a4, a5), a6))) (
        Option.bind (cbor_walk_isKey_c34 a2 a3 a4 a5 a6) fun y1 =>
        cond y1.1 (
          cond (a1 != 1) (
            cond (a1 != 2) (
              cond (a1 != 4) (
                some (3, (((), y1.2.1.2.1, y1.2.1.2.2.1, y1.2.1.2.2.2.1, y1.2.1.2.2.2.2), y1.2.2))) (
                cond (decide ((((y1.2.2.length) : Nat) : Int) > 8)) (
                  some (5, (((), y1.2.1.2.1, y1.2.1.2.2.1, y1.2.1.2.2.2.1, y1.2.1.2.2.2.2), y1.2.2))) (
                  some (0, (((), y1.2.1.2.1, y1.2.1.2.2.1, y1.2.1.2.2.2.1, y1.2.1.2.2.2.2), y1.2.2))))) (
              cond (decide ((((y1.2.2.length) : Nat) : Int) > 8)) (
                some (5, (((), y1.2.1.2.1, y1.2.1.2.2.1, y1.2.1.2.2.2.1, y1.2.1.2.2.2.2), y1.2.2))) (
                some (0, (((), y1.2.1.2.1, y1.2.1.2.2.1, y1.2.1.2.2.2.1, y1.2.1.2.2.2.2), y1.2.2))))) (
            cond (decide ((((y1.2.2.length) : Nat) : Int) > 8)) (
              some (5, (((), y1.2.1.2.1, y1.2.1.2.2.1, y1.2.1.2.2.2.1, y1.2.1.2.2.2.2), y1.2.2))) (
              some (0, (((), y1.2.1.2.1, y1.2.1.2.2.1, y1.2.1.2.2.2.1, y1.2.1.2.2.2.2), y1.2.2))))) (
          cond (decide ((((y1.2.2.length) : Nat) : Int) > 8)) (
            some (5, (((), y1.2.1.2.1, y1.2.1.2.2.1, y1.2.1.2.2.2.1, y1.2.1.2.2.2.2), y1.2.2))) (
            some (0, (((), y1.2.1.2.1, y1.2.1.2.2.1, y1.2.1.2.2.2.1, y1.2.1.2.2.2.2), y1.2.2)))))))

/-! cbor_walk_content_f84: (*passkey/cbor.walk).content -/
noncomputable def cbor_walk_content_f84_l18 : (Unit × ((Unit × Int × Bool × List Int × Int) × Unit × List PD)) → Option ((Unit × ((Unit × Int × Bool × List Int × Int) × Unit × List PD)) ⊕ (Unit × ((Unit × Int × Bool × List Int × Int) × Unit × List PD))) := fun s => match s with
  | ((), (((), a1, a2, a3, a4), (), a5)) =>
    cond (decide ((((a5.length) : Nat) : Int) > 0)) (
      Option.bind (some ((IntKind.i64.wrap ((((a5.length) : Nat) : Int) - 1)) : Int)) fun y1 =>
      cond (inRange y1 (a5.length)) (
        Option.bind (a5[(Int.toNat y1)]?) fun y2 =>
        Option.bind (PD.intAt .i64 y2 1) fun y3 =>
        cond (y3 == 0) (
          Option.bind (some ((IntKind.i64.wrap ((((a5.length) : Nat) : Int) - 1)) : Int)) fun y4 =>
          cond (okBounds 0 y4 (a5.length)) (
            some (.inl ((), (((), a1, a2, a3, a4), (), (cut a5 0 y4))))) none) (
          some (.inr ((), (((), a1, a2, a3, a4), (), a5))))) none) (
      some (.inr ((), (((), a1, a2, a3, a4), (), a5))))
noncomputable def cbor_walk_content_f84_j18 : (Unit × ((Unit × Int × Bool × List Int × Int) × Unit × List PD)) → Option (Int × ((Unit × Int × Bool × List Int × Int) × Unit × List PD)) := fun s => match s with
  | ((), (((), a1, a2, a3, a4), (), a5)) =>
    Option.bind (loopFix cbor_walk_content_f84_l18 ((), (((), a1, a2, a3, a4), (), a5))) fun y1 =>
    some (0, (((), y1.2.1.2.1, ((((y1.2.2.2.length) : Nat) : Int) == 0), y1.2.1.2.2.2.1, y1.2.1.2.2.2.2), (), y1.2.2.2))
noncomputable def cbor_walk_content_f84_j13 : ((Unit × Unit) × ((Unit × Int × Bool × List Int × Int) × List PD × (Int × Int × ByteArray))) → Option (Int × ((Unit × Int × Bool × List Int × Int) × Unit × List PD)) := fun s => match s with
  | (((), ()), (((), a1, a2, a3, a4), a5, (a6, a7, a8))) =>
    cond (a6 == 5) (
      cond (decide (((a5 ++ [(PD.agg [(.bool false), (.int .i64 (IntKind.i64.wrap a7)), (.str (bs []))])]).length) * 32 ≤ 140737488355328)) (
        Option.bind (some ((a5 ++ [(PD.agg [(.bool false), (.int .i64 (IntKind.i64.wrap a7)), (.str (bs []))])]) : List PD)) fun y1 =>
        Option.bind (cbor_walk_content_f84_j18 ((), (((), a1, a2, a3, a4), (), y1))) fun y2 =>
        some (y2.1, (((), y2.2.1.2.1, y2.2.1.2.2.1, y2.2.1.2.2.2.1, y2.2.1.2.2.2.2), (), y2.2.2.2))) none) (
      cond (a6 == 6) (
        Option.bind (some ((IntKind.i64.wrap (2 * (IntKind.i64.wrap a7))) : Int)) fun y3 =>
        cond (decide (((a5 ++ [(PD.agg [(.bool true), (.int .i64 y3), (.str (bs []))])]).length) * 32 ≤ 140737488355328)) (
          Option.bind (some ((a5 ++ [(PD.agg [(.bool true), (.int .i64 y3), (.str (bs []))])]) : List PD)) fun y4 =>
          Option.bind (cbor_walk_content_f84_j18 ((), (((), a1, a2, a3, a4), (), y4))) fun y5 =>
          some (y5.1, (((), y5.2.1.2.1, y5.2.1.2.2.1, y5.2.1.2.2.2.1, y5.2.1.2.2.2.2), (), y5.2.2.2))) none) (
        Option.bind (cbor_walk_content_f84_j18 ((), (((), a1, a2, a3, a4), (), a5))) fun y6 =>
        some (y6.1, (((), y6.2.1.2.1, y6.2.1.2.2.1, y6.2.1.2.2.2.1, y6.2.1.2.2.2.2), (), y6.2.2.2))))
noncomputable def cbor_walk_content_f84_j9 : ((Unit × Unit) × ((Unit × Int × Bool × List Int × Int) × List PD × (Int × Int × ByteArray))) → Option (Int × ((Unit × Int × Bool × List Int × Int) × Unit × List PD)) := fun s => match s with
  | (((), ()), (((), a1, a2, a3, a4), a5, (a6, a7, a8))) =>
    cond (decide ((((a5.length) : Nat) : Int) > 0)) (
      Option.bind (some ((IntKind.i64.wrap ((((a5.length) : Nat) : Int) - 1)) : Int)) fun y1 =>
      cond (inRange y1 (a5.length)) (
        Option.bind (a5[(Int.toNat y1)]?) fun y2 =>
        Option.bind (PD.intAt .i64 y2 1) fun y3 =>
        cond (inRange y1 (a5.length)) (
          Option.bind (a5[(Int.toNat y1)]?) fun y4 =>
          Option.bind (PD.boolAt y4 0) fun y5 =>
          Option.bind (PD.intAt .i64 y4 1) fun y6 =>
          Option.bind (PD.strAt y4 2) fun y7 =>
          Option.bind (some ((a5.set (Int.toNat y1) (.agg [(.bool y5), (.int .i64 (IntKind.i64.wrap (y3 - 1))), (.str y7)])) : List PD)) fun y8 =>
          Option.bind (cbor_walk_content_f84_j13 (((), ()), (((), (IntKind.i64.wrap (a1 + 1)), a2, a3, a4), y8, (a6, a7, a8)))) fun y9 =>
          some (y9.1, (((), y9.2.1.2.1, y9.2.1.2.2.1, y9.2.1.2.2.2.1, y9.2.1.2.2.2.2), (), y9.2.2.2))) none) none) (
      Option.bind (cbor_walk_content_f84_j13 (((), ()), (((), (IntKind.i64.wrap (a1 + 1)), a2, a3, a4), a5, (a6, a7, a8)))) fun y10 =>
      some (y10.1, (((), y10.2.1.2.1, y10.2.1.2.2.1, y10.2.1.2.2.2.1, y10.2.1.2.2.2.2), (), y10.2.2.2)))
noncomputable def cbor_walk_content_f84 (a1 : Int) (a2 : Int) (a3 : ByteArray) (a4 : Int) (a5 : Bool) (a6 : List Int) (a7 : Int) (a8 : List PD) : Option (Int × ((Unit × Int × Bool × List Int × Int) × Unit × List PD)) :=
  cond (a1 == 4) (
    Option.bind (utf8_ValidString a3) fun y1 =>
    cond (!y1) (
      some (6, (((), a4, a5, a6, a7), (), a8))) (
      Option.bind (cbor_walk_isKey_c34 a4 a5 a6 a7 a8) fun y2 =>
      cond y2.1 (
        Option.bind (some ((IntKind.i64.wrap ((((y2.2.2.length) : Nat) : Int) - 1)) : Int)) fun y3 =>
        cond (inRange y3 (y2.2.2.length)) (
          Option.bind (cbor_encode a1 a2 a3) fun y4 =>
          Option.bind (y2.2.2[(Int.toNat y3)]?) fun y5 =>
          Option.bind (PD.strAt y5 2) fun y6 =>
          cond (!(strEq y6 (bs []))) (
            Option.bind (y2.2.2[(Int.toNat y3)]?) fun y7 =>
            Option.bind (PD.strAt y7 2) fun y8 =>
            cond (decide (((((strOf y4.2).size) : Nat) : Int) < (((y8.size) : Nat) : Int))) (
              some (7, (((), y2.2.1.2.1, y2.2.1.2.2.1, y2.2.1.2.2.2.1, y2.2.1.2.2.2.2), (), y2.2.2))) (
              Option.bind (y2.2.2[(Int.toNat y3)]?) fun y9 =>
              Option.bind (PD.strAt y9 2) fun y10 =>
              cond (((((strOf y4.2).size) : Nat) : Int) == (((y10.size) : Nat) : Int)) (
                Option.bind (y2.2.2[(Int.toNat y3)]?) fun y11 =>
                Option.bind (PD.strAt y11 2) fun y12 =>
                cond ((strLt (strOf y4.2) y12) || (strEq (strOf y4.2) y12)) (
                  some (7, (((), y2.2.1.2.1, y2.2.1.2.2.1, y2.2.1.2.2.2.1, y2.2.1.2.2.2.2), (), y2.2.2))) (
                  Option.bind (y2.2.2[(Int.toNat y3)]?) fun y13 =>
                  Option.bind (PD.boolAt y13 0) fun y14 =>
                  Option.bind (PD.intAt .i64 y13 1) fun y15 =>
                  Option.bind (PD.strAt y13 2) fun y16 =>
                  Option.bind (some ((y2.2.2.set (Int.toNat y3) (.agg [(.bool y14), (.int .i64 y15), (.str (strOf y4.2))])) : List PD)) fun y17 =>
                  Option.bind (cbor_walk_content_f84_j9 (((), ()), (((), y2.2.1.2.1, y2.2.1.2.2.1, y2.2.1.2.2.2.1, y2.2.1.2.2.2.2), y17, (a1, a2, a3)))) fun y18 =>
                  some (y18.1, (((), y18.2.1.2.1, y18.2.1.2.2.1, y18.2.1.2.2.2.1, y18.2.1.2.2.2.2), (), y18.2.2.2)))) (
                Option.bind (y2.2.2[(Int.toNat y3)]?) fun y19 =>
                Option.bind (PD.boolAt y19 0) fun y20 =>
                Option.bind (PD.intAt .i64 y19 1) fun y21 =>
                Option.bind (PD.strAt y19 2) fun y22 =>
                Option.bind (some ((y2.2.2.set (Int.toNat y3) (.agg [(.bool y20), (.int .i64 y21), (.str (strOf y4.2))])) : List PD)) fun y23 =>
                Option.bind (cbor_walk_content_f84_j9 (((), ()), (((), y2.2.1.2.1, y2.2.1.2.2.1, y2.2.1.2.2.2.1, y2.2.1.2.2.2.2), y23, (a1, a2, a3)))) fun y24 =>
                some (y24.1, (((), y24.2.1.2.1, y24.2.1.2.2.1, y24.2.1.2.2.2.1, y24.2.1.2.2.2.2), (), y24.2.2.2))))) (
            Option.bind (y2.2.2[(Int.toNat y3)]?) fun y25 =>
            Option.bind (PD.boolAt y25 0) fun y26 =>
            Option.bind (PD.intAt .i64 y25 1) fun y27 =>
            Option.bind (PD.strAt y25 2) fun y28 =>
            Option.bind (some ((y2.2.2.set (Int.toNat y3) (.agg [(.bool y26), (.int .i64 y27), (.str (strOf y4.2))])) : List PD)) fun y29 =>
            Option.bind (cbor_walk_content_f84_j9 (((), ()), (((), y2.2.1.2.1, y2.2.1.2.2.1, y2.2.1.2.2.2.1, y2.2.1.2.2.2.2), y29, (a1, a2, a3)))) fun y30 =>
            some (y30.1, (((), y30.2.1.2.1, y30.2.1.2.2.1, y30.2.1.2.2.2.1, y30.2.1.2.2.2.2), (), y30.2.2.2)))) none) (
        Option.bind (cbor_walk_content_f84_j9 (((), ()), (((), y2.2.1.2.1, y2.2.1.2.2.1, y2.2.1.2.2.2.1, y2.2.1.2.2.2.2), y2.2.2, (a1, a2, a3)))) fun y31 =>
        some (y31.1, (((), y31.2.1.2.1, y31.2.1.2.2.1, y31.2.1.2.2.2.1, y31.2.1.2.2.2.2), (), y31.2.2.2))))) (
    Option.bind (cbor_walk_isKey_c34 a4 a5 a6 a7 a8) fun y32 =>
    cond y32.1 (
      Option.bind (some ((IntKind.i64.wrap ((((y32.2.2.length) : Nat) : Int) - 1)) : Int)) fun y33 =>
      cond (inRange y33 (y32.2.2.length)) (
        Option.bind (cbor_encode a1 a2 a3) fun y34 =>
        Option.bind (y32.2.2[(Int.toNat y33)]?) fun y35 =>
        Option.bind (PD.strAt y35 2) fun y36 =>
        cond (!(strEq y36 (bs []))) (
          Option.bind (y32.2.2[(Int.toNat y33)]?) fun y37 =>
          Option.bind (PD.strAt y37 2) fun y38 =>
          cond (decide (((((strOf y34.2).size) : Nat) : Int) < (((y38.size) : Nat) : Int))) (
            some (7, (((), y32.2.1.2.1, y32.2.1.2.2.1, y32.2.1.2.2.2.1, y32.2.1.2.2.2.2), (), y32.2.2))) (
            Option.bind (y32.2.2[(Int.toNat y33)]?) fun y39 =>
            Option.bind (PD.strAt y39 2) fun y40 =>
            cond (((((strOf y34.2).size) : Nat) : Int) == (((y40.size) : Nat) : Int)) (
              Option.bind (y32.2.2[(Int.toNat y33)]?) fun y41 =>
              Option.bind (PD.strAt y41 2) fun y42 =>
              cond ((strLt (strOf y34.2) y42) || (strEq (strOf y34.2) y42)) (
                some (7, (((), y32.2.1.2.1, y32.2.1.2.2.1, y32.2.1.2.2.2.1, y32.2.1.2.2.2.2), (), y32.2.2))) (
                Option.bind (y32.2.2[(Int.toNat y33)]?) fun y43 =>
                Option.bind (PD.boolAt y43 0) fun y44 =>
                Option.bind (PD.intAt .i64 y43 1) fun y45 =>
                Option.bind (PD.strAt y43 2) fun y46 =>
                Option.bind (some ((y32.2.2.set (Int.toNat y33) (.agg [(.bool y44), (.int .i64 y45), (.str (strOf y34.2))])) : List PD)) fun y47 =>
                Option.bind (cbor_walk_content_f84_j9 (((), ()), (((), y32.2.1.2.1, y32.2.1.2.2.1, y32.2.1.2.2.2.1, y32.2.1.2.2.2.2), y47, (a1, a2, a3)))) fun y48 =>
                some (y48.1, (((), y48.2.1.2.1, y48.2.1.2.2.1, y48.2.1.2.2.2.1, y48.2.1.2.2.2.2), (), y48.2.2.2)))) (
              Option.bind (y32.2.2[(Int.toNat y33)]?) fun y49 =>
              Option.bind (PD.boolAt y49 0) fun y50 =>
              Option.bind (PD.intAt .i64 y49 1) fun y51 =>
              Option.bind (PD.strAt y49 2) fun y52 =>
              Option.bind (some ((y32.2.2.set (Int.toNat y33) (.agg [(.bool y50), (.int .i64 y51), (.str (strOf y34.2))])) : List PD)) fun y53 =>
              Option.bind (cbor_walk_content_f84_j9 (((), ()), (((), y32.2.1.2.1, y32.2.1.2.2.1, y32.2.1.2.2.2.1, y32.2.1.2.2.2.2), y53, (a1, a2, a3)))) fun y54 =>
              some (y54.1, (((), y54.2.1.2.1, y54.2.1.2.2.1, y54.2.1.2.2.2.1, y54.2.1.2.2.2.2), (), y54.2.2.2))))) (
          Option.bind (y32.2.2[(Int.toNat y33)]?) fun y55 =>
          Option.bind (PD.boolAt y55 0) fun y56 =>
          Option.bind (PD.intAt .i64 y55 1) fun y57 =>
          Option.bind (PD.strAt y55 2) fun y58 =>
          Option.bind (some ((y32.2.2.set (Int.toNat y33) (.agg [(.bool y56), (.int .i64 y57), (.str (strOf y34.2))])) : List PD)) fun y59 =>
          Option.bind (cbor_walk_content_f84_j9 (((), ()), (((), y32.2.1.2.1, y32.2.1.2.2.1, y32.2.1.2.2.2.1, y32.2.1.2.2.2.2), y59, (a1, a2, a3)))) fun y60 =>
          some (y60.1, (((), y60.2.1.2.1, y60.2.1.2.2.1, y60.2.1.2.2.2.1, y60.2.1.2.2.2.2), (), y60.2.2.2)))) none) (
      Option.bind (cbor_walk_content_f84_j9 (((), ()), (((), y32.2.1.2.1, y32.2.1.2.2.1, y32.2.1.2.2.2.1, y32.2.1.2.2.2.2), y32.2.2, (a1, a2, a3)))) fun y61 =>
      some (y61.1, (((), y61.2.1.2.1, y61.2.1.2.2.1, y61.2.1.2.2.2.1, y61.2.1.2.2.2.2), (), y61.2.2.2))))

/-! cbor_decoder_next_c34: (*passkey/cbor.decoder).next -/
noncomputable def cbor_decoder_next_c34_j12 : ((Unit × Unit × Int × Int × Unit) × ((Unit × Int × Bool × List Int × Int) × List PD × (Int × Int × ByteArray) × (Int × Int × ByteArray))) → Option (((Unit × Int) × ((Unit × Int × Bool × List Int × Int) × List PD × (Int × Int × ByteArray) × (Int × Int × ByteArray))) ⊕ ((Unit × Unit × Unit) × ((Unit × Int × Bool × List Int × Int) × List PD × (Int × Int × ByteArray) × (Int × Int × ByteArray)))) := fun s => match s with
  | (((), (), a1, a2, ()), (((), a3, a4, a5, a6), a7, (a8, a9, a10), (a11, a12, a13))) =>
    cond (decide (a2 > 1024)) (
      some (.inl (((), 8), (((), a3, a4, a5, a6), a7, (0, 0, (bs [])), (a11, a12, a13))))) (
      Option.bind (some ((IntKind.i64.wrap ((((a5.length) : Nat) : Int) - a6)) : Int)) fun y1 =>
      cond (decide ((IntKind.i64.wrap a2) > y1)) (
        some (.inl (((), 1), (((), a3, a4, a5, a6), a7, (0, 0, (bs [])), (a11, a12, a13))))) (
        Option.bind (some ((IntKind.i64.wrap (a6 + (IntKind.i64.wrap a2))) : Int)) fun y2 =>
        cond ((okBounds a6 y2 (a5.length)) && ((decide (y2 ≤ (((a5.length) : Nat) : Int))) && (decide ((((a5.length) : Nat) : Int) ≤ (((a5.length) : Nat) : Int))))) (
          Option.bind (some ((IntKind.i64.wrap (a6 + (IntKind.i64.wrap a2))) : Int)) fun y3 =>
          some (.inr (((), (), ()), (((), a3, a4, a5, y3), a7, (a8, a9, a10), (a1, 0, (strOf (cut a5 a6 y2))))))) none))
noncomputable def cbor_decoder_next_c34_j22 : ((Unit × Unit × Unit) × ((Unit × Int × Bool × List Int × Int) × List PD × (Int × Int × ByteArray) × (Int × Int × ByteArray))) → Option ((Unit × Int) × ((Unit × Int × Bool × List Int × Int) × Unit × List PD × (Int × Int × ByteArray))) := fun s => match s with
  | (((), (), ()), (((), a1, a2, a3, a4), a5, (a6, a7, a8), (a9, a10, a11))) =>
    Option.bind (cbor_walk_content_f84 a9 a10 a11 a1 a2 a3 a4 a5) fun y1 =>
    some (((), y1.1), (((), y1.2.1.2.1, y1.2.1.2.2.1, y1.2.1.2.2.2.1, y1.2.1.2.2.2.2), (), y1.2.2.2, (a9, a10, a11)))
noncomputable def cbor_decoder_next_c34_j18 : ((Unit × Unit × Int × Unit × Int) × ((Unit × Int × Bool × List Int × Int) × List PD × (Int × Int × ByteArray) × (Int × Int × ByteArray))) → Option (((Unit × Int) × ((Unit × Int × Bool × List Int × Int) × List PD × (Int × Int × ByteArray) × (Int × Int × ByteArray))) ⊕ ((Unit × Unit × Unit) × ((Unit × Int × Bool × List Int × Int) × List PD × (Int × Int × ByteArray) × (Int × Int × ByteArray)))) := fun s => match s with
  | (((), (), a1, (), a2), (((), a3, a4, a5, a6), a7, (a8, a9, a10), (a11, a12, a13))) =>
    cond (a2 == 5) (
      cond (decide (a1 > 512)) (
        some (.inl (((), 8), (((), a3, a4, a5, a6), a7, (0, 0, (bs [])), (a11, a12, a13))))) (
        some (.inr (((), (), ()), (((), a3, a4, a5, a6), a7, (a8, a9, a10), (a11, a12, a13)))))) (
      cond (a2 == 6) (
        cond (decide (a1 > 512)) (
          some (.inl (((), 8), (((), a3, a4, a5, a6), a7, (0, 0, (bs [])), (a11, a12, a13))))) (
          some (.inr (((), (), ()), (((), a3, a4, a5, a6), a7, (a8, a9, a10), (a11, a12, a13)))))) (
        some (.inr (((), (), ()), (((), a3, a4, a5, a6), a7, (a8, a9, a10), (a11, a12, a13))))))
noncomputable def cbor_decoder_next_c34 (a1 : Int) (a2 : Bool) (a3 : List Int) (a4 : Int) (a5 : List PD) : Option (((Int × Int × ByteArray) × Int) × ((Unit × Int × Bool × List Int × Int) × Unit × List PD)) :=
  cond ((okBounds a4 (((a3.length) : Nat) : Int) (a3.length)) && ((decide ((((a3.length) : Nat) : Int) ≤ (((a3.length) : Nat) : Int))) && (decide ((((a3.length) : Nat) : Int) ≤ (((a3.length) : Nat) : Int))))) (
    Option.bind (cbor_first (cut a3 a4 (((a3.length) : Nat) : Int))) fun y1 =>
    cond (y1.2.2.2 != 0) (
      some (((0, 0, (bs [])), y1.2.2.2), (((), a1, a2, a3, a4), (), a5))) (
      Option.bind (cbor_walk_enter_98d y1.1 a1 a2 a3 a4 a5) fun y2 =>
      cond (y2.1 != 0) (
        some (((0, 0, (bs [])), y2.1), (((), y2.2.1.2.1, y2.2.1.2.2.1, y2.2.1.2.2.2.1, y2.2.1.2.2.2.2), (), y2.2.2))) (
        Option.bind (some ((IntKind.i64.wrap (y2.2.1.2.2.2.2 + y1.2.2.1)) : Int)) fun y3 =>
        cond (y1.1 == 3) (
          Option.bind (cbor_decoder_next_c34_j12 (((), (), y1.1, y1.2.1, ()), (((), y2.2.1.2.1, y2.2.1.2.2.1, y2.2.1.2.2.2.1, y3), y2.2.2, (0, 0, (bs [])), (y1.1, y1.2.1, (bs []))))) fun y4 =>
          match y4 with
          | (.inl y5) =>
            some (((y5.2.2.2.1.1, y5.2.2.2.1.2.1, y5.2.2.2.1.2.2), y5.1.2), (((), y5.2.1.2.1, y5.2.1.2.2.1, y5.2.1.2.2.2.1, y5.2.1.2.2.2.2), (), y5.2.2.1))
          | (.inr y6) =>
            Option.bind (cbor_decoder_next_c34_j22 (((), (), ()), (((), y6.2.1.2.1, y6.2.1.2.2.1, y6.2.1.2.2.2.1, y6.2.1.2.2.2.2), y6.2.2.1, (y6.2.2.2.1.1, y6.2.2.2.1.2.1, y6.2.2.2.1.2.2), (y6.2.2.2.2.1, y6.2.2.2.2.2.1, y6.2.2.2.2.2.2)))) fun y7 =>
            some (((y7.2.2.2.2.1, y7.2.2.2.2.2.1, y7.2.2.2.2.2.2), y7.1.2), (((), y7.2.1.2.1, y7.2.1.2.2.1, y7.2.1.2.2.2.1, y7.2.1.2.2.2.2), (), y7.2.2.2.1))) (
          cond (y1.1 == 4) (
            Option.bind (cbor_decoder_next_c34_j12 (((), (), y1.1, y1.2.1, ()), (((), y2.2.1.2.1, y2.2.1.2.2.1, y2.2.1.2.2.2.1, y3), y2.2.2, (0, 0, (bs [])), (y1.1, y1.2.1, (bs []))))) fun y8 =>
            match y8 with
            | (.inl y9) =>
              some (((y9.2.2.2.1.1, y9.2.2.2.1.2.1, y9.2.2.2.1.2.2), y9.1.2), (((), y9.2.1.2.1, y9.2.1.2.2.1, y9.2.1.2.2.2.1, y9.2.1.2.2.2.2), (), y9.2.2.1))
            | (.inr y10) =>
              Option.bind (cbor_decoder_next_c34_j22 (((), (), ()), (((), y10.2.1.2.1, y10.2.1.2.2.1, y10.2.1.2.2.2.1, y10.2.1.2.2.2.2), y10.2.2.1, (y10.2.2.2.1.1, y10.2.2.2.1.2.1, y10.2.2.2.1.2.2), (y10.2.2.2.2.1, y10.2.2.2.2.2.1, y10.2.2.2.2.2.2)))) fun y11 =>
              some (((y11.2.2.2.2.1, y11.2.2.2.2.2.1, y11.2.2.2.2.2.2), y11.1.2), (((), y11.2.1.2.1, y11.2.1.2.2.1, y11.2.1.2.2.2.1, y11.2.1.2.2.2.2), (), y11.2.2.2.1))) (
            Option.bind (cbor_decoder_next_c34_j18 (((), (), y1.2.1, (), y1.1), (((), y2.2.1.2.1, y2.2.1.2.2.1, y2.2.1.2.2.2.1, y3), y2.2.2, (0, 0, (bs [])), (y1.1, y1.2.1, (bs []))))) fun y12 =>
            match y12 with
            | (.inl y13) =>
              some (((y13.2.2.2.1.1, y13.2.2.2.1.2.1, y13.2.2.2.1.2.2), y13.1.2), (((), y13.2.1.2.1, y13.2.1.2.2.1, y13.2.1.2.2.2.1, y13.2.1.2.2.2.2), (), y13.2.2.1))
            | (.inr y14) =>
              Option.bind (cbor_decoder_next_c34_j22 (((), (), ()), (((), y14.2.1.2.1, y14.2.1.2.2.1, y14.2.1.2.2.2.1, y14.2.1.2.2.2.2), y14.2.2.1, (y14.2.2.2.1.1, y14.2.2.2.1.2.1, y14.2.2.2.1.2.2), (y14.2.2.2.2.1, y14.2.2.2.2.2.1, y14.2.2.2.2.2.2)))) fun y15 =>
              some (((y15.2.2.2.2.1, y15.2.2.2.2.2.1, y15.2.2.2.2.2.2), y15.1.2), (((), y15.2.1.2.1, y15.2.1.2.2.1, y15.2.1.2.2.2.1, y15.2.1.2.2.2.2), (), y15.2.2.2.1))))))) none

/-! cbor_Decode: passkey/cbor.Decode -/
noncomputable def cbor_Decode_l2 : ((Unit × Unit) × (List PD × (Unit × Int × Bool × List Int × Int) × List PD)) → Option (((Unit × Unit) × (List PD × (Unit × Int × Bool × List Int × Int) × List PD)) ⊕ (((List PD × Int × Int) × ((Unit × Int × Bool × List Int × Int) × List PD)) ⊕ ((Unit × Unit) × (List PD × (Unit × Int × Bool × List Int × Int) × List PD)))) := fun s => match s with
  | (((), ()), (a1, ((), a2, a3, a4, a5), a6)) =>
    cond (!a3) (
      Option.bind (cbor_decoder_next_c34 a2 a3 a4 a5 a6) fun y1 =>
      cond (y1.1.2 != 0) (
        some (.inr (.inl (([], 0, y1.1.2), (((), y1.2.1.2.1, y1.2.1.2.2.1, y1.2.1.2.2.2.1, y1.2.1.2.2.2.2), y1.2.2.2))))) (
        cond (decide (((a1 ++ [(PD.agg [(.int .i64 y1.1.1.1), (.int .u64 y1.1.1.2.1), (.str y1.1.1.2.2)])]).length) * 32 ≤ 140737488355328)) (
          Option.bind (some ((a1 ++ [(PD.agg [(.int .i64 y1.1.1.1), (.int .u64 y1.1.1.2.1), (.str y1.1.1.2.2)])]) : List PD)) fun y2 =>
          some (.inl (((), ()), (y2, ((), y1.2.1.2.1, y1.2.1.2.2.1, y1.2.1.2.2.2.1, y1.2.1.2.2.2.2), y1.2.2.2)))) none)) (
      some (.inr (.inr (((), ()), (a1, ((), a2, a3, a4, a5), a6)))))
noncomputable def cbor_Decode (a1 : List Int) : Option (List PD × Int × Int) :=
  Option.bind (loopFix cbor_Decode_l2 (((), ()), ([], ((), 0, false, a1, 0), []))) fun y1 =>
  match y1 with
  | (.inl y2) =>
    some (y2.1.1, y2.1.2.1, y2.1.2.2)
  | (.inr y3) =>
    some (y3.2.1, y3.2.2.1.2.2.2.2, 0)

/-! credential_prefix_1_467: passkey/credential.prefix$1 -/
noncomputable def credential_prefix_1_467 (a1 : Int) (a2 : List PD) : Option ((Int × Int × ByteArray) × List PD) :=
  Option.bind (getI a2 (IntKind.i64.wrap (2 * a1))) fun y1 =>
  Option.bind (PD.intAt .i64 y1 0) fun y2 =>
  Option.bind (PD.intAt .u64 y1 1) fun y3 =>
  Option.bind (PD.strAt y1 2) fun y4 =>
  some ((y2, y3, y4), a2)

/-! credential_prefix_2_f17: passkey/credential.prefix$2 -/
noncomputable def credential_prefix_2_f17 (a1 : Int) (a2 : List PD) : Option (Int × ((Unit × Unit) × List PD)) :=
  Option.bind (credential_prefix_1_467 a1 a2) fun y1 =>
  Option.bind (some ((if 255 < y1.1.2.1 then 255 else y1.1.2.1) : Int)) fun y2 =>
  some ((IntKind.i64.wrap y2), (((), ()), y1.2))

/-! credential_prefix_3_f17: passkey/credential.prefix$3 -/
noncomputable def credential_prefix_3_f17 (a1 : Int) (a2 : List PD) : Option (Bool × ((Unit × Unit) × List PD)) :=
  Option.bind (credential_prefix_1_467 a1 a2) fun y1 =>
  some ((y1.1.2.1 == 1), (((), ()), y1.2))

/-! bytes_Equal: bytes.Equal -/
noncomputable def bytes_Equal (a1 : List Int) (a2 : List Int) : Option Bool :=
  some (strEq (strOf a1) (strOf a2))

/-! credential_prefix: passkey/credential.prefix -/
noncomputable def credential_prefix_j3 : (Unit × (ByteArray × ByteArray × ByteArray × Int × Int × Bool × Int × Bool × Bool)) → Option ((Unit × Int × Int) × (ByteArray × ByteArray × ByteArray × Int × Int × Bool × Int × Bool × Bool)) := fun s => match s with
  | ((), (a1, a2, a3, a4, a5, a6, a7, a8, a9)) =>
    some (((), 0, 2), ((bs []), (bs []), (bs []), 0, 0, false, 0, false, false))
noncomputable def credential_prefix_j10 : (Unit × (ByteArray × ByteArray × ByteArray × Int × Int × Bool × Int × Bool × Bool)) → Option ((Unit × Int × Int) × (ByteArray × ByteArray × ByteArray × Int × Int × Bool × Int × Bool × Bool)) := fun s => match s with
  | ((), (a1, a2, a3, a4, a5, a6, a7, a8, a9)) =>
    some (((), 0, 2), ((bs []), (bs []), (bs []), 0, 0, false, 0, false, false))
noncomputable def credential_prefix (a1 : List Int) : Option ((ByteArray × ByteArray × ByteArray × Int × Int × Bool × Int × Bool × Bool) × Int × Int) :=
  Option.bind (cbor_Decode a1) fun y1 =>
  cond (y1.2.2 != 0) (
    Option.bind (credential_prefix_j3 ((), ((bs []), (bs []), (bs []), 0, 0, false, 0, false, false))) fun y2 =>
    some ((y2.2.1, y2.2.2.1, y2.2.2.2.1, y2.2.2.2.2.1, y2.2.2.2.2.2.1, y2.2.2.2.2.2.2.1, y2.2.2.2.2.2.2.2.1, y2.2.2.2.2.2.2.2.2.1, y2.2.2.2.2.2.2.2.2.2), y2.1.2.1, y2.1.2.2)) (
    cond ((((y1.1.length) : Nat) : Int) != 19) (
      Option.bind (credential_prefix_j3 ((), ((bs []), (bs []), (bs []), 0, 0, false, 0, false, false))) fun y3 =>
      some ((y3.2.1, y3.2.2.1, y3.2.2.2.1, y3.2.2.2.2.1, y3.2.2.2.2.2.1, y3.2.2.2.2.2.2.1, y3.2.2.2.2.2.2.2.1, y3.2.2.2.2.2.2.2.2.1, y3.2.2.2.2.2.2.2.2.2), y3.1.2.1, y3.1.2.2)) (
      Option.bind (credential_prefix_1_467 1 y1.1) fun y4 =>
      Option.bind (credential_prefix_1_467 2 y4.2) fun y5 =>
      Option.bind (credential_prefix_1_467 3 y5.2) fun y6 =>
      Option.bind (credential_prefix_1_467 4 y6.2) fun y7 =>
      Option.bind (credential_prefix_2_f17 5 y7.2) fun y8 =>
      Option.bind (credential_prefix_3_f17 6 y8.2.2) fun y9 =>
      Option.bind (credential_prefix_2_f17 7 y9.2.2) fun y10 =>
      Option.bind (credential_prefix_3_f17 8 y10.2.2) fun y11 =>
      Option.bind (credential_prefix_3_f17 9 y11.2.2) fun y12 =>
      Option.bind (credential_Encode y4.1.2.2 y5.1.2.2 y6.1.2.2 y7.1.2.1 y8.1 y9.1 y10.1 y11.1 y12.1) fun y13 =>
      cond (y13.1.2 != 0) (
        Option.bind (credential_prefix_j10 ((), ((bs []), (bs []), (bs []), 0, 0, false, 0, false, false))) fun y14 =>
        some ((y14.2.1, y14.2.2.1, y14.2.2.2.1, y14.2.2.2.2.1, y14.2.2.2.2.2.1, y14.2.2.2.2.2.2.1, y14.2.2.2.2.2.2.2.1, y14.2.2.2.2.2.2.2.2.1, y14.2.2.2.2.2.2.2.2.2), y14.1.2.1, y14.1.2.2)) (
        cond ((okBounds 0 y1.2.1 (a1.length)) && ((decide (y1.2.1 ≤ (((a1.length) : Nat) : Int))) && (decide ((((a1.length) : Nat) : Int) ≤ (((a1.length) : Nat) : Int))))) (
          Option.bind (bytes_Equal y13.2 (cut a1 0 y1.2.1)) fun y15 =>
          cond (!y15) (
            Option.bind (credential_prefix_j10 ((), ((bs []), (bs []), (bs []), 0, 0, false, 0, false, false))) fun y16 =>
            some ((y16.2.1, y16.2.2.1, y16.2.2.2.1, y16.2.2.2.2.1, y16.2.2.2.2.2.1, y16.2.2.2.2.2.2.1, y16.2.2.2.2.2.2.2.1, y16.2.2.2.2.2.2.2.2.1, y16.2.2.2.2.2.2.2.2.2), y16.1.2.1, y16.1.2.2)) (
            some ((y4.1.2.2, y5.1.2.2, y6.1.2.2, y7.1.2.1, y8.1, y9.1, y10.1, y11.1, y12.1), y1.2.1, 0))) none)))

/-! bytes_trimRightByte: bytes.trimRightByte -/
noncomputable def bytes_trimRightByte_l1 : (List Int × Int) → Option ((List Int × Int) ⊕ List Int) := fun s => match s with
  | (a1, a2) =>
    cond (decide ((((a1.length) : Nat) : Int) > 0)) (
      Option.bind (some ((IntKind.i64.wrap ((((a1.length) : Nat) : Int) - 1)) : Int)) fun y1 =>
      Option.bind (getI a1 y1) fun y2 =>
      cond (y2 == a2) (
        Option.bind (some ((IntKind.i64.wrap ((((a1.length) : Nat) : Int) - 1)) : Int)) fun y3 =>
        cond ((okBounds 0 y3 (a1.length)) && ((decide (y3 ≤ (((a1.length) : Nat) : Int))) && (decide ((((a1.length) : Nat) : Int) ≤ (((a1.length) : Nat) : Int))))) (
          some (.inl ((cut a1 0 y3), a2))) none) (
        some (.inr a1))) (
      some (.inr a1))
noncomputable def bytes_trimRightByte (a1 : List Int) (a2 : Int) : Option (List Int) :=
  Option.bind (loopFix bytes_trimRightByte_l1 (a1, a2)) fun y1 =>
  some y1

/-! bytes_trimLeftByte: bytes.trimLeftByte -/
noncomputable def bytes_trimLeftByte_l1 : (List Int × Int) → Option ((List Int × Int) ⊕ List Int) := fun s => match s with
  | (a1, a2) =>
    cond (decide ((((a1.length) : Nat) : Int) > 0)) (
      Option.bind (getI a1 0) fun y1 =>
      cond (y1 == a2) (
        cond ((okBounds 1 (((a1.length) : Nat) : Int) (a1.length)) && ((decide ((((a1.length) : Nat) : Int) ≤ (((a1.length) : Nat) : Int))) && (decide ((((a1.length) : Nat) : Int) ≤ (((a1.length) : Nat) : Int))))) (
          some (.inl ((cut a1 1 (((a1.length) : Nat) : Int)), a2))) none) (
        some (.inr a1))) (
      some (.inr a1))
noncomputable def bytes_trimLeftByte (a1 : List Int) (a2 : Int) : Option (List Int) :=
  Option.bind (loopFix bytes_trimLeftByte_l1 (a1, a2)) fun y1 =>
  cond ((((y1.length) : Nat) : Int) == 0) (
    some []) (
    some y1)

/-! bytes_Trim: bytes.Trim -/
noncomputable def bytes_Trim_j6 : (List Int × ByteArray) → Option (List Int) := fun s => match s with
  | (a1, a2) =>
    Option.bind (strI a2 0) fun y1 =>
    Option.bind (bytes_trimRightByte a1 y1) fun y2 =>
    Option.bind (strI a2 0) fun y3 =>
    Option.bind (bytes_trimLeftByte y2 y3) fun y4 =>
    some y4
noncomputable def bytes_Trim (a1 : List Int) (a2 : ByteArray) : Option (List Int) :=
  cond ((((a1.length) : Nat) : Int) == 0) (
    some []) (
    cond (strEq a2 (bs [])) (
      some a1) (
      cond ((((a2.size) : Nat) : Int) == 1) (
        Option.bind (strI a2 0) fun y1 =>
        cond (decide (y1 < 128)) (
          Option.bind (bytes_Trim_j6 (a1, a2)) fun y2 =>
          some y2) (
          none)) (
        none)))

/-! credential_Unwrap: passkey/credential.Unwrap -/
noncomputable def credential_Unwrap (a1 : Int) (a2 : ByteArray) (a3 : List Int) : Option ((ByteArray × ByteArray × ByteArray × Int × Int × Bool × Int × Bool × Bool) × Int) :=
  cond ((((a3.length) : Nat) : Int) != 176) (
    some (((bs []), (bs []), (bs []), 0, 0, false, 0, false, false), 4)) (
    Option.bind (credential_wrap a1 a2) fun y1 =>
    Option.bind (seal_Open y1.1.1 y1.2 a3) fun y2 =>
    cond (y2.1.2 != 0) (
      some (((bs []), (bs []), (bs []), 0, 0, false, 0, false, false), y2.1.2)) (
      Option.bind (credential_prefix y2.2) fun y3 =>
      cond (y3.2.2 != 0) (
        some (((bs []), (bs []), (bs []), 0, 0, false, 0, false, false), 2)) (
        cond (okBounds y3.2.1 (((y2.2.length) : Nat) : Int) (y2.2.length)) (
          Option.bind (some ((cut y2.2 y3.2.1 (((y2.2.length) : Nat) : Int)) : List Int)) fun y4 =>
          Option.bind (bytes_Trim y4 (bs [0])) fun y5 =>
          cond (decide ((((y5.length) : Nat) : Int) > 0)) (
            some (((bs []), (bs []), (bs []), 0, 0, false, 0, false, false), 2)) (
            cond y3.1.2.2.2.2.2.1 (
              some (((bs []), (bs []), (bs []), 0, 0, false, 0, false, false), 11)) (
              cond (!(strEq y3.1.1 a2)) (
                some (((bs []), (bs []), (bs []), 0, 0, false, 0, false, false), 11)) (
                some ((y3.1.1, y3.1.2.1, y3.1.2.2.1, y3.1.2.2.2.1, y3.1.2.2.2.2.1, y3.1.2.2.2.2.2.1, y3.1.2.2.2.2.2.2.1, y3.1.2.2.2.2.2.2.2.1, y3.1.2.2.2.2.2.2.2.2), 0))))) none)))

/-! law15_awake: passkey/passkeylaw15.awake -/
noncomputable def law15_awake : Option Bool :=
  Option.bind (credential_ID 7 8 (bs [97, 46, 101, 120, 97, 109, 112, 108, 101]) (bs [117]) (bs []) 3 1 false 1 false false) fun y1 =>
  Option.bind (credential_Unwrap 7 (bs [97, 46, 101, 120, 97, 109, 112, 108, 101]) y1.2) fun y2 =>
  Option.bind (credential_Unwrap 7 (bs [98, 46, 101, 120, 97, 109, 112, 108, 101]) y1.2) fun y3 =>
  cond (y1.1.2 == 0) (
    cond (y2.2 == 0) (
      cond (y3.2 == 14) (
        Option.bind (some (((strEq y2.1.1 (bs [97, 46, 101, 120, 97, 109, 112, 108, 101])) && ((strEq y2.1.2.1 (bs [117])) && ((strEq y2.1.2.2.1 (bs [])) && ((y2.1.2.2.2.1 == 3) && ((y2.1.2.2.2.2.1 == 1) && ((y2.1.2.2.2.2.2.1 == false) && ((y2.1.2.2.2.2.2.2.1 == 1) && ((y2.1.2.2.2.2.2.2.2.1 == false) && ((y2.1.2.2.2.2.2.2.2.2 == false) && true))))))))) : Bool)) fun y4 =>
        cond y4 (
          cond ((((y1.2.length) : Nat) : Int) == 176) (
            Option.bind (credential_Validate (bs []) (bs []) (bs []) 0 0 false 0 false false) fun y5 =>
            some (y5 == 9)) (
            some false)) (
          some false)) (
        some false)) (
      some false)) (
    some false)

/-! base_RP: passkey/passkeybase.RP -/
noncomputable def base_RP (a1 : Int) : Option ByteArray :=
  cond (inRange (Int.tmod (bitsI .and .i64 a1 65535) 3) 3) (
    Option.bind (some ((Int.toNat (Int.tmod (bitsI .and .i64 a1 65535) 3)) : Nat)) fun y1 =>
    Option.bind ([(PD.str (bs [97, 46, 101, 120, 97, 109, 112, 108, 101])), (PD.str (bs [98, 46, 101, 120, 97, 109, 112, 108, 101])), (PD.str (bs [115, 104, 111, 112, 46, 116, 101, 115, 116]))][y1]?) fun y2 =>
    Option.bind (PD.strAt y2 0) fun y3 =>
    some y3) none

/-! base_User: passkey/passkeybase.User -/
noncomputable def base_User (a1 : Int) : Option ByteArray :=
  cond (inRange (Int.tmod (bitsI .and .i64 a1 65535) 3) 3) (
    Option.bind (some ((Int.toNat (Int.tmod (bitsI .and .i64 a1 65535) 3)) : Nat)) fun y1 =>
    Option.bind ([(PD.str (bs [117, 49])), (PD.str (bs [117, 50])), (PD.str (bs [0, 255]))][y1]?) fun y2 =>
    Option.bind (PD.strAt y2 0) fun y3 =>
    some y3) none

/-! base_Text: passkey/passkeybase.Text -/
noncomputable def base_Text (a1 : Int) : Option ByteArray :=
  cond (inRange (bitsI .and .i64 a1 7) 8) (
    Option.bind ([(PD.str (bs [])), (PD.str (bs [97])), (PD.str (bs [98])), (PD.str (bs [108, 111, 103, 105, 110])), (PD.str (bs [107, 101, 121])), (PD.str (bs [101, 120, 97, 109, 112, 108, 101, 46, 111, 114, 103])), (PD.str (bs [195, 169])), (PD.str (bs [48, 49, 50, 51, 52, 53, 54, 55, 56, 57, 48, 49, 50, 51, 52, 53]))][(Int.toNat (bitsI .and .i64 a1 7))]?) fun y1 =>
    Option.bind (PD.strAt y1 0) fun y2 =>
    cond (inRange (bitsI .and .i64 (shrI .i64 a1 3) 7) 8) (
      Option.bind (some ((Int.toNat (bitsI .and .i64 (shrI .i64 a1 3) 7)) : Nat)) fun y3 =>
      Option.bind ([(PD.str (bs [])), (PD.str (bs [97])), (PD.str (bs [98])), (PD.str (bs [108, 111, 103, 105, 110])), (PD.str (bs [107, 101, 121])), (PD.str (bs [101, 120, 97, 109, 112, 108, 101, 46, 111, 114, 103])), (PD.str (bs [195, 169])), (PD.str (bs [48, 49, 50, 51, 52, 53, 54, 55, 56, 57, 48, 49, 50, 51, 52, 53]))][y3]?) fun y4 =>
      Option.bind (PD.strAt y4 0) fun y5 =>
      cond (decide ((((y2.size) + (y5.size) : Nat) : Int) ≤ 9223372036854775807)) (
        some (y2 ++ y5)) none) none) none

/-! base_Credential: passkey/passkeybase.Credential -/
noncomputable def base_Credential_j4B (a1 : Int) (a2 : ByteArray) (a3 : ByteArray) (a4 : ByteArray) (a5 : Int) (a6 : Int) (a7 : Bool) (a8 : Int) (a9 : Bool) (a10 : Bool) (a11 : ByteArray) (a12 : ByteArray) (a13 : ByteArray) (a14 : Int) (a15 : Int) (a16 : Bool) (a17 : Int) (a18 : Bool) (a19 : Bool) : Option (Unit × (ByteArray × ByteArray × ByteArray × Int × Int × Bool × Int × Bool × Bool)) :=
  cond a18 (
    some ((), (a11, a12, a13, a14, a15, a16, a17, a18, ((bitsI .and .i64 (shrI .i64 a1 9) 1) == 1)))) (
    some ((), (a11, a12, a13, a14, a15, a16, a17, a18, false)))
noncomputable def base_Credential_j4 : ((Int × Unit × Unit) × ((ByteArray × ByteArray × ByteArray × Int × Int × Bool × Int × Bool × Bool) × (ByteArray × ByteArray × ByteArray × Int × Int × Bool × Int × Bool × Bool))) → Option (Unit × (ByteArray × ByteArray × ByteArray × Int × Int × Bool × Int × Bool × Bool)) := fun s => base_Credential_j4B s.1.1 s.2.1.1 s.2.1.2.1 s.2.1.2.2.1 s.2.1.2.2.2.1 s.2.1.2.2.2.2.1 s.2.1.2.2.2.2.2.1 s.2.1.2.2.2.2.2.2.1 s.2.1.2.2.2.2.2.2.2.1 s.2.1.2.2.2.2.2.2.2.2 s.2.2.1 s.2.2.2.1 s.2.2.2.2.1 s.2.2.2.2.2.1 s.2.2.2.2.2.2.1 s.2.2.2.2.2.2.2.1 s.2.2.2.2.2.2.2.2.1 s.2.2.2.2.2.2.2.2.2.1 s.2.2.2.2.2.2.2.2.2.2
noncomputable def base_Credential (a1 : Int) : Option (ByteArray × ByteArray × ByteArray × Int × Int × Bool × Int × Bool × Bool) :=
  Option.bind (base_RP a1) fun y1 =>
  Option.bind (base_User (shrI .i64 a1 2)) fun y2 =>
  Option.bind (base_Text (shrI .i64 a1 4)) fun y3 =>
  Option.bind (some ((IntKind.u64.wrap ((IntKind.u64.wrap a1) * 11400714819323198485)) : Int)) fun y4 =>
  Option.bind (some ((IntKind.i64.wrap (1 + (bitsI .and .i64 (shrI .i64 a1 3) 1))) : Int)) fun y5 =>
  Option.bind (some ((IntKind.i64.wrap (1 + (Int.tmod (shrI .i64 a1 5) 3))) : Int)) fun y6 =>
  cond ((bitsI .and .i64 (shrI .i64 a1 7) 1) == 1) (
    Option.bind (base_Credential_j4 ((a1, (), ()), (((bs []), (bs []), (bs []), 0, 0, false, 0, false, false), (y1, y2, y3, y4, y5, ((bitsI .and .i64 (shrI .i64 a1 7) 1) == 1), y6, ((bitsI .and .i64 (shrI .i64 a1 8) 1) == 1), false)))) fun y7 =>
    some (y7.2.1, y7.2.2.1, y7.2.2.2.1, y7.2.2.2.2.1, y7.2.2.2.2.2.1, y7.2.2.2.2.2.2.1, y7.2.2.2.2.2.2.2.1, y7.2.2.2.2.2.2.2.2.1, y7.2.2.2.2.2.2.2.2.2)) (
    Option.bind (base_Credential_j4 ((a1, (), ()), (((bs []), (bs []), (bs []), 0, 0, false, 0, false, false), (y1, y2, y3, y4, y5, ((bitsI .and .i64 (shrI .i64 a1 7) 1) == 1), y6, false, false)))) fun y8 =>
    some (y8.2.1, y8.2.2.1, y8.2.2.2.1, y8.2.2.2.2.1, y8.2.2.2.2.2.1, y8.2.2.2.2.2.2.1, y8.2.2.2.2.2.2.2.1, y8.2.2.2.2.2.2.2.2.1, y8.2.2.2.2.2.2.2.2.2))

/-! law15_spoil: passkey/passkeylaw15.spoil -/
noncomputable def law15_spoil_j19B (a1 : ByteArray) (a2 : ByteArray) (a3 : ByteArray) (a4 : Int) (a5 : Int) (a6 : Bool) (a7 : Int) (a8 : Bool) (a9 : Bool) (a10 : ByteArray) (a11 : ByteArray) (a12 : ByteArray) (a13 : Int) (a14 : Int) (a15 : Bool) (a16 : Int) (a17 : Bool) (a18 : Bool) : Option (Unit × (ByteArray × ByteArray × ByteArray × Int × Int × Bool × Int × Bool × Bool)) :=
  some ((), (a1, a2, a3, a4, a5, a6, a7, a8, a9))
noncomputable def law15_spoil_j19 : ((Unit × Unit) × ((ByteArray × ByteArray × ByteArray × Int × Int × Bool × Int × Bool × Bool) × (ByteArray × ByteArray × ByteArray × Int × Int × Bool × Int × Bool × Bool))) → Option (Unit × (ByteArray × ByteArray × ByteArray × Int × Int × Bool × Int × Bool × Bool)) := fun s => law15_spoil_j19B s.2.1.1 s.2.1.2.1 s.2.1.2.2.1 s.2.1.2.2.2.1 s.2.1.2.2.2.2.1 s.2.1.2.2.2.2.2.1 s.2.1.2.2.2.2.2.2.1 s.2.1.2.2.2.2.2.2.2.1 s.2.1.2.2.2.2.2.2.2.2 s.2.2.1 s.2.2.2.1 s.2.2.2.2.1 s.2.2.2.2.2.1 s.2.2.2.2.2.2.1 s.2.2.2.2.2.2.2.1 s.2.2.2.2.2.2.2.2.1 s.2.2.2.2.2.2.2.2.2.1 s.2.2.2.2.2.2.2.2.2.2
noncomputable def law15_spoil (a1 : ByteArray) (a2 : ByteArray) (a3 : ByteArray) (a4 : Int) (a5 : Int) (a6 : Bool) (a7 : Int) (a8 : Bool) (a9 : Bool) (a10 : Int) : Option (ByteArray × ByteArray × ByteArray × Int × Int × Bool × Int × Bool × Bool) :=
  Option.bind (some ((bitsI .and .i64 (shrI .i64 a10 4) 65535) : Int)) fun y1 =>
  cond ((bitsI .and .i64 a10 15) == 0) (
    cond (inRange (bitsI .and .i64 y1 3) 4) (
      Option.bind ([(PD.str (bs [])), (PD.str (bs [255])), (PD.str (bs [0, 0, 0, 0, 0, 0, 0, 0, 0, 0, 0, 0, 0, 0, 0, 0, 0, 0, 0, 0, 0, 0, 0, 0, 0, 0, 0, 0, 0, 0, 0, 0, 0, 0, 0, 0, 0, 0, 0, 0, 0, 0, 0, 0, 0, 0, 0, 0, 0, 0, 0, 0, 0, 0, 0, 0, 0, 0, 0, 0, 0, 0, 0, 0])), (PD.str (strOf (List.replicate 65 (0 : Int))))][(Int.toNat (bitsI .and .i64 y1 3))]?) fun y2 =>
      Option.bind (PD.strAt y2 0) fun y3 =>
      Option.bind (law15_spoil_j19 (((), ()), ((y3, a2, a3, a4, a5, a6, a7, a8, a9), ((bs []), (bs []), (bs []), 0, 0, false, 0, false, false)))) fun y4 =>
      some (y4.2.1, y4.2.2.1, y4.2.2.2.1, y4.2.2.2.2.1, y4.2.2.2.2.2.1, y4.2.2.2.2.2.2.1, y4.2.2.2.2.2.2.2.1, y4.2.2.2.2.2.2.2.2.1, y4.2.2.2.2.2.2.2.2.2)) none) (
    cond ((bitsI .and .i64 a10 15) == 1) (
      cond (inRange (bitsI .and .i64 y1 3) 4) (
        Option.bind ([(PD.str (bs [])), (PD.str (bs [255, 254])), (PD.str (bs [48, 49, 50, 51, 52, 53, 54, 55, 56, 57, 48, 49, 50, 51, 52, 53])), (PD.str (bs [48, 49, 50, 51, 52, 53, 54, 55, 56, 57, 48, 49, 50, 51, 52, 53, 54]))][(Int.toNat (bitsI .and .i64 y1 3))]?) fun y5 =>
        Option.bind (PD.strAt y5 0) fun y6 =>
        Option.bind (law15_spoil_j19 (((), ()), ((a1, y6, a3, a4, a5, a6, a7, a8, a9), ((bs []), (bs []), (bs []), 0, 0, false, 0, false, false)))) fun y7 =>
        some (y7.2.1, y7.2.2.1, y7.2.2.2.1, y7.2.2.2.2.1, y7.2.2.2.2.2.1, y7.2.2.2.2.2.2.1, y7.2.2.2.2.2.2.2.1, y7.2.2.2.2.2.2.2.2.1, y7.2.2.2.2.2.2.2.2.2)) none) (
      cond ((bitsI .and .i64 a10 15) == 2) (
        cond (inRange (bitsI .and .i64 y1 3) 4) (
          Option.bind ([(PD.str (bs [])), (PD.str (bs [195])), (PD.str (bs [0, 0, 0, 0, 0, 0, 0, 0, 0, 0, 0, 0, 0, 0, 0, 0, 0, 0, 0, 0, 0, 0, 0, 0, 0, 0, 0, 0, 0, 0, 0, 0])), (PD.str (bs [0, 0, 0, 0, 0, 0, 0, 0, 0, 0, 0, 0, 0, 0, 0, 0, 0, 0, 0, 0, 0, 0, 0, 0, 0, 0, 0, 0, 0, 0, 0, 0, 0]))][(Int.toNat (bitsI .and .i64 y1 3))]?) fun y8 =>
          Option.bind (PD.strAt y8 0) fun y9 =>
          Option.bind (law15_spoil_j19 (((), ()), ((a1, a2, y9, a4, a5, a6, a7, a8, a9), ((bs []), (bs []), (bs []), 0, 0, false, 0, false, false)))) fun y10 =>
          some (y10.2.1, y10.2.2.1, y10.2.2.2.1, y10.2.2.2.2.1, y10.2.2.2.2.2.1, y10.2.2.2.2.2.2.1, y10.2.2.2.2.2.2.2.1, y10.2.2.2.2.2.2.2.2.1, y10.2.2.2.2.2.2.2.2.2)) none) (
        cond ((bitsI .and .i64 a10 15) == 3) (
          Option.bind (some ((IntKind.i64.wrap ((bitsI .and .i64 y1 7) - 1)) : Int)) fun y11 =>
          Option.bind (law15_spoil_j19 (((), ()), ((a1, a2, a3, a4, y11, a6, a7, a8, a9), ((bs []), (bs []), (bs []), 0, 0, false, 0, false, false)))) fun y12 =>
          some (y12.2.1, y12.2.2.1, y12.2.2.2.1, y12.2.2.2.2.1, y12.2.2.2.2.2.1, y12.2.2.2.2.2.2.1, y12.2.2.2.2.2.2.2.1, y12.2.2.2.2.2.2.2.2.1, y12.2.2.2.2.2.2.2.2.2)) (
          cond ((bitsI .and .i64 a10 15) == 4) (
            Option.bind (some ((IntKind.i64.wrap ((bitsI .and .i64 y1 7) - 1)) : Int)) fun y13 =>
            Option.bind (law15_spoil_j19 (((), ()), ((a1, a2, a3, a4, a5, a6, y13, a8, a9), ((bs []), (bs []), (bs []), 0, 0, false, 0, false, false)))) fun y14 =>
            some (y14.2.1, y14.2.2.1, y14.2.2.2.1, y14.2.2.2.2.1, y14.2.2.2.2.2.1, y14.2.2.2.2.2.2.1, y14.2.2.2.2.2.2.2.1, y14.2.2.2.2.2.2.2.2.1, y14.2.2.2.2.2.2.2.2.2)) (
            cond ((bitsI .and .i64 a10 15) == 5) (
              Option.bind (law15_spoil_j19 (((), ()), ((a1, a2, a3, a4, a5, a6, a7, (!a8), a9), ((bs []), (bs []), (bs []), 0, 0, false, 0, false, false)))) fun y15 =>
              some (y15.2.1, y15.2.2.1, y15.2.2.2.1, y15.2.2.2.2.1, y15.2.2.2.2.2.1, y15.2.2.2.2.2.2.1, y15.2.2.2.2.2.2.2.1, y15.2.2.2.2.2.2.2.2.1, y15.2.2.2.2.2.2.2.2.2)) (
              cond ((bitsI .and .i64 a10 15) == 6) (
                Option.bind (law15_spoil_j19 (((), ()), ((a1, a2, a3, a4, a5, a6, a7, a8, (!a9)), ((bs []), (bs []), (bs []), 0, 0, false, 0, false, false)))) fun y16 =>
                some (y16.2.1, y16.2.2.1, y16.2.2.2.1, y16.2.2.2.2.1, y16.2.2.2.2.2.1, y16.2.2.2.2.2.2.1, y16.2.2.2.2.2.2.2.1, y16.2.2.2.2.2.2.2.2.1, y16.2.2.2.2.2.2.2.2.2)) (
                cond ((bitsI .and .i64 a10 15) == 7) (
                  Option.bind (law15_spoil_j19 (((), ()), ((a1, a2, a3, a4, a5, (!a6), a7, a8, a9), ((bs []), (bs []), (bs []), 0, 0, false, 0, false, false)))) fun y17 =>
                  some (y17.2.1, y17.2.2.1, y17.2.2.2.1, y17.2.2.2.2.1, y17.2.2.2.2.2.1, y17.2.2.2.2.2.2.1, y17.2.2.2.2.2.2.2.1, y17.2.2.2.2.2.2.2.2.1, y17.2.2.2.2.2.2.2.2.2)) (
                  Option.bind (law15_spoil_j19 (((), ()), ((a1, a2, a3, a4, a5, a6, a7, a8, a9), ((bs []), (bs []), (bs []), 0, 0, false, 0, false, false)))) fun y18 =>
                  some (y18.2.1, y18.2.2.1, y18.2.2.2.1, y18.2.2.2.2.1, y18.2.2.2.2.2.1, y18.2.2.2.2.2.2.1, y18.2.2.2.2.2.2.2.1, y18.2.2.2.2.2.2.2.2.1, y18.2.2.2.2.2.2.2.2.2)))))))))

/-! ref14_within: passkey/passkeyref14.within -/
noncomputable def ref14_within (a1 : Int) (a2 : Int) (a3 : Int) : Option Bool :=
  cond (decide (a1 ≥ a2)) (
    some (decide (a1 ≤ a3))) (
    some false)

/-! ref14_ValidateCredential: passkey/passkeyref14.ValidateCredential -/
noncomputable def ref14_ValidateCredential_j5 : (Unit × (ByteArray × ByteArray × ByteArray × Int × Int × Bool × Int × Bool × Bool)) → Option (Int ⊕ Unit) := fun s => match s with
  | ((), (a1, a2, a3, a4, a5, a6, a7, a8, a9)) =>
    cond a8 (
      cond (!a6) (
        some (.inl 18)) (
        cond a9 (
          cond (!a8) (
            some (.inl 18)) (
            some (.inr ()))) (
          some (.inr ())))) (
      cond a9 (
        cond (!a8) (
          some (.inl 18)) (
          some (.inr ()))) (
        some (.inr ())))
noncomputable def ref14_ValidateCredential_j3 : (Unit × (ByteArray × ByteArray × ByteArray × Int × Int × Bool × Int × Bool × Bool)) → Option (Int ⊕ Unit) := fun s => match s with
  | ((), (a1, a2, a3, a4, a5, a6, a7, a8, a9)) =>
    Option.bind (utf8_ValidString a1) fun y1 =>
    cond (!y1) (
      some (.inl 6)) (
      Option.bind (utf8_ValidString a3) fun y2 =>
      cond (!y2) (
        some (.inl 6)) (
        Option.bind (ref14_ValidateCredential_j5 ((), (a1, a2, a3, a4, a5, a6, a7, a8, a9))) fun y3 =>
        match y3 with
        | (.inl y4) =>
          some (.inl y4)
        | (.inr y5) =>
          some (.inr ())))
noncomputable def ref14_ValidateCredential (a1 : ByteArray) (a2 : ByteArray) (a3 : ByteArray) (a4 : Int) (a5 : Int) (a6 : Bool) (a7 : Int) (a8 : Bool) (a9 : Bool) : Option Int :=
  Option.bind (ref14_within (((a1.size) : Nat) : Int) 1 64) fun y1 =>
  cond (!y1) (
    some 9) (
    Option.bind (ref14_within (((a2.size) : Nat) : Int) 1 16) fun y2 =>
    cond (!y2) (
      some 9) (
      cond (decide ((((a3.size) : Nat) : Int) > 32)) (
        some 9) (
        Option.bind (ref14_within a5 1 4) fun y3 =>
        cond (!y3) (
          some 9) (
          Option.bind (ref14_within a7 1 3) fun y4 =>
          cond (!y4) (
            some 9) (
            Option.bind (ref14_ValidateCredential_j3 ((), (a1, a2, a3, a4, a5, a6, a7, a8, a9))) fun y5 =>
            match y5 with
            | (.inl y6) =>
              some y6
            | (.inr y7) =>
              some 0)))))

/-! ref14_text: passkey/passkeyref14.text -/
noncomputable def ref14_text (a1 : ByteArray) : Option (Int × Int × ByteArray) :=
  some (4, 0, a1)

/-! ref14_data: passkey/passkeyref14.data -/
noncomputable def ref14_data (a1 : ByteArray) : Option (Int × Int × ByteArray) :=
  some (3, 0, a1)

/-! ref14_number: passkey/passkeyref14.number -/
noncomputable def ref14_number (a1 : Int) : Option (Int × Int × ByteArray) :=
  some (1, a1, (bs []))

/-! ref14_boolean: passkey/passkeyref14.boolean -/
noncomputable def ref14_boolean (a1 : Bool) : Option (Int × Int × ByteArray) :=
  cond a1 (
    some (7, 1, (bs []))) (
    some (7, 0, (bs [])))

/-! ref1_within: passkey/passkeyref1.within -/
noncomputable def ref1_within (a1 : Int) (a2 : Int) (a3 : Int) : Option Bool :=
  cond (decide (a1 ≥ a2)) (
    some (decide (a1 ≤ a3))) (
    some false)

/-! ref1_isKey: passkey/passkeyref1.isKey -/
noncomputable def ref1_isKey (a1 : Int) : Option Bool :=
  cond (a1 == 1) (
    some true) (
    cond (a1 == 2) (
      some true) (
      some (a1 == 4)))

/-! ref1_Words: passkey/passkeyref1.Words -/
noncomputable def ref1_Words_l6 : ((List Int × Unit × Int × Int) × List Int) → Option (((List Int × Unit × Int × Int) × List Int) ⊕ ((List Int × Unit × Int) × List Int)) := fun s => match s with
  | ((a1, (), a2, a3), a4) =>
    cond (decide (a3 ≥ 0)) (
      Option.bind (getI a1 a2) fun y1 =>
      Option.bind (some ((IntKind.u64.wrap (IntKind.i64.wrap (8 * a3))) : Int)) fun y2 =>
      cond (decide (0 ≤ y2)) (
        cond (decide (((a4 ++ [(IntKind.u8.wrap (shrI .u64 y1 y2))]).length) * 1 ≤ 140737488355328)) (
          Option.bind (some ((a4 ++ [(IntKind.u8.wrap (shrI .u64 y1 y2))]) : List Int)) fun y3 =>
          some (.inl ((a1, (), a2, (IntKind.i64.wrap (a3 - 1))), y3))) none) none) (
      some (.inr ((a1, (), a2), a4)))
noncomputable def ref1_Words_l3 : ((List Int × Unit × Int) × List Int) → Option (((List Int × Unit × Int) × List Int) ⊕ (Unit × List Int)) := fun s => match s with
  | ((a1, (), a2), a3) =>
    cond (decide (a2 < (((a1.length) : Nat) : Int))) (
      Option.bind (loopFix ref1_Words_l6 ((a1, (), a2, 7), a3)) fun y1 =>
      some (.inl ((y1.1.1, (), (IntKind.i64.wrap (y1.1.2.2 + 1))), y1.2))) (
      some (.inr ((), a3)))
noncomputable def ref1_Words (a1 : List Int) : Option (Unit × List Int) :=
  Option.bind (loopFix ref1_Words_l3 ((a1, (), 0), [])) fun y1 =>
  some ((), y1.2)

/-! ref1_Head: passkey/passkeyref1.Head -/
noncomputable def ref1_Head_j18 : (Int × Int) → Option (Unit × List Int) := fun s => match s with
  | (a1, a2) =>
    cond (decide (a1 < 24)) (
      Option.bind (some ((IntKind.u8.wrap (a2 + (IntKind.u8.wrap a1))) : Int)) fun y1 =>
      some ((), [y1])) (
      cond (decide (a1 < 256)) (
        some ((), [(IntKind.u8.wrap (a2 + 24)), (IntKind.u8.wrap a1)])) (
        cond (decide (a1 < 65536)) (
          some ((), [(IntKind.u8.wrap (a2 + 25)), (IntKind.u8.wrap (shrI .u64 a1 8)), (IntKind.u8.wrap a1)])) (
          cond (decide (a1 < 4294967296)) (
            some ((), [(IntKind.u8.wrap (a2 + 26)), (IntKind.u8.wrap (shrI .u64 a1 24)), (IntKind.u8.wrap (shrI .u64 a1 16)), (IntKind.u8.wrap (shrI .u64 a1 8)), (IntKind.u8.wrap a1)])) (
            Option.bind (ref1_Words [a1]) fun y2 =>
            cond (decide ((([(IntKind.u8.wrap (a2 + 27))] ++ y2.2).length) * 1 ≤ 140737488355328)) (
              some ((), ([(IntKind.u8.wrap (a2 + 27))] ++ y2.2))) none))))
noncomputable def ref1_Head (a1 : Int) (a2 : Int) (a3 : ByteArray) : Option (Unit × List Int) :=
  cond (a1 == 7) (
    Option.bind (some ((IntKind.u8.wrap (244 + (IntKind.u8.wrap a2))) : Int)) fun y1 =>
    some ((), [y1])) (
    cond (a1 == 8) (
      some ((), [246])) (
      cond (a1 == 2) (
        Option.bind (ref1_Head_j18 (a2, 32)) fun y2 =>
        some ((), y2.2)) (
        cond (a1 == 3) (
          Option.bind (some ((IntKind.u64.wrap (((a3.size) : Nat) : Int)) : Int)) fun y3 =>
          Option.bind (ref1_Head_j18 (y3, 64)) fun y4 =>
          some ((), y4.2)) (
          cond (a1 == 4) (
            Option.bind (some ((IntKind.u64.wrap (((a3.size) : Nat) : Int)) : Int)) fun y5 =>
            Option.bind (ref1_Head_j18 (y5, 96)) fun y6 =>
            some ((), y6.2)) (
            cond (a1 == 5) (
              Option.bind (ref1_Head_j18 (a2, 128)) fun y7 =>
              some ((), y7.2)) (
              cond (a1 == 6) (
                Option.bind (ref1_Head_j18 (a2, 160)) fun y8 =>
                some ((), y8.2)) (
                Option.bind (ref1_Head_j18 (a2, 0)) fun y9 =>
                some ((), y9.2))))))))

/-! ref1_Bytes: passkey/passkeyref1.Bytes -/
noncomputable def ref1_Bytes (a1 : Int) (a2 : Int) (a3 : ByteArray) : Option ByteArray :=
  Option.bind (ref1_Head a1 a2 a3) fun y1 =>
  cond (decide (((((strOf y1.2).size) + (a3.size) : Nat) : Int) ≤ 9223372036854775807)) (
    some ((strOf y1.2) ++ a3)) none

/-! ref1_less: passkey/passkeyref1.less -/
noncomputable def ref1_less (a1 : ByteArray) (a2 : ByteArray) : Option Bool :=
  cond ((((a1.size) : Nat) : Int) != (((a2.size) : Nat) : Int)) (
    some (decide ((((a1.size) : Nat) : Int) < (((a2.size) : Nat) : Int)))) (
    some (strLt a1 a2))

/-! ref1_check: passkey/passkeyref1.check -/
noncomputable def ref1_check_j15 : ((Bool × ByteArray × Unit) × (Int × Int × ByteArray)) → Option (Int ⊕ Unit) := fun s => match s with
  | ((a1, a2, ()), (a3, a4, a5)) =>
    cond a1 (
      cond (!(strEq a2 (bs []))) (
        Option.bind (ref1_Bytes a3 a4 a5) fun y1 =>
        Option.bind (ref1_less a2 y1) fun y2 =>
        cond (!y2) (
          some (.inl 7)) (
          some (.inr ()))) (
        some (.inr ()))) (
      some (.inr ()))
noncomputable def ref1_check_j13 : ((Bool × ByteArray × Unit) × (Int × Int × ByteArray)) → Option (Int ⊕ Unit) := fun s => match s with
  | ((a1, a2, ()), (a3, a4, a5)) =>
    cond (a3 == 4) (
      Option.bind (utf8_ValidString a5) fun y1 =>
      cond (!y1) (
        some (.inl 6)) (
        Option.bind (ref1_check_j15 ((a1, a2, ()), (a3, a4, a5))) fun y2 =>
        match y2 with
        | (.inl y3) =>
          some (.inl y3)
        | (.inr y4) =>
          some (.inr ()))) (
      Option.bind (ref1_check_j15 ((a1, a2, ()), (a3, a4, a5))) fun y5 =>
      match y5 with
      | (.inl y6) =>
        some (.inl y6)
      | (.inr y7) =>
        some (.inr ()))
noncomputable def ref1_check_j11 : ((Bool × ByteArray × Unit × Bool) × (Int × Int × ByteArray)) → Option (Int ⊕ Unit) := fun s => match s with
  | ((a1, a2, (), a3), (a4, a5, a6)) =>
    cond (decide ((((a6.size) : Nat) : Int) > 1024)) (
      some (.inl 8)) (
      cond a3 (
        cond (decide (a5 > 512)) (
          some (.inl 8)) (
          Option.bind (ref1_check_j13 ((a1, a2, ()), (a4, a5, a6))) fun y1 =>
          match y1 with
          | (.inl y2) =>
            some (.inl y2)
          | (.inr y3) =>
            some (.inr ()))) (
        Option.bind (ref1_check_j13 ((a1, a2, ()), (a4, a5, a6))) fun y4 =>
        match y4 with
        | (.inl y5) =>
          some (.inl y5)
        | (.inr y6) =>
          some (.inr ())))
noncomputable def ref1_check_j7 : ((Int × Bool × ByteArray × Unit × Bool × Bool) × (Int × Int × ByteArray)) → Option (Int ⊕ Unit) := fun s => match s with
  | ((a1, a2, a3, (), a4, a5), (a6, a7, a8)) =>
    cond (decide (a1 > 8)) (
      some (.inl 5)) (
      cond a4 (
        cond (a7 != 0) (
          some (.inl 4)) (
          cond (a6 == 7) (
            cond (decide (a7 > 1)) (
              some (.inl 4)) (
              cond (!a4) (
                cond (!(strEq a8 (bs []))) (
                  some (.inl 4)) (
                  Option.bind (ref1_check_j11 ((a2, a3, (), a5), (a6, a7, a8))) fun y1 =>
                  match y1 with
                  | (.inl y2) =>
                    some (.inl y2)
                  | (.inr y3) =>
                    some (.inr ()))) (
                Option.bind (ref1_check_j11 ((a2, a3, (), a5), (a6, a7, a8))) fun y4 =>
                match y4 with
                | (.inl y5) =>
                  some (.inl y5)
                | (.inr y6) =>
                  some (.inr ())))) (
            cond (!a4) (
              cond (!(strEq a8 (bs []))) (
                some (.inl 4)) (
                Option.bind (ref1_check_j11 ((a2, a3, (), a5), (a6, a7, a8))) fun y7 =>
                match y7 with
                | (.inl y8) =>
                  some (.inl y8)
                | (.inr y9) =>
                  some (.inr ()))) (
              Option.bind (ref1_check_j11 ((a2, a3, (), a5), (a6, a7, a8))) fun y10 =>
              match y10 with
              | (.inl y11) =>
                some (.inl y11)
              | (.inr y12) =>
                some (.inr ()))))) (
        cond (a6 == 8) (
          cond (a7 != 0) (
            some (.inl 4)) (
            cond (a6 == 7) (
              cond (decide (a7 > 1)) (
                some (.inl 4)) (
                cond (!a4) (
                  cond (!(strEq a8 (bs []))) (
                    some (.inl 4)) (
                    Option.bind (ref1_check_j11 ((a2, a3, (), a5), (a6, a7, a8))) fun y13 =>
                    match y13 with
                    | (.inl y14) =>
                      some (.inl y14)
                    | (.inr y15) =>
                      some (.inr ()))) (
                  Option.bind (ref1_check_j11 ((a2, a3, (), a5), (a6, a7, a8))) fun y16 =>
                  match y16 with
                  | (.inl y17) =>
                    some (.inl y17)
                  | (.inr y18) =>
                    some (.inr ())))) (
              cond (!a4) (
                cond (!(strEq a8 (bs []))) (
                  some (.inl 4)) (
                  Option.bind (ref1_check_j11 ((a2, a3, (), a5), (a6, a7, a8))) fun y19 =>
                  match y19 with
                  | (.inl y20) =>
                    some (.inl y20)
                  | (.inr y21) =>
                    some (.inr ()))) (
                Option.bind (ref1_check_j11 ((a2, a3, (), a5), (a6, a7, a8))) fun y22 =>
                match y22 with
                | (.inl y23) =>
                  some (.inl y23)
                | (.inr y24) =>
                  some (.inr ()))))) (
          cond (a6 == 7) (
            cond (decide (a7 > 1)) (
              some (.inl 4)) (
              cond (!a4) (
                cond (!(strEq a8 (bs []))) (
                  some (.inl 4)) (
                  Option.bind (ref1_check_j11 ((a2, a3, (), a5), (a6, a7, a8))) fun y25 =>
                  match y25 with
                  | (.inl y26) =>
                    some (.inl y26)
                  | (.inr y27) =>
                    some (.inr ()))) (
                Option.bind (ref1_check_j11 ((a2, a3, (), a5), (a6, a7, a8))) fun y28 =>
                match y28 with
                | (.inl y29) =>
                  some (.inl y29)
                | (.inr y30) =>
                  some (.inr ())))) (
            cond (!a4) (
              cond (!(strEq a8 (bs []))) (
                some (.inl 4)) (
                Option.bind (ref1_check_j11 ((a2, a3, (), a5), (a6, a7, a8))) fun y31 =>
                match y31 with
                | (.inl y32) =>
                  some (.inl y32)
                | (.inr y33) =>
                  some (.inr ()))) (
              Option.bind (ref1_check_j11 ((a2, a3, (), a5), (a6, a7, a8))) fun y34 =>
              match y34 with
              | (.inl y35) =>
                some (.inl y35)
              | (.inr y36) =>
                some (.inr ()))))))
noncomputable def ref1_check_j3 : ((Int × Int × Bool × ByteArray × Unit × Bool × Bool) × (Int × Int × ByteArray)) → Option Int := fun s => match s with
  | ((a1, a2, a3, a4, (), a5, a6), (a7, a8, a9)) =>
    cond (decide (a1 ≥ 512)) (
      some 8) (
      Option.bind (ref1_within a7 1 8) fun y1 =>
      cond (!y1) (
        some 3) (
        cond a3 (
          Option.bind (ref1_isKey a7) fun y2 =>
          cond (!y2) (
            some 3) (
            Option.bind (ref1_check_j7 ((a2, a3, a4, (), a5, a6), (a7, a8, a9))) fun y3 =>
            match y3 with
            | (.inl y4) =>
              some y4
            | (.inr y5) =>
              some 0)) (
          Option.bind (ref1_check_j7 ((a2, a3, a4, (), a5, a6), (a7, a8, a9))) fun y6 =>
          match y6 with
          | (.inl y7) =>
            some y7
          | (.inr y8) =>
            some 0)))
noncomputable def ref1_check_j2 : ((Int × Int × Bool × ByteArray × Unit × Bool) × (Int × Int × ByteArray)) → Option Int := fun s => match s with
  | ((a1, a2, a3, a4, (), a5), (a6, a7, a8)) =>
    cond (a6 == 5) (
      Option.bind (ref1_check_j3 ((a1, a2, a3, a4, (), a5, true), (a6, a7, a8))) fun y1 =>
      some y1) (
      Option.bind (ref1_check_j3 ((a1, a2, a3, a4, (), a5, (a6 == 6)), (a6, a7, a8))) fun y2 =>
      some y2)
noncomputable def ref1_check (a1 : Int) (a2 : Int) (a3 : ByteArray) (a4 : Int) (a5 : Int) (a6 : Bool) (a7 : ByteArray) : Option Int :=
  cond (a1 == 3) (
    Option.bind (ref1_check_j2 ((a4, a5, a6, a7, (), true), (a1, a2, a3))) fun y1 =>
    some y1) (
    Option.bind (ref1_check_j2 ((a4, a5, a6, a7, (), (a1 == 4)), (a1, a2, a3))) fun y2 =>
    some y2)

/-! ref1_walk: passkey/passkeyref1.walk -/
noncomputable def ref1_walk_l10 (r_ref1_walk : (List PD) → Int → Int → Bool → ByteArray → Option (Int × Int)) : ((List PD × Int × Unit × Int × ByteArray × Int) × (Int × Int × ByteArray)) → Option (((List PD × Int × Unit × Int × ByteArray × Int) × (Int × Int × ByteArray)) ⊕ ((Int × Int) ⊕ Int)) := fun s => match s with
  | ((a1, a2, (), a3, a4, a5), (a6, a7, a8)) =>
    cond (decide (a5 < a7)) (
      cond (a6 == 5) (
        cond (a6 == 6) (
          Option.bind (r_ref1_walk a1 a3 (IntKind.i64.wrap (a2 + 1)) true a4) fun y1 =>
          cond (y1.2 != 0) (
            some (.inr (.inl (y1.1, y1.2)))) (
            Option.bind (getI a1 a3) fun y2 =>
            Option.bind (PD.intAt .i64 y2 0) fun y3 =>
            Option.bind (PD.intAt .u64 y2 1) fun y4 =>
            Option.bind (PD.strAt y2 2) fun y5 =>
            Option.bind (ref1_Bytes y3 y4 y5) fun y6 =>
            Option.bind (r_ref1_walk a1 y1.1 (IntKind.i64.wrap (a2 + 1)) false (bs [])) fun y7 =>
            cond (y7.2 != 0) (
              some (.inr (.inl (y7.1, y7.2)))) (
              some (.inl ((a1, a2, (), y7.1, y6, (IntKind.u64.wrap (a5 + 1))), (a6, a7, a8)))))) (
          Option.bind (r_ref1_walk a1 a3 (IntKind.i64.wrap (a2 + 1)) false (bs [])) fun y8 =>
          cond (y8.2 != 0) (
            some (.inr (.inl (y8.1, y8.2)))) (
            some (.inl ((a1, a2, (), y8.1, a4, (IntKind.u64.wrap (a5 + 1))), (a6, a7, a8)))))) (
        cond (a6 == 6) (
          cond (a6 == 6) (
            Option.bind (r_ref1_walk a1 a3 (IntKind.i64.wrap (a2 + 1)) true a4) fun y9 =>
            cond (y9.2 != 0) (
              some (.inr (.inl (y9.1, y9.2)))) (
              Option.bind (getI a1 a3) fun y10 =>
              Option.bind (PD.intAt .i64 y10 0) fun y11 =>
              Option.bind (PD.intAt .u64 y10 1) fun y12 =>
              Option.bind (PD.strAt y10 2) fun y13 =>
              Option.bind (ref1_Bytes y11 y12 y13) fun y14 =>
              Option.bind (r_ref1_walk a1 y9.1 (IntKind.i64.wrap (a2 + 1)) false (bs [])) fun y15 =>
              cond (y15.2 != 0) (
                some (.inr (.inl (y15.1, y15.2)))) (
                some (.inl ((a1, a2, (), y15.1, y14, (IntKind.u64.wrap (a5 + 1))), (a6, a7, a8)))))) (
            Option.bind (r_ref1_walk a1 a3 (IntKind.i64.wrap (a2 + 1)) false (bs [])) fun y16 =>
            cond (y16.2 != 0) (
              some (.inr (.inl (y16.1, y16.2)))) (
              some (.inl ((a1, a2, (), y16.1, a4, (IntKind.u64.wrap (a5 + 1))), (a6, a7, a8)))))) (
          some (.inr (.inr a3))))) (
      some (.inr (.inr a3)))
noncomputable def ref1_walk_F (r_ref1_walk : (List PD) → Int → Int → Bool → ByteArray → Option (Int × Int)) (a1 : List PD) (a2 : Int) (a3 : Int) (a4 : Bool) (a5 : ByteArray) : Option (Int × Int) :=
  cond (decide (a2 ≥ (((a1.length) : Nat) : Int))) (
    some (a2, 1)) (
    Option.bind (getI a1 a2) fun y1 =>
    Option.bind (PD.intAt .i64 y1 0) fun y2 =>
    Option.bind (PD.intAt .u64 y1 1) fun y3 =>
    Option.bind (PD.strAt y1 2) fun y4 =>
    Option.bind (ref1_check y2 y3 y4 a2 a3 a4 a5) fun y5 =>
    cond (y5 != 0) (
      some (a2, y5)) (
      Option.bind (loopFix (ref1_walk_l10 r_ref1_walk) ((a1, a3, (), (IntKind.i64.wrap (a2 + 1)), (bs []), 0), (y2, y3, y4))) fun y6 =>
      match y6 with
      | (.inl y7) =>
        some (y7.1, y7.2)
      | (.inr y8) =>
        some (y8, 0)))
noncomputable def ref1_walk_n : Nat → (List PD) → Int → Int → Bool → ByteArray → Option (Int × Int)
  | 0 => fun _ _ _ _ _ => none
  | n + 1 => ref1_walk_F (ref1_walk_n n)
noncomputable def ref1_walk (a1 : List PD) (a2 : Int) (a3 : Int) (a4 : Bool) (a5 : ByteArray) : Option (Int × Int) := ref1_walk_n 40 a1 a2 a3 a4 a5

/-! ref1_Validate: passkey/passkeyref1.Validate -/
noncomputable def ref1_Validate (a1 : List PD) : Option Int :=
  Option.bind (ref1_walk a1 0 0 false (bs [])) fun y1 =>
  cond (y1.2 != 0) (
    some y1.2) (
    cond (decide (y1.1 < (((a1.length) : Nat) : Int))) (
      some 2) (
      some 0))

/-! ref1_Encode: passkey/passkeyref1.Encode -/
noncomputable def ref1_Encode_l6 : ((List PD × Unit × Int) × List Int) → Option (((List PD × Unit × Int) × List Int) ⊕ (Unit × List Int)) := fun s => match s with
  | ((a1, (), a2), a3) =>
    cond (decide (a2 < (((a1.length) : Nat) : Int))) (
      Option.bind (getI a1 a2) fun y1 =>
      Option.bind (PD.intAt .i64 y1 0) fun y2 =>
      Option.bind (PD.intAt .u64 y1 1) fun y3 =>
      Option.bind (PD.strAt y1 2) fun y4 =>
      Option.bind (ref1_Bytes y2 y3 y4) fun y5 =>
      cond (decide (((a3 ++ (bytesOf y5)).length) * 1 ≤ 140737488355328)) (
        some (.inl ((a1, (), (IntKind.i64.wrap (a2 + 1))), (a3 ++ (bytesOf y5))))) none) (
      some (.inr ((), a3)))
noncomputable def ref1_Encode (a1 : List PD) : Option ((Unit × Int) × List Int) :=
  Option.bind (ref1_Validate a1) fun y1 =>
  cond (y1 != 0) (
    some (((), y1), [])) (
    Option.bind (loopFix ref1_Encode_l6 ((a1, (), 0), [])) fun y2 =>
    some (((), 0), y2.2))

/-! ref14_EncodeCredential: passkey/passkeyref14.EncodeCredential -/
noncomputable def ref14_EncodeCredential_l7 : ((Unit × Unit × Int) × (List PD × List PD)) → Option (((Unit × Unit × Int) × (List PD × List PD)) ⊕ (Unit × List PD)) := fun s => match s with
  | (((), (), a1), (a2, a3)) =>
    cond (decide (a1 < (((a2.length) : Nat) : Int))) (
      Option.bind (some ((IntKind.u64.wrap (IntKind.i64.wrap (a1 + 1))) : Int)) fun y1 =>
      Option.bind (ref14_number y1) fun y2 =>
      cond (inRange a1 (a2.length)) (
        Option.bind (a2[(Int.toNat a1)]?) fun y3 =>
        Option.bind (PD.intAt .i64 y3 0) fun y4 =>
        Option.bind (PD.intAt .u64 y3 1) fun y5 =>
        Option.bind (PD.strAt y3 2) fun y6 =>
        cond (decide (((a3 ++ [(PD.agg [(.int .i64 y2.1), (.int .u64 y2.2.1), (.str y2.2.2)]), (PD.agg [(.int .i64 y4), (.int .u64 y5), (.str y6)])]).length) * 32 ≤ 140737488355328)) (
          Option.bind (some ((a3 ++ [(PD.agg [(.int .i64 y2.1), (.int .u64 y2.2.1), (.str y2.2.2)]), (PD.agg [(.int .i64 y4), (.int .u64 y5), (.str y6)])]) : List PD)) fun y7 =>
          some (.inl (((), (), (IntKind.i64.wrap (a1 + 1))), (a2, y7)))) none) none) (
      some (.inr ((), a3)))
noncomputable def ref14_EncodeCredential (a1 : ByteArray) (a2 : ByteArray) (a3 : ByteArray) (a4 : Int) (a5 : Int) (a6 : Bool) (a7 : Int) (a8 : Bool) (a9 : Bool) : Option ((Unit × Int) × List Int) :=
  Option.bind (ref14_ValidateCredential a1 a2 a3 a4 a5 a6 a7 a8 a9) fun y1 =>
  cond (y1 != 0) (
    some (((), y1), [])) (
    Option.bind (ref14_text a1) fun y2 =>
    Option.bind (ref14_data a2) fun y3 =>
    Option.bind (ref14_text a3) fun y4 =>
    Option.bind (ref14_number a4) fun y5 =>
    Option.bind (ref14_number (IntKind.u64.wrap a5)) fun y6 =>
    Option.bind (ref14_boolean a6) fun y7 =>
    Option.bind (ref14_number (IntKind.u64.wrap a7)) fun y8 =>
    Option.bind (ref14_boolean a8) fun y9 =>
    Option.bind (ref14_boolean a9) fun y10 =>
    Option.bind (loopFix ref14_EncodeCredential_l7 (((), (), 0), ([(PD.agg [(.int .i64 y2.1), (.int .u64 y2.2.1), (.str y2.2.2)]), (PD.agg [(.int .i64 y3.1), (.int .u64 y3.2.1), (.str y3.2.2)]), (PD.agg [(.int .i64 y4.1), (.int .u64 y4.2.1), (.str y4.2.2)]), (PD.agg [(.int .i64 y5.1), (.int .u64 y5.2.1), (.str y5.2.2)]), (PD.agg [(.int .i64 y6.1), (.int .u64 y6.2.1), (.str y6.2.2)]), (PD.agg [(.int .i64 y7.1), (.int .u64 y7.2.1), (.str y7.2.2)]), (PD.agg [(.int .i64 y8.1), (.int .u64 y8.2.1), (.str y8.2.2)]), (PD.agg [(.int .i64 y9.1), (.int .u64 y9.2.1), (.str y9.2.2)]), (PD.agg [(.int .i64 y10.1), (.int .u64 y10.2.1), (.str y10.2.2)])], [(PD.agg [(.int .i64 6), (.int .u64 9), (.str (bs []))])]))) fun y11 =>
    Option.bind (ref1_Encode y11.2) fun y12 =>
    some (((), y12.1.2), y12.2))

/-! law15_CredentialValidates: passkey/passkeylaw15.CredentialValidates -/
noncomputable def law15_CredentialValidates (a1 : ByteArray) (a2 : ByteArray) (a3 : ByteArray) (a4 : Int) (a5 : Int) (a6 : Bool) (a7 : Int) (a8 : Bool) (a9 : Bool) (a10 : Int) (a11 : Int) : Option Bool :=
  cond (decide ((((a1.size) : Nat) : Int) > 100)) (
    Option.bind law15_awake fun y1 =>
    some y1) (
    cond (decide ((((a2.size) : Nat) : Int) > 100)) (
      Option.bind law15_awake fun y2 =>
      some y2) (
      cond (decide ((((a3.size) : Nat) : Int) > 100)) (
        Option.bind law15_awake fun y3 =>
        some y3) (
        Option.bind (base_Credential (bitsI .and .i64 a10 1048575)) fun y4 =>
        Option.bind (law15_spoil y4.1 y4.2.1 y4.2.2.1 y4.2.2.2.1 y4.2.2.2.2.1 y4.2.2.2.2.2.1 y4.2.2.2.2.2.2.1 y4.2.2.2.2.2.2.2.1 y4.2.2.2.2.2.2.2.2 a11) fun y5 =>
        Option.bind (credential_Encode a1 a2 a3 a4 a5 a6 a7 a8 a9) fun y6 =>
        Option.bind (ref14_EncodeCredential a1 a2 a3 a4 a5 a6 a7 a8 a9) fun y7 =>
        Option.bind (credential_Encode y5.1 y5.2.1 y5.2.2.1 y5.2.2.2.1 y5.2.2.2.2.1 y5.2.2.2.2.2.1 y5.2.2.2.2.2.2.1 y5.2.2.2.2.2.2.2.1 y5.2.2.2.2.2.2.2.2) fun y8 =>
        Option.bind (ref14_EncodeCredential y5.1 y5.2.1 y5.2.2.1 y5.2.2.2.1 y5.2.2.2.2.1 y5.2.2.2.2.2.1 y5.2.2.2.2.2.2.1 y5.2.2.2.2.2.2.2.1 y5.2.2.2.2.2.2.2.2) fun y9 =>
        Option.bind (credential_Validate a1 a2 a3 a4 a5 a6 a7 a8 a9) fun y10 =>
        Option.bind (ref14_ValidateCredential a1 a2 a3 a4 a5 a6 a7 a8 a9) fun y11 =>
        cond (y10 == y11) (
          Option.bind (credential_Validate y5.1 y5.2.1 y5.2.2.1 y5.2.2.2.1 y5.2.2.2.2.1 y5.2.2.2.2.2.1 y5.2.2.2.2.2.2.1 y5.2.2.2.2.2.2.2.1 y5.2.2.2.2.2.2.2.2) fun y12 =>
          Option.bind (ref14_ValidateCredential y5.1 y5.2.1 y5.2.2.1 y5.2.2.2.1 y5.2.2.2.2.1 y5.2.2.2.2.2.1 y5.2.2.2.2.2.2.1 y5.2.2.2.2.2.2.2.1 y5.2.2.2.2.2.2.2.2) fun y13 =>
          cond (y12 == y13) (
            cond (y6.1.2 == y7.1.2) (
              cond (strEq (strOf y6.2) (strOf y7.2)) (
                cond (y8.1.2 == y9.1.2) (
                  cond (strEq (strOf y8.2) (strOf y9.2)) (
                    cond (decide ((((y8.2.length) : Nat) : Int) ≤ 160)) (
                      Option.bind law15_awake fun y14 =>
                      some y14) (
                      some false)) (
                    some false)) (
                  some false)) (
                some false)) (
              some false)) (
            some false)) (
          some false))))

/-! ref1_rotl: passkey/passkeyref1.rotl -/
noncomputable def ref1_rotl (a1 : Int) (a2 : Int) : Option Int :=
  cond (decide (0 ≤ a2)) (
    cond (decide (0 ≤ (IntKind.u64.wrap (64 - a2)))) (
      Option.bind (some ((shrI .u64 a1 (IntKind.u64.wrap (64 - a2))) : Int)) fun y1 =>
      some (bitsI .or .u64 (shlI .u64 a1 a2) y1)) none) none

/-! ref1_round: passkey/passkeyref1.round -/
noncomputable def ref1_round (a1 : List Int) : Option (List Int) :=
  Option.bind (a1[0]?) fun y1 =>
  Option.bind (a1[1]?) fun y2 =>
  Option.bind ((a1.set 0 (IntKind.u64.wrap (y1 + y2)))[1]?) fun y3 =>
  Option.bind (ref1_rotl y3 13) fun y4 =>
  Option.bind ((a1.set 0 (IntKind.u64.wrap (y1 + y2)))[0]?) fun y5 =>
  Option.bind (some (((a1.set 0 (IntKind.u64.wrap (y1 + y2))).set 1 (bitsI .xor .u64 y4 y5)) : List Int)) fun y6 =>
  Option.bind (y6[0]?) fun y7 =>
  Option.bind (ref1_rotl y7 32) fun y8 =>
  Option.bind ((y6.set 0 y8)[2]?) fun y9 =>
  Option.bind ((y6.set 0 y8)[3]?) fun y10 =>
  Option.bind (some (((y6.set 0 y8).set 2 (IntKind.u64.wrap (y9 + y10))) : List Int)) fun y11 =>
  Option.bind (y11[3]?) fun y12 =>
  Option.bind (ref1_rotl y12 16) fun y13 =>
  Option.bind (y11[2]?) fun y14 =>
  Option.bind ((y11.set 3 (bitsI .xor .u64 y13 y14))[0]?) fun y15 =>
  Option.bind ((y11.set 3 (bitsI .xor .u64 y13 y14))[3]?) fun y16 =>
  Option.bind (some (((y11.set 3 (bitsI .xor .u64 y13 y14)).set 0 (IntKind.u64.wrap (y15 + y16))) : List Int)) fun y17 =>
  Option.bind (y17[3]?) fun y18 =>
  Option.bind (ref1_rotl y18 21) fun y19 =>
  Option.bind (y17[0]?) fun y20 =>
  Option.bind ((y17.set 3 (bitsI .xor .u64 y19 y20))[2]?) fun y21 =>
  Option.bind ((y17.set 3 (bitsI .xor .u64 y19 y20))[1]?) fun y22 =>
  Option.bind (some (((y17.set 3 (bitsI .xor .u64 y19 y20)).set 2 (IntKind.u64.wrap (y21 + y22))) : List Int)) fun y23 =>
  Option.bind (y23[1]?) fun y24 =>
  Option.bind (ref1_rotl y24 17) fun y25 =>
  Option.bind (y23[2]?) fun y26 =>
  Option.bind ((y23.set 1 (bitsI .xor .u64 y25 y26))[2]?) fun y27 =>
  Option.bind (ref1_rotl y27 32) fun y28 =>
  Option.bind (some (((y23.set 1 (bitsI .xor .u64 y25 y26)).set 2 y28) : List Int)) fun y29 =>
  some y29

/-! ref1_Sum: passkey/passkeyref1.Sum -/
noncomputable def ref1_Sum_j14 : ((List Int × Unit × Int × Int × Int × Int) × List Int) → Option ((List Int × Unit × Int × Int × Int) × List Int) := fun s => match s with
  | ((a1, (), a2, a3, a4, a5), a6) =>
    Option.bind (some ((bitsI .or .u64 (shlI .u64 a3 8) (IntKind.u64.wrap a5)) : Int)) fun y1 =>
    some ((a1, (), a2, y1, a4), a6)
noncomputable def ref1_Sum_l7 : ((List Int × Unit × Int × Int × Int) × List Int) → Option (((List Int × Unit × Int × Int × Int) × List Int) ⊕ ((List Int × Unit × Int × Int) × List Int)) := fun s => match s with
  | ((a1, (), a2, a3, a4), a5) =>
    cond (decide (a4 ≥ 0)) (
      cond (decide ((IntKind.i64.wrap (a2 + a4)) < (((a1.length) : Nat) : Int))) (
        Option.bind (getI a1 (IntKind.i64.wrap (a2 + a4))) fun y1 =>
        Option.bind (ref1_Sum_j14 ((a1, (), a2, a3, a4, y1), a5)) fun y2 =>
        some (.inl ((y2.1.1, (), y2.1.2.2.1, y2.1.2.2.2.1, (IntKind.i64.wrap (y2.1.2.2.2.2 - 1))), y2.2))) (
        cond (a4 == 7) (
          Option.bind (some ((IntKind.u8.wrap (((a1.length) : Nat) : Int)) : Int)) fun y3 =>
          Option.bind (ref1_Sum_j14 ((a1, (), a2, a3, a4, y3), a5)) fun y4 =>
          some (.inl ((y4.1.1, (), y4.1.2.2.1, y4.1.2.2.2.1, (IntKind.i64.wrap (y4.1.2.2.2.2 - 1))), y4.2))) (
          Option.bind (ref1_Sum_j14 ((a1, (), a2, a3, a4, 0), a5)) fun y5 =>
          some (.inl ((y5.1.1, (), y5.1.2.2.1, y5.1.2.2.2.1, (IntKind.i64.wrap (y5.1.2.2.2.2 - 1))), y5.2))))) (
      some (.inr ((a1, (), a2, a3), a5)))
noncomputable def ref1_Sum_l3 : ((List Int × Unit × Int) × List Int) → Option (((List Int × Unit × Int) × List Int) ⊕ (Unit × List Int)) := fun s => match s with
  | ((a1, (), a2), a3) =>
    cond (decide (a2 ≤ (((a1.length) : Nat) : Int))) (
      Option.bind (loopFix ref1_Sum_l7 ((a1, (), a2, 0, 7), a3)) fun y1 =>
      Option.bind (y1.2[3]?) fun y2 =>
      Option.bind (some ((y1.2.set 3 (bitsI .xor .u64 y2 y1.1.2.2.2)) : List Int)) fun y3 =>
      Option.bind (ref1_round y3) fun y4 =>
      Option.bind (ref1_round y4) fun y5 =>
      Option.bind (y5[0]?) fun y6 =>
      Option.bind (some ((y5.set 0 (bitsI .xor .u64 y6 y1.1.2.2.2)) : List Int)) fun y7 =>
      some (.inl ((y1.1.1, (), (IntKind.i64.wrap (y1.1.2.2.1 + 8))), y7))) (
      some (.inr ((), a3)))
noncomputable def ref1_Sum (a1 : Int) (a2 : Int) (a3 : List Int) : Option Int :=
  Option.bind (loopFix ref1_Sum_l3 ((a3, (), 0), [(bitsI .xor .u64 a1 8317987319222330741), (bitsI .xor .u64 a2 7237128888997146477), (bitsI .xor .u64 a1 7816392313619706465), (bitsI .xor .u64 a2 8387220255154660723)])) fun y1 =>
  Option.bind (y1.2[2]?) fun y2 =>
  Option.bind (ref1_round (y1.2.set 2 (bitsI .xor .u64 y2 255))) fun y3 =>
  Option.bind (ref1_round y3) fun y4 =>
  Option.bind (ref1_round y4) fun y5 =>
  Option.bind (ref1_round y5) fun y6 =>
  Option.bind (y6[0]?) fun y7 =>
  Option.bind (y6[1]?) fun y8 =>
  Option.bind (y6[2]?) fun y9 =>
  Option.bind (some ((bitsI .xor .u64 (bitsI .xor .u64 y7 y8) y9) : Int)) fun y10 =>
  Option.bind (y6[3]?) fun y11 =>
  some (bitsI .xor .u64 y10 y11)

/-! ref1_Mac: passkey/passkeyref1.Mac -/
noncomputable def ref1_Mac (a1 : Int) (a2 : Int) (a3 : List Int) : Option Int :=
  Option.bind (some ((IntKind.u64.wrap (1 + (IntKind.u64.wrap a2))) : Int)) fun y1 =>
  Option.bind (ref1_Sum a1 y1 a3) fun y2 =>
  some y2

/-! ref1_Derive: passkey/passkeyref1.Derive -/
noncomputable def ref1_Derive (a1 : Int) (a2 : ByteArray) (a3 : Int) : Option Int :=
  cond (decide ((a2.size) ≤ 140737488355328)) (
    cond (decide ((((bytesOf a2) ++ [0]).length) * 1 ≤ 140737488355328)) (
      Option.bind (ref1_Words [(IntKind.u64.wrap a3)]) fun y1 =>
      cond (decide (((((bytesOf a2) ++ [0]) ++ y1.2).length) * 1 ≤ 140737488355328)) (
        Option.bind (ref1_Mac a1 4 (((bytesOf a2) ++ [0]) ++ y1.2)) fun y2 =>
        some y2) none) none) none

/-! ref3_Stream: passkey/passkeyref3.Stream -/
noncomputable def ref3_Stream_l4 : ((Int × Int × Int × Unit × Int) × List Int) → Option (((Int × Int × Int × Unit × Int) × List Int) ⊕ ((Int × Unit) × List Int)) := fun s => match s with
  | ((a1, a2, a3, (), a4), a5) =>
    cond (decide ((((a5.length) : Nat) : Int) < a3)) (
      Option.bind (ref1_Words [a2, (IntKind.u64.wrap a4)]) fun y1 =>
      Option.bind (ref1_Mac a1 5 y1.2) fun y2 =>
      Option.bind (ref1_Words [y2]) fun y3 =>
      cond (decide (((a5 ++ y3.2).length) * 1 ≤ 140737488355328)) (
        some (.inl ((a1, a2, a3, (), (IntKind.i64.wrap (a4 + 1))), (a5 ++ y3.2)))) none) (
      some (.inr ((a3, ()), a5)))
noncomputable def ref3_Stream (a1 : Int) (a2 : Int) (a3 : Int) : Option (Unit × List Int) :=
  Option.bind (some ((if 1024 < (if 0 > a3 then 0 else a3) then 1024 else (if 0 > a3 then 0 else a3)) : Int)) fun y1 =>
  Option.bind (loopFix ref3_Stream_l4 ((a1, a2, y1, (), 0), [])) fun y2 =>
  cond (okBounds 0 y2.1.1 (y2.2.length)) (
    some ((), (cut y2.2 0 y2.1.1))) none

/-! ref14_wrapKey: passkey/passkeyref14.wrapKey -/
noncomputable def ref14_wrapKey (a1 : Int) : Option Int :=
  Option.bind (ref1_Derive a1 (bs [119, 114, 97, 112]) 0) fun y1 =>
  some y1

/-! ref1_Hash: passkey/passkeyref1.Hash -/
noncomputable def ref1_Hash (a1 : Int) (a2 : List Int) : Option Int :=
  Option.bind (ref1_Sum (IntKind.u64.wrap a1) 0 a2) fun y1 =>
  some y1

/-! ref14_RPHash: passkey/passkeyref14.RPHash -/
noncomputable def ref14_RPHash (a1 : ByteArray) : Option Int :=
  cond (decide ((a1.size) ≤ 140737488355328)) (
    Option.bind (ref1_Hash 9 (bytesOf a1)) fun y1 =>
    some y1) none

/-! ref3_mix: passkey/passkeyref3.mix -/
noncomputable def ref3_mix_l4 : ((List Int × Unit × Unit × Int) × (List Int × List Int)) → Option (((List Int × Unit × Unit × Int) × (List Int × List Int)) ⊕ (Unit × List Int)) := fun s => match s with
  | ((a1, (), (), a2), (a3, a4)) =>
    cond (decide (a2 < (((a1.length) : Nat) : Int))) (
      Option.bind (getI a1 a2) fun y1 =>
      cond (inRange a2 (a3.length)) (
        Option.bind (a3[(Int.toNat a2)]?) fun y2 =>
        cond (decide (((a4 ++ [(bitsI .xor .u8 y1 y2)]).length) * 1 ≤ 140737488355328)) (
          some (.inl ((a1, (), (), (IntKind.i64.wrap (a2 + 1))), (a3, (a4 ++ [(bitsI .xor .u8 y1 y2)]))))) none) none) (
      some (.inr ((), a4)))
noncomputable def ref3_mix (a1 : Int) (a2 : Int) (a3 : List Int) : Option (Unit × List Int) :=
  Option.bind (ref3_Stream a1 a2 (((a3.length) : Nat) : Int)) fun y1 =>
  Option.bind (loopFix ref3_mix_l4 ((a3, (), (), 0), (y1.2, []))) fun y2 =>
  some ((), y2.2)

/-! ref3_tag: passkey/passkeyref3.tag -/
noncomputable def ref3_tag (a1 : Int) (a2 : Int) (a3 : List Int) (a4 : List Int) : Option Int :=
  Option.bind (some ((IntKind.u64.wrap (((a3.length) : Nat) : Int)) : Int)) fun y1 =>
  Option.bind (ref1_Words [a2, y1]) fun y2 =>
  cond (decide (((y2.2 ++ a3).length) * 1 ≤ 140737488355328)) (
    cond (decide ((((y2.2 ++ a3) ++ a4).length) * 1 ≤ 140737488355328)) (
      Option.bind (ref1_Mac a1 6 ((y2.2 ++ a3) ++ a4)) fun y3 =>
      some y3) none) none

/-! ref3_Seal: passkey/passkeyref3.Seal -/
noncomputable def ref3_Seal (a1 : Int) (a2 : Int) (a3 : List Int) (a4 : List Int) : Option ((Unit × Int) × List Int) :=
  cond (decide ((((a4.length) : Nat) : Int) > 1024)) (
    some (((), 8), [])) (
    cond (decide ((((a3.length) : Nat) : Int) > 1024)) (
      some (((), 8), [])) (
      Option.bind (ref3_mix a1 a2 a4) fun y1 =>
      Option.bind (ref1_Words [a2]) fun y2 =>
      cond (decide (((y2.2 ++ y1.2).length) * 1 ≤ 140737488355328)) (
        Option.bind (ref3_tag a1 a2 a3 y1.2) fun y3 =>
        Option.bind (ref1_Words [y3]) fun y4 =>
        cond (decide ((((y2.2 ++ y1.2) ++ y4.2).length) * 1 ≤ 140737488355328)) (
          some (((), 0), ((y2.2 ++ y1.2) ++ y4.2))) none) none))

/-! ref14_ID: passkey/passkeyref14.ID -/
noncomputable def ref14_ID (a1 : Int) (a2 : Int) (a3 : ByteArray) (a4 : ByteArray) (a5 : ByteArray) (a6 : Int) (a7 : Int) (a8 : Bool) (a9 : Int) (a10 : Bool) (a11 : Bool) : Option ((Unit × Int) × List Int) :=
  Option.bind (ref14_EncodeCredential a3 a4 a5 a6 a7 a8 a9 a10 a11) fun y1 =>
  cond (y1.1.2 != 0) (
    some (((), y1.1.2), [])) (
    cond a8 (
      Option.bind (ref1_Derive a6 (bs [105, 100]) 0) fun y2 =>
      Option.bind (ref3_Stream y2 0 176) fun y3 =>
      some (((), 0), y3.2)) (
      Option.bind (some ((((min (y1.2.length) ((List.replicate 160 (0 : Int)).length)) : Nat) : Int) : Int)) fun y4 =>
      Option.bind (some (((cut y1.2 0 (((min (y1.2.length) ((List.replicate 160 (0 : Int)).length)) : Nat) : Int)) ++ (cut (List.replicate 160 (0 : Int)) (((min (y1.2.length) ((List.replicate 160 (0 : Int)).length)) : Nat) : Int) ((((List.replicate 160 (0 : Int)).length) : Nat) : Int))) : List Int)) fun y5 =>
      Option.bind (ref14_wrapKey a1) fun y6 =>
      Option.bind (ref14_RPHash a3) fun y7 =>
      Option.bind (ref1_Words [y7]) fun y8 =>
      Option.bind (ref3_Seal y6 a2 y8.2 y5) fun y9 =>
      some (((), y9.1.2), y9.2)))

/-! ref1_Word: passkey/passkeyref1.Word -/
noncomputable def ref1_Word_l3 : (List Int × Int × Int) → Option ((List Int × Int × Int) ⊕ Int) := fun s => match s with
  | (a1, a2, a3) =>
    cond (decide (a3 < 8)) (
      cond (decide (a3 < (((a1.length) : Nat) : Int))) (
        Option.bind (getI a1 a3) fun y1 =>
        Option.bind (some ((bitsI .or .u64 (shlI .u64 a2 8) (IntKind.u64.wrap y1)) : Int)) fun y2 =>
        some (.inl (a1, y2, (IntKind.i64.wrap (a3 + 1))))) (
        some (.inr a2))) (
      some (.inr a2))
noncomputable def ref1_Word (a1 : List Int) : Option Int :=
  Option.bind (loopFix ref1_Word_l3 (a1, 0, 0)) fun y1 =>
  some y1

/-! ref3_Open: passkey/passkeyref3.Open -/
noncomputable def ref3_Open (a1 : Int) (a2 : List Int) (a3 : List Int) : Option ((Unit × Int) × List Int) :=
  cond (decide ((((a3.length) : Nat) : Int) < 16)) (
    some (((), 1), [])) (
    cond (decide ((((a3.length) : Nat) : Int) > 1040)) (
      some (((), 8), [])) (
      cond (decide ((((a2.length) : Nat) : Int) > 1024)) (
        some (((), 8), [])) (
        cond ((okBounds 0 8 (a3.length)) && ((decide (8 ≤ (((a3.length) : Nat) : Int))) && (decide ((((a3.length) : Nat) : Int) ≤ (((a3.length) : Nat) : Int))))) (
          Option.bind (ref1_Word (cut a3 0 8)) fun y1 =>
          Option.bind (some ((IntKind.i64.wrap ((((a3.length) : Nat) : Int) - 8)) : Int)) fun y2 =>
          cond ((okBounds 8 y2 (a3.length)) && ((decide (y2 ≤ (((a3.length) : Nat) : Int))) && (decide ((((a3.length) : Nat) : Int) ≤ (((a3.length) : Nat) : Int))))) (
            Option.bind (some ((IntKind.i64.wrap ((((a3.length) : Nat) : Int) - 8)) : Int)) fun y3 =>
            cond ((okBounds y3 (((a3.length) : Nat) : Int) (a3.length)) && ((decide ((((a3.length) : Nat) : Int) ≤ (((a3.length) : Nat) : Int))) && (decide ((((a3.length) : Nat) : Int) ≤ (((a3.length) : Nat) : Int))))) (
              Option.bind (ref1_Word (cut a3 y3 (((a3.length) : Nat) : Int))) fun y4 =>
              Option.bind (ref3_tag a1 y1 a2 (cut a3 8 y2)) fun y5 =>
              cond (y4 != y5) (
                some (((), 14), [])) (
                Option.bind (ref3_mix a1 y1 (cut a3 8 y2)) fun y6 =>
                some (((), 0), y6.2))) none) none) none)))

/-! ref1_reader_head_c23: (*passkey/passkeyref1.reader).head -/
noncomputable def ref1_reader_head_c23_j7 : ((Unit × Unit × Int) × ((ByteArray × Int × Unit) × List PD × (Int × Int × ByteArray))) → Option ((Unit × Int) × ((ByteArray × Int × Unit) × List PD × (Int × Int × ByteArray))) := fun s => match s with
  | (((), (), a1), ((a2, a3, ()), a4, (a5, a6, a7))) =>
    Option.bind (some ((IntKind.u64.wrap (IntKind.u8.wrap (a1 - 244))) : Int)) fun y1 =>
    some (((), 0), ((a2, (IntKind.i64.wrap (a3 + 1)), ()), a4, (7, y1, (bs []))))
noncomputable def ref1_reader_head_c23_j9 : ((Unit × Unit × Int × Int) × ((ByteArray × Int × Unit) × List PD × (Int × Int × ByteArray))) → Option (((Unit × Int) × ((ByteArray × Int × Unit) × List PD × (Int × Int × ByteArray))) ⊕ ((Unit × Unit × Int) × ((ByteArray × Int × Unit) × List PD × (Int × Int × ByteArray)))) := fun s => match s with
  | (((), (), a1, a2), ((a3, a4, ()), a5, (a6, a7, a8))) =>
    cond (a2 == 246) (
      some (.inl (((), 0), ((a3, (IntKind.i64.wrap (a4 + 1)), ()), a5, (8, 0, (bs [])))))) (
      some (.inr (((), (), a1), ((a3, a4, ()), a5, (a6, a7, a8)))))
noncomputable def ref1_reader_head_c23_l24 : ((Unit × Unit × Int × Int × Int × Int) × ((ByteArray × Int × Unit) × List PD × (Int × Int × ByteArray))) → Option (((Unit × Unit × Int × Int × Int × Int) × ((ByteArray × Int × Unit) × List PD × (Int × Int × ByteArray))) ⊕ ((Unit × Unit × Int × Int × Int) × ((ByteArray × Int × Unit) × List PD × (Int × Int × ByteArray)))) := fun s => match s with
  | (((), (), a1, a2, a3, a4), ((a5, a6, ()), a7, (a8, a9, a10))) =>
    cond (decide (a4 < a2)) (
      Option.bind (some ((IntKind.i64.wrap ((IntKind.i64.wrap (a6 + 1)) + a4)) : Int)) fun y1 =>
      Option.bind (strI a5 y1) fun y2 =>
      Option.bind (some ((bitsI .or .u64 (shlI .u64 a3 8) (IntKind.u64.wrap y2)) : Int)) fun y3 =>
      some (.inl (((), (), a1, a2, y3, (IntKind.i64.wrap (a4 + 1))), ((a5, a6, ()), a7, (a8, a9, a10))))) (
      some (.inr (((), (), a1, a2, a3), ((a5, a6, ()), a7, (a8, a9, a10)))))
noncomputable def ref1_reader_head_c23_j23 : ((Unit × Unit × Int × Int × Int) × ((ByteArray × Int × Unit) × List PD × (Int × Int × ByteArray))) → Option ((Unit × Int) × ((ByteArray × Int × Unit) × List PD × (Int × Int × ByteArray))) := fun s => match s with
  | (((), (), a1, a2, a3), ((a4, a5, ()), a6, (a7, a8, a9))) =>
    Option.bind (loopFix ref1_reader_head_c23_l24 (((), (), a1, a2, a3, 0), ((a4, a5, ()), a6, (a7, a8, a9)))) fun y1 =>
    cond (inRange y1.1.2.2.2.1 9) (
      Option.bind ([0, 24, 256, 0, 65536, 0, 0, 0, 4294967296][(Int.toNat y1.1.2.2.2.1)]?) fun y2 =>
      cond (decide (y1.1.2.2.2.2 < y2)) (
        some (((), 2), ((y1.2.1.1, y1.2.1.2.1, ()), y1.2.2.1, (0, 0, (bs []))))) (
        Option.bind (some ((IntKind.i64.wrap (y1.2.1.2.1 + (IntKind.i64.wrap (1 + y1.1.2.2.2.1)))) : Int)) fun y3 =>
        cond (inRange y1.1.2.2.1 6) (
          Option.bind ([1, 2, 3, 4, 5, 6][(Int.toNat y1.1.2.2.1)]?) fun y4 =>
          some (((), 0), ((y1.2.1.1, y3, ()), y1.2.2.1, (y4, y1.1.2.2.2.2, (bs []))))) none)) none
noncomputable def ref1_reader_head_c23_j18 : ((Unit × Unit × Int × Int × Int) × ((ByteArray × Int × Unit) × List PD × (Int × Int × ByteArray))) → Option ((Unit × Int) × ((ByteArray × Int × Unit) × List PD × (Int × Int × ByteArray))) := fun s => match s with
  | (((), (), a1, a2, a3), ((a4, a5, ()), a6, (a7, a8, a9))) =>
    Option.bind (some ((IntKind.i64.wrap ((((a4.size) : Nat) : Int) - a5)) : Int)) fun y1 =>
    cond (decide ((IntKind.i64.wrap (y1 - 1)) < a3)) (
      some (((), 1), ((a4, a5, ()), a6, (0, 0, (bs []))))) (
      cond (decide (a3 > 0)) (
        Option.bind (ref1_reader_head_c23_j23 (((), (), a1, a3, 0), ((a4, a5, ()), a6, (a7, a8, a9)))) fun y2 =>
        some (((), y2.1.2), ((y2.2.1.1, y2.2.1.2.1, ()), y2.2.2.1, (y2.2.2.2.1, y2.2.2.2.2.1, y2.2.2.2.2.2)))) (
        Option.bind (ref1_reader_head_c23_j23 (((), (), a1, a3, (IntKind.u64.wrap a2)), ((a4, a5, ()), a6, (a7, a8, a9)))) fun y3 =>
        some (((), y3.1.2), ((y3.2.1.1, y3.2.1.2.1, ()), y3.2.2.1, (y3.2.2.2.1, y3.2.2.2.2.1, y3.2.2.2.2.2)))))
noncomputable def ref1_reader_head_c23 (a1 : ByteArray) (a2 : Int) (a3 : List PD) : Option (((Int × Int × ByteArray) × Int) × ((ByteArray × Int × Unit) × List PD)) :=
  cond (decide (a2 ≥ (((a1.size) : Nat) : Int))) (
    some (((0, 0, (bs [])), 1), ((a1, a2, ()), a3))) (
    Option.bind (strI a1 a2) fun y1 =>
    cond (y1 == 244) (
      Option.bind (ref1_reader_head_c23_j7 (((), (), y1), ((a1, a2, ()), a3, (0, 0, (bs []))))) fun y2 =>
      some (((y2.2.2.2.1, y2.2.2.2.2.1, y2.2.2.2.2.2), y2.1.2), ((y2.2.1.1, y2.2.1.2.1, ()), y2.2.2.1))) (
      cond (y1 == 245) (
        Option.bind (ref1_reader_head_c23_j7 (((), (), y1), ((a1, a2, ()), a3, (0, 0, (bs []))))) fun y3 =>
        some (((y3.2.2.2.1, y3.2.2.2.2.1, y3.2.2.2.2.2), y3.1.2), ((y3.2.1.1, y3.2.1.2.1, ()), y3.2.2.1))) (
        Option.bind (ref1_reader_head_c23_j9 (((), (), y1, y1), ((a1, a2, ()), a3, (0, 0, (bs []))))) fun y4 =>
        match y4 with
        | (.inl y5) =>
          some (((y5.2.2.2.1, y5.2.2.2.2.1, y5.2.2.2.2.2), y5.1.2), ((y5.2.1.1, y5.2.1.2.1, ()), y5.2.2.1))
        | (.inr y6) =>
          Option.bind (some ((IntKind.i64.wrap (bitsI .and .u8 y6.1.2.2 31)) : Int)) fun y7 =>
          cond (decide ((IntKind.i64.wrap (shrI .u8 y6.1.2.2 5)) > 5)) (
            some (((0, 0, (bs [])), 2), ((y6.2.1.1, y6.2.1.2.1, ()), y6.2.2.1))) (
            cond (decide (y7 > 27)) (
              some (((0, 0, (bs [])), 2), ((y6.2.1.1, y6.2.1.2.1, ()), y6.2.2.1))) (
              cond (decide (y7 ≥ 24)) (
                Option.bind (some ((IntKind.u64.wrap (IntKind.i64.wrap (y7 - 24))) : Int)) fun y8 =>
                cond (decide (0 ≤ y8)) (
                  Option.bind (ref1_reader_head_c23_j18 (((), (), (IntKind.i64.wrap (shrI .u8 y6.1.2.2 5)), y7, (shlI .i64 1 y8)), ((y6.2.1.1, y6.2.1.2.1, ()), y6.2.2.1, (y6.2.2.2.1, y6.2.2.2.2.1, y6.2.2.2.2.2)))) fun y9 =>
                  some (((y9.2.2.2.1, y9.2.2.2.2.1, y9.2.2.2.2.2), y9.1.2), ((y9.2.1.1, y9.2.1.2.1, ()), y9.2.2.1))) none) (
                Option.bind (ref1_reader_head_c23_j18 (((), (), (IntKind.i64.wrap (shrI .u8 y6.1.2.2 5)), y7, 0), ((y6.2.1.1, y6.2.1.2.1, ()), y6.2.2.1, (y6.2.2.2.1, y6.2.2.2.2.1, y6.2.2.2.2.2)))) fun y10 =>
                some (((y10.2.2.2.1, y10.2.2.2.2.1, y10.2.2.2.2.2), y10.1.2), ((y10.2.1.1, y10.2.1.2.1, ()), y10.2.2.1))))))))

/-! ref1_reader_item_0da: (*passkey/passkeyref1.reader).item -/
noncomputable def ref1_reader_item_0da_j15 (r_ref1_reader_item_0da : Int → Bool → ByteArray → ByteArray → Int → (List PD) → Option (Int × ((ByteArray × Int × Unit) × Unit × List PD))) : ((Unit × Int × Bool × ByteArray × Unit × Int × Bool × Bool) × ((ByteArray × Int × Unit) × List PD × (Int × Int × ByteArray))) → Option (((Unit × Int × Bool × ByteArray × Int × Unit × Int × Bool × Bool) × ((ByteArray × Int × Unit) × List PD × (Int × Int × ByteArray))) ⊕ ((Unit × Int × Bool × ByteArray × Unit × Int × Bool × Bool) × ((ByteArray × Int × Unit) × List PD × (Int × Int × ByteArray)))) := fun s => match s with
  | (((), a1, a2, a3, (), a4, a5, a6), ((a7, a8, ()), a9, (a10, a11, a12))) =>
    cond a5 (
      Option.bind (some ((IntKind.i64.wrap ((((a7.size) : Nat) : Int) - a8)) : Int)) fun y1 =>
      cond (decide ((IntKind.u64.wrap y1) < a4)) (
        some (.inl (((), a1, a2, a3, 1, (), a4, a5, a6), ((a7, a8, ()), a9, (a10, a11, a12))))) (
        some (.inr (((), a1, a2, a3, (), a4, a5, a6), ((a7, a8, ()), a9, (a10, a11, a12)))))) (
      some (.inr (((), a1, a2, a3, (), a4, a5, a6), ((a7, a8, ()), a9, (a10, a11, a12)))))
noncomputable def ref1_reader_item_0da_j11 (r_ref1_reader_item_0da : Int → Bool → ByteArray → ByteArray → Int → (List PD) → Option (Int × ((ByteArray × Int × Unit) × Unit × List PD))) : ((Unit × Int × Bool × ByteArray × Unit × Int × Bool × Bool) × ((ByteArray × Int × Unit) × List PD × (Int × Int × ByteArray))) → Option (((Unit × Int × Bool × ByteArray × Int × Unit × Int × Bool × Bool) × ((ByteArray × Int × Unit) × List PD × (Int × Int × ByteArray))) ⊕ ((Unit × Int × Bool × ByteArray × Unit × Int × Bool × Bool) × ((ByteArray × Int × Unit) × List PD × (Int × Int × ByteArray)))) := fun s => match s with
  | (((), a1, a2, a3, (), a4, a5, a6), ((a7, a8, ()), a9, (a10, a11, a12))) =>
    cond (decide (a1 > 8)) (
      some (.inl (((), a1, a2, a3, 5, (), a4, a5, a6), ((a7, a8, ()), a9, (a10, a11, a12))))) (
      cond a5 (
        cond (decide (a4 > 1024)) (
          some (.inl (((), a1, a2, a3, 8, (), a4, a5, a6), ((a7, a8, ()), a9, (a10, a11, a12))))) (
          cond a6 (
            cond (decide (a4 > 512)) (
              some (.inl (((), a1, a2, a3, 8, (), a4, a5, a6), ((a7, a8, ()), a9, (a10, a11, a12))))) (
              Option.bind (ref1_reader_item_0da_j15 r_ref1_reader_item_0da (((), a1, a2, a3, (), a4, a5, a6), ((a7, a8, ()), a9, (a10, a11, a12)))) fun y1 =>
              match y1 with
              | (.inl y2) =>
                some (.inl (((), y2.1.2.1, y2.1.2.2.1, y2.1.2.2.2.1, y2.1.2.2.2.2.1, (), y2.1.2.2.2.2.2.2.1, y2.1.2.2.2.2.2.2.2.1, y2.1.2.2.2.2.2.2.2.2), ((y2.2.1.1, y2.2.1.2.1, ()), y2.2.2.1, (y2.2.2.2.1, y2.2.2.2.2.1, y2.2.2.2.2.2))))
              | (.inr y3) =>
                some (.inr (((), y3.1.2.1, y3.1.2.2.1, y3.1.2.2.2.1, (), y3.1.2.2.2.2.2.1, y3.1.2.2.2.2.2.2.1, y3.1.2.2.2.2.2.2.2), ((y3.2.1.1, y3.2.1.2.1, ()), y3.2.2.1, (y3.2.2.2.1, y3.2.2.2.2.1, y3.2.2.2.2.2)))))) (
            Option.bind (ref1_reader_item_0da_j15 r_ref1_reader_item_0da (((), a1, a2, a3, (), a4, a5, a6), ((a7, a8, ()), a9, (a10, a11, a12)))) fun y4 =>
            match y4 with
            | (.inl y5) =>
              some (.inl (((), y5.1.2.1, y5.1.2.2.1, y5.1.2.2.2.1, y5.1.2.2.2.2.1, (), y5.1.2.2.2.2.2.2.1, y5.1.2.2.2.2.2.2.2.1, y5.1.2.2.2.2.2.2.2.2), ((y5.2.1.1, y5.2.1.2.1, ()), y5.2.2.1, (y5.2.2.2.1, y5.2.2.2.2.1, y5.2.2.2.2.2))))
            | (.inr y6) =>
              some (.inr (((), y6.1.2.1, y6.1.2.2.1, y6.1.2.2.2.1, (), y6.1.2.2.2.2.2.1, y6.1.2.2.2.2.2.2.1, y6.1.2.2.2.2.2.2.2), ((y6.2.1.1, y6.2.1.2.1, ()), y6.2.2.1, (y6.2.2.2.1, y6.2.2.2.2.1, y6.2.2.2.2.2))))))) (
        cond a6 (
          cond (decide (a4 > 512)) (
            some (.inl (((), a1, a2, a3, 8, (), a4, a5, a6), ((a7, a8, ()), a9, (a10, a11, a12))))) (
            Option.bind (ref1_reader_item_0da_j15 r_ref1_reader_item_0da (((), a1, a2, a3, (), a4, a5, a6), ((a7, a8, ()), a9, (a10, a11, a12)))) fun y7 =>
            match y7 with
            | (.inl y8) =>
              some (.inl (((), y8.1.2.1, y8.1.2.2.1, y8.1.2.2.2.1, y8.1.2.2.2.2.1, (), y8.1.2.2.2.2.2.2.1, y8.1.2.2.2.2.2.2.2.1, y8.1.2.2.2.2.2.2.2.2), ((y8.2.1.1, y8.2.1.2.1, ()), y8.2.2.1, (y8.2.2.2.1, y8.2.2.2.2.1, y8.2.2.2.2.2))))
            | (.inr y9) =>
              some (.inr (((), y9.1.2.1, y9.1.2.2.1, y9.1.2.2.2.1, (), y9.1.2.2.2.2.2.1, y9.1.2.2.2.2.2.2.1, y9.1.2.2.2.2.2.2.2), ((y9.2.1.1, y9.2.1.2.1, ()), y9.2.2.1, (y9.2.2.2.1, y9.2.2.2.2.1, y9.2.2.2.2.2)))))) (
          Option.bind (ref1_reader_item_0da_j15 r_ref1_reader_item_0da (((), a1, a2, a3, (), a4, a5, a6), ((a7, a8, ()), a9, (a10, a11, a12)))) fun y10 =>
          match y10 with
          | (.inl y11) =>
            some (.inl (((), y11.1.2.1, y11.1.2.2.1, y11.1.2.2.2.1, y11.1.2.2.2.2.1, (), y11.1.2.2.2.2.2.2.1, y11.1.2.2.2.2.2.2.2.1, y11.1.2.2.2.2.2.2.2.2), ((y11.2.1.1, y11.2.1.2.1, ()), y11.2.2.1, (y11.2.2.2.1, y11.2.2.2.2.1, y11.2.2.2.2.2))))
          | (.inr y12) =>
            some (.inr (((), y12.1.2.1, y12.1.2.2.1, y12.1.2.2.2.1, (), y12.1.2.2.2.2.2.1, y12.1.2.2.2.2.2.2.1, y12.1.2.2.2.2.2.2.2), ((y12.2.1.1, y12.2.1.2.1, ()), y12.2.2.1, (y12.2.2.2.1, y12.2.2.2.2.1, y12.2.2.2.2.2)))))))
noncomputable def ref1_reader_item_0da_l27 (r_ref1_reader_item_0da : Int → Bool → ByteArray → ByteArray → Int → (List PD) → Option (Int × ((ByteArray × Int × Unit) × Unit × List PD))) : ((Unit × Int × Unit × Int × Bool × ByteArray × Int) × ((ByteArray × Int × Unit) × Unit × List PD × (Int × Int × ByteArray))) → Option (((Unit × Int × Unit × Int × Bool × ByteArray × Int) × ((ByteArray × Int × Unit) × Unit × List PD × (Int × Int × ByteArray))) ⊕ ((Int × ((ByteArray × Int × Unit) × Unit × List PD)) ⊕ (Unit × ((ByteArray × Int × Unit) × Unit × List PD)))) := fun s => match s with
  | (((), a1, (), a2, a3, a4, a5), ((a6, a7, ()), (), a8, (a9, a10, a11))) =>
    cond a3 (
      cond (decide (a5 < a2)) (
        cond (a9 == 6) (
          Option.bind (r_ref1_reader_item_0da (IntKind.i64.wrap (a1 + 1)) true a4 a6 a7 a8) fun y1 =>
          cond (y1.1 != 0) (
            some (.inr (.inl (y1.1, ((y1.2.1.1, y1.2.1.2.1, ()), (), y1.2.2.2))))) (
            cond (inRange (((a8.length) : Nat) : Int) (y1.2.2.2.length)) (
              Option.bind (y1.2.2.2[(Int.toNat (((a8.length) : Nat) : Int))]?) fun y2 =>
              Option.bind (PD.intAt .i64 y2 0) fun y3 =>
              Option.bind (PD.intAt .u64 y2 1) fun y4 =>
              Option.bind (PD.strAt y2 2) fun y5 =>
              Option.bind (ref1_Bytes y3 y4 y5) fun y6 =>
              Option.bind (r_ref1_reader_item_0da (IntKind.i64.wrap (a1 + 1)) false (bs []) y1.2.1.1 y1.2.1.2.1 y1.2.2.2) fun y7 =>
              cond (y7.1 != 0) (
                some (.inr (.inl (y7.1, ((y7.2.1.1, y7.2.1.2.1, ()), (), y7.2.2.2))))) (
                some (.inl (((), a1, (), a2, a3, y6, (IntKind.u64.wrap (a5 + 1))), ((y7.2.1.1, y7.2.1.2.1, ()), (), y7.2.2.2, (a9, a10, a11)))))) none)) (
          Option.bind (r_ref1_reader_item_0da (IntKind.i64.wrap (a1 + 1)) false (bs []) a6 a7 a8) fun y8 =>
          cond (y8.1 != 0) (
            some (.inr (.inl (y8.1, ((y8.2.1.1, y8.2.1.2.1, ()), (), y8.2.2.2))))) (
            some (.inl (((), a1, (), a2, a3, a4, (IntKind.u64.wrap (a5 + 1))), ((y8.2.1.1, y8.2.1.2.1, ()), (), y8.2.2.2, (a9, a10, a11))))))) (
        some (.inr (.inr ((), ((a6, a7, ()), (), a8)))))) (
      some (.inr (.inr ((), ((a6, a7, ()), (), a8)))))
noncomputable def ref1_reader_item_0da_j20 (r_ref1_reader_item_0da : Int → Bool → ByteArray → ByteArray → Int → (List PD) → Option (Int × ((ByteArray × Int × Unit) × Unit × List PD))) : ((Unit × Int × Bool × ByteArray × Unit × Int × Bool) × ((ByteArray × Int × Unit) × List PD × (Int × Int × ByteArray))) → Option (Int × ((ByteArray × Int × Unit) × Unit × List PD)) := fun s => match s with
  | (((), a1, a2, a3, (), a4, a5), ((a6, a7, ()), a8, (a9, a10, a11))) =>
    cond (a9 == 4) (
      Option.bind (utf8_ValidString a11) fun y1 =>
      cond (!y1) (
        some (6, ((a6, a7, ()), (), a8))) (
        cond a2 (
          cond (!(strEq a3 (bs []))) (
            Option.bind (ref1_Bytes a9 a10 a11) fun y2 =>
            Option.bind (ref1_less a3 y2) fun y3 =>
            cond (!y3) (
              some (7, ((a6, a7, ()), (), a8))) (
              cond (decide (((a8 ++ [(PD.agg [(.int .i64 a9), (.int .u64 a10), (.str a11)])]).length) * 32 ≤ 140737488355328)) (
                Option.bind (some ((a8 ++ [(PD.agg [(.int .i64 a9), (.int .u64 a10), (.str a11)])]) : List PD)) fun y4 =>
                Option.bind (loopFix (ref1_reader_item_0da_l27 r_ref1_reader_item_0da) (((), a1, (), a4, a5, (bs []), 0), ((a6, a7, ()), (), y4, (a9, a10, a11)))) fun y5 =>
                match y5 with
                | (.inl y6) =>
                  some (y6.1, ((y6.2.1.1, y6.2.1.2.1, ()), (), y6.2.2.2))
                | (.inr y7) =>
                  some (0, ((y7.2.1.1, y7.2.1.2.1, ()), (), y7.2.2.2))) none)) (
            cond (decide (((a8 ++ [(PD.agg [(.int .i64 a9), (.int .u64 a10), (.str a11)])]).length) * 32 ≤ 140737488355328)) (
              Option.bind (some ((a8 ++ [(PD.agg [(.int .i64 a9), (.int .u64 a10), (.str a11)])]) : List PD)) fun y8 =>
              Option.bind (loopFix (ref1_reader_item_0da_l27 r_ref1_reader_item_0da) (((), a1, (), a4, a5, (bs []), 0), ((a6, a7, ()), (), y8, (a9, a10, a11)))) fun y9 =>
              match y9 with
              | (.inl y10) =>
                some (y10.1, ((y10.2.1.1, y10.2.1.2.1, ()), (), y10.2.2.2))
              | (.inr y11) =>
                some (0, ((y11.2.1.1, y11.2.1.2.1, ()), (), y11.2.2.2))) none)) (
          cond (decide (((a8 ++ [(PD.agg [(.int .i64 a9), (.int .u64 a10), (.str a11)])]).length) * 32 ≤ 140737488355328)) (
            Option.bind (some ((a8 ++ [(PD.agg [(.int .i64 a9), (.int .u64 a10), (.str a11)])]) : List PD)) fun y12 =>
            Option.bind (loopFix (ref1_reader_item_0da_l27 r_ref1_reader_item_0da) (((), a1, (), a4, a5, (bs []), 0), ((a6, a7, ()), (), y12, (a9, a10, a11)))) fun y13 =>
            match y13 with
            | (.inl y14) =>
              some (y14.1, ((y14.2.1.1, y14.2.1.2.1, ()), (), y14.2.2.2))
            | (.inr y15) =>
              some (0, ((y15.2.1.1, y15.2.1.2.1, ()), (), y15.2.2.2))) none))) (
      cond a2 (
        cond (!(strEq a3 (bs []))) (
          Option.bind (ref1_Bytes a9 a10 a11) fun y16 =>
          Option.bind (ref1_less a3 y16) fun y17 =>
          cond (!y17) (
            some (7, ((a6, a7, ()), (), a8))) (
            cond (decide (((a8 ++ [(PD.agg [(.int .i64 a9), (.int .u64 a10), (.str a11)])]).length) * 32 ≤ 140737488355328)) (
              Option.bind (some ((a8 ++ [(PD.agg [(.int .i64 a9), (.int .u64 a10), (.str a11)])]) : List PD)) fun y18 =>
              Option.bind (loopFix (ref1_reader_item_0da_l27 r_ref1_reader_item_0da) (((), a1, (), a4, a5, (bs []), 0), ((a6, a7, ()), (), y18, (a9, a10, a11)))) fun y19 =>
              match y19 with
              | (.inl y20) =>
                some (y20.1, ((y20.2.1.1, y20.2.1.2.1, ()), (), y20.2.2.2))
              | (.inr y21) =>
                some (0, ((y21.2.1.1, y21.2.1.2.1, ()), (), y21.2.2.2))) none)) (
          cond (decide (((a8 ++ [(PD.agg [(.int .i64 a9), (.int .u64 a10), (.str a11)])]).length) * 32 ≤ 140737488355328)) (
            Option.bind (some ((a8 ++ [(PD.agg [(.int .i64 a9), (.int .u64 a10), (.str a11)])]) : List PD)) fun y22 =>
            Option.bind (loopFix (ref1_reader_item_0da_l27 r_ref1_reader_item_0da) (((), a1, (), a4, a5, (bs []), 0), ((a6, a7, ()), (), y22, (a9, a10, a11)))) fun y23 =>
            match y23 with
            | (.inl y24) =>
              some (y24.1, ((y24.2.1.1, y24.2.1.2.1, ()), (), y24.2.2.2))
            | (.inr y25) =>
              some (0, ((y25.2.1.1, y25.2.1.2.1, ()), (), y25.2.2.2))) none)) (
        cond (decide (((a8 ++ [(PD.agg [(.int .i64 a9), (.int .u64 a10), (.str a11)])]).length) * 32 ≤ 140737488355328)) (
          Option.bind (some ((a8 ++ [(PD.agg [(.int .i64 a9), (.int .u64 a10), (.str a11)])]) : List PD)) fun y26 =>
          Option.bind (loopFix (ref1_reader_item_0da_l27 r_ref1_reader_item_0da) (((), a1, (), a4, a5, (bs []), 0), ((a6, a7, ()), (), y26, (a9, a10, a11)))) fun y27 =>
          match y27 with
          | (.inl y28) =>
            some (y28.1, ((y28.2.1.1, y28.2.1.2.1, ()), (), y28.2.2.2))
          | (.inr y29) =>
            some (0, ((y29.2.1.1, y29.2.1.2.1, ()), (), y29.2.2.2))) none))
noncomputable def ref1_reader_item_0da_j7 (r_ref1_reader_item_0da : Int → Bool → ByteArray → ByteArray → Int → (List PD) → Option (Int × ((ByteArray × Int × Unit) × Unit × List PD))) : ((Unit × Int × Bool × ByteArray × Unit × Int × Bool × Bool) × ((ByteArray × Int × Unit) × List PD × (Int × Int × ByteArray))) → Option (Int × ((ByteArray × Int × Unit) × Unit × List PD)) := fun s => match s with
  | (((), a1, a2, a3, (), a4, a5, a6), ((a7, a8, ()), a9, (a10, a11, a12))) =>
    cond (decide ((((a9.length) : Nat) : Int) ≥ 512)) (
      some (8, ((a7, a8, ()), (), a9))) (
      cond a2 (
        Option.bind (ref1_isKey a10) fun y1 =>
        cond (!y1) (
          some (3, ((a7, a8, ()), (), a9))) (
          Option.bind (ref1_reader_item_0da_j11 r_ref1_reader_item_0da (((), a1, a2, a3, (), a4, a5, a6), ((a7, a8, ()), a9, (a10, a11, a12)))) fun y2 =>
          match y2 with
          | (.inl y3) =>
            some (y3.1.2.2.2.2.1, ((y3.2.1.1, y3.2.1.2.1, ()), (), y3.2.2.1))
          | (.inr y4) =>
            cond y4.1.2.2.2.2.2.2.1 (
              Option.bind (some ((IntKind.i64.wrap (y4.2.1.2.1 + (IntKind.i64.wrap y4.1.2.2.2.2.2.1))) : Int)) fun y5 =>
              cond (okBounds y4.2.1.2.1 y5 (y4.2.1.1.size)) (
                Option.bind (some ((ByteArray.extract y4.2.1.1 (Int.toNat y4.2.1.2.1) (Int.toNat y5)) : ByteArray)) fun y6 =>
                Option.bind (some ((IntKind.i64.wrap (y4.2.1.2.1 + (IntKind.i64.wrap y4.1.2.2.2.2.2.1))) : Int)) fun y7 =>
                Option.bind (ref1_reader_item_0da_j20 r_ref1_reader_item_0da (((), y4.1.2.1, y4.1.2.2.1, y4.1.2.2.2.1, (), y4.1.2.2.2.2.2.1, y4.1.2.2.2.2.2.2.2), ((y4.2.1.1, y7, ()), y4.2.2.1, (y4.2.2.2.1, 0, y6)))) fun y8 =>
                some (y8.1, ((y8.2.1.1, y8.2.1.2.1, ()), (), y8.2.2.2))) none) (
              Option.bind (ref1_reader_item_0da_j20 r_ref1_reader_item_0da (((), y4.1.2.1, y4.1.2.2.1, y4.1.2.2.2.1, (), y4.1.2.2.2.2.2.1, y4.1.2.2.2.2.2.2.2), ((y4.2.1.1, y4.2.1.2.1, ()), y4.2.2.1, (y4.2.2.2.1, y4.2.2.2.2.1, y4.2.2.2.2.2)))) fun y9 =>
              some (y9.1, ((y9.2.1.1, y9.2.1.2.1, ()), (), y9.2.2.2))))) (
        Option.bind (ref1_reader_item_0da_j11 r_ref1_reader_item_0da (((), a1, a2, a3, (), a4, a5, a6), ((a7, a8, ()), a9, (a10, a11, a12)))) fun y10 =>
        match y10 with
        | (.inl y11) =>
          some (y11.1.2.2.2.2.1, ((y11.2.1.1, y11.2.1.2.1, ()), (), y11.2.2.1))
        | (.inr y12) =>
          cond y12.1.2.2.2.2.2.2.1 (
            Option.bind (some ((IntKind.i64.wrap (y12.2.1.2.1 + (IntKind.i64.wrap y12.1.2.2.2.2.2.1))) : Int)) fun y13 =>
            cond (okBounds y12.2.1.2.1 y13 (y12.2.1.1.size)) (
              Option.bind (some ((ByteArray.extract y12.2.1.1 (Int.toNat y12.2.1.2.1) (Int.toNat y13)) : ByteArray)) fun y14 =>
              Option.bind (some ((IntKind.i64.wrap (y12.2.1.2.1 + (IntKind.i64.wrap y12.1.2.2.2.2.2.1))) : Int)) fun y15 =>
              Option.bind (ref1_reader_item_0da_j20 r_ref1_reader_item_0da (((), y12.1.2.1, y12.1.2.2.1, y12.1.2.2.2.1, (), y12.1.2.2.2.2.2.1, y12.1.2.2.2.2.2.2.2), ((y12.2.1.1, y15, ()), y12.2.2.1, (y12.2.2.2.1, 0, y14)))) fun y16 =>
              some (y16.1, ((y16.2.1.1, y16.2.1.2.1, ()), (), y16.2.2.2))) none) (
            Option.bind (ref1_reader_item_0da_j20 r_ref1_reader_item_0da (((), y12.1.2.1, y12.1.2.2.1, y12.1.2.2.2.1, (), y12.1.2.2.2.2.2.1, y12.1.2.2.2.2.2.2.2), ((y12.2.1.1, y12.2.1.2.1, ()), y12.2.2.1, (y12.2.2.2.1, y12.2.2.2.2.1, y12.2.2.2.2.2)))) fun y17 =>
            some (y17.1, ((y17.2.1.1, y17.2.1.2.1, ()), (), y17.2.2.2)))))
noncomputable def ref1_reader_item_0da_j6 (r_ref1_reader_item_0da : Int → Bool → ByteArray → ByteArray → Int → (List PD) → Option (Int × ((ByteArray × Int × Unit) × Unit × List PD))) : ((Unit × Int × Bool × ByteArray × Unit × Int × Bool) × ((ByteArray × Int × Unit) × List PD × (Int × Int × ByteArray))) → Option (Int × ((ByteArray × Int × Unit) × Unit × List PD)) := fun s => match s with
  | (((), a1, a2, a3, (), a4, a5), ((a6, a7, ()), a8, (a9, a10, a11))) =>
    cond (a9 == 5) (
      Option.bind (ref1_reader_item_0da_j7 r_ref1_reader_item_0da (((), a1, a2, a3, (), a4, a5, true), ((a6, a7, ()), a8, (a9, a10, a11)))) fun y1 =>
      some (y1.1, ((y1.2.1.1, y1.2.1.2.1, ()), (), y1.2.2.2))) (
      Option.bind (ref1_reader_item_0da_j7 r_ref1_reader_item_0da (((), a1, a2, a3, (), a4, a5, (a9 == 6)), ((a6, a7, ()), a8, (a9, a10, a11)))) fun y2 =>
      some (y2.1, ((y2.2.1.1, y2.2.1.2.1, ()), (), y2.2.2.2)))
noncomputable def ref1_reader_item_0da_F (r_ref1_reader_item_0da : Int → Bool → ByteArray → ByteArray → Int → (List PD) → Option (Int × ((ByteArray × Int × Unit) × Unit × List PD))) (a1 : Int) (a2 : Bool) (a3 : ByteArray) (a4 : ByteArray) (a5 : Int) (a6 : List PD) : Option (Int × ((ByteArray × Int × Unit) × Unit × List PD)) :=
  Option.bind (ref1_reader_head_c23 a4 a5 a6) fun y1 =>
  cond (y1.1.2 != 0) (
    some (y1.1.2, ((y1.2.1.1, y1.2.1.2.1, ()), (), y1.2.2))) (
    cond (y1.1.1.1 == 3) (
      Option.bind (ref1_reader_item_0da_j6 r_ref1_reader_item_0da (((), a1, a2, a3, (), y1.1.1.2.1, true), ((y1.2.1.1, y1.2.1.2.1, ()), y1.2.2, (y1.1.1.1, y1.1.1.2.1, y1.1.1.2.2)))) fun y2 =>
      some (y2.1, ((y2.2.1.1, y2.2.1.2.1, ()), (), y2.2.2.2))) (
      Option.bind (ref1_reader_item_0da_j6 r_ref1_reader_item_0da (((), a1, a2, a3, (), y1.1.1.2.1, (y1.1.1.1 == 4)), ((y1.2.1.1, y1.2.1.2.1, ()), y1.2.2, (y1.1.1.1, y1.1.1.2.1, y1.1.1.2.2)))) fun y3 =>
      some (y3.1, ((y3.2.1.1, y3.2.1.2.1, ()), (), y3.2.2.2))))
noncomputable def ref1_reader_item_0da_n : Nat → Int → Bool → ByteArray → ByteArray → Int → (List PD) → Option (Int × ((ByteArray × Int × Unit) × Unit × List PD))
  | 0 => fun _ _ _ _ _ _ => none
  | n + 1 => ref1_reader_item_0da_F (ref1_reader_item_0da_n n)
noncomputable def ref1_reader_item_0da (a1 : Int) (a2 : Bool) (a3 : ByteArray) (a4 : ByteArray) (a5 : Int) (a6 : List PD) : Option (Int × ((ByteArray × Int × Unit) × Unit × List PD)) := ref1_reader_item_0da_n 40 a1 a2 a3 a4 a5 a6

/-! ref1_Decode: passkey/passkeyref1.Decode -/
noncomputable def ref1_Decode_j2 : (Unit × ((ByteArray × Int × Unit) × List PD)) → Option ((Unit × Int × Int) × List PD) := fun s => match s with
  | ((), ((a1, a2, ()), a3)) =>
    Option.bind (ref1_reader_item_0da 0 false (bs []) a1 a2 a3) fun y1 =>
    cond (y1.1 != 0) (
      some (((), 0, y1.1), [])) (
      some (((), y1.2.1.2.1, 0), y1.2.2.2))
noncomputable def ref1_Decode (a1 : List Int) : Option ((Unit × Int × Int) × List PD) :=
  Option.bind (ref1_Decode_j2 ((), (((strOf a1), 0, ()), []))) fun y1 =>
  some (((), y1.1.2.1, y1.1.2.2), y1.2)

/-! ref14_small: passkey/passkeyref14.small -/
noncomputable def ref14_small (a1 : Int) : Option Int :=
  Option.bind (some ((IntKind.i64.wrap (if 1048576 < a1 then 1048576 else a1)) : Int)) fun y1 =>
  some y1

/-! ref14_read: passkey/passkeyref14.read -/
noncomputable def ref14_read_j3 : (Unit × (ByteArray × ByteArray × ByteArray × Int × Int × Bool × Int × Bool × Bool)) → Option ((Unit × Int × Bool) × (ByteArray × ByteArray × ByteArray × Int × Int × Bool × Int × Bool × Bool)) := fun s => match s with
  | ((), (a1, a2, a3, a4, a5, a6, a7, a8, a9)) =>
    some (((), 0, false), ((bs []), (bs []), (bs []), 0, 0, false, 0, false, false))
noncomputable def ref14_read (a1 : List Int) : Option ((ByteArray × ByteArray × ByteArray × Int × Int × Bool × Int × Bool × Bool) × Int × Bool) :=
  Option.bind (ref1_Decode a1) fun y1 =>
  cond (y1.1.2.2 != 0) (
    Option.bind (ref14_read_j3 ((), ((bs []), (bs []), (bs []), 0, 0, false, 0, false, false))) fun y2 =>
    some ((y2.2.1, y2.2.2.1, y2.2.2.2.1, y2.2.2.2.2.1, y2.2.2.2.2.2.1, y2.2.2.2.2.2.2.1, y2.2.2.2.2.2.2.2.1, y2.2.2.2.2.2.2.2.2.1, y2.2.2.2.2.2.2.2.2.2), y2.1.2.1, y2.1.2.2)) (
    cond ((((y1.2.length) : Nat) : Int) != 19) (
      Option.bind (ref14_read_j3 ((), ((bs []), (bs []), (bs []), 0, 0, false, 0, false, false))) fun y3 =>
      some ((y3.2.1, y3.2.2.1, y3.2.2.2.1, y3.2.2.2.2.1, y3.2.2.2.2.2.1, y3.2.2.2.2.2.2.1, y3.2.2.2.2.2.2.2.1, y3.2.2.2.2.2.2.2.2.1, y3.2.2.2.2.2.2.2.2.2), y3.1.2.1, y3.1.2.2)) (
      cond (inRange 2 (y1.2.length)) (
        Option.bind (y1.2[2]?) fun y4 =>
        Option.bind (PD.strAt y4 2) fun y5 =>
        cond (inRange 4 (y1.2.length)) (
          Option.bind (y1.2[4]?) fun y6 =>
          Option.bind (PD.strAt y6 2) fun y7 =>
          cond (inRange 6 (y1.2.length)) (
            Option.bind (y1.2[6]?) fun y8 =>
            Option.bind (PD.strAt y8 2) fun y9 =>
            cond (inRange 8 (y1.2.length)) (
              Option.bind (y1.2[8]?) fun y10 =>
              Option.bind (PD.intAt .u64 y10 1) fun y11 =>
              cond (inRange 10 (y1.2.length)) (
                Option.bind (y1.2[10]?) fun y12 =>
                Option.bind (PD.intAt .u64 y12 1) fun y13 =>
                Option.bind (ref14_small y13) fun y14 =>
                cond (inRange 12 (y1.2.length)) (
                  Option.bind (y1.2[12]?) fun y15 =>
                  Option.bind (PD.intAt .u64 y15 1) fun y16 =>
                  cond (inRange 14 (y1.2.length)) (
                    Option.bind (y1.2[14]?) fun y17 =>
                    Option.bind (PD.intAt .u64 y17 1) fun y18 =>
                    Option.bind (ref14_small y18) fun y19 =>
                    cond (inRange 16 (y1.2.length)) (
                      Option.bind (y1.2[16]?) fun y20 =>
                      Option.bind (PD.intAt .u64 y20 1) fun y21 =>
                      cond (inRange 18 (y1.2.length)) (
                        Option.bind (y1.2[18]?) fun y22 =>
                        Option.bind (PD.intAt .u64 y22 1) fun y23 =>
                        Option.bind (ref14_EncodeCredential y5 y7 y9 y11 y14 (y16 == 1) y19 (y21 == 1) (y23 == 1)) fun y24 =>
                        cond (y24.1.2 == 0) (
                          cond ((okBounds 0 y1.1.2.1 (a1.length)) && ((decide (y1.1.2.1 ≤ (((a1.length) : Nat) : Int))) && (decide ((((a1.length) : Nat) : Int) ≤ (((a1.length) : Nat) : Int))))) (
                            some ((y5, y7, y9, y11, y14, (y16 == 1), y19, (y21 == 1), (y23 == 1)), y1.1.2.1, (strEq (strOf y24.2) (strOf (cut a1 0 y1.1.2.1))))) none) (
                          some ((y5, y7, y9, y11, y14, (y16 == 1), y19, (y21 == 1), (y23 == 1)), y1.1.2.1, false))) none) none) none) none) none) none) none) none) none))

/-! ref14_Unwrap: passkey/passkeyref14.Unwrap -/
noncomputable def ref14_Unwrap_j9B (a1 : ByteArray) (a2 : Bool) (a3 : Int) (a4 : ByteArray) (a5 : ByteArray) (a6 : ByteArray) (a7 : Int) (a8 : Int) (a9 : Bool) (a10 : Int) (a11 : Bool) (a12 : Bool) (a13 : List Int) (a14 : ByteArray) (a15 : ByteArray) (a16 : ByteArray) (a17 : Int) (a18 : Int) (a19 : Bool) (a20 : Int) (a21 : Bool) (a22 : Bool) : Option ((ByteArray × Unit × Unit × Unit × Bool × Int) × ((ByteArray × ByteArray × ByteArray × Int × Int × Bool × Int × Bool × Bool) × List Int × (ByteArray × ByteArray × ByteArray × Int × Int × Bool × Int × Bool × Bool))) :=
  some ((a1, (), (), (), a2, (IntKind.i64.wrap (a3 + 1))), ((a4, a5, a6, a7, a8, a9, a10, a11, a12), a13, (a14, a15, a16, a17, a18, a19, a20, a21, a22)))
noncomputable def ref14_Unwrap_j9 : ((ByteArray × Unit × Unit × Unit × Bool × Int) × ((ByteArray × ByteArray × ByteArray × Int × Int × Bool × Int × Bool × Bool) × List Int × (ByteArray × ByteArray × ByteArray × Int × Int × Bool × Int × Bool × Bool))) → Option ((ByteArray × Unit × Unit × Unit × Bool × Int) × ((ByteArray × ByteArray × ByteArray × Int × Int × Bool × Int × Bool × Bool) × List Int × (ByteArray × ByteArray × ByteArray × Int × Int × Bool × Int × Bool × Bool))) := fun s => ref14_Unwrap_j9B s.1.1 s.1.2.2.2.2.1 s.1.2.2.2.2.2 s.2.1.1 s.2.1.2.1 s.2.1.2.2.1 s.2.1.2.2.2.1 s.2.1.2.2.2.2.1 s.2.1.2.2.2.2.2.1 s.2.1.2.2.2.2.2.2.1 s.2.1.2.2.2.2.2.2.2.1 s.2.1.2.2.2.2.2.2.2.2 s.2.2.1 s.2.2.2.1 s.2.2.2.2.1 s.2.2.2.2.2.1 s.2.2.2.2.2.2.1 s.2.2.2.2.2.2.2.1 s.2.2.2.2.2.2.2.2.1 s.2.2.2.2.2.2.2.2.2.1 s.2.2.2.2.2.2.2.2.2.2.1 s.2.2.2.2.2.2.2.2.2.2.2
noncomputable def ref14_Unwrap_l8B (a1 : ByteArray) (a2 : Bool) (a3 : Int) (a4 : ByteArray) (a5 : ByteArray) (a6 : ByteArray) (a7 : Int) (a8 : Int) (a9 : Bool) (a10 : Int) (a11 : Bool) (a12 : Bool) (a13 : List Int) (a14 : ByteArray) (a15 : ByteArray) (a16 : ByteArray) (a17 : Int) (a18 : Int) (a19 : Bool) (a20 : Int) (a21 : Bool) (a22 : Bool) : Option (((ByteArray × Unit × Unit × Unit × Bool × Int) × ((ByteArray × ByteArray × ByteArray × Int × Int × Bool × Int × Bool × Bool) × List Int × (ByteArray × ByteArray × ByteArray × Int × Int × Bool × Int × Bool × Bool))) ⊕ ((ByteArray × Unit × Unit × Bool) × ((ByteArray × ByteArray × ByteArray × Int × Int × Bool × Int × Bool × Bool) × (ByteArray × ByteArray × ByteArray × Int × Int × Bool × Int × Bool × Bool)))) :=
  cond (decide (a3 < (((a13.length) : Nat) : Int))) (
    cond a2 (
      cond (inRange a3 (a13.length)) (
        Option.bind (a13[(Int.toNat a3)]?) fun y1 =>
        Option.bind (ref14_Unwrap_j9 ((a1, (), (), (), (y1 == 0), a3), ((a4, a5, a6, a7, a8, a9, a10, a11, a12), a13, (a14, a15, a16, a17, a18, a19, a20, a21, a22)))) fun y2 =>
        some (.inl ((y2.1.1, (), (), (), y2.1.2.2.2.2.1, y2.1.2.2.2.2.2), ((y2.2.1.1, y2.2.1.2.1, y2.2.1.2.2.1, y2.2.1.2.2.2.1, y2.2.1.2.2.2.2.1, y2.2.1.2.2.2.2.2.1, y2.2.1.2.2.2.2.2.2.1, y2.2.1.2.2.2.2.2.2.2.1, y2.2.1.2.2.2.2.2.2.2.2), y2.2.2.1, (y2.2.2.2.1, y2.2.2.2.2.1, y2.2.2.2.2.2.1, y2.2.2.2.2.2.2.1, y2.2.2.2.2.2.2.2.1, y2.2.2.2.2.2.2.2.2.1, y2.2.2.2.2.2.2.2.2.2.1, y2.2.2.2.2.2.2.2.2.2.2.1, y2.2.2.2.2.2.2.2.2.2.2.2))))) none) (
      Option.bind (ref14_Unwrap_j9 ((a1, (), (), (), false, a3), ((a4, a5, a6, a7, a8, a9, a10, a11, a12), a13, (a14, a15, a16, a17, a18, a19, a20, a21, a22)))) fun y3 =>
      some (.inl ((y3.1.1, (), (), (), y3.1.2.2.2.2.1, y3.1.2.2.2.2.2), ((y3.2.1.1, y3.2.1.2.1, y3.2.1.2.2.1, y3.2.1.2.2.2.1, y3.2.1.2.2.2.2.1, y3.2.1.2.2.2.2.2.1, y3.2.1.2.2.2.2.2.2.1, y3.2.1.2.2.2.2.2.2.2.1, y3.2.1.2.2.2.2.2.2.2.2), y3.2.2.1, (y3.2.2.2.1, y3.2.2.2.2.1, y3.2.2.2.2.2.1, y3.2.2.2.2.2.2.1, y3.2.2.2.2.2.2.2.1, y3.2.2.2.2.2.2.2.2.1, y3.2.2.2.2.2.2.2.2.2.1, y3.2.2.2.2.2.2.2.2.2.2.1, y3.2.2.2.2.2.2.2.2.2.2.2)))))) (
    some (.inr ((a1, (), (), a2), ((a4, a5, a6, a7, a8, a9, a10, a11, a12), (a14, a15, a16, a17, a18, a19, a20, a21, a22)))))
noncomputable def ref14_Unwrap_l8 : ((ByteArray × Unit × Unit × Unit × Bool × Int) × ((ByteArray × ByteArray × ByteArray × Int × Int × Bool × Int × Bool × Bool) × List Int × (ByteArray × ByteArray × ByteArray × Int × Int × Bool × Int × Bool × Bool))) → Option (((ByteArray × Unit × Unit × Unit × Bool × Int) × ((ByteArray × ByteArray × ByteArray × Int × Int × Bool × Int × Bool × Bool) × List Int × (ByteArray × ByteArray × ByteArray × Int × Int × Bool × Int × Bool × Bool))) ⊕ ((ByteArray × Unit × Unit × Bool) × ((ByteArray × ByteArray × ByteArray × Int × Int × Bool × Int × Bool × Bool) × (ByteArray × ByteArray × ByteArray × Int × Int × Bool × Int × Bool × Bool)))) := fun s => ref14_Unwrap_l8B s.1.1 s.1.2.2.2.2.1 s.1.2.2.2.2.2 s.2.1.1 s.2.1.2.1 s.2.1.2.2.1 s.2.1.2.2.2.1 s.2.1.2.2.2.2.1 s.2.1.2.2.2.2.2.1 s.2.1.2.2.2.2.2.2.1 s.2.1.2.2.2.2.2.2.2.1 s.2.1.2.2.2.2.2.2.2.2 s.2.2.1 s.2.2.2.1 s.2.2.2.2.1 s.2.2.2.2.2.1 s.2.2.2.2.2.2.1 s.2.2.2.2.2.2.2.1 s.2.2.2.2.2.2.2.2.1 s.2.2.2.2.2.2.2.2.2.1 s.2.2.2.2.2.2.2.2.2.2.1 s.2.2.2.2.2.2.2.2.2.2.2
noncomputable def ref14_Unwrap (a1 : Int) (a2 : ByteArray) (a3 : List Int) : Option ((ByteArray × ByteArray × ByteArray × Int × Int × Bool × Int × Bool × Bool) × Int) :=
  cond ((((a3.length) : Nat) : Int) != 176) (
    some (((bs []), (bs []), (bs []), 0, 0, false, 0, false, false), 4)) (
    Option.bind (ref14_wrapKey a1) fun y1 =>
    Option.bind (ref14_RPHash a2) fun y2 =>
    Option.bind (ref1_Words [y2]) fun y3 =>
    Option.bind (ref3_Open y1 y3.2 a3) fun y4 =>
    cond (y4.1.2 != 0) (
      some (((bs []), (bs []), (bs []), 0, 0, false, 0, false, false), y4.1.2)) (
      Option.bind (ref14_read y4.2) fun y5 =>
      Option.bind (loopFix ref14_Unwrap_l8 ((a2, (), (), (), y5.2.2, y5.2.1), (((bs []), (bs []), (bs []), 0, 0, false, 0, false, false), y4.2, (y5.1.1, y5.1.2.1, y5.1.2.2.1, y5.1.2.2.2.1, y5.1.2.2.2.2.1, y5.1.2.2.2.2.2.1, y5.1.2.2.2.2.2.2.1, y5.1.2.2.2.2.2.2.2.1, y5.1.2.2.2.2.2.2.2.2)))) fun y6 =>
      cond (!y6.1.2.2.2) (
        some (((bs []), (bs []), (bs []), 0, 0, false, 0, false, false), 2)) (
        cond y6.2.2.2.2.2.2.2.1 (
          some (((bs []), (bs []), (bs []), 0, 0, false, 0, false, false), 11)) (
          cond (!(strEq y6.2.2.1 y6.1.1)) (
            some (((bs []), (bs []), (bs []), 0, 0, false, 0, false, false), 11)) (
            some ((y6.2.2.1, y6.2.2.2.1, y6.2.2.2.2.1, y6.2.2.2.2.2.1, y6.2.2.2.2.2.2.1, y6.2.2.2.2.2.2.2.1, y6.2.2.2.2.2.2.2.2.1, y6.2.2.2.2.2.2.2.2.2.1, y6.2.2.2.2.2.2.2.2.2.2), 0))))))

/-! law15_unwraps: passkey/passkeylaw15.unwraps -/
noncomputable def law15_unwraps (a1 : Int) (a2 : ByteArray) (a3 : List Int) : Option Bool :=
  Option.bind (credential_Unwrap a1 a2 a3) fun y1 =>
  Option.bind (ref14_Unwrap a1 a2 a3) fun y2 =>
  cond (y1.2 == y2.2) (
    Option.bind (some (((strEq y1.1.1 y2.1.1) && ((strEq y1.1.2.1 y2.1.2.1) && ((strEq y1.1.2.2.1 y2.1.2.2.1) && ((y1.1.2.2.2.1 == y2.1.2.2.2.1) && ((y1.1.2.2.2.2.1 == y2.1.2.2.2.2.1) && ((y1.1.2.2.2.2.2.1 == y2.1.2.2.2.2.2.1) && ((y1.1.2.2.2.2.2.2.1 == y2.1.2.2.2.2.2.2.1) && ((y1.1.2.2.2.2.2.2.2.1 == y2.1.2.2.2.2.2.2.2.1) && ((y1.1.2.2.2.2.2.2.2.2 == y2.1.2.2.2.2.2.2.2.2) && true))))))))) : Bool)) fun y3 =>
    some y3) (
    some false)

/-! law15_CredentialUnwraps: passkey/passkeylaw15.CredentialUnwraps -/
noncomputable def law15_CredentialUnwraps_j13 : ((Int × Int × Int × List Int × Unit × Unit × Unit × Unit) × ((ByteArray × ByteArray × ByteArray × Int × Int × Bool × Int × Bool × Bool) × List Int × List Int × List Int)) → Option Bool := fun s => match s with
  | ((a1, a2, a3, a4, (), (), (), ()), ((a5, a6, a7, a8, a9, a10, a11, a12, a13), a14, a15, a16)) =>
    Option.bind (ref1_Derive a1 (bs [119, 114, 97, 112]) 0) fun y1 =>
    Option.bind (ref14_RPHash a5) fun y2 =>
    Option.bind (ref1_Words [y2]) fun y3 =>
    Option.bind (ref3_Seal y1 a2 y3.2 a16) fun y4 =>
    Option.bind (law15_unwraps a1 a5 a14) fun y5 =>
    cond y5 (
      Option.bind (law15_unwraps a1 a5 a15) fun y6 =>
      cond y6 (
        Option.bind (law15_unwraps a1 a5 a4) fun y7 =>
        cond y7 (
          Option.bind (law15_unwraps (IntKind.u64.wrap (a1 + 1)) a5 a14) fun y8 =>
          cond y8 (
            Option.bind (base_RP a3) fun y9 =>
            Option.bind (law15_unwraps a1 y9 a14) fun y10 =>
            cond y10 (
              Option.bind (law15_unwraps a1 a5 y4.2) fun y11 =>
              cond y11 (
                Option.bind law15_awake fun y12 =>
                some y12) (
                some false)) (
              some false)) (
            some false)) (
          some false)) (
        some false)) (
      some false)
noncomputable def law15_CredentialUnwraps (a1 : Int) (a2 : Int) (a3 : Int) (a4 : Int) (a5 : Int) (a6 : Int) (a7 : List Int) : Option Bool :=
  cond (decide ((((a7.length) : Nat) : Int) > 400)) (
    Option.bind law15_awake fun y1 =>
    some y1) (
    Option.bind (base_Credential (bitsI .and .i64 a3 1048575)) fun y2 =>
    Option.bind (ref14_ID a1 a2 y2.1 y2.2.1 y2.2.2.1 y2.2.2.2.1 y2.2.2.2.2.1 y2.2.2.2.2.2.1 y2.2.2.2.2.2.2.1 y2.2.2.2.2.2.2.2.1 y2.2.2.2.2.2.2.2.2) fun y3 =>
    cond (decide ((y3.2.length) * 1 ≤ 140737488355328)) (
      cond ((((y3.2.length) : Nat) : Int) != 0) (
        Option.bind (some ((Int.tmod (bitsI .and .i64 a5 65535) (((y3.2.length) : Nat) : Int)) : Int)) fun y4 =>
        cond (inRange y4 (y3.2.length)) (
          Option.bind (y3.2[(Int.toNat y4)]?) fun y5 =>
          cond (inRange y4 (y3.2.length)) (
            cond (decide ((Int.toNat y4) < (y3.2.length))) (
              Option.bind (some ((y3.2.set (Int.toNat y4) (bitsI .xor .u8 y5 a6)) : List Int)) fun y6 =>
              Option.bind (base_Credential (bitsI .and .i64 a4 1048575)) fun y7 =>
              Option.bind (ref14_EncodeCredential y7.1 y7.2.1 y7.2.2.1 y7.2.2.2.1 y7.2.2.2.2.1 y7.2.2.2.2.2.1 y7.2.2.2.2.2.2.1 y7.2.2.2.2.2.2.2.1 y7.2.2.2.2.2.2.2.2) fun y8 =>
              Option.bind (some ((((min (y8.2.length) ((List.replicate 160 (0 : Int)).length)) : Nat) : Int) : Int)) fun y9 =>
              Option.bind (some (((cut y8.2 0 (((min (y8.2.length) ((List.replicate 160 (0 : Int)).length)) : Nat) : Int)) ++ (cut (List.replicate 160 (0 : Int)) (((min (y8.2.length) ((List.replicate 160 (0 : Int)).length)) : Nat) : Int) ((((List.replicate 160 (0 : Int)).length) : Nat) : Int))) : List Int)) fun y10 =>
              cond ((bitsI .and .i64 (shrI .i64 a4 20) 3) == 0) (
                cond ((((y10.length) : Nat) : Int) != 0) (
                  Option.bind (some ((Int.tmod (bitsI .and .i64 a5 65535) (((y10.length) : Nat) : Int)) : Int)) fun y11 =>
                  cond (inRange y11 (y10.length)) (
                    Option.bind (y10[(Int.toNat y11)]?) fun y12 =>
                    cond (inRange y11 (y10.length)) (
                      cond (decide ((Int.toNat y11) < (y10.length))) (
                        Option.bind (some ((y10.set (Int.toNat y11) (bitsI .xor .u8 y12 a6)) : List Int)) fun y13 =>
                        Option.bind (law15_CredentialUnwraps_j13 ((a1, a2, a4, a7, (), (), (), ()), ((y2.1, y2.2.1, y2.2.2.1, y2.2.2.2.1, y2.2.2.2.2.1, y2.2.2.2.2.2.1, y2.2.2.2.2.2.2.1, y2.2.2.2.2.2.2.2.1, y2.2.2.2.2.2.2.2.2), y3.2, y6, y13))) fun y14 =>
                        some y14) none) none) none) none) (
                Option.bind (law15_CredentialUnwraps_j13 ((a1, a2, a4, a7, (), (), (), ()), ((y2.1, y2.2.1, y2.2.2.1, y2.2.2.2.1, y2.2.2.2.2.1, y2.2.2.2.2.2.1, y2.2.2.2.2.2.2.1, y2.2.2.2.2.2.2.2.1, y2.2.2.2.2.2.2.2.2), y3.2, y6, y10))) fun y15 =>
                some y15)) none) none) none) none) none)

/-! law15_CredentialBack: passkey/passkeylaw15.CredentialBack -/
noncomputable def law15_CredentialBack (a1 : Int) (a2 : Int) (a3 : Int) : Option Bool :=
  Option.bind (base_Credential (bitsI .and .i64 a3 1048575)) fun y1 =>
  Option.bind (credential_ID a1 a2 y1.1 y1.2.1 y1.2.2.1 y1.2.2.2.1 y1.2.2.2.2.1 y1.2.2.2.2.2.1 y1.2.2.2.2.2.2.1 y1.2.2.2.2.2.2.2.1 y1.2.2.2.2.2.2.2.2) fun y2 =>
  cond (y2.1.2 != 0) (
    some false) (
    cond ((((y2.2.length) : Nat) : Int) != 176) (
      some false) (
      cond y1.2.2.2.2.2.1 (
        Option.bind (credential_ID (IntKind.u64.wrap (a1 + 1)) (IntKind.u64.wrap (a2 + 1)) y1.1 y1.2.1 y1.2.2.1 y1.2.2.2.1 y1.2.2.2.2.1 y1.2.2.2.2.2.1 y1.2.2.2.2.2.2.1 y1.2.2.2.2.2.2.2.1 y1.2.2.2.2.2.2.2.2) fun y3 =>
        cond (y3.1.2 == 0) (
          cond (strEq (strOf y2.2) (strOf y3.2)) (
            Option.bind law15_awake fun y4 =>
            some y4) (
            some false)) (
          some false)) (
        Option.bind (credential_Unwrap a1 y1.1 y2.2) fun y5 =>
        cond (y5.2 == 0) (
          Option.bind (some (((strEq y1.1 y5.1.1) && ((strEq y1.2.1 y5.1.2.1) && ((strEq y1.2.2.1 y5.1.2.2.1) && ((y1.2.2.2.1 == y5.1.2.2.2.1) && ((y1.2.2.2.2.1 == y5.1.2.2.2.2.1) && ((y1.2.2.2.2.2.1 == y5.1.2.2.2.2.2.1) && ((y1.2.2.2.2.2.2.1 == y5.1.2.2.2.2.2.2.1) && ((y1.2.2.2.2.2.2.2.1 == y5.1.2.2.2.2.2.2.2.1) && ((y1.2.2.2.2.2.2.2.2 == y5.1.2.2.2.2.2.2.2.2) && true))))))))) : Bool)) fun y6 =>
          cond y6 (
            Option.bind law15_awake fun y7 =>
            some y7) (
            some false)) (
          some false))))

/-! credential_Tag: passkey/credential.Tag -/
noncomputable def credential_Tag (a1 : List Int) : Option Int :=
  Option.bind (digest_Hash 10 a1) fun y1 =>
  some y1

/-! ref14_Tag: passkey/passkeyref14.Tag -/
noncomputable def ref14_Tag (a1 : List Int) : Option Int :=
  Option.bind (ref1_Hash 10 a1) fun y1 =>
  some y1

/-! law15_CredentialIDs: passkey/passkeylaw15.CredentialIDs -/
noncomputable def law15_CredentialIDs (a1 : Int) (a2 : Int) (a3 : Int) (a4 : Int) (a5 : List Int) : Option Bool :=
  cond (decide ((((a5.length) : Nat) : Int) > 400)) (
    Option.bind law15_awake fun y1 =>
    some y1) (
    Option.bind (base_Credential (bitsI .and .i64 a3 1048575)) fun y2 =>
    Option.bind (law15_spoil y2.1 y2.2.1 y2.2.2.1 y2.2.2.2.1 y2.2.2.2.2.1 y2.2.2.2.2.2.1 y2.2.2.2.2.2.2.1 y2.2.2.2.2.2.2.2.1 y2.2.2.2.2.2.2.2.2 a4) fun y3 =>
    Option.bind (credential_ID a1 a2 y3.1 y3.2.1 y3.2.2.1 y3.2.2.2.1 y3.2.2.2.2.1 y3.2.2.2.2.2.1 y3.2.2.2.2.2.2.1 y3.2.2.2.2.2.2.2.1 y3.2.2.2.2.2.2.2.2) fun y4 =>
    Option.bind (ref14_ID a1 a2 y3.1 y3.2.1 y3.2.2.1 y3.2.2.2.1 y3.2.2.2.2.1 y3.2.2.2.2.2.1 y3.2.2.2.2.2.2.1 y3.2.2.2.2.2.2.2.1 y3.2.2.2.2.2.2.2.2) fun y5 =>
    cond (y4.1.2 == y5.1.2) (
      cond (strEq (strOf y4.2) (strOf y5.2)) (
        Option.bind (credential_Tag a5) fun y6 =>
        Option.bind (ref14_Tag a5) fun y7 =>
        cond (y6 == y7) (
          Option.bind (credential_Tag y4.2) fun y8 =>
          Option.bind (ref14_Tag y5.2) fun y9 =>
          cond (y8 == y9) (
            Option.bind law15_awake fun y10 =>
            some y10) (
            some false)) (
          some false)) (
        some false)) (
      some false))

/-! credential_Decode: passkey/credential.Decode -/
noncomputable def credential_Decode (a1 : List Int) : Option ((ByteArray × ByteArray × ByteArray × Int × Int × Bool × Int × Bool × Bool) × Int) :=
  Option.bind (credential_prefix a1) fun y1 =>
  cond (y1.2.2 != 0) (
    some (((bs []), (bs []), (bs []), 0, 0, false, 0, false, false), 2)) (
    cond (y1.2.1 != (((a1.length) : Nat) : Int)) (
      some (((bs []), (bs []), (bs []), 0, 0, false, 0, false, false), 2)) (
      some ((y1.1.1, y1.1.2.1, y1.1.2.2.1, y1.1.2.2.2.1, y1.1.2.2.2.2.1, y1.1.2.2.2.2.2.1, y1.1.2.2.2.2.2.2.1, y1.1.2.2.2.2.2.2.2.1, y1.1.2.2.2.2.2.2.2.2), 0)))

/-! ref14_DecodeCredential: passkey/passkeyref14.DecodeCredential -/
noncomputable def ref14_DecodeCredential (a1 : List Int) : Option ((ByteArray × ByteArray × ByteArray × Int × Int × Bool × Int × Bool × Bool) × Int) :=
  Option.bind (ref14_read a1) fun y1 =>
  cond (!y1.2.2) (
    some (((bs []), (bs []), (bs []), 0, 0, false, 0, false, false), 2)) (
    cond (y1.2.1 != (((a1.length) : Nat) : Int)) (
      some (((bs []), (bs []), (bs []), 0, 0, false, 0, false, false), 2)) (
      some ((y1.1.1, y1.1.2.1, y1.1.2.2.1, y1.1.2.2.2.1, y1.1.2.2.2.2.1, y1.1.2.2.2.2.2.1, y1.1.2.2.2.2.2.2.1, y1.1.2.2.2.2.2.2.2.1, y1.1.2.2.2.2.2.2.2.2), 0)))

/-! law15_decodes: passkey/passkeylaw15.decodes -/
noncomputable def law15_decodes (a1 : List Int) : Option Bool :=
  Option.bind (credential_Decode a1) fun y1 =>
  Option.bind (ref14_DecodeCredential a1) fun y2 =>
  cond (y1.2 == y2.2) (
    Option.bind (some (((strEq y1.1.1 y2.1.1) && ((strEq y1.1.2.1 y2.1.2.1) && ((strEq y1.1.2.2.1 y2.1.2.2.1) && ((y1.1.2.2.2.1 == y2.1.2.2.2.1) && ((y1.1.2.2.2.2.1 == y2.1.2.2.2.2.1) && ((y1.1.2.2.2.2.2.1 == y2.1.2.2.2.2.2.1) && ((y1.1.2.2.2.2.2.2.1 == y2.1.2.2.2.2.2.2.1) && ((y1.1.2.2.2.2.2.2.2.1 == y2.1.2.2.2.2.2.2.2.1) && ((y1.1.2.2.2.2.2.2.2.2 == y2.1.2.2.2.2.2.2.2.2) && true))))))))) : Bool)) fun y3 =>
    some y3) (
    some false)

/-! law15_CredentialDecodes: passkey/passkeylaw15.CredentialDecodes -/
noncomputable def law15_CredentialDecodes (a1 : List Int) (a2 : Int) (a3 : Int) (a4 : Int) : Option Bool :=
  cond (decide ((((a1.length) : Nat) : Int) > 400)) (
    Option.bind law15_awake fun y1 =>
    some y1) (
    Option.bind (base_Credential (bitsI .and .i64 a2 1048575)) fun y2 =>
    Option.bind (ref14_EncodeCredential y2.1 y2.2.1 y2.2.2.1 y2.2.2.2.1 y2.2.2.2.2.1 y2.2.2.2.2.2.1 y2.2.2.2.2.2.2.1 y2.2.2.2.2.2.2.2.1 y2.2.2.2.2.2.2.2.2) fun y3 =>
    Option.bind (credential_Decode y3.2) fun y4 =>
    cond (y4.2 != 0) (
      some false) (
      Option.bind (some ((!((strEq y4.1.1 y2.1) && ((strEq y4.1.2.1 y2.2.1) && ((strEq y4.1.2.2.1 y2.2.2.1) && ((y4.1.2.2.2.1 == y2.2.2.2.1) && ((y4.1.2.2.2.2.1 == y2.2.2.2.2.1) && ((y4.1.2.2.2.2.2.1 == y2.2.2.2.2.2.1) && ((y4.1.2.2.2.2.2.2.1 == y2.2.2.2.2.2.2.1) && ((y4.1.2.2.2.2.2.2.2.1 == y2.2.2.2.2.2.2.2.1) && ((y4.1.2.2.2.2.2.2.2.2 == y2.2.2.2.2.2.2.2.2) && true)))))))))) : Bool)) fun y5 =>
      cond y5 (
        some false) (
        cond ((((y3.2.length) : Nat) : Int) != 0) (
          Option.bind (some ((Int.tmod (bitsI .and .i64 a3 65535) (((y3.2.length) : Nat) : Int)) : Int)) fun y6 =>
          cond (inRange y6 (y3.2.length)) (
            Option.bind (y3.2[(Int.toNat y6)]?) fun y7 =>
            cond (inRange y6 (y3.2.length)) (
              cond (decide ((Int.toNat y6) < (y3.2.length))) (
                Option.bind (some ((y3.2.set (Int.toNat y6) (bitsI .xor .u8 y7 a4)) : List Int)) fun y8 =>
                Option.bind (law15_decodes a1) fun y9 =>
                cond y9 (
                  Option.bind (law15_decodes y8) fun y10 =>
                  cond y10 (
                    cond (decide (((y8 ++ [0]).length) * 1 ≤ 140737488355328)) (
                      Option.bind (law15_decodes (y8 ++ [0])) fun y11 =>
                      cond y11 (
                        Option.bind law15_awake fun y12 =>
                        some y12) (
                        some false)) none) (
                    some false)) (
                  some false)) none) none) none) none)))

/-! credential_EncodeGrant: passkey/credential.EncodeGrant -/
noncomputable def credential_EncodeGrant (a1 : ByteArray) (a2 : ByteArray) (a3 : ByteArray) (a4 : Int) (a5 : Int) (a6 : Bool) (a7 : Int) (a8 : Bool) (a9 : Bool) (a10 : Int) (a11 : Int) : Option ((Unit × Int) × List Int) :=
  Option.bind (credential_Encode a1 a2 a3 a4 a5 a6 a7 a8 a9) fun y1 =>
  cond (y1.1.2 != 0) (
    some (((), y1.1.2), [])) (
    cond (!a9) (
      some (((), 18), [])) (
      cond (decide (a10 < 0)) (
        some (((), 9), [])) (
        cond (decide (a10 > a11)) (
          some (((), 9), [])) (
          cond (decide (0 ≤ a5)) (
            cond (decide (a11 > (shlI .i64 1 a5))) (
              some (((), 9), [])) (
              cond (decide ((([(IntKind.u8.wrap a10), (IntKind.u8.wrap a11)] ++ y1.2).length) * 1 ≤ 140737488355328)) (
                Option.bind (some (([(IntKind.u8.wrap a10), (IntKind.u8.wrap a11)] ++ y1.2) : List Int)) fun y2 =>
                some (((), 0), y2)) none)) none))))

/-! ref14_EncodeGrant: passkey/passkeyref14.EncodeGrant -/
noncomputable def ref14_EncodeGrant (a1 : ByteArray) (a2 : ByteArray) (a3 : ByteArray) (a4 : Int) (a5 : Int) (a6 : Bool) (a7 : Int) (a8 : Bool) (a9 : Bool) (a10 : Int) (a11 : Int) : Option ((Unit × Int) × List Int) :=
  Option.bind (ref14_EncodeCredential a1 a2 a3 a4 a5 a6 a7 a8 a9) fun y1 =>
  cond (y1.1.2 != 0) (
    some (((), y1.1.2), [])) (
    cond (!a9) (
      some (((), 18), [])) (
      cond (decide (a10 < 0)) (
        some (((), 9), [])) (
        cond (decide (a10 > a11)) (
          some (((), 9), [])) (
          cond (decide (0 ≤ (IntKind.u64.wrap a5))) (
            cond (decide (a11 > (shlI .i64 1 (IntKind.u64.wrap a5)))) (
              some (((), 9), [])) (
              cond (decide ((([(IntKind.u8.wrap a10), (IntKind.u8.wrap a11)] ++ y1.2).length) * 1 ≤ 140737488355328)) (
                Option.bind (some (([(IntKind.u8.wrap a10), (IntKind.u8.wrap a11)] ++ y1.2) : List Int)) fun y2 =>
                some (((), 0), y2)) none)) none))))

/-! credential_DecodeGrant: passkey/credential.DecodeGrant -/
noncomputable def credential_DecodeGrant_j6 : (Unit × (ByteArray × ByteArray × ByteArray × Int × Int × Bool × Int × Bool × Bool)) → Option ((Unit × Int × Int × Int) × (ByteArray × ByteArray × ByteArray × Int × Int × Bool × Int × Bool × Bool)) := fun s => match s with
  | ((), (a1, a2, a3, a4, a5, a6, a7, a8, a9)) =>
    some (((), 0, 0, 2), ((bs []), (bs []), (bs []), 0, 0, false, 0, false, false))
noncomputable def credential_DecodeGrant (a1 : List Int) : Option ((ByteArray × ByteArray × ByteArray × Int × Int × Bool × Int × Bool × Bool) × Int × Int × Int) :=
  cond (decide ((((a1.length) : Nat) : Int) < 2)) (
    some (((bs []), (bs []), (bs []), 0, 0, false, 0, false, false), 0, 0, 2)) (
    Option.bind (getI a1 0) fun y1 =>
    Option.bind (getI a1 1) fun y2 =>
    cond ((okBounds 2 (((a1.length) : Nat) : Int) (a1.length)) && ((decide ((((a1.length) : Nat) : Int) ≤ (((a1.length) : Nat) : Int))) && (decide ((((a1.length) : Nat) : Int) ≤ (((a1.length) : Nat) : Int))))) (
      Option.bind (credential_Decode (cut a1 2 (((a1.length) : Nat) : Int))) fun y3 =>
      cond (y3.2 != 0) (
        Option.bind (credential_DecodeGrant_j6 ((), (y3.1.1, y3.1.2.1, y3.1.2.2.1, y3.1.2.2.2.1, y3.1.2.2.2.2.1, y3.1.2.2.2.2.2.1, y3.1.2.2.2.2.2.2.1, y3.1.2.2.2.2.2.2.2.1, y3.1.2.2.2.2.2.2.2.2))) fun y4 =>
        some ((y4.2.1, y4.2.2.1, y4.2.2.2.1, y4.2.2.2.2.1, y4.2.2.2.2.2.1, y4.2.2.2.2.2.2.1, y4.2.2.2.2.2.2.2.1, y4.2.2.2.2.2.2.2.2.1, y4.2.2.2.2.2.2.2.2.2), y4.1.2.1, y4.1.2.2.1, y4.1.2.2.2)) (
        cond (!y3.1.2.2.2.2.2.2.2.2) (
          Option.bind (credential_DecodeGrant_j6 ((), (y3.1.1, y3.1.2.1, y3.1.2.2.1, y3.1.2.2.2.1, y3.1.2.2.2.2.1, y3.1.2.2.2.2.2.1, y3.1.2.2.2.2.2.2.1, y3.1.2.2.2.2.2.2.2.1, y3.1.2.2.2.2.2.2.2.2))) fun y5 =>
          some ((y5.2.1, y5.2.2.1, y5.2.2.2.1, y5.2.2.2.2.1, y5.2.2.2.2.2.1, y5.2.2.2.2.2.2.1, y5.2.2.2.2.2.2.2.1, y5.2.2.2.2.2.2.2.2.1, y5.2.2.2.2.2.2.2.2.2), y5.1.2.1, y5.1.2.2.1, y5.1.2.2.2)) (
          cond (decide ((IntKind.i64.wrap y1) > (IntKind.i64.wrap y2))) (
            Option.bind (credential_DecodeGrant_j6 ((), (y3.1.1, y3.1.2.1, y3.1.2.2.1, y3.1.2.2.2.1, y3.1.2.2.2.2.1, y3.1.2.2.2.2.2.1, y3.1.2.2.2.2.2.2.1, y3.1.2.2.2.2.2.2.2.1, y3.1.2.2.2.2.2.2.2.2))) fun y6 =>
            some ((y6.2.1, y6.2.2.1, y6.2.2.2.1, y6.2.2.2.2.1, y6.2.2.2.2.2.1, y6.2.2.2.2.2.2.1, y6.2.2.2.2.2.2.2.1, y6.2.2.2.2.2.2.2.2.1, y6.2.2.2.2.2.2.2.2.2), y6.1.2.1, y6.1.2.2.1, y6.1.2.2.2)) (
            cond (decide (0 ≤ y3.1.2.2.2.2.1)) (
              cond (decide ((IntKind.i64.wrap y2) > (shlI .i64 1 y3.1.2.2.2.2.1))) (
                Option.bind (credential_DecodeGrant_j6 ((), (y3.1.1, y3.1.2.1, y3.1.2.2.1, y3.1.2.2.2.1, y3.1.2.2.2.2.1, y3.1.2.2.2.2.2.1, y3.1.2.2.2.2.2.2.1, y3.1.2.2.2.2.2.2.2.1, y3.1.2.2.2.2.2.2.2.2))) fun y7 =>
                some ((y7.2.1, y7.2.2.1, y7.2.2.2.1, y7.2.2.2.2.1, y7.2.2.2.2.2.1, y7.2.2.2.2.2.2.1, y7.2.2.2.2.2.2.2.1, y7.2.2.2.2.2.2.2.2.1, y7.2.2.2.2.2.2.2.2.2), y7.1.2.1, y7.1.2.2.1, y7.1.2.2.2)) (
                some ((y3.1.1, y3.1.2.1, y3.1.2.2.1, y3.1.2.2.2.1, y3.1.2.2.2.2.1, y3.1.2.2.2.2.2.1, y3.1.2.2.2.2.2.2.1, y3.1.2.2.2.2.2.2.2.1, y3.1.2.2.2.2.2.2.2.2), (IntKind.i64.wrap y1), (IntKind.i64.wrap y2), 0))) none)))) none)

/-! ref14_DecodeGrant: passkey/passkeyref14.DecodeGrant -/
noncomputable def ref14_DecodeGrant (a1 : List Int) : Option ((ByteArray × ByteArray × ByteArray × Int × Int × Bool × Int × Bool × Bool) × Int × Int × Int) :=
  cond (decide ((((a1.length) : Nat) : Int) < 2)) (
    some (((bs []), (bs []), (bs []), 0, 0, false, 0, false, false), 0, 0, 2)) (
    cond ((okBounds 2 (((a1.length) : Nat) : Int) (a1.length)) && ((decide ((((a1.length) : Nat) : Int) ≤ (((a1.length) : Nat) : Int))) && (decide ((((a1.length) : Nat) : Int) ≤ (((a1.length) : Nat) : Int))))) (
      Option.bind (ref14_DecodeCredential (cut a1 2 (((a1.length) : Nat) : Int))) fun y1 =>
      cond (y1.2 != 0) (
        some (((bs []), (bs []), (bs []), 0, 0, false, 0, false, false), 0, 0, 2)) (
        Option.bind (getI a1 0) fun y2 =>
        Option.bind (getI a1 1) fun y3 =>
        Option.bind (ref14_EncodeGrant y1.1.1 y1.1.2.1 y1.1.2.2.1 y1.1.2.2.2.1 y1.1.2.2.2.2.1 y1.1.2.2.2.2.2.1 y1.1.2.2.2.2.2.2.1 y1.1.2.2.2.2.2.2.2.1 y1.1.2.2.2.2.2.2.2.2 (IntKind.i64.wrap y2) (IntKind.i64.wrap y3)) fun y4 =>
        cond (y4.1.2 != 0) (
          some (((bs []), (bs []), (bs []), 0, 0, false, 0, false, false), 0, 0, 2)) (
          Option.bind (getI a1 0) fun y5 =>
          Option.bind (getI a1 1) fun y6 =>
          some ((y1.1.1, y1.1.2.1, y1.1.2.2.1, y1.1.2.2.2.1, y1.1.2.2.2.2.1, y1.1.2.2.2.2.2.1, y1.1.2.2.2.2.2.2.1, y1.1.2.2.2.2.2.2.2.1, y1.1.2.2.2.2.2.2.2.2), (IntKind.i64.wrap y5), (IntKind.i64.wrap y6), 0)))) none)

/-! law15_grants: passkey/passkeylaw15.grants -/
noncomputable def law15_grants (a1 : List Int) : Option Bool :=
  Option.bind (credential_DecodeGrant a1) fun y1 =>
  Option.bind (ref14_DecodeGrant a1) fun y2 =>
  cond (y1.2.2.2 == y2.2.2.2) (
    Option.bind (some (((strEq y1.1.1 y2.1.1) && ((strEq y1.1.2.1 y2.1.2.1) && ((strEq y1.1.2.2.1 y2.1.2.2.1) && ((y1.1.2.2.2.1 == y2.1.2.2.2.1) && ((y1.1.2.2.2.2.1 == y2.1.2.2.2.2.1) && ((y1.1.2.2.2.2.2.1 == y2.1.2.2.2.2.2.1) && ((y1.1.2.2.2.2.2.2.1 == y2.1.2.2.2.2.2.2.1) && ((y1.1.2.2.2.2.2.2.2.1 == y2.1.2.2.2.2.2.2.2.1) && ((y1.1.2.2.2.2.2.2.2.2 == y2.1.2.2.2.2.2.2.2.2) && true))))))))) : Bool)) fun y3 =>
    cond y3 (
      cond (y1.2.1 == y2.2.1) (
        some (y1.2.2.1 == y2.2.2.1)) (
        some false)) (
      some false)) (
    some false)

/-! law15_CredentialGrants: passkey/passkeylaw15.CredentialGrants -/
noncomputable def law15_CredentialGrants_j16 : ((List Int × Unit) × List Int) → Option Bool := fun s => match s with
  | ((a1, ()), a2) =>
    Option.bind (law15_grants a2) fun y1 =>
    cond y1 (
      Option.bind (law15_grants a1) fun y2 =>
      cond y2 (
        Option.bind law15_awake fun y3 =>
        some y3) (
        some false)) (
      some false)
noncomputable def law15_CredentialGrants (a1 : Int) (a2 : Int) (a3 : Int) (a4 : Int) (a5 : List Int) (a6 : Int) (a7 : Int) : Option Bool :=
  cond (decide ((((a5.length) : Nat) : Int) > 400)) (
    Option.bind law15_awake fun y1 =>
    some y1) (
    Option.bind (some ((bitsI .or .i64 (bitsI .and .i64 a1 1048575) 896) : Int)) fun y2 =>
    Option.bind (base_Credential y2) fun y3 =>
    Option.bind (law15_spoil y3.1 y3.2.1 y3.2.2.1 y3.2.2.2.1 y3.2.2.2.2.1 y3.2.2.2.2.2.1 y3.2.2.2.2.2.2.1 y3.2.2.2.2.2.2.2.1 y3.2.2.2.2.2.2.2.2 a2) fun y4 =>
    Option.bind (credential_EncodeGrant y4.1 y4.2.1 y4.2.2.1 y4.2.2.2.1 y4.2.2.2.2.1 y4.2.2.2.2.2.1 y4.2.2.2.2.2.2.1 y4.2.2.2.2.2.2.2.1 y4.2.2.2.2.2.2.2.2 a3 a4) fun y5 =>
    Option.bind (ref14_EncodeGrant y4.1 y4.2.1 y4.2.2.1 y4.2.2.2.1 y4.2.2.2.2.1 y4.2.2.2.2.2.1 y4.2.2.2.2.2.2.1 y4.2.2.2.2.2.2.2.1 y4.2.2.2.2.2.2.2.2 a3 a4) fun y6 =>
    Option.bind (some ((IntKind.i64.wrap ((bitsI .and .i64 a3 7) - 1)) : Int)) fun y7 =>
    Option.bind (credential_EncodeGrant y4.1 y4.2.1 y4.2.2.1 y4.2.2.2.1 y4.2.2.2.2.1 y4.2.2.2.2.2.1 y4.2.2.2.2.2.2.1 y4.2.2.2.2.2.2.2.1 y4.2.2.2.2.2.2.2.2 y7 (bitsI .and .i64 a4 7)) fun y8 =>
    Option.bind (ref14_EncodeGrant y4.1 y4.2.1 y4.2.2.1 y4.2.2.2.1 y4.2.2.2.2.1 y4.2.2.2.2.2.1 y4.2.2.2.2.2.2.1 y4.2.2.2.2.2.2.2.1 y4.2.2.2.2.2.2.2.2 y7 (bitsI .and .i64 a4 7)) fun y9 =>
    cond (y5.1.2 != y6.1.2) (
      some false) (
      cond (!(strEq (strOf y5.2) (strOf y6.2))) (
        some false) (
        cond (y8.1.2 != y9.1.2) (
          some false) (
          cond (!(strEq (strOf y8.2) (strOf y9.2))) (
            some false) (
            cond (y8.1.2 == 0) (
              Option.bind (credential_DecodeGrant y8.2) fun y10 =>
              cond (y10.2.2.2 != 0) (
                some false) (
                Option.bind (some ((!((strEq y10.1.1 y4.1) && ((strEq y10.1.2.1 y4.2.1) && ((strEq y10.1.2.2.1 y4.2.2.1) && ((y10.1.2.2.2.1 == y4.2.2.2.1) && ((y10.1.2.2.2.2.1 == y4.2.2.2.2.1) && ((y10.1.2.2.2.2.2.1 == y4.2.2.2.2.2.1) && ((y10.1.2.2.2.2.2.2.1 == y4.2.2.2.2.2.2.1) && ((y10.1.2.2.2.2.2.2.2.1 == y4.2.2.2.2.2.2.2.1) && ((y10.1.2.2.2.2.2.2.2.2 == y4.2.2.2.2.2.2.2.2) && true)))))))))) : Bool)) fun y11 =>
                cond y11 (
                  some false) (
                  cond (y10.2.1 != y7) (
                    some false) (
                    cond (y10.2.2.1 != (bitsI .and .i64 a4 7)) (
                      some false) (
                      cond ((((y9.2.length) : Nat) : Int) != 0) (
                        Option.bind (some ((Int.tmod (bitsI .and .i64 a6 65535) (((y9.2.length) : Nat) : Int)) : Int)) fun y12 =>
                        cond (inRange y12 (y9.2.length)) (
                          Option.bind (y9.2[(Int.toNat y12)]?) fun y13 =>
                          cond (inRange y12 (y9.2.length)) (
                            cond (decide ((Int.toNat y12) < (y9.2.length))) (
                              Option.bind (some ((y9.2.set (Int.toNat y12) (bitsI .xor .u8 y13 a7)) : List Int)) fun y14 =>
                              Option.bind (law15_CredentialGrants_j16 ((a5, ()), y14)) fun y15 =>
                              some y15) none) none) none) none))))) (
              Option.bind (law15_CredentialGrants_j16 ((a5, ()), y9.2)) fun y16 =>
              some y16))))))

/-! treekey_tall: passkey/treekey.tall -/
noncomputable def treekey_tall (a1 : Int) : Option Bool :=
  cond (decide (a1 ≥ 0)) (
    some (decide (a1 ≤ 4))) (
    some false)

/-! onetime_Secret: passkey/onetime.Secret -/
noncomputable def onetime_Secret (a1 : Int) (a2 : Int) (a3 : Int) : Option Int :=
  Option.bind (digest_Words [(IntKind.u64.wrap a2), (IntKind.u64.wrap a3)]) fun y1 =>
  Option.bind (digest_Mac a1 1 y1.2) fun y2 =>
  some y2

/-! onetime_Run: passkey/onetime.Run -/
noncomputable def onetime_Run_l2 : (Int × Int × Int × Int × Int) → Option ((Int × Int × Int × Int × Int) ⊕ Int) := fun s => match s with
  | (a1, a2, a3, a4, a5) =>
    cond (decide (a5 < (if 15 < a3 then 15 else a3))) (
      Option.bind (digest_Words [(IntKind.u64.wrap a1), (IntKind.u64.wrap a2), (IntKind.u64.wrap a5), a4]) fun y1 =>
      Option.bind (digest_Hash 1 y1.2) fun y2 =>
      some (.inl (a1, a2, a3, y2, (IntKind.i64.wrap (a5 + 1))))) (
      some (.inr a4))
noncomputable def onetime_Run (a1 : Int) (a2 : Int) (a3 : Int) (a4 : Int) (a5 : Int) : Option Int :=
  Option.bind (loopFix onetime_Run_l2 (a1, a2, a4, a5, (if 0 > a3 then 0 else a3))) fun y1 =>
  some y1

/-! onetime_at: passkey/onetime.at -/
noncomputable def onetime_at_l2 : ((Int × Int × Unit × Unit × Int) × (List Int × List Int)) → Option (((Int × Int × Unit × Unit × Int) × (List Int × List Int)) ⊕ (Unit × List Int)) := fun s => match s with
  | ((a1, a2, (), (), a3), (a4, a5)) =>
    cond (decide (a3 < 18)) (
      cond (inRange a3 18) (
        Option.bind (a4[(Int.toNat a3)]?) fun y1 =>
        Option.bind (onetime_Secret a1 a2 a3) fun y2 =>
        Option.bind (onetime_Run a2 a3 0 y1 y2) fun y3 =>
        cond (inRange a3 18) (
          cond (decide ((Int.toNat a3) < 18)) (
            some (.inl ((a1, a2, (), (), (IntKind.i64.wrap (a3 + 1))), (a4, (a5.set (Int.toNat a3) y3))))) none) none) none) (
      some (.inr ((), a5)))
noncomputable def onetime_at (a1 : Int) (a2 : Int) (a3 : List Int) : Option (List Int) :=
  Option.bind (loopFix onetime_at_l2 ((a1, a2, (), (), 0), (a3, [0, 0, 0, 0, 0, 0, 0, 0, 0, 0, 0, 0, 0, 0, 0, 0, 0, 0]))) fun y1 =>
  some y1.2

/-! onetime_word: passkey/onetime.word -/
noncomputable def onetime_word (a1 : Int) (a2 : List Int) : Option Int :=
  cond (decide ((([(IntKind.u64.wrap a1)] ++ ((a2.take 18).drop 0)).length) * 8 ≤ 140737488355328)) (
    Option.bind (some (([(IntKind.u64.wrap a1)] ++ ((a2.take 18).drop 0)) : List Int)) fun y1 =>
    Option.bind (digest_Words y1) fun y2 =>
    Option.bind (digest_Hash 2 y2.2) fun y3 =>
    some y3) none

/-! onetime_Public: passkey/onetime.Public -/
noncomputable def onetime_Public_l3 : ((Int × Int × Unit × Int) × List Int) → Option (((Int × Int × Unit × Int) × List Int) ⊕ ((Int × Int × Unit) × List Int)) := fun s => match s with
  | ((a1, a2, (), a3), a4) =>
    cond (decide (a3 < 18)) (
      cond (inRange a3 18) (
        cond (decide ((Int.toNat a3) < 18)) (
          some (.inl ((a1, a2, (), (IntKind.i64.wrap (a3 + 1))), (a4.set (Int.toNat a3) 15)))) none) none) (
      some (.inr ((a1, a2, ()), a4)))
noncomputable def onetime_Public (a1 : Int) (a2 : Int) : Option Int :=
  Option.bind (loopFix onetime_Public_l3 ((a1, a2, (), 0), [0, 0, 0, 0, 0, 0, 0, 0, 0, 0, 0, 0, 0, 0, 0, 0, 0, 0])) fun y1 =>
  Option.bind (onetime_at y1.1.1 y1.1.2.1 y1.2) fun y2 =>
  Option.bind (onetime_word y1.1.2.1 y2) fun y3 =>
  some y3

/-! treekey_node: passkey/treekey.node -/
noncomputable def treekey_node (a1 : Int) (a2 : Int) (a3 : Int) : Option Int :=
  Option.bind (digest_Words [(IntKind.u64.wrap a1), a2, a3]) fun y1 =>
  Option.bind (digest_Hash 3 y1.2) fun y2 =>
  some y2

/-! treekey_levels: passkey/treekey.levels -/
noncomputable def treekey_levels_l3 : ((Int × Int × Unit × Int × Int) × List Int) → Option (((Int × Int × Unit × Int × Int) × List Int) ⊕ ((Int × Unit) × List Int)) := fun s => match s with
  | ((a1, a2, (), a3, a4), a5) =>
    cond (decide (a4 < a3)) (
      Option.bind (onetime_Public a1 a4) fun y1 =>
      cond (inRange a4 (a5.length)) (
        cond (decide ((Int.toNat a4) < (a5.length))) (
          some (.inl ((a1, a2, (), a3, (IntKind.i64.wrap (a4 + 1))), (a5.set (Int.toNat a4) y1)))) none) none) (
      some (.inr ((a2, ()), a5)))
noncomputable def treekey_levels_l13 : ((Int × List Int × Unit × Int × Unit × Int × Int) × (List PD × List Int)) → Option (((Int × List Int × Unit × Int × Unit × Int × Int) × (List PD × List Int)) ⊕ ((Int × Unit × Int × Unit) × (List PD × List Int))) := fun s => match s with
  | ((a1, a2, (), a3, (), a4, a5), (a6, a7)) =>
    cond (decide (a5 < a4)) (
      Option.bind (getI a2 (IntKind.i64.wrap (2 * a5))) fun y1 =>
      Option.bind (some ((IntKind.i64.wrap ((IntKind.i64.wrap (2 * a5)) + 1)) : Int)) fun y2 =>
      Option.bind (getI a2 y2) fun y3 =>
      Option.bind (treekey_node a3 y1 y3) fun y4 =>
      cond (inRange a5 (a7.length)) (
        cond (decide ((Int.toNat a5) < (a7.length))) (
          some (.inl ((a1, a2, (), a3, (), a4, (IntKind.i64.wrap (a5 + 1))), (a6, (a7.set (Int.toNat a5) y4))))) none) none) (
      some (.inr ((a1, (), a3, ()), (a6, a7))))
noncomputable def treekey_levels_l9 : ((Int × List Int × Unit × Int) × List PD) → Option (((Int × List Int × Unit × Int) × List PD) ⊕ (Unit × List PD)) := fun s => match s with
  | ((a1, a2, (), a3), a4) =>
    cond (decide (a3 ≤ a1)) (
      Option.bind (some ((IntKind.i64.wrap (Int.tdiv (((a2.length) : Nat) : Int) 2)) : Int)) fun y1 =>
      cond (decide (0 ≤ y1) && (decide (y1 ≤ y1) && decide (y1 * 8 ≤ 140737488355328))) (
        Option.bind (some ((List.replicate (Int.toNat y1) (0 : Int)) : List Int)) fun y2 =>
        Option.bind (loopFix treekey_levels_l13 ((a1, a2, (), a3, (), (((y2.length) : Nat) : Int), 0), (a4, y2))) fun y3 =>
        cond (decide (((y3.2.1 ++ [(PD.nums .u64 y3.2.2)]).length) * 24 ≤ 140737488355328)) (
          some (.inl ((y3.1.1, y3.2.2, (), (IntKind.i64.wrap (y3.1.2.2.1 + 1))), (y3.2.1 ++ [(PD.nums .u64 y3.2.2)])))) none) none) (
      some (.inr ((), a4)))
noncomputable def treekey_levels (a1 : Int) (a2 : Int) : Option (Unit × List PD) :=
  cond (decide (0 ≤ a2)) (
    cond (decide (0 ≤ (shlI .i64 1 a2)) && (decide ((shlI .i64 1 a2) ≤ (shlI .i64 1 a2)) && decide ((shlI .i64 1 a2) * 8 ≤ 140737488355328))) (
      Option.bind (some ((List.replicate (Int.toNat (shlI .i64 1 a2)) (0 : Int)) : List Int)) fun y1 =>
      Option.bind (loopFix treekey_levels_l3 ((a1, a2, (), (((y1.length) : Nat) : Int), 0), y1)) fun y2 =>
      Option.bind (loopFix treekey_levels_l9 ((y2.1.1, y2.2, (), 1), [(PD.nums .u64 y2.2)])) fun y3 =>
      some ((), y3.2)) none) none

/-! treekey_Public: passkey/treekey.Public -/
noncomputable def treekey_Public (a1 : Int) (a2 : Int) : Option ((Int × Int) × Int) :=
  Option.bind (treekey_tall a2) fun y1 =>
  cond (!y1) (
    some ((0, 0), 9)) (
    Option.bind (treekey_levels a1 a2) fun y2 =>
    cond (inRange a2 (y2.2.length)) (
      Option.bind (y2.2[(Int.toNat a2)]?) fun y3 =>
      Option.bind (PD.numsAt .u64 y3 0) fun y4 =>
      Option.bind (getI y4 0) fun y5 =>
      some ((a2, y5), 0)) none)

/-! credential_Key: passkey/credential.Key -/
noncomputable def credential_Key (a1 : ByteArray) (a2 : ByteArray) (a3 : ByteArray) (a4 : Int) (a5 : Int) (a6 : Bool) (a7 : Int) (a8 : Bool) (a9 : Bool) : Option ((Int × Int) × Int) :=
  Option.bind (credential_Validate a1 a2 a3 a4 a5 a6 a7 a8 a9) fun y1 =>
  cond (y1 != 0) (
    some ((0, 0), y1)) (
    Option.bind (treekey_Public a4 a5) fun y2 =>
    some ((y2.1.1, y2.1.2), y2.2))

/-! ref3_height: passkey/passkeyref3.height -/
noncomputable def ref3_height (a1 : Int) : Option Bool :=
  cond (decide (a1 ≥ 0)) (
    some (decide (a1 ≤ 4))) (
    some false)

/-! ref3_Secret: passkey/passkeyref3.Secret -/
noncomputable def ref3_Secret (a1 : Int) (a2 : Int) (a3 : Int) : Option Int :=
  Option.bind (ref1_Words [(IntKind.u64.wrap a2), (IntKind.u64.wrap a3)]) fun y1 =>
  Option.bind (ref1_Mac a1 1 y1.2) fun y2 =>
  some y2

/-! ref3_Run: passkey/passkeyref3.Run -/
noncomputable def ref3_Run_l2 : (Int × Int × Int × Int × Int) → Option ((Int × Int × Int × Int × Int) ⊕ Int) := fun s => match s with
  | (a1, a2, a3, a4, a5) =>
    cond (decide (a5 < (if 15 < a3 then 15 else a3))) (
      Option.bind (ref1_Words [(IntKind.u64.wrap a1), (IntKind.u64.wrap a2), (IntKind.u64.wrap a5), a4]) fun y1 =>
      Option.bind (ref1_Hash 1 y1.2) fun y2 =>
      some (.inl (a1, a2, a3, y2, (IntKind.i64.wrap (a5 + 1))))) (
      some (.inr a4))
noncomputable def ref3_Run (a1 : Int) (a2 : Int) (a3 : Int) (a4 : Int) (a5 : Int) : Option Int :=
  Option.bind (loopFix ref3_Run_l2 (a1, a2, a4, a5, (if 0 > a3 then 0 else a3))) fun y1 =>
  some y1

/-! ref3_ends: passkey/passkeyref3.ends -/
noncomputable def ref3_ends (a1 : Int) (a2 : List Int) : Option Int :=
  Option.bind (ref1_Words [(IntKind.u64.wrap a1)]) fun y1 =>
  Option.bind (ref1_Words a2) fun y2 =>
  cond (decide (((y1.2 ++ y2.2).length) * 1 ≤ 140737488355328)) (
    Option.bind (ref1_Hash 2 (y1.2 ++ y2.2)) fun y3 =>
    some y3) none

/-! ref3_Leaf: passkey/passkeyref3.Leaf -/
noncomputable def ref3_Leaf_l3 : ((Int × Int × Unit × Int) × List Int) → Option (((Int × Int × Unit × Int) × List Int) ⊕ ((Int × Unit) × List Int)) := fun s => match s with
  | ((a1, a2, (), a3), a4) =>
    cond (decide (a3 < 18)) (
      Option.bind (ref3_Secret a1 a2 a3) fun y1 =>
      Option.bind (ref3_Run a2 a3 0 15 y1) fun y2 =>
      cond (decide (((a4 ++ [y2]).length) * 8 ≤ 140737488355328)) (
        some (.inl ((a1, a2, (), (IntKind.i64.wrap (a3 + 1))), (a4 ++ [y2])))) none) (
      some (.inr ((a2, ()), a4)))
noncomputable def ref3_Leaf (a1 : Int) (a2 : Int) : Option Int :=
  Option.bind (loopFix ref3_Leaf_l3 ((a1, a2, (), 0), [])) fun y1 =>
  Option.bind (ref3_ends y1.1.1 y1.2) fun y2 =>
  some y2

/-! ref3_parent: passkey/passkeyref3.parent -/
noncomputable def ref3_parent (a1 : Int) (a2 : Int) (a3 : Int) : Option Int :=
  Option.bind (ref1_Words [(IntKind.u64.wrap a1), a2, a3]) fun y1 =>
  Option.bind (ref1_Hash 3 y1.2) fun y2 =>
  some y2

/-! ref3_node: passkey/passkeyref3.node -/
noncomputable def ref3_node_F (r_ref3_node : Int → Int → Int → Option Int) (a1 : Int) (a2 : Int) (a3 : Int) : Option Int :=
  cond (a2 == 0) (
    Option.bind (ref3_Leaf a1 a3) fun y1 =>
    some y1) (
    Option.bind (r_ref3_node a1 (IntKind.i64.wrap (a2 - 1)) (IntKind.i64.wrap (2 * a3))) fun y2 =>
    Option.bind (some ((IntKind.i64.wrap ((IntKind.i64.wrap (2 * a3)) + 1)) : Int)) fun y3 =>
    Option.bind (r_ref3_node a1 (IntKind.i64.wrap (a2 - 1)) y3) fun y4 =>
    Option.bind (ref3_parent a2 y2 y4) fun y5 =>
    some y5)
noncomputable def ref3_node_n : Nat → Int → Int → Int → Option Int
  | 0 => fun _ _ _ => none
  | n + 1 => ref3_node_F (ref3_node_n n)
noncomputable def ref3_node (a1 : Int) (a2 : Int) (a3 : Int) : Option Int := ref3_node_n 40 a1 a2 a3

/-! ref3_Public: passkey/passkeyref3.Public -/
noncomputable def ref3_Public (a1 : Int) (a2 : Int) : Option ((Int × Int) × Int) :=
  Option.bind (ref3_height a2) fun y1 =>
  cond (!y1) (
    some ((0, 0), 9)) (
    Option.bind (ref3_node a1 a2 0) fun y2 =>
    some ((a2, y2), 0))

/-! ref14_Key: passkey/passkeyref14.Key -/
noncomputable def ref14_Key (a1 : ByteArray) (a2 : ByteArray) (a3 : ByteArray) (a4 : Int) (a5 : Int) (a6 : Bool) (a7 : Int) (a8 : Bool) (a9 : Bool) : Option ((Int × Int) × Int) :=
  Option.bind (ref14_ValidateCredential a1 a2 a3 a4 a5 a6 a7 a8 a9) fun y1 =>
  cond (y1 != 0) (
    some ((0, 0), y1)) (
    Option.bind (ref3_Public a4 a5) fun y2 =>
    some ((y2.1.1, y2.1.2), y2.2))

/-! law15_CredentialKeys: passkey/passkeylaw15.CredentialKeys -/
noncomputable def law15_CredentialKeys (a1 : Int) (a2 : Int) : Option Bool :=
  Option.bind (base_Credential (bitsI .and .i64 a1 1048575)) fun y1 =>
  Option.bind (law15_spoil y1.1 y1.2.1 y1.2.2.1 y1.2.2.2.1 y1.2.2.2.2.1 y1.2.2.2.2.2.1 y1.2.2.2.2.2.2.1 y1.2.2.2.2.2.2.2.1 y1.2.2.2.2.2.2.2.2 a2) fun y2 =>
  Option.bind (credential_Key y2.1 y2.2.1 y2.2.2.1 y2.2.2.2.1 y2.2.2.2.2.1 y2.2.2.2.2.2.1 y2.2.2.2.2.2.2.1 y2.2.2.2.2.2.2.2.1 y2.2.2.2.2.2.2.2.2) fun y3 =>
  Option.bind (ref14_Key y2.1 y2.2.1 y2.2.2.1 y2.2.2.2.1 y2.2.2.2.2.1 y2.2.2.2.2.2.1 y2.2.2.2.2.2.2.1 y2.2.2.2.2.2.2.2.1 y2.2.2.2.2.2.2.2.2) fun y4 =>
  cond ((y3.1.1 == y4.1.1) && ((y3.1.2 == y4.1.2) && true)) (
    cond (y3.2 == y4.2) (
      Option.bind law15_awake fun y5 =>
      some y5) (
      some false)) (
    some false)

end Go.Px
