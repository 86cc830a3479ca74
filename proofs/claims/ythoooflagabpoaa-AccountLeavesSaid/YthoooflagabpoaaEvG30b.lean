import Derived.Test.YthoooflagabpoaaEvG30
set_option linter.unusedVariables false
namespace Go.Proofs.Ythoooflagabpoaa
open Go Go.Ev
set_option maxRecDepth 100000
set_option maxHeartbeats 8000000
/-! f5: passkey/passkeylaw30.AccountLeaves -/
noncomputable def f5l5p : SP := { n := 117, ix := [0, 1, 5, 6, 7, 8], p := (.cons (.nums .u8) (.cons (.nums .u8) (.cons (.ptr 0 0) (.cons (.ptr 1 0) (.cons (.ptr 2 0) (.int .i64)))))), hp := [(.cells (.cons (.nums .u8) (.cons (.int .i64) (.cons (.int .u64) (.cons (.int .u64) (.cons (.int .i64) (.cons .bool (.cons (.int .u64) (.cons (.sl 2) (.cons .bool (.cons (.int .i64) (.int .i64)))))))))))), (.flags 16), (.ints .i64 16)] }
noncomputable def f5l5x : List (Ex × SP) := [((.exit 0), { n := 117, ix := [0, 1, 5, 6, 7], p := (.cons (.nums .u8) (.cons (.nums .u8) (.cons (.ptr 0 0) (.cons (.ptr 1 0) (.ptr 2 0))))), hp := [(.cells (.cons (.nums .u8) (.cons (.int .i64) (.cons (.int .u64) (.cons (.int .u64) (.cons (.int .i64) (.cons .bool (.cons (.int .u64) (.cons (.sl 2) (.cons .bool (.cons (.int .i64) (.int .i64)))))))))))), (.flags 16), (.ints .i64 16)] })]
noncomputable def f5l5 : ((List Int × List Int × Unit × Unit × Unit × Int) × ((List Int × Int × Int × Int × Int × Bool × Int × List PD × Bool × Int × Int) × List Bool × List Int)) → Option (((List Int × List Int × Unit × Unit × Unit × Int) × ((List Int × Int × Int × Int × Int × Bool × Int × List PD × Bool × Int × Int) × List Bool × List Int)) ⊕ ((List Int × List Int × Unit × Unit × Unit) × ((List Int × Int × Int × Int × Int × Bool × Int × List PD × Bool × Int × Int) × List Bool × List Int))) := fun s => match s with
  | ((a1, a2, (), (), (), a3), ((a4, a5, a6, a7, a8, a9, a10, a11, a12, a13, a14), a15, a16)) =>
    cond (decide (a3 < 16)) (
      cond (inRange a3 16) (
        cond (decide ((Int.toNat a3) < 16)) (
          some (.inl ((a1, a2, (), (), (), (IntKind.i64.wrap (a3 + 1))), ((a4, a5, a6, a7, a8, a9, a10, a11, a12, a13, a14), a15, (a16.set (Int.toNat a3) (-1)))))) none) none) (
      some (.inr ((a1, a2, (), (), ()), ((a4, a5, a6, a7, a8, a9, a10, a11, a12, a13, a14), a15, a16))))
noncomputable def f5j16p : SP := { n := 117, ix := [0, 1, 5, 6, 7, 9, 10, 11, 12, 13], p := (.cons (.nums .u8) (.cons (.nums .u8) (.cons (.ptr 0 0) (.cons (.ptr 1 0) (.cons (.ptr 2 0) (.cons (.int .i64) (.cons (.int .i64) (.cons (.int .i64) (.cons (.ptr 3 0) (.int .i64)))))))))), hp := [(.cells (.cons (.nums .u8) (.cons (.int .i64) (.cons (.int .u64) (.cons (.int .u64) (.cons (.int .i64) (.cons .bool (.cons (.int .u64) (.cons (.sl 2) (.cons .bool (.cons (.int .i64) (.int .i64)))))))))))), (.flags 16), (.ints .i64 16), (.cells (.cons (.nums .u8) (.cons (.int .i64) (.cons (.int .u64) (.cons (.int .u64) (.cons (.int .i64) (.cons .bool (.cons (.int .u64) (.cons (.sl 2) (.cons .bool (.cons (.int .i64) (.int .i64))))))))))))] }
noncomputable def f5j16x : List (Ex × SP) := [(.ret, { n := 117, ix := [0, 1, 4, 5, 6, 7, 9], p := (.cons (.nums .u8) (.cons (.nums .u8) (.cons .bool (.cons (.ptr 0 0) (.cons (.ptr 1 0) (.cons (.ptr 2 0) (.int .i64))))))), hp := [(.cells (.cons (.nums .u8) (.cons (.int .i64) (.cons (.int .u64) (.cons (.int .u64) (.cons (.int .i64) (.cons .bool (.cons (.int .u64) (.cons (.sl 2) (.cons .bool (.cons (.int .i64) (.int .i64)))))))))))), (.flags 16), (.ints .i64 16)] }), (.norm, { n := 117, ix := [0, 1, 5, 6, 7, 9], p := (.cons (.nums .u8) (.cons (.nums .u8) (.cons (.ptr 0 0) (.cons (.ptr 1 0) (.cons (.ptr 2 0) (.int .i64)))))), hp := [(.cells (.cons (.nums .u8) (.cons (.int .i64) (.cons (.int .u64) (.cons (.int .u64) (.cons (.int .i64) (.cons .bool (.cons (.int .u64) (.cons (.sl 2) (.cons .bool (.cons (.int .i64) (.int .i64)))))))))))), (.flags 16), (.ints .i64 16)] })]
noncomputable def f5j16B (a1 : List Int) (a2 : List Int) (a3 : Int) (a4 : Int) (a5 : Int) (a6 : Int) (a7 : List Int) (a8 : Int) (a9 : Int) (a10 : Int) (a11 : Int) (a12 : Bool) (a13 : Int) (a14 : List PD) (a15 : Bool) (a16 : Int) (a17 : Int) (a18 : List Bool) (a19 : List Int) (a20 : List Int) (a21 : Int) (a22 : Int) (a23 : Int) (a24 : Int) (a25 : Bool) (a26 : Int) (a27 : List PD) (a28 : Bool) (a29 : Int) (a30 : Int) : Option (((List Int × List Int × Bool × Unit × Unit × Unit × Int) × ((List Int × Int × Int × Int × Int × Bool × Int × List PD × Bool × Int × Int) × List Bool × List Int)) ⊕ ((List Int × List Int × Unit × Unit × Unit × Int) × ((List Int × Int × Int × Int × Int × Bool × Int × List PD × Bool × Int × Int) × List Bool × List Int))) :=
  cond a28 (
    Option.bind (f19 a20 a21 a22 a23 a24 a25 a26 a27 a28 a29 a30 15 0 a3) fun y1 =>
    cond (y1.2 == 39) (
      cond y1.1.2.2.2.2.2.2.2.2.1 (
        Option.bind f7 fun y2 =>
        some (.inl ((a1, a2, y2, (), (), (), a3), ((a7, a8, a9, a10, a11, a12, a13, a14, a15, a16, a17), a18, a19)))) (
        some (.inl ((a1, a2, false, (), (), (), a3), ((a7, a8, a9, a10, a11, a12, a13, a14, a15, a16, a17), a18, a19))))) (
      some (.inl ((a1, a2, false, (), (), (), a3), ((a7, a8, a9, a10, a11, a12, a13, a14, a15, a16, a17), a18, a19))))) (
    cond (a6 == 0) (
      cond (inRange a4 16) (
        cond (decide ((Int.toNat a4) < 16)) (
          cond (inRange a5 16) (
            cond (decide ((Int.toNat a5) < 16)) (
              some (.inr ((a1, a2, (), (), (), a3), ((a20, a21, a22, a23, a24, a25, a26, a27, a28, a29, a30), (a18.set (Int.toNat a4) true), (a19.set (Int.toNat a5) a4))))) none) none) none) none) (
      some (.inr ((a1, a2, (), (), (), a3), ((a7, a8, a9, a10, a11, a12, a13, a14, a15, a16, a17), a18, a19)))))
noncomputable def f5j16 : ((List Int × List Int × Unit × Unit × Unit × Int × Int × Int × Unit × Int) × ((List Int × Int × Int × Int × Int × Bool × Int × List PD × Bool × Int × Int) × List Bool × List Int × (List Int × Int × Int × Int × Int × Bool × Int × List PD × Bool × Int × Int))) → Option (((List Int × List Int × Bool × Unit × Unit × Unit × Int) × ((List Int × Int × Int × Int × Int × Bool × Int × List PD × Bool × Int × Int) × List Bool × List Int)) ⊕ ((List Int × List Int × Unit × Unit × Unit × Int) × ((List Int × Int × Int × Int × Int × Bool × Int × List PD × Bool × Int × Int) × List Bool × List Int))) := fun s => f5j16B s.1.1 s.1.2.1 s.1.2.2.2.2.2.1 s.1.2.2.2.2.2.2.1 s.1.2.2.2.2.2.2.2.1 s.1.2.2.2.2.2.2.2.2.2 s.2.1.1 s.2.1.2.1 s.2.1.2.2.1 s.2.1.2.2.2.1 s.2.1.2.2.2.2.1 s.2.1.2.2.2.2.2.1 s.2.1.2.2.2.2.2.2.1 s.2.1.2.2.2.2.2.2.2.1 s.2.1.2.2.2.2.2.2.2.2.1 s.2.1.2.2.2.2.2.2.2.2.2.1 s.2.1.2.2.2.2.2.2.2.2.2.2 s.2.2.1 s.2.2.2.1 s.2.2.2.2.1 s.2.2.2.2.2.1 s.2.2.2.2.2.2.1 s.2.2.2.2.2.2.2.1 s.2.2.2.2.2.2.2.2.1 s.2.2.2.2.2.2.2.2.2.1 s.2.2.2.2.2.2.2.2.2.2.1 s.2.2.2.2.2.2.2.2.2.2.2.1 s.2.2.2.2.2.2.2.2.2.2.2.2.1 s.2.2.2.2.2.2.2.2.2.2.2.2.2.1 s.2.2.2.2.2.2.2.2.2.2.2.2.2.2
noncomputable def f5j11p : SP := { n := 117, ix := [0, 1, 5, 6, 7, 9], p := (.cons (.nums .u8) (.cons (.nums .u8) (.cons (.ptr 0 0) (.cons (.ptr 1 0) (.cons (.ptr 2 0) (.int .i64)))))), hp := [(.cells (.cons (.nums .u8) (.cons (.int .i64) (.cons (.int .u64) (.cons (.int .u64) (.cons (.int .i64) (.cons .bool (.cons (.int .u64) (.cons (.sl 2) (.cons .bool (.cons (.int .i64) (.int .i64)))))))))))), (.flags 16), (.ints .i64 16)] }
noncomputable def f5j11x : List (Ex × SP) := [(.ret, { n := 117, ix := [0, 1, 4, 5, 6, 7, 9], p := (.cons (.nums .u8) (.cons (.nums .u8) (.cons .bool (.cons (.ptr 0 0) (.cons (.ptr 1 0) (.cons (.ptr 2 0) (.int .i64))))))), hp := [(.cells (.cons (.nums .u8) (.cons (.int .i64) (.cons (.int .u64) (.cons (.int .u64) (.cons (.int .i64) (.cons .bool (.cons (.int .u64) (.cons (.sl 2) (.cons .bool (.cons (.int .i64) (.int .i64)))))))))))), (.flags 16), (.ints .i64 16)] }), (.norm, { n := 117, ix := [0, 1, 5, 6, 7, 9], p := (.cons (.nums .u8) (.cons (.nums .u8) (.cons (.ptr 0 0) (.cons (.ptr 1 0) (.cons (.ptr 2 0) (.int .i64)))))), hp := [(.cells (.cons (.nums .u8) (.cons (.int .i64) (.cons (.int .u64) (.cons (.int .u64) (.cons (.int .i64) (.cons .bool (.cons (.int .u64) (.cons (.sl 2) (.cons .bool (.cons (.int .i64) (.int .i64)))))))))))), (.flags 16), (.ints .i64 16)] })]
noncomputable def f5j11 : ((List Int × List Int × Unit × Unit × Unit × Int) × ((List Int × Int × Int × Int × Int × Bool × Int × List PD × Bool × Int × Int) × List Bool × List Int)) → Option (((List Int × List Int × Bool × Unit × Unit × Unit × Int) × ((List Int × Int × Int × Int × Int × Bool × Int × List PD × Bool × Int × Int) × List Bool × List Int)) ⊕ ((List Int × List Int × Unit × Unit × Unit × Int) × ((List Int × Int × Int × Int × Int × Bool × Int × List PD × Bool × Int × Int) × List Bool × List Int))) := fun s => match s with
  | ((a1, a2, (), (), (), a3), ((a4, a5, a6, a7, a8, a9, a10, a11, a12, a13, a14), a15, a16)) =>
    Option.bind (getI a1 a3) fun y1 =>
    Option.bind (getI a2 a3) fun y2 =>
    cond ((IntKind.i64.wrap ((IntKind.i64.wrap (Int.tmod y1 16)) + 1)) != 0) (
      Option.bind (f19 a4 a5 a6 a7 a8 a9 a10 a11 a12 a13 a14 (IntKind.i64.wrap (Int.tmod y1 16)) (Int.tmod (IntKind.i64.wrap y2) (IntKind.i64.wrap ((IntKind.i64.wrap (Int.tmod y1 16)) + 1))) a3) fun y3 =>
      cond (inRange (IntKind.i64.wrap (Int.tmod y1 16)) 16) (
        Option.bind (a15[(Int.toNat (IntKind.i64.wrap (Int.tmod y1 16)))]?) fun y4 =>
        cond (!y4) (
          cond (inRange (Int.tmod (IntKind.i64.wrap y2) (IntKind.i64.wrap ((IntKind.i64.wrap (Int.tmod y1 16)) + 1))) 16) (
            Option.bind (a16[(Int.toNat (Int.tmod (IntKind.i64.wrap y2) (IntKind.i64.wrap ((IntKind.i64.wrap (Int.tmod y1 16)) + 1))))]?) fun y5 =>
            cond (!((y3.2 == 0) == (decide ((IntKind.i64.wrap (Int.tmod y1 16)) > y5)))) (
              some (.inl ((a1, a2, false, (), (), (), a3), ((a4, a5, a6, a7, a8, a9, a10, a11, a12, a13, a14), a15, a16)))) (
              cond (inRange (IntKind.i64.wrap (Int.tmod y1 16)) 16) (
                Option.bind (a15[(Int.toNat (IntKind.i64.wrap (Int.tmod y1 16)))]?) fun y6 =>
                cond (!(y3.1.2.2.2.2.2.2.2.2.1 == y6)) (
                  some (.inl ((a1, a2, false, (), (), (), a3), ((a4, a5, a6, a7, a8, a9, a10, a11, a12, a13, a14), a15, a16)))) (
                  cond (y3.2 != 0) (
                    cond (y3.2 != 37) (
                      some (.inl ((a1, a2, false, (), (), (), a3), ((a4, a5, a6, a7, a8, a9, a10, a11, a12, a13, a14), a15, a16)))) (
                      Option.bind (f5j16 ((a1, a2, (), (), (), a3, (IntKind.i64.wrap (Int.tmod y1 16)), (Int.tmod (IntKind.i64.wrap y2) (IntKind.i64.wrap ((IntKind.i64.wrap (Int.tmod y1 16)) + 1))), (), y3.2), ((a4, a5, a6, a7, a8, a9, a10, a11, a12, a13, a14), a15, a16, (y3.1.1, y3.1.2.1, y3.1.2.2.1, y3.1.2.2.2.1, y3.1.2.2.2.2.1, y3.1.2.2.2.2.2.1, y3.1.2.2.2.2.2.2.1, y3.1.2.2.2.2.2.2.2.1, y3.1.2.2.2.2.2.2.2.2.1, y3.1.2.2.2.2.2.2.2.2.2.1, y3.1.2.2.2.2.2.2.2.2.2.2)))) fun y7 =>
                      match y7 with
                      | (.inl y8) =>
                        some (.inl ((y8.1.1, y8.1.2.1, y8.1.2.2.1, (), (), (), y8.1.2.2.2.2.2.2), ((y8.2.1.1, y8.2.1.2.1, y8.2.1.2.2.1, y8.2.1.2.2.2.1, y8.2.1.2.2.2.2.1, y8.2.1.2.2.2.2.2.1, y8.2.1.2.2.2.2.2.2.1, y8.2.1.2.2.2.2.2.2.2.1, y8.2.1.2.2.2.2.2.2.2.2.1, y8.2.1.2.2.2.2.2.2.2.2.2.1, y8.2.1.2.2.2.2.2.2.2.2.2.2), y8.2.2.1, y8.2.2.2)))
                      | (.inr y9) =>
                        some (.inr ((y9.1.1, y9.1.2.1, (), (), (), (IntKind.i64.wrap (y9.1.2.2.2.2.2 + 1))), ((y9.2.1.1, y9.2.1.2.1, y9.2.1.2.2.1, y9.2.1.2.2.2.1, y9.2.1.2.2.2.2.1, y9.2.1.2.2.2.2.2.1, y9.2.1.2.2.2.2.2.2.1, y9.2.1.2.2.2.2.2.2.2.1, y9.2.1.2.2.2.2.2.2.2.2.1, y9.2.1.2.2.2.2.2.2.2.2.2.1, y9.2.1.2.2.2.2.2.2.2.2.2.2), y9.2.2.1, y9.2.2.2))))) (
                    Option.bind (f5j16 ((a1, a2, (), (), (), a3, (IntKind.i64.wrap (Int.tmod y1 16)), (Int.tmod (IntKind.i64.wrap y2) (IntKind.i64.wrap ((IntKind.i64.wrap (Int.tmod y1 16)) + 1))), (), y3.2), ((a4, a5, a6, a7, a8, a9, a10, a11, a12, a13, a14), a15, a16, (y3.1.1, y3.1.2.1, y3.1.2.2.1, y3.1.2.2.2.1, y3.1.2.2.2.2.1, y3.1.2.2.2.2.2.1, y3.1.2.2.2.2.2.2.1, y3.1.2.2.2.2.2.2.2.1, y3.1.2.2.2.2.2.2.2.2.1, y3.1.2.2.2.2.2.2.2.2.2.1, y3.1.2.2.2.2.2.2.2.2.2.2)))) fun y10 =>
                    match y10 with
                    | (.inl y11) =>
                      some (.inl ((y11.1.1, y11.1.2.1, y11.1.2.2.1, (), (), (), y11.1.2.2.2.2.2.2), ((y11.2.1.1, y11.2.1.2.1, y11.2.1.2.2.1, y11.2.1.2.2.2.1, y11.2.1.2.2.2.2.1, y11.2.1.2.2.2.2.2.1, y11.2.1.2.2.2.2.2.2.1, y11.2.1.2.2.2.2.2.2.2.1, y11.2.1.2.2.2.2.2.2.2.2.1, y11.2.1.2.2.2.2.2.2.2.2.2.1, y11.2.1.2.2.2.2.2.2.2.2.2.2), y11.2.2.1, y11.2.2.2)))
                    | (.inr y12) =>
                      some (.inr ((y12.1.1, y12.1.2.1, (), (), (), (IntKind.i64.wrap (y12.1.2.2.2.2.2 + 1))), ((y12.2.1.1, y12.2.1.2.1, y12.2.1.2.2.1, y12.2.1.2.2.2.1, y12.2.1.2.2.2.2.1, y12.2.1.2.2.2.2.2.1, y12.2.1.2.2.2.2.2.2.1, y12.2.1.2.2.2.2.2.2.2.1, y12.2.1.2.2.2.2.2.2.2.2.1, y12.2.1.2.2.2.2.2.2.2.2.2.1, y12.2.1.2.2.2.2.2.2.2.2.2.2), y12.2.2.1, y12.2.2.2)))))) none)) none) (
          cond (!((y3.2 == 0) == false)) (
            some (.inl ((a1, a2, false, (), (), (), a3), ((a4, a5, a6, a7, a8, a9, a10, a11, a12, a13, a14), a15, a16)))) (
            cond (inRange (IntKind.i64.wrap (Int.tmod y1 16)) 16) (
              Option.bind (a15[(Int.toNat (IntKind.i64.wrap (Int.tmod y1 16)))]?) fun y13 =>
              cond (!(y3.1.2.2.2.2.2.2.2.2.1 == y13)) (
                some (.inl ((a1, a2, false, (), (), (), a3), ((a4, a5, a6, a7, a8, a9, a10, a11, a12, a13, a14), a15, a16)))) (
                cond (y3.2 != 0) (
                  cond (y3.2 != 37) (
                    some (.inl ((a1, a2, false, (), (), (), a3), ((a4, a5, a6, a7, a8, a9, a10, a11, a12, a13, a14), a15, a16)))) (
                    Option.bind (f5j16 ((a1, a2, (), (), (), a3, (IntKind.i64.wrap (Int.tmod y1 16)), (Int.tmod (IntKind.i64.wrap y2) (IntKind.i64.wrap ((IntKind.i64.wrap (Int.tmod y1 16)) + 1))), (), y3.2), ((a4, a5, a6, a7, a8, a9, a10, a11, a12, a13, a14), a15, a16, (y3.1.1, y3.1.2.1, y3.1.2.2.1, y3.1.2.2.2.1, y3.1.2.2.2.2.1, y3.1.2.2.2.2.2.1, y3.1.2.2.2.2.2.2.1, y3.1.2.2.2.2.2.2.2.1, y3.1.2.2.2.2.2.2.2.2.1, y3.1.2.2.2.2.2.2.2.2.2.1, y3.1.2.2.2.2.2.2.2.2.2.2)))) fun y14 =>
                    match y14 with
                    | (.inl y15) =>
                      some (.inl ((y15.1.1, y15.1.2.1, y15.1.2.2.1, (), (), (), y15.1.2.2.2.2.2.2), ((y15.2.1.1, y15.2.1.2.1, y15.2.1.2.2.1, y15.2.1.2.2.2.1, y15.2.1.2.2.2.2.1, y15.2.1.2.2.2.2.2.1, y15.2.1.2.2.2.2.2.2.1, y15.2.1.2.2.2.2.2.2.2.1, y15.2.1.2.2.2.2.2.2.2.2.1, y15.2.1.2.2.2.2.2.2.2.2.2.1, y15.2.1.2.2.2.2.2.2.2.2.2.2), y15.2.2.1, y15.2.2.2)))
                    | (.inr y16) =>
                      some (.inr ((y16.1.1, y16.1.2.1, (), (), (), (IntKind.i64.wrap (y16.1.2.2.2.2.2 + 1))), ((y16.2.1.1, y16.2.1.2.1, y16.2.1.2.2.1, y16.2.1.2.2.2.1, y16.2.1.2.2.2.2.1, y16.2.1.2.2.2.2.2.1, y16.2.1.2.2.2.2.2.2.1, y16.2.1.2.2.2.2.2.2.2.1, y16.2.1.2.2.2.2.2.2.2.2.1, y16.2.1.2.2.2.2.2.2.2.2.2.1, y16.2.1.2.2.2.2.2.2.2.2.2.2), y16.2.2.1, y16.2.2.2))))) (
                  Option.bind (f5j16 ((a1, a2, (), (), (), a3, (IntKind.i64.wrap (Int.tmod y1 16)), (Int.tmod (IntKind.i64.wrap y2) (IntKind.i64.wrap ((IntKind.i64.wrap (Int.tmod y1 16)) + 1))), (), y3.2), ((a4, a5, a6, a7, a8, a9, a10, a11, a12, a13, a14), a15, a16, (y3.1.1, y3.1.2.1, y3.1.2.2.1, y3.1.2.2.2.1, y3.1.2.2.2.2.1, y3.1.2.2.2.2.2.1, y3.1.2.2.2.2.2.2.1, y3.1.2.2.2.2.2.2.2.1, y3.1.2.2.2.2.2.2.2.2.1, y3.1.2.2.2.2.2.2.2.2.2.1, y3.1.2.2.2.2.2.2.2.2.2.2)))) fun y17 =>
                  match y17 with
                  | (.inl y18) =>
                    some (.inl ((y18.1.1, y18.1.2.1, y18.1.2.2.1, (), (), (), y18.1.2.2.2.2.2.2), ((y18.2.1.1, y18.2.1.2.1, y18.2.1.2.2.1, y18.2.1.2.2.2.1, y18.2.1.2.2.2.2.1, y18.2.1.2.2.2.2.2.1, y18.2.1.2.2.2.2.2.2.1, y18.2.1.2.2.2.2.2.2.2.1, y18.2.1.2.2.2.2.2.2.2.2.1, y18.2.1.2.2.2.2.2.2.2.2.2.1, y18.2.1.2.2.2.2.2.2.2.2.2.2), y18.2.2.1, y18.2.2.2)))
                  | (.inr y19) =>
                    some (.inr ((y19.1.1, y19.1.2.1, (), (), (), (IntKind.i64.wrap (y19.1.2.2.2.2.2 + 1))), ((y19.2.1.1, y19.2.1.2.1, y19.2.1.2.2.1, y19.2.1.2.2.2.1, y19.2.1.2.2.2.2.1, y19.2.1.2.2.2.2.2.1, y19.2.1.2.2.2.2.2.2.1, y19.2.1.2.2.2.2.2.2.2.1, y19.2.1.2.2.2.2.2.2.2.2.1, y19.2.1.2.2.2.2.2.2.2.2.2.1, y19.2.1.2.2.2.2.2.2.2.2.2.2), y19.2.2.1, y19.2.2.2)))))) none))) none) none
noncomputable def f5l9p : SP := { n := 117, ix := [0, 1, 5, 6, 7, 9], p := (.cons (.nums .u8) (.cons (.nums .u8) (.cons (.ptr 0 0) (.cons (.ptr 1 0) (.cons (.ptr 2 0) (.int .i64)))))), hp := [(.cells (.cons (.nums .u8) (.cons (.int .i64) (.cons (.int .u64) (.cons (.int .u64) (.cons (.int .i64) (.cons .bool (.cons (.int .u64) (.cons (.sl 2) (.cons .bool (.cons (.int .i64) (.int .i64)))))))))))), (.flags 16), (.ints .i64 16)] }
noncomputable def f5l9x : List (Ex × SP) := [(.ret, { n := 117, ix := [4], p := .bool }), ((.exit 2), { n := 117, ix := [], p := .nil })]
noncomputable def f5l9 : ((List Int × List Int × Unit × Unit × Unit × Int) × ((List Int × Int × Int × Int × Int × Bool × Int × List PD × Bool × Int × Int) × List Bool × List Int)) → Option (((List Int × List Int × Unit × Unit × Unit × Int) × ((List Int × Int × Int × Int × Int × Bool × Int × List PD × Bool × Int × Int) × List Bool × List Int)) ⊕ (Bool ⊕ Unit)) := fun s => match s with
  | ((a1, a2, (), (), (), a3), ((a4, a5, a6, a7, a8, a9, a10, a11, a12, a13, a14), a15, a16)) =>
    cond (decide (a3 < (((a1.length) : Nat) : Int))) (
      cond (decide (a3 < (((a2.length) : Nat) : Int))) (
        cond (decide (a3 < 60)) (
          Option.bind (f5j11 ((a1, a2, (), (), (), a3), ((a4, a5, a6, a7, a8, a9, a10, a11, a12, a13, a14), a15, a16))) fun y1 =>
          match y1 with
          | (.inl y2) =>
            some (.inr (.inl y2.1.2.2.1))
          | (.inr y3) =>
            some (.inl ((y3.1.1, y3.1.2.1, (), (), (), y3.1.2.2.2.2.2), ((y3.2.1.1, y3.2.1.2.1, y3.2.1.2.2.1, y3.2.1.2.2.2.1, y3.2.1.2.2.2.2.1, y3.2.1.2.2.2.2.2.1, y3.2.1.2.2.2.2.2.2.1, y3.2.1.2.2.2.2.2.2.2.1, y3.2.1.2.2.2.2.2.2.2.2.1, y3.2.1.2.2.2.2.2.2.2.2.2.1, y3.2.1.2.2.2.2.2.2.2.2.2.2), y3.2.2.1, y3.2.2.2)))) (
          some (.inr (.inr ())))) (
        some (.inr (.inr ())))) (
      some (.inr (.inr ())))
noncomputable def f5 (a1 : List Int) (a2 : List Int) : Option Bool :=
  Option.bind (f10 1 4) fun y1 =>
  Option.bind (loopFix f5l5 ((a1, a2, (), (), (), 0), ((y1.1, y1.2.1, y1.2.2.1, y1.2.2.2.1, y1.2.2.2.2.1, y1.2.2.2.2.2.1, y1.2.2.2.2.2.2.1, y1.2.2.2.2.2.2.2.1, y1.2.2.2.2.2.2.2.2.1, y1.2.2.2.2.2.2.2.2.2.1, y1.2.2.2.2.2.2.2.2.2.2), [false, false, false, false, false, false, false, false, false, false, false, false, false, false, false, false], [0, 0, 0, 0, 0, 0, 0, 0, 0, 0, 0, 0, 0, 0, 0, 0]))) fun y2 =>
  Option.bind (loopFix f5l9 ((y2.1.1, y2.1.2.1, (), (), (), 0), ((y2.2.1.1, y2.2.1.2.1, y2.2.1.2.2.1, y2.2.1.2.2.2.1, y2.2.1.2.2.2.2.1, y2.2.1.2.2.2.2.2.1, y2.2.1.2.2.2.2.2.2.1, y2.2.1.2.2.2.2.2.2.2.1, y2.2.1.2.2.2.2.2.2.2.2.1, y2.2.1.2.2.2.2.2.2.2.2.2.1, y2.2.1.2.2.2.2.2.2.2.2.2.2), y2.2.2.1, y2.2.2.2))) fun y3 =>
  match y3 with
  | (.inl y4) =>
    some y4
  | (.inr y5) =>
    Option.bind f7 fun y6 =>
    some y6
noncomputable def f5C : Cal := tbl [(10, (ent (.cons (.int .i64) (.int .i64)) [] (.agg (.cons (.nums .u8) (.cons (.int .i64) (.cons (.int .u64) (.cons (.int .u64) (.cons (.int .i64) (.cons .bool (.cons (.int .u64) (.cons (.sl 2) (.cons .bool (.cons (.int .i64) (.int .i64)))))))))))) [] f10W)), (19, (ent (.cons (.agg (.cons (.nums .u8) (.cons (.int .i64) (.cons (.int .u64) (.cons (.int .u64) (.cons (.int .i64) (.cons .bool (.cons (.int .u64) (.cons (.sl 2) (.cons .bool (.cons (.int .i64) (.int .i64)))))))))))) (.cons (.int .i64) (.cons (.int .i64) (.int .i64)))) [] (.tup (.cons (.agg (.cons (.nums .u8) (.cons (.int .i64) (.cons (.int .u64) (.cons (.int .u64) (.cons (.int .i64) (.cons .bool (.cons (.int .u64) (.cons (.sl 2) (.cons .bool (.cons (.int .i64) (.int .i64)))))))))))) (.int .i64))) [] f19W)), (7, (ent .nil [] .bool [] f7W))]
theorem f5C_ok : CalOK Try.prog f5C ∧ CalNt f5C := tbl_ok (by
  intro p hp
  simp only [List.mem_cons, List.not_mem_nil, or_false] at hp
  rcases hp with rfl | rfl | rfl
  · exact f10_ok
  · exact f19_ok
  · exact f7_ok)
noncomputable def f5F : FH := { join := [(16, { keep := [0, 1, 5, 6, 7, 9, 10, 11, 12, 13] }), (11, { keep := [0, 1, 5, 6, 7, 9] })], loops := [(5, { keep := [0, 1, 5, 6, 7, 8] }, { keep := [0, 1, 4, 5, 6, 7] }), (9, { keep := [0, 1, 5, 6, 7, 9] }, { keep := [4] })] }
theorem f5l5_s (a1 : List Int) (a2 : List Int) (a3 : Int) (a4 : List Int) (a5 : Int) (a6 : Int) (a7 : Int) (a8 : Int) (a9 : Bool) (a10 : Int) (a11 : List PD) (a12 : Bool) (a13 : Int) (a14 : Int) (a15 : List Bool) (a16 : List Int) : stepC Try.prog f5C f5F [] [] 0 ((loopsAt 5 (codeOf Try.f5)).headD .skip) f5l5p f5l5x { keep := [0, 1, 5, 6, 7, 8] } { keep := [0, 1, 4, 5, 6, 7] } ((a1, a2, (), (), (), a3), ((a4, a5, a6, a7, a8, a9, a10, a11, a12, a13, a14), a15, a16)) _ some = f5l5 ((a1, a2, (), (), (), a3), ((a4, a5, a6, a7, a8, a9, a10, a11, a12, a13, a14), a15, a16)) := by kernel_rfl
theorem f5l5_t : ToldC Try.prog 0 (codeOf Try.f5) ((5, toldL f5l5p f5l5x f5l5) :: []) [] :=
  ToldC.loop f5F 0 (ToldC.nil 0) f5C_ok 5 ((loopsAt 5 (codeOf Try.f5)).headD .skip) (by kernel_rfl) (p := f5l5p) (px := f5l5x) (g := f5l5) (hi := { keep := [0, 1, 5, 6, 7, 8] }) (ho := { keep := [0, 1, 4, 5, 6, 7] }) (by kernel_rfl) fun (x : ((List Int × List Int × Unit × Unit × Unit × Int) × ((List Int × Int × Int × Int × Int × Bool × Int × List PD × Bool × Int × Int) × List Bool × List Int))) => f5l5_s x.1.1 x.1.2.1 x.1.2.2.2.2.2 x.2.1.1 x.2.1.2.1 x.2.1.2.2.1 x.2.1.2.2.2.1 x.2.1.2.2.2.2.1 x.2.1.2.2.2.2.2.1 x.2.1.2.2.2.2.2.2.1 x.2.1.2.2.2.2.2.2.2.1 x.2.1.2.2.2.2.2.2.2.2.1 x.2.1.2.2.2.2.2.2.2.2.2.1 x.2.1.2.2.2.2.2.2.2.2.2.2 x.2.2.1 x.2.2.2
theorem f5j16_s (a1 : List Int) (a2 : List Int) (a3 : Int) (a4 : Int) (a5 : Int) (a6 : Int) (a7 : List Int) (a8 : Int) (a9 : Int) (a10 : Int) (a11 : Int) (a12 : Bool) (a13 : Int) (a14 : List PD) (a15 : Bool) (a16 : Int) (a17 : Int) (a18 : List Bool) (a19 : List Int) (a20 : List Int) (a21 : Int) (a22 : Int) (a23 : Int) (a24 : Int) (a25 : Bool) (a26 : Int) (a27 : List PD) (a28 : Bool) (a29 : Int) (a30 : Int) : joinC Try.prog f5C f5F ((5, toldL f5l5p f5l5x f5l5) :: []) [] 0 ((joinsAt 16 (codeOf Try.f5)).headD .skip) f5j16p f5j16x { keep := [0, 1, 4, 5, 6, 7, 9] } ((a1, a2, (), (), (), a3, a4, a5, (), a6), ((a7, a8, a9, a10, a11, a12, a13, a14, a15, a16, a17), a18, a19, (a20, a21, a22, a23, a24, a25, a26, a27, a28, a29, a30))) _ some = f5j16 ((a1, a2, (), (), (), a3, a4, a5, (), a6), ((a7, a8, a9, a10, a11, a12, a13, a14, a15, a16, a17), a18, a19, (a20, a21, a22, a23, a24, a25, a26, a27, a28, a29, a30))) := by kernel_rfl
theorem f5j16_t : ToldC Try.prog 0 (codeOf Try.f5) ((5, toldL f5l5p f5l5x f5l5) :: []) ((16, toldJ f5j16p f5j16x f5j16) :: []) :=
  ToldC.join f5F 0 f5l5_t f5C_ok 16 ((joinsAt 16 (codeOf Try.f5)).headD .skip) (by kernel_rfl) (p := f5j16p) (px := f5j16x) (g := f5j16) (ho := { keep := [0, 1, 4, 5, 6, 7, 9] }) fun (x : ((List Int × List Int × Unit × Unit × Unit × Int × Int × Int × Unit × Int) × ((List Int × Int × Int × Int × Int × Bool × Int × List PD × Bool × Int × Int) × List Bool × List Int × (List Int × Int × Int × Int × Int × Bool × Int × List PD × Bool × Int × Int)))) => f5j16_s x.1.1 x.1.2.1 x.1.2.2.2.2.2.1 x.1.2.2.2.2.2.2.1 x.1.2.2.2.2.2.2.2.1 x.1.2.2.2.2.2.2.2.2.2 x.2.1.1 x.2.1.2.1 x.2.1.2.2.1 x.2.1.2.2.2.1 x.2.1.2.2.2.2.1 x.2.1.2.2.2.2.2.1 x.2.1.2.2.2.2.2.2.1 x.2.1.2.2.2.2.2.2.2.1 x.2.1.2.2.2.2.2.2.2.2.1 x.2.1.2.2.2.2.2.2.2.2.2.1 x.2.1.2.2.2.2.2.2.2.2.2.2 x.2.2.1 x.2.2.2.1 x.2.2.2.2.1 x.2.2.2.2.2.1 x.2.2.2.2.2.2.1 x.2.2.2.2.2.2.2.1 x.2.2.2.2.2.2.2.2.1 x.2.2.2.2.2.2.2.2.2.1 x.2.2.2.2.2.2.2.2.2.2.1 x.2.2.2.2.2.2.2.2.2.2.2.1 x.2.2.2.2.2.2.2.2.2.2.2.2.1 x.2.2.2.2.2.2.2.2.2.2.2.2.2.1 x.2.2.2.2.2.2.2.2.2.2.2.2.2.2
theorem f5j11_s (a1 : List Int) (a2 : List Int) (a3 : Int) (a4 : List Int) (a5 : Int) (a6 : Int) (a7 : Int) (a8 : Int) (a9 : Bool) (a10 : Int) (a11 : List PD) (a12 : Bool) (a13 : Int) (a14 : Int) (a15 : List Bool) (a16 : List Int) : joinC Try.prog f5C f5F ((5, toldL f5l5p f5l5x f5l5) :: []) ((16, toldJ f5j16p f5j16x f5j16) :: []) 0 ((joinsAt 11 (codeOf Try.f5)).headD .skip) f5j11p f5j11x { keep := [0, 1, 4, 5, 6, 7, 9] } ((a1, a2, (), (), (), a3), ((a4, a5, a6, a7, a8, a9, a10, a11, a12, a13, a14), a15, a16)) _ some = f5j11 ((a1, a2, (), (), (), a3), ((a4, a5, a6, a7, a8, a9, a10, a11, a12, a13, a14), a15, a16)) := by kernel_rfl
theorem f5j11_t : ToldC Try.prog 0 (codeOf Try.f5) ((5, toldL f5l5p f5l5x f5l5) :: []) ((11, toldJ f5j11p f5j11x f5j11) :: ((16, toldJ f5j16p f5j16x f5j16) :: [])) :=
  ToldC.join f5F 0 f5j16_t f5C_ok 11 ((joinsAt 11 (codeOf Try.f5)).headD .skip) (by kernel_rfl) (p := f5j11p) (px := f5j11x) (g := f5j11) (ho := { keep := [0, 1, 4, 5, 6, 7, 9] }) fun (x : ((List Int × List Int × Unit × Unit × Unit × Int) × ((List Int × Int × Int × Int × Int × Bool × Int × List PD × Bool × Int × Int) × List Bool × List Int))) => f5j11_s x.1.1 x.1.2.1 x.1.2.2.2.2.2 x.2.1.1 x.2.1.2.1 x.2.1.2.2.1 x.2.1.2.2.2.1 x.2.1.2.2.2.2.1 x.2.1.2.2.2.2.2.1 x.2.1.2.2.2.2.2.2.1 x.2.1.2.2.2.2.2.2.2.1 x.2.1.2.2.2.2.2.2.2.2.1 x.2.1.2.2.2.2.2.2.2.2.2.1 x.2.1.2.2.2.2.2.2.2.2.2.2 x.2.2.1 x.2.2.2
theorem f5l9_s (a1 : List Int) (a2 : List Int) (a3 : Int) (a4 : List Int) (a5 : Int) (a6 : Int) (a7 : Int) (a8 : Int) (a9 : Bool) (a10 : Int) (a11 : List PD) (a12 : Bool) (a13 : Int) (a14 : Int) (a15 : List Bool) (a16 : List Int) : stepC Try.prog f5C f5F ((5, toldL f5l5p f5l5x f5l5) :: []) ((11, toldJ f5j11p f5j11x f5j11) :: ((16, toldJ f5j16p f5j16x f5j16) :: [])) 0 ((loopsAt 9 (codeOf Try.f5)).headD .skip) f5l9p f5l9x { keep := [0, 1, 5, 6, 7, 9] } { keep := [4] } ((a1, a2, (), (), (), a3), ((a4, a5, a6, a7, a8, a9, a10, a11, a12, a13, a14), a15, a16)) _ some = f5l9 ((a1, a2, (), (), (), a3), ((a4, a5, a6, a7, a8, a9, a10, a11, a12, a13, a14), a15, a16)) := by kernel_rfl
theorem f5l9_t : ToldC Try.prog 0 (codeOf Try.f5) ((9, toldL f5l9p f5l9x f5l9) :: ((5, toldL f5l5p f5l5x f5l5) :: [])) ((11, toldJ f5j11p f5j11x f5j11) :: ((16, toldJ f5j16p f5j16x f5j16) :: [])) :=
  ToldC.loop f5F 0 f5j11_t f5C_ok 9 ((loopsAt 9 (codeOf Try.f5)).headD .skip) (by kernel_rfl) (p := f5l9p) (px := f5l9x) (g := f5l9) (hi := { keep := [0, 1, 5, 6, 7, 9] }) (ho := { keep := [4] }) (by kernel_rfl) fun (x : ((List Int × List Int × Unit × Unit × Unit × Int) × ((List Int × Int × Int × Int × Int × Bool × Int × List PD × Bool × Int × Int) × List Bool × List Int))) => f5l9_s x.1.1 x.1.2.1 x.1.2.2.2.2.2 x.2.1.1 x.2.1.2.1 x.2.1.2.2.1 x.2.1.2.2.2.1 x.2.1.2.2.2.2.1 x.2.1.2.2.2.2.2.1 x.2.1.2.2.2.2.2.2.1 x.2.1.2.2.2.2.2.2.2.1 x.2.1.2.2.2.2.2.2.2.2.1 x.2.1.2.2.2.2.2.2.2.2.2.1 x.2.1.2.2.2.2.2.2.2.2.2.2 x.2.2.1 x.2.2.2
theorem f5_b (a1 : List Int) (a2 : List Int) : bodyC Try.prog f5C f5F ((9, toldL f5l9p f5l9x f5l9) :: ((5, toldL f5l5p f5l5x f5l5) :: [])) ((11, toldJ f5j11p f5j11x f5j11) :: ((16, toldJ f5j16p f5j16x f5j16) :: [])) { keep := [] } 5 (.cons (.nums .u8) (.nums .u8)) [] .bool [] (a1, a2) _ some = f5 a1 a2 := by kernel_rfl
noncomputable def f5W (x : TyA (.cons (.nums .u8) (.nums .u8)) []) : Option (TyR .bool []) := f5 x.1 x.2
theorem f5_ok : EntOK Try.prog 5 (ent (.cons (.nums .u8) (.nums .u8)) [] .bool [] f5W) :=
  ent_ok f5F f5C_ok (hp := []) (fn := Try.f5) (by kernel_rfl) f5l9_t fun (x : (List Int × List Int)) => f5_b x.1 x.2

end Go.Proofs.Ythoooflagabpoaa
