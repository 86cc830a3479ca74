/-
The functions of chapter 15 come to their values. Printed by a program.
-/
import Derived.Test.YtijjelcejpikiaaGreatDoorEvPv15
import Derived.Test.YtijjelcejpikiaaGreatDoorProg
import Derived.Test.YtijjelcejpikiaaGreatDoorEvSort15
set_option linter.unusedVariables false
namespace Go.Proofs.YtijjelcejpikiaaGreatDoor
open Go Go.Ev Go.Px
set_option maxRecDepth 100000
set_option maxHeartbeats 8000000

/-! credential_Validate: passkey/credential.Validate -/
noncomputable def credential_Validate_j7p : SP := { n := 79, ix := [1], p := (.ptr 0 0), hp := [(.cells (.cons .str (.cons .str (.cons .str (.cons (.int .u64) (.cons (.int .i64) (.cons .bool (.cons (.int .i64) (.cons .bool .bool)))))))))] }
noncomputable def credential_Validate_j7x : List (Ex × SP) := [(.ret, { n := 79, ix := [2], p := (.int .i64) }), (.norm, { n := 79, ix := [], p := .nil })]
noncomputable def credential_Validate_j5p : SP := { n := 79, ix := [1], p := (.ptr 0 0), hp := [(.cells (.cons .str (.cons .str (.cons .str (.cons (.int .u64) (.cons (.int .i64) (.cons .bool (.cons (.int .i64) (.cons .bool .bool)))))))))] }
noncomputable def credential_Validate_j5x : List (Ex × SP) := [(.ret, { n := 79, ix := [2], p := (.int .i64) }), (.norm, { n := 79, ix := [], p := .nil })]
noncomputable def credential_Validate_j3p : SP := { n := 79, ix := [1], p := (.ptr 0 0), hp := [(.cells (.cons .str (.cons .str (.cons .str (.cons (.int .u64) (.cons (.int .i64) (.cons .bool (.cons (.int .i64) (.cons .bool .bool)))))))))] }
noncomputable def credential_Validate_j3x : List (Ex × SP) := [(.ret, { n := 79, ix := [2], p := (.int .i64) }), (.norm, { n := 79, ix := [], p := .nil })]
noncomputable def credential_Validate_P : Pt := (.agg (.cons .str (.cons .str (.cons .str (.cons (.int .u64) (.cons (.int .i64) (.cons .bool (.cons (.int .i64) (.cons .bool .bool)))))))))
noncomputable def credential_Validate_H : List Po := []
noncomputable def credential_Validate_R : Pt := (.int .i64)
noncomputable def credential_Validate_G : List Po := []
noncomputable def credential_Validate_V (f : ByteArray → ByteArray → ByteArray → Int → Int → Bool → Int → Bool → Bool → Option Int) (x : (ByteArray × ByteArray × ByteArray × Int × Int × Bool × Int × Bool × Bool)) : Option Int := f x.1 x.2.1 x.2.2.1 x.2.2.2.1 x.2.2.2.2.1 x.2.2.2.2.2.1 x.2.2.2.2.2.2.1 x.2.2.2.2.2.2.2.1 x.2.2.2.2.2.2.2.2
noncomputable def credential_Validate_C : Cal := tbl [(49, (ent utf8_ValidString_P utf8_ValidString_H utf8_ValidString_R utf8_ValidString_G utf8_ValidString_W))]
theorem credential_Validate_Cok : CalOK Tryz.prog credential_Validate_C ∧ CalNt credential_Validate_C := by
  unfold credential_Validate_C
  exact tbl_ok (by
    intro p hp
    simp only [List.mem_cons, List.not_mem_nil, or_false] at hp
    rcases hp with rfl
    exact utf8_ValidString_ok)
noncomputable def credential_Validate_FH : FH := { join := [(7, { keep := [1] }), (5, { keep := [1] }), (3, { keep := [1] })] }
theorem credential_Validate_j7_s (a1 : ByteArray) (a2 : ByteArray) (a3 : ByteArray) (a4 : Int) (a5 : Int) (a6 : Bool) (a7 : Int) (a8 : Bool) (a9 : Bool) : joinC Tryz.prog credential_Validate_C credential_Validate_FH [] [] 0 ((joinsAt 7 (codeOf Tryz.f15)).headD .skip) credential_Validate_j7p credential_Validate_j7x { keep := [2] } ((), (a1, a2, a3, a4, a5, a6, a7, a8, a9)) _ some = credential_Validate_j7 ((), (a1, a2, a3, a4, a5, a6, a7, a8, a9)) := by kernel_rfl
theorem credential_Validate_j7_t : ToldC Tryz.prog 0 (codeOf Tryz.f15) [] ((7, toldJ credential_Validate_j7p credential_Validate_j7x credential_Validate_j7) :: []) :=
  ToldC.join credential_Validate_FH 0 (ToldC.nil 0) credential_Validate_Cok 7 ((joinsAt 7 (codeOf Tryz.f15)).headD .skip) (by kernel_rfl) (p := credential_Validate_j7p) (px := credential_Validate_j7x) (g := credential_Validate_j7) (ho := { keep := [2] }) fun (x : (Unit × (ByteArray × ByteArray × ByteArray × Int × Int × Bool × Int × Bool × Bool))) => credential_Validate_j7_s x.2.1 x.2.2.1 x.2.2.2.1 x.2.2.2.2.1 x.2.2.2.2.2.1 x.2.2.2.2.2.2.1 x.2.2.2.2.2.2.2.1 x.2.2.2.2.2.2.2.2.1 x.2.2.2.2.2.2.2.2.2
theorem credential_Validate_j5_s (a1 : ByteArray) (a2 : ByteArray) (a3 : ByteArray) (a4 : Int) (a5 : Int) (a6 : Bool) (a7 : Int) (a8 : Bool) (a9 : Bool) : joinC Tryz.prog credential_Validate_C credential_Validate_FH [] ((7, toldJ credential_Validate_j7p credential_Validate_j7x credential_Validate_j7) :: []) 0 ((joinsAt 5 (codeOf Tryz.f15)).headD .skip) credential_Validate_j5p credential_Validate_j5x { keep := [2] } ((), (a1, a2, a3, a4, a5, a6, a7, a8, a9)) _ some = credential_Validate_j5 ((), (a1, a2, a3, a4, a5, a6, a7, a8, a9)) := by kernel_rfl
theorem credential_Validate_j5_t : ToldC Tryz.prog 0 (codeOf Tryz.f15) [] ((5, toldJ credential_Validate_j5p credential_Validate_j5x credential_Validate_j5) :: ((7, toldJ credential_Validate_j7p credential_Validate_j7x credential_Validate_j7) :: [])) :=
  ToldC.join credential_Validate_FH 0 credential_Validate_j7_t credential_Validate_Cok 5 ((joinsAt 5 (codeOf Tryz.f15)).headD .skip) (by kernel_rfl) (p := credential_Validate_j5p) (px := credential_Validate_j5x) (g := credential_Validate_j5) (ho := { keep := [2] }) fun (x : (Unit × (ByteArray × ByteArray × ByteArray × Int × Int × Bool × Int × Bool × Bool))) => credential_Validate_j5_s x.2.1 x.2.2.1 x.2.2.2.1 x.2.2.2.2.1 x.2.2.2.2.2.1 x.2.2.2.2.2.2.1 x.2.2.2.2.2.2.2.1 x.2.2.2.2.2.2.2.2.1 x.2.2.2.2.2.2.2.2.2
theorem credential_Validate_j3_s (a1 : ByteArray) (a2 : ByteArray) (a3 : ByteArray) (a4 : Int) (a5 : Int) (a6 : Bool) (a7 : Int) (a8 : Bool) (a9 : Bool) : joinC Tryz.prog credential_Validate_C credential_Validate_FH [] ((5, toldJ credential_Validate_j5p credential_Validate_j5x credential_Validate_j5) :: ((7, toldJ credential_Validate_j7p credential_Validate_j7x credential_Validate_j7) :: [])) 0 ((joinsAt 3 (codeOf Tryz.f15)).headD .skip) credential_Validate_j3p credential_Validate_j3x { keep := [2] } ((), (a1, a2, a3, a4, a5, a6, a7, a8, a9)) _ some = credential_Validate_j3 ((), (a1, a2, a3, a4, a5, a6, a7, a8, a9)) := by kernel_rfl
theorem credential_Validate_j3_t : ToldC Tryz.prog 0 (codeOf Tryz.f15) [] ((3, toldJ credential_Validate_j3p credential_Validate_j3x credential_Validate_j3) :: ((5, toldJ credential_Validate_j5p credential_Validate_j5x credential_Validate_j5) :: ((7, toldJ credential_Validate_j7p credential_Validate_j7x credential_Validate_j7) :: []))) :=
  ToldC.join credential_Validate_FH 0 credential_Validate_j5_t credential_Validate_Cok 3 ((joinsAt 3 (codeOf Tryz.f15)).headD .skip) (by kernel_rfl) (p := credential_Validate_j3p) (px := credential_Validate_j3x) (g := credential_Validate_j3) (ho := { keep := [2] }) fun (x : (Unit × (ByteArray × ByteArray × ByteArray × Int × Int × Bool × Int × Bool × Bool))) => credential_Validate_j3_s x.2.1 x.2.2.1 x.2.2.2.1 x.2.2.2.2.1 x.2.2.2.2.2.1 x.2.2.2.2.2.2.1 x.2.2.2.2.2.2.2.1 x.2.2.2.2.2.2.2.2.1 x.2.2.2.2.2.2.2.2.2
theorem credential_Validate_b (a1 : ByteArray) (a2 : ByteArray) (a3 : ByteArray) (a4 : Int) (a5 : Int) (a6 : Bool) (a7 : Int) (a8 : Bool) (a9 : Bool) : bodyC Tryz.prog credential_Validate_C credential_Validate_FH [] ((3, toldJ credential_Validate_j3p credential_Validate_j3x credential_Validate_j3) :: ((5, toldJ credential_Validate_j5p credential_Validate_j5x credential_Validate_j5) :: ((7, toldJ credential_Validate_j7p credential_Validate_j7x credential_Validate_j7) :: []))) { keep := [] } 15 credential_Validate_P credential_Validate_H credential_Validate_R credential_Validate_G (a1, a2, a3, a4, a5, a6, a7, a8, a9) _ some = credential_Validate a1 a2 a3 a4 a5 a6 a7 a8 a9 := by kernel_rfl
theorem credential_Validate_ok : EntOK Tryz.prog 15 (ent credential_Validate_P credential_Validate_H credential_Validate_R credential_Validate_G (credential_Validate_V (credential_Validate))) :=
  ent_ok credential_Validate_FH credential_Validate_Cok (hp := credential_Validate_H) (fn := Tryz.f15) (by kernel_rfl) credential_Validate_j3_t fun (x : (ByteArray × ByteArray × ByteArray × Int × Int × Bool × Int × Bool × Bool)) => credential_Validate_b x.1 x.2.1 x.2.2.1 x.2.2.2.1 x.2.2.2.2.1 x.2.2.2.2.2.1 x.2.2.2.2.2.2.1 x.2.2.2.2.2.2.2.1 x.2.2.2.2.2.2.2.2

/-! cbor_Text: passkey/cbor.Text -/
noncomputable def cbor_Text_P : Pt := .str
noncomputable def cbor_Text_H : List Po := []
noncomputable def cbor_Text_R : Pt := (.ref 0)
noncomputable def cbor_Text_G : List Po := [(.arrS 3 72 3)]
noncomputable def cbor_Text_V (f : ByteArray → Option (Unit × List PD)) (x : ByteArray) : Option (Unit × List PD) := f x
noncomputable def cbor_Text_C : Cal := tbl []
theorem cbor_Text_Cok : CalOK Tryz.prog cbor_Text_C ∧ CalNt cbor_Text_C := by
  unfold cbor_Text_C
  exact tbl_ok (by intro p hp; simp at hp)
noncomputable def cbor_Text_FH : FH := {}
theorem cbor_Text_b (a1 : ByteArray) : bodyC Tryz.prog cbor_Text_C cbor_Text_FH [] [] { keep := [] } 39 cbor_Text_P cbor_Text_H cbor_Text_R cbor_Text_G a1 _ some = cbor_Text a1 := by kernel_rfl
theorem cbor_Text_ok : EntOK Tryz.prog 39 (ent cbor_Text_P cbor_Text_H cbor_Text_R cbor_Text_G (cbor_Text_V (cbor_Text))) :=
  ent_ok cbor_Text_FH cbor_Text_Cok (hp := cbor_Text_H) (fn := Tryz.f39) (by kernel_rfl) (ToldC.nil 0) fun (x : ByteArray) => cbor_Text_b x

/-! cbor_Bytes: passkey/cbor.Bytes -/
noncomputable def cbor_Bytes_P : Pt := (.nums .u8)
noncomputable def cbor_Bytes_H : List Po := []
noncomputable def cbor_Bytes_R : Pt := (.ref 0)
noncomputable def cbor_Bytes_G : List Po := [(.arrS 3 72 3)]
noncomputable def cbor_Bytes_V (f : (List Int) → Option (Unit × List PD)) (x : List Int) : Option (Unit × List PD) := f x
noncomputable def cbor_Bytes_C : Cal := tbl []
theorem cbor_Bytes_Cok : CalOK Tryz.prog cbor_Bytes_C ∧ CalNt cbor_Bytes_C := by
  unfold cbor_Bytes_C
  exact tbl_ok (by intro p hp; simp at hp)
noncomputable def cbor_Bytes_FH : FH := {}
theorem cbor_Bytes_b (a1 : List Int) : bodyC Tryz.prog cbor_Bytes_C cbor_Bytes_FH [] [] { keep := [] } 40 cbor_Bytes_P cbor_Bytes_H cbor_Bytes_R cbor_Bytes_G a1 _ some = cbor_Bytes a1 := by kernel_rfl
theorem cbor_Bytes_ok : EntOK Tryz.prog 40 (ent cbor_Bytes_P cbor_Bytes_H cbor_Bytes_R cbor_Bytes_G (cbor_Bytes_V (cbor_Bytes))) :=
  ent_ok cbor_Bytes_FH cbor_Bytes_Cok (hp := cbor_Bytes_H) (fn := Tryz.f40) (by kernel_rfl) (ToldC.nil 0) fun (x : List Int) => cbor_Bytes_b x

/-! cbor_Uint: passkey/cbor.Uint -/
noncomputable def cbor_Uint_P : Pt := (.int .u64)
noncomputable def cbor_Uint_H : List Po := []
noncomputable def cbor_Uint_R : Pt := (.ref 0)
noncomputable def cbor_Uint_G : List Po := [(.arrS 3 72 3)]
noncomputable def cbor_Uint_V (f : Int → Option (Unit × List PD)) (x : Int) : Option (Unit × List PD) := f x
noncomputable def cbor_Uint_C : Cal := tbl []
theorem cbor_Uint_Cok : CalOK Tryz.prog cbor_Uint_C ∧ CalNt cbor_Uint_C := by
  unfold cbor_Uint_C
  exact tbl_ok (by intro p hp; simp at hp)
noncomputable def cbor_Uint_FH : FH := {}
theorem cbor_Uint_b (a1 : Int) : bodyC Tryz.prog cbor_Uint_C cbor_Uint_FH [] [] { keep := [] } 41 cbor_Uint_P cbor_Uint_H cbor_Uint_R cbor_Uint_G a1 _ some = cbor_Uint a1 := by kernel_rfl
theorem cbor_Uint_ok : EntOK Tryz.prog 41 (ent cbor_Uint_P cbor_Uint_H cbor_Uint_R cbor_Uint_G (cbor_Uint_V (cbor_Uint))) :=
  ent_ok cbor_Uint_FH cbor_Uint_Cok (hp := cbor_Uint_H) (fn := Tryz.f41) (by kernel_rfl) (ToldC.nil 0) fun (x : Int) => cbor_Uint_b x

/-! cbor_Bool: passkey/cbor.Bool -/
noncomputable def cbor_Bool_P : Pt := .bool
noncomputable def cbor_Bool_H : List Po := []
noncomputable def cbor_Bool_R : Pt := (.ref 0)
noncomputable def cbor_Bool_G : List Po := [(.arrS 3 72 3)]
noncomputable def cbor_Bool_V (f : Bool → Option (Unit × List PD)) (x : Bool) : Option (Unit × List PD) := f x
noncomputable def cbor_Bool_C : Cal := tbl []
theorem cbor_Bool_Cok : CalOK Tryz.prog cbor_Bool_C ∧ CalNt cbor_Bool_C := by
  unfold cbor_Bool_C
  exact tbl_ok (by intro p hp; simp at hp)
noncomputable def cbor_Bool_FH : FH := {}
theorem cbor_Bool_b (a1 : Bool) : bodyC Tryz.prog cbor_Bool_C cbor_Bool_FH [] [] { keep := [] } 42 cbor_Bool_P cbor_Bool_H cbor_Bool_R cbor_Bool_G a1 _ some = cbor_Bool a1 := by kernel_rfl
theorem cbor_Bool_ok : EntOK Tryz.prog 42 (ent cbor_Bool_P cbor_Bool_H cbor_Bool_R cbor_Bool_G (cbor_Bool_V (cbor_Bool))) :=
  ent_ok cbor_Bool_FH cbor_Bool_Cok (hp := cbor_Bool_H) (fn := Tryz.f42) (by kernel_rfl) (ToldC.nil 0) fun (x : Bool) => cbor_Bool_b x

/-! cbor_walk_isKey_c6d: (*passkey/cbor.walk).isKey -/
noncomputable def cbor_walk_isKey_c6d_P : Pt := (.ptr 0 0)
noncomputable def cbor_walk_isKey_c6d_H : List Po := [(.cells (.cons (.ref 1) (.cons (.int .i64) .bool))), (.arrS 3 181 3)]
noncomputable def cbor_walk_isKey_c6d_R : Pt := .bool
noncomputable def cbor_walk_isKey_c6d_G : List Po := [(.cells (.cons (.ref 1) (.cons (.int .i64) .bool))), (.arrS 3 181 3)]
noncomputable def cbor_walk_isKey_c6d_V (f : Int → Bool → (List PD) → Option (Bool × ((Unit × Int × Bool) × List PD))) (x : (Unit × ((Unit × Int × Bool) × List PD))) : Option (Bool × ((Unit × Int × Bool) × List PD)) := f x.2.1.2.1 x.2.1.2.2 x.2.2
noncomputable def cbor_walk_isKey_c6d_C : Cal := tbl []
theorem cbor_walk_isKey_c6d_Cok : CalOK Tryz.prog cbor_walk_isKey_c6d_C ∧ CalNt cbor_walk_isKey_c6d_C := by
  unfold cbor_walk_isKey_c6d_C
  exact tbl_ok (by intro p hp; simp at hp)
noncomputable def cbor_walk_isKey_c6d_FH : FH := {}
theorem cbor_walk_isKey_c6d_b (a1 : Int) (a2 : Bool) (a3 : List PD) : bodyC Tryz.prog cbor_walk_isKey_c6d_C cbor_walk_isKey_c6d_FH [] [] { keep := [] } 152 cbor_walk_isKey_c6d_P cbor_walk_isKey_c6d_H cbor_walk_isKey_c6d_R cbor_walk_isKey_c6d_G ((), (((), a1, a2), a3)) _ some = cbor_walk_isKey_c6d a1 a2 a3 := by kernel_rfl
theorem cbor_walk_isKey_c6d_ok : EntOK Tryz.prog 152 (ent cbor_walk_isKey_c6d_P cbor_walk_isKey_c6d_H cbor_walk_isKey_c6d_R cbor_walk_isKey_c6d_G (cbor_walk_isKey_c6d_V (cbor_walk_isKey_c6d))) :=
  ent_ok cbor_walk_isKey_c6d_FH cbor_walk_isKey_c6d_Cok (hp := cbor_walk_isKey_c6d_H) (fn := Tryz.f152) (by kernel_rfl) (ToldC.nil 2) fun (x : (Unit × ((Unit × Int × Bool) × List PD))) => cbor_walk_isKey_c6d_b x.2.1.2.1 x.2.1.2.2 x.2.2

/-! cbor_walk_enter_4d8: (*passkey/cbor.walk).enter -/
noncomputable def cbor_walk_enter_4d8_P : Pt := (.cons (.ptr 0 0) (.int .i64))
noncomputable def cbor_walk_enter_4d8_H : List Po := [(.cells (.cons (.ref 1) (.cons (.int .i64) .bool))), (.arrS 3 181 3)]
noncomputable def cbor_walk_enter_4d8_R : Pt := (.int .i64)
noncomputable def cbor_walk_enter_4d8_G : List Po := [(.cells (.cons (.ref 1) (.cons (.int .i64) .bool))), (.arrS 3 181 3)]
noncomputable def cbor_walk_enter_4d8_V (f : Int → Int → Bool → (List PD) → Option (Int × ((Unit × Int × Bool) × List PD))) (x : ((Unit × Int) × ((Unit × Int × Bool) × List PD))) : Option (Int × ((Unit × Int × Bool) × List PD)) := f x.1.2 x.2.1.2.1 x.2.1.2.2 x.2.2
noncomputable def cbor_walk_enter_4d8_C : Cal := tbl [(152, (ent cbor_walk_isKey_c6d_P cbor_walk_isKey_c6d_H cbor_walk_isKey_c6d_R cbor_walk_isKey_c6d_G (cbor_walk_isKey_c6d_V (cbor_walk_isKey_c6d))))]
theorem cbor_walk_enter_4d8_Cok : CalOK Tryz.prog cbor_walk_enter_4d8_C ∧ CalNt cbor_walk_enter_4d8_C := by
  unfold cbor_walk_enter_4d8_C
  exact tbl_ok (by
    intro p hp
    simp only [List.mem_cons, List.not_mem_nil, or_false] at hp
    rcases hp with rfl
    exact cbor_walk_isKey_c6d_ok)
noncomputable def cbor_walk_enter_4d8_FH : FH := {}
theorem cbor_walk_enter_4d8_b (a1 : Int) (a2 : Int) (a3 : Bool) (a4 : List PD) : bodyC Tryz.prog cbor_walk_enter_4d8_C cbor_walk_enter_4d8_FH [] [] { keep := [] } 110 cbor_walk_enter_4d8_P cbor_walk_enter_4d8_H cbor_walk_enter_4d8_R cbor_walk_enter_4d8_G (((), a1), (((), a2, a3), a4)) _ some = cbor_walk_enter_4d8 a1 a2 a3 a4 := by kernel_rfl
theorem cbor_walk_enter_4d8_ok : EntOK Tryz.prog 110 (ent cbor_walk_enter_4d8_P cbor_walk_enter_4d8_H cbor_walk_enter_4d8_R cbor_walk_enter_4d8_G (cbor_walk_enter_4d8_V (cbor_walk_enter_4d8))) :=
  ent_ok cbor_walk_enter_4d8_FH cbor_walk_enter_4d8_Cok (hp := cbor_walk_enter_4d8_H) (fn := Tryz.f110) (by kernel_rfl) (ToldC.nil 2) fun (x : ((Unit × Int) × ((Unit × Int × Bool) × List PD))) => cbor_walk_enter_4d8_b x.1.2 x.2.1.2.1 x.2.1.2.2 x.2.2

/-! cbor_misshapen: passkey/cbor.misshapen -/
noncomputable def cbor_misshapen_j8p : SP := { n := 33, ix := [1], p := (.ptr 0 0), hp := [(.cells (.cons (.int .i64) (.cons (.int .u64) .str)))] }
noncomputable def cbor_misshapen_j8x : List (Ex × SP) := [(.ret, { n := 33, ix := [2], p := .bool })]
noncomputable def cbor_misshapen_j9p : SP := { n := 33, ix := [1, 20], p := (.cons (.ptr 0 0) (.int .i64)), hp := [(.cells (.cons (.int .i64) (.cons (.int .u64) .str)))] }
noncomputable def cbor_misshapen_j9x : List (Ex × SP) := [(.ret, { n := 33, ix := [2], p := .bool }), (.norm, { n := 33, ix := [], p := .nil })]
noncomputable def cbor_misshapen_j2p : SP := { n := 33, ix := [1, 3], p := (.cons (.ptr 0 0) .bool), hp := [(.cells (.cons (.int .i64) (.cons (.int .u64) .str)))] }
noncomputable def cbor_misshapen_j2x : List (Ex × SP) := [(.ret, { n := 33, ix := [2], p := .bool })]
noncomputable def cbor_misshapen_P : Pt := (.agg (.cons (.int .i64) (.cons (.int .u64) .str)))
noncomputable def cbor_misshapen_H : List Po := []
noncomputable def cbor_misshapen_R : Pt := .bool
noncomputable def cbor_misshapen_G : List Po := []
noncomputable def cbor_misshapen_V (f : Int → Int → ByteArray → Option Bool) (x : (Int × Int × ByteArray)) : Option Bool := f x.1 x.2.1 x.2.2
noncomputable def cbor_misshapen_C : Cal := tbl []
theorem cbor_misshapen_Cok : CalOK Tryz.prog cbor_misshapen_C ∧ CalNt cbor_misshapen_C := by
  unfold cbor_misshapen_C
  exact tbl_ok (by intro p hp; simp at hp)
noncomputable def cbor_misshapen_FH : FH := { join := [(8, { keep := [1] }), (9, { keep := [1, 20] }), (2, { keep := [1, 3] })] }
theorem cbor_misshapen_j8_s (a1 : Int) (a2 : Int) (a3 : ByteArray) : joinC Tryz.prog cbor_misshapen_C cbor_misshapen_FH [] [] 0 ((joinsAt 8 (codeOf Tryz.f111)).headD .skip) cbor_misshapen_j8p cbor_misshapen_j8x { keep := [2] } ((), (a1, a2, a3)) _ some = cbor_misshapen_j8 ((), (a1, a2, a3)) := by kernel_rfl
theorem cbor_misshapen_j8_t : ToldC Tryz.prog 0 (codeOf Tryz.f111) [] ((8, toldJ cbor_misshapen_j8p cbor_misshapen_j8x cbor_misshapen_j8) :: []) :=
  ToldC.join cbor_misshapen_FH 0 (ToldC.nil 0) cbor_misshapen_Cok 8 ((joinsAt 8 (codeOf Tryz.f111)).headD .skip) (by kernel_rfl) (p := cbor_misshapen_j8p) (px := cbor_misshapen_j8x) (g := cbor_misshapen_j8) (ho := { keep := [2] }) fun (x : (Unit × (Int × Int × ByteArray))) => cbor_misshapen_j8_s x.2.1 x.2.2.1 x.2.2.2
theorem cbor_misshapen_j9_s (a1 : Int) (a2 : Int) (a3 : Int) (a4 : ByteArray) : joinC Tryz.prog cbor_misshapen_C cbor_misshapen_FH [] ((8, toldJ cbor_misshapen_j8p cbor_misshapen_j8x cbor_misshapen_j8) :: []) 0 ((joinsAt 9 (codeOf Tryz.f111)).headD .skip) cbor_misshapen_j9p cbor_misshapen_j9x { keep := [2] } (((), a1), (a2, a3, a4)) _ some = cbor_misshapen_j9 (((), a1), (a2, a3, a4)) := by kernel_rfl
theorem cbor_misshapen_j9_t : ToldC Tryz.prog 0 (codeOf Tryz.f111) [] ((9, toldJ cbor_misshapen_j9p cbor_misshapen_j9x cbor_misshapen_j9) :: ((8, toldJ cbor_misshapen_j8p cbor_misshapen_j8x cbor_misshapen_j8) :: [])) :=
  ToldC.join cbor_misshapen_FH 0 cbor_misshapen_j8_t cbor_misshapen_Cok 9 ((joinsAt 9 (codeOf Tryz.f111)).headD .skip) (by kernel_rfl) (p := cbor_misshapen_j9p) (px := cbor_misshapen_j9x) (g := cbor_misshapen_j9) (ho := { keep := [2] }) fun (x : ((Unit × Int) × (Int × Int × ByteArray))) => cbor_misshapen_j9_s x.1.2 x.2.1 x.2.2.1 x.2.2.2
theorem cbor_misshapen_j2_s (a1 : Bool) (a2 : Int) (a3 : Int) (a4 : ByteArray) : joinC Tryz.prog cbor_misshapen_C cbor_misshapen_FH [] ((9, toldJ cbor_misshapen_j9p cbor_misshapen_j9x cbor_misshapen_j9) :: ((8, toldJ cbor_misshapen_j8p cbor_misshapen_j8x cbor_misshapen_j8) :: [])) 0 ((joinsAt 2 (codeOf Tryz.f111)).headD .skip) cbor_misshapen_j2p cbor_misshapen_j2x { keep := [2] } (((), a1), (a2, a3, a4)) _ some = cbor_misshapen_j2 (((), a1), (a2, a3, a4)) := by kernel_rfl
theorem cbor_misshapen_j2_t : ToldC Tryz.prog 0 (codeOf Tryz.f111) [] ((2, toldJ cbor_misshapen_j2p cbor_misshapen_j2x cbor_misshapen_j2) :: ((9, toldJ cbor_misshapen_j9p cbor_misshapen_j9x cbor_misshapen_j9) :: ((8, toldJ cbor_misshapen_j8p cbor_misshapen_j8x cbor_misshapen_j8) :: []))) :=
  ToldC.join cbor_misshapen_FH 0 cbor_misshapen_j9_t cbor_misshapen_Cok 2 ((joinsAt 2 (codeOf Tryz.f111)).headD .skip) (by kernel_rfl) (p := cbor_misshapen_j2p) (px := cbor_misshapen_j2x) (g := cbor_misshapen_j2) (ho := { keep := [2] }) fun (x : ((Unit × Bool) × (Int × Int × ByteArray))) => cbor_misshapen_j2_s x.1.2 x.2.1 x.2.2.1 x.2.2.2
theorem cbor_misshapen_b (a1 : Int) (a2 : Int) (a3 : ByteArray) : bodyC Tryz.prog cbor_misshapen_C cbor_misshapen_FH [] ((2, toldJ cbor_misshapen_j2p cbor_misshapen_j2x cbor_misshapen_j2) :: ((9, toldJ cbor_misshapen_j9p cbor_misshapen_j9x cbor_misshapen_j9) :: ((8, toldJ cbor_misshapen_j8p cbor_misshapen_j8x cbor_misshapen_j8) :: []))) { keep := [] } 111 cbor_misshapen_P cbor_misshapen_H cbor_misshapen_R cbor_misshapen_G (a1, a2, a3) _ some = cbor_misshapen a1 a2 a3 := by kernel_rfl
theorem cbor_misshapen_ok : EntOK Tryz.prog 111 (ent cbor_misshapen_P cbor_misshapen_H cbor_misshapen_R cbor_misshapen_G (cbor_misshapen_V (cbor_misshapen))) :=
  ent_ok cbor_misshapen_FH cbor_misshapen_Cok (hp := cbor_misshapen_H) (fn := Tryz.f111) (by kernel_rfl) cbor_misshapen_j2_t fun (x : (Int × Int × ByteArray)) => cbor_misshapen_b x.1 x.2.1 x.2.2

/-! cbor_tooLarge: passkey/cbor.tooLarge -/
noncomputable def cbor_tooLarge_j5p : SP := { n := 18, ix := [1, 4], p := (.cons (.ptr 0 0) (.int .i64)), hp := [(.cells (.cons (.int .i64) (.cons (.int .u64) .str)))] }
noncomputable def cbor_tooLarge_j5x : List (Ex × SP) := [(.ret, { n := 18, ix := [2], p := .bool }), (.norm, { n := 18, ix := [], p := .nil })]
noncomputable def cbor_tooLarge_P : Pt := (.agg (.cons (.int .i64) (.cons (.int .u64) .str)))
noncomputable def cbor_tooLarge_H : List Po := []
noncomputable def cbor_tooLarge_R : Pt := .bool
noncomputable def cbor_tooLarge_G : List Po := []
noncomputable def cbor_tooLarge_V (f : Int → Int → ByteArray → Option Bool) (x : (Int × Int × ByteArray)) : Option Bool := f x.1 x.2.1 x.2.2
noncomputable def cbor_tooLarge_C : Cal := tbl []
theorem cbor_tooLarge_Cok : CalOK Tryz.prog cbor_tooLarge_C ∧ CalNt cbor_tooLarge_C := by
  unfold cbor_tooLarge_C
  exact tbl_ok (by intro p hp; simp at hp)
noncomputable def cbor_tooLarge_FH : FH := { join := [(5, { keep := [1, 4] })] }
theorem cbor_tooLarge_j5_s (a1 : Int) (a2 : Int) (a3 : Int) (a4 : ByteArray) : joinC Tryz.prog cbor_tooLarge_C cbor_tooLarge_FH [] [] 0 ((joinsAt 5 (codeOf Tryz.f112)).headD .skip) cbor_tooLarge_j5p cbor_tooLarge_j5x { keep := [2] } (((), a1), (a2, a3, a4)) _ some = cbor_tooLarge_j5 (((), a1), (a2, a3, a4)) := by kernel_rfl
theorem cbor_tooLarge_j5_t : ToldC Tryz.prog 0 (codeOf Tryz.f112) [] ((5, toldJ cbor_tooLarge_j5p cbor_tooLarge_j5x cbor_tooLarge_j5) :: []) :=
  ToldC.join cbor_tooLarge_FH 0 (ToldC.nil 0) cbor_tooLarge_Cok 5 ((joinsAt 5 (codeOf Tryz.f112)).headD .skip) (by kernel_rfl) (p := cbor_tooLarge_j5p) (px := cbor_tooLarge_j5x) (g := cbor_tooLarge_j5) (ho := { keep := [2] }) fun (x : ((Unit × Int) × (Int × Int × ByteArray))) => cbor_tooLarge_j5_s x.1.2 x.2.1 x.2.2.1 x.2.2.2
theorem cbor_tooLarge_b (a1 : Int) (a2 : Int) (a3 : ByteArray) : bodyC Tryz.prog cbor_tooLarge_C cbor_tooLarge_FH [] ((5, toldJ cbor_tooLarge_j5p cbor_tooLarge_j5x cbor_tooLarge_j5) :: []) { keep := [] } 112 cbor_tooLarge_P cbor_tooLarge_H cbor_tooLarge_R cbor_tooLarge_G (a1, a2, a3) _ some = cbor_tooLarge a1 a2 a3 := by kernel_rfl
theorem cbor_tooLarge_ok : EntOK Tryz.prog 112 (ent cbor_tooLarge_P cbor_tooLarge_H cbor_tooLarge_R cbor_tooLarge_G (cbor_tooLarge_V (cbor_tooLarge))) :=
  ent_ok cbor_tooLarge_FH cbor_tooLarge_Cok (hp := cbor_tooLarge_H) (fn := Tryz.f112) (by kernel_rfl) cbor_tooLarge_j5_t fun (x : (Int × Int × ByteArray)) => cbor_tooLarge_b x.1 x.2.1 x.2.2

/-! cbor_head: passkey/cbor.head -/
noncomputable def cbor_head_P : Pt := (.cons (.int .u8) (.int .u64))
noncomputable def cbor_head_H : List Po := []
noncomputable def cbor_head_R : Pt := (.ref 0)
noncomputable def cbor_head_G : List Po := [(.arrN 1 5 .u8)]
noncomputable def cbor_head_V (f : Int → Int → Option (Unit × List Int)) (x : (Int × Int)) : Option (Unit × List Int) := f x.1 x.2
noncomputable def cbor_head_C : Cal := tbl []
theorem cbor_head_Cok : CalOK Tryz.prog cbor_head_C ∧ CalNt cbor_head_C := by
  unfold cbor_head_C
  exact tbl_ok (by intro p hp; simp at hp)
noncomputable def cbor_head_FH : FH := {}
theorem cbor_head_b (a1 : Int) (a2 : Int) : bodyC Tryz.prog cbor_head_C cbor_head_FH [] [] { keep := [] } 114 cbor_head_P cbor_head_H cbor_head_R cbor_head_G (a1, a2) _ some = cbor_head a1 a2 := by kernel_rfl
theorem cbor_head_ok : EntOK Tryz.prog 114 (ent cbor_head_P cbor_head_H cbor_head_R cbor_head_G (cbor_head_V (cbor_head))) :=
  ent_ok cbor_head_FH cbor_head_Cok (hp := cbor_head_H) (fn := Tryz.f114) (by kernel_rfl) (ToldC.nil 0) fun (x : (Int × Int)) => cbor_head_b x.1 x.2

/-! cbor_encode: passkey/cbor.encode -/
noncomputable def cbor_encode_j8p : SP := { n := 37, ix := [1], p := (.ptr 0 0), hp := [(.cells (.cons (.int .i64) (.cons (.int .u64) .str)))] }
noncomputable def cbor_encode_j8x : List (Ex × SP) := [(.ret, { n := 37, ix := [2], p := (.ref 1), hp := [(.cells (.cons (.int .i64) (.cons (.int .u64) .str))), (.arrN 1 5 .u8)] })]
noncomputable def cbor_encode_P : Pt := (.agg (.cons (.int .i64) (.cons (.int .u64) .str)))
noncomputable def cbor_encode_H : List Po := []
noncomputable def cbor_encode_R : Pt := (.ref 0)
noncomputable def cbor_encode_G : List Po := [(.arrN 1 5 .u8)]
noncomputable def cbor_encode_V (f : Int → Int → ByteArray → Option (Unit × List Int)) (x : (Int × Int × ByteArray)) : Option (Unit × List Int) := f x.1 x.2.1 x.2.2
noncomputable def cbor_encode_C : Cal := tbl [(114, (ent cbor_head_P cbor_head_H cbor_head_R cbor_head_G (cbor_head_V (cbor_head))))]
theorem cbor_encode_Cok : CalOK Tryz.prog cbor_encode_C ∧ CalNt cbor_encode_C := by
  unfold cbor_encode_C
  exact tbl_ok (by
    intro p hp
    simp only [List.mem_cons, List.not_mem_nil, or_false] at hp
    rcases hp with rfl
    exact cbor_head_ok)
noncomputable def cbor_encode_FH : FH := { join := [(8, { keep := [1] })], see := [(8, [(1, [0]), (3, []), (5, [0]), (6, []), (7, []), (8, []), (10, [0])])] }
theorem cbor_encode_j8_s (a1 : Int) (a2 : Int) (a3 : ByteArray) : joinC Tryz.prog cbor_encode_C cbor_encode_FH [] [] 0 ((joinsAt 8 (codeOf Tryz.f75)).headD .skip) cbor_encode_j8p cbor_encode_j8x { keep := [1, 2] } ((), (a1, a2, a3)) _ some = cbor_encode_j8 ((), (a1, a2, a3)) := by kernel_rfl
theorem cbor_encode_j8_t : ToldC Tryz.prog 0 (codeOf Tryz.f75) [] ((8, toldJ cbor_encode_j8p cbor_encode_j8x cbor_encode_j8) :: []) :=
  ToldC.join cbor_encode_FH 0 (ToldC.nil 0) cbor_encode_Cok 8 ((joinsAt 8 (codeOf Tryz.f75)).headD .skip) (by kernel_rfl) (p := cbor_encode_j8p) (px := cbor_encode_j8x) (g := cbor_encode_j8) (ho := { keep := [1, 2] }) fun (x : (Unit × (Int × Int × ByteArray))) => cbor_encode_j8_s x.2.1 x.2.2.1 x.2.2.2
theorem cbor_encode_b (a1 : Int) (a2 : Int) (a3 : ByteArray) : bodyC Tryz.prog cbor_encode_C cbor_encode_FH [] ((8, toldJ cbor_encode_j8p cbor_encode_j8x cbor_encode_j8) :: []) { keep := [] } 75 cbor_encode_P cbor_encode_H cbor_encode_R cbor_encode_G (a1, a2, a3) _ some = cbor_encode a1 a2 a3 := by kernel_rfl
theorem cbor_encode_ok : EntOK Tryz.prog 75 (ent cbor_encode_P cbor_encode_H cbor_encode_R cbor_encode_G (cbor_encode_V (cbor_encode))) :=
  ent_ok cbor_encode_FH cbor_encode_Cok (hp := cbor_encode_H) (fn := Tryz.f75) (by kernel_rfl) cbor_encode_j8_t fun (x : (Int × Int × ByteArray)) => cbor_encode_b x.1 x.2.1 x.2.2

/-! cbor_walk_content_99f: (*passkey/cbor.walk).content -/
noncomputable def cbor_walk_content_99f_l18p : SP := { n := 174, ix := [0], p := (.ptr 0 0), hp := [(.cells (.cons (.ref 2) (.cons (.int .i64) .bool))), .dead, (.arrS 3 181 3)] }
noncomputable def cbor_walk_content_99f_l18x : List (Ex × SP) := [((.exit 1), { n := 174, ix := [0], p := (.ptr 0 0), hp := [(.cells (.cons (.ref 2) (.cons (.int .i64) .bool))), .dead, (.arrS 3 181 3)] })]
noncomputable def cbor_walk_content_99f_j18p : SP := { n := 174, ix := [0], p := (.ptr 0 0), hp := [(.cells (.cons (.ref 2) (.cons (.int .i64) .bool))), .dead, (.arrS 3 181 3)] }
noncomputable def cbor_walk_content_99f_j18x : List (Ex × SP) := [(.ret, { n := 174, ix := [4], p := (.int .i64), hp := [(.cells (.cons (.ref 2) (.cons (.int .i64) .bool))), .dead, (.arrS 3 181 3)] })]
noncomputable def cbor_walk_content_99f_j13p : SP := { n := 174, ix := [0, 3], p := (.cons (.ptr 0 0) (.ptr 2 0)), hp := [(.cells (.cons (.ref 1) (.cons (.int .i64) .bool))), (.arrS 3 181 3), (.cells (.cons (.int .i64) (.cons (.int .u64) .str)))] }
noncomputable def cbor_walk_content_99f_j13x : List (Ex × SP) := [(.ret, { n := 174, ix := [4], p := (.int .i64), hp := [(.cells (.cons (.ref 2) (.cons (.int .i64) .bool))), .dead, (.arrS 3 181 3)] })]
noncomputable def cbor_walk_content_99f_j9p : SP := { n := 174, ix := [0, 3], p := (.cons (.ptr 0 0) (.ptr 2 0)), hp := [(.cells (.cons (.ref 1) (.cons (.int .i64) .bool))), (.arrS 3 181 3), (.cells (.cons (.int .i64) (.cons (.int .u64) .str)))] }
noncomputable def cbor_walk_content_99f_j9x : List (Ex × SP) := [(.ret, { n := 174, ix := [4], p := (.int .i64), hp := [(.cells (.cons (.ref 2) (.cons (.int .i64) .bool))), .dead, (.arrS 3 181 3)] })]
noncomputable def cbor_walk_content_99f_P : Pt := (.cons (.ptr 0 0) (.agg (.cons (.int .i64) (.cons (.int .u64) .str))))
noncomputable def cbor_walk_content_99f_H : List Po := [(.cells (.cons (.ref 1) (.cons (.int .i64) .bool))), (.arrS 3 181 3)]
noncomputable def cbor_walk_content_99f_R : Pt := (.int .i64)
noncomputable def cbor_walk_content_99f_G : List Po := [(.cells (.cons (.ref 2) (.cons (.int .i64) .bool))), .dead, (.arrS 3 181 3)]
noncomputable def cbor_walk_content_99f_V (f : Int → Int → ByteArray → Int → Bool → (List PD) → Option (Int × ((Unit × Int × Bool) × Unit × List PD))) (x : ((Unit × (Int × Int × ByteArray)) × ((Unit × Int × Bool) × List PD))) : Option (Int × ((Unit × Int × Bool) × Unit × List PD)) := f x.1.2.1 x.1.2.2.1 x.1.2.2.2 x.2.1.2.1 x.2.1.2.2 x.2.2
noncomputable def cbor_walk_content_99f_C : Cal := tbl [(49, (ent utf8_ValidString_P utf8_ValidString_H utf8_ValidString_R utf8_ValidString_G utf8_ValidString_W)), (152, (ent cbor_walk_isKey_c6d_P cbor_walk_isKey_c6d_H cbor_walk_isKey_c6d_R cbor_walk_isKey_c6d_G (cbor_walk_isKey_c6d_V (cbor_walk_isKey_c6d)))), (75, (ent cbor_encode_P cbor_encode_H cbor_encode_R cbor_encode_G (cbor_encode_V (cbor_encode))))]
theorem cbor_walk_content_99f_Cok : CalOK Tryz.prog cbor_walk_content_99f_C ∧ CalNt cbor_walk_content_99f_C := by
  unfold cbor_walk_content_99f_C
  exact tbl_ok (by
    intro p hp
    simp only [List.mem_cons, List.not_mem_nil, or_false] at hp
    rcases hp with rfl | rfl | rfl
    · exact utf8_ValidString_ok
    · exact cbor_walk_isKey_c6d_ok
    · exact cbor_encode_ok)
noncomputable def cbor_walk_content_99f_FH : FH := { join := [(18, { keep := [0], mv := [(0, 0)] }), (13, { keep := [0, 3] }), (9, { keep := [0, 3] })], loops := [(18, { keep := [0] }, { keep := [0, 4] })], ops := [(19, [(11, .take)])], see := [(4, [(3, [0]), (7, [0]), (8, [1])]), (15, [(4, [0]), (6, [2]), (7, []), (9, [])]), (17, [(4, [0]), (6, [2]), (7, []), (10, [])]), (18, [(10, [0]), (14, [0]), (15, [2])]), (19, [(4, [0]), (8, [0]), (9, [2])])] }
theorem cbor_walk_content_99f_l18_s (a1 : Int) (a2 : Bool) (a3 : List PD) : stepC Tryz.prog cbor_walk_content_99f_C cbor_walk_content_99f_FH [] [] 2 ((loopsAt 18 (codeOf Tryz.f113)).headD .skip) cbor_walk_content_99f_l18p cbor_walk_content_99f_l18x { keep := [0] } { keep := [0, 4] } ((), (((), a1, a2), (), a3)) _ some = cbor_walk_content_99f_l18 ((), (((), a1, a2), (), a3)) := by kernel_rfl
theorem cbor_walk_content_99f_l18_t : ToldC Tryz.prog 2 (codeOf Tryz.f113) ((18, toldL cbor_walk_content_99f_l18p cbor_walk_content_99f_l18x cbor_walk_content_99f_l18) :: []) [] :=
  ToldC.loop cbor_walk_content_99f_FH 2 (ToldC.nil 2) cbor_walk_content_99f_Cok 18 ((loopsAt 18 (codeOf Tryz.f113)).headD .skip) (by kernel_rfl) (p := cbor_walk_content_99f_l18p) (px := cbor_walk_content_99f_l18x) (g := cbor_walk_content_99f_l18) (hi := { keep := [0] }) (ho := { keep := [0, 4] }) (by kernel_rfl) fun (x : (Unit × ((Unit × Int × Bool) × Unit × List PD))) => cbor_walk_content_99f_l18_s x.2.1.2.1 x.2.1.2.2 x.2.2.2
theorem cbor_walk_content_99f_j18_s (a1 : Int) (a2 : Bool) (a3 : List PD) : joinC Tryz.prog cbor_walk_content_99f_C cbor_walk_content_99f_FH ((18, toldL cbor_walk_content_99f_l18p cbor_walk_content_99f_l18x cbor_walk_content_99f_l18) :: []) [] 2 ((joinsAt 18 (codeOf Tryz.f113)).headD .skip) cbor_walk_content_99f_j18p cbor_walk_content_99f_j18x { keep := [4] } ((), (((), a1, a2), (), a3)) _ some = cbor_walk_content_99f_j18 ((), (((), a1, a2), (), a3)) := by kernel_rfl
theorem cbor_walk_content_99f_j18_t : ToldC Tryz.prog 2 (codeOf Tryz.f113) ((18, toldL cbor_walk_content_99f_l18p cbor_walk_content_99f_l18x cbor_walk_content_99f_l18) :: []) ((18, toldJ cbor_walk_content_99f_j18p cbor_walk_content_99f_j18x cbor_walk_content_99f_j18) :: []) :=
  ToldC.join cbor_walk_content_99f_FH 2 cbor_walk_content_99f_l18_t cbor_walk_content_99f_Cok 18 ((joinsAt 18 (codeOf Tryz.f113)).headD .skip) (by kernel_rfl) (p := cbor_walk_content_99f_j18p) (px := cbor_walk_content_99f_j18x) (g := cbor_walk_content_99f_j18) (ho := { keep := [4] }) fun (x : (Unit × ((Unit × Int × Bool) × Unit × List PD))) => cbor_walk_content_99f_j18_s x.2.1.2.1 x.2.1.2.2 x.2.2.2
theorem cbor_walk_content_99f_j13_s (a1 : Int) (a2 : Bool) (a3 : List PD) (a4 : Int) (a5 : Int) (a6 : ByteArray) : joinC Tryz.prog cbor_walk_content_99f_C cbor_walk_content_99f_FH ((18, toldL cbor_walk_content_99f_l18p cbor_walk_content_99f_l18x cbor_walk_content_99f_l18) :: []) ((18, toldJ cbor_walk_content_99f_j18p cbor_walk_content_99f_j18x cbor_walk_content_99f_j18) :: []) 2 ((joinsAt 13 (codeOf Tryz.f113)).headD .skip) cbor_walk_content_99f_j13p cbor_walk_content_99f_j13x { keep := [4] } (((), ()), (((), a1, a2), a3, (a4, a5, a6))) _ some = cbor_walk_content_99f_j13 (((), ()), (((), a1, a2), a3, (a4, a5, a6))) := by kernel_rfl
theorem cbor_walk_content_99f_j13_t : ToldC Tryz.prog 2 (codeOf Tryz.f113) ((18, toldL cbor_walk_content_99f_l18p cbor_walk_content_99f_l18x cbor_walk_content_99f_l18) :: []) ((13, toldJ cbor_walk_content_99f_j13p cbor_walk_content_99f_j13x cbor_walk_content_99f_j13) :: ((18, toldJ cbor_walk_content_99f_j18p cbor_walk_content_99f_j18x cbor_walk_content_99f_j18) :: [])) :=
  ToldC.join cbor_walk_content_99f_FH 2 cbor_walk_content_99f_j18_t cbor_walk_content_99f_Cok 13 ((joinsAt 13 (codeOf Tryz.f113)).headD .skip) (by kernel_rfl) (p := cbor_walk_content_99f_j13p) (px := cbor_walk_content_99f_j13x) (g := cbor_walk_content_99f_j13) (ho := { keep := [4] }) fun (x : ((Unit × Unit) × ((Unit × Int × Bool) × List PD × (Int × Int × ByteArray)))) => cbor_walk_content_99f_j13_s x.2.1.2.1 x.2.1.2.2 x.2.2.1 x.2.2.2.1 x.2.2.2.2.1 x.2.2.2.2.2
theorem cbor_walk_content_99f_j9_s (a1 : Int) (a2 : Bool) (a3 : List PD) (a4 : Int) (a5 : Int) (a6 : ByteArray) : joinC Tryz.prog cbor_walk_content_99f_C cbor_walk_content_99f_FH ((18, toldL cbor_walk_content_99f_l18p cbor_walk_content_99f_l18x cbor_walk_content_99f_l18) :: []) ((13, toldJ cbor_walk_content_99f_j13p cbor_walk_content_99f_j13x cbor_walk_content_99f_j13) :: ((18, toldJ cbor_walk_content_99f_j18p cbor_walk_content_99f_j18x cbor_walk_content_99f_j18) :: [])) 2 ((joinsAt 9 (codeOf Tryz.f113)).headD .skip) cbor_walk_content_99f_j9p cbor_walk_content_99f_j9x { keep := [4] } (((), ()), (((), a1, a2), a3, (a4, a5, a6))) _ some = cbor_walk_content_99f_j9 (((), ()), (((), a1, a2), a3, (a4, a5, a6))) := by kernel_rfl
theorem cbor_walk_content_99f_j9_t : ToldC Tryz.prog 2 (codeOf Tryz.f113) ((18, toldL cbor_walk_content_99f_l18p cbor_walk_content_99f_l18x cbor_walk_content_99f_l18) :: []) ((9, toldJ cbor_walk_content_99f_j9p cbor_walk_content_99f_j9x cbor_walk_content_99f_j9) :: ((13, toldJ cbor_walk_content_99f_j13p cbor_walk_content_99f_j13x cbor_walk_content_99f_j13) :: ((18, toldJ cbor_walk_content_99f_j18p cbor_walk_content_99f_j18x cbor_walk_content_99f_j18) :: []))) :=
  ToldC.join cbor_walk_content_99f_FH 2 cbor_walk_content_99f_j13_t cbor_walk_content_99f_Cok 9 ((joinsAt 9 (codeOf Tryz.f113)).headD .skip) (by kernel_rfl) (p := cbor_walk_content_99f_j9p) (px := cbor_walk_content_99f_j9x) (g := cbor_walk_content_99f_j9) (ho := { keep := [4] }) fun (x : ((Unit × Unit) × ((Unit × Int × Bool) × List PD × (Int × Int × ByteArray)))) => cbor_walk_content_99f_j9_s x.2.1.2.1 x.2.1.2.2 x.2.2.1 x.2.2.2.1 x.2.2.2.2.1 x.2.2.2.2.2
theorem cbor_walk_content_99f_b (a1 : Int) (a2 : Int) (a3 : ByteArray) (a4 : Int) (a5 : Bool) (a6 : List PD) : bodyC Tryz.prog cbor_walk_content_99f_C cbor_walk_content_99f_FH ((18, toldL cbor_walk_content_99f_l18p cbor_walk_content_99f_l18x cbor_walk_content_99f_l18) :: []) ((9, toldJ cbor_walk_content_99f_j9p cbor_walk_content_99f_j9x cbor_walk_content_99f_j9) :: ((13, toldJ cbor_walk_content_99f_j13p cbor_walk_content_99f_j13x cbor_walk_content_99f_j13) :: ((18, toldJ cbor_walk_content_99f_j18p cbor_walk_content_99f_j18x cbor_walk_content_99f_j18) :: []))) { keep := [], mv := [(0, 0)] } 113 cbor_walk_content_99f_P cbor_walk_content_99f_H cbor_walk_content_99f_R cbor_walk_content_99f_G (((), (a1, a2, a3)), (((), a4, a5), a6)) _ some = cbor_walk_content_99f a1 a2 a3 a4 a5 a6 := by kernel_rfl
theorem cbor_walk_content_99f_ok : EntOK Tryz.prog 113 (ent cbor_walk_content_99f_P cbor_walk_content_99f_H cbor_walk_content_99f_R cbor_walk_content_99f_G (cbor_walk_content_99f_V (cbor_walk_content_99f))) :=
  ent_ok cbor_walk_content_99f_FH cbor_walk_content_99f_Cok (hp := cbor_walk_content_99f_H) (fn := Tryz.f113) (by kernel_rfl) cbor_walk_content_99f_j9_t fun (x : ((Unit × (Int × Int × ByteArray)) × ((Unit × Int × Bool) × List PD))) => cbor_walk_content_99f_b x.1.2.1 x.1.2.2.1 x.1.2.2.2 x.2.1.2.1 x.2.1.2.2 x.2.2

/-! cbor_Validate: passkey/cbor.Validate -/
noncomputable def cbor_Validate_l3p : SP := { n := 43, ix := [3, 10, 11, 12], p := (.cons (.ptr 0 0) (.cons (.sl 3) (.cons (.int .i64) (.int .i64)))), hp := [(.cells (.cons (.ref 1) (.cons (.int .i64) .bool))), (.arrS 3 181 3)] }
noncomputable def cbor_Validate_l3x : List (Ex × SP) := [(.ret, { n := 43, ix := [2], p := (.int .i64), hp := [(.cells (.cons (.ref 1) (.cons (.int .i64) .bool))), (.arrS 3 181 3)] }), ((.exit 0), { n := 43, ix := [3], p := (.ptr 0 0), hp := [(.cells (.cons (.ref 1) (.cons (.int .i64) .bool))), (.arrS 3 181 3)] })]
noncomputable def cbor_Validate_P : Pt := (.sl 3)
noncomputable def cbor_Validate_H : List Po := []
noncomputable def cbor_Validate_R : Pt := (.int .i64)
noncomputable def cbor_Validate_G : List Po := []
noncomputable def cbor_Validate_V (f : (List PD) → Option Int) (x : List PD) : Option Int := f x
noncomputable def cbor_Validate_C : Cal := tbl [(110, (ent cbor_walk_enter_4d8_P cbor_walk_enter_4d8_H cbor_walk_enter_4d8_R cbor_walk_enter_4d8_G (cbor_walk_enter_4d8_V (cbor_walk_enter_4d8)))), (111, (ent cbor_misshapen_P cbor_misshapen_H cbor_misshapen_R cbor_misshapen_G (cbor_misshapen_V (cbor_misshapen)))), (112, (ent cbor_tooLarge_P cbor_tooLarge_H cbor_tooLarge_R cbor_tooLarge_G (cbor_tooLarge_V (cbor_tooLarge)))), (113, (ent cbor_walk_content_99f_P cbor_walk_content_99f_H cbor_walk_content_99f_R cbor_walk_content_99f_G (cbor_walk_content_99f_V (cbor_walk_content_99f))))]
theorem cbor_Validate_Cok : CalOK Tryz.prog cbor_Validate_C ∧ CalNt cbor_Validate_C := by
  unfold cbor_Validate_C
  exact tbl_ok (by
    intro p hp
    simp only [List.mem_cons, List.not_mem_nil, or_false] at hp
    rcases hp with rfl | rfl | rfl | rfl
    · exact cbor_walk_enter_4d8_ok
    · exact cbor_misshapen_ok
    · exact cbor_tooLarge_ok
    · exact cbor_walk_content_99f_ok)
noncomputable def cbor_Validate_FH : FH := { loops := [(3, { keep := [3, 10, 11, 12], ownC := [(3, 0, 181)] }, { keep := [2, 3] })] }
theorem cbor_Validate_l3_s (a1 : List PD) (a2 : Int) (a3 : Int) (a4 : Int) (a5 : Bool) (a6 : List PD) : stepC Tryz.prog cbor_Validate_C cbor_Validate_FH [] [] 0 ((loopsAt 3 (codeOf Tryz.f74)).headD .skip) cbor_Validate_l3p cbor_Validate_l3x { keep := [3, 10, 11, 12], ownC := [(3, 0, 181)] } { keep := [2, 3] } (((), a1, a2, a3), (((), a4, a5), a6)) _ some = cbor_Validate_l3 (((), a1, a2, a3), (((), a4, a5), a6)) := by kernel_rfl
theorem cbor_Validate_l3_t : ToldC Tryz.prog 0 (codeOf Tryz.f74) ((3, toldL cbor_Validate_l3p cbor_Validate_l3x cbor_Validate_l3) :: []) [] :=
  ToldC.loop cbor_Validate_FH 0 (ToldC.nil 0) cbor_Validate_Cok 3 ((loopsAt 3 (codeOf Tryz.f74)).headD .skip) (by kernel_rfl) (p := cbor_Validate_l3p) (px := cbor_Validate_l3x) (g := cbor_Validate_l3) (hi := { keep := [3, 10, 11, 12], ownC := [(3, 0, 181)] }) (ho := { keep := [2, 3] }) (by kernel_rfl) fun (x : ((Unit × List PD × Int × Int) × ((Unit × Int × Bool) × List PD))) => cbor_Validate_l3_s x.1.2.1 x.1.2.2.1 x.1.2.2.2 x.2.1.2.1 x.2.1.2.2 x.2.2
theorem cbor_Validate_b (a1 : List PD) : bodyC Tryz.prog cbor_Validate_C cbor_Validate_FH ((3, toldL cbor_Validate_l3p cbor_Validate_l3x cbor_Validate_l3) :: []) [] { keep := [] } 74 cbor_Validate_P cbor_Validate_H cbor_Validate_R cbor_Validate_G a1 _ some = cbor_Validate a1 := by kernel_rfl
theorem cbor_Validate_ok : EntOK Tryz.prog 74 (ent cbor_Validate_P cbor_Validate_H cbor_Validate_R cbor_Validate_G (cbor_Validate_V (cbor_Validate))) :=
  ent_ok cbor_Validate_FH cbor_Validate_Cok (hp := cbor_Validate_H) (fn := Tryz.f74) (by kernel_rfl) cbor_Validate_l3_t fun (x : List PD) => cbor_Validate_b x

/-! cbor_valid: passkey/cbor.valid -/
noncomputable def cbor_valid_l2p : SP := { n := 18, ix := [6, 7, 8], p := (.cons (.sl 1) (.cons (.int .i64) (.int .i64))) }
noncomputable def cbor_valid_l2x : List (Ex × SP) := [(.ret, { n := 18, ix := [2], p := (.int .i64) }), ((.exit 0), { n := 18, ix := [], p := .nil })]
noncomputable def cbor_valid_P : Pt := (.sl 1)
noncomputable def cbor_valid_H : List Po := []
noncomputable def cbor_valid_R : Pt := (.int .i64)
noncomputable def cbor_valid_G : List Po := []
noncomputable def cbor_valid_V (f : (List PD) → Option Int) (x : List PD) : Option Int := f x
noncomputable def cbor_valid_C : Cal := tbl [(74, (ent cbor_Validate_P cbor_Validate_H cbor_Validate_R cbor_Validate_G (cbor_Validate_V (cbor_Validate))))]
theorem cbor_valid_Cok : CalOK Tryz.prog cbor_valid_C ∧ CalNt cbor_valid_C := by
  unfold cbor_valid_C
  exact tbl_ok (by
    intro p hp
    simp only [List.mem_cons, List.not_mem_nil, or_false] at hp
    rcases hp with rfl
    exact cbor_Validate_ok)
noncomputable def cbor_valid_FH : FH := { loops := [(2, { keep := [6, 7, 8] }, { keep := [2] })] }
theorem cbor_valid_l2_s (a1 : List PD) (a2 : Int) (a3 : Int) : stepC Tryz.prog cbor_valid_C cbor_valid_FH [] [] 0 ((loopsAt 2 (codeOf Tryz.f72)).headD .skip) cbor_valid_l2p cbor_valid_l2x { keep := [6, 7, 8] } { keep := [2] } (a1, a2, a3) _ some = cbor_valid_l2 (a1, a2, a3) := by kernel_rfl
theorem cbor_valid_l2_t : ToldC Tryz.prog 0 (codeOf Tryz.f72) ((2, toldL cbor_valid_l2p cbor_valid_l2x cbor_valid_l2) :: []) [] :=
  ToldC.loop cbor_valid_FH 0 (ToldC.nil 0) cbor_valid_Cok 2 ((loopsAt 2 (codeOf Tryz.f72)).headD .skip) (by kernel_rfl) (p := cbor_valid_l2p) (px := cbor_valid_l2x) (g := cbor_valid_l2) (hi := { keep := [6, 7, 8] }) (ho := { keep := [2] }) (by kernel_rfl) fun (x : (List PD × Int × Int)) => cbor_valid_l2_s x.1 x.2.1 x.2.2
theorem cbor_valid_b (a1 : List PD) : bodyC Tryz.prog cbor_valid_C cbor_valid_FH ((2, toldL cbor_valid_l2p cbor_valid_l2x cbor_valid_l2) :: []) [] { keep := [] } 72 cbor_valid_P cbor_valid_H cbor_valid_R cbor_valid_G a1 _ some = cbor_valid a1 := by kernel_rfl
theorem cbor_valid_ok : EntOK Tryz.prog 72 (ent cbor_valid_P cbor_valid_H cbor_valid_R cbor_valid_G (cbor_valid_V (cbor_valid))) :=
  ent_ok cbor_valid_FH cbor_valid_Cok (hp := cbor_valid_H) (fn := Tryz.f72) (by kernel_rfl) cbor_valid_l2_t fun (x : List PD) => cbor_valid_b x

/-! cbor_checked: passkey/cbor.checked -/
noncomputable def cbor_checked_P : Pt := (.sl 3)
noncomputable def cbor_checked_H : List Po := []
noncomputable def cbor_checked_R : Pt := (.tup (.cons (.sl 3) (.int .i64)))
noncomputable def cbor_checked_G : List Po := []
noncomputable def cbor_checked_V (f : (List PD) → Option (List PD × Int)) (x : List PD) : Option (List PD × Int) := f x
noncomputable def cbor_checked_C : Cal := tbl [(74, (ent cbor_Validate_P cbor_Validate_H cbor_Validate_R cbor_Validate_G (cbor_Validate_V (cbor_Validate))))]
theorem cbor_checked_Cok : CalOK Tryz.prog cbor_checked_C ∧ CalNt cbor_checked_C := by
  unfold cbor_checked_C
  exact tbl_ok (by
    intro p hp
    simp only [List.mem_cons, List.not_mem_nil, or_false] at hp
    rcases hp with rfl
    exact cbor_Validate_ok)
noncomputable def cbor_checked_FH : FH := {}
theorem cbor_checked_b (a1 : List PD) : bodyC Tryz.prog cbor_checked_C cbor_checked_FH [] [] { keep := [] } 73 cbor_checked_P cbor_checked_H cbor_checked_R cbor_checked_G a1 _ some = cbor_checked a1 := by kernel_rfl
theorem cbor_checked_ok : EntOK Tryz.prog 73 (ent cbor_checked_P cbor_checked_H cbor_checked_R cbor_checked_G (cbor_checked_V (cbor_checked))) :=
  ent_ok cbor_checked_FH cbor_checked_Cok (hp := cbor_checked_H) (fn := Tryz.f73) (by kernel_rfl) (ToldC.nil 0) fun (x : List PD) => cbor_checked_b x

/-! cbor_Map: passkey/cbor.Map -/
noncomputable def cbor_Map_l5p : SP := { n := 90, ix := [1, 2, 6, 22, 23], p := (.cons (.sl 1) (.cons (.ptr 0 0) (.cons (.ptr 1 0) (.cons (.int .i64) (.int .i64))))), hp := [(.cells (.nums .u64)), (.cells (.ref 2)), (.arrN 1 3 .i64)] }
noncomputable def cbor_Map_l5x : List (Ex × SP) := [((.exit 0), { n := 90, ix := [1, 2, 6], p := (.cons (.sl 1) (.cons (.ptr 0 0) (.ptr 1 0))), hp := [(.cells (.nums .u64)), (.cells (.ref 2)), (.arrN 1 3 .i64)] })]
noncomputable def cbor_Map_l11p : SP := { n := 90, ix := [1, 2, 6, 8], p := (.cons (.sl 1) (.cons (.ptr 0 0) (.cons (.ptr 1 0) (.int .i64)))), hp := [(.cells (.nums .u64)), (.cells (.ref 2)), (.arrN 1 3 .i64)] }
noncomputable def cbor_Map_l11x : List (Ex × SP) := [(.ret, { n := 90, ix := [4, 5], p := (.cons (.sl 3) (.int .i64)), hp := [(.cells (.nums .u64)), (.cells (.ref 2)), (.arrN 1 3 .i64)] }), ((.exit 2), { n := 90, ix := [1, 2, 6], p := (.cons (.sl 1) (.cons (.ptr 0 0) (.ptr 1 0))), hp := [(.cells (.nums .u64)), (.cells (.ref 2)), (.arrN 1 3 .i64)] })]
noncomputable def cbor_Map_l20p : SP := { n := 90, ix := [1, 2, 10, 67, 68, 69], p := (.cons (.sl 1) (.cons (.ptr 0 0) (.cons (.ref 1) (.cons (.ref 2) (.cons (.int .i64) (.int .i64)))))), hp := [(.cells (.nums .u64)), (.arrS 3 72 3), (.arrN 1 3 .i64)] }
noncomputable def cbor_Map_l20x : List (Ex × SP) := [((.exit 4), { n := 90, ix := [10], p := (.ref 0), hp := [(.arrS 3 72 3)] })]
noncomputable def cbor_Map_P : Pt := (.cons (.nums .u64) (.sl 1))
noncomputable def cbor_Map_H : List Po := []
noncomputable def cbor_Map_R : Pt := (.tup (.cons (.sl 3) (.int .i64)))
noncomputable def cbor_Map_G : List Po := []
noncomputable def cbor_Map_V (f : (List Int) → (List PD) → Option (List PD × Int)) (x : (List Int × List PD)) : Option (List PD × Int) := f x.1 x.2
noncomputable def cbor_Map_C : Cal := tbl [(70, (ent sort_Slice_P sort_Slice_H sort_Slice_R sort_Slice_G sort_Slice_W)), (72, (ent cbor_valid_P cbor_valid_H cbor_valid_R cbor_valid_G (cbor_valid_V (cbor_valid)))), (41, (ent cbor_Uint_P cbor_Uint_H cbor_Uint_R cbor_Uint_G (cbor_Uint_V (cbor_Uint)))), (73, (ent cbor_checked_P cbor_checked_H cbor_checked_R cbor_checked_G (cbor_checked_V (cbor_checked))))]
theorem cbor_Map_Cok : CalOK Tryz.prog cbor_Map_C ∧ CalNt cbor_Map_C := by
  unfold cbor_Map_C
  exact tbl_ok (by
    intro p hp
    simp only [List.mem_cons, List.not_mem_nil, or_false] at hp
    rcases hp with rfl | rfl | rfl | rfl
    · exact sort_Slice_ok
    · exact cbor_valid_ok
    · exact cbor_Uint_ok
    · exact cbor_checked_ok)
noncomputable def cbor_Map_FH : FH := { loops := [(5, { keep := [1, 2, 6, 22, 23] }, { keep := [1, 2, 4, 5, 6] }), (11, { keep := [1, 2, 6, 8] }, { keep := [1, 2, 4, 5, 6] }), (20, { keep := [1, 2, 10, 67, 68, 69] }, { keep := [4, 5, 10] })], ops := [(13, [(5, .cold), (6, .cold), (13, .cold), (14, .cold)]), (22, [(3, .cold), (4, .cold), (9, .cold), (10, .cold)])], see := [(13, [(0, [0]), (1, [1]), (3, [2]), (4, [2]), (5, []), (6, []), (7, [0]), (8, [1]), (11, [2]), (12, [2]), (13, []), (14, [])]), (22, [(1, [0]), (3, []), (4, []), (5, []), (6, [1]), (9, []), (10, [])])] }
theorem cbor_Map_l5_s (a1 : List PD) (a2 : Int) (a3 : Int) (a4 : List Int) (a5 : List Int) : stepC Tryz.prog cbor_Map_C cbor_Map_FH [] [] 0 ((loopsAt 5 (codeOf Tryz.f38)).headD .skip) cbor_Map_l5p cbor_Map_l5x { keep := [1, 2, 6, 22, 23] } { keep := [1, 2, 4, 5, 6] } ((a1, (), (), a2, a3), (a4, (), a5)) _ some = cbor_Map_l5 ((a1, (), (), a2, a3), (a4, (), a5)) := by kernel_rfl
theorem cbor_Map_l5_t : ToldC Tryz.prog 0 (codeOf Tryz.f38) ((5, toldL cbor_Map_l5p cbor_Map_l5x cbor_Map_l5) :: []) [] :=
  ToldC.loop cbor_Map_FH 0 (ToldC.nil 0) cbor_Map_Cok 5 ((loopsAt 5 (codeOf Tryz.f38)).headD .skip) (by kernel_rfl) (p := cbor_Map_l5p) (px := cbor_Map_l5x) (g := cbor_Map_l5) (hi := { keep := [1, 2, 6, 22, 23] }) (ho := { keep := [1, 2, 4, 5, 6] }) (by kernel_rfl) fun (x : ((List PD × Unit × Unit × Int × Int) × (List Int × Unit × List Int))) => cbor_Map_l5_s x.1.1 x.1.2.2.2.1 x.1.2.2.2.2 x.2.1 x.2.2.2
theorem cbor_Map_l11_s (a1 : List PD) (a2 : Int) (a3 : List Int) (a4 : List Int) : stepC Tryz.prog cbor_Map_C cbor_Map_FH ((5, toldL cbor_Map_l5p cbor_Map_l5x cbor_Map_l5) :: []) [] 0 ((loopsAt 11 (codeOf Tryz.f38)).headD .skip) cbor_Map_l11p cbor_Map_l11x { keep := [1, 2, 6, 8] } { keep := [1, 2, 4, 5, 6] } ((a1, (), (), a2), (a3, (), a4)) _ some = cbor_Map_l11 ((a1, (), (), a2), (a3, (), a4)) := by kernel_rfl
theorem cbor_Map_l11_t : ToldC Tryz.prog 0 (codeOf Tryz.f38) ((11, toldL cbor_Map_l11p cbor_Map_l11x cbor_Map_l11) :: ((5, toldL cbor_Map_l5p cbor_Map_l5x cbor_Map_l5) :: [])) [] :=
  ToldC.loop cbor_Map_FH 0 cbor_Map_l5_t cbor_Map_Cok 11 ((loopsAt 11 (codeOf Tryz.f38)).headD .skip) (by kernel_rfl) (p := cbor_Map_l11p) (px := cbor_Map_l11x) (g := cbor_Map_l11) (hi := { keep := [1, 2, 6, 8] }) (ho := { keep := [1, 2, 4, 5, 6] }) (by kernel_rfl) fun (x : ((List PD × Unit × Unit × Int) × (List Int × Unit × List Int))) => cbor_Map_l11_s x.1.1 x.1.2.2.2 x.2.1 x.2.2.2
theorem cbor_Map_l20_s (a1 : List PD) (a2 : Int) (a3 : Int) (a4 : List Int) (a5 : List PD) (a6 : List Int) : stepC Tryz.prog cbor_Map_C cbor_Map_FH ((11, toldL cbor_Map_l11p cbor_Map_l11x cbor_Map_l11) :: ((5, toldL cbor_Map_l5p cbor_Map_l5x cbor_Map_l5) :: [])) [] 0 ((loopsAt 20 (codeOf Tryz.f38)).headD .skip) cbor_Map_l20p cbor_Map_l20x { keep := [1, 2, 10, 67, 68, 69] } { keep := [4, 5, 10] } ((a1, (), (), (), a2, a3), (a4, a5, a6)) _ some = cbor_Map_l20 ((a1, (), (), (), a2, a3), (a4, a5, a6)) := by kernel_rfl
theorem cbor_Map_l20_t : ToldC Tryz.prog 0 (codeOf Tryz.f38) ((20, toldL cbor_Map_l20p cbor_Map_l20x cbor_Map_l20) :: ((11, toldL cbor_Map_l11p cbor_Map_l11x cbor_Map_l11) :: ((5, toldL cbor_Map_l5p cbor_Map_l5x cbor_Map_l5) :: []))) [] :=
  ToldC.loop cbor_Map_FH 0 cbor_Map_l11_t cbor_Map_Cok 20 ((loopsAt 20 (codeOf Tryz.f38)).headD .skip) (by kernel_rfl) (p := cbor_Map_l20p) (px := cbor_Map_l20x) (g := cbor_Map_l20) (hi := { keep := [1, 2, 10, 67, 68, 69] }) (ho := { keep := [4, 5, 10] }) (by kernel_rfl) fun (x : ((List PD × Unit × Unit × Unit × Int × Int) × (List Int × List PD × List Int))) => cbor_Map_l20_s x.1.1 x.1.2.2.2.2.1 x.1.2.2.2.2.2 x.2.1 x.2.2.1 x.2.2.2
theorem cbor_Map_b (a1 : List Int) (a2 : List PD) : bodyC Tryz.prog cbor_Map_C cbor_Map_FH ((20, toldL cbor_Map_l20p cbor_Map_l20x cbor_Map_l20) :: ((11, toldL cbor_Map_l11p cbor_Map_l11x cbor_Map_l11) :: ((5, toldL cbor_Map_l5p cbor_Map_l5x cbor_Map_l5) :: []))) [] { keep := [] } 38 cbor_Map_P cbor_Map_H cbor_Map_R cbor_Map_G (a1, a2) _ some = cbor_Map a1 a2 := by kernel_rfl
theorem cbor_Map_ok : EntOK Tryz.prog 38 (ent cbor_Map_P cbor_Map_H cbor_Map_R cbor_Map_G (cbor_Map_V (cbor_Map))) :=
  ent_ok cbor_Map_FH cbor_Map_Cok (hp := cbor_Map_H) (fn := Tryz.f38) (by kernel_rfl) cbor_Map_l20_t fun (x : (List Int × List PD)) => cbor_Map_b x.1 x.2

/-! cbor_Encode: passkey/cbor.Encode -/
noncomputable def cbor_Encode_l6p : SP := { n := 25, ix := [5, 13, 14, 15], p := (.cons (.ref 0) (.cons (.sl 3) (.cons (.int .i64) (.int .i64)))), hp := [(.arrN 1 5 .u8)] }
noncomputable def cbor_Encode_l6x : List (Ex × SP) := [((.exit 0), { n := 25, ix := [5], p := (.ref 0), hp := [(.arrN 1 5 .u8)] })]
noncomputable def cbor_Encode_P : Pt := (.sl 3)
noncomputable def cbor_Encode_H : List Po := []
noncomputable def cbor_Encode_R : Pt := (.tup (.cons (.ref 0) (.int .i64)))
noncomputable def cbor_Encode_G : List Po := [(.arrN 1 5 .u8)]
noncomputable def cbor_Encode_V (f : (List PD) → Option ((Unit × Int) × List Int)) (x : List PD) : Option ((Unit × Int) × List Int) := f x
noncomputable def cbor_Encode_C : Cal := tbl [(74, (ent cbor_Validate_P cbor_Validate_H cbor_Validate_R cbor_Validate_G (cbor_Validate_V (cbor_Validate)))), (75, (ent cbor_encode_P cbor_encode_H cbor_encode_R cbor_encode_G (cbor_encode_V (cbor_encode))))]
theorem cbor_Encode_Cok : CalOK Tryz.prog cbor_Encode_C ∧ CalNt cbor_Encode_C := by
  unfold cbor_Encode_C
  exact tbl_ok (by
    intro p hp
    simp only [List.mem_cons, List.not_mem_nil, or_false] at hp
    rcases hp with rfl | rfl
    · exact cbor_Validate_ok
    · exact cbor_encode_ok)
noncomputable def cbor_Encode_FH : FH := { loops := [(6, { keep := [5, 13, 14, 15], own := [(5, 5)] }, { keep := [2, 3, 5] })] }
theorem cbor_Encode_l6_s (a1 : List PD) (a2 : Int) (a3 : Int) (a4 : List Int) : stepC Tryz.prog cbor_Encode_C cbor_Encode_FH [] [] 0 ((loopsAt 6 (codeOf Tryz.f43)).headD .skip) cbor_Encode_l6p cbor_Encode_l6x { keep := [5, 13, 14, 15], own := [(5, 5)] } { keep := [2, 3, 5] } (((), a1, a2, a3), a4) _ some = cbor_Encode_l6 (((), a1, a2, a3), a4) := by kernel_rfl
theorem cbor_Encode_l6_t : ToldC Tryz.prog 0 (codeOf Tryz.f43) ((6, toldL cbor_Encode_l6p cbor_Encode_l6x cbor_Encode_l6) :: []) [] :=
  ToldC.loop cbor_Encode_FH 0 (ToldC.nil 0) cbor_Encode_Cok 6 ((loopsAt 6 (codeOf Tryz.f43)).headD .skip) (by kernel_rfl) (p := cbor_Encode_l6p) (px := cbor_Encode_l6x) (g := cbor_Encode_l6) (hi := { keep := [5, 13, 14, 15], own := [(5, 5)] }) (ho := { keep := [2, 3, 5] }) (by kernel_rfl) fun (x : ((Unit × List PD × Int × Int) × List Int)) => cbor_Encode_l6_s x.1.2.1 x.1.2.2.1 x.1.2.2.2 x.2
theorem cbor_Encode_b (a1 : List PD) : bodyC Tryz.prog cbor_Encode_C cbor_Encode_FH ((6, toldL cbor_Encode_l6p cbor_Encode_l6x cbor_Encode_l6) :: []) [] { keep := [], own := [(0, 5)] } 43 cbor_Encode_P cbor_Encode_H cbor_Encode_R cbor_Encode_G a1 _ some = cbor_Encode a1 := by kernel_rfl
theorem cbor_Encode_ok : EntOK Tryz.prog 43 (ent cbor_Encode_P cbor_Encode_H cbor_Encode_R cbor_Encode_G (cbor_Encode_V (cbor_Encode))) :=
  ent_ok cbor_Encode_FH cbor_Encode_Cok (hp := cbor_Encode_H) (fn := Tryz.f43) (by kernel_rfl) cbor_Encode_l6_t fun (x : List PD) => cbor_Encode_b x

/-! credential_Encode: passkey/credential.Encode -/
noncomputable def credential_Encode_P : Pt := (.agg (.cons .str (.cons .str (.cons .str (.cons (.int .u64) (.cons (.int .i64) (.cons .bool (.cons (.int .i64) (.cons .bool .bool)))))))))
noncomputable def credential_Encode_H : List Po := []
noncomputable def credential_Encode_R : Pt := (.tup (.cons (.ref 0) (.int .i64)))
noncomputable def credential_Encode_G : List Po := [(.arrN 1 5 .u8)]
noncomputable def credential_Encode_V (f : ByteArray → ByteArray → ByteArray → Int → Int → Bool → Int → Bool → Bool → Option ((Unit × Int) × List Int)) (x : (ByteArray × ByteArray × ByteArray × Int × Int × Bool × Int × Bool × Bool)) : Option ((Unit × Int) × List Int) := f x.1 x.2.1 x.2.2.1 x.2.2.2.1 x.2.2.2.2.1 x.2.2.2.2.2.1 x.2.2.2.2.2.2.1 x.2.2.2.2.2.2.2.1 x.2.2.2.2.2.2.2.2
noncomputable def credential_Encode_C : Cal := tbl [(15, (ent credential_Validate_P credential_Validate_H credential_Validate_R credential_Validate_G (credential_Validate_V (credential_Validate)))), (39, (ent cbor_Text_P cbor_Text_H cbor_Text_R cbor_Text_G (cbor_Text_V (cbor_Text)))), (40, (ent cbor_Bytes_P cbor_Bytes_H cbor_Bytes_R cbor_Bytes_G (cbor_Bytes_V (cbor_Bytes)))), (41, (ent cbor_Uint_P cbor_Uint_H cbor_Uint_R cbor_Uint_G (cbor_Uint_V (cbor_Uint)))), (42, (ent cbor_Bool_P cbor_Bool_H cbor_Bool_R cbor_Bool_G (cbor_Bool_V (cbor_Bool)))), (38, (ent cbor_Map_P cbor_Map_H cbor_Map_R cbor_Map_G (cbor_Map_V (cbor_Map)))), (43, (ent cbor_Encode_P cbor_Encode_H cbor_Encode_R cbor_Encode_G (cbor_Encode_V (cbor_Encode))))]
theorem credential_Encode_Cok : CalOK Tryz.prog credential_Encode_C ∧ CalNt credential_Encode_C := by
  unfold credential_Encode_C
  exact tbl_ok (by
    intro p hp
    simp only [List.mem_cons, List.not_mem_nil, or_false] at hp
    rcases hp with rfl | rfl | rfl | rfl | rfl | rfl | rfl
    · exact credential_Validate_ok
    · exact cbor_Text_ok
    · exact cbor_Bytes_ok
    · exact cbor_Uint_ok
    · exact cbor_Bool_ok
    · exact cbor_Map_ok
    · exact cbor_Encode_ok)
noncomputable def credential_Encode_FH : FH := { see := [(4, [(0, []), (2, [0]), (3, []), (5, [0]), (6, []), (7, []), (9, [0]), (10, []), (12, [0]), (13, []), (15, [0]), (16, []), (17, []), (19, [0]), (20, []), (22, [0]), (23, []), (24, []), (26, [0]), (27, []), (29, [0]), (30, []), (31, [])])] }
theorem credential_Encode_b (a1 : ByteArray) (a2 : ByteArray) (a3 : ByteArray) (a4 : Int) (a5 : Int) (a6 : Bool) (a7 : Int) (a8 : Bool) (a9 : Bool) : bodyC Tryz.prog credential_Encode_C credential_Encode_FH [] [] { keep := [], own := [(0, 5)] } 13 credential_Encode_P credential_Encode_H credential_Encode_R credential_Encode_G (a1, a2, a3, a4, a5, a6, a7, a8, a9) _ some = credential_Encode a1 a2 a3 a4 a5 a6 a7 a8 a9 := by kernel_rfl
theorem credential_Encode_ok : EntOK Tryz.prog 13 (ent credential_Encode_P credential_Encode_H credential_Encode_R credential_Encode_G (credential_Encode_V (credential_Encode))) :=
  ent_ok credential_Encode_FH credential_Encode_Cok (hp := credential_Encode_H) (fn := Tryz.f13) (by kernel_rfl) (ToldC.nil 0) fun (x : (ByteArray × ByteArray × ByteArray × Int × Int × Bool × Int × Bool × Bool)) => credential_Encode_b x.1 x.2.1 x.2.2.1 x.2.2.2.1 x.2.2.2.2.1 x.2.2.2.2.2.1 x.2.2.2.2.2.2.1 x.2.2.2.2.2.2.2.1 x.2.2.2.2.2.2.2.2

/-! digest_Words: passkey/digest.Words -/
noncomputable def digest_Words_l6p : SP := { n := 28, ix := [3, 5, 7, 8, 9, 13], p := (.cons (.ref 0) (.cons (.int .u64) (.cons (.nums .u64) (.cons (.int .i64) (.cons (.int .i64) (.int .i64)))))), hp := [(.arrN 1 5 .u8)] }
noncomputable def digest_Words_l6x : List (Ex × SP) := [((.exit 2), { n := 28, ix := [3, 7, 8, 9], p := (.cons (.ref 0) (.cons (.nums .u64) (.cons (.int .i64) (.int .i64)))), hp := [(.arrN 1 5 .u8)] })]
noncomputable def digest_Words_l3p : SP := { n := 28, ix := [3, 7, 8, 9], p := (.cons (.ref 0) (.cons (.nums .u64) (.cons (.int .i64) (.int .i64)))), hp := [(.arrN 1 5 .u8)] }
noncomputable def digest_Words_l3x : List (Ex × SP) := [((.exit 0), { n := 28, ix := [3], p := (.ref 0), hp := [(.arrN 1 5 .u8)] })]
noncomputable def digest_Words_P : Pt := (.nums .u64)
noncomputable def digest_Words_H : List Po := []
noncomputable def digest_Words_R : Pt := (.ref 0)
noncomputable def digest_Words_G : List Po := [(.arrN 1 5 .u8)]
noncomputable def digest_Words_V (f : (List Int) → Option (Unit × List Int)) (x : List Int) : Option (Unit × List Int) := f x
noncomputable def digest_Words_C : Cal := tbl []
theorem digest_Words_Cok : CalOK Tryz.prog digest_Words_C ∧ CalNt digest_Words_C := by
  unfold digest_Words_C
  exact tbl_ok (by intro p hp; simp at hp)
noncomputable def digest_Words_FH : FH := { loops := [(6, { keep := [3, 5, 7, 8, 9, 13] }, { keep := [2, 3, 7, 8, 9] }), (3, { keep := [3, 7, 8, 9], own := [(3, 5)] }, { keep := [2, 3] })] }
theorem digest_Words_l6_s (a1 : Int) (a2 : List Int) (a3 : Int) (a4 : Int) (a5 : Int) (a6 : List Int) : stepC Tryz.prog digest_Words_C digest_Words_FH [] [] 0 ((loopsAt 6 (codeOf Tryz.f82)).headD .skip) digest_Words_l6p digest_Words_l6x { keep := [3, 5, 7, 8, 9, 13] } { keep := [2, 3, 7, 8, 9] } (((), a1, a2, a3, a4, a5), a6) _ some = digest_Words_l6 (((), a1, a2, a3, a4, a5), a6) := by kernel_rfl
theorem digest_Words_l6_t : ToldC Tryz.prog 0 (codeOf Tryz.f82) ((6, toldL digest_Words_l6p digest_Words_l6x digest_Words_l6) :: []) [] :=
  ToldC.loop digest_Words_FH 0 (ToldC.nil 0) digest_Words_Cok 6 ((loopsAt 6 (codeOf Tryz.f82)).headD .skip) (by kernel_rfl) (p := digest_Words_l6p) (px := digest_Words_l6x) (g := digest_Words_l6) (hi := { keep := [3, 5, 7, 8, 9, 13] }) (ho := { keep := [2, 3, 7, 8, 9] }) (by kernel_rfl) fun (x : ((Unit × Int × List Int × Int × Int × Int) × List Int)) => digest_Words_l6_s x.1.2.1 x.1.2.2.1 x.1.2.2.2.1 x.1.2.2.2.2.1 x.1.2.2.2.2.2 x.2
theorem digest_Words_l3_s (a1 : List Int) (a2 : Int) (a3 : Int) (a4 : List Int) : stepC Tryz.prog digest_Words_C digest_Words_FH ((6, toldL digest_Words_l6p digest_Words_l6x digest_Words_l6) :: []) [] 0 ((loopsAt 3 (codeOf Tryz.f82)).headD .skip) digest_Words_l3p digest_Words_l3x { keep := [3, 7, 8, 9], own := [(3, 5)] } { keep := [2, 3] } (((), a1, a2, a3), a4) _ some = digest_Words_l3 (((), a1, a2, a3), a4) := by kernel_rfl
theorem digest_Words_l3_t : ToldC Tryz.prog 0 (codeOf Tryz.f82) ((3, toldL digest_Words_l3p digest_Words_l3x digest_Words_l3) :: ((6, toldL digest_Words_l6p digest_Words_l6x digest_Words_l6) :: [])) [] :=
  ToldC.loop digest_Words_FH 0 digest_Words_l6_t digest_Words_Cok 3 ((loopsAt 3 (codeOf Tryz.f82)).headD .skip) (by kernel_rfl) (p := digest_Words_l3p) (px := digest_Words_l3x) (g := digest_Words_l3) (hi := { keep := [3, 7, 8, 9], own := [(3, 5)] }) (ho := { keep := [2, 3] }) (by kernel_rfl) fun (x : ((Unit × List Int × Int × Int) × List Int)) => digest_Words_l3_s x.1.2.1 x.1.2.2.1 x.1.2.2.2 x.2
theorem digest_Words_b (a1 : List Int) : bodyC Tryz.prog digest_Words_C digest_Words_FH ((3, toldL digest_Words_l3p digest_Words_l3x digest_Words_l3) :: ((6, toldL digest_Words_l6p digest_Words_l6x digest_Words_l6) :: [])) [] { keep := [] } 82 digest_Words_P digest_Words_H digest_Words_R digest_Words_G a1 _ some = digest_Words a1 := by kernel_rfl
theorem digest_Words_ok : EntOK Tryz.prog 82 (ent digest_Words_P digest_Words_H digest_Words_R digest_Words_G (digest_Words_V (digest_Words))) :=
  ent_ok digest_Words_FH digest_Words_Cok (hp := digest_Words_H) (fn := Tryz.f82) (by kernel_rfl) digest_Words_l3_t fun (x : List Int) => digest_Words_b x

/-! digest_little: passkey/digest.little -/
noncomputable def digest_little_l3p : SP := { n := 22, ix := [3, 6, 7, 8], p := (.cons (.int .u64) (.cons (.nums .u8) (.cons (.int .i64) (.int .i64)))) }
noncomputable def digest_little_l3x : List (Ex × SP) := [((.exit 0), { n := 22, ix := [3], p := (.int .u64) })]
noncomputable def digest_little_P : Pt := (.nums .u8)
noncomputable def digest_little_H : List Po := []
noncomputable def digest_little_R : Pt := (.int .u64)
noncomputable def digest_little_G : List Po := []
noncomputable def digest_little_V (f : (List Int) → Option Int) (x : List Int) : Option Int := f x
noncomputable def digest_little_C : Cal := tbl []
theorem digest_little_Cok : CalOK Tryz.prog digest_little_C ∧ CalNt digest_little_C := by
  unfold digest_little_C
  exact tbl_ok (by intro p hp; simp at hp)
noncomputable def digest_little_FH : FH := { loops := [(3, { keep := [3, 6, 7, 8] }, { keep := [2, 3] })] }
theorem digest_little_l3_s (a1 : Int) (a2 : List Int) (a3 : Int) (a4 : Int) : stepC Tryz.prog digest_little_C digest_little_FH [] [] 0 ((loopsAt 3 (codeOf Tryz.f127)).headD .skip) digest_little_l3p digest_little_l3x { keep := [3, 6, 7, 8] } { keep := [2, 3] } (a1, a2, a3, a4) _ some = digest_little_l3 (a1, a2, a3, a4) := by kernel_rfl
theorem digest_little_l3_t : ToldC Tryz.prog 0 (codeOf Tryz.f127) ((3, toldL digest_little_l3p digest_little_l3x digest_little_l3) :: []) [] :=
  ToldC.loop digest_little_FH 0 (ToldC.nil 0) digest_little_Cok 3 ((loopsAt 3 (codeOf Tryz.f127)).headD .skip) (by kernel_rfl) (p := digest_little_l3p) (px := digest_little_l3x) (g := digest_little_l3) (hi := { keep := [3, 6, 7, 8] }) (ho := { keep := [2, 3] }) (by kernel_rfl) fun (x : (Int × List Int × Int × Int)) => digest_little_l3_s x.1 x.2.1 x.2.2.1 x.2.2.2
theorem digest_little_b (a1 : List Int) : bodyC Tryz.prog digest_little_C digest_little_FH ((3, toldL digest_little_l3p digest_little_l3x digest_little_l3) :: []) [] { keep := [] } 127 digest_little_P digest_little_H digest_little_R digest_little_G a1 _ some = digest_little a1 := by kernel_rfl
theorem digest_little_ok : EntOK Tryz.prog 127 (ent digest_little_P digest_little_H digest_little_R digest_little_G (digest_little_V (digest_little))) :=
  ent_ok digest_little_FH digest_little_Cok (hp := digest_little_H) (fn := Tryz.f127) (by kernel_rfl) digest_little_l3_t fun (x : List Int) => digest_little_b x

/-! bits_RotateLeft64: math/bits.RotateLeft64 -/
noncomputable def bits_RotateLeft64_P : Pt := (.cons (.int .u64) (.int .i64))
noncomputable def bits_RotateLeft64_H : List Po := []
noncomputable def bits_RotateLeft64_R : Pt := (.int .u64)
noncomputable def bits_RotateLeft64_G : List Po := []
noncomputable def bits_RotateLeft64_V (f : Int → Int → Option Int) (x : (Int × Int)) : Option Int := f x.1 x.2
noncomputable def bits_RotateLeft64_C : Cal := tbl []
theorem bits_RotateLeft64_Cok : CalOK Tryz.prog bits_RotateLeft64_C ∧ CalNt bits_RotateLeft64_C := by
  unfold bits_RotateLeft64_C
  exact tbl_ok (by intro p hp; simp at hp)
noncomputable def bits_RotateLeft64_FH : FH := {}
theorem bits_RotateLeft64_b (a1 : Int) (a2 : Int) : bodyC Tryz.prog bits_RotateLeft64_C bits_RotateLeft64_FH [] [] { keep := [] } 159 bits_RotateLeft64_P bits_RotateLeft64_H bits_RotateLeft64_R bits_RotateLeft64_G (a1, a2) _ some = bits_RotateLeft64 a1 a2 := by kernel_rfl
theorem bits_RotateLeft64_ok : EntOK Tryz.prog 159 (ent bits_RotateLeft64_P bits_RotateLeft64_H bits_RotateLeft64_R bits_RotateLeft64_G (bits_RotateLeft64_V (bits_RotateLeft64))) :=
  ent_ok bits_RotateLeft64_FH bits_RotateLeft64_Cok (hp := bits_RotateLeft64_H) (fn := Tryz.f159) (by kernel_rfl) (ToldC.nil 0) fun (x : (Int × Int)) => bits_RotateLeft64_b x.1 x.2

/-! digest_state_round_a4e: (*passkey/digest.state).round -/
noncomputable def digest_state_round_a4e_l1p : SP := { n := 120, ix := [0, 4, 5], p := (.cons (.ptr 0 0) (.cons (.int .i64) (.int .i64))), hp := [(.cells (.cons (.int .u64) (.cons (.int .u64) (.cons (.int .u64) (.int .u64)))))] }
noncomputable def digest_state_round_a4e_l1x : List (Ex × SP) := [((.exit 0), { n := 120, ix := [], p := .nil, hp := [(.cells (.cons (.int .u64) (.cons (.int .u64) (.cons (.int .u64) (.int .u64)))))] })]
noncomputable def digest_state_round_a4e_P : Pt := (.cons (.ptr 0 0) (.int .i64))
noncomputable def digest_state_round_a4e_H : List Po := [(.cells (.cons (.int .u64) (.cons (.int .u64) (.cons (.int .u64) (.int .u64)))))]
noncomputable def digest_state_round_a4e_R : Pt := (.tup .nil)
noncomputable def digest_state_round_a4e_G : List Po := [(.cells (.cons (.int .u64) (.cons (.int .u64) (.cons (.int .u64) (.int .u64)))))]
noncomputable def digest_state_round_a4e_V (f : Int → Int → Int → Int → Int → Option (Unit × (Int × Int × Int × Int))) (x : ((Unit × Int) × (Int × Int × Int × Int))) : Option (Unit × (Int × Int × Int × Int)) := f x.1.2 x.2.1 x.2.2.1 x.2.2.2.1 x.2.2.2.2
noncomputable def digest_state_round_a4e_C : Cal := tbl [(159, (ent bits_RotateLeft64_P bits_RotateLeft64_H bits_RotateLeft64_R bits_RotateLeft64_G (bits_RotateLeft64_V (bits_RotateLeft64))))]
theorem digest_state_round_a4e_Cok : CalOK Tryz.prog digest_state_round_a4e_C ∧ CalNt digest_state_round_a4e_C := by
  unfold digest_state_round_a4e_C
  exact tbl_ok (by
    intro p hp
    simp only [List.mem_cons, List.not_mem_nil, or_false] at hp
    rcases hp with rfl
    exact bits_RotateLeft64_ok)
noncomputable def digest_state_round_a4e_FH : FH := { loops := [(1, { keep := [0, 4, 5] }, { keep := [] })], see := [(2, [(3, [0]), (7, [0])]), (3, [(4, [0]), (5, []), (9, [0])]), (5, [(3, [0]), (7, [0])]), (6, [(4, [0]), (5, []), (9, [0])]), (7, [(3, [0]), (7, [0])]), (8, [(4, [0]), (5, []), (9, [0])]), (9, [(3, [0]), (7, [0])]), (10, [(4, [0]), (5, []), (9, [0])])] }
theorem digest_state_round_a4e_l1_s (a1 : Int) (a2 : Int) (a3 : Int) (a4 : Int) (a5 : Int) (a6 : Int) : stepC Tryz.prog digest_state_round_a4e_C digest_state_round_a4e_FH [] [] 1 ((loopsAt 1 (codeOf Tryz.f128)).headD .skip) digest_state_round_a4e_l1p digest_state_round_a4e_l1x { keep := [0, 4, 5] } { keep := [] } (((), a1, a2), (a3, a4, a5, a6)) _ some = digest_state_round_a4e_l1 (((), a1, a2), (a3, a4, a5, a6)) := by kernel_rfl
theorem digest_state_round_a4e_l1_t : ToldC Tryz.prog 1 (codeOf Tryz.f128) ((1, toldL digest_state_round_a4e_l1p digest_state_round_a4e_l1x digest_state_round_a4e_l1) :: []) [] :=
  ToldC.loop digest_state_round_a4e_FH 1 (ToldC.nil 1) digest_state_round_a4e_Cok 1 ((loopsAt 1 (codeOf Tryz.f128)).headD .skip) (by kernel_rfl) (p := digest_state_round_a4e_l1p) (px := digest_state_round_a4e_l1x) (g := digest_state_round_a4e_l1) (hi := { keep := [0, 4, 5] }) (ho := { keep := [] }) (by kernel_rfl) fun (x : ((Unit × Int × Int) × (Int × Int × Int × Int))) => digest_state_round_a4e_l1_s x.1.2.1 x.1.2.2 x.2.1 x.2.2.1 x.2.2.2.1 x.2.2.2.2
theorem digest_state_round_a4e_b (a1 : Int) (a2 : Int) (a3 : Int) (a4 : Int) (a5 : Int) : bodyC Tryz.prog digest_state_round_a4e_C digest_state_round_a4e_FH ((1, toldL digest_state_round_a4e_l1p digest_state_round_a4e_l1x digest_state_round_a4e_l1) :: []) [] { keep := [] } 128 digest_state_round_a4e_P digest_state_round_a4e_H digest_state_round_a4e_R digest_state_round_a4e_G (((), a1), (a2, a3, a4, a5)) _ some = digest_state_round_a4e a1 a2 a3 a4 a5 := by kernel_rfl
theorem digest_state_round_a4e_ok : EntOK Tryz.prog 128 (ent digest_state_round_a4e_P digest_state_round_a4e_H digest_state_round_a4e_R digest_state_round_a4e_G (digest_state_round_a4e_V (digest_state_round_a4e))) :=
  ent_ok digest_state_round_a4e_FH digest_state_round_a4e_Cok (hp := digest_state_round_a4e_H) (fn := Tryz.f128) (by kernel_rfl) digest_state_round_a4e_l1_t fun (x : ((Unit × Int) × (Int × Int × Int × Int))) => digest_state_round_a4e_b x.1.2 x.2.1 x.2.2.1 x.2.2.2.1 x.2.2.2.2

/-! digest_state_word_a4e: (*passkey/digest.state).word -/
noncomputable def digest_state_word_a4e_P : Pt := (.cons (.ptr 0 0) (.int .u64))
noncomputable def digest_state_word_a4e_H : List Po := [(.cells (.cons (.int .u64) (.cons (.int .u64) (.cons (.int .u64) (.int .u64)))))]
noncomputable def digest_state_word_a4e_R : Pt := (.tup .nil)
noncomputable def digest_state_word_a4e_G : List Po := [(.cells (.cons (.int .u64) (.cons (.int .u64) (.cons (.int .u64) (.int .u64)))))]
noncomputable def digest_state_word_a4e_V (f : Int → Int → Int → Int → Int → Option (Unit × (Int × Int × Int × Int))) (x : ((Unit × Int) × (Int × Int × Int × Int))) : Option (Unit × (Int × Int × Int × Int)) := f x.1.2 x.2.1 x.2.2.1 x.2.2.2.1 x.2.2.2.2
noncomputable def digest_state_word_a4e_C : Cal := tbl [(128, (ent digest_state_round_a4e_P digest_state_round_a4e_H digest_state_round_a4e_R digest_state_round_a4e_G (digest_state_round_a4e_V (digest_state_round_a4e))))]
theorem digest_state_word_a4e_Cok : CalOK Tryz.prog digest_state_word_a4e_C ∧ CalNt digest_state_word_a4e_C := by
  unfold digest_state_word_a4e_C
  exact tbl_ok (by
    intro p hp
    simp only [List.mem_cons, List.not_mem_nil, or_false] at hp
    rcases hp with rfl
    exact digest_state_round_a4e_ok)
noncomputable def digest_state_word_a4e_FH : FH := {}
theorem digest_state_word_a4e_b (a1 : Int) (a2 : Int) (a3 : Int) (a4 : Int) (a5 : Int) : bodyC Tryz.prog digest_state_word_a4e_C digest_state_word_a4e_FH [] [] { keep := [] } 126 digest_state_word_a4e_P digest_state_word_a4e_H digest_state_word_a4e_R digest_state_word_a4e_G (((), a1), (a2, a3, a4, a5)) _ some = digest_state_word_a4e a1 a2 a3 a4 a5 := by kernel_rfl
theorem digest_state_word_a4e_ok : EntOK Tryz.prog 126 (ent digest_state_word_a4e_P digest_state_word_a4e_H digest_state_word_a4e_R digest_state_word_a4e_G (digest_state_word_a4e_V (digest_state_word_a4e))) :=
  ent_ok digest_state_word_a4e_FH digest_state_word_a4e_Cok (hp := digest_state_word_a4e_H) (fn := Tryz.f126) (by kernel_rfl) (ToldC.nil 1) fun (x : ((Unit × Int) × (Int × Int × Int × Int))) => digest_state_word_a4e_b x.1.2 x.2.1 x.2.2.1 x.2.2.2.1 x.2.2.2.2

/-! digest_Sum: passkey/digest.Sum -/
noncomputable def digest_Sum_l3p : SP := { n := 67, ix := [2, 7, 8], p := (.cons (.nums .u8) (.cons (.ptr 0 0) (.int .u64))), hp := [(.cells (.cons (.int .u64) (.cons (.int .u64) (.cons (.int .u64) (.int .u64)))))] }
noncomputable def digest_Sum_l3x : List (Ex × SP) := [((.exit 0), { n := 67, ix := [2, 7, 8], p := (.cons (.nums .u8) (.cons (.ptr 0 0) (.int .u64))), hp := [(.cells (.cons (.int .u64) (.cons (.int .u64) (.cons (.int .u64) (.int .u64)))))] })]
noncomputable def digest_Sum_P : Pt := (.cons (.int .u64) (.cons (.int .u64) (.nums .u8)))
noncomputable def digest_Sum_H : List Po := []
noncomputable def digest_Sum_R : Pt := (.int .u64)
noncomputable def digest_Sum_G : List Po := []
noncomputable def digest_Sum_V (f : Int → Int → (List Int) → Option Int) (x : (Int × Int × List Int)) : Option Int := f x.1 x.2.1 x.2.2
noncomputable def digest_Sum_C : Cal := tbl [(127, (ent digest_little_P digest_little_H digest_little_R digest_little_G (digest_little_V (digest_little)))), (126, (ent digest_state_word_a4e_P digest_state_word_a4e_H digest_state_word_a4e_R digest_state_word_a4e_G (digest_state_word_a4e_V (digest_state_word_a4e)))), (128, (ent digest_state_round_a4e_P digest_state_round_a4e_H digest_state_round_a4e_R digest_state_round_a4e_G (digest_state_round_a4e_V (digest_state_round_a4e))))]
theorem digest_Sum_Cok : CalOK Tryz.prog digest_Sum_C ∧ CalNt digest_Sum_C := by
  unfold digest_Sum_C
  exact tbl_ok (by
    intro p hp
    simp only [List.mem_cons, List.not_mem_nil, or_false] at hp
    rcases hp with rfl | rfl | rfl
    · exact digest_little_ok
    · exact digest_state_word_a4e_ok
    · exact digest_state_round_a4e_ok)
noncomputable def digest_Sum_FH : FH := { loops := [(3, { keep := [2, 7, 8] }, { keep := [2, 6, 7, 8] })], see := [(9, [(3, [0]), (7, [0]), (12, [0]), (17, [0])])] }
theorem digest_Sum_l3_s (a1 : List Int) (a2 : Int) (a3 : Int) (a4 : Int) (a5 : Int) (a6 : Int) : stepC Tryz.prog digest_Sum_C digest_Sum_FH [] [] 0 ((loopsAt 3 (codeOf Tryz.f100)).headD .skip) digest_Sum_l3p digest_Sum_l3x { keep := [2, 7, 8] } { keep := [2, 6, 7, 8] } ((a1, (), a2), (a3, a4, a5, a6)) _ some = digest_Sum_l3 ((a1, (), a2), (a3, a4, a5, a6)) := by kernel_rfl
theorem digest_Sum_l3_t : ToldC Tryz.prog 0 (codeOf Tryz.f100) ((3, toldL digest_Sum_l3p digest_Sum_l3x digest_Sum_l3) :: []) [] :=
  ToldC.loop digest_Sum_FH 0 (ToldC.nil 0) digest_Sum_Cok 3 ((loopsAt 3 (codeOf Tryz.f100)).headD .skip) (by kernel_rfl) (p := digest_Sum_l3p) (px := digest_Sum_l3x) (g := digest_Sum_l3) (hi := { keep := [2, 7, 8] }) (ho := { keep := [2, 6, 7, 8] }) (by kernel_rfl) fun (x : ((List Int × Unit × Int) × (Int × Int × Int × Int))) => digest_Sum_l3_s x.1.1 x.1.2.2 x.2.1 x.2.2.1 x.2.2.2.1 x.2.2.2.2
theorem digest_Sum_b (a1 : Int) (a2 : Int) (a3 : List Int) : bodyC Tryz.prog digest_Sum_C digest_Sum_FH ((3, toldL digest_Sum_l3p digest_Sum_l3x digest_Sum_l3) :: []) [] { keep := [] } 100 digest_Sum_P digest_Sum_H digest_Sum_R digest_Sum_G (a1, a2, a3) _ some = digest_Sum a1 a2 a3 := by kernel_rfl
theorem digest_Sum_ok : EntOK Tryz.prog 100 (ent digest_Sum_P digest_Sum_H digest_Sum_R digest_Sum_G (digest_Sum_V (digest_Sum))) :=
  ent_ok digest_Sum_FH digest_Sum_Cok (hp := digest_Sum_H) (fn := Tryz.f100) (by kernel_rfl) digest_Sum_l3_t fun (x : (Int × Int × List Int)) => digest_Sum_b x.1 x.2.1 x.2.2

/-! digest_Mac: passkey/digest.Mac -/
noncomputable def digest_Mac_P : Pt := (.cons (.int .u64) (.cons (.int .i64) (.nums .u8)))
noncomputable def digest_Mac_H : List Po := []
noncomputable def digest_Mac_R : Pt := (.int .u64)
noncomputable def digest_Mac_G : List Po := []
noncomputable def digest_Mac_V (f : Int → Int → (List Int) → Option Int) (x : (Int × Int × List Int)) : Option Int := f x.1 x.2.1 x.2.2
noncomputable def digest_Mac_C : Cal := tbl [(100, (ent digest_Sum_P digest_Sum_H digest_Sum_R digest_Sum_G (digest_Sum_V (digest_Sum))))]
theorem digest_Mac_Cok : CalOK Tryz.prog digest_Mac_C ∧ CalNt digest_Mac_C := by
  unfold digest_Mac_C
  exact tbl_ok (by
    intro p hp
    simp only [List.mem_cons, List.not_mem_nil, or_false] at hp
    rcases hp with rfl
    exact digest_Sum_ok)
noncomputable def digest_Mac_FH : FH := {}
theorem digest_Mac_b (a1 : Int) (a2 : Int) (a3 : List Int) : bodyC Tryz.prog digest_Mac_C digest_Mac_FH [] [] { keep := [] } 83 digest_Mac_P digest_Mac_H digest_Mac_R digest_Mac_G (a1, a2, a3) _ some = digest_Mac a1 a2 a3 := by kernel_rfl
theorem digest_Mac_ok : EntOK Tryz.prog 83 (ent digest_Mac_P digest_Mac_H digest_Mac_R digest_Mac_G (digest_Mac_V (digest_Mac))) :=
  ent_ok digest_Mac_FH digest_Mac_Cok (hp := digest_Mac_H) (fn := Tryz.f83) (by kernel_rfl) (ToldC.nil 0) fun (x : (Int × Int × List Int)) => digest_Mac_b x.1 x.2.1 x.2.2

/-! digest_Derive: passkey/digest.Derive -/
noncomputable def digest_Derive_P : Pt := (.cons (.int .u64) (.cons .str (.int .i64)))
noncomputable def digest_Derive_H : List Po := []
noncomputable def digest_Derive_R : Pt := (.int .u64)
noncomputable def digest_Derive_G : List Po := []
noncomputable def digest_Derive_V (f : Int → ByteArray → Int → Option Int) (x : (Int × ByteArray × Int)) : Option Int := f x.1 x.2.1 x.2.2
noncomputable def digest_Derive_C : Cal := tbl [(82, (ent digest_Words_P digest_Words_H digest_Words_R digest_Words_G (digest_Words_V (digest_Words)))), (83, (ent digest_Mac_P digest_Mac_H digest_Mac_R digest_Mac_G (digest_Mac_V (digest_Mac))))]
theorem digest_Derive_Cok : CalOK Tryz.prog digest_Derive_C ∧ CalNt digest_Derive_C := by
  unfold digest_Derive_C
  exact tbl_ok (by
    intro p hp
    simp only [List.mem_cons, List.not_mem_nil, or_false] at hp
    rcases hp with rfl | rfl
    · exact digest_Words_ok
    · exact digest_Mac_ok)
noncomputable def digest_Derive_FH : FH := { ops := [(1, [(8, .borrow), (10, .borrow)])] }
theorem digest_Derive_b (a1 : Int) (a2 : ByteArray) (a3 : Int) : bodyC Tryz.prog digest_Derive_C digest_Derive_FH [] [] { keep := [] } 59 digest_Derive_P digest_Derive_H digest_Derive_R digest_Derive_G (a1, a2, a3) _ some = digest_Derive a1 a2 a3 := by kernel_rfl
theorem digest_Derive_ok : EntOK Tryz.prog 59 (ent digest_Derive_P digest_Derive_H digest_Derive_R digest_Derive_G (digest_Derive_V (digest_Derive))) :=
  ent_ok digest_Derive_FH digest_Derive_Cok (hp := digest_Derive_H) (fn := Tryz.f59) (by kernel_rfl) (ToldC.nil 0) fun (x : (Int × ByteArray × Int)) => digest_Derive_b x.1 x.2.1 x.2.2

/-! seal_Stream: passkey/seal.Stream -/
noncomputable def seal_Stream_l4p : SP := { n := 31, ix := [0, 1, 2, 7, 8], p := (.cons (.int .u64) (.cons (.int .u64) (.cons (.int .i64) (.cons (.ref 0) (.int .u64))))), hp := [(.arrN 1 5 .u8)] }
noncomputable def seal_Stream_l4x : List (Ex × SP) := [((.exit 0), { n := 31, ix := [2, 7], p := (.cons (.int .i64) (.ref 0)), hp := [(.arrN 1 5 .u8)] })]
noncomputable def seal_Stream_P : Pt := (.cons (.int .u64) (.cons (.int .u64) (.int .i64)))
noncomputable def seal_Stream_H : List Po := []
noncomputable def seal_Stream_R : Pt := (.ref 0)
noncomputable def seal_Stream_G : List Po := [(.arrN 1 5 .u8)]
noncomputable def seal_Stream_V (f : Int → Int → Int → Option (Unit × List Int)) (x : (Int × Int × Int)) : Option (Unit × List Int) := f x.1 x.2.1 x.2.2
noncomputable def seal_Stream_C : Cal := tbl [(82, (ent digest_Words_P digest_Words_H digest_Words_R digest_Words_G (digest_Words_V (digest_Words)))), (83, (ent digest_Mac_P digest_Mac_H digest_Mac_R digest_Mac_G (digest_Mac_V (digest_Mac))))]
theorem seal_Stream_Cok : CalOK Tryz.prog seal_Stream_C ∧ CalNt seal_Stream_C := by
  unfold seal_Stream_C
  exact tbl_ok (by
    intro p hp
    simp only [List.mem_cons, List.not_mem_nil, or_false] at hp
    rcases hp with rfl | rfl
    · exact digest_Words_ok
    · exact digest_Mac_ok)
noncomputable def seal_Stream_FH : FH := { loops := [(4, { keep := [0, 1, 2, 7, 8], own := [(7, 5)] }, { keep := [2, 6, 7] })], ops := [(6, [(5, .borrow), (6, .borrow), (8, .borrow)]), (7, [(2, .take)])] }
theorem seal_Stream_l4_s (a1 : Int) (a2 : Int) (a3 : Int) (a4 : Int) (a5 : List Int) : stepC Tryz.prog seal_Stream_C seal_Stream_FH [] [] 0 ((loopsAt 4 (codeOf Tryz.f58)).headD .skip) seal_Stream_l4p seal_Stream_l4x { keep := [0, 1, 2, 7, 8], own := [(7, 5)] } { keep := [2, 6, 7] } ((a1, a2, a3, (), a4), a5) _ some = seal_Stream_l4 ((a1, a2, a3, (), a4), a5) := by kernel_rfl
theorem seal_Stream_l4_t : ToldC Tryz.prog 0 (codeOf Tryz.f58) ((4, toldL seal_Stream_l4p seal_Stream_l4x seal_Stream_l4) :: []) [] :=
  ToldC.loop seal_Stream_FH 0 (ToldC.nil 0) seal_Stream_Cok 4 ((loopsAt 4 (codeOf Tryz.f58)).headD .skip) (by kernel_rfl) (p := seal_Stream_l4p) (px := seal_Stream_l4x) (g := seal_Stream_l4) (hi := { keep := [0, 1, 2, 7, 8], own := [(7, 5)] }) (ho := { keep := [2, 6, 7] }) (by kernel_rfl) fun (x : ((Int × Int × Int × Unit × Int) × List Int)) => seal_Stream_l4_s x.1.1 x.1.2.1 x.1.2.2.1 x.1.2.2.2.2 x.2
theorem seal_Stream_b (a1 : Int) (a2 : Int) (a3 : Int) : bodyC Tryz.prog seal_Stream_C seal_Stream_FH ((4, toldL seal_Stream_l4p seal_Stream_l4x seal_Stream_l4) :: []) [] { keep := [] } 58 seal_Stream_P seal_Stream_H seal_Stream_R seal_Stream_G (a1, a2, a3) _ some = seal_Stream a1 a2 a3 := by kernel_rfl
theorem seal_Stream_ok : EntOK Tryz.prog 58 (ent seal_Stream_P seal_Stream_H seal_Stream_R seal_Stream_G (seal_Stream_V (seal_Stream))) :=
  ent_ok seal_Stream_FH seal_Stream_Cok (hp := seal_Stream_H) (fn := Tryz.f58) (by kernel_rfl) seal_Stream_l4_t fun (x : (Int × Int × Int)) => seal_Stream_b x.1 x.2.1 x.2.2

/-! digest_Hash: passkey/digest.Hash -/
noncomputable def digest_Hash_P : Pt := (.cons (.int .i64) (.nums .u8))
noncomputable def digest_Hash_H : List Po := []
noncomputable def digest_Hash_R : Pt := (.int .u64)
noncomputable def digest_Hash_G : List Po := []
noncomputable def digest_Hash_V (f : Int → (List Int) → Option Int) (x : (Int × List Int)) : Option Int := f x.1 x.2
noncomputable def digest_Hash_C : Cal := tbl [(100, (ent digest_Sum_P digest_Sum_H digest_Sum_R digest_Sum_G (digest_Sum_V (digest_Sum))))]
theorem digest_Hash_Cok : CalOK Tryz.prog digest_Hash_C ∧ CalNt digest_Hash_C := by
  unfold digest_Hash_C
  exact tbl_ok (by
    intro p hp
    simp only [List.mem_cons, List.not_mem_nil, or_false] at hp
    rcases hp with rfl
    exact digest_Sum_ok)
noncomputable def digest_Hash_FH : FH := {}
theorem digest_Hash_b (a1 : Int) (a2 : List Int) : bodyC Tryz.prog digest_Hash_C digest_Hash_FH [] [] { keep := [] } 65 digest_Hash_P digest_Hash_H digest_Hash_R digest_Hash_G (a1, a2) _ some = digest_Hash a1 a2 := by kernel_rfl
theorem digest_Hash_ok : EntOK Tryz.prog 65 (ent digest_Hash_P digest_Hash_H digest_Hash_R digest_Hash_G (digest_Hash_V (digest_Hash))) :=
  ent_ok digest_Hash_FH digest_Hash_Cok (hp := digest_Hash_H) (fn := Tryz.f65) (by kernel_rfl) (ToldC.nil 0) fun (x : (Int × List Int)) => digest_Hash_b x.1 x.2

/-! authdata_RPHash: passkey/authdata.RPHash -/
noncomputable def authdata_RPHash_P : Pt := .str
noncomputable def authdata_RPHash_H : List Po := []
noncomputable def authdata_RPHash_R : Pt := (.int .u64)
noncomputable def authdata_RPHash_G : List Po := []
noncomputable def authdata_RPHash_V (f : ByteArray → Option Int) (x : ByteArray) : Option Int := f x
noncomputable def authdata_RPHash_C : Cal := tbl [(65, (ent digest_Hash_P digest_Hash_H digest_Hash_R digest_Hash_G (digest_Hash_V (digest_Hash))))]
theorem authdata_RPHash_Cok : CalOK Tryz.prog authdata_RPHash_C ∧ CalNt authdata_RPHash_C := by
  unfold authdata_RPHash_C
  exact tbl_ok (by
    intro p hp
    simp only [List.mem_cons, List.not_mem_nil, or_false] at hp
    rcases hp with rfl
    exact digest_Hash_ok)
noncomputable def authdata_RPHash_FH : FH := { ops := [(1, [(2, .borrow)])] }
theorem authdata_RPHash_b (a1 : ByteArray) : bodyC Tryz.prog authdata_RPHash_C authdata_RPHash_FH [] [] { keep := [] } 84 authdata_RPHash_P authdata_RPHash_H authdata_RPHash_R authdata_RPHash_G a1 _ some = authdata_RPHash a1 := by kernel_rfl
theorem authdata_RPHash_ok : EntOK Tryz.prog 84 (ent authdata_RPHash_P authdata_RPHash_H authdata_RPHash_R authdata_RPHash_G (authdata_RPHash_V (authdata_RPHash))) :=
  ent_ok authdata_RPHash_FH authdata_RPHash_Cok (hp := authdata_RPHash_H) (fn := Tryz.f84) (by kernel_rfl) (ToldC.nil 0) fun (x : ByteArray) => authdata_RPHash_b x

/-! credential_wrap: passkey/credential.wrap -/
noncomputable def credential_wrap_P : Pt := (.cons (.int .u64) .str)
noncomputable def credential_wrap_H : List Po := []
noncomputable def credential_wrap_R : Pt := (.tup (.cons (.int .u64) (.ref 0)))
noncomputable def credential_wrap_G : List Po := [(.arrN 1 5 .u8)]
noncomputable def credential_wrap_V (f : Int → ByteArray → Option ((Int × Unit) × List Int)) (x : (Int × ByteArray)) : Option ((Int × Unit) × List Int) := f x.1 x.2
noncomputable def credential_wrap_C : Cal := tbl [(59, (ent digest_Derive_P digest_Derive_H digest_Derive_R digest_Derive_G (digest_Derive_V (digest_Derive)))), (84, (ent authdata_RPHash_P authdata_RPHash_H authdata_RPHash_R authdata_RPHash_G (authdata_RPHash_V (authdata_RPHash)))), (82, (ent digest_Words_P digest_Words_H digest_Words_R digest_Words_G (digest_Words_V (digest_Words))))]
theorem credential_wrap_Cok : CalOK Tryz.prog credential_wrap_C ∧ CalNt credential_wrap_C := by
  unfold credential_wrap_C
  exact tbl_ok (by
    intro p hp
    simp only [List.mem_cons, List.not_mem_nil, or_false] at hp
    rcases hp with rfl | rfl | rfl
    · exact digest_Derive_ok
    · exact authdata_RPHash_ok
    · exact digest_Words_ok)
noncomputable def credential_wrap_FH : FH := { ops := [(1, [(5, .borrow)])] }
theorem credential_wrap_b (a1 : Int) (a2 : ByteArray) : bodyC Tryz.prog credential_wrap_C credential_wrap_FH [] [] { keep := [] } 60 credential_wrap_P credential_wrap_H credential_wrap_R credential_wrap_G (a1, a2) _ some = credential_wrap a1 a2 := by kernel_rfl
theorem credential_wrap_ok : EntOK Tryz.prog 60 (ent credential_wrap_P credential_wrap_H credential_wrap_R credential_wrap_G (credential_wrap_V (credential_wrap))) :=
  ent_ok credential_wrap_FH credential_wrap_Cok (hp := credential_wrap_H) (fn := Tryz.f60) (by kernel_rfl) (ToldC.nil 0) fun (x : (Int × ByteArray)) => credential_wrap_b x.1 x.2

/-! seal_mixed: passkey/seal.mixed -/
noncomputable def seal_mixed_l3p : SP := { n := 31, ix := [2, 7, 15, 16], p := (.cons (.nums .u8) (.cons (.ref 0) (.cons (.int .i64) (.int .i64)))), hp := [(.arrN 1 5 .u8)] }
noncomputable def seal_mixed_l3x : List (Ex × SP) := [((.exit 0), { n := 31, ix := [7], p := (.ref 0), hp := [(.arrN 1 5 .u8)] })]
noncomputable def seal_mixed_P : Pt := (.cons (.int .u64) (.cons (.int .u64) (.nums .u8)))
noncomputable def seal_mixed_H : List Po := []
noncomputable def seal_mixed_R : Pt := (.ref 0)
noncomputable def seal_mixed_G : List Po := [(.arrN 1 5 .u8)]
noncomputable def seal_mixed_V (f : Int → Int → (List Int) → Option (Unit × List Int)) (x : (Int × Int × List Int)) : Option (Unit × List Int) := f x.1 x.2.1 x.2.2
noncomputable def seal_mixed_C : Cal := tbl [(58, (ent seal_Stream_P seal_Stream_H seal_Stream_R seal_Stream_G (seal_Stream_V (seal_Stream))))]
theorem seal_mixed_Cok : CalOK Tryz.prog seal_mixed_C ∧ CalNt seal_mixed_C := by
  unfold seal_mixed_C
  exact tbl_ok (by
    intro p hp
    simp only [List.mem_cons, List.not_mem_nil, or_false] at hp
    rcases hp with rfl
    exact seal_Stream_ok)
noncomputable def seal_mixed_FH : FH := { loops := [(3, { keep := [2, 7, 15, 16] }, { keep := [6, 7] })], ops := [(5, [(6, .cold), (7, .cold)])], see := [(5, [(2, [0]), (3, [0]), (6, []), (7, [])])] }
theorem seal_mixed_l3_s (a1 : List Int) (a2 : Int) (a3 : Int) (a4 : List Int) : stepC Tryz.prog seal_mixed_C seal_mixed_FH [] [] 0 ((loopsAt 3 (codeOf Tryz.f85)).headD .skip) seal_mixed_l3p seal_mixed_l3x { keep := [2, 7, 15, 16] } { keep := [6, 7] } ((a1, (), a2, a3), a4) _ some = seal_mixed_l3 ((a1, (), a2, a3), a4) := by kernel_rfl
theorem seal_mixed_l3_t : ToldC Tryz.prog 0 (codeOf Tryz.f85) ((3, toldL seal_mixed_l3p seal_mixed_l3x seal_mixed_l3) :: []) [] :=
  ToldC.loop seal_mixed_FH 0 (ToldC.nil 0) seal_mixed_Cok 3 ((loopsAt 3 (codeOf Tryz.f85)).headD .skip) (by kernel_rfl) (p := seal_mixed_l3p) (px := seal_mixed_l3x) (g := seal_mixed_l3) (hi := { keep := [2, 7, 15, 16] }) (ho := { keep := [6, 7] }) (by kernel_rfl) fun (x : ((List Int × Unit × Int × Int) × List Int)) => seal_mixed_l3_s x.1.1 x.1.2.2.1 x.1.2.2.2 x.2
theorem seal_mixed_b (a1 : Int) (a2 : Int) (a3 : List Int) : bodyC Tryz.prog seal_mixed_C seal_mixed_FH ((3, toldL seal_mixed_l3p seal_mixed_l3x seal_mixed_l3) :: []) [] { keep := [] } 85 seal_mixed_P seal_mixed_H seal_mixed_R seal_mixed_G (a1, a2, a3) _ some = seal_mixed a1 a2 a3 := by kernel_rfl
theorem seal_mixed_ok : EntOK Tryz.prog 85 (ent seal_mixed_P seal_mixed_H seal_mixed_R seal_mixed_G (seal_mixed_V (seal_mixed))) :=
  ent_ok seal_mixed_FH seal_mixed_Cok (hp := seal_mixed_H) (fn := Tryz.f85) (by kernel_rfl) seal_mixed_l3_t fun (x : (Int × Int × List Int)) => seal_mixed_b x.1 x.2.1 x.2.2

/-! seal_tag: passkey/seal.tag -/
noncomputable def seal_tag_P : Pt := (.cons (.int .u64) (.cons (.int .u64) (.cons (.nums .u8) (.nums .u8))))
noncomputable def seal_tag_H : List Po := []
noncomputable def seal_tag_R : Pt := (.arr .u8 8)
noncomputable def seal_tag_G : List Po := []
noncomputable def seal_tag_V (f : Int → Int → (List Int) → (List Int) → Option (List Int)) (x : (Int × Int × List Int × List Int)) : Option (List Int) := f x.1 x.2.1 x.2.2.1 x.2.2.2
noncomputable def seal_tag_C : Cal := tbl [(82, (ent digest_Words_P digest_Words_H digest_Words_R digest_Words_G (digest_Words_V (digest_Words)))), (83, (ent digest_Mac_P digest_Mac_H digest_Mac_R digest_Mac_G (digest_Mac_V (digest_Mac))))]
theorem seal_tag_Cok : CalOK Tryz.prog seal_tag_C ∧ CalNt seal_tag_C := by
  unfold seal_tag_C
  exact tbl_ok (by
    intro p hp
    simp only [List.mem_cons, List.not_mem_nil, or_false] at hp
    rcases hp with rfl | rfl
    · exact digest_Words_ok
    · exact digest_Mac_ok)
noncomputable def seal_tag_FH : FH := { ops := [(1, [(5, .borrow)]), (2, [(4, .borrow), (6, .borrow)])] }
theorem seal_tag_b (a1 : Int) (a2 : Int) (a3 : List Int) (a4 : List Int) : bodyC Tryz.prog seal_tag_C seal_tag_FH [] [] { keep := [] } 86 seal_tag_P seal_tag_H seal_tag_R seal_tag_G (a1, a2, a3, a4) _ some = seal_tag a1 a2 a3 a4 := by kernel_rfl
theorem seal_tag_ok : EntOK Tryz.prog 86 (ent seal_tag_P seal_tag_H seal_tag_R seal_tag_G (seal_tag_V (seal_tag))) :=
  ent_ok seal_tag_FH seal_tag_Cok (hp := seal_tag_H) (fn := Tryz.f86) (by kernel_rfl) (ToldC.nil 0) fun (x : (Int × Int × List Int × List Int)) => seal_tag_b x.1 x.2.1 x.2.2.1 x.2.2.2

/-! seal_Seal: passkey/seal.Seal -/
noncomputable def seal_Seal_P : Pt := (.cons (.int .u64) (.cons (.int .u64) (.cons (.nums .u8) (.nums .u8))))
noncomputable def seal_Seal_H : List Po := []
noncomputable def seal_Seal_R : Pt := (.tup (.cons (.ref 0) (.int .i64)))
noncomputable def seal_Seal_G : List Po := [(.arrN 1 5 .u8)]
noncomputable def seal_Seal_V (f : Int → Int → (List Int) → (List Int) → Option ((Unit × Int) × List Int)) (x : (Int × Int × List Int × List Int)) : Option ((Unit × Int) × List Int) := f x.1 x.2.1 x.2.2.1 x.2.2.2
noncomputable def seal_Seal_C : Cal := tbl [(85, (ent seal_mixed_P seal_mixed_H seal_mixed_R seal_mixed_G (seal_mixed_V (seal_mixed)))), (86, (ent seal_tag_P seal_tag_H seal_tag_R seal_tag_G (seal_tag_V (seal_tag)))), (82, (ent digest_Words_P digest_Words_H digest_Words_R digest_Words_G (digest_Words_V (digest_Words))))]
theorem seal_Seal_Cok : CalOK Tryz.prog seal_Seal_C ∧ CalNt seal_Seal_C := by
  unfold seal_Seal_C
  exact tbl_ok (by
    intro p hp
    simp only [List.mem_cons, List.not_mem_nil, or_false] at hp
    rcases hp with rfl | rfl | rfl
    · exact seal_mixed_ok
    · exact seal_tag_ok
    · exact digest_Words_ok)
noncomputable def seal_Seal_FH : FH := { ops := [(4, [(4, .borrow)]), (5, [(2, .borrow)])], see := [(5, [(1, []), (2, []), (4, [0]), (5, [1])])] }
theorem seal_Seal_b (a1 : Int) (a2 : Int) (a3 : List Int) (a4 : List Int) : bodyC Tryz.prog seal_Seal_C seal_Seal_FH [] [] { keep := [], own := [(0, 5)] } 61 seal_Seal_P seal_Seal_H seal_Seal_R seal_Seal_G (a1, a2, a3, a4) _ some = seal_Seal a1 a2 a3 a4 := by kernel_rfl
theorem seal_Seal_ok : EntOK Tryz.prog 61 (ent seal_Seal_P seal_Seal_H seal_Seal_R seal_Seal_G (seal_Seal_V (seal_Seal))) :=
  ent_ok seal_Seal_FH seal_Seal_Cok (hp := seal_Seal_H) (fn := Tryz.f61) (by kernel_rfl) (ToldC.nil 0) fun (x : (Int × Int × List Int × List Int)) => seal_Seal_b x.1 x.2.1 x.2.2.1 x.2.2.2

/-! credential_ID: passkey/credential.ID -/
noncomputable def credential_ID_P : Pt := (.cons (.int .u64) (.cons (.int .u64) (.agg (.cons .str (.cons .str (.cons .str (.cons (.int .u64) (.cons (.int .i64) (.cons .bool (.cons (.int .i64) (.cons .bool .bool)))))))))))
noncomputable def credential_ID_H : List Po := []
noncomputable def credential_ID_R : Pt := (.tup (.cons (.ref 0) (.int .i64)))
noncomputable def credential_ID_G : List Po := [(.arrN 1 5 .u8)]
noncomputable def credential_ID_V (f : Int → Int → ByteArray → ByteArray → ByteArray → Int → Int → Bool → Int → Bool → Bool → Option ((Unit × Int) × List Int)) (x : (Int × Int × (ByteArray × ByteArray × ByteArray × Int × Int × Bool × Int × Bool × Bool))) : Option ((Unit × Int) × List Int) := f x.1 x.2.1 x.2.2.1 x.2.2.2.1 x.2.2.2.2.1 x.2.2.2.2.2.1 x.2.2.2.2.2.2.1 x.2.2.2.2.2.2.2.1 x.2.2.2.2.2.2.2.2.1 x.2.2.2.2.2.2.2.2.2.1 x.2.2.2.2.2.2.2.2.2.2
noncomputable def credential_ID_C : Cal := tbl [(13, (ent credential_Encode_P credential_Encode_H credential_Encode_R credential_Encode_G (credential_Encode_V (credential_Encode)))), (59, (ent digest_Derive_P digest_Derive_H digest_Derive_R digest_Derive_G (digest_Derive_V (digest_Derive)))), (58, (ent seal_Stream_P seal_Stream_H seal_Stream_R seal_Stream_G (seal_Stream_V (seal_Stream)))), (60, (ent credential_wrap_P credential_wrap_H credential_wrap_R credential_wrap_G (credential_wrap_V (credential_wrap)))), (61, (ent seal_Seal_P seal_Seal_H seal_Seal_R seal_Seal_G (seal_Seal_V (seal_Seal))))]
theorem credential_ID_Cok : CalOK Tryz.prog credential_ID_C ∧ CalNt credential_ID_C := by
  unfold credential_ID_C
  exact tbl_ok (by
    intro p hp
    simp only [List.mem_cons, List.not_mem_nil, or_false] at hp
    rcases hp with rfl | rfl | rfl | rfl | rfl
    · exact credential_Encode_ok
    · exact digest_Derive_ok
    · exact seal_Stream_ok
    · exact credential_wrap_ok
    · exact seal_Seal_ok)
noncomputable def credential_ID_FH : FH := { ops := [(7, [(8, .borrow)])] }
theorem credential_ID_b (a1 : Int) (a2 : Int) (a3 : ByteArray) (a4 : ByteArray) (a5 : ByteArray) (a6 : Int) (a7 : Int) (a8 : Bool) (a9 : Int) (a10 : Bool) (a11 : Bool) : bodyC Tryz.prog credential_ID_C credential_ID_FH [] [] { keep := [], own := [(0, 5)] } 24 credential_ID_P credential_ID_H credential_ID_R credential_ID_G (a1, a2, (a3, a4, a5, a6, a7, a8, a9, a10, a11)) _ some = credential_ID a1 a2 a3 a4 a5 a6 a7 a8 a9 a10 a11 := by kernel_rfl
theorem credential_ID_ok : EntOK Tryz.prog 24 (ent credential_ID_P credential_ID_H credential_ID_R credential_ID_G (credential_ID_V (credential_ID))) :=
  ent_ok credential_ID_FH credential_ID_Cok (hp := credential_ID_H) (fn := Tryz.f24) (by kernel_rfl) (ToldC.nil 0) fun (x : (Int × Int × (ByteArray × ByteArray × ByteArray × Int × Int × Bool × Int × Bool × Bool))) => credential_ID_b x.1 x.2.1 x.2.2.1 x.2.2.2.1 x.2.2.2.2.1 x.2.2.2.2.2.1 x.2.2.2.2.2.2.1 x.2.2.2.2.2.2.2.1 x.2.2.2.2.2.2.2.2.1 x.2.2.2.2.2.2.2.2.2.1 x.2.2.2.2.2.2.2.2.2.2

/-! seal_word: passkey/seal.word -/
noncomputable def seal_word_l3p : SP := { n := 17, ix := [3, 6, 7], p := (.cons (.int .u64) (.cons (.arr .u8 8) (.int .i64))) }
noncomputable def seal_word_l3x : List (Ex × SP) := [((.exit 0), { n := 17, ix := [3], p := (.int .u64) })]
noncomputable def seal_word_P : Pt := (.arr .u8 8)
noncomputable def seal_word_H : List Po := []
noncomputable def seal_word_R : Pt := (.int .u64)
noncomputable def seal_word_G : List Po := []
noncomputable def seal_word_V (f : (List Int) → Option Int) (x : List Int) : Option Int := f x
noncomputable def seal_word_C : Cal := tbl []
theorem seal_word_Cok : CalOK Tryz.prog seal_word_C ∧ CalNt seal_word_C := by
  unfold seal_word_C
  exact tbl_ok (by intro p hp; simp at hp)
noncomputable def seal_word_FH : FH := { loops := [(3, { keep := [3, 6, 7] }, { keep := [2, 3] })] }
theorem seal_word_l3_s (a1 : Int) (a2 : List Int) (a3 : Int) : stepC Tryz.prog seal_word_C seal_word_FH [] [] 0 ((loopsAt 3 (codeOf Tryz.f87)).headD .skip) seal_word_l3p seal_word_l3x { keep := [3, 6, 7] } { keep := [2, 3] } (a1, a2, a3) _ some = seal_word_l3 (a1, a2, a3) := by kernel_rfl
theorem seal_word_l3_t : ToldC Tryz.prog 0 (codeOf Tryz.f87) ((3, toldL seal_word_l3p seal_word_l3x seal_word_l3) :: []) [] :=
  ToldC.loop seal_word_FH 0 (ToldC.nil 0) seal_word_Cok 3 ((loopsAt 3 (codeOf Tryz.f87)).headD .skip) (by kernel_rfl) (p := seal_word_l3p) (px := seal_word_l3x) (g := seal_word_l3) (hi := { keep := [3, 6, 7] }) (ho := { keep := [2, 3] }) (by kernel_rfl) fun (x : (Int × List Int × Int)) => seal_word_l3_s x.1 x.2.1 x.2.2
theorem seal_word_b (a1 : List Int) : bodyC Tryz.prog seal_word_C seal_word_FH ((3, toldL seal_word_l3p seal_word_l3x seal_word_l3) :: []) [] { keep := [] } 87 seal_word_P seal_word_H seal_word_R seal_word_G a1 _ some = seal_word a1 := by kernel_rfl
theorem seal_word_ok : EntOK Tryz.prog 87 (ent seal_word_P seal_word_H seal_word_R seal_word_G (seal_word_V (seal_word))) :=
  ent_ok seal_word_FH seal_word_Cok (hp := seal_word_H) (fn := Tryz.f87) (by kernel_rfl) seal_word_l3_t fun (x : List Int) => seal_word_b x

/-! seal_Open: passkey/seal.Open -/
noncomputable def seal_Open_P : Pt := (.cons (.int .u64) (.cons (.nums .u8) (.nums .u8)))
noncomputable def seal_Open_H : List Po := []
noncomputable def seal_Open_R : Pt := (.tup (.cons (.ref 0) (.int .i64)))
noncomputable def seal_Open_G : List Po := [(.arrN 1 5 .u8)]
noncomputable def seal_Open_V (f : Int → (List Int) → (List Int) → Option ((Unit × Int) × List Int)) (x : (Int × List Int × List Int)) : Option ((Unit × Int) × List Int) := f x.1 x.2.1 x.2.2
noncomputable def seal_Open_C : Cal := tbl [(87, (ent seal_word_P seal_word_H seal_word_R seal_word_G (seal_word_V (seal_word)))), (86, (ent seal_tag_P seal_tag_H seal_tag_R seal_tag_G (seal_tag_V (seal_tag)))), (85, (ent seal_mixed_P seal_mixed_H seal_mixed_R seal_mixed_G (seal_mixed_V (seal_mixed))))]
theorem seal_Open_Cok : CalOK Tryz.prog seal_Open_C ∧ CalNt seal_Open_C := by
  unfold seal_Open_C
  exact tbl_ok (by
    intro p hp
    simp only [List.mem_cons, List.not_mem_nil, or_false] at hp
    rcases hp with rfl | rfl | rfl
    · exact seal_word_ok
    · exact seal_tag_ok
    · exact seal_mixed_ok)
noncomputable def seal_Open_FH : FH := { ops := [(5, [(3, .cold), (16, .cold)])], see := [(5, [(1, []), (2, []), (3, []), (4, []), (7, []), (9, []), (12, []), (14, []), (15, []), (16, []), (17, [])]), (6, [(0, [136]), (5, [])])] }
theorem seal_Open_b (a1 : Int) (a2 : List Int) (a3 : List Int) : bodyC Tryz.prog seal_Open_C seal_Open_FH [] [] { keep := [], own := [(0, 5)] } 62 seal_Open_P seal_Open_H seal_Open_R seal_Open_G (a1, a2, a3) _ some = seal_Open a1 a2 a3 := by kernel_rfl
theorem seal_Open_ok : EntOK Tryz.prog 62 (ent seal_Open_P seal_Open_H seal_Open_R seal_Open_G (seal_Open_V (seal_Open))) :=
  ent_ok seal_Open_FH seal_Open_Cok (hp := seal_Open_H) (fn := Tryz.f62) (by kernel_rfl) (ToldC.nil 0) fun (x : (Int × List Int × List Int)) => seal_Open_b x.1 x.2.1 x.2.2

/-! cbor_first: passkey/cbor.first -/
noncomputable def cbor_first_j6p : SP := { n := 79, ix := [0], p := (.nums .u8) }
noncomputable def cbor_first_j6x : List (Ex × SP) := [(.ret, { n := 79, ix := [2, 3, 4, 5], p := (.cons (.int .i64) (.cons (.int .u64) (.cons (.int .i64) (.int .i64)))) })]
noncomputable def cbor_first_j7p : SP := { n := 79, ix := [0, 3, 15], p := (.cons (.nums .u8) (.cons (.int .u64) (.int .u8))) }
noncomputable def cbor_first_j7x : List (Ex × SP) := [(.ret, { n := 79, ix := [2, 3, 4, 5], p := (.cons (.int .i64) (.cons (.int .u64) (.cons (.int .i64) (.int .i64)))) }), (.norm, { n := 79, ix := [0, 3], p := (.cons (.nums .u8) (.int .u64)) })]
noncomputable def cbor_first_j11p : SP := { n := 79, ix := [], p := .nil }
noncomputable def cbor_first_j11x : List (Ex × SP) := [(.ret, { n := 79, ix := [2, 3, 4, 5], p := (.cons (.int .i64) (.cons (.int .u64) (.cons (.int .i64) (.int .i64)))) })]
noncomputable def cbor_first_l19p : SP := { n := 79, ix := [2, 3, 4, 6, 58, 59, 60], p := (.cons (.int .i64) (.cons (.int .u64) (.cons (.int .i64) (.cons (.int .u8) (.cons (.nums .u8) (.cons (.int .i64) (.int .i64))))))) }
noncomputable def cbor_first_l19x : List (Ex × SP) := [((.exit 1), { n := 79, ix := [2, 3, 4, 6], p := (.cons (.int .i64) (.cons (.int .u64) (.cons (.int .i64) (.int .u8)))) })]
noncomputable def cbor_first_P : Pt := (.nums .u8)
noncomputable def cbor_first_H : List Po := []
noncomputable def cbor_first_R : Pt := (.tup (.cons (.int .i64) (.cons (.int .u64) (.cons (.int .i64) (.int .i64)))))
noncomputable def cbor_first_G : List Po := []
noncomputable def cbor_first_V (f : (List Int) → Option (Int × Int × Int × Int)) (x : List Int) : Option (Int × Int × Int × Int) := f x
noncomputable def cbor_first_C : Cal := tbl [(114, (ent cbor_head_P cbor_head_H cbor_head_R cbor_head_G (cbor_head_V (cbor_head))))]
theorem cbor_first_Cok : CalOK Tryz.prog cbor_first_C ∧ CalNt cbor_first_C := by
  unfold cbor_first_C
  exact tbl_ok (by
    intro p hp
    simp only [List.mem_cons, List.not_mem_nil, or_false] at hp
    rcases hp with rfl
    exact cbor_head_ok)
noncomputable def cbor_first_FH : FH := { join := [(6, { keep := [0] }), (7, { keep := [0, 3, 15] }), (11, { keep := [] })], loops := [(19, { keep := [2, 3, 4, 6, 58, 59, 60] }, { keep := [2, 3, 4, 5, 6] })], ops := [(9, [(1, .cold), (2, .cold), (5, .cold), (6, .cold)])], see := [(9, [(1, []), (2, []), (5, []), (6, [])])] }
theorem cbor_first_j6_s (a1 : List Int) : joinC Tryz.prog cbor_first_C cbor_first_FH [] [] 0 ((joinsAt 6 (codeOf Tryz.f156)).headD .skip) cbor_first_j6p cbor_first_j6x { keep := [0, 2, 3, 4, 5] } a1 _ some = cbor_first_j6 a1 := by kernel_rfl
theorem cbor_first_j6_t : ToldC Tryz.prog 0 (codeOf Tryz.f156) [] ((6, toldJ cbor_first_j6p cbor_first_j6x cbor_first_j6) :: []) :=
  ToldC.join cbor_first_FH 0 (ToldC.nil 0) cbor_first_Cok 6 ((joinsAt 6 (codeOf Tryz.f156)).headD .skip) (by kernel_rfl) (p := cbor_first_j6p) (px := cbor_first_j6x) (g := cbor_first_j6) (ho := { keep := [0, 2, 3, 4, 5] }) fun (x : List Int) => cbor_first_j6_s x
theorem cbor_first_j7_s (a1 : List Int) (a2 : Int) (a3 : Int) : joinC Tryz.prog cbor_first_C cbor_first_FH [] ((6, toldJ cbor_first_j6p cbor_first_j6x cbor_first_j6) :: []) 0 ((joinsAt 7 (codeOf Tryz.f156)).headD .skip) cbor_first_j7p cbor_first_j7x { keep := [0, 2, 3, 4, 5] } (a1, a2, a3) _ some = cbor_first_j7 (a1, a2, a3) := by kernel_rfl
theorem cbor_first_j7_t : ToldC Tryz.prog 0 (codeOf Tryz.f156) [] ((7, toldJ cbor_first_j7p cbor_first_j7x cbor_first_j7) :: ((6, toldJ cbor_first_j6p cbor_first_j6x cbor_first_j6) :: [])) :=
  ToldC.join cbor_first_FH 0 cbor_first_j6_t cbor_first_Cok 7 ((joinsAt 7 (codeOf Tryz.f156)).headD .skip) (by kernel_rfl) (p := cbor_first_j7p) (px := cbor_first_j7x) (g := cbor_first_j7) (ho := { keep := [0, 2, 3, 4, 5] }) fun (x : (List Int × Int × Int)) => cbor_first_j7_s x.1 x.2.1 x.2.2
theorem cbor_first_j11_s : joinC Tryz.prog cbor_first_C cbor_first_FH [] ((7, toldJ cbor_first_j7p cbor_first_j7x cbor_first_j7) :: ((6, toldJ cbor_first_j6p cbor_first_j6x cbor_first_j6) :: [])) 0 ((joinsAt 11 (codeOf Tryz.f156)).headD .skip) cbor_first_j11p cbor_first_j11x { keep := [0, 2, 3, 4, 5, 6, 7] } () _ some = cbor_first_j11 () := by kernel_rfl
theorem cbor_first_j11_t : ToldC Tryz.prog 0 (codeOf Tryz.f156) [] ((11, toldJ cbor_first_j11p cbor_first_j11x cbor_first_j11) :: ((7, toldJ cbor_first_j7p cbor_first_j7x cbor_first_j7) :: ((6, toldJ cbor_first_j6p cbor_first_j6x cbor_first_j6) :: []))) :=
  ToldC.join cbor_first_FH 0 cbor_first_j7_t cbor_first_Cok 11 ((joinsAt 11 (codeOf Tryz.f156)).headD .skip) (by kernel_rfl) (p := cbor_first_j11p) (px := cbor_first_j11x) (g := cbor_first_j11) (ho := { keep := [0, 2, 3, 4, 5, 6, 7] }) fun (x : Unit) => cbor_first_j11_s
theorem cbor_first_l19_s (a1 : Int) (a2 : Int) (a3 : Int) (a4 : Int) (a5 : List Int) (a6 : Int) (a7 : Int) : stepC Tryz.prog cbor_first_C cbor_first_FH [] ((11, toldJ cbor_first_j11p cbor_first_j11x cbor_first_j11) :: ((7, toldJ cbor_first_j7p cbor_first_j7x cbor_first_j7) :: ((6, toldJ cbor_first_j6p cbor_first_j6x cbor_first_j6) :: []))) 0 ((loopsAt 19 (codeOf Tryz.f156)).headD .skip) cbor_first_l19p cbor_first_l19x { keep := [2, 3, 4, 6, 58, 59, 60] } { keep := [2, 3, 4, 5, 6] } (a1, a2, a3, a4, a5, a6, a7) _ some = cbor_first_l19 (a1, a2, a3, a4, a5, a6, a7) := by kernel_rfl
theorem cbor_first_l19_t : ToldC Tryz.prog 0 (codeOf Tryz.f156) ((19, toldL cbor_first_l19p cbor_first_l19x cbor_first_l19) :: []) ((11, toldJ cbor_first_j11p cbor_first_j11x cbor_first_j11) :: ((7, toldJ cbor_first_j7p cbor_first_j7x cbor_first_j7) :: ((6, toldJ cbor_first_j6p cbor_first_j6x cbor_first_j6) :: []))) :=
  ToldC.loop cbor_first_FH 0 cbor_first_j11_t cbor_first_Cok 19 ((loopsAt 19 (codeOf Tryz.f156)).headD .skip) (by kernel_rfl) (p := cbor_first_l19p) (px := cbor_first_l19x) (g := cbor_first_l19) (hi := { keep := [2, 3, 4, 6, 58, 59, 60] }) (ho := { keep := [2, 3, 4, 5, 6] }) (by kernel_rfl) fun (x : (Int × Int × Int × Int × List Int × Int × Int)) => cbor_first_l19_s x.1 x.2.1 x.2.2.1 x.2.2.2.1 x.2.2.2.2.1 x.2.2.2.2.2.1 x.2.2.2.2.2.2
theorem cbor_first_b (a1 : List Int) : bodyC Tryz.prog cbor_first_C cbor_first_FH ((19, toldL cbor_first_l19p cbor_first_l19x cbor_first_l19) :: []) ((11, toldJ cbor_first_j11p cbor_first_j11x cbor_first_j11) :: ((7, toldJ cbor_first_j7p cbor_first_j7x cbor_first_j7) :: ((6, toldJ cbor_first_j6p cbor_first_j6x cbor_first_j6) :: []))) { keep := [] } 156 cbor_first_P cbor_first_H cbor_first_R cbor_first_G a1 _ some = cbor_first a1 := by kernel_rfl
theorem cbor_first_ok : EntOK Tryz.prog 156 (ent cbor_first_P cbor_first_H cbor_first_R cbor_first_G (cbor_first_V (cbor_first))) :=
  ent_ok cbor_first_FH cbor_first_Cok (hp := cbor_first_H) (fn := Tryz.f156) (by kernel_rfl) cbor_first_l19_t fun (x : List Int) => cbor_first_b x

/-! cbor_walk_isKey_c34: (*passkey/cbor.walk).isKey -/
noncomputable def cbor_walk_isKey_c34_P : Pt := (.ptr 0 0)
noncomputable def cbor_walk_isKey_c34_H : List Po := [(.cells (.cons (.ref 1) (.cons (.int .i64) (.cons .bool (.cons (.nums .u8) (.int .i64)))))), (.arrS 3 181 3)]
noncomputable def cbor_walk_isKey_c34_R : Pt := .bool
noncomputable def cbor_walk_isKey_c34_G : List Po := [(.cells (.cons (.ref 1) (.cons (.int .i64) (.cons .bool (.cons (.nums .u8) (.int .i64)))))), (.arrS 3 181 3)]
noncomputable def cbor_walk_isKey_c34_V (f : Int → Bool → (List Int) → Int → (List PD) → Option (Bool × ((Unit × Int × Bool × List Int × Int) × List PD))) (x : (Unit × ((Unit × Int × Bool × List Int × Int) × List PD))) : Option (Bool × ((Unit × Int × Bool × List Int × Int) × List PD)) := f x.2.1.2.1 x.2.1.2.2.1 x.2.1.2.2.2.1 x.2.1.2.2.2.2 x.2.2
noncomputable def cbor_walk_isKey_c34_C : Cal := tbl []
theorem cbor_walk_isKey_c34_Cok : CalOK Tryz.prog cbor_walk_isKey_c34_C ∧ CalNt cbor_walk_isKey_c34_C := by
  unfold cbor_walk_isKey_c34_C
  exact tbl_ok (by intro p hp; simp at hp)
noncomputable def cbor_walk_isKey_c34_FH : FH := {}
theorem cbor_walk_isKey_c34_b (a1 : Int) (a2 : Bool) (a3 : List Int) (a4 : Int) (a5 : List PD) : bodyC Tryz.prog cbor_walk_isKey_c34_C cbor_walk_isKey_c34_FH [] [] { keep := [] } 152 cbor_walk_isKey_c34_P cbor_walk_isKey_c34_H cbor_walk_isKey_c34_R cbor_walk_isKey_c34_G ((), (((), a1, a2, a3, a4), a5)) _ some = cbor_walk_isKey_c34 a1 a2 a3 a4 a5 := by kernel_rfl
theorem cbor_walk_isKey_c34_ok : EntOK Tryz.prog 152 (ent cbor_walk_isKey_c34_P cbor_walk_isKey_c34_H cbor_walk_isKey_c34_R cbor_walk_isKey_c34_G (cbor_walk_isKey_c34_V (cbor_walk_isKey_c34))) :=
  ent_ok cbor_walk_isKey_c34_FH cbor_walk_isKey_c34_Cok (hp := cbor_walk_isKey_c34_H) (fn := Tryz.f152) (by kernel_rfl) (ToldC.nil 2) fun (x : (Unit × ((Unit × Int × Bool × List Int × Int) × List PD))) => cbor_walk_isKey_c34_b x.2.1.2.1 x.2.1.2.2.1 x.2.1.2.2.2.1 x.2.1.2.2.2.2 x.2.2

/-! cbor_walk_enter_98d: (*passkey/cbor.walk).enter -/
noncomputable def cbor_walk_enter_98d_P : Pt := (.cons (.ptr 0 0) (.int .i64))
noncomputable def cbor_walk_enter_98d_H : List Po := [(.cells (.cons (.ref 1) (.cons (.int .i64) (.cons .bool (.cons (.nums .u8) (.int .i64)))))), (.arrS 3 181 3)]
noncomputable def cbor_walk_enter_98d_R : Pt := (.int .i64)
noncomputable def cbor_walk_enter_98d_G : List Po := [(.cells (.cons (.ref 1) (.cons (.int .i64) (.cons .bool (.cons (.nums .u8) (.int .i64)))))), (.arrS 3 181 3)]
noncomputable def cbor_walk_enter_98d_V (f : Int → Int → Bool → (List Int) → Int → (List PD) → Option (Int × ((Unit × Int × Bool × List Int × Int) × List PD))) (x : ((Unit × Int) × ((Unit × Int × Bool × List Int × Int) × List PD))) : Option (Int × ((Unit × Int × Bool × List Int × Int) × List PD)) := f x.1.2 x.2.1.2.1 x.2.1.2.2.1 x.2.1.2.2.2.1 x.2.1.2.2.2.2 x.2.2
noncomputable def cbor_walk_enter_98d_C : Cal := tbl [(152, (ent cbor_walk_isKey_c34_P cbor_walk_isKey_c34_H cbor_walk_isKey_c34_R cbor_walk_isKey_c34_G (cbor_walk_isKey_c34_V (cbor_walk_isKey_c34))))]
theorem cbor_walk_enter_98d_Cok : CalOK Tryz.prog cbor_walk_enter_98d_C ∧ CalNt cbor_walk_enter_98d_C := by
  unfold cbor_walk_enter_98d_C
  exact tbl_ok (by
    intro p hp
    simp only [List.mem_cons, List.not_mem_nil, or_false] at hp
    rcases hp with rfl
    exact cbor_walk_isKey_c34_ok)
noncomputable def cbor_walk_enter_98d_FH : FH := {}
theorem cbor_walk_enter_98d_b (a1 : Int) (a2 : Int) (a3 : Bool) (a4 : List Int) (a5 : Int) (a6 : List PD) : bodyC Tryz.prog cbor_walk_enter_98d_C cbor_walk_enter_98d_FH [] [] { keep := [] } 110 cbor_walk_enter_98d_P cbor_walk_enter_98d_H cbor_walk_enter_98d_R cbor_walk_enter_98d_G (((), a1), (((), a2, a3, a4, a5), a6)) _ some = cbor_walk_enter_98d a1 a2 a3 a4 a5 a6 := by kernel_rfl
theorem cbor_walk_enter_98d_ok : EntOK Tryz.prog 110 (ent cbor_walk_enter_98d_P cbor_walk_enter_98d_H cbor_walk_enter_98d_R cbor_walk_enter_98d_G (cbor_walk_enter_98d_V (cbor_walk_enter_98d))) :=
  ent_ok cbor_walk_enter_98d_FH cbor_walk_enter_98d_Cok (hp := cbor_walk_enter_98d_H) (fn := Tryz.f110) (by kernel_rfl) (ToldC.nil 2) fun (x : ((Unit × Int) × ((Unit × Int × Bool × List Int × Int) × List PD))) => cbor_walk_enter_98d_b x.1.2 x.2.1.2.1 x.2.1.2.2.1 x.2.1.2.2.2.1 x.2.1.2.2.2.2 x.2.2

/-! cbor_walk_content_f84: (*passkey/cbor.walk).content -/
noncomputable def cbor_walk_content_f84_l18p : SP := { n := 174, ix := [0], p := (.ptr 0 0), hp := [(.cells (.cons (.ref 2) (.cons (.int .i64) (.cons .bool (.cons (.nums .u8) (.int .i64)))))), .dead, (.arrS 3 181 3)] }
noncomputable def cbor_walk_content_f84_l18x : List (Ex × SP) := [((.exit 1), { n := 174, ix := [0], p := (.ptr 0 0), hp := [(.cells (.cons (.ref 2) (.cons (.int .i64) (.cons .bool (.cons (.nums .u8) (.int .i64)))))), .dead, (.arrS 3 181 3)] })]
noncomputable def cbor_walk_content_f84_j18p : SP := { n := 174, ix := [0], p := (.ptr 0 0), hp := [(.cells (.cons (.ref 2) (.cons (.int .i64) (.cons .bool (.cons (.nums .u8) (.int .i64)))))), .dead, (.arrS 3 181 3)] }
noncomputable def cbor_walk_content_f84_j18x : List (Ex × SP) := [(.ret, { n := 174, ix := [4], p := (.int .i64), hp := [(.cells (.cons (.ref 2) (.cons (.int .i64) (.cons .bool (.cons (.nums .u8) (.int .i64)))))), .dead, (.arrS 3 181 3)] })]
noncomputable def cbor_walk_content_f84_j13p : SP := { n := 174, ix := [0, 3], p := (.cons (.ptr 0 0) (.ptr 2 0)), hp := [(.cells (.cons (.ref 1) (.cons (.int .i64) (.cons .bool (.cons (.nums .u8) (.int .i64)))))), (.arrS 3 181 3), (.cells (.cons (.int .i64) (.cons (.int .u64) .str)))] }
noncomputable def cbor_walk_content_f84_j13x : List (Ex × SP) := [(.ret, { n := 174, ix := [4], p := (.int .i64), hp := [(.cells (.cons (.ref 2) (.cons (.int .i64) (.cons .bool (.cons (.nums .u8) (.int .i64)))))), .dead, (.arrS 3 181 3)] })]
noncomputable def cbor_walk_content_f84_j9p : SP := { n := 174, ix := [0, 3], p := (.cons (.ptr 0 0) (.ptr 2 0)), hp := [(.cells (.cons (.ref 1) (.cons (.int .i64) (.cons .bool (.cons (.nums .u8) (.int .i64)))))), (.arrS 3 181 3), (.cells (.cons (.int .i64) (.cons (.int .u64) .str)))] }
noncomputable def cbor_walk_content_f84_j9x : List (Ex × SP) := [(.ret, { n := 174, ix := [4], p := (.int .i64), hp := [(.cells (.cons (.ref 2) (.cons (.int .i64) (.cons .bool (.cons (.nums .u8) (.int .i64)))))), .dead, (.arrS 3 181 3)] })]
noncomputable def cbor_walk_content_f84_P : Pt := (.cons (.ptr 0 0) (.agg (.cons (.int .i64) (.cons (.int .u64) .str))))
noncomputable def cbor_walk_content_f84_H : List Po := [(.cells (.cons (.ref 1) (.cons (.int .i64) (.cons .bool (.cons (.nums .u8) (.int .i64)))))), (.arrS 3 181 3)]
noncomputable def cbor_walk_content_f84_R : Pt := (.int .i64)
noncomputable def cbor_walk_content_f84_G : List Po := [(.cells (.cons (.ref 2) (.cons (.int .i64) (.cons .bool (.cons (.nums .u8) (.int .i64)))))), .dead, (.arrS 3 181 3)]
noncomputable def cbor_walk_content_f84_V (f : Int → Int → ByteArray → Int → Bool → (List Int) → Int → (List PD) → Option (Int × ((Unit × Int × Bool × List Int × Int) × Unit × List PD))) (x : ((Unit × (Int × Int × ByteArray)) × ((Unit × Int × Bool × List Int × Int) × List PD))) : Option (Int × ((Unit × Int × Bool × List Int × Int) × Unit × List PD)) := f x.1.2.1 x.1.2.2.1 x.1.2.2.2 x.2.1.2.1 x.2.1.2.2.1 x.2.1.2.2.2.1 x.2.1.2.2.2.2 x.2.2
noncomputable def cbor_walk_content_f84_C : Cal := tbl [(49, (ent utf8_ValidString_P utf8_ValidString_H utf8_ValidString_R utf8_ValidString_G utf8_ValidString_W)), (152, (ent cbor_walk_isKey_c34_P cbor_walk_isKey_c34_H cbor_walk_isKey_c34_R cbor_walk_isKey_c34_G (cbor_walk_isKey_c34_V (cbor_walk_isKey_c34)))), (75, (ent cbor_encode_P cbor_encode_H cbor_encode_R cbor_encode_G (cbor_encode_V (cbor_encode))))]
theorem cbor_walk_content_f84_Cok : CalOK Tryz.prog cbor_walk_content_f84_C ∧ CalNt cbor_walk_content_f84_C := by
  unfold cbor_walk_content_f84_C
  exact tbl_ok (by
    intro p hp
    simp only [List.mem_cons, List.not_mem_nil, or_false] at hp
    rcases hp with rfl | rfl | rfl
    · exact utf8_ValidString_ok
    · exact cbor_walk_isKey_c34_ok
    · exact cbor_encode_ok)
noncomputable def cbor_walk_content_f84_FH : FH := { join := [(18, { keep := [0], mv := [(0, 0)] }), (13, { keep := [0, 3] }), (9, { keep := [0, 3] })], loops := [(18, { keep := [0] }, { keep := [0, 4] })], ops := [(19, [(11, .take)])], see := [(4, [(3, [0]), (7, [0]), (8, [1])]), (15, [(4, [0]), (6, [2]), (7, []), (9, [])]), (17, [(4, [0]), (6, [2]), (7, []), (10, [])]), (18, [(10, [0]), (14, [0]), (15, [2])]), (19, [(4, [0]), (8, [0]), (9, [2])])] }
theorem cbor_walk_content_f84_l18_s (a1 : Int) (a2 : Bool) (a3 : List Int) (a4 : Int) (a5 : List PD) : stepC Tryz.prog cbor_walk_content_f84_C cbor_walk_content_f84_FH [] [] 2 ((loopsAt 18 (codeOf Tryz.f113)).headD .skip) cbor_walk_content_f84_l18p cbor_walk_content_f84_l18x { keep := [0] } { keep := [0, 4] } ((), (((), a1, a2, a3, a4), (), a5)) _ some = cbor_walk_content_f84_l18 ((), (((), a1, a2, a3, a4), (), a5)) := by kernel_rfl
theorem cbor_walk_content_f84_l18_t : ToldC Tryz.prog 2 (codeOf Tryz.f113) ((18, toldL cbor_walk_content_f84_l18p cbor_walk_content_f84_l18x cbor_walk_content_f84_l18) :: []) [] :=
  ToldC.loop cbor_walk_content_f84_FH 2 (ToldC.nil 2) cbor_walk_content_f84_Cok 18 ((loopsAt 18 (codeOf Tryz.f113)).headD .skip) (by kernel_rfl) (p := cbor_walk_content_f84_l18p) (px := cbor_walk_content_f84_l18x) (g := cbor_walk_content_f84_l18) (hi := { keep := [0] }) (ho := { keep := [0, 4] }) (by kernel_rfl) fun (x : (Unit × ((Unit × Int × Bool × List Int × Int) × Unit × List PD))) => cbor_walk_content_f84_l18_s x.2.1.2.1 x.2.1.2.2.1 x.2.1.2.2.2.1 x.2.1.2.2.2.2 x.2.2.2
theorem cbor_walk_content_f84_j18_s (a1 : Int) (a2 : Bool) (a3 : List Int) (a4 : Int) (a5 : List PD) : joinC Tryz.prog cbor_walk_content_f84_C cbor_walk_content_f84_FH ((18, toldL cbor_walk_content_f84_l18p cbor_walk_content_f84_l18x cbor_walk_content_f84_l18) :: []) [] 2 ((joinsAt 18 (codeOf Tryz.f113)).headD .skip) cbor_walk_content_f84_j18p cbor_walk_content_f84_j18x { keep := [4] } ((), (((), a1, a2, a3, a4), (), a5)) _ some = cbor_walk_content_f84_j18 ((), (((), a1, a2, a3, a4), (), a5)) := by kernel_rfl
theorem cbor_walk_content_f84_j18_t : ToldC Tryz.prog 2 (codeOf Tryz.f113) ((18, toldL cbor_walk_content_f84_l18p cbor_walk_content_f84_l18x cbor_walk_content_f84_l18) :: []) ((18, toldJ cbor_walk_content_f84_j18p cbor_walk_content_f84_j18x cbor_walk_content_f84_j18) :: []) :=
  ToldC.join cbor_walk_content_f84_FH 2 cbor_walk_content_f84_l18_t cbor_walk_content_f84_Cok 18 ((joinsAt 18 (codeOf Tryz.f113)).headD .skip) (by kernel_rfl) (p := cbor_walk_content_f84_j18p) (px := cbor_walk_content_f84_j18x) (g := cbor_walk_content_f84_j18) (ho := { keep := [4] }) fun (x : (Unit × ((Unit × Int × Bool × List Int × Int) × Unit × List PD))) => cbor_walk_content_f84_j18_s x.2.1.2.1 x.2.1.2.2.1 x.2.1.2.2.2.1 x.2.1.2.2.2.2 x.2.2.2
theorem cbor_walk_content_f84_j13_s (a1 : Int) (a2 : Bool) (a3 : List Int) (a4 : Int) (a5 : List PD) (a6 : Int) (a7 : Int) (a8 : ByteArray) : joinC Tryz.prog cbor_walk_content_f84_C cbor_walk_content_f84_FH ((18, toldL cbor_walk_content_f84_l18p cbor_walk_content_f84_l18x cbor_walk_content_f84_l18) :: []) ((18, toldJ cbor_walk_content_f84_j18p cbor_walk_content_f84_j18x cbor_walk_content_f84_j18) :: []) 2 ((joinsAt 13 (codeOf Tryz.f113)).headD .skip) cbor_walk_content_f84_j13p cbor_walk_content_f84_j13x { keep := [4] } (((), ()), (((), a1, a2, a3, a4), a5, (a6, a7, a8))) _ some = cbor_walk_content_f84_j13 (((), ()), (((), a1, a2, a3, a4), a5, (a6, a7, a8))) := by kernel_rfl
theorem cbor_walk_content_f84_j13_t : ToldC Tryz.prog 2 (codeOf Tryz.f113) ((18, toldL cbor_walk_content_f84_l18p cbor_walk_content_f84_l18x cbor_walk_content_f84_l18) :: []) ((13, toldJ cbor_walk_content_f84_j13p cbor_walk_content_f84_j13x cbor_walk_content_f84_j13) :: ((18, toldJ cbor_walk_content_f84_j18p cbor_walk_content_f84_j18x cbor_walk_content_f84_j18) :: [])) :=
  ToldC.join cbor_walk_content_f84_FH 2 cbor_walk_content_f84_j18_t cbor_walk_content_f84_Cok 13 ((joinsAt 13 (codeOf Tryz.f113)).headD .skip) (by kernel_rfl) (p := cbor_walk_content_f84_j13p) (px := cbor_walk_content_f84_j13x) (g := cbor_walk_content_f84_j13) (ho := { keep := [4] }) fun (x : ((Unit × Unit) × ((Unit × Int × Bool × List Int × Int) × List PD × (Int × Int × ByteArray)))) => cbor_walk_content_f84_j13_s x.2.1.2.1 x.2.1.2.2.1 x.2.1.2.2.2.1 x.2.1.2.2.2.2 x.2.2.1 x.2.2.2.1 x.2.2.2.2.1 x.2.2.2.2.2
theorem cbor_walk_content_f84_j9_s (a1 : Int) (a2 : Bool) (a3 : List Int) (a4 : Int) (a5 : List PD) (a6 : Int) (a7 : Int) (a8 : ByteArray) : joinC Tryz.prog cbor_walk_content_f84_C cbor_walk_content_f84_FH ((18, toldL cbor_walk_content_f84_l18p cbor_walk_content_f84_l18x cbor_walk_content_f84_l18) :: []) ((13, toldJ cbor_walk_content_f84_j13p cbor_walk_content_f84_j13x cbor_walk_content_f84_j13) :: ((18, toldJ cbor_walk_content_f84_j18p cbor_walk_content_f84_j18x cbor_walk_content_f84_j18) :: [])) 2 ((joinsAt 9 (codeOf Tryz.f113)).headD .skip) cbor_walk_content_f84_j9p cbor_walk_content_f84_j9x { keep := [4] } (((), ()), (((), a1, a2, a3, a4), a5, (a6, a7, a8))) _ some = cbor_walk_content_f84_j9 (((), ()), (((), a1, a2, a3, a4), a5, (a6, a7, a8))) := by kernel_rfl
theorem cbor_walk_content_f84_j9_t : ToldC Tryz.prog 2 (codeOf Tryz.f113) ((18, toldL cbor_walk_content_f84_l18p cbor_walk_content_f84_l18x cbor_walk_content_f84_l18) :: []) ((9, toldJ cbor_walk_content_f84_j9p cbor_walk_content_f84_j9x cbor_walk_content_f84_j9) :: ((13, toldJ cbor_walk_content_f84_j13p cbor_walk_content_f84_j13x cbor_walk_content_f84_j13) :: ((18, toldJ cbor_walk_content_f84_j18p cbor_walk_content_f84_j18x cbor_walk_content_f84_j18) :: []))) :=
  ToldC.join cbor_walk_content_f84_FH 2 cbor_walk_content_f84_j13_t cbor_walk_content_f84_Cok 9 ((joinsAt 9 (codeOf Tryz.f113)).headD .skip) (by kernel_rfl) (p := cbor_walk_content_f84_j9p) (px := cbor_walk_content_f84_j9x) (g := cbor_walk_content_f84_j9) (ho := { keep := [4] }) fun (x : ((Unit × Unit) × ((Unit × Int × Bool × List Int × Int) × List PD × (Int × Int × ByteArray)))) => cbor_walk_content_f84_j9_s x.2.1.2.1 x.2.1.2.2.1 x.2.1.2.2.2.1 x.2.1.2.2.2.2 x.2.2.1 x.2.2.2.1 x.2.2.2.2.1 x.2.2.2.2.2
theorem cbor_walk_content_f84_b (a1 : Int) (a2 : Int) (a3 : ByteArray) (a4 : Int) (a5 : Bool) (a6 : List Int) (a7 : Int) (a8 : List PD) : bodyC Tryz.prog cbor_walk_content_f84_C cbor_walk_content_f84_FH ((18, toldL cbor_walk_content_f84_l18p cbor_walk_content_f84_l18x cbor_walk_content_f84_l18) :: []) ((9, toldJ cbor_walk_content_f84_j9p cbor_walk_content_f84_j9x cbor_walk_content_f84_j9) :: ((13, toldJ cbor_walk_content_f84_j13p cbor_walk_content_f84_j13x cbor_walk_content_f84_j13) :: ((18, toldJ cbor_walk_content_f84_j18p cbor_walk_content_f84_j18x cbor_walk_content_f84_j18) :: []))) { keep := [], mv := [(0, 0)] } 113 cbor_walk_content_f84_P cbor_walk_content_f84_H cbor_walk_content_f84_R cbor_walk_content_f84_G (((), (a1, a2, a3)), (((), a4, a5, a6, a7), a8)) _ some = cbor_walk_content_f84 a1 a2 a3 a4 a5 a6 a7 a8 := by kernel_rfl
theorem cbor_walk_content_f84_ok : EntOK Tryz.prog 113 (ent cbor_walk_content_f84_P cbor_walk_content_f84_H cbor_walk_content_f84_R cbor_walk_content_f84_G (cbor_walk_content_f84_V (cbor_walk_content_f84))) :=
  ent_ok cbor_walk_content_f84_FH cbor_walk_content_f84_Cok (hp := cbor_walk_content_f84_H) (fn := Tryz.f113) (by kernel_rfl) cbor_walk_content_f84_j9_t fun (x : ((Unit × (Int × Int × ByteArray)) × ((Unit × Int × Bool × List Int × Int) × List PD))) => cbor_walk_content_f84_b x.1.2.1 x.1.2.2.1 x.1.2.2.2 x.2.1.2.1 x.2.1.2.2.1 x.2.1.2.2.2.1 x.2.1.2.2.2.2 x.2.2

/-! cbor_decoder_next_c34: (*passkey/cbor.decoder).next -/
noncomputable def cbor_decoder_next_c34_j12p : SP := { n := 110, ix := [0, 2, 4, 5, 9], p := (.cons (.ptr 0 0) (.cons (.ptr 2 0) (.cons (.int .i64) (.cons (.int .u64) (.ptr 3 0))))), hp := [(.cells (.cons (.ref 1) (.cons (.int .i64) (.cons .bool (.cons (.nums .u8) (.int .i64)))))), (.arrS 3 181 3), (.cells (.cons (.int .i64) (.cons (.int .u64) .str))), (.cells (.cons (.int .i64) (.cons (.int .u64) .str)))] }
noncomputable def cbor_decoder_next_c34_j12x : List (Ex × SP) := [(.ret, { n := 110, ix := [2, 3], p := (.cons (.ptr 2 0) (.int .i64)), hp := [(.cells (.cons (.ref 1) (.cons (.int .i64) (.cons .bool (.cons (.nums .u8) (.int .i64)))))), (.arrS 3 181 3), (.cells (.cons (.int .i64) (.cons (.int .u64) .str))), (.cells (.cons (.int .i64) (.cons (.int .u64) .str)))] }), (.norm, { n := 110, ix := [0, 2, 9], p := (.cons (.ptr 0 0) (.cons (.ptr 2 0) (.ptr 3 0))), hp := [(.cells (.cons (.ref 1) (.cons (.int .i64) (.cons .bool (.cons (.nums .u8) (.int .i64)))))), (.arrS 3 181 3), (.cells (.cons (.int .i64) (.cons (.int .u64) .str))), (.cells (.cons (.int .i64) (.cons (.int .u64) .str)))] })]
noncomputable def cbor_decoder_next_c34_j22p : SP := { n := 110, ix := [0, 2, 9], p := (.cons (.ptr 0 0) (.cons (.ptr 2 0) (.ptr 3 0))), hp := [(.cells (.cons (.ref 1) (.cons (.int .i64) (.cons .bool (.cons (.nums .u8) (.int .i64)))))), (.arrS 3 181 3), (.cells (.cons (.int .i64) (.cons (.int .u64) .str))), (.cells (.cons (.int .i64) (.cons (.int .u64) .str)))] }
noncomputable def cbor_decoder_next_c34_j22x : List (Ex × SP) := [(.ret, { n := 110, ix := [2, 3], p := (.cons (.ptr 3 0) (.int .i64)), hp := [(.cells (.cons (.ref 2) (.cons (.int .i64) (.cons .bool (.cons (.nums .u8) (.int .i64)))))), .dead, (.arrS 3 181 3), (.cells (.cons (.int .i64) (.cons (.int .u64) .str)))] })]
noncomputable def cbor_decoder_next_c34_j18p : SP := { n := 110, ix := [0, 2, 5, 9, 49], p := (.cons (.ptr 0 0) (.cons (.ptr 2 0) (.cons (.int .u64) (.cons (.ptr 3 0) (.int .i64))))), hp := [(.cells (.cons (.ref 1) (.cons (.int .i64) (.cons .bool (.cons (.nums .u8) (.int .i64)))))), (.arrS 3 181 3), (.cells (.cons (.int .i64) (.cons (.int .u64) .str))), (.cells (.cons (.int .i64) (.cons (.int .u64) .str)))] }
noncomputable def cbor_decoder_next_c34_j18x : List (Ex × SP) := [(.ret, { n := 110, ix := [2, 3], p := (.cons (.ptr 2 0) (.int .i64)), hp := [(.cells (.cons (.ref 1) (.cons (.int .i64) (.cons .bool (.cons (.nums .u8) (.int .i64)))))), (.arrS 3 181 3), (.cells (.cons (.int .i64) (.cons (.int .u64) .str))), (.cells (.cons (.int .i64) (.cons (.int .u64) .str)))] }), (.norm, { n := 110, ix := [0, 2, 9], p := (.cons (.ptr 0 0) (.cons (.ptr 2 0) (.ptr 3 0))), hp := [(.cells (.cons (.ref 1) (.cons (.int .i64) (.cons .bool (.cons (.nums .u8) (.int .i64)))))), (.arrS 3 181 3), (.cells (.cons (.int .i64) (.cons (.int .u64) .str))), (.cells (.cons (.int .i64) (.cons (.int .u64) .str)))] })]
noncomputable def cbor_decoder_next_c34_P : Pt := (.ptr 0 0)
noncomputable def cbor_decoder_next_c34_H : List Po := [(.cells (.cons (.ref 1) (.cons (.int .i64) (.cons .bool (.cons (.nums .u8) (.int .i64)))))), (.arrS 3 181 3)]
noncomputable def cbor_decoder_next_c34_R : Pt := (.tup (.cons (.agg (.cons (.int .i64) (.cons (.int .u64) .str))) (.int .i64)))
noncomputable def cbor_decoder_next_c34_G : List Po := [(.cells (.cons (.ref 2) (.cons (.int .i64) (.cons .bool (.cons (.nums .u8) (.int .i64)))))), .dead, (.arrS 3 181 3)]
noncomputable def cbor_decoder_next_c34_V (f : Int → Bool → (List Int) → Int → (List PD) → Option (((Int × Int × ByteArray) × Int) × ((Unit × Int × Bool × List Int × Int) × Unit × List PD))) (x : (Unit × ((Unit × Int × Bool × List Int × Int) × List PD))) : Option (((Int × Int × ByteArray) × Int) × ((Unit × Int × Bool × List Int × Int) × Unit × List PD)) := f x.2.1.2.1 x.2.1.2.2.1 x.2.1.2.2.2.1 x.2.1.2.2.2.2 x.2.2
noncomputable def cbor_decoder_next_c34_C : Cal := tbl [(156, (ent cbor_first_P cbor_first_H cbor_first_R cbor_first_G (cbor_first_V (cbor_first)))), (110, (ent cbor_walk_enter_98d_P cbor_walk_enter_98d_H cbor_walk_enter_98d_R cbor_walk_enter_98d_G (cbor_walk_enter_98d_V (cbor_walk_enter_98d)))), (113, (ent cbor_walk_content_f84_P cbor_walk_content_f84_H cbor_walk_content_f84_R cbor_walk_content_f84_G (cbor_walk_content_f84_V (cbor_walk_content_f84))))]
theorem cbor_decoder_next_c34_Cok : CalOK Tryz.prog cbor_decoder_next_c34_C ∧ CalNt cbor_decoder_next_c34_C := by
  unfold cbor_decoder_next_c34_C
  exact tbl_ok (by
    intro p hp
    simp only [List.mem_cons, List.not_mem_nil, or_false] at hp
    rcases hp with rfl | rfl | rfl
    · exact cbor_first_ok
    · exact cbor_walk_enter_98d_ok
    · exact cbor_walk_content_f84_ok)
noncomputable def cbor_decoder_next_c34_FH : FH := { join := [(12, { keep := [0, 2, 4, 5, 9] }), (22, { keep := [0, 2, 9] }), (18, { keep := [0, 2, 5, 9, 49] })], see := [(1, [(3, [0]), (7, [0])]), (14, [(1, []), (5, [0]), (6, []), (10, [0])]), (16, [(4, [0]), (8, [0]), (12, [0]), (14, [])]), (22, [(0, [3]), (4, [3]), (5, [0, 1])])] }
theorem cbor_decoder_next_c34_j12_s (a1 : Int) (a2 : Int) (a3 : Int) (a4 : Bool) (a5 : List Int) (a6 : Int) (a7 : List PD) (a8 : Int) (a9 : Int) (a10 : ByteArray) (a11 : Int) (a12 : Int) (a13 : ByteArray) : joinC Tryz.prog cbor_decoder_next_c34_C cbor_decoder_next_c34_FH [] [] 2 ((joinsAt 12 (codeOf Tryz.f121)).headD .skip) cbor_decoder_next_c34_j12p cbor_decoder_next_c34_j12x { keep := [0, 2, 3, 9] } (((), (), a1, a2, ()), (((), a3, a4, a5, a6), a7, (a8, a9, a10), (a11, a12, a13))) _ some = cbor_decoder_next_c34_j12 (((), (), a1, a2, ()), (((), a3, a4, a5, a6), a7, (a8, a9, a10), (a11, a12, a13))) := by kernel_rfl
theorem cbor_decoder_next_c34_j12_t : ToldC Tryz.prog 2 (codeOf Tryz.f121) [] ((12, toldJ cbor_decoder_next_c34_j12p cbor_decoder_next_c34_j12x cbor_decoder_next_c34_j12) :: []) :=
  ToldC.join cbor_decoder_next_c34_FH 2 (ToldC.nil 2) cbor_decoder_next_c34_Cok 12 ((joinsAt 12 (codeOf Tryz.f121)).headD .skip) (by kernel_rfl) (p := cbor_decoder_next_c34_j12p) (px := cbor_decoder_next_c34_j12x) (g := cbor_decoder_next_c34_j12) (ho := { keep := [0, 2, 3, 9] }) fun (x : ((Unit × Unit × Int × Int × Unit) × ((Unit × Int × Bool × List Int × Int) × List PD × (Int × Int × ByteArray) × (Int × Int × ByteArray)))) => cbor_decoder_next_c34_j12_s x.1.2.2.1 x.1.2.2.2.1 x.2.1.2.1 x.2.1.2.2.1 x.2.1.2.2.2.1 x.2.1.2.2.2.2 x.2.2.1 x.2.2.2.1.1 x.2.2.2.1.2.1 x.2.2.2.1.2.2 x.2.2.2.2.1 x.2.2.2.2.2.1 x.2.2.2.2.2.2
theorem cbor_decoder_next_c34_j22_s (a1 : Int) (a2 : Bool) (a3 : List Int) (a4 : Int) (a5 : List PD) (a6 : Int) (a7 : Int) (a8 : ByteArray) (a9 : Int) (a10 : Int) (a11 : ByteArray) : joinC Tryz.prog cbor_decoder_next_c34_C cbor_decoder_next_c34_FH [] ((12, toldJ cbor_decoder_next_c34_j12p cbor_decoder_next_c34_j12x cbor_decoder_next_c34_j12) :: []) 2 ((joinsAt 22 (codeOf Tryz.f121)).headD .skip) cbor_decoder_next_c34_j22p cbor_decoder_next_c34_j22x { keep := [2, 3] } (((), (), ()), (((), a1, a2, a3, a4), a5, (a6, a7, a8), (a9, a10, a11))) _ some = cbor_decoder_next_c34_j22 (((), (), ()), (((), a1, a2, a3, a4), a5, (a6, a7, a8), (a9, a10, a11))) := by kernel_rfl
theorem cbor_decoder_next_c34_j22_t : ToldC Tryz.prog 2 (codeOf Tryz.f121) [] ((22, toldJ cbor_decoder_next_c34_j22p cbor_decoder_next_c34_j22x cbor_decoder_next_c34_j22) :: ((12, toldJ cbor_decoder_next_c34_j12p cbor_decoder_next_c34_j12x cbor_decoder_next_c34_j12) :: [])) :=
  ToldC.join cbor_decoder_next_c34_FH 2 cbor_decoder_next_c34_j12_t cbor_decoder_next_c34_Cok 22 ((joinsAt 22 (codeOf Tryz.f121)).headD .skip) (by kernel_rfl) (p := cbor_decoder_next_c34_j22p) (px := cbor_decoder_next_c34_j22x) (g := cbor_decoder_next_c34_j22) (ho := { keep := [2, 3] }) fun (x : ((Unit × Unit × Unit) × ((Unit × Int × Bool × List Int × Int) × List PD × (Int × Int × ByteArray) × (Int × Int × ByteArray)))) => cbor_decoder_next_c34_j22_s x.2.1.2.1 x.2.1.2.2.1 x.2.1.2.2.2.1 x.2.1.2.2.2.2 x.2.2.1 x.2.2.2.1.1 x.2.2.2.1.2.1 x.2.2.2.1.2.2 x.2.2.2.2.1 x.2.2.2.2.2.1 x.2.2.2.2.2.2
theorem cbor_decoder_next_c34_j18_s (a1 : Int) (a2 : Int) (a3 : Int) (a4 : Bool) (a5 : List Int) (a6 : Int) (a7 : List PD) (a8 : Int) (a9 : Int) (a10 : ByteArray) (a11 : Int) (a12 : Int) (a13 : ByteArray) : joinC Tryz.prog cbor_decoder_next_c34_C cbor_decoder_next_c34_FH [] ((22, toldJ cbor_decoder_next_c34_j22p cbor_decoder_next_c34_j22x cbor_decoder_next_c34_j22) :: ((12, toldJ cbor_decoder_next_c34_j12p cbor_decoder_next_c34_j12x cbor_decoder_next_c34_j12) :: [])) 2 ((joinsAt 18 (codeOf Tryz.f121)).headD .skip) cbor_decoder_next_c34_j18p cbor_decoder_next_c34_j18x { keep := [0, 2, 3, 9] } (((), (), a1, (), a2), (((), a3, a4, a5, a6), a7, (a8, a9, a10), (a11, a12, a13))) _ some = cbor_decoder_next_c34_j18 (((), (), a1, (), a2), (((), a3, a4, a5, a6), a7, (a8, a9, a10), (a11, a12, a13))) := by kernel_rfl
theorem cbor_decoder_next_c34_j18_t : ToldC Tryz.prog 2 (codeOf Tryz.f121) [] ((18, toldJ cbor_decoder_next_c34_j18p cbor_decoder_next_c34_j18x cbor_decoder_next_c34_j18) :: ((22, toldJ cbor_decoder_next_c34_j22p cbor_decoder_next_c34_j22x cbor_decoder_next_c34_j22) :: ((12, toldJ cbor_decoder_next_c34_j12p cbor_decoder_next_c34_j12x cbor_decoder_next_c34_j12) :: []))) :=
  ToldC.join cbor_decoder_next_c34_FH 2 cbor_decoder_next_c34_j22_t cbor_decoder_next_c34_Cok 18 ((joinsAt 18 (codeOf Tryz.f121)).headD .skip) (by kernel_rfl) (p := cbor_decoder_next_c34_j18p) (px := cbor_decoder_next_c34_j18x) (g := cbor_decoder_next_c34_j18) (ho := { keep := [0, 2, 3, 9] }) fun (x : ((Unit × Unit × Int × Unit × Int) × ((Unit × Int × Bool × List Int × Int) × List PD × (Int × Int × ByteArray) × (Int × Int × ByteArray)))) => cbor_decoder_next_c34_j18_s x.1.2.2.1 x.1.2.2.2.2 x.2.1.2.1 x.2.1.2.2.1 x.2.1.2.2.2.1 x.2.1.2.2.2.2 x.2.2.1 x.2.2.2.1.1 x.2.2.2.1.2.1 x.2.2.2.1.2.2 x.2.2.2.2.1 x.2.2.2.2.2.1 x.2.2.2.2.2.2
theorem cbor_decoder_next_c34_b (a1 : Int) (a2 : Bool) (a3 : List Int) (a4 : Int) (a5 : List PD) : bodyC Tryz.prog cbor_decoder_next_c34_C cbor_decoder_next_c34_FH [] ((18, toldJ cbor_decoder_next_c34_j18p cbor_decoder_next_c34_j18x cbor_decoder_next_c34_j18) :: ((22, toldJ cbor_decoder_next_c34_j22p cbor_decoder_next_c34_j22x cbor_decoder_next_c34_j22) :: ((12, toldJ cbor_decoder_next_c34_j12p cbor_decoder_next_c34_j12x cbor_decoder_next_c34_j12) :: []))) { keep := [], mv := [(0, 0)] } 121 cbor_decoder_next_c34_P cbor_decoder_next_c34_H cbor_decoder_next_c34_R cbor_decoder_next_c34_G ((), (((), a1, a2, a3, a4), a5)) _ some = cbor_decoder_next_c34 a1 a2 a3 a4 a5 := by kernel_rfl
theorem cbor_decoder_next_c34_ok : EntOK Tryz.prog 121 (ent cbor_decoder_next_c34_P cbor_decoder_next_c34_H cbor_decoder_next_c34_R cbor_decoder_next_c34_G (cbor_decoder_next_c34_V (cbor_decoder_next_c34))) :=
  ent_ok cbor_decoder_next_c34_FH cbor_decoder_next_c34_Cok (hp := cbor_decoder_next_c34_H) (fn := Tryz.f121) (by kernel_rfl) cbor_decoder_next_c34_j18_t fun (x : (Unit × ((Unit × Int × Bool × List Int × Int) × List PD))) => cbor_decoder_next_c34_b x.2.1.2.1 x.2.1.2.2.1 x.2.1.2.2.2.1 x.2.1.2.2.2.2 x.2.2

/-! cbor_Decode: passkey/cbor.Decode -/
noncomputable def cbor_Decode_l2p : SP := { n := 34, ix := [2, 5], p := (.cons (.ref 0) (.ptr 1 0)), hp := [(.arrS 3 72 3), (.cells (.cons (.ref 2) (.cons (.int .i64) (.cons .bool (.cons (.nums .u8) (.int .i64)))))), (.arrS 3 181 3)] }
noncomputable def cbor_Decode_l2x : List (Ex × SP) := [(.ret, { n := 34, ix := [2, 3, 4], p := (.cons (.sl 3) (.cons (.int .i64) (.int .i64))), hp := [(.cells (.cons (.ref 1) (.cons (.int .i64) (.cons .bool (.cons (.nums .u8) (.int .i64)))))), (.arrS 3 181 3)] }), ((.exit 0), { n := 34, ix := [2, 5], p := (.cons (.ref 0) (.ptr 1 0)), hp := [(.arrS 3 72 3), (.cells (.cons (.ref 2) (.cons (.int .i64) (.cons .bool (.cons (.nums .u8) (.int .i64)))))), (.arrS 3 181 3)] })]
noncomputable def cbor_Decode_P : Pt := (.nums .u8)
noncomputable def cbor_Decode_H : List Po := []
noncomputable def cbor_Decode_R : Pt := (.tup (.cons (.sl 3) (.cons (.int .i64) (.int .i64))))
noncomputable def cbor_Decode_G : List Po := []
noncomputable def cbor_Decode_V (f : (List Int) → Option (List PD × Int × Int)) (x : List Int) : Option (List PD × Int × Int) := f x
noncomputable def cbor_Decode_C : Cal := tbl [(121, (ent cbor_decoder_next_c34_P cbor_decoder_next_c34_H cbor_decoder_next_c34_R cbor_decoder_next_c34_G (cbor_decoder_next_c34_V (cbor_decoder_next_c34))))]
theorem cbor_Decode_Cok : CalOK Tryz.prog cbor_Decode_C ∧ CalNt cbor_Decode_C := by
  unfold cbor_Decode_C
  exact tbl_ok (by
    intro p hp
    simp only [List.mem_cons, List.not_mem_nil, or_false] at hp
    rcases hp with rfl
    exact cbor_decoder_next_c34_ok)
noncomputable def cbor_Decode_FH : FH := { loops := [(2, { keep := [2, 5], own := [(2, 72)], ownC := [(5, 0, 181)] }, { keep := [2, 3, 4, 5] })] }
theorem cbor_Decode_l2_s (a1 : List PD) (a2 : Int) (a3 : Bool) (a4 : List Int) (a5 : Int) (a6 : List PD) : stepC Tryz.prog cbor_Decode_C cbor_Decode_FH [] [] 0 ((loopsAt 2 (codeOf Tryz.f88)).headD .skip) cbor_Decode_l2p cbor_Decode_l2x { keep := [2, 5], own := [(2, 72)], ownC := [(5, 0, 181)] } { keep := [2, 3, 4, 5] } (((), ()), (a1, ((), a2, a3, a4, a5), a6)) _ some = cbor_Decode_l2 (((), ()), (a1, ((), a2, a3, a4, a5), a6)) := by kernel_rfl
theorem cbor_Decode_l2_t : ToldC Tryz.prog 0 (codeOf Tryz.f88) ((2, toldL cbor_Decode_l2p cbor_Decode_l2x cbor_Decode_l2) :: []) [] :=
  ToldC.loop cbor_Decode_FH 0 (ToldC.nil 0) cbor_Decode_Cok 2 ((loopsAt 2 (codeOf Tryz.f88)).headD .skip) (by kernel_rfl) (p := cbor_Decode_l2p) (px := cbor_Decode_l2x) (g := cbor_Decode_l2) (hi := { keep := [2, 5], own := [(2, 72)], ownC := [(5, 0, 181)] }) (ho := { keep := [2, 3, 4, 5] }) (by kernel_rfl) fun (x : ((Unit × Unit) × (List PD × (Unit × Int × Bool × List Int × Int) × List PD))) => cbor_Decode_l2_s x.2.1 x.2.2.1.2.1 x.2.2.1.2.2.1 x.2.2.1.2.2.2.1 x.2.2.1.2.2.2.2 x.2.2.2
theorem cbor_Decode_b (a1 : List Int) : bodyC Tryz.prog cbor_Decode_C cbor_Decode_FH ((2, toldL cbor_Decode_l2p cbor_Decode_l2x cbor_Decode_l2) :: []) [] { keep := [], fz := [0] } 88 cbor_Decode_P cbor_Decode_H cbor_Decode_R cbor_Decode_G a1 _ some = cbor_Decode a1 := by kernel_rfl
theorem cbor_Decode_ok : EntOK Tryz.prog 88 (ent cbor_Decode_P cbor_Decode_H cbor_Decode_R cbor_Decode_G (cbor_Decode_V (cbor_Decode))) :=
  ent_ok cbor_Decode_FH cbor_Decode_Cok (hp := cbor_Decode_H) (fn := Tryz.f88) (by kernel_rfl) cbor_Decode_l2_t fun (x : List Int) => cbor_Decode_b x

/-! credential_prefix_1_467: passkey/credential.prefix$1 -/
noncomputable def credential_prefix_1_467_P : Pt := (.cons (.int .i64) (.ptr 0 0))
noncomputable def credential_prefix_1_467_H : List Po := [(.cells (.sl 3))]
noncomputable def credential_prefix_1_467_R : Pt := (.agg (.cons (.int .i64) (.cons (.int .u64) .str)))
noncomputable def credential_prefix_1_467_G : List Po := [(.cells (.sl 3))]
noncomputable def credential_prefix_1_467_V (f : Int → (List PD) → Option ((Int × Int × ByteArray) × List PD)) (x : ((Int × Unit) × List PD)) : Option ((Int × Int × ByteArray) × List PD) := f x.1.1 x.2
noncomputable def credential_prefix_1_467_C : Cal := tbl []
theorem credential_prefix_1_467_Cok : CalOK Tryz.prog credential_prefix_1_467_C ∧ CalNt credential_prefix_1_467_C := by
  unfold credential_prefix_1_467_C
  exact tbl_ok (by intro p hp; simp at hp)
noncomputable def credential_prefix_1_467_FH : FH := {}
theorem credential_prefix_1_467_b (a1 : Int) (a2 : List PD) : bodyC Tryz.prog credential_prefix_1_467_C credential_prefix_1_467_FH [] [] { keep := [] } 89 credential_prefix_1_467_P credential_prefix_1_467_H credential_prefix_1_467_R credential_prefix_1_467_G ((a1, ()), a2) _ some = credential_prefix_1_467 a1 a2 := by kernel_rfl
theorem credential_prefix_1_467_ok : EntOK Tryz.prog 89 (ent credential_prefix_1_467_P credential_prefix_1_467_H credential_prefix_1_467_R credential_prefix_1_467_G (credential_prefix_1_467_V (credential_prefix_1_467))) :=
  ent_ok credential_prefix_1_467_FH credential_prefix_1_467_Cok (hp := credential_prefix_1_467_H) (fn := Tryz.f89) (by kernel_rfl) (ToldC.nil 1) fun (x : ((Int × Unit) × List PD)) => credential_prefix_1_467_b x.1.1 x.2

/-! credential_prefix_2_f17: passkey/credential.prefix$2 -/
noncomputable def credential_prefix_2_f17_P : Pt := (.cons (.int .i64) (.ptr 0 0))
noncomputable def credential_prefix_2_f17_H : List Po := [(.cells (.clo 89 .nil (.ptr 1 0))), (.cells (.sl 3))]
noncomputable def credential_prefix_2_f17_R : Pt := (.int .i64)
noncomputable def credential_prefix_2_f17_G : List Po := [(.cells (.clo 89 .nil (.ptr 1 0))), (.cells (.sl 3))]
noncomputable def credential_prefix_2_f17_V (f : Int → (List PD) → Option (Int × ((Unit × Unit) × List PD))) (x : ((Int × Unit) × ((Unit × Unit) × List PD))) : Option (Int × ((Unit × Unit) × List PD)) := f x.1.1 x.2.2
noncomputable def credential_prefix_2_f17_C : Cal := tbl [(89, (ent credential_prefix_1_467_P credential_prefix_1_467_H credential_prefix_1_467_R credential_prefix_1_467_G (credential_prefix_1_467_V (credential_prefix_1_467))))]
theorem credential_prefix_2_f17_Cok : CalOK Tryz.prog credential_prefix_2_f17_C ∧ CalNt credential_prefix_2_f17_C := by
  unfold credential_prefix_2_f17_C
  exact tbl_ok (by
    intro p hp
    simp only [List.mem_cons, List.not_mem_nil, or_false] at hp
    rcases hp with rfl
    exact credential_prefix_1_467_ok)
noncomputable def credential_prefix_2_f17_FH : FH := {}
theorem credential_prefix_2_f17_b (a1 : Int) (a2 : List PD) : bodyC Tryz.prog credential_prefix_2_f17_C credential_prefix_2_f17_FH [] [] { keep := [] } 90 credential_prefix_2_f17_P credential_prefix_2_f17_H credential_prefix_2_f17_R credential_prefix_2_f17_G ((a1, ()), (((), ()), a2)) _ some = credential_prefix_2_f17 a1 a2 := by kernel_rfl
theorem credential_prefix_2_f17_ok : EntOK Tryz.prog 90 (ent credential_prefix_2_f17_P credential_prefix_2_f17_H credential_prefix_2_f17_R credential_prefix_2_f17_G (credential_prefix_2_f17_V (credential_prefix_2_f17))) :=
  ent_ok credential_prefix_2_f17_FH credential_prefix_2_f17_Cok (hp := credential_prefix_2_f17_H) (fn := Tryz.f90) (by kernel_rfl) (ToldC.nil 2) fun (x : ((Int × Unit) × ((Unit × Unit) × List PD))) => credential_prefix_2_f17_b x.1.1 x.2.2

/-! credential_prefix_3_f17: passkey/credential.prefix$3 -/
noncomputable def credential_prefix_3_f17_P : Pt := (.cons (.int .i64) (.ptr 0 0))
noncomputable def credential_prefix_3_f17_H : List Po := [(.cells (.clo 89 .nil (.ptr 1 0))), (.cells (.sl 3))]
noncomputable def credential_prefix_3_f17_R : Pt := .bool
noncomputable def credential_prefix_3_f17_G : List Po := [(.cells (.clo 89 .nil (.ptr 1 0))), (.cells (.sl 3))]
noncomputable def credential_prefix_3_f17_V (f : Int → (List PD) → Option (Bool × ((Unit × Unit) × List PD))) (x : ((Int × Unit) × ((Unit × Unit) × List PD))) : Option (Bool × ((Unit × Unit) × List PD)) := f x.1.1 x.2.2
noncomputable def credential_prefix_3_f17_C : Cal := tbl [(89, (ent credential_prefix_1_467_P credential_prefix_1_467_H credential_prefix_1_467_R credential_prefix_1_467_G (credential_prefix_1_467_V (credential_prefix_1_467))))]
theorem credential_prefix_3_f17_Cok : CalOK Tryz.prog credential_prefix_3_f17_C ∧ CalNt credential_prefix_3_f17_C := by
  unfold credential_prefix_3_f17_C
  exact tbl_ok (by
    intro p hp
    simp only [List.mem_cons, List.not_mem_nil, or_false] at hp
    rcases hp with rfl
    exact credential_prefix_1_467_ok)
noncomputable def credential_prefix_3_f17_FH : FH := {}
theorem credential_prefix_3_f17_b (a1 : Int) (a2 : List PD) : bodyC Tryz.prog credential_prefix_3_f17_C credential_prefix_3_f17_FH [] [] { keep := [] } 91 credential_prefix_3_f17_P credential_prefix_3_f17_H credential_prefix_3_f17_R credential_prefix_3_f17_G ((a1, ()), (((), ()), a2)) _ some = credential_prefix_3_f17 a1 a2 := by kernel_rfl
theorem credential_prefix_3_f17_ok : EntOK Tryz.prog 91 (ent credential_prefix_3_f17_P credential_prefix_3_f17_H credential_prefix_3_f17_R credential_prefix_3_f17_G (credential_prefix_3_f17_V (credential_prefix_3_f17))) :=
  ent_ok credential_prefix_3_f17_FH credential_prefix_3_f17_Cok (hp := credential_prefix_3_f17_H) (fn := Tryz.f91) (by kernel_rfl) (ToldC.nil 2) fun (x : ((Int × Unit) × ((Unit × Unit) × List PD))) => credential_prefix_3_f17_b x.1.1 x.2.2

/-! bytes_Equal: bytes.Equal -/
noncomputable def bytes_Equal_P : Pt := (.cons (.nums .u8) (.nums .u8))
noncomputable def bytes_Equal_H : List Po := []
noncomputable def bytes_Equal_R : Pt := .bool
noncomputable def bytes_Equal_G : List Po := []
noncomputable def bytes_Equal_V (f : (List Int) → (List Int) → Option Bool) (x : (List Int × List Int)) : Option Bool := f x.1 x.2
noncomputable def bytes_Equal_C : Cal := tbl []
theorem bytes_Equal_Cok : CalOK Tryz.prog bytes_Equal_C ∧ CalNt bytes_Equal_C := by
  unfold bytes_Equal_C
  exact tbl_ok (by intro p hp; simp at hp)
noncomputable def bytes_Equal_FH : FH := {}
theorem bytes_Equal_b (a1 : List Int) (a2 : List Int) : bodyC Tryz.prog bytes_Equal_C bytes_Equal_FH [] [] { keep := [] } 92 bytes_Equal_P bytes_Equal_H bytes_Equal_R bytes_Equal_G (a1, a2) _ some = bytes_Equal a1 a2 := by kernel_rfl
theorem bytes_Equal_ok : EntOK Tryz.prog 92 (ent bytes_Equal_P bytes_Equal_H bytes_Equal_R bytes_Equal_G (bytes_Equal_V (bytes_Equal))) :=
  ent_ok bytes_Equal_FH bytes_Equal_Cok (hp := bytes_Equal_H) (fn := Tryz.f92) (by kernel_rfl) (ToldC.nil 0) fun (x : (List Int × List Int)) => bytes_Equal_b x.1 x.2

/-! credential_prefix: passkey/credential.prefix -/
noncomputable def credential_prefix_j3p : SP := { n := 72, ix := [2], p := (.ptr 0 0), hp := [(.cells (.cons .str (.cons .str (.cons .str (.cons (.int .u64) (.cons (.int .i64) (.cons .bool (.cons (.int .i64) (.cons .bool .bool)))))))))] }
noncomputable def credential_prefix_j3x : List (Ex × SP) := [(.ret, { n := 72, ix := [2, 3, 4], p := (.cons (.ptr 0 0) (.cons (.int .i64) (.int .i64))), hp := [(.cells (.cons .str (.cons .str (.cons .str (.cons (.int .u64) (.cons (.int .i64) (.cons .bool (.cons (.int .i64) (.cons .bool .bool)))))))))] })]
noncomputable def credential_prefix_j10p : SP := { n := 72, ix := [2], p := (.ptr 0 0), hp := [(.cells (.cons .str (.cons .str (.cons .str (.cons (.int .u64) (.cons (.int .i64) (.cons .bool (.cons (.int .i64) (.cons .bool .bool)))))))))] }
noncomputable def credential_prefix_j10x : List (Ex × SP) := [(.ret, { n := 72, ix := [2, 3, 4], p := (.cons (.ptr 0 0) (.cons (.int .i64) (.int .i64))), hp := [(.cells (.cons .str (.cons .str (.cons .str (.cons (.int .u64) (.cons (.int .i64) (.cons .bool (.cons (.int .i64) (.cons .bool .bool)))))))))] })]
noncomputable def credential_prefix_P : Pt := (.nums .u8)
noncomputable def credential_prefix_H : List Po := []
noncomputable def credential_prefix_R : Pt := (.tup (.cons (.agg (.cons .str (.cons .str (.cons .str (.cons (.int .u64) (.cons (.int .i64) (.cons .bool (.cons (.int .i64) (.cons .bool .bool))))))))) (.cons (.int .i64) (.int .i64))))
noncomputable def credential_prefix_G : List Po := []
noncomputable def credential_prefix_V (f : (List Int) → Option ((ByteArray × ByteArray × ByteArray × Int × Int × Bool × Int × Bool × Bool) × Int × Int)) (x : List Int) : Option ((ByteArray × ByteArray × ByteArray × Int × Int × Bool × Int × Bool × Bool) × Int × Int) := f x
noncomputable def credential_prefix_C : Cal := tbl [(88, (ent cbor_Decode_P cbor_Decode_H cbor_Decode_R cbor_Decode_G (cbor_Decode_V (cbor_Decode)))), (89, (ent credential_prefix_1_467_P credential_prefix_1_467_H credential_prefix_1_467_R credential_prefix_1_467_G (credential_prefix_1_467_V (credential_prefix_1_467)))), (90, (ent credential_prefix_2_f17_P credential_prefix_2_f17_H credential_prefix_2_f17_R credential_prefix_2_f17_G (credential_prefix_2_f17_V (credential_prefix_2_f17)))), (91, (ent credential_prefix_3_f17_P credential_prefix_3_f17_H credential_prefix_3_f17_R credential_prefix_3_f17_G (credential_prefix_3_f17_V (credential_prefix_3_f17)))), (13, (ent credential_Encode_P credential_Encode_H credential_Encode_R credential_Encode_G (credential_Encode_V (credential_Encode)))), (92, (ent bytes_Equal_P bytes_Equal_H bytes_Equal_R bytes_Equal_G (bytes_Equal_V (bytes_Equal))))]
theorem credential_prefix_Cok : CalOK Tryz.prog credential_prefix_C ∧ CalNt credential_prefix_C := by
  unfold credential_prefix_C
  exact tbl_ok (by
    intro p hp
    simp only [List.mem_cons, List.not_mem_nil, or_false] at hp
    rcases hp with rfl | rfl | rfl | rfl | rfl | rfl
    · exact cbor_Decode_ok
    · exact credential_prefix_1_467_ok
    · exact credential_prefix_2_f17_ok
    · exact credential_prefix_3_f17_ok
    · exact credential_Encode_ok
    · exact bytes_Equal_ok)
noncomputable def credential_prefix_FH : FH := { join := [(3, { keep := [2] }), (10, { keep := [2] })], ops := [(9, [(7, .borrow)])], see := [(7, [(0, [2]), (1, [1]), (3, [2]), (4, [1]), (6, [2]), (7, [1]), (9, [2]), (10, [1]), (13, [1, 2]), (15, [1, 2]), (17, [1, 2]), (19, [1, 2]), (21, [1, 2]), (23, [])])] }
theorem credential_prefix_j3_s (a1 : ByteArray) (a2 : ByteArray) (a3 : ByteArray) (a4 : Int) (a5 : Int) (a6 : Bool) (a7 : Int) (a8 : Bool) (a9 : Bool) : joinC Tryz.prog credential_prefix_C credential_prefix_FH [] [] 0 ((joinsAt 3 (codeOf Tryz.f63)).headD .skip) credential_prefix_j3p credential_prefix_j3x { keep := [0, 2, 3, 4, 5, 6] } ((), (a1, a2, a3, a4, a5, a6, a7, a8, a9)) _ some = credential_prefix_j3 ((), (a1, a2, a3, a4, a5, a6, a7, a8, a9)) := by kernel_rfl
theorem credential_prefix_j3_t : ToldC Tryz.prog 0 (codeOf Tryz.f63) [] ((3, toldJ credential_prefix_j3p credential_prefix_j3x credential_prefix_j3) :: []) :=
  ToldC.join credential_prefix_FH 0 (ToldC.nil 0) credential_prefix_Cok 3 ((joinsAt 3 (codeOf Tryz.f63)).headD .skip) (by kernel_rfl) (p := credential_prefix_j3p) (px := credential_prefix_j3x) (g := credential_prefix_j3) (ho := { keep := [0, 2, 3, 4, 5, 6] }) fun (x : (Unit × (ByteArray × ByteArray × ByteArray × Int × Int × Bool × Int × Bool × Bool))) => credential_prefix_j3_s x.2.1 x.2.2.1 x.2.2.2.1 x.2.2.2.2.1 x.2.2.2.2.2.1 x.2.2.2.2.2.2.1 x.2.2.2.2.2.2.2.1 x.2.2.2.2.2.2.2.2.1 x.2.2.2.2.2.2.2.2.2
theorem credential_prefix_j10_s (a1 : ByteArray) (a2 : ByteArray) (a3 : ByteArray) (a4 : Int) (a5 : Int) (a6 : Bool) (a7 : Int) (a8 : Bool) (a9 : Bool) : joinC Tryz.prog credential_prefix_C credential_prefix_FH [] ((3, toldJ credential_prefix_j3p credential_prefix_j3x credential_prefix_j3) :: []) 0 ((joinsAt 10 (codeOf Tryz.f63)).headD .skip) credential_prefix_j10p credential_prefix_j10x { keep := [2, 3, 4, 6, 11] } ((), (a1, a2, a3, a4, a5, a6, a7, a8, a9)) _ some = credential_prefix_j10 ((), (a1, a2, a3, a4, a5, a6, a7, a8, a9)) := by kernel_rfl
theorem credential_prefix_j10_t : ToldC Tryz.prog 0 (codeOf Tryz.f63) [] ((10, toldJ credential_prefix_j10p credential_prefix_j10x credential_prefix_j10) :: ((3, toldJ credential_prefix_j3p credential_prefix_j3x credential_prefix_j3) :: [])) :=
  ToldC.join credential_prefix_FH 0 credential_prefix_j3_t credential_prefix_Cok 10 ((joinsAt 10 (codeOf Tryz.f63)).headD .skip) (by kernel_rfl) (p := credential_prefix_j10p) (px := credential_prefix_j10x) (g := credential_prefix_j10) (ho := { keep := [2, 3, 4, 6, 11] }) fun (x : (Unit × (ByteArray × ByteArray × ByteArray × Int × Int × Bool × Int × Bool × Bool))) => credential_prefix_j10_s x.2.1 x.2.2.1 x.2.2.2.1 x.2.2.2.2.1 x.2.2.2.2.2.1 x.2.2.2.2.2.2.1 x.2.2.2.2.2.2.2.1 x.2.2.2.2.2.2.2.2.1 x.2.2.2.2.2.2.2.2.2
theorem credential_prefix_b (a1 : List Int) : bodyC Tryz.prog credential_prefix_C credential_prefix_FH [] ((10, toldJ credential_prefix_j10p credential_prefix_j10x credential_prefix_j10) :: ((3, toldJ credential_prefix_j3p credential_prefix_j3x credential_prefix_j3) :: [])) { keep := [] } 63 credential_prefix_P credential_prefix_H credential_prefix_R credential_prefix_G a1 _ some = credential_prefix a1 := by kernel_rfl
theorem credential_prefix_ok : EntOK Tryz.prog 63 (ent credential_prefix_P credential_prefix_H credential_prefix_R credential_prefix_G (credential_prefix_V (credential_prefix))) :=
  ent_ok credential_prefix_FH credential_prefix_Cok (hp := credential_prefix_H) (fn := Tryz.f63) (by kernel_rfl) credential_prefix_j10_t fun (x : List Int) => credential_prefix_b x

/-! bytes_trimRightByte: bytes.trimRightByte -/
noncomputable def bytes_trimRightByte_l1p : SP := { n := 24, ix := [0, 1], p := (.cons (.nums .u8) (.int .u8)) }
noncomputable def bytes_trimRightByte_l1x : List (Ex × SP) := [((.exit 0), { n := 24, ix := [0], p := (.nums .u8) })]
noncomputable def bytes_trimRightByte_P : Pt := (.cons (.nums .u8) (.int .u8))
noncomputable def bytes_trimRightByte_H : List Po := []
noncomputable def bytes_trimRightByte_R : Pt := (.nums .u8)
noncomputable def bytes_trimRightByte_G : List Po := []
noncomputable def bytes_trimRightByte_V (f : (List Int) → Int → Option (List Int)) (x : (List Int × Int)) : Option (List Int) := f x.1 x.2
noncomputable def bytes_trimRightByte_C : Cal := tbl []
theorem bytes_trimRightByte_Cok : CalOK Tryz.prog bytes_trimRightByte_C ∧ CalNt bytes_trimRightByte_C := by
  unfold bytes_trimRightByte_C
  exact tbl_ok (by intro p hp; simp at hp)
noncomputable def bytes_trimRightByte_FH : FH := { loops := [(1, { keep := [0, 1] }, { keep := [0, 4] })] }
theorem bytes_trimRightByte_l1_s (a1 : List Int) (a2 : Int) : stepC Tryz.prog bytes_trimRightByte_C bytes_trimRightByte_FH [] [] 0 ((loopsAt 1 (codeOf Tryz.f94)).headD .skip) bytes_trimRightByte_l1p bytes_trimRightByte_l1x { keep := [0, 1] } { keep := [0, 4] } (a1, a2) _ some = bytes_trimRightByte_l1 (a1, a2) := by kernel_rfl
theorem bytes_trimRightByte_l1_t : ToldC Tryz.prog 0 (codeOf Tryz.f94) ((1, toldL bytes_trimRightByte_l1p bytes_trimRightByte_l1x bytes_trimRightByte_l1) :: []) [] :=
  ToldC.loop bytes_trimRightByte_FH 0 (ToldC.nil 0) bytes_trimRightByte_Cok 1 ((loopsAt 1 (codeOf Tryz.f94)).headD .skip) (by kernel_rfl) (p := bytes_trimRightByte_l1p) (px := bytes_trimRightByte_l1x) (g := bytes_trimRightByte_l1) (hi := { keep := [0, 1] }) (ho := { keep := [0, 4] }) (by kernel_rfl) fun (x : (List Int × Int)) => bytes_trimRightByte_l1_s x.1 x.2
theorem bytes_trimRightByte_b (a1 : List Int) (a2 : Int) : bodyC Tryz.prog bytes_trimRightByte_C bytes_trimRightByte_FH ((1, toldL bytes_trimRightByte_l1p bytes_trimRightByte_l1x bytes_trimRightByte_l1) :: []) [] { keep := [] } 94 bytes_trimRightByte_P bytes_trimRightByte_H bytes_trimRightByte_R bytes_trimRightByte_G (a1, a2) _ some = bytes_trimRightByte a1 a2 := by kernel_rfl
theorem bytes_trimRightByte_ok : EntOK Tryz.prog 94 (ent bytes_trimRightByte_P bytes_trimRightByte_H bytes_trimRightByte_R bytes_trimRightByte_G (bytes_trimRightByte_V (bytes_trimRightByte))) :=
  ent_ok bytes_trimRightByte_FH bytes_trimRightByte_Cok (hp := bytes_trimRightByte_H) (fn := Tryz.f94) (by kernel_rfl) bytes_trimRightByte_l1_t fun (x : (List Int × Int)) => bytes_trimRightByte_b x.1 x.2

/-! bytes_trimLeftByte: bytes.trimLeftByte -/
noncomputable def bytes_trimLeftByte_l1p : SP := { n := 21, ix := [0, 1], p := (.cons (.nums .u8) (.int .u8)) }
noncomputable def bytes_trimLeftByte_l1x : List (Ex × SP) := [((.exit 0), { n := 21, ix := [0], p := (.nums .u8) })]
noncomputable def bytes_trimLeftByte_P : Pt := (.cons (.nums .u8) (.int .u8))
noncomputable def bytes_trimLeftByte_H : List Po := []
noncomputable def bytes_trimLeftByte_R : Pt := (.nums .u8)
noncomputable def bytes_trimLeftByte_G : List Po := []
noncomputable def bytes_trimLeftByte_V (f : (List Int) → Int → Option (List Int)) (x : (List Int × Int)) : Option (List Int) := f x.1 x.2
noncomputable def bytes_trimLeftByte_C : Cal := tbl []
theorem bytes_trimLeftByte_Cok : CalOK Tryz.prog bytes_trimLeftByte_C ∧ CalNt bytes_trimLeftByte_C := by
  unfold bytes_trimLeftByte_C
  exact tbl_ok (by intro p hp; simp at hp)
noncomputable def bytes_trimLeftByte_FH : FH := { loops := [(1, { keep := [0, 1] }, { keep := [0, 4] })] }
theorem bytes_trimLeftByte_l1_s (a1 : List Int) (a2 : Int) : stepC Tryz.prog bytes_trimLeftByte_C bytes_trimLeftByte_FH [] [] 0 ((loopsAt 1 (codeOf Tryz.f93)).headD .skip) bytes_trimLeftByte_l1p bytes_trimLeftByte_l1x { keep := [0, 1] } { keep := [0, 4] } (a1, a2) _ some = bytes_trimLeftByte_l1 (a1, a2) := by kernel_rfl
theorem bytes_trimLeftByte_l1_t : ToldC Tryz.prog 0 (codeOf Tryz.f93) ((1, toldL bytes_trimLeftByte_l1p bytes_trimLeftByte_l1x bytes_trimLeftByte_l1) :: []) [] :=
  ToldC.loop bytes_trimLeftByte_FH 0 (ToldC.nil 0) bytes_trimLeftByte_Cok 1 ((loopsAt 1 (codeOf Tryz.f93)).headD .skip) (by kernel_rfl) (p := bytes_trimLeftByte_l1p) (px := bytes_trimLeftByte_l1x) (g := bytes_trimLeftByte_l1) (hi := { keep := [0, 1] }) (ho := { keep := [0, 4] }) (by kernel_rfl) fun (x : (List Int × Int)) => bytes_trimLeftByte_l1_s x.1 x.2
theorem bytes_trimLeftByte_b (a1 : List Int) (a2 : Int) : bodyC Tryz.prog bytes_trimLeftByte_C bytes_trimLeftByte_FH ((1, toldL bytes_trimLeftByte_l1p bytes_trimLeftByte_l1x bytes_trimLeftByte_l1) :: []) [] { keep := [] } 93 bytes_trimLeftByte_P bytes_trimLeftByte_H bytes_trimLeftByte_R bytes_trimLeftByte_G (a1, a2) _ some = bytes_trimLeftByte a1 a2 := by kernel_rfl
theorem bytes_trimLeftByte_ok : EntOK Tryz.prog 93 (ent bytes_trimLeftByte_P bytes_trimLeftByte_H bytes_trimLeftByte_R bytes_trimLeftByte_G (bytes_trimLeftByte_V (bytes_trimLeftByte))) :=
  ent_ok bytes_trimLeftByte_FH bytes_trimLeftByte_Cok (hp := bytes_trimLeftByte_H) (fn := Tryz.f93) (by kernel_rfl) bytes_trimLeftByte_l1_t fun (x : (List Int × Int)) => bytes_trimLeftByte_b x.1 x.2

/-! bytes_Trim: bytes.Trim -/
noncomputable def bytes_Trim_j6p : SP := { n := 42, ix := [0, 1], p := (.cons (.nums .u8) .str) }
noncomputable def bytes_Trim_j6x : List (Ex × SP) := [(.ret, { n := 42, ix := [4], p := (.nums .u8) })]
noncomputable def bytes_Trim_P : Pt := (.cons (.nums .u8) .str)
noncomputable def bytes_Trim_H : List Po := []
noncomputable def bytes_Trim_R : Pt := (.nums .u8)
noncomputable def bytes_Trim_G : List Po := []
noncomputable def bytes_Trim_V (f : (List Int) → ByteArray → Option (List Int)) (x : (List Int × ByteArray)) : Option (List Int) := f x.1 x.2
noncomputable def bytes_Trim_C : Cal := tbl [(94, (ent bytes_trimRightByte_P bytes_trimRightByte_H bytes_trimRightByte_R bytes_trimRightByte_G (bytes_trimRightByte_V (bytes_trimRightByte)))), (93, (ent bytes_trimLeftByte_P bytes_trimLeftByte_H bytes_trimLeftByte_R bytes_trimLeftByte_G (bytes_trimLeftByte_V (bytes_trimLeftByte))))]
theorem bytes_Trim_Cok : CalOK Tryz.prog bytes_Trim_C ∧ CalNt bytes_Trim_C := by
  unfold bytes_Trim_C
  exact tbl_ok (by
    intro p hp
    simp only [List.mem_cons, List.not_mem_nil, or_false] at hp
    rcases hp with rfl | rfl
    · exact bytes_trimRightByte_ok
    · exact bytes_trimLeftByte_ok)
noncomputable def bytes_Trim_FH : FH := { join := [(6, { keep := [0, 1] })] }
theorem bytes_Trim_j6_s (a1 : List Int) (a2 : ByteArray) : joinC Tryz.prog bytes_Trim_C bytes_Trim_FH [] [] 0 ((joinsAt 6 (codeOf Tryz.f64)).headD .skip) bytes_Trim_j6p bytes_Trim_j6x { keep := [0, 1, 4] } (a1, a2) _ some = bytes_Trim_j6 (a1, a2) := by kernel_rfl
theorem bytes_Trim_j6_t : ToldC Tryz.prog 0 (codeOf Tryz.f64) [] ((6, toldJ bytes_Trim_j6p bytes_Trim_j6x bytes_Trim_j6) :: []) :=
  ToldC.join bytes_Trim_FH 0 (ToldC.nil 0) bytes_Trim_Cok 6 ((joinsAt 6 (codeOf Tryz.f64)).headD .skip) (by kernel_rfl) (p := bytes_Trim_j6p) (px := bytes_Trim_j6x) (g := bytes_Trim_j6) (ho := { keep := [0, 1, 4] }) fun (x : (List Int × ByteArray)) => bytes_Trim_j6_s x.1 x.2
theorem bytes_Trim_b (a1 : List Int) (a2 : ByteArray) : bodyC Tryz.prog bytes_Trim_C bytes_Trim_FH [] ((6, toldJ bytes_Trim_j6p bytes_Trim_j6x bytes_Trim_j6) :: []) { keep := [] } 64 bytes_Trim_P bytes_Trim_H bytes_Trim_R bytes_Trim_G (a1, a2) _ some = bytes_Trim a1 a2 := by kernel_rfl
theorem bytes_Trim_ok : EntOK Tryz.prog 64 (ent bytes_Trim_P bytes_Trim_H bytes_Trim_R bytes_Trim_G (bytes_Trim_V (bytes_Trim))) :=
  ent_ok bytes_Trim_FH bytes_Trim_Cok (hp := bytes_Trim_H) (fn := Tryz.f64) (by kernel_rfl) bytes_Trim_j6_t fun (x : (List Int × ByteArray)) => bytes_Trim_b x.1 x.2

/-! credential_Unwrap: passkey/credential.Unwrap -/
noncomputable def credential_Unwrap_P : Pt := (.cons (.int .u64) (.cons .str (.nums .u8)))
noncomputable def credential_Unwrap_H : List Po := []
noncomputable def credential_Unwrap_R : Pt := (.tup (.cons (.agg (.cons .str (.cons .str (.cons .str (.cons (.int .u64) (.cons (.int .i64) (.cons .bool (.cons (.int .i64) (.cons .bool .bool))))))))) (.int .i64)))
noncomputable def credential_Unwrap_G : List Po := []
noncomputable def credential_Unwrap_V (f : Int → ByteArray → (List Int) → Option ((ByteArray × ByteArray × ByteArray × Int × Int × Bool × Int × Bool × Bool) × Int)) (x : (Int × ByteArray × List Int)) : Option ((ByteArray × ByteArray × ByteArray × Int × Int × Bool × Int × Bool × Bool) × Int) := f x.1 x.2.1 x.2.2
noncomputable def credential_Unwrap_C : Cal := tbl [(60, (ent credential_wrap_P credential_wrap_H credential_wrap_R credential_wrap_G (credential_wrap_V (credential_wrap)))), (62, (ent seal_Open_P seal_Open_H seal_Open_R seal_Open_G (seal_Open_V (seal_Open)))), (63, (ent credential_prefix_P credential_prefix_H credential_prefix_R credential_prefix_G (credential_prefix_V (credential_prefix)))), (64, (ent bytes_Trim_P bytes_Trim_H bytes_Trim_R bytes_Trim_G (bytes_Trim_V (bytes_Trim))))]
theorem credential_Unwrap_Cok : CalOK Tryz.prog credential_Unwrap_C ∧ CalNt credential_Unwrap_C := by
  unfold credential_Unwrap_C
  exact tbl_ok (by
    intro p hp
    simp only [List.mem_cons, List.not_mem_nil, or_false] at hp
    rcases hp with rfl | rfl | rfl | rfl
    · exact credential_wrap_ok
    · exact seal_Open_ok
    · exact credential_prefix_ok
    · exact bytes_Trim_ok)
noncomputable def credential_Unwrap_FH : FH := { ops := [(4, [(3, .borrow)]), (7, [(1, .borrow)])] }
theorem credential_Unwrap_b (a1 : Int) (a2 : ByteArray) (a3 : List Int) : bodyC Tryz.prog credential_Unwrap_C credential_Unwrap_FH [] [] { keep := [] } 25 credential_Unwrap_P credential_Unwrap_H credential_Unwrap_R credential_Unwrap_G (a1, a2, a3) _ some = credential_Unwrap a1 a2 a3 := by kernel_rfl
theorem credential_Unwrap_ok : EntOK Tryz.prog 25 (ent credential_Unwrap_P credential_Unwrap_H credential_Unwrap_R credential_Unwrap_G (credential_Unwrap_V (credential_Unwrap))) :=
  ent_ok credential_Unwrap_FH credential_Unwrap_Cok (hp := credential_Unwrap_H) (fn := Tryz.f25) (by kernel_rfl) (ToldC.nil 0) fun (x : (Int × ByteArray × List Int)) => credential_Unwrap_b x.1 x.2.1 x.2.2

/-! law15_awake: passkey/passkeylaw15.awake -/
noncomputable def law15_awake_P : Pt := .nil
noncomputable def law15_awake_H : List Po := []
noncomputable def law15_awake_R : Pt := .bool
noncomputable def law15_awake_G : List Po := []
noncomputable def law15_awake_V (f : Option Bool) (x : Unit) : Option Bool := f
noncomputable def law15_awake_C : Cal := tbl [(24, (ent credential_ID_P credential_ID_H credential_ID_R credential_ID_G (credential_ID_V (credential_ID)))), (25, (ent credential_Unwrap_P credential_Unwrap_H credential_Unwrap_R credential_Unwrap_G (credential_Unwrap_V (credential_Unwrap)))), (15, (ent credential_Validate_P credential_Validate_H credential_Validate_R credential_Validate_G (credential_Validate_V (credential_Validate))))]
theorem law15_awake_Cok : CalOK Tryz.prog law15_awake_C ∧ CalNt law15_awake_C := by
  unfold law15_awake_C
  exact tbl_ok (by
    intro p hp
    simp only [List.mem_cons, List.not_mem_nil, or_false] at hp
    rcases hp with rfl | rfl | rfl
    · exact credential_ID_ok
    · exact credential_Unwrap_ok
    · exact credential_Validate_ok)
noncomputable def law15_awake_FH : FH := { ops := [(3, [(1, .borrow)]), (4, [(1, .borrow)])] }
theorem law15_awake_b : bodyC Tryz.prog law15_awake_C law15_awake_FH [] [] { keep := [] } 10 law15_awake_P law15_awake_H law15_awake_R law15_awake_G () _ some = law15_awake := by kernel_rfl
theorem law15_awake_ok : EntOK Tryz.prog 10 (ent law15_awake_P law15_awake_H law15_awake_R law15_awake_G (law15_awake_V (law15_awake))) :=
  ent_ok law15_awake_FH law15_awake_Cok (hp := law15_awake_H) (fn := Tryz.f10) (by kernel_rfl) (ToldC.nil 0) fun (x : Unit) => law15_awake_b

/-! base_RP: passkey/passkeybase.RP -/
noncomputable def base_RP_P : Pt := (.int .i64)
noncomputable def base_RP_H : List Po := []
noncomputable def base_RP_R : Pt := .str
noncomputable def base_RP_G : List Po := []
noncomputable def base_RP_V (f : Int → Option ByteArray) (x : Int) : Option ByteArray := f x
noncomputable def base_RP_C : Cal := tbl []
theorem base_RP_Cok : CalOK Tryz.prog base_RP_C ∧ CalNt base_RP_C := by
  unfold base_RP_C
  exact tbl_ok (by intro p hp; simp at hp)
noncomputable def base_RP_FH : FH := {}
theorem base_RP_b (a1 : Int) : bodyC Tryz.prog base_RP_C base_RP_FH [] [] { keep := [] } 23 base_RP_P base_RP_H base_RP_R base_RP_G a1 _ some = base_RP a1 := by kernel_rfl
theorem base_RP_ok : EntOK Tryz.prog 23 (ent base_RP_P base_RP_H base_RP_R base_RP_G (base_RP_V (base_RP))) :=
  ent_ok base_RP_FH base_RP_Cok (hp := base_RP_H) (fn := Tryz.f23) (by kernel_rfl) (ToldC.nil 0) fun (x : Int) => base_RP_b x

/-! base_User: passkey/passkeybase.User -/
noncomputable def base_User_P : Pt := (.int .i64)
noncomputable def base_User_H : List Po := []
noncomputable def base_User_R : Pt := .str
noncomputable def base_User_G : List Po := []
noncomputable def base_User_V (f : Int → Option ByteArray) (x : Int) : Option ByteArray := f x
noncomputable def base_User_C : Cal := tbl []
theorem base_User_Cok : CalOK Tryz.prog base_User_C ∧ CalNt base_User_C := by
  unfold base_User_C
  exact tbl_ok (by intro p hp; simp at hp)
noncomputable def base_User_FH : FH := {}
theorem base_User_b (a1 : Int) : bodyC Tryz.prog base_User_C base_User_FH [] [] { keep := [] } 36 base_User_P base_User_H base_User_R base_User_G a1 _ some = base_User a1 := by kernel_rfl
theorem base_User_ok : EntOK Tryz.prog 36 (ent base_User_P base_User_H base_User_R base_User_G (base_User_V (base_User))) :=
  ent_ok base_User_FH base_User_Cok (hp := base_User_H) (fn := Tryz.f36) (by kernel_rfl) (ToldC.nil 0) fun (x : Int) => base_User_b x

/-! base_Text: passkey/passkeybase.Text -/
noncomputable def base_Text_P : Pt := (.int .i64)
noncomputable def base_Text_H : List Po := []
noncomputable def base_Text_R : Pt := .str
noncomputable def base_Text_G : List Po := []
noncomputable def base_Text_V (f : Int → Option ByteArray) (x : Int) : Option ByteArray := f x
noncomputable def base_Text_C : Cal := tbl []
theorem base_Text_Cok : CalOK Tryz.prog base_Text_C ∧ CalNt base_Text_C := by
  unfold base_Text_C
  exact tbl_ok (by intro p hp; simp at hp)
noncomputable def base_Text_FH : FH := { see := [(2, [(3, [0]), (4, [0]), (9, [0]), (10, [0])])] }
theorem base_Text_b (a1 : Int) : bodyC Tryz.prog base_Text_C base_Text_FH [] [] { keep := [] } 37 base_Text_P base_Text_H base_Text_R base_Text_G a1 _ some = base_Text a1 := by kernel_rfl
theorem base_Text_ok : EntOK Tryz.prog 37 (ent base_Text_P base_Text_H base_Text_R base_Text_G (base_Text_V (base_Text))) :=
  ent_ok base_Text_FH base_Text_Cok (hp := base_Text_H) (fn := Tryz.f37) (by kernel_rfl) (ToldC.nil 0) fun (x : Int) => base_Text_b x

/-! base_Credential: passkey/passkeybase.Credential -/
noncomputable def base_Credential_j4p : SP := { n := 48, ix := [0, 2, 3], p := (.cons (.int .i64) (.cons (.ptr 0 0) (.ptr 1 0))), hp := [(.cells (.cons .str (.cons .str (.cons .str (.cons (.int .u64) (.cons (.int .i64) (.cons .bool (.cons (.int .i64) (.cons .bool .bool))))))))), (.cells (.cons .str (.cons .str (.cons .str (.cons (.int .u64) (.cons (.int .i64) (.cons .bool (.cons (.int .i64) (.cons .bool .bool)))))))))] }
noncomputable def base_Credential_j4x : List (Ex × SP) := [(.ret, { n := 48, ix := [2], p := (.ptr 0 0), hp := [(.cells (.cons .str (.cons .str (.cons .str (.cons (.int .u64) (.cons (.int .i64) (.cons .bool (.cons (.int .i64) (.cons .bool .bool)))))))))] })]
noncomputable def base_Credential_P : Pt := (.int .i64)
noncomputable def base_Credential_H : List Po := []
noncomputable def base_Credential_R : Pt := (.agg (.cons .str (.cons .str (.cons .str (.cons (.int .u64) (.cons (.int .i64) (.cons .bool (.cons (.int .i64) (.cons .bool .bool)))))))))
noncomputable def base_Credential_G : List Po := []
noncomputable def base_Credential_V (f : Int → Option (ByteArray × ByteArray × ByteArray × Int × Int × Bool × Int × Bool × Bool)) (x : Int) : Option (ByteArray × ByteArray × ByteArray × Int × Int × Bool × Int × Bool × Bool) := f x
noncomputable def base_Credential_C : Cal := tbl [(23, (ent base_RP_P base_RP_H base_RP_R base_RP_G (base_RP_V (base_RP)))), (36, (ent base_User_P base_User_H base_User_R base_User_G (base_User_V (base_User)))), (37, (ent base_Text_P base_Text_H base_Text_R base_Text_G (base_Text_V (base_Text))))]
theorem base_Credential_Cok : CalOK Tryz.prog base_Credential_C ∧ CalNt base_Credential_C := by
  unfold base_Credential_C
  exact tbl_ok (by
    intro p hp
    simp only [List.mem_cons, List.not_mem_nil, or_false] at hp
    rcases hp with rfl | rfl | rfl
    · exact base_RP_ok
    · exact base_User_ok
    · exact base_Text_ok)
noncomputable def base_Credential_FH : FH := { join := [(4, { keep := [0, 2, 3] })] }
theorem base_Credential_j4_s (a1 : Int) (a2 : ByteArray) (a3 : ByteArray) (a4 : ByteArray) (a5 : Int) (a6 : Int) (a7 : Bool) (a8 : Int) (a9 : Bool) (a10 : Bool) (a11 : ByteArray) (a12 : ByteArray) (a13 : ByteArray) (a14 : Int) (a15 : Int) (a16 : Bool) (a17 : Int) (a18 : Bool) (a19 : Bool) : joinC Tryz.prog base_Credential_C base_Credential_FH [] [] 0 ((joinsAt 4 (codeOf Tryz.f12)).headD .skip) base_Credential_j4p base_Credential_j4x { keep := [2] } ((a1, (), ()), ((a2, a3, a4, a5, a6, a7, a8, a9, a10), (a11, a12, a13, a14, a15, a16, a17, a18, a19))) _ some = base_Credential_j4 ((a1, (), ()), ((a2, a3, a4, a5, a6, a7, a8, a9, a10), (a11, a12, a13, a14, a15, a16, a17, a18, a19))) := by kernel_rfl
theorem base_Credential_j4_t : ToldC Tryz.prog 0 (codeOf Tryz.f12) [] ((4, toldJ base_Credential_j4p base_Credential_j4x base_Credential_j4) :: []) :=
  ToldC.join base_Credential_FH 0 (ToldC.nil 0) base_Credential_Cok 4 ((joinsAt 4 (codeOf Tryz.f12)).headD .skip) (by kernel_rfl) (p := base_Credential_j4p) (px := base_Credential_j4x) (g := base_Credential_j4) (ho := { keep := [2] }) fun (x : ((Int × Unit × Unit) × ((ByteArray × ByteArray × ByteArray × Int × Int × Bool × Int × Bool × Bool) × (ByteArray × ByteArray × ByteArray × Int × Int × Bool × Int × Bool × Bool)))) => base_Credential_j4_s x.1.1 x.2.1.1 x.2.1.2.1 x.2.1.2.2.1 x.2.1.2.2.2.1 x.2.1.2.2.2.2.1 x.2.1.2.2.2.2.2.1 x.2.1.2.2.2.2.2.2.1 x.2.1.2.2.2.2.2.2.2.1 x.2.1.2.2.2.2.2.2.2.2 x.2.2.1 x.2.2.2.1 x.2.2.2.2.1 x.2.2.2.2.2.1 x.2.2.2.2.2.2.1 x.2.2.2.2.2.2.2.1 x.2.2.2.2.2.2.2.2.1 x.2.2.2.2.2.2.2.2.2.1 x.2.2.2.2.2.2.2.2.2.2
theorem base_Credential_b (a1 : Int) : bodyC Tryz.prog base_Credential_C base_Credential_FH [] ((4, toldJ base_Credential_j4p base_Credential_j4x base_Credential_j4) :: []) { keep := [] } 12 base_Credential_P base_Credential_H base_Credential_R base_Credential_G a1 _ some = base_Credential a1 := by kernel_rfl
theorem base_Credential_ok : EntOK Tryz.prog 12 (ent base_Credential_P base_Credential_H base_Credential_R base_Credential_G (base_Credential_V (base_Credential))) :=
  ent_ok base_Credential_FH base_Credential_Cok (hp := base_Credential_H) (fn := Tryz.f12) (by kernel_rfl) base_Credential_j4_t fun (x : Int) => base_Credential_b x

/-! law15_spoil: passkey/passkeylaw15.spoil -/
noncomputable def law15_spoil_j19p : SP := { n := 74, ix := [2, 4], p := (.cons (.ptr 0 0) (.ptr 1 0)), hp := [(.cells (.cons .str (.cons .str (.cons .str (.cons (.int .u64) (.cons (.int .i64) (.cons .bool (.cons (.int .i64) (.cons .bool .bool))))))))), (.cells (.cons .str (.cons .str (.cons .str (.cons (.int .u64) (.cons (.int .i64) (.cons .bool (.cons (.int .i64) (.cons .bool .bool)))))))))] }
noncomputable def law15_spoil_j19x : List (Ex × SP) := [(.ret, { n := 74, ix := [4], p := (.ptr 0 0), hp := [(.cells (.cons .str (.cons .str (.cons .str (.cons (.int .u64) (.cons (.int .i64) (.cons .bool (.cons (.int .i64) (.cons .bool .bool)))))))))] })]
noncomputable def law15_spoil_P : Pt := (.cons (.agg (.cons .str (.cons .str (.cons .str (.cons (.int .u64) (.cons (.int .i64) (.cons .bool (.cons (.int .i64) (.cons .bool .bool))))))))) (.int .i64))
noncomputable def law15_spoil_H : List Po := []
noncomputable def law15_spoil_R : Pt := (.agg (.cons .str (.cons .str (.cons .str (.cons (.int .u64) (.cons (.int .i64) (.cons .bool (.cons (.int .i64) (.cons .bool .bool)))))))))
noncomputable def law15_spoil_G : List Po := []
noncomputable def law15_spoil_V (f : ByteArray → ByteArray → ByteArray → Int → Int → Bool → Int → Bool → Bool → Int → Option (ByteArray × ByteArray × ByteArray × Int × Int × Bool × Int × Bool × Bool)) (x : ((ByteArray × ByteArray × ByteArray × Int × Int × Bool × Int × Bool × Bool) × Int)) : Option (ByteArray × ByteArray × ByteArray × Int × Int × Bool × Int × Bool × Bool) := f x.1.1 x.1.2.1 x.1.2.2.1 x.1.2.2.2.1 x.1.2.2.2.2.1 x.1.2.2.2.2.2.1 x.1.2.2.2.2.2.2.1 x.1.2.2.2.2.2.2.2.1 x.1.2.2.2.2.2.2.2.2 x.2
noncomputable def law15_spoil_C : Cal := tbl []
theorem law15_spoil_Cok : CalOK Tryz.prog law15_spoil_C ∧ CalNt law15_spoil_C := by
  unfold law15_spoil_C
  exact tbl_ok (by intro p hp; simp at hp)
noncomputable def law15_spoil_FH : FH := { join := [(19, { keep := [2, 4] })], see := [(4, [(0, []), (1, []), (2, []), (3, [])]), (8, [(0, []), (1, []), (2, []), (3, [])])] }
theorem law15_spoil_j19_s (a1 : ByteArray) (a2 : ByteArray) (a3 : ByteArray) (a4 : Int) (a5 : Int) (a6 : Bool) (a7 : Int) (a8 : Bool) (a9 : Bool) (a10 : ByteArray) (a11 : ByteArray) (a12 : ByteArray) (a13 : Int) (a14 : Int) (a15 : Bool) (a16 : Int) (a17 : Bool) (a18 : Bool) : joinC Tryz.prog law15_spoil_C law15_spoil_FH [] [] 0 ((joinsAt 19 (codeOf Tryz.f11)).headD .skip) law15_spoil_j19p law15_spoil_j19x { keep := [4] } (((), ()), ((a1, a2, a3, a4, a5, a6, a7, a8, a9), (a10, a11, a12, a13, a14, a15, a16, a17, a18))) _ some = law15_spoil_j19 (((), ()), ((a1, a2, a3, a4, a5, a6, a7, a8, a9), (a10, a11, a12, a13, a14, a15, a16, a17, a18))) := by kernel_rfl
theorem law15_spoil_j19_t : ToldC Tryz.prog 0 (codeOf Tryz.f11) [] ((19, toldJ law15_spoil_j19p law15_spoil_j19x law15_spoil_j19) :: []) :=
  ToldC.join law15_spoil_FH 0 (ToldC.nil 0) law15_spoil_Cok 19 ((joinsAt 19 (codeOf Tryz.f11)).headD .skip) (by kernel_rfl) (p := law15_spoil_j19p) (px := law15_spoil_j19x) (g := law15_spoil_j19) (ho := { keep := [4] }) fun (x : ((Unit × Unit) × ((ByteArray × ByteArray × ByteArray × Int × Int × Bool × Int × Bool × Bool) × (ByteArray × ByteArray × ByteArray × Int × Int × Bool × Int × Bool × Bool)))) => law15_spoil_j19_s x.2.1.1 x.2.1.2.1 x.2.1.2.2.1 x.2.1.2.2.2.1 x.2.1.2.2.2.2.1 x.2.1.2.2.2.2.2.1 x.2.1.2.2.2.2.2.2.1 x.2.1.2.2.2.2.2.2.2.1 x.2.1.2.2.2.2.2.2.2.2 x.2.2.1 x.2.2.2.1 x.2.2.2.2.1 x.2.2.2.2.2.1 x.2.2.2.2.2.2.1 x.2.2.2.2.2.2.2.1 x.2.2.2.2.2.2.2.2.1 x.2.2.2.2.2.2.2.2.2.1 x.2.2.2.2.2.2.2.2.2.2
theorem law15_spoil_b (a1 : ByteArray) (a2 : ByteArray) (a3 : ByteArray) (a4 : Int) (a5 : Int) (a6 : Bool) (a7 : Int) (a8 : Bool) (a9 : Bool) (a10 : Int) : bodyC Tryz.prog law15_spoil_C law15_spoil_FH [] ((19, toldJ law15_spoil_j19p law15_spoil_j19x law15_spoil_j19) :: []) { keep := [] } 11 law15_spoil_P law15_spoil_H law15_spoil_R law15_spoil_G ((a1, a2, a3, a4, a5, a6, a7, a8, a9), a10) _ some = law15_spoil a1 a2 a3 a4 a5 a6 a7 a8 a9 a10 := by kernel_rfl
theorem law15_spoil_ok : EntOK Tryz.prog 11 (ent law15_spoil_P law15_spoil_H law15_spoil_R law15_spoil_G (law15_spoil_V (law15_spoil))) :=
  ent_ok law15_spoil_FH law15_spoil_Cok (hp := law15_spoil_H) (fn := Tryz.f11) (by kernel_rfl) law15_spoil_j19_t fun (x : ((ByteArray × ByteArray × ByteArray × Int × Int × Bool × Int × Bool × Bool) × Int)) => law15_spoil_b x.1.1 x.1.2.1 x.1.2.2.1 x.1.2.2.2.1 x.1.2.2.2.2.1 x.1.2.2.2.2.2.1 x.1.2.2.2.2.2.2.1 x.1.2.2.2.2.2.2.2.1 x.1.2.2.2.2.2.2.2.2 x.2

/-! ref14_within: passkey/passkeyref14.within -/
noncomputable def ref14_within_P : Pt := (.cons (.int .i64) (.cons (.int .i64) (.int .i64)))
noncomputable def ref14_within_H : List Po := []
noncomputable def ref14_within_R : Pt := .bool
noncomputable def ref14_within_G : List Po := []
noncomputable def ref14_within_V (f : Int → Int → Int → Option Bool) (x : (Int × Int × Int)) : Option Bool := f x.1 x.2.1 x.2.2
noncomputable def ref14_within_C : Cal := tbl []
theorem ref14_within_Cok : CalOK Tryz.prog ref14_within_C ∧ CalNt ref14_within_C := by
  unfold ref14_within_C
  exact tbl_ok (by intro p hp; simp at hp)
noncomputable def ref14_within_FH : FH := {}
theorem ref14_within_b (a1 : Int) (a2 : Int) (a3 : Int) : bodyC Tryz.prog ref14_within_C ref14_within_FH [] [] { keep := [] } 50 ref14_within_P ref14_within_H ref14_within_R ref14_within_G (a1, a2, a3) _ some = ref14_within a1 a2 a3 := by kernel_rfl
theorem ref14_within_ok : EntOK Tryz.prog 50 (ent ref14_within_P ref14_within_H ref14_within_R ref14_within_G (ref14_within_V (ref14_within))) :=
  ent_ok ref14_within_FH ref14_within_Cok (hp := ref14_within_H) (fn := Tryz.f50) (by kernel_rfl) (ToldC.nil 0) fun (x : (Int × Int × Int)) => ref14_within_b x.1 x.2.1 x.2.2

/-! ref14_ValidateCredential: passkey/passkeyref14.ValidateCredential -/
noncomputable def ref14_ValidateCredential_j5p : SP := { n := 62, ix := [1], p := (.ptr 0 0), hp := [(.cells (.cons .str (.cons .str (.cons .str (.cons (.int .u64) (.cons (.int .i64) (.cons .bool (.cons (.int .i64) (.cons .bool .bool)))))))))] }
noncomputable def ref14_ValidateCredential_j5x : List (Ex × SP) := [(.ret, { n := 62, ix := [2], p := (.int .i64) }), (.norm, { n := 62, ix := [], p := .nil })]
noncomputable def ref14_ValidateCredential_j3p : SP := { n := 62, ix := [1], p := (.ptr 0 0), hp := [(.cells (.cons .str (.cons .str (.cons .str (.cons (.int .u64) (.cons (.int .i64) (.cons .bool (.cons (.int .i64) (.cons .bool .bool)))))))))] }
noncomputable def ref14_ValidateCredential_j3x : List (Ex × SP) := [(.ret, { n := 62, ix := [2], p := (.int .i64) }), (.norm, { n := 62, ix := [], p := .nil })]
noncomputable def ref14_ValidateCredential_P : Pt := (.agg (.cons .str (.cons .str (.cons .str (.cons (.int .u64) (.cons (.int .i64) (.cons .bool (.cons (.int .i64) (.cons .bool .bool)))))))))
noncomputable def ref14_ValidateCredential_H : List Po := []
noncomputable def ref14_ValidateCredential_R : Pt := (.int .i64)
noncomputable def ref14_ValidateCredential_G : List Po := []
noncomputable def ref14_ValidateCredential_V (f : ByteArray → ByteArray → ByteArray → Int → Int → Bool → Int → Bool → Bool → Option Int) (x : (ByteArray × ByteArray × ByteArray × Int × Int × Bool × Int × Bool × Bool)) : Option Int := f x.1 x.2.1 x.2.2.1 x.2.2.2.1 x.2.2.2.2.1 x.2.2.2.2.2.1 x.2.2.2.2.2.2.1 x.2.2.2.2.2.2.2.1 x.2.2.2.2.2.2.2.2
noncomputable def ref14_ValidateCredential_C : Cal := tbl [(50, (ent ref14_within_P ref14_within_H ref14_within_R ref14_within_G (ref14_within_V (ref14_within)))), (49, (ent utf8_ValidString_P utf8_ValidString_H utf8_ValidString_R utf8_ValidString_G utf8_ValidString_W))]
theorem ref14_ValidateCredential_Cok : CalOK Tryz.prog ref14_ValidateCredential_C ∧ CalNt ref14_ValidateCredential_C := by
  unfold ref14_ValidateCredential_C
  exact tbl_ok (by
    intro p hp
    simp only [List.mem_cons, List.not_mem_nil, or_false] at hp
    rcases hp with rfl | rfl
    · exact ref14_within_ok
    · exact utf8_ValidString_ok)
noncomputable def ref14_ValidateCredential_FH : FH := { join := [(5, { keep := [1] }), (3, { keep := [1] })] }
theorem ref14_ValidateCredential_j5_s (a1 : ByteArray) (a2 : ByteArray) (a3 : ByteArray) (a4 : Int) (a5 : Int) (a6 : Bool) (a7 : Int) (a8 : Bool) (a9 : Bool) : joinC Tryz.prog ref14_ValidateCredential_C ref14_ValidateCredential_FH [] [] 0 ((joinsAt 5 (codeOf Tryz.f16)).headD .skip) ref14_ValidateCredential_j5p ref14_ValidateCredential_j5x { keep := [2] } ((), (a1, a2, a3, a4, a5, a6, a7, a8, a9)) _ some = ref14_ValidateCredential_j5 ((), (a1, a2, a3, a4, a5, a6, a7, a8, a9)) := by kernel_rfl
theorem ref14_ValidateCredential_j5_t : ToldC Tryz.prog 0 (codeOf Tryz.f16) [] ((5, toldJ ref14_ValidateCredential_j5p ref14_ValidateCredential_j5x ref14_ValidateCredential_j5) :: []) :=
  ToldC.join ref14_ValidateCredential_FH 0 (ToldC.nil 0) ref14_ValidateCredential_Cok 5 ((joinsAt 5 (codeOf Tryz.f16)).headD .skip) (by kernel_rfl) (p := ref14_ValidateCredential_j5p) (px := ref14_ValidateCredential_j5x) (g := ref14_ValidateCredential_j5) (ho := { keep := [2] }) fun (x : (Unit × (ByteArray × ByteArray × ByteArray × Int × Int × Bool × Int × Bool × Bool))) => ref14_ValidateCredential_j5_s x.2.1 x.2.2.1 x.2.2.2.1 x.2.2.2.2.1 x.2.2.2.2.2.1 x.2.2.2.2.2.2.1 x.2.2.2.2.2.2.2.1 x.2.2.2.2.2.2.2.2.1 x.2.2.2.2.2.2.2.2.2
theorem ref14_ValidateCredential_j3_s (a1 : ByteArray) (a2 : ByteArray) (a3 : ByteArray) (a4 : Int) (a5 : Int) (a6 : Bool) (a7 : Int) (a8 : Bool) (a9 : Bool) : joinC Tryz.prog ref14_ValidateCredential_C ref14_ValidateCredential_FH [] ((5, toldJ ref14_ValidateCredential_j5p ref14_ValidateCredential_j5x ref14_ValidateCredential_j5) :: []) 0 ((joinsAt 3 (codeOf Tryz.f16)).headD .skip) ref14_ValidateCredential_j3p ref14_ValidateCredential_j3x { keep := [2] } ((), (a1, a2, a3, a4, a5, a6, a7, a8, a9)) _ some = ref14_ValidateCredential_j3 ((), (a1, a2, a3, a4, a5, a6, a7, a8, a9)) := by kernel_rfl
theorem ref14_ValidateCredential_j3_t : ToldC Tryz.prog 0 (codeOf Tryz.f16) [] ((3, toldJ ref14_ValidateCredential_j3p ref14_ValidateCredential_j3x ref14_ValidateCredential_j3) :: ((5, toldJ ref14_ValidateCredential_j5p ref14_ValidateCredential_j5x ref14_ValidateCredential_j5) :: [])) :=
  ToldC.join ref14_ValidateCredential_FH 0 ref14_ValidateCredential_j5_t ref14_ValidateCredential_Cok 3 ((joinsAt 3 (codeOf Tryz.f16)).headD .skip) (by kernel_rfl) (p := ref14_ValidateCredential_j3p) (px := ref14_ValidateCredential_j3x) (g := ref14_ValidateCredential_j3) (ho := { keep := [2] }) fun (x : (Unit × (ByteArray × ByteArray × ByteArray × Int × Int × Bool × Int × Bool × Bool))) => ref14_ValidateCredential_j3_s x.2.1 x.2.2.1 x.2.2.2.1 x.2.2.2.2.1 x.2.2.2.2.2.1 x.2.2.2.2.2.2.1 x.2.2.2.2.2.2.2.1 x.2.2.2.2.2.2.2.2.1 x.2.2.2.2.2.2.2.2.2
theorem ref14_ValidateCredential_b (a1 : ByteArray) (a2 : ByteArray) (a3 : ByteArray) (a4 : Int) (a5 : Int) (a6 : Bool) (a7 : Int) (a8 : Bool) (a9 : Bool) : bodyC Tryz.prog ref14_ValidateCredential_C ref14_ValidateCredential_FH [] ((3, toldJ ref14_ValidateCredential_j3p ref14_ValidateCredential_j3x ref14_ValidateCredential_j3) :: ((5, toldJ ref14_ValidateCredential_j5p ref14_ValidateCredential_j5x ref14_ValidateCredential_j5) :: [])) { keep := [] } 16 ref14_ValidateCredential_P ref14_ValidateCredential_H ref14_ValidateCredential_R ref14_ValidateCredential_G (a1, a2, a3, a4, a5, a6, a7, a8, a9) _ some = ref14_ValidateCredential a1 a2 a3 a4 a5 a6 a7 a8 a9 := by kernel_rfl
theorem ref14_ValidateCredential_ok : EntOK Tryz.prog 16 (ent ref14_ValidateCredential_P ref14_ValidateCredential_H ref14_ValidateCredential_R ref14_ValidateCredential_G (ref14_ValidateCredential_V (ref14_ValidateCredential))) :=
  ent_ok ref14_ValidateCredential_FH ref14_ValidateCredential_Cok (hp := ref14_ValidateCredential_H) (fn := Tryz.f16) (by kernel_rfl) ref14_ValidateCredential_j3_t fun (x : (ByteArray × ByteArray × ByteArray × Int × Int × Bool × Int × Bool × Bool)) => ref14_ValidateCredential_b x.1 x.2.1 x.2.2.1 x.2.2.2.1 x.2.2.2.2.1 x.2.2.2.2.2.1 x.2.2.2.2.2.2.1 x.2.2.2.2.2.2.2.1 x.2.2.2.2.2.2.2.2

/-! ref14_text: passkey/passkeyref14.text -/
noncomputable def ref14_text_P : Pt := .str
noncomputable def ref14_text_H : List Po := []
noncomputable def ref14_text_R : Pt := (.agg (.cons (.int .i64) (.cons (.int .u64) .str)))
noncomputable def ref14_text_G : List Po := []
noncomputable def ref14_text_V (f : ByteArray → Option (Int × Int × ByteArray)) (x : ByteArray) : Option (Int × Int × ByteArray) := f x
noncomputable def ref14_text_C : Cal := tbl []
theorem ref14_text_Cok : CalOK Tryz.prog ref14_text_C ∧ CalNt ref14_text_C := by
  unfold ref14_text_C
  exact tbl_ok (by intro p hp; simp at hp)
noncomputable def ref14_text_FH : FH := {}
theorem ref14_text_b (a1 : ByteArray) : bodyC Tryz.prog ref14_text_C ref14_text_FH [] [] { keep := [] } 44 ref14_text_P ref14_text_H ref14_text_R ref14_text_G a1 _ some = ref14_text a1 := by kernel_rfl
theorem ref14_text_ok : EntOK Tryz.prog 44 (ent ref14_text_P ref14_text_H ref14_text_R ref14_text_G (ref14_text_V (ref14_text))) :=
  ent_ok ref14_text_FH ref14_text_Cok (hp := ref14_text_H) (fn := Tryz.f44) (by kernel_rfl) (ToldC.nil 0) fun (x : ByteArray) => ref14_text_b x

/-! ref14_data: passkey/passkeyref14.data -/
noncomputable def ref14_data_P : Pt := .str
noncomputable def ref14_data_H : List Po := []
noncomputable def ref14_data_R : Pt := (.agg (.cons (.int .i64) (.cons (.int .u64) .str)))
noncomputable def ref14_data_G : List Po := []
noncomputable def ref14_data_V (f : ByteArray → Option (Int × Int × ByteArray)) (x : ByteArray) : Option (Int × Int × ByteArray) := f x
noncomputable def ref14_data_C : Cal := tbl []
theorem ref14_data_Cok : CalOK Tryz.prog ref14_data_C ∧ CalNt ref14_data_C := by
  unfold ref14_data_C
  exact tbl_ok (by intro p hp; simp at hp)
noncomputable def ref14_data_FH : FH := {}
theorem ref14_data_b (a1 : ByteArray) : bodyC Tryz.prog ref14_data_C ref14_data_FH [] [] { keep := [] } 45 ref14_data_P ref14_data_H ref14_data_R ref14_data_G a1 _ some = ref14_data a1 := by kernel_rfl
theorem ref14_data_ok : EntOK Tryz.prog 45 (ent ref14_data_P ref14_data_H ref14_data_R ref14_data_G (ref14_data_V (ref14_data))) :=
  ent_ok ref14_data_FH ref14_data_Cok (hp := ref14_data_H) (fn := Tryz.f45) (by kernel_rfl) (ToldC.nil 0) fun (x : ByteArray) => ref14_data_b x

/-! ref14_number: passkey/passkeyref14.number -/
noncomputable def ref14_number_P : Pt := (.int .u64)
noncomputable def ref14_number_H : List Po := []
noncomputable def ref14_number_R : Pt := (.agg (.cons (.int .i64) (.cons (.int .u64) .str)))
noncomputable def ref14_number_G : List Po := []
noncomputable def ref14_number_V (f : Int → Option (Int × Int × ByteArray)) (x : Int) : Option (Int × Int × ByteArray) := f x
noncomputable def ref14_number_C : Cal := tbl []
theorem ref14_number_Cok : CalOK Tryz.prog ref14_number_C ∧ CalNt ref14_number_C := by
  unfold ref14_number_C
  exact tbl_ok (by intro p hp; simp at hp)
noncomputable def ref14_number_FH : FH := {}
theorem ref14_number_b (a1 : Int) : bodyC Tryz.prog ref14_number_C ref14_number_FH [] [] { keep := [] } 46 ref14_number_P ref14_number_H ref14_number_R ref14_number_G a1 _ some = ref14_number a1 := by kernel_rfl
theorem ref14_number_ok : EntOK Tryz.prog 46 (ent ref14_number_P ref14_number_H ref14_number_R ref14_number_G (ref14_number_V (ref14_number))) :=
  ent_ok ref14_number_FH ref14_number_Cok (hp := ref14_number_H) (fn := Tryz.f46) (by kernel_rfl) (ToldC.nil 0) fun (x : Int) => ref14_number_b x

/-! ref14_boolean: passkey/passkeyref14.boolean -/
noncomputable def ref14_boolean_P : Pt := .bool
noncomputable def ref14_boolean_H : List Po := []
noncomputable def ref14_boolean_R : Pt := (.agg (.cons (.int .i64) (.cons (.int .u64) .str)))
noncomputable def ref14_boolean_G : List Po := []
noncomputable def ref14_boolean_V (f : Bool → Option (Int × Int × ByteArray)) (x : Bool) : Option (Int × Int × ByteArray) := f x
noncomputable def ref14_boolean_C : Cal := tbl []
theorem ref14_boolean_Cok : CalOK Tryz.prog ref14_boolean_C ∧ CalNt ref14_boolean_C := by
  unfold ref14_boolean_C
  exact tbl_ok (by intro p hp; simp at hp)
noncomputable def ref14_boolean_FH : FH := {}
theorem ref14_boolean_b (a1 : Bool) : bodyC Tryz.prog ref14_boolean_C ref14_boolean_FH [] [] { keep := [] } 47 ref14_boolean_P ref14_boolean_H ref14_boolean_R ref14_boolean_G a1 _ some = ref14_boolean a1 := by kernel_rfl
theorem ref14_boolean_ok : EntOK Tryz.prog 47 (ent ref14_boolean_P ref14_boolean_H ref14_boolean_R ref14_boolean_G (ref14_boolean_V (ref14_boolean))) :=
  ent_ok ref14_boolean_FH ref14_boolean_Cok (hp := ref14_boolean_H) (fn := Tryz.f47) (by kernel_rfl) (ToldC.nil 0) fun (x : Bool) => ref14_boolean_b x

/-! ref1_within: passkey/passkeyref1.within -/
noncomputable def ref1_within_P : Pt := (.cons (.int .i64) (.cons (.int .i64) (.int .i64)))
noncomputable def ref1_within_H : List Po := []
noncomputable def ref1_within_R : Pt := .bool
noncomputable def ref1_within_G : List Po := []
noncomputable def ref1_within_V (f : Int → Int → Int → Option Bool) (x : (Int × Int × Int)) : Option Bool := f x.1 x.2.1 x.2.2
noncomputable def ref1_within_C : Cal := tbl []
theorem ref1_within_Cok : CalOK Tryz.prog ref1_within_C ∧ CalNt ref1_within_C := by
  unfold ref1_within_C
  exact tbl_ok (by intro p hp; simp at hp)
noncomputable def ref1_within_FH : FH := {}
theorem ref1_within_b (a1 : Int) (a2 : Int) (a3 : Int) : bodyC Tryz.prog ref1_within_C ref1_within_FH [] [] { keep := [] } 170 ref1_within_P ref1_within_H ref1_within_R ref1_within_G (a1, a2, a3) _ some = ref1_within a1 a2 a3 := by kernel_rfl
theorem ref1_within_ok : EntOK Tryz.prog 170 (ent ref1_within_P ref1_within_H ref1_within_R ref1_within_G (ref1_within_V (ref1_within))) :=
  ent_ok ref1_within_FH ref1_within_Cok (hp := ref1_within_H) (fn := Tryz.f170) (by kernel_rfl) (ToldC.nil 0) fun (x : (Int × Int × Int)) => ref1_within_b x.1 x.2.1 x.2.2

/-! ref1_isKey: passkey/passkeyref1.isKey -/
noncomputable def ref1_isKey_P : Pt := (.int .i64)
noncomputable def ref1_isKey_H : List Po := []
noncomputable def ref1_isKey_R : Pt := .bool
noncomputable def ref1_isKey_G : List Po := []
noncomputable def ref1_isKey_V (f : Int → Option Bool) (x : Int) : Option Bool := f x
noncomputable def ref1_isKey_C : Cal := tbl []
theorem ref1_isKey_Cok : CalOK Tryz.prog ref1_isKey_C ∧ CalNt ref1_isKey_C := by
  unfold ref1_isKey_C
  exact tbl_ok (by intro p hp; simp at hp)
noncomputable def ref1_isKey_FH : FH := {}
theorem ref1_isKey_b (a1 : Int) : bodyC Tryz.prog ref1_isKey_C ref1_isKey_FH [] [] { keep := [] } 171 ref1_isKey_P ref1_isKey_H ref1_isKey_R ref1_isKey_G a1 _ some = ref1_isKey a1 := by kernel_rfl
theorem ref1_isKey_ok : EntOK Tryz.prog 171 (ent ref1_isKey_P ref1_isKey_H ref1_isKey_R ref1_isKey_G (ref1_isKey_V (ref1_isKey))) :=
  ent_ok ref1_isKey_FH ref1_isKey_Cok (hp := ref1_isKey_H) (fn := Tryz.f171) (by kernel_rfl) (ToldC.nil 0) fun (x : Int) => ref1_isKey_b x

/-! ref1_Words: passkey/passkeyref1.Words -/
noncomputable def ref1_Words_l6p : SP := { n := 29, ix := [0, 3, 4, 5], p := (.cons (.nums .u64) (.cons (.ref 0) (.cons (.int .i64) (.int .i64)))), hp := [(.arrN 1 5 .u8)] }
noncomputable def ref1_Words_l6x : List (Ex × SP) := [((.exit 2), { n := 29, ix := [0, 3, 4], p := (.cons (.nums .u64) (.cons (.ref 0) (.int .i64))), hp := [(.arrN 1 5 .u8)] })]
noncomputable def ref1_Words_l3p : SP := { n := 29, ix := [0, 3, 4], p := (.cons (.nums .u64) (.cons (.ref 0) (.int .i64))), hp := [(.arrN 1 5 .u8)] }
noncomputable def ref1_Words_l3x : List (Ex × SP) := [((.exit 0), { n := 29, ix := [3], p := (.ref 0), hp := [(.arrN 1 5 .u8)] })]
noncomputable def ref1_Words_P : Pt := (.nums .u64)
noncomputable def ref1_Words_H : List Po := []
noncomputable def ref1_Words_R : Pt := (.ref 0)
noncomputable def ref1_Words_G : List Po := [(.arrN 1 5 .u8)]
noncomputable def ref1_Words_V (f : (List Int) → Option (Unit × List Int)) (x : List Int) : Option (Unit × List Int) := f x
noncomputable def ref1_Words_C : Cal := tbl []
theorem ref1_Words_Cok : CalOK Tryz.prog ref1_Words_C ∧ CalNt ref1_Words_C := by
  unfold ref1_Words_C
  exact tbl_ok (by intro p hp; simp at hp)
noncomputable def ref1_Words_FH : FH := { loops := [(6, { keep := [0, 3, 4, 5] }, { keep := [0, 2, 3, 4] }), (3, { keep := [0, 3, 4], own := [(3, 5)] }, { keep := [2, 3] })] }
theorem ref1_Words_l6_s (a1 : List Int) (a2 : Int) (a3 : Int) (a4 : List Int) : stepC Tryz.prog ref1_Words_C ref1_Words_FH [] [] 0 ((loopsAt 6 (codeOf Tryz.f20)).headD .skip) ref1_Words_l6p ref1_Words_l6x { keep := [0, 3, 4, 5] } { keep := [0, 2, 3, 4] } ((a1, (), a2, a3), a4) _ some = ref1_Words_l6 ((a1, (), a2, a3), a4) := by kernel_rfl
theorem ref1_Words_l6_t : ToldC Tryz.prog 0 (codeOf Tryz.f20) ((6, toldL ref1_Words_l6p ref1_Words_l6x ref1_Words_l6) :: []) [] :=
  ToldC.loop ref1_Words_FH 0 (ToldC.nil 0) ref1_Words_Cok 6 ((loopsAt 6 (codeOf Tryz.f20)).headD .skip) (by kernel_rfl) (p := ref1_Words_l6p) (px := ref1_Words_l6x) (g := ref1_Words_l6) (hi := { keep := [0, 3, 4, 5] }) (ho := { keep := [0, 2, 3, 4] }) (by kernel_rfl) fun (x : ((List Int × Unit × Int × Int) × List Int)) => ref1_Words_l6_s x.1.1 x.1.2.2.1 x.1.2.2.2 x.2
theorem ref1_Words_l3_s (a1 : List Int) (a2 : Int) (a3 : List Int) : stepC Tryz.prog ref1_Words_C ref1_Words_FH ((6, toldL ref1_Words_l6p ref1_Words_l6x ref1_Words_l6) :: []) [] 0 ((loopsAt 3 (codeOf Tryz.f20)).headD .skip) ref1_Words_l3p ref1_Words_l3x { keep := [0, 3, 4], own := [(3, 5)] } { keep := [2, 3] } ((a1, (), a2), a3) _ some = ref1_Words_l3 ((a1, (), a2), a3) := by kernel_rfl
theorem ref1_Words_l3_t : ToldC Tryz.prog 0 (codeOf Tryz.f20) ((3, toldL ref1_Words_l3p ref1_Words_l3x ref1_Words_l3) :: ((6, toldL ref1_Words_l6p ref1_Words_l6x ref1_Words_l6) :: [])) [] :=
  ToldC.loop ref1_Words_FH 0 ref1_Words_l6_t ref1_Words_Cok 3 ((loopsAt 3 (codeOf Tryz.f20)).headD .skip) (by kernel_rfl) (p := ref1_Words_l3p) (px := ref1_Words_l3x) (g := ref1_Words_l3) (hi := { keep := [0, 3, 4], own := [(3, 5)] }) (ho := { keep := [2, 3] }) (by kernel_rfl) fun (x : ((List Int × Unit × Int) × List Int)) => ref1_Words_l3_s x.1.1 x.1.2.2 x.2
theorem ref1_Words_b (a1 : List Int) : bodyC Tryz.prog ref1_Words_C ref1_Words_FH ((3, toldL ref1_Words_l3p ref1_Words_l3x ref1_Words_l3) :: ((6, toldL ref1_Words_l6p ref1_Words_l6x ref1_Words_l6) :: [])) [] { keep := [] } 20 ref1_Words_P ref1_Words_H ref1_Words_R ref1_Words_G a1 _ some = ref1_Words a1 := by kernel_rfl
theorem ref1_Words_ok : EntOK Tryz.prog 20 (ent ref1_Words_P ref1_Words_H ref1_Words_R ref1_Words_G (ref1_Words_V (ref1_Words))) :=
  ent_ok ref1_Words_FH ref1_Words_Cok (hp := ref1_Words_H) (fn := Tryz.f20) (by kernel_rfl) ref1_Words_l3_t fun (x : List Int) => ref1_Words_b x

/-! ref1_Head: passkey/passkeyref1.Head -/
noncomputable def ref1_Head_j18p : SP := { n := 87, ix := [3, 4], p := (.cons (.int .u64) (.int .u8)) }
noncomputable def ref1_Head_j18x : List (Ex × SP) := [(.ret, { n := 87, ix := [2], p := (.ref 0), hp := [(.arrN 1 5 .u8)] })]
noncomputable def ref1_Head_P : Pt := (.agg (.cons (.int .i64) (.cons (.int .u64) .str)))
noncomputable def ref1_Head_H : List Po := []
noncomputable def ref1_Head_R : Pt := (.ref 0)
noncomputable def ref1_Head_G : List Po := [(.arrN 1 5 .u8)]
noncomputable def ref1_Head_V (f : Int → Int → ByteArray → Option (Unit × List Int)) (x : (Int × Int × ByteArray)) : Option (Unit × List Int) := f x.1 x.2.1 x.2.2
noncomputable def ref1_Head_C : Cal := tbl [(20, (ent ref1_Words_P ref1_Words_H ref1_Words_R ref1_Words_G (ref1_Words_V (ref1_Words))))]
theorem ref1_Head_Cok : CalOK Tryz.prog ref1_Head_C ∧ CalNt ref1_Head_C := by
  unfold ref1_Head_C
  exact tbl_ok (by
    intro p hp
    simp only [List.mem_cons, List.not_mem_nil, or_false] at hp
    rcases hp with rfl
    exact ref1_Words_ok)
noncomputable def ref1_Head_FH : FH := { join := [(18, { keep := [3, 4] })], ops := [(26, [(5, .borrow)])] }
theorem ref1_Head_j18_s (a1 : Int) (a2 : Int) : joinC Tryz.prog ref1_Head_C ref1_Head_FH [] [] 0 ((joinsAt 18 (codeOf Tryz.f116)).headD .skip) ref1_Head_j18p ref1_Head_j18x { keep := [2] } (a1, a2) _ some = ref1_Head_j18 (a1, a2) := by kernel_rfl
theorem ref1_Head_j18_t : ToldC Tryz.prog 0 (codeOf Tryz.f116) [] ((18, toldJ ref1_Head_j18p ref1_Head_j18x ref1_Head_j18) :: []) :=
  ToldC.join ref1_Head_FH 0 (ToldC.nil 0) ref1_Head_Cok 18 ((joinsAt 18 (codeOf Tryz.f116)).headD .skip) (by kernel_rfl) (p := ref1_Head_j18p) (px := ref1_Head_j18x) (g := ref1_Head_j18) (ho := { keep := [2] }) fun (x : (Int × Int)) => ref1_Head_j18_s x.1 x.2
theorem ref1_Head_b (a1 : Int) (a2 : Int) (a3 : ByteArray) : bodyC Tryz.prog ref1_Head_C ref1_Head_FH [] ((18, toldJ ref1_Head_j18p ref1_Head_j18x ref1_Head_j18) :: []) { keep := [] } 116 ref1_Head_P ref1_Head_H ref1_Head_R ref1_Head_G (a1, a2, a3) _ some = ref1_Head a1 a2 a3 := by kernel_rfl
theorem ref1_Head_ok : EntOK Tryz.prog 116 (ent ref1_Head_P ref1_Head_H ref1_Head_R ref1_Head_G (ref1_Head_V (ref1_Head))) :=
  ent_ok ref1_Head_FH ref1_Head_Cok (hp := ref1_Head_H) (fn := Tryz.f116) (by kernel_rfl) ref1_Head_j18_t fun (x : (Int × Int × ByteArray)) => ref1_Head_b x.1 x.2.1 x.2.2

/-! ref1_Bytes: passkey/passkeyref1.Bytes -/
noncomputable def ref1_Bytes_P : Pt := (.agg (.cons (.int .i64) (.cons (.int .u64) .str)))
noncomputable def ref1_Bytes_H : List Po := []
noncomputable def ref1_Bytes_R : Pt := .str
noncomputable def ref1_Bytes_G : List Po := []
noncomputable def ref1_Bytes_V (f : Int → Int → ByteArray → Option ByteArray) (x : (Int × Int × ByteArray)) : Option ByteArray := f x.1 x.2.1 x.2.2
noncomputable def ref1_Bytes_C : Cal := tbl [(116, (ent ref1_Head_P ref1_Head_H ref1_Head_R ref1_Head_G (ref1_Head_V (ref1_Head))))]
theorem ref1_Bytes_Cok : CalOK Tryz.prog ref1_Bytes_C ∧ CalNt ref1_Bytes_C := by
  unfold ref1_Bytes_C
  exact tbl_ok (by
    intro p hp
    simp only [List.mem_cons, List.not_mem_nil, or_false] at hp
    rcases hp with rfl
    exact ref1_Head_ok)
noncomputable def ref1_Bytes_FH : FH := { see := [(1, [(0, [0]), (1, []), (2, []), (4, [0])])] }
theorem ref1_Bytes_b (a1 : Int) (a2 : Int) (a3 : ByteArray) : bodyC Tryz.prog ref1_Bytes_C ref1_Bytes_FH [] [] { keep := [] } 77 ref1_Bytes_P ref1_Bytes_H ref1_Bytes_R ref1_Bytes_G (a1, a2, a3) _ some = ref1_Bytes a1 a2 a3 := by kernel_rfl
theorem ref1_Bytes_ok : EntOK Tryz.prog 77 (ent ref1_Bytes_P ref1_Bytes_H ref1_Bytes_R ref1_Bytes_G (ref1_Bytes_V (ref1_Bytes))) :=
  ent_ok ref1_Bytes_FH ref1_Bytes_Cok (hp := ref1_Bytes_H) (fn := Tryz.f77) (by kernel_rfl) (ToldC.nil 0) fun (x : (Int × Int × ByteArray)) => ref1_Bytes_b x.1 x.2.1 x.2.2

/-! ref1_less: passkey/passkeyref1.less -/
noncomputable def ref1_less_P : Pt := (.cons .str .str)
noncomputable def ref1_less_H : List Po := []
noncomputable def ref1_less_R : Pt := .bool
noncomputable def ref1_less_G : List Po := []
noncomputable def ref1_less_V (f : ByteArray → ByteArray → Option Bool) (x : (ByteArray × ByteArray)) : Option Bool := f x.1 x.2
noncomputable def ref1_less_C : Cal := tbl []
theorem ref1_less_Cok : CalOK Tryz.prog ref1_less_C ∧ CalNt ref1_less_C := by
  unfold ref1_less_C
  exact tbl_ok (by intro p hp; simp at hp)
noncomputable def ref1_less_FH : FH := {}
theorem ref1_less_b (a1 : ByteArray) (a2 : ByteArray) : bodyC Tryz.prog ref1_less_C ref1_less_FH [] [] { keep := [] } 172 ref1_less_P ref1_less_H ref1_less_R ref1_less_G (a1, a2) _ some = ref1_less a1 a2 := by kernel_rfl
theorem ref1_less_ok : EntOK Tryz.prog 172 (ent ref1_less_P ref1_less_H ref1_less_R ref1_less_G (ref1_less_V (ref1_less))) :=
  ent_ok ref1_less_FH ref1_less_Cok (hp := ref1_less_H) (fn := Tryz.f172) (by kernel_rfl) (ToldC.nil 0) fun (x : (ByteArray × ByteArray)) => ref1_less_b x.1 x.2

/-! ref1_check: passkey/passkeyref1.check -/
noncomputable def ref1_check_j15p : SP := { n := 116, ix := [3, 4, 5], p := (.cons .bool (.cons .str (.ptr 0 0))), hp := [(.cells (.cons (.int .i64) (.cons (.int .u64) .str)))] }
noncomputable def ref1_check_j15x : List (Ex × SP) := [(.ret, { n := 116, ix := [10], p := (.int .i64) }), (.norm, { n := 116, ix := [], p := .nil })]
noncomputable def ref1_check_j13p : SP := { n := 116, ix := [3, 4, 5], p := (.cons .bool (.cons .str (.ptr 0 0))), hp := [(.cells (.cons (.int .i64) (.cons (.int .u64) .str)))] }
noncomputable def ref1_check_j13x : List (Ex × SP) := [(.ret, { n := 116, ix := [10], p := (.int .i64) }), (.norm, { n := 116, ix := [], p := .nil })]
noncomputable def ref1_check_j11p : SP := { n := 116, ix := [3, 4, 5, 12], p := (.cons .bool (.cons .str (.cons (.ptr 0 0) .bool))), hp := [(.cells (.cons (.int .i64) (.cons (.int .u64) .str)))] }
noncomputable def ref1_check_j11x : List (Ex × SP) := [(.ret, { n := 116, ix := [10], p := (.int .i64) }), (.norm, { n := 116, ix := [], p := .nil })]
noncomputable def ref1_check_j7p : SP := { n := 116, ix := [2, 3, 4, 5, 11, 12], p := (.cons (.int .i64) (.cons .bool (.cons .str (.cons (.ptr 0 0) (.cons .bool .bool))))), hp := [(.cells (.cons (.int .i64) (.cons (.int .u64) .str)))] }
noncomputable def ref1_check_j7x : List (Ex × SP) := [(.ret, { n := 116, ix := [10], p := (.int .i64) }), (.norm, { n := 116, ix := [], p := .nil })]
noncomputable def ref1_check_j3p : SP := { n := 116, ix := [1, 2, 3, 4, 5, 11, 12], p := (.cons (.int .i64) (.cons (.int .i64) (.cons .bool (.cons .str (.cons (.ptr 0 0) (.cons .bool .bool)))))), hp := [(.cells (.cons (.int .i64) (.cons (.int .u64) .str)))] }
noncomputable def ref1_check_j3x : List (Ex × SP) := [(.ret, { n := 116, ix := [10], p := (.int .i64) })]
noncomputable def ref1_check_j2p : SP := { n := 116, ix := [1, 2, 3, 4, 5, 11], p := (.cons (.int .i64) (.cons (.int .i64) (.cons .bool (.cons .str (.cons (.ptr 0 0) .bool))))), hp := [(.cells (.cons (.int .i64) (.cons (.int .u64) .str)))] }
noncomputable def ref1_check_j2x : List (Ex × SP) := [(.ret, { n := 116, ix := [10], p := (.int .i64) })]
noncomputable def ref1_check_P : Pt := (.cons (.agg (.cons (.int .i64) (.cons (.int .u64) .str))) (.cons (.int .i64) (.cons (.int .i64) (.cons .bool .str))))
noncomputable def ref1_check_H : List Po := []
noncomputable def ref1_check_R : Pt := (.int .i64)
noncomputable def ref1_check_G : List Po := []
noncomputable def ref1_check_V (f : Int → Int → ByteArray → Int → Int → Bool → ByteArray → Option Int) (x : ((Int × Int × ByteArray) × Int × Int × Bool × ByteArray)) : Option Int := f x.1.1 x.1.2.1 x.1.2.2 x.2.1 x.2.2.1 x.2.2.2.1 x.2.2.2.2
noncomputable def ref1_check_C : Cal := tbl [(170, (ent ref1_within_P ref1_within_H ref1_within_R ref1_within_G (ref1_within_V (ref1_within)))), (171, (ent ref1_isKey_P ref1_isKey_H ref1_isKey_R ref1_isKey_G (ref1_isKey_V (ref1_isKey)))), (49, (ent utf8_ValidString_P utf8_ValidString_H utf8_ValidString_R utf8_ValidString_G utf8_ValidString_W)), (77, (ent ref1_Bytes_P ref1_Bytes_H ref1_Bytes_R ref1_Bytes_G (ref1_Bytes_V (ref1_Bytes)))), (172, (ent ref1_less_P ref1_less_H ref1_less_R ref1_less_G (ref1_less_V (ref1_less))))]
theorem ref1_check_Cok : CalOK Tryz.prog ref1_check_C ∧ CalNt ref1_check_C := by
  unfold ref1_check_C
  exact tbl_ok (by
    intro p hp
    simp only [List.mem_cons, List.not_mem_nil, or_false] at hp
    rcases hp with rfl | rfl | rfl | rfl | rfl
    · exact ref1_within_ok
    · exact ref1_isKey_ok
    · exact utf8_ValidString_ok
    · exact ref1_Bytes_ok
    · exact ref1_less_ok)
noncomputable def ref1_check_FH : FH := { join := [(15, { keep := [3, 4, 5] }), (13, { keep := [3, 4, 5] }), (11, { keep := [3, 4, 5, 12] }), (7, { keep := [2, 3, 4, 5, 11, 12] }), (3, { keep := [1, 2, 3, 4, 5, 11, 12] }), (2, { keep := [1, 2, 3, 4, 5, 11] })] }
theorem ref1_check_j15_s (a1 : Bool) (a2 : ByteArray) (a3 : Int) (a4 : Int) (a5 : ByteArray) : joinC Tryz.prog ref1_check_C ref1_check_FH [] [] 0 ((joinsAt 15 (codeOf Tryz.f153)).headD .skip) ref1_check_j15p ref1_check_j15x { keep := [10] } ((a1, a2, ()), (a3, a4, a5)) _ some = ref1_check_j15 ((a1, a2, ()), (a3, a4, a5)) := by kernel_rfl
theorem ref1_check_j15_t : ToldC Tryz.prog 0 (codeOf Tryz.f153) [] ((15, toldJ ref1_check_j15p ref1_check_j15x ref1_check_j15) :: []) :=
  ToldC.join ref1_check_FH 0 (ToldC.nil 0) ref1_check_Cok 15 ((joinsAt 15 (codeOf Tryz.f153)).headD .skip) (by kernel_rfl) (p := ref1_check_j15p) (px := ref1_check_j15x) (g := ref1_check_j15) (ho := { keep := [10] }) fun (x : ((Bool × ByteArray × Unit) × (Int × Int × ByteArray))) => ref1_check_j15_s x.1.1 x.1.2.1 x.2.1 x.2.2.1 x.2.2.2
theorem ref1_check_j13_s (a1 : Bool) (a2 : ByteArray) (a3 : Int) (a4 : Int) (a5 : ByteArray) : joinC Tryz.prog ref1_check_C ref1_check_FH [] ((15, toldJ ref1_check_j15p ref1_check_j15x ref1_check_j15) :: []) 0 ((joinsAt 13 (codeOf Tryz.f153)).headD .skip) ref1_check_j13p ref1_check_j13x { keep := [10] } ((a1, a2, ()), (a3, a4, a5)) _ some = ref1_check_j13 ((a1, a2, ()), (a3, a4, a5)) := by kernel_rfl
theorem ref1_check_j13_t : ToldC Tryz.prog 0 (codeOf Tryz.f153) [] ((13, toldJ ref1_check_j13p ref1_check_j13x ref1_check_j13) :: ((15, toldJ ref1_check_j15p ref1_check_j15x ref1_check_j15) :: [])) :=
  ToldC.join ref1_check_FH 0 ref1_check_j15_t ref1_check_Cok 13 ((joinsAt 13 (codeOf Tryz.f153)).headD .skip) (by kernel_rfl) (p := ref1_check_j13p) (px := ref1_check_j13x) (g := ref1_check_j13) (ho := { keep := [10] }) fun (x : ((Bool × ByteArray × Unit) × (Int × Int × ByteArray))) => ref1_check_j13_s x.1.1 x.1.2.1 x.2.1 x.2.2.1 x.2.2.2
theorem ref1_check_j11_s (a1 : Bool) (a2 : ByteArray) (a3 : Bool) (a4 : Int) (a5 : Int) (a6 : ByteArray) : joinC Tryz.prog ref1_check_C ref1_check_FH [] ((13, toldJ ref1_check_j13p ref1_check_j13x ref1_check_j13) :: ((15, toldJ ref1_check_j15p ref1_check_j15x ref1_check_j15) :: [])) 0 ((joinsAt 11 (codeOf Tryz.f153)).headD .skip) ref1_check_j11p ref1_check_j11x { keep := [10] } ((a1, a2, (), a3), (a4, a5, a6)) _ some = ref1_check_j11 ((a1, a2, (), a3), (a4, a5, a6)) := by kernel_rfl
theorem ref1_check_j11_t : ToldC Tryz.prog 0 (codeOf Tryz.f153) [] ((11, toldJ ref1_check_j11p ref1_check_j11x ref1_check_j11) :: ((13, toldJ ref1_check_j13p ref1_check_j13x ref1_check_j13) :: ((15, toldJ ref1_check_j15p ref1_check_j15x ref1_check_j15) :: []))) :=
  ToldC.join ref1_check_FH 0 ref1_check_j13_t ref1_check_Cok 11 ((joinsAt 11 (codeOf Tryz.f153)).headD .skip) (by kernel_rfl) (p := ref1_check_j11p) (px := ref1_check_j11x) (g := ref1_check_j11) (ho := { keep := [10] }) fun (x : ((Bool × ByteArray × Unit × Bool) × (Int × Int × ByteArray))) => ref1_check_j11_s x.1.1 x.1.2.1 x.1.2.2.2 x.2.1 x.2.2.1 x.2.2.2
theorem ref1_check_j7_s (a1 : Int) (a2 : Bool) (a3 : ByteArray) (a4 : Bool) (a5 : Bool) (a6 : Int) (a7 : Int) (a8 : ByteArray) : joinC Tryz.prog ref1_check_C ref1_check_FH [] ((11, toldJ ref1_check_j11p ref1_check_j11x ref1_check_j11) :: ((13, toldJ ref1_check_j13p ref1_check_j13x ref1_check_j13) :: ((15, toldJ ref1_check_j15p ref1_check_j15x ref1_check_j15) :: []))) 0 ((joinsAt 7 (codeOf Tryz.f153)).headD .skip) ref1_check_j7p ref1_check_j7x { keep := [10] } ((a1, a2, a3, (), a4, a5), (a6, a7, a8)) _ some = ref1_check_j7 ((a1, a2, a3, (), a4, a5), (a6, a7, a8)) := by kernel_rfl
theorem ref1_check_j7_t : ToldC Tryz.prog 0 (codeOf Tryz.f153) [] ((7, toldJ ref1_check_j7p ref1_check_j7x ref1_check_j7) :: ((11, toldJ ref1_check_j11p ref1_check_j11x ref1_check_j11) :: ((13, toldJ ref1_check_j13p ref1_check_j13x ref1_check_j13) :: ((15, toldJ ref1_check_j15p ref1_check_j15x ref1_check_j15) :: [])))) :=
  ToldC.join ref1_check_FH 0 ref1_check_j11_t ref1_check_Cok 7 ((joinsAt 7 (codeOf Tryz.f153)).headD .skip) (by kernel_rfl) (p := ref1_check_j7p) (px := ref1_check_j7x) (g := ref1_check_j7) (ho := { keep := [10] }) fun (x : ((Int × Bool × ByteArray × Unit × Bool × Bool) × (Int × Int × ByteArray))) => ref1_check_j7_s x.1.1 x.1.2.1 x.1.2.2.1 x.1.2.2.2.2.1 x.1.2.2.2.2.2 x.2.1 x.2.2.1 x.2.2.2
theorem ref1_check_j3_s (a1 : Int) (a2 : Int) (a3 : Bool) (a4 : ByteArray) (a5 : Bool) (a6 : Bool) (a7 : Int) (a8 : Int) (a9 : ByteArray) : joinC Tryz.prog ref1_check_C ref1_check_FH [] ((7, toldJ ref1_check_j7p ref1_check_j7x ref1_check_j7) :: ((11, toldJ ref1_check_j11p ref1_check_j11x ref1_check_j11) :: ((13, toldJ ref1_check_j13p ref1_check_j13x ref1_check_j13) :: ((15, toldJ ref1_check_j15p ref1_check_j15x ref1_check_j15) :: [])))) 0 ((joinsAt 3 (codeOf Tryz.f153)).headD .skip) ref1_check_j3p ref1_check_j3x { keep := [10] } ((a1, a2, a3, a4, (), a5, a6), (a7, a8, a9)) _ some = ref1_check_j3 ((a1, a2, a3, a4, (), a5, a6), (a7, a8, a9)) := by kernel_rfl
theorem ref1_check_j3_t : ToldC Tryz.prog 0 (codeOf Tryz.f153) [] ((3, toldJ ref1_check_j3p ref1_check_j3x ref1_check_j3) :: ((7, toldJ ref1_check_j7p ref1_check_j7x ref1_check_j7) :: ((11, toldJ ref1_check_j11p ref1_check_j11x ref1_check_j11) :: ((13, toldJ ref1_check_j13p ref1_check_j13x ref1_check_j13) :: ((15, toldJ ref1_check_j15p ref1_check_j15x ref1_check_j15) :: []))))) :=
  ToldC.join ref1_check_FH 0 ref1_check_j7_t ref1_check_Cok 3 ((joinsAt 3 (codeOf Tryz.f153)).headD .skip) (by kernel_rfl) (p := ref1_check_j3p) (px := ref1_check_j3x) (g := ref1_check_j3) (ho := { keep := [10] }) fun (x : ((Int × Int × Bool × ByteArray × Unit × Bool × Bool) × (Int × Int × ByteArray))) => ref1_check_j3_s x.1.1 x.1.2.1 x.1.2.2.1 x.1.2.2.2.1 x.1.2.2.2.2.2.1 x.1.2.2.2.2.2.2 x.2.1 x.2.2.1 x.2.2.2
theorem ref1_check_j2_s (a1 : Int) (a2 : Int) (a3 : Bool) (a4 : ByteArray) (a5 : Bool) (a6 : Int) (a7 : Int) (a8 : ByteArray) : joinC Tryz.prog ref1_check_C ref1_check_FH [] ((3, toldJ ref1_check_j3p ref1_check_j3x ref1_check_j3) :: ((7, toldJ ref1_check_j7p ref1_check_j7x ref1_check_j7) :: ((11, toldJ ref1_check_j11p ref1_check_j11x ref1_check_j11) :: ((13, toldJ ref1_check_j13p ref1_check_j13x ref1_check_j13) :: ((15, toldJ ref1_check_j15p ref1_check_j15x ref1_check_j15) :: []))))) 0 ((joinsAt 2 (codeOf Tryz.f153)).headD .skip) ref1_check_j2p ref1_check_j2x { keep := [10] } ((a1, a2, a3, a4, (), a5), (a6, a7, a8)) _ some = ref1_check_j2 ((a1, a2, a3, a4, (), a5), (a6, a7, a8)) := by kernel_rfl
theorem ref1_check_j2_t : ToldC Tryz.prog 0 (codeOf Tryz.f153) [] ((2, toldJ ref1_check_j2p ref1_check_j2x ref1_check_j2) :: ((3, toldJ ref1_check_j3p ref1_check_j3x ref1_check_j3) :: ((7, toldJ ref1_check_j7p ref1_check_j7x ref1_check_j7) :: ((11, toldJ ref1_check_j11p ref1_check_j11x ref1_check_j11) :: ((13, toldJ ref1_check_j13p ref1_check_j13x ref1_check_j13) :: ((15, toldJ ref1_check_j15p ref1_check_j15x ref1_check_j15) :: [])))))) :=
  ToldC.join ref1_check_FH 0 ref1_check_j3_t ref1_check_Cok 2 ((joinsAt 2 (codeOf Tryz.f153)).headD .skip) (by kernel_rfl) (p := ref1_check_j2p) (px := ref1_check_j2x) (g := ref1_check_j2) (ho := { keep := [10] }) fun (x : ((Int × Int × Bool × ByteArray × Unit × Bool) × (Int × Int × ByteArray))) => ref1_check_j2_s x.1.1 x.1.2.1 x.1.2.2.1 x.1.2.2.2.1 x.1.2.2.2.2.2 x.2.1 x.2.2.1 x.2.2.2
theorem ref1_check_b (a1 : Int) (a2 : Int) (a3 : ByteArray) (a4 : Int) (a5 : Int) (a6 : Bool) (a7 : ByteArray) : bodyC Tryz.prog ref1_check_C ref1_check_FH [] ((2, toldJ ref1_check_j2p ref1_check_j2x ref1_check_j2) :: ((3, toldJ ref1_check_j3p ref1_check_j3x ref1_check_j3) :: ((7, toldJ ref1_check_j7p ref1_check_j7x ref1_check_j7) :: ((11, toldJ ref1_check_j11p ref1_check_j11x ref1_check_j11) :: ((13, toldJ ref1_check_j13p ref1_check_j13x ref1_check_j13) :: ((15, toldJ ref1_check_j15p ref1_check_j15x ref1_check_j15) :: [])))))) { keep := [] } 153 ref1_check_P ref1_check_H ref1_check_R ref1_check_G ((a1, a2, a3), a4, a5, a6, a7) _ some = ref1_check a1 a2 a3 a4 a5 a6 a7 := by kernel_rfl
theorem ref1_check_ok : EntOK Tryz.prog 153 (ent ref1_check_P ref1_check_H ref1_check_R ref1_check_G (ref1_check_V (ref1_check))) :=
  ent_ok ref1_check_FH ref1_check_Cok (hp := ref1_check_H) (fn := Tryz.f153) (by kernel_rfl) ref1_check_j2_t fun (x : ((Int × Int × ByteArray) × Int × Int × Bool × ByteArray)) => ref1_check_b x.1.1 x.1.2.1 x.1.2.2 x.2.1 x.2.2.1 x.2.2.2.1 x.2.2.2.2

/-! ref1_walk: passkey/passkeyref1.walk -/
noncomputable def ref1_walk_l10p : SP := { n := 91, ix := [0, 2, 12, 14, 15, 16], p := (.cons (.sl 3) (.cons (.int .i64) (.cons (.ptr 0 0) (.cons (.int .i64) (.cons .str (.int .u64)))))), hp := [(.cells (.cons (.int .i64) (.cons (.int .u64) .str)))] }
noncomputable def ref1_walk_l10x : List (Ex × SP) := [(.ret, { n := 91, ix := [10, 11], p := (.cons (.int .i64) (.int .i64)) }), ((.exit 0), { n := 91, ix := [14], p := (.int .i64) })]
noncomputable def ref1_walk_P : Pt := (.cons (.sl 3) (.cons (.int .i64) (.cons (.int .i64) (.cons .bool .str))))
noncomputable def ref1_walk_H : List Po := []
noncomputable def ref1_walk_R : Pt := (.tup (.cons (.int .i64) (.int .i64)))
noncomputable def ref1_walk_G : List Po := []
noncomputable def ref1_walk_V (f : (List PD) → Int → Int → Bool → ByteArray → Option (Int × Int)) (x : (List PD × Int × Int × Bool × ByteArray)) : Option (Int × Int) := f x.1 x.2.1 x.2.2.1 x.2.2.2.1 x.2.2.2.2
noncomputable def ref1_walk_C (r_ref1_walk : (List PD) → Int → Int → Bool → ByteArray → Option (Int × Int)) : Cal := tbl [(153, (ent ref1_check_P ref1_check_H ref1_check_R ref1_check_G (ref1_check_V (ref1_check)))), (115, (ent ref1_walk_P ref1_walk_H ref1_walk_R ref1_walk_G (ref1_walk_V r_ref1_walk))), (77, (ent ref1_Bytes_P ref1_Bytes_H ref1_Bytes_R ref1_Bytes_G (ref1_Bytes_V (ref1_Bytes))))]
theorem ref1_walk_Cok (r_ref1_walk : (List PD) → Int → Int → Bool → ByteArray → Option (Int × Int)) (h_ref1_walk : EntOK Tryz.prog 115 (ent ref1_walk_P ref1_walk_H ref1_walk_R ref1_walk_G (ref1_walk_V r_ref1_walk))) : CalOK Tryz.prog (ref1_walk_C r_ref1_walk) ∧ CalNt (ref1_walk_C r_ref1_walk) := by
  unfold ref1_walk_C
  exact tbl_ok (by
    intro p hp
    simp only [List.mem_cons, List.not_mem_nil, or_false] at hp
    rcases hp with rfl | rfl | rfl
    · exact ref1_check_ok
    · exact h_ref1_walk
    · exact ref1_Bytes_ok)
noncomputable def ref1_walk_FH : FH := { loops := [(10, { keep := [0, 2, 12, 14, 15, 16] }, { keep := [10, 11, 14] })] }
theorem ref1_walk_l10_s (r_ref1_walk : (List PD) → Int → Int → Bool → ByteArray → Option (Int × Int)) (a1 : List PD) (a2 : Int) (a3 : Int) (a4 : ByteArray) (a5 : Int) (a6 : Int) (a7 : Int) (a8 : ByteArray) : stepC Tryz.prog (ref1_walk_C r_ref1_walk) ref1_walk_FH [] [] 0 ((loopsAt 10 (codeOf Tryz.f115)).headD .skip) ref1_walk_l10p ref1_walk_l10x { keep := [0, 2, 12, 14, 15, 16] } { keep := [10, 11, 14] } ((a1, a2, (), a3, a4, a5), (a6, a7, a8)) _ some = (ref1_walk_l10 r_ref1_walk) ((a1, a2, (), a3, a4, a5), (a6, a7, a8)) := by kernel_rfl
theorem ref1_walk_l10_t (r_ref1_walk : (List PD) → Int → Int → Bool → ByteArray → Option (Int × Int)) (h_ref1_walk : EntOK Tryz.prog 115 (ent ref1_walk_P ref1_walk_H ref1_walk_R ref1_walk_G (ref1_walk_V r_ref1_walk))) : ToldC Tryz.prog 0 (codeOf Tryz.f115) ((10, toldL ref1_walk_l10p ref1_walk_l10x (ref1_walk_l10 r_ref1_walk)) :: []) [] :=
  ToldC.loop ref1_walk_FH 0 (ToldC.nil 0) (ref1_walk_Cok r_ref1_walk h_ref1_walk) 10 ((loopsAt 10 (codeOf Tryz.f115)).headD .skip) (by kernel_rfl) (p := ref1_walk_l10p) (px := ref1_walk_l10x) (g := (ref1_walk_l10 r_ref1_walk)) (hi := { keep := [0, 2, 12, 14, 15, 16] }) (ho := { keep := [10, 11, 14] }) (by kernel_rfl) fun (x : ((List PD × Int × Unit × Int × ByteArray × Int) × (Int × Int × ByteArray))) => ref1_walk_l10_s r_ref1_walk x.1.1 x.1.2.1 x.1.2.2.2.1 x.1.2.2.2.2.1 x.1.2.2.2.2.2 x.2.1 x.2.2.1 x.2.2.2
theorem ref1_walk_b (r_ref1_walk : (List PD) → Int → Int → Bool → ByteArray → Option (Int × Int)) (a1 : List PD) (a2 : Int) (a3 : Int) (a4 : Bool) (a5 : ByteArray) : bodyC Tryz.prog (ref1_walk_C r_ref1_walk) ref1_walk_FH ((10, toldL ref1_walk_l10p ref1_walk_l10x (ref1_walk_l10 r_ref1_walk)) :: []) [] { keep := [] } 115 ref1_walk_P ref1_walk_H ref1_walk_R ref1_walk_G (a1, a2, a3, a4, a5) _ some = ref1_walk_F r_ref1_walk a1 a2 a3 a4 a5 := by kernel_rfl
theorem ref1_walk_Fok (r_ref1_walk : (List PD) → Int → Int → Bool → ByteArray → Option (Int × Int)) (h_ref1_walk : EntOK Tryz.prog 115 (ent ref1_walk_P ref1_walk_H ref1_walk_R ref1_walk_G (ref1_walk_V r_ref1_walk))) : EntOK Tryz.prog 115 (ent ref1_walk_P ref1_walk_H ref1_walk_R ref1_walk_G (ref1_walk_V (ref1_walk_F r_ref1_walk))) :=
  ent_ok ref1_walk_FH (ref1_walk_Cok r_ref1_walk h_ref1_walk) (hp := ref1_walk_H) (fn := Tryz.f115) (by kernel_rfl) (ref1_walk_l10_t r_ref1_walk h_ref1_walk) fun (x : (List PD × Int × Int × Bool × ByteArray)) => ref1_walk_b r_ref1_walk x.1 x.2.1 x.2.2.1 x.2.2.2.1 x.2.2.2.2
theorem ref1_walk_nok : ∀ n, EntOK Tryz.prog 115 (ent ref1_walk_P ref1_walk_H ref1_walk_R ref1_walk_G (ref1_walk_V (ref1_walk_n n)))
  | 0 => ent_of fun x y h => by cases h
  | n + 1 => ref1_walk_Fok (ref1_walk_n n) (ref1_walk_nok n)
theorem ref1_walk_ok : EntOK Tryz.prog 115 (ent ref1_walk_P ref1_walk_H ref1_walk_R ref1_walk_G (ref1_walk_V (ref1_walk))) := ref1_walk_nok 40

/-! ref1_Validate: passkey/passkeyref1.Validate -/
noncomputable def ref1_Validate_P : Pt := (.sl 3)
noncomputable def ref1_Validate_H : List Po := []
noncomputable def ref1_Validate_R : Pt := (.int .i64)
noncomputable def ref1_Validate_G : List Po := []
noncomputable def ref1_Validate_V (f : (List PD) → Option Int) (x : List PD) : Option Int := f x
noncomputable def ref1_Validate_C : Cal := tbl [(115, (ent ref1_walk_P ref1_walk_H ref1_walk_R ref1_walk_G (ref1_walk_V (ref1_walk))))]
theorem ref1_Validate_Cok : CalOK Tryz.prog ref1_Validate_C ∧ CalNt ref1_Validate_C := by
  unfold ref1_Validate_C
  exact tbl_ok (by
    intro p hp
    simp only [List.mem_cons, List.not_mem_nil, or_false] at hp
    rcases hp with rfl
    exact ref1_walk_ok)
noncomputable def ref1_Validate_FH : FH := {}
theorem ref1_Validate_b (a1 : List PD) : bodyC Tryz.prog ref1_Validate_C ref1_Validate_FH [] [] { keep := [] } 76 ref1_Validate_P ref1_Validate_H ref1_Validate_R ref1_Validate_G a1 _ some = ref1_Validate a1 := by kernel_rfl
theorem ref1_Validate_ok : EntOK Tryz.prog 76 (ent ref1_Validate_P ref1_Validate_H ref1_Validate_R ref1_Validate_G (ref1_Validate_V (ref1_Validate))) :=
  ent_ok ref1_Validate_FH ref1_Validate_Cok (hp := ref1_Validate_H) (fn := Tryz.f76) (by kernel_rfl) (ToldC.nil 0) fun (x : List PD) => ref1_Validate_b x

/-! ref1_Encode: passkey/passkeyref1.Encode -/
noncomputable def ref1_Encode_l6p : SP := { n := 26, ix := [0, 5, 6], p := (.cons (.sl 3) (.cons (.ref 0) (.int .i64))), hp := [(.arrN 1 5 .u8)] }
noncomputable def ref1_Encode_l6x : List (Ex × SP) := [((.exit 0), { n := 26, ix := [5], p := (.ref 0), hp := [(.arrN 1 5 .u8)] })]
noncomputable def ref1_Encode_P : Pt := (.sl 3)
noncomputable def ref1_Encode_H : List Po := []
noncomputable def ref1_Encode_R : Pt := (.tup (.cons (.ref 0) (.int .i64)))
noncomputable def ref1_Encode_G : List Po := [(.arrN 1 5 .u8)]
noncomputable def ref1_Encode_V (f : (List PD) → Option ((Unit × Int) × List Int)) (x : List PD) : Option ((Unit × Int) × List Int) := f x
noncomputable def ref1_Encode_C : Cal := tbl [(76, (ent ref1_Validate_P ref1_Validate_H ref1_Validate_R ref1_Validate_G (ref1_Validate_V (ref1_Validate)))), (77, (ent ref1_Bytes_P ref1_Bytes_H ref1_Bytes_R ref1_Bytes_G (ref1_Bytes_V (ref1_Bytes))))]
theorem ref1_Encode_Cok : CalOK Tryz.prog ref1_Encode_C ∧ CalNt ref1_Encode_C := by
  unfold ref1_Encode_C
  exact tbl_ok (by
    intro p hp
    simp only [List.mem_cons, List.not_mem_nil, or_false] at hp
    rcases hp with rfl | rfl
    · exact ref1_Validate_ok
    · exact ref1_Bytes_ok)
noncomputable def ref1_Encode_FH : FH := { loops := [(6, { keep := [0, 5, 6], own := [(5, 5)] }, { keep := [2, 3, 5] })] }
theorem ref1_Encode_l6_s (a1 : List PD) (a2 : Int) (a3 : List Int) : stepC Tryz.prog ref1_Encode_C ref1_Encode_FH [] [] 0 ((loopsAt 6 (codeOf Tryz.f48)).headD .skip) ref1_Encode_l6p ref1_Encode_l6x { keep := [0, 5, 6], own := [(5, 5)] } { keep := [2, 3, 5] } ((a1, (), a2), a3) _ some = ref1_Encode_l6 ((a1, (), a2), a3) := by kernel_rfl
theorem ref1_Encode_l6_t : ToldC Tryz.prog 0 (codeOf Tryz.f48) ((6, toldL ref1_Encode_l6p ref1_Encode_l6x ref1_Encode_l6) :: []) [] :=
  ToldC.loop ref1_Encode_FH 0 (ToldC.nil 0) ref1_Encode_Cok 6 ((loopsAt 6 (codeOf Tryz.f48)).headD .skip) (by kernel_rfl) (p := ref1_Encode_l6p) (px := ref1_Encode_l6x) (g := ref1_Encode_l6) (hi := { keep := [0, 5, 6], own := [(5, 5)] }) (ho := { keep := [2, 3, 5] }) (by kernel_rfl) fun (x : ((List PD × Unit × Int) × List Int)) => ref1_Encode_l6_s x.1.1 x.1.2.2 x.2
theorem ref1_Encode_b (a1 : List PD) : bodyC Tryz.prog ref1_Encode_C ref1_Encode_FH ((6, toldL ref1_Encode_l6p ref1_Encode_l6x ref1_Encode_l6) :: []) [] { keep := [], own := [(0, 5)] } 48 ref1_Encode_P ref1_Encode_H ref1_Encode_R ref1_Encode_G a1 _ some = ref1_Encode a1 := by kernel_rfl
theorem ref1_Encode_ok : EntOK Tryz.prog 48 (ent ref1_Encode_P ref1_Encode_H ref1_Encode_R ref1_Encode_G (ref1_Encode_V (ref1_Encode))) :=
  ent_ok ref1_Encode_FH ref1_Encode_Cok (hp := ref1_Encode_H) (fn := Tryz.f48) (by kernel_rfl) ref1_Encode_l6_t fun (x : List PD) => ref1_Encode_b x

/-! ref14_EncodeCredential: passkey/passkeyref14.EncodeCredential -/
noncomputable def ref14_EncodeCredential_l7p : SP := { n := 66, ix := [5, 6, 7], p := (.cons (.ref 0) (.cons (.ref 1) (.int .i64))), hp := [(.arrS 3 72 3), (.arrS 3 72 3)] }
noncomputable def ref14_EncodeCredential_l7x : List (Ex × SP) := [((.exit 0), { n := 66, ix := [6], p := (.ref 0), hp := [(.arrS 3 72 3)] })]
noncomputable def ref14_EncodeCredential_P : Pt := (.agg (.cons .str (.cons .str (.cons .str (.cons (.int .u64) (.cons (.int .i64) (.cons .bool (.cons (.int .i64) (.cons .bool .bool)))))))))
noncomputable def ref14_EncodeCredential_H : List Po := []
noncomputable def ref14_EncodeCredential_R : Pt := (.tup (.cons (.ref 0) (.int .i64)))
noncomputable def ref14_EncodeCredential_G : List Po := [(.arrN 1 5 .u8)]
noncomputable def ref14_EncodeCredential_V (f : ByteArray → ByteArray → ByteArray → Int → Int → Bool → Int → Bool → Bool → Option ((Unit × Int) × List Int)) (x : (ByteArray × ByteArray × ByteArray × Int × Int × Bool × Int × Bool × Bool)) : Option ((Unit × Int) × List Int) := f x.1 x.2.1 x.2.2.1 x.2.2.2.1 x.2.2.2.2.1 x.2.2.2.2.2.1 x.2.2.2.2.2.2.1 x.2.2.2.2.2.2.2.1 x.2.2.2.2.2.2.2.2
noncomputable def ref14_EncodeCredential_C : Cal := tbl [(16, (ent ref14_ValidateCredential_P ref14_ValidateCredential_H ref14_ValidateCredential_R ref14_ValidateCredential_G (ref14_ValidateCredential_V (ref14_ValidateCredential)))), (44, (ent ref14_text_P ref14_text_H ref14_text_R ref14_text_G (ref14_text_V (ref14_text)))), (45, (ent ref14_data_P ref14_data_H ref14_data_R ref14_data_G (ref14_data_V (ref14_data)))), (46, (ent ref14_number_P ref14_number_H ref14_number_R ref14_number_G (ref14_number_V (ref14_number)))), (47, (ent ref14_boolean_P ref14_boolean_H ref14_boolean_R ref14_boolean_G (ref14_boolean_V (ref14_boolean)))), (48, (ent ref1_Encode_P ref1_Encode_H ref1_Encode_R ref1_Encode_G (ref1_Encode_V (ref1_Encode))))]
theorem ref14_EncodeCredential_Cok : CalOK Tryz.prog ref14_EncodeCredential_C ∧ CalNt ref14_EncodeCredential_C := by
  unfold ref14_EncodeCredential_C
  exact tbl_ok (by
    intro p hp
    simp only [List.mem_cons, List.not_mem_nil, or_false] at hp
    rcases hp with rfl | rfl | rfl | rfl | rfl | rfl
    · exact ref14_ValidateCredential_ok
    · exact ref14_text_ok
    · exact ref14_data_ok
    · exact ref14_number_ok
    · exact ref14_boolean_ok
    · exact ref1_Encode_ok)
noncomputable def ref14_EncodeCredential_FH : FH := { loops := [(7, { keep := [5, 6, 7] }, { keep := [2, 3, 6] })], ops := [(10, [(1, .borrow)])], see := [(4, [(1, [0]), (2, []), (4, [0]), (5, []), (7, [0]), (8, []), (10, [0]), (11, []), (13, [0]), (14, []), (15, []), (17, [0]), (18, []), (20, [0]), (21, []), (22, []), (24, [0]), (25, []), (27, [0])]), (9, [(3, []), (4, []), (7, [0]), (8, [0])])] }
theorem ref14_EncodeCredential_l7_s (a1 : Int) (a2 : List PD) (a3 : List PD) : stepC Tryz.prog ref14_EncodeCredential_C ref14_EncodeCredential_FH [] [] 0 ((loopsAt 7 (codeOf Tryz.f14)).headD .skip) ref14_EncodeCredential_l7p ref14_EncodeCredential_l7x { keep := [5, 6, 7] } { keep := [2, 3, 6] } (((), (), a1), (a2, a3)) _ some = ref14_EncodeCredential_l7 (((), (), a1), (a2, a3)) := by kernel_rfl
theorem ref14_EncodeCredential_l7_t : ToldC Tryz.prog 0 (codeOf Tryz.f14) ((7, toldL ref14_EncodeCredential_l7p ref14_EncodeCredential_l7x ref14_EncodeCredential_l7) :: []) [] :=
  ToldC.loop ref14_EncodeCredential_FH 0 (ToldC.nil 0) ref14_EncodeCredential_Cok 7 ((loopsAt 7 (codeOf Tryz.f14)).headD .skip) (by kernel_rfl) (p := ref14_EncodeCredential_l7p) (px := ref14_EncodeCredential_l7x) (g := ref14_EncodeCredential_l7) (hi := { keep := [5, 6, 7] }) (ho := { keep := [2, 3, 6] }) (by kernel_rfl) fun (x : ((Unit × Unit × Int) × (List PD × List PD))) => ref14_EncodeCredential_l7_s x.1.2.2 x.2.1 x.2.2
theorem ref14_EncodeCredential_b (a1 : ByteArray) (a2 : ByteArray) (a3 : ByteArray) (a4 : Int) (a5 : Int) (a6 : Bool) (a7 : Int) (a8 : Bool) (a9 : Bool) : bodyC Tryz.prog ref14_EncodeCredential_C ref14_EncodeCredential_FH ((7, toldL ref14_EncodeCredential_l7p ref14_EncodeCredential_l7x ref14_EncodeCredential_l7) :: []) [] { keep := [], own := [(0, 5)] } 14 ref14_EncodeCredential_P ref14_EncodeCredential_H ref14_EncodeCredential_R ref14_EncodeCredential_G (a1, a2, a3, a4, a5, a6, a7, a8, a9) _ some = ref14_EncodeCredential a1 a2 a3 a4 a5 a6 a7 a8 a9 := by kernel_rfl
theorem ref14_EncodeCredential_ok : EntOK Tryz.prog 14 (ent ref14_EncodeCredential_P ref14_EncodeCredential_H ref14_EncodeCredential_R ref14_EncodeCredential_G (ref14_EncodeCredential_V (ref14_EncodeCredential))) :=
  ent_ok ref14_EncodeCredential_FH ref14_EncodeCredential_Cok (hp := ref14_EncodeCredential_H) (fn := Tryz.f14) (by kernel_rfl) ref14_EncodeCredential_l7_t fun (x : (ByteArray × ByteArray × ByteArray × Int × Int × Bool × Int × Bool × Bool)) => ref14_EncodeCredential_b x.1 x.2.1 x.2.2.1 x.2.2.2.1 x.2.2.2.2.1 x.2.2.2.2.2.1 x.2.2.2.2.2.2.1 x.2.2.2.2.2.2.2.1 x.2.2.2.2.2.2.2.2

/-! law15_CredentialValidates: passkey/passkeylaw15.CredentialValidates -/
noncomputable def law15_CredentialValidates_P : Pt := (.cons (.agg (.cons .str (.cons .str (.cons .str (.cons (.int .u64) (.cons (.int .i64) (.cons .bool (.cons (.int .i64) (.cons .bool .bool))))))))) (.cons (.int .i64) (.int .i64)))
noncomputable def law15_CredentialValidates_H : List Po := []
noncomputable def law15_CredentialValidates_R : Pt := .bool
noncomputable def law15_CredentialValidates_G : List Po := []
noncomputable def law15_CredentialValidates_V (f : ByteArray → ByteArray → ByteArray → Int → Int → Bool → Int → Bool → Bool → Int → Int → Option Bool) (x : ((ByteArray × ByteArray × ByteArray × Int × Int × Bool × Int × Bool × Bool) × Int × Int)) : Option Bool := f x.1.1 x.1.2.1 x.1.2.2.1 x.1.2.2.2.1 x.1.2.2.2.2.1 x.1.2.2.2.2.2.1 x.1.2.2.2.2.2.2.1 x.1.2.2.2.2.2.2.2.1 x.1.2.2.2.2.2.2.2.2 x.2.1 x.2.2
noncomputable def law15_CredentialValidates_C : Cal := tbl [(10, (ent law15_awake_P law15_awake_H law15_awake_R law15_awake_G (law15_awake_V (law15_awake)))), (12, (ent base_Credential_P base_Credential_H base_Credential_R base_Credential_G (base_Credential_V (base_Credential)))), (11, (ent law15_spoil_P law15_spoil_H law15_spoil_R law15_spoil_G (law15_spoil_V (law15_spoil)))), (13, (ent credential_Encode_P credential_Encode_H credential_Encode_R credential_Encode_G (credential_Encode_V (credential_Encode)))), (14, (ent ref14_EncodeCredential_P ref14_EncodeCredential_H ref14_EncodeCredential_R ref14_EncodeCredential_G (ref14_EncodeCredential_V (ref14_EncodeCredential)))), (15, (ent credential_Validate_P credential_Validate_H credential_Validate_R credential_Validate_G (credential_Validate_V (credential_Validate)))), (16, (ent ref14_ValidateCredential_P ref14_ValidateCredential_H ref14_ValidateCredential_R ref14_ValidateCredential_G (ref14_ValidateCredential_V (ref14_ValidateCredential))))]
theorem law15_CredentialValidates_Cok : CalOK Tryz.prog law15_CredentialValidates_C ∧ CalNt law15_CredentialValidates_C := by
  unfold law15_CredentialValidates_C
  exact tbl_ok (by
    intro p hp
    simp only [List.mem_cons, List.not_mem_nil, or_false] at hp
    rcases hp with rfl | rfl | rfl | rfl | rfl | rfl | rfl
    · exact law15_awake_ok
    · exact base_Credential_ok
    · exact law15_spoil_ok
    · exact credential_Encode_ok
    · exact ref14_EncodeCredential_ok
    · exact credential_Validate_ok
    · exact ref14_ValidateCredential_ok)
noncomputable def law15_CredentialValidates_FH : FH := { see := [(8, [(0, [0]), (1, []), (2, [0]), (6, [1]), (7, []), (8, [1]), (19, [2]), (21, [3]), (31, [4]), (33, [5])])] }
theorem law15_CredentialValidates_b (a1 : ByteArray) (a2 : ByteArray) (a3 : ByteArray) (a4 : Int) (a5 : Int) (a6 : Bool) (a7 : Int) (a8 : Bool) (a9 : Bool) (a10 : Int) (a11 : Int) : bodyC Tryz.prog law15_CredentialValidates_C law15_CredentialValidates_FH [] [] { keep := [] } 3 law15_CredentialValidates_P law15_CredentialValidates_H law15_CredentialValidates_R law15_CredentialValidates_G ((a1, a2, a3, a4, a5, a6, a7, a8, a9), a10, a11) _ some = law15_CredentialValidates a1 a2 a3 a4 a5 a6 a7 a8 a9 a10 a11 := by kernel_rfl
theorem law15_CredentialValidates_ok : EntOK Tryz.prog 3 (ent law15_CredentialValidates_P law15_CredentialValidates_H law15_CredentialValidates_R law15_CredentialValidates_G (law15_CredentialValidates_V (law15_CredentialValidates))) :=
  ent_ok law15_CredentialValidates_FH law15_CredentialValidates_Cok (hp := law15_CredentialValidates_H) (fn := Tryz.f3) (by kernel_rfl) (ToldC.nil 0) fun (x : ((ByteArray × ByteArray × ByteArray × Int × Int × Bool × Int × Bool × Bool) × Int × Int)) => law15_CredentialValidates_b x.1.1 x.1.2.1 x.1.2.2.1 x.1.2.2.2.1 x.1.2.2.2.2.1 x.1.2.2.2.2.2.1 x.1.2.2.2.2.2.2.1 x.1.2.2.2.2.2.2.2.1 x.1.2.2.2.2.2.2.2.2 x.2.1 x.2.2

/-! ref1_rotl: passkey/passkeyref1.rotl -/
noncomputable def ref1_rotl_P : Pt := (.cons (.int .u64) (.int .u64))
noncomputable def ref1_rotl_H : List Po := []
noncomputable def ref1_rotl_R : Pt := (.int .u64)
noncomputable def ref1_rotl_G : List Po := []
noncomputable def ref1_rotl_V (f : Int → Int → Option Int) (x : (Int × Int)) : Option Int := f x.1 x.2
noncomputable def ref1_rotl_C : Cal := tbl []
theorem ref1_rotl_Cok : CalOK Tryz.prog ref1_rotl_C ∧ CalNt ref1_rotl_C := by
  unfold ref1_rotl_C
  exact tbl_ok (by intro p hp; simp at hp)
noncomputable def ref1_rotl_FH : FH := {}
theorem ref1_rotl_b (a1 : Int) (a2 : Int) : bodyC Tryz.prog ref1_rotl_C ref1_rotl_FH [] [] { keep := [] } 154 ref1_rotl_P ref1_rotl_H ref1_rotl_R ref1_rotl_G (a1, a2) _ some = ref1_rotl a1 a2 := by kernel_rfl
theorem ref1_rotl_ok : EntOK Tryz.prog 154 (ent ref1_rotl_P ref1_rotl_H ref1_rotl_R ref1_rotl_G (ref1_rotl_V (ref1_rotl))) :=
  ent_ok ref1_rotl_FH ref1_rotl_Cok (hp := ref1_rotl_H) (fn := Tryz.f154) (by kernel_rfl) (ToldC.nil 0) fun (x : (Int × Int)) => ref1_rotl_b x.1 x.2
end Go.Proofs.YtijjelcejpikiaaGreatDoor
