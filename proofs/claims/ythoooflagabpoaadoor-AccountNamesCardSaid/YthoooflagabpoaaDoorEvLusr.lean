/-
The user handle: sixteen hexadecimal digits, in the program and in the reference.
-/
import Derived.Test.YthoooflagabpoaaDoorEvLall
set_option linter.unusedVariables false
set_option linter.unusedSimpArgs false
set_option maxRecDepth 20000
namespace Go.Px
open Go Go.Ev
/-- A digit's byte. -/
def dig (n : Nat) : Int := if n < 10 then 48 + n else 87 + n
theorem dig_byt (n : Nat) (h : n < 16) : 0 ≤ dig n ∧ dig n ≤ 255 := by unfold dig; split <;> omega
/-- The lowest digits, the highest one first. -/
def hexR : Nat → Nat → List Int
  | 0, _ => []
  | j + 1, u => hexR j (u / 16) ++ [dig (u % 16)]
theorem hexR_len : ∀ j u, (hexR j u).length = j
  | 0, _ => rfl
  | j + 1, u => by rw [hexR, List.length_append, hexR_len]; rfl
theorem hexR_byt : ∀ j u, Byt (hexR j u)
  | 0, _ => Byt.nil
  | j + 1, u => (hexR_byt j _).append (Byt.cons (dig_byt _ (by omega)).1 (dig_byt _ (by omega)).2 Byt.nil)
theorem hexR_add (a : Nat) : ∀ b u, hexR (a + b) u = hexR a (u / 16 ^ b) ++ hexR b u
  | 0, u => by simp [hexR]
  | b + 1, u => by
    rw [← Nat.add_assoc, hexR, hexR_add a b, hexR, ← List.append_assoc, Nat.div_div_eq_div_mul, Nat.pow_succ, Nat.mul_comm 16]
theorem hexR_zero : ∀ a, hexR a 0 = List.replicate a 48
  | 0 => rfl
  | a + 1 => by
    rw [hexR, show 0 / 16 = 0 from rfl, hexR_zero a, List.replicate_succ']
    rfl
theorem and15 (n : Nat) (hn : n < 2 ^ 64) : bitsI .and .u64 (n : Int) 15 = ((n % 16 : Nat) : Int) := by
  rw [bitsI_eq]
  show IntKind.u64.wrap (((BitVec.ofInt 64 (n : Int) &&& BitVec.ofInt 64 ((15 : Nat) : Int)).toNat : Nat) : Int) = _
  rw [ofInt_nat', ofInt_nat', BitVec.toNat_and, BitVec.toNat_ofNat, BitVec.toNat_ofNat, Nat.mod_eq_of_lt hn, show 15 % 2 ^ 64 = 2 ^ 4 - 1 by decide, Nat.and_two_pow_sub_one_eq_mod, wrapU64 (by omega) (by omega)]
theorem shr_nat' (u l : Nat) (hl : l ≤ 64) : shrI .u64 (u : Int) (l : Int) = ((u / 2 ^ l : Nat) : Int) := by
  unfold shrI
  have e : min (Int.toNat (l : Int)) IntKind.u64.bits = l := by show min l 64 = l; omega
  rw [e, Int.fdiv_eq_ediv_of_nonneg _ (by have : (0 : Int) ≤ ((2 ^ l : Nat) : Int) := Int.natCast_nonneg _; simpa using this)]
  simp
theorem digs_at (n : Nat) (h : n < 16) : strI (bs [48, 49, 50, 51, 52, 53, 54, 55, 56, 57, 97, 98, 99, 100, 101, 102, 103, 104, 105, 106, 107, 108, 109, 110, 111, 112, 113, 114, 115, 116, 117, 118, 119, 120, 121, 122]) (n : Int) = some (dig n) := by
  have : n = 0 ∨ n = 1 ∨ n = 2 ∨ n = 3 ∨ n = 4 ∨ n = 5 ∨ n = 6 ∨ n = 7 ∨ n = 8 ∨ n = 9 ∨ n = 10 ∨ n = 11 ∨ n = 12 ∨ n = 13 ∨ n = 14 ∨ n = 15 := by omega
  rcases this with rfl | rfl | rfl | rfl | rfl | rfl | rfl | rfl | rfl | rfl | rfl | rfl | rfl | rfl | rfl | rfl <;> decide +kernel
theorem digs_ext (n : Nat) (h : n < 16) : ByteArray.extract (bs [48, 49, 50, 51, 52, 53, 54, 55, 56, 57, 97, 98, 99, 100, 101, 102]) n (n + 1) = strOf [dig n] := by
  have : n = 0 ∨ n = 1 ∨ n = 2 ∨ n = 3 ∨ n = 4 ∨ n = 5 ∨ n = 6 ∨ n = 7 ∨ n = 8 ∨ n = 9 ∨ n = 10 ∨ n = 11 ∨ n = 12 ∨ n = 13 ∨ n = 14 ∨ n = 15 := by omega
  rcases this with rfl | rfl | rfl | rfl | rfl | rfl | rfl | rfl | rfl | rfl | rfl | rfl | rfl | rfl | rfl | rfl <;> decide +kernel
theorem strOf_append (a b : List Int) : strOf a ++ strOf b = strOf (a ++ b) := by
  unfold strOf
  apply ByteArray.ext
  show (_ : Array UInt8) = _
  rw [ByteArray.data_append]
  apply Array.ext'
  simp
/-! ### The reference -/
theorem userr_loop (m : Nat) (hm : m < 2 ^ 64) : ∀ j : Nat, j ≤ 16 → loopFix ref29_User_l4 ((m : Int), strOf (hexR (16 - j) (m / 16 ^ j)), 4 * (j : Int) - 4) = some (strOf (hexR 16 m)) := by
  intro j
  induction j with
  | zero =>
    intro _
    refine loopFix_inr ?_
    unfold ref29_User_l4
    dsimp only
    rw [condF' (by simp)]
    simp
  | succ j ih =>
    intro hj
    rw [← ih (by omega)]
    refine loopFix_inl ?_
    unfold ref29_User_l4
    dsimp only
    have ej : 4 * ((j + 1 : Nat) : Int) - 4 = ((4 * j : Nat) : Int) := by omega
    have hlt : m / 2 ^ (4 * j) < 2 ^ 64 := Nat.lt_of_le_of_lt (Nat.div_le_self _ _) hm
    have hp : 16 ^ j = 2 ^ (4 * j) := by rw [Nat.pow_mul]
    obtain ⟨d, hd⟩ : ∃ d, d = m / 2 ^ (4 * j) % 16 := ⟨_, rfl⟩
    have hd16 : d < 16 := by omega
    rw [ej, condT' (by simp; omega), wrapU64 (n := ((4 * j : Nat) : Int)) (by omega) (by omega), condT' (by simp; omega), shr_nat' _ _ (by omega), and15 _ hlt, ← hd, Option.bind_some, wrapU64 (n := ((d : Nat) : Int) + 1) (by omega) (by omega),
      condT' (okBounds_true (by omega) (by omega) (by omega)), Int.toNat_natCast, show Int.toNat ((d : Int) + 1) = d + 1 by omega, digs_ext d hd16, Option.bind_some, condT' (by rw [strOf_size, strOf_size, hexR_len]; simp; omega), strOf_append, wrap64 (by omega) (by omega)]
    have e : hexR (16 - j) (m / 16 ^ j) = hexR (16 - (j + 1)) (m / 16 ^ (j + 1)) ++ [dig d] := by
      rw [show 16 - j = (16 - (j + 1)) + 1 by omega, hexR, Nat.div_div_eq_div_mul, Nat.pow_succ, hp, ← hd]
    rw [e]
    congr 4
theorem userr (secret : Int) (name : ByteArray) (hn : name.size ≤ 1000000) (m : Nat) (hm : m < 2 ^ 64) (he : mac secret 19 (bytesOf name) = (m : Int)) : ref29_User secret name = some (strOf (hexR 16 m)) := by
  unfold ref29_User
  rw [condT' (by simp; omega), macr _ _ _ (Byt.bytesOf _) (by rw [bytesOf_length]; omega), Option.bind_some, he]
  have h := userr_loop m hm 16 (by omega)
  have hz : strOf (hexR (16 - 16) (m / 16 ^ 16)) = bs [] := rfl
  rw [hz] at h
  have h' : loopFix ref29_User_l4 ((m : Int), bs [], 60) = _ := h
  rw [h']
  rfl
/-! ### The program -/
/-- An array of 65 whose end is D. -/
def EndIs (a : List Int) (i : Nat) (D : List Int) : Prop := a.length = 65 ∧ i + D.length = 65 ∧ a.drop i = D
theorem EndIs.set {a D : List Int} {i : Nat} (h : EndIs a (i + 1) D) (x : Int) : EndIs (a.set i x) i (x :: D) := by
  obtain ⟨h1, h2, h3⟩ := h
  refine ⟨by simpa using h1, by simp; omega, ?_⟩
  rw [List.drop_eq_getElem_cons (by simp; omega), List.getElem_set_self, List.drop_set_of_lt (by omega), h3]
theorem usedc_step (m : Nat) (hm : m < 2 ^ 64) (x0 : List Int) (b1 b2 : Bool) (x1 : List Int) (x2 : ByteArray) (j : Nat) (a : List Int) (hj : j < 15) (h16 : 16 ≤ m / 16 ^ j) (h3 : EndIs a (65 - j) (hexR j m)) :
    ∃ a', EndIs a' (65 - (j + 1)) (hexR (j + 1) m) ∧ strconv_formatBits_l11 ((x0, ((m / 16 ^ j : Nat) : Int), b1, b2, x1, x2, (), ((65 - j : Nat) : Int), 4, 16, 15), a) = some (.inl ((x0, ((m / 16 ^ (j + 1) : Nat) : Int), b1, b2, x1, x2, (), ((65 - (j + 1) : Nat) : Int), 4, 16, 15), a')) := by
  obtain ⟨q, hq⟩ : ∃ q, q = 65 - (j + 1) := ⟨_, rfl⟩
  have hq2 : 65 - j = q + 1 := by omega
  rw [hq2] at h3
  have hlt : m / 16 ^ j < 2 ^ 64 := Nat.lt_of_le_of_lt (Nat.div_le_self _ _) hm
  have hx : hexR (j + 1) m = dig (m / 16 ^ j % 16) :: hexR j m := by
    rw [Nat.add_comm j 1, hexR_add 1 j m]
    rfl
  refine ⟨a.set q (dig (m / 16 ^ j % 16)), ?_, ?_⟩
  · rw [← hq, hx]
    exact h3.set _
  · rw [← hq, hq2]
    unfold strconv_formatBits_l11
    dsimp only
    have hw : IntKind.i64.wrap (((q + 1 : Nat) : Int) - 1) = (q : Int) := by rw [wrap64 (by omega) (by omega)]; omega
    have hs : shrI .u64 ((m / 16 ^ j : Nat) : Int) 4 = ((m / 16 ^ (j + 1) : Nat) : Int) := by
      have := shr_nat' (m / 16 ^ j) 4 (by omega)
      rw [Nat.div_div_eq_div_mul, ← Nat.pow_succ] at this
      exact this
    rw [condT' (decide_eq_true (show ((m / 16 ^ j : Nat) : Int) ≥ 16 from Int.ofNat_le.2 h16)), and15 _ hlt, digs_at _ (by omega), Option.bind_some, hw, condT' (inRange_true (by omega) (by omega)), condT' (by simp; omega), Option.bind_some, condT' (by rfl), hs]
    rfl
theorem usedc_loop (m : Nat) (hm : m < 2 ^ 64) (x0 : List Int) (b1 b2 : Bool) (x1 : List Int) (x2 : ByteArray) : ∀ (n j : Nat) (a : List Int), j + n = 15 → EndIs a (65 - j) (hexR j m) →
    ∃ (k : Nat) (a' : List Int), k < 16 ∧ m / 16 ^ k < 16 ∧ EndIs a' (65 - k) (hexR k m) ∧ loopFix strconv_formatBits_l11 ((x0, ((m / 16 ^ j : Nat) : Int), b1, b2, x1, x2, (), ((65 - j : Nat) : Int), 4, 16, 15), a) = some ((x0, ((m / 16 ^ k : Nat) : Int), b1, b2, x1, x2, (), ((65 - k : Nat) : Int)), a') := by
  have stop : ∀ (j : Nat) (a : List Int), m / 16 ^ j < 16 → strconv_formatBits_l11 ((x0, ((m / 16 ^ j : Nat) : Int), b1, b2, x1, x2, (), ((65 - j : Nat) : Int), 4, 16, 15), a) = some (.inr ((x0, ((m / 16 ^ j : Nat) : Int), b1, b2, x1, x2, (), ((65 - j : Nat) : Int)), a)) := fun j a h => by
    unfold strconv_formatBits_l11
    dsimp only
    rw [condF' (decide_eq_false (show ¬ ((m / 16 ^ j : Nat) : Int) ≥ 16 from fun h' => by have := Int.ofNat_le.1 h'; omega))]
  intro n
  induction n with
  | zero =>
    intro j a h1 h3
    obtain rfl : j = 15 := by omega
    have h : m / 16 ^ 15 < 16 := by omega
    exact ⟨15, a, by omega, h, h3, loopFix_inr (stop 15 a h)⟩
  | succ n ih =>
    intro j a h1 h3
    by_cases h : m / 16 ^ j < 16
    · exact ⟨j, a, by omega, h, h3, loopFix_inr (stop j a h)⟩
    · obtain ⟨a', h4, h5⟩ := usedc_step m hm x0 b1 b2 x1 x2 j a (by omega) (by omega) h3
      obtain ⟨k, a'', g1, g2, g3, g4⟩ := ih (j + 1) a' (by omega) h4
      exact ⟨k, a'', g1, g2, g3, by rw [loopFix_inl h5]; exact g4⟩
theorem trail16 : bits_TrailingZeros 16 = some 4 := by
  unfold bits_TrailingZeros bits_TrailingZeros64
  rw [tabBruijn64_eq]
  kernel_rfl
theorem formatc (m : Nat) (hm : m < 2 ^ 64) : ∃ k, k < 16 ∧ m / 16 ^ (k + 1) = 0 ∧ strconv_FormatUint (m : Int) 16 = some (strOf (hexR (k + 1) m)) := by
  obtain ⟨k, a', h1, h2, h3, h4⟩ := usedc_loop m hm [] false false [] (bs []) 15 0 (List.replicate 65 0) rfl ⟨by simp, by simp [hexR], by simp [hexR]⟩
  have h4' : loopFix strconv_formatBits_l11 (([], (m : Int), false, false, [], bs [], (), 65, 4, 16, 15), List.replicate 65 0) = some (([], ((m / 16 ^ k : Nat) : Int), false, false, [], bs [], (), ((65 - k : Nat) : Int)), a') := by
    have := h4
    simp only [Nat.pow_zero, Nat.div_one, Nat.sub_zero] at this
    exact this
  refine ⟨k, h1, by rw [Nat.pow_succ, ← Nat.div_div_eq_div_mul]; exact Nat.div_eq_of_lt h2, ?_⟩
  obtain ⟨q, hq⟩ : ∃ q, 65 - k = q + 1 := ⟨64 - k, by omega⟩
  rw [hq] at h3 h4'
  have hx : hexR (k + 1) m = dig (m / 16 ^ k) :: hexR k m := by
    rw [Nat.add_comm k 1, hexR_add 1 k m]
    show [dig (m / 16 ^ k % 16)] ++ _ = _
    rw [Nat.mod_eq_of_lt h2]
    rfl
  obtain ⟨g1, g2, g3⟩ := h3.set (dig (m / 16 ^ k))
  have hw : IntKind.i64.wrap (((q + 1 : Nat) : Int) - 1) = (q : Int) := by rw [wrap64 (by omega) (by omega)]; omega
  have j28 : strconv_formatBits_j28 (([], false, [], bs [], (), (q : Int)), a'.set q (dig (m / 16 ^ k))) = some ([], strOf (hexR (k + 1) m)) := by
    unfold strconv_formatBits_j28
    dsimp only
    rw [cond_false, condT' (okBounds_true (by omega) (by omega) (by omega)), List.take_of_length_le (by omega), Int.toNat_natCast, g3, hx]
    rfl
  have j25 : strconv_formatBits_j25 (([], false, false, [], bs [], (), (q : Int)), a'.set q (dig (m / 16 ^ k))) = some ([], strOf (hexR (k + 1) m)) := by
    unfold strconv_formatBits_j25
    dsimp only
    rw [cond_false, j28]
    rfl
  have j7 : strconv_formatBits_j7 (([], (m : Int), 16, false, false, [], bs [], (), 65), List.replicate 65 0) = some ([], strOf (hexR (k + 1) m)) := by
    unfold strconv_formatBits_j7
    dsimp only
    rw [show strconv_isPowerOfTwo 16 = some true by kernel_rfl, Option.bind_some, cond_true, show IntKind.u64.wrap 16 = 16 from rfl, trail16, Option.bind_some, Option.bind_some, show IntKind.u64.wrap (16 - 1) = 15 from rfl, show IntKind.u64.wrap 4 = 4 from rfl, h4', Option.bind_some]
    dsimp only
    rw [hw, Option.bind_some, digs_at _ h2, Option.bind_some, condT' (inRange_true (by omega) (by omega)), condT' (by simp; omega), Int.toNat_natCast, j25]
    rfl
  unfold strconv_FormatUint strconv_FormatUintx strconv_formatBits
  rw [condF' (by rfl), condF' (by rfl), condF' (by rfl), condF' (by rfl)]
  have j3 : strconv_formatBits_j3 ([], (m : Int), 16, false, false, [], bs []) = some ([], strOf (hexR (k + 1) m)) := by
    unfold strconv_formatBits_j3
    dsimp only
    rw [cond_false, j7]
    rfl
  rw [j3]
  rfl
theorem repeatz (n : Nat) (h : n ≤ 100) : strings_Repeat (bs [48]) (n : Int) = some (strOf (List.replicate n 48)) := by
  unfold strings_Repeat
  have hs : (bs [48]).size = 1 := rfl
  rw [condT' (by rw [hs]; simp; omega)]
  have e : ∀ c : Nat, Lib.repeatL [48] c = (List.replicate c (48 : Int)).map fun n => UInt8.ofNat n.toNat := by
    intro c
    induction c with
    | zero => rfl
    | succ c ih => rw [Lib.repeatL, ih, List.replicate_succ]; rfl
  have e2 : (bs [48]).data.toList = [48] := rfl
  rw [e2, Int.toNat_natCast, e]
  rfl
theorem userc (secret : Int) (name : ByteArray) (hn : name.size ≤ 1000000) (m : Nat) (hm : m < 2 ^ 64) (he : mac secret 19 (bytesOf name) = (m : Int)) : account_User secret name = some (strOf (hexR 16 m)) := by
  unfold account_User
  obtain ⟨k, h1, h2, h3⟩ := formatc m hm
  rw [condT' (by simp; omega), macc _ _ _ (Byt.bytesOf _) (by rw [bytesOf_length]; simp [maxLen]; omega), Option.bind_some, he, h3, Option.bind_some, strOf_size, hexR_len, wrap64 (by omega) (by omega), Option.bind_some,
    show (16 : Int) - ((k + 1 : Nat) : Int) = ((15 - k : Nat) : Int) by omega, repeatz _ (by omega), Option.bind_some, condT' (by rw [strOf_size, List.length_replicate]; simp; omega), strOf_append]
  have := hexR_add (15 - k) (k + 1) m
  rw [show 15 - k + (k + 1) = 16 by omega, h2, hexR_zero] at this
  rw [this]
end Go.Px
