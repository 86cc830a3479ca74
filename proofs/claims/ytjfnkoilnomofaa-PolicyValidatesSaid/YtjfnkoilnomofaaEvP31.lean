/-
Policies: what the functions tell.
-/
import Derived.Test.YtjfnkoilnomofaaEvG31
set_option linter.unusedVariables false
set_option linter.unusedSimpArgs false
namespace Go.Proofs.Ytjfnkoilnomofaa
open Go Go.Ev
/-- Each is larger than the one before it: 0, else 7. -/
def up7 : Int → List Int → Int
  | _, [] => 0
  | p, x :: xs => if x ≤ p then 7 else up7 x xs
def inOrder : List Int → Int
  | [] => 0
  | x :: xs => up7 x xs
theorem up7_or (p : Int) (xs : List Int) : up7 p xs = 7 ∨ up7 p xs = 0 := by
  induction xs generalizing p with
  | nil => exact .inr rfl
  | cons x xs ih =>
    unfold up7
    split
    · exact .inl rfl
    · exact ih x
theorem inOrder_or (xs : List Int) : inOrder xs = 7 ∨ inOrder xs = 0 := by
  cases xs with
  | nil => exact .inr rfl
  | cons x xs => exact up7_or x xs
/-- A loop that looks whether a list is in order. -/
theorem loop_up7 {σ ρ : Type} (step : σ → Option (σ ⊕ ρ)) (S : Int → σ) (e7 e0 : ρ) (xs : List Int) (hl : xs.length ≤ 1000000)
    (h : ∀ i : Int, step (S i) = cond (decide (i < ((xs.length : Nat) : Int))) (
      Option.bind (getI xs i) fun y0 => Option.bind (getI xs (IntKind.i64.wrap (i - 1))) fun y1 => cond (decide (y0 ≤ y1)) (some (.inr e7)) (some (.inl (S (IntKind.i64.wrap (i + 1)))))) (
      some (.inr e0))) : loopFix step (S 1) = some (if inOrder xs = 7 then e7 else e0) := by
  have key : ∀ (n i : Nat) (p : Int) (rest : List Int), xs.length - (i + 1) = n → xs.drop i = p :: rest → loopFix step (S ((i : Int) + 1)) = some (if up7 p rest = 7 then e7 else e0) := by
    intro n
    induction n with
    | zero =>
      intro i p rest hn hd
      have hlen := congrArg List.length hd
      simp at hlen
      have hr : rest = [] := List.eq_nil_of_length_eq_zero (by omega)
      have hst := h ((i : Int) + 1)
      rw [Bool.cond_eq_ite, if_neg (by simp; omega)] at hst
      rw [loopFix_inr hst, hr]
      rfl
    | succ n ih =>
      intro i p rest hn hd
      have hlen := congrArg List.length hd
      simp at hlen
      cases rest with
      | nil => simp at hlen; omega
      | cons x r =>
        have hi : i < xs.length := by omega
        have hi1 : i + 1 < xs.length := by simp at hlen; omega
        have hp : xs[i] = p := by
          have := congrArg (·[0]?) hd
          simpa [hi] using this
        have hx : xs[i + 1] = x := by
          have := congrArg (·[1]?) hd
          simpa [hi1] using this
        have hd' : xs.drop (i + 1) = x :: r := by
          have := congrArg List.tail hd
          simpa using this
        have hst := h ((i : Int) + 1)
        have g1 : getI xs ((i : Int) + 1) = some x := by rw [show ((i : Int) + 1) = ((i + 1 : Nat) : Int) by omega, getI_lt xs _ hi1, hx]
        have g0 : getI xs (IntKind.i64.wrap ((i : Int) + 1 - 1)) = some p := by rw [wrap64 (by omega) (by omega), show ((i : Int) + 1 - 1) = ((i : Nat) : Int) by omega, getI_lt xs _ hi, hp]
        rw [Bool.cond_eq_ite, if_pos (by simp; omega), g1, Option.bind_some, g0, Option.bind_some, Bool.cond_eq_ite] at hst
        by_cases hle : x ≤ p
        · rw [if_pos (by simpa using hle)] at hst
          rw [loopFix_inr hst, up7, if_pos hle, if_pos rfl]
        · rw [if_neg (by simpa using hle), wrap64 (by omega) (by omega)] at hst
          rw [loopFix_inl hst, show ((i : Int) + 1 + 1) = ((i + 1 : Nat) : Int) + 1 by omega, ih (i + 1) x r (by omega) hd', up7, if_neg hle]
  cases xs with
  | nil =>
    have hst := h 1
    rw [Bool.cond_eq_ite, if_neg (by simp)] at hst
    rw [loopFix_inr hst]
    rfl
  | cons x r => exact key _ 0 x r rfl rfl
/-- What Validate tells. -/
def valid (a1 a3 a4 a6 : Int) (a8 : List Int) (a9 : Int) : Int :=
  if a1 < 0 ∨ a1 > 2 ∨ a3 < 1 ∨ a3 > 4 ∨ a4 < 1 ∨ a4 > 3 ∨ a6 < 0 ∨ a6 > 2 ∨ a9 < 1 ∨ a9 > 1099511627776 then 9 else if a8.length > 16 then 8 else inOrder a8
theorem if_or2 {A : Type} {p q : Prop} [Decidable p] [Decidable q] (x y : A) : (if p then x else if q then x else y) = if p ∨ q then x else y := by
  by_cases hp : p <;> by_cases hq : q <;> simp [hp, hq]
theorem ord_loop (xs : List Int) (e : Int) : (if inOrder xs = 7 then (Sum.inl 7 : Int ⊕ Unit) else .inr ()) = .inl 7 ∧ inOrder xs = 7 ∨ (if inOrder xs = 7 then (Sum.inl 7 : Int ⊕ Unit) else .inr ()) = .inr () ∧ inOrder xs = 0 := by
  rcases inOrder_or xs with h | h
  · exact .inl ⟨by rw [if_pos h], h⟩
  · exact .inr ⟨by rw [if_neg (by rw [h]; decide)], h⟩
theorem f11_val (a1 : Int) (a2 : Bool) (a3 a4 : Int) (a5 : Bool) (a6 : Int) (a7 : Bool) (a8 : List Int) (a9 : Int) : f11 a1 a2 a3 a4 a5 a6 a7 a8 a9 = some (valid a1 a3 a4 a6 a8 a9) := by
  unfold f11 valid
  simp only [Bool.cond_decide, if_or2]
  by_cases h : a1 < 0 ∨ a1 > 2 ∨ a3 < 1 ∨ a3 > 4 ∨ a4 < 1 ∨ a4 > 3 ∨ a6 < 0 ∨ a6 > 2 ∨ a9 < 1 ∨ a9 > 1099511627776
  · rw [if_pos h, if_pos h]
  · rw [if_neg h, if_neg h]
    by_cases hl : a8.length > 16
    · rw [if_pos (by omega), if_pos hl]
    · rw [if_neg (by omega), if_neg hl]
      unfold f11j9
      dsimp only
      rw [loop_up7 f11l10 (fun i => (((), i), (a1, a2, a3, a4, a5, a6, a7, a8, a9))) (.inl 7) (.inr ()) a8 (by omega) fun i => rfl, Option.bind_some]
      rcases ord_loop a8 0 with ⟨h1, h2⟩ | ⟨h1, h2⟩ <;> rw [h1, h2] <;> rfl
theorem f19_val (a b c : Int) : f19 a b c = some (decide (b ≤ a ∧ a ≤ c)) := by
  unfold f19
  by_cases h : a ≥ b
  · simp [h]
  · simp [h]
theorem f12_val (a1 : Int) (a2 : Bool) (a3 a4 : Int) (a5 : Bool) (a6 : Int) (a7 : Bool) (a8 : List Int) (a9 : Int) : f12 a1 a2 a3 a4 a5 a6 a7 a8 a9 = some (valid a1 a3 a4 a6 a8 a9) := by
  unfold f12 valid
  simp only [f19_val, Option.bind_some]
  by_cases h : a1 < 0 ∨ a1 > 2 ∨ a3 < 1 ∨ a3 > 4 ∨ a4 < 1 ∨ a4 > 3 ∨ a6 < 0 ∨ a6 > 2 ∨ a9 < 1 ∨ a9 > 1099511627776
  · rw [if_pos h]
    by_cases h1 : 0 ≤ a1 ∧ a1 ≤ 2
    · by_cases h2 : 1 ≤ a3 ∧ a3 ≤ 4
      · by_cases h3 : 1 ≤ a4 ∧ a4 ≤ 3
        · by_cases h4 : 0 ≤ a6 ∧ a6 ≤ 2
          · have h5 : ¬ (1 ≤ a9 ∧ a9 ≤ 1099511627776) := by omega
            simp only [h1, h2, h3, h4, h5, decide_true, decide_false, Bool.not_true, Bool.not_false, cond_true, cond_false, and_self]
          · simp only [h1, h2, h3, h4, decide_true, decide_false, Bool.not_true, Bool.not_false, cond_true, cond_false, and_self]
        · simp only [h1, h2, h3, decide_true, decide_false, Bool.not_true, Bool.not_false, cond_true, cond_false, and_self]
      · simp only [h1, h2, decide_true, decide_false, Bool.not_true, Bool.not_false, cond_true, cond_false, and_self]
    · simp only [h1, decide_false, Bool.not_false, cond_true]
  · rw [if_neg h]
    have h1 : 0 ≤ a1 ∧ a1 ≤ 2 := by omega
    have h2 : 1 ≤ a3 ∧ a3 ≤ 4 := by omega
    have h3 : 1 ≤ a4 ∧ a4 ≤ 3 := by omega
    have h4 : 0 ≤ a6 ∧ a6 ≤ 2 := by omega
    have h5 : 1 ≤ a9 ∧ a9 ≤ 1099511627776 := by omega
    simp only [h1, h2, h3, h4, h5, decide_true, Bool.not_true, cond_false, and_self]
    unfold f12j3
    dsimp only
    by_cases hl : a8.length > 16
    · rw [Bool.cond_decide, if_pos (by omega), if_pos hl]; rfl
    · rw [Bool.cond_decide, if_neg (by omega), if_neg hl]
      rw [loop_up7 f12l6 (fun i => (((), i), (a1, a2, a3, a4, a5, a6, a7, a8, a9))) (.inl 7) (.inr ()) a8 (by omega) fun i => rfl, Option.bind_some]
      rcases ord_loop a8 0 with ⟨h1, h2⟩ | ⟨h1, h2⟩ <;> rw [h1, h2] <;> rfl
/-! ### Lists -/
/-- Is x in the list? -/
theorem loop_find {σ ρ : Type} (step : σ → Option (σ ⊕ ρ)) (S : Int → σ) (R : Int → ρ) (e : ρ) (xs : List Int) (x : Int) (hl : xs.length ≤ 9223372036854775807)
    (h : ∀ i : Int, 0 ≤ i → i < xs.length → ∃ y, getI xs i = some y ∧ step (S i) = some (if y = x then .inr (R i) else .inl (S (IntKind.i64.wrap (i + 1))))) (h0 : ∀ i : Int, ¬ i < xs.length → step (S i) = some (.inr e)) :
    (x ∈ xs ∧ ∃ i : Int, 0 ≤ i ∧ loopFix step (S 0) = some (R i)) ∨ (x ∉ xs ∧ loopFix step (S 0) = some e) := by
  have key : ∀ (rest : List Int) (i : Nat), xs.drop i = rest → i ≤ xs.length → (x ∈ rest ∧ ∃ j : Int, 0 ≤ j ∧ loopFix step (S (i : Int)) = some (R j)) ∨ (x ∉ rest ∧ loopFix step (S (i : Int)) = some e) := by
    intro rest
    induction rest with
    | nil =>
      intro i hd hi
      have hlen := congrArg List.length hd
      simp at hlen
      exact .inr ⟨by simp, loopFix_inr (h0 i (by omega))⟩
    | cons y ys ih =>
      intro i hd hi
      have hlen := congrArg List.length hd
      simp at hlen
      have hlt : i < xs.length := by omega
      have hy : xs[i] = y := by
        have := congrArg (·[0]?) hd
        simpa [hlt] using this
      have hd' : xs.drop (i + 1) = ys := by
        have := congrArg List.tail hd
        simpa using this
      obtain ⟨z, hz, hst⟩ := h i (by omega) (by omega)
      rw [getI_lt xs i hlt, hy] at hz
      cases hz
      by_cases hx : y = x
      · rw [if_pos hx] at hst
        exact .inl ⟨by simp [hx], i, by omega, loopFix_inr hst⟩
      · rw [if_neg hx, wrap64 (by omega) (by omega), show ((i : Int) + 1) = ((i + 1 : Nat) : Int) by omega] at hst
        rw [loopFix_inl hst]
        rcases ih (i + 1) hd' (by omega) with ⟨h1, h2⟩ | ⟨h1, h2⟩
        · exact .inl ⟨by simp [h1], h2⟩
        · exact .inr ⟨by simp [h1, Ne.symm hx], h2⟩
  exact key xs 0 (by simp) (by omega)
theorem f24_val (xs : List Int) (x : Int) (hl : xs.length ≤ 9223372036854775807) : f24 xs x = some (decide (x ∈ xs)) := by
  unfold f24 f25
  rcases loop_find f25l2 (fun i => (xs, x, (((xs.length) : Nat) : Int), i)) (fun i => .inl i) (.inr ()) xs x hl (fun i h0 h1 => by
    obtain ⟨n, rfl⟩ := Int.eq_ofNat_of_zero_le h0
    have hn : n < xs.length := by exact_mod_cast h1
    refine ⟨xs[n], getI_lt xs n hn, ?_⟩
    unfold f25l2
    dsimp only
    rw [Bool.cond_decide, if_pos h1, getI_lt xs n hn, Option.bind_some]
    by_cases hx : xs[n] = x
    · rw [if_pos hx, hx]; simp
    · rw [if_neg hx, show (x == xs[n]) = false by simp [Ne.symm hx]]; rfl) (fun i hi => by
    unfold f25l2
    dsimp only
    rw [Bool.cond_decide, if_neg hi]) with ⟨h1, i, h2, h3⟩ | ⟨h1, h3⟩
  · rw [h3]
    simp [h1, h2]
  · rw [h3]
    simp [h1]
/-- The model rules. -/
def rulesV (a7 : Bool) (a8 : List Int) (m n : Int) : Int := if n = 3 ∨ n = 4 then 39 else if m ∈ a8 ∨ (n = 2 ∧ a7 = false) then 40 else 0
theorem f21_val (a1 : Int) (a2 : Bool) (a3 a4 : Int) (a5 : Bool) (a6 : Int) (a7 : Bool) (a8 : List Int) (a9 m n : Int) (hl : a8.length ≤ 9223372036854775807) : f21 a1 a2 a3 a4 a5 a6 a7 a8 a9 m n = some (rulesV a7 a8 m n) := by
  unfold f21 rulesV f21j6
  rw [f24_val a8 m hl]
  by_cases h3 : n = 3
  · simp [h3]
  · by_cases h4 : n = 4
    · simp [h4]
    · have e3 : (n == 3) = false := by simpa using h3
      have e4 : (n == 4) = false := by simpa using h4
      by_cases hm : m ∈ a8
      · simp [h3, h4, hm, e3, e4]
      · by_cases h2 : n = 2
        · cases a7 <;> simp [hm, h2]
        · have e2 : (n == 2) = false := by simpa using h2
          cases a7 <;> simp [h3, h4, hm, h2, e3, e4, e2]
theorem f23_val (a1 : Int) (a2 : Bool) (a3 a4 : Int) (a5 : Bool) (a6 : Int) (a7 : Bool) (a8 : List Int) (a9 m n : Int) (hl : a8.length ≤ 9223372036854775807) : f23 a1 a2 a3 a4 a5 a6 a7 a8 a9 m n = some (rulesV a7 a8 m n) := by
  unfold f23 rulesV f23j3
  dsimp only
  by_cases h3 : n = 3
  · simp [h3]
  · by_cases h4 : n = 4
    · simp [h4]
    · rcases loop_find f23l4 (fun i => ((m, n, (), i), (a1, a2, a3, a4, a5, a6, a7, a8, a9))) (fun i => .inl (40, (a1, a2, a3, a4, a5, a6, a7, a8, a9))) (.inr ((n, ()), (a1, a2, a3, a4, a5, a6, a7, a8, a9))) a8 m hl (fun i h0 h1 => by
        obtain ⟨k, rfl⟩ := Int.eq_ofNat_of_zero_le h0
        have hn : k < a8.length := by exact_mod_cast h1
        refine ⟨a8[k], getI_lt a8 k hn, ?_⟩
        unfold f23l4
        dsimp only
        rw [Bool.cond_decide, if_pos h1, getI_lt a8 k hn, Option.bind_some]
        by_cases hx : a8[k] = m
        · rw [if_pos hx, hx]; simp
        · rw [if_neg hx, show (a8[k] == m) = false by simp [hx]]; rfl) (fun i hi => by
        unfold f23l4
        dsimp only
        rw [Bool.cond_decide, if_neg hi]) with ⟨h1, i, h2, h5⟩ | ⟨h1, h5⟩
      · rw [h5]
        have e3 : (n == 3) = false := by simpa using h3
        have e4 : (n == 4) = false := by simpa using h4
        simp [h3, h4, h1, e3, e4]
      · rw [h5]
        have e3 : (n == 3) = false := by simpa using h3
        have e4 : (n == 4) = false := by simpa using h4
        by_cases h2 : n = 2
        · cases a7 <;> simp [h1, h2]
        · have e2 : (n == 2) = false := by simpa using h2
          cases a7 <;> simp [h3, h4, h1, h2, e3, e4, e2]
/-! ### The deck -/
theorem f10_gd (n : Int) (xs : List Int) (p : Int) (hn : 0 < n) (hn1 : n ≤ 1000000) (hp : 0 ≤ p) (hl : xs.length ≤ 9223372036854775807) (hp1 : p ≤ xs.length) :
    Gd (f10 n xs p) fun y => 0 ≤ y.1 ∧ y.1 < n ∧ y.2.1 = xs ∧ 0 ≤ y.2.2 ∧ y.2.2 ≤ xs.length := by
  unfold f10
  refine .cond (fun h => ?_) fun h => ?_
  · exact .pure ⟨by show (0 : Int) ≤ 0; omega, hn, rfl, hp, hp1⟩
  · have hlt : p < xs.length := by simpa using h
    rw [wrap64 (n := p + 1) (by omega) (by omega), show p + 1 - 1 = p by omega, wrap64 (by omega) (by omega)]
    obtain ⟨x, hx, _⟩ := getI_ok hp hlt
    refine .bindS hx ?_
    unfold f18
    have hu : IntKind.u64.wrap n = n := wrapU64 (by omega) (by omega)
    have hy := wrapU64_nonneg x
    generalize IntKind.u64.wrap x = y at hy
    rw [hu]
    have h1 := Int.emod_nonneg y (show n ≠ 0 by omega)
    have h2 := Int.emod_lt_of_pos y hn
    refine .bindS (a := y % n) ?_ (.pure ⟨h1, h2, rfl, by show (0 : Int) ≤ p + 1; omega, by show p + 1 ≤ (xs.length : Int); omega⟩)
    rw [show (n != 0) = true by simp; omega, cond_true, Int.tmod_eq_emod_of_nonneg hy, wrap64 (by omega) (by omega)]
/-- Where a deck stands. -/
def DeckOK (xs : List Int) (d : List Int × Int) : Prop := d.1 = xs ∧ 0 ≤ d.2 ∧ d.2 ≤ xs.length
theorem next_gd {xs : List Int} (hl : xs.length ≤ 9223372036854775807) {d : List Int × Int} (hd : DeckOK xs d) (n : Int) (hn : 0 < n) (hn1 : n ≤ 1000000) : Gd (f10 n d.1 d.2) fun y => 0 ≤ y.1 ∧ y.1 < n ∧ DeckOK xs y.2 := by
  obtain ⟨h1, h2, h3⟩ := hd
  rw [h1]
  exact (f10_gd n xs d.2 hn hn1 h2 hl h3).mono fun y ⟨a, b, c, e, f⟩ => ⟨a, b, c, e, f⟩
theorem f9_gd {xs : List Int} (hl : xs.length ≤ 9223372036854775807) {d : List Int × Int} (hd : DeckOK xs d) : Gd (f9 d.1 d.2) fun y => (0 ≤ y.1.1 ∧ y.1.1 ≤ 2 ∧ 1 ≤ y.1.2.2.1 ∧ y.1.2.2.1 ≤ 2 ∧ 1 ≤ y.1.2.2.2.1 ∧ y.1.2.2.2.1 ≤ 3 ∧ 0 ≤ y.1.2.2.2.2.2.1 ∧ y.1.2.2.2.2.2.1 ≤ 2 ∧ y.1.2.2.2.2.2.2.2.1.length ≤ 2) ∧ DeckOK xs y.2 := by
  unfold f9
  refine .bind (next_gd hl hd 3 (by omega) (by omega)) fun y1 ⟨l1, u1, d1⟩ => ?_
  refine .bind (next_gd hl d1 2 (by omega) (by omega)) fun y2 ⟨l2, u2, d2⟩ => ?_
  refine .bind (next_gd hl d2 2 (by omega) (by omega)) fun y3 ⟨l3, u3, d3⟩ => ?_
  refine .bind (next_gd hl d3 3 (by omega) (by omega)) fun y4 ⟨l4, u4, d4⟩ => ?_
  refine .bind (next_gd hl d4 2 (by omega) (by omega)) fun y5 ⟨l5, u5, d5⟩ => ?_
  refine .bind (next_gd hl d5 3 (by omega) (by omega)) fun y6 ⟨l6, u6, d6⟩ => ?_
  refine .bind (next_gd hl d6 2 (by omega) (by omega)) fun y7 ⟨l7, u7, d7⟩ => ?_
  refine .bind (next_gd hl d7 3 (by omega) (by omega)) fun y8 ⟨l8, u8, d8⟩ => ?_
  refine .condT (inRange_true l8 (by simpa using u8)) ?_
  obtain ⟨z, hz, _⟩ := idx_some (xs := [(50 : Int), 5, 500]) (n := Int.toNat y8.1) (by simp; omega)
  refine .bindS hz ?_
  refine .bind (next_gd hl d8 4 (by omega) (by omega)) fun y10 ⟨l10, u10, d10⟩ => ?_
  have w3 : IntKind.i64.wrap (1 + y3.1) = 1 + y3.1 := wrap64 (by omega) (by omega)
  have w4 : IntKind.i64.wrap (1 + y4.1) = 1 + y4.1 := wrap64 (by omega) (by omega)
  rw [w3, w4]
  refine .cond (fun h => ?_) fun h => ?_
  · refine .bind (next_gd hl d10 2 (by omega) (by omega)) fun y11 ⟨l11, u11, d11⟩ => ?_
    rw [wrap64 (n := 1 + y11.1) (by omega) (by omega)]
    refine .condT (okBounds_true (by omega) (by omega) (by simpa using (by omega : 1 + y11.1 ≤ 2))) (.pure ⟨⟨l1, by show y1.1 ≤ 2; omega, by show 1 ≤ 1 + y3.1; omega, by show 1 + y3.1 ≤ 2; omega, by show 1 ≤ 1 + y4.1; omega, by show 1 + y4.1 ≤ 3; omega, l6, by show y6.1 ≤ 2; omega, ?_⟩, d11⟩)
    show (cut [(3 : Int), 7] 0 (1 + y11.1)).length ≤ 2
    unfold cut
    simp
    omega
  · exact .pure ⟨⟨l1, by show y1.1 ≤ 2; omega, by show 1 ≤ 1 + y3.1; omega, by show 1 + y3.1 ≤ 2; omega, by show 1 ≤ 1 + y4.1; omega, by show 1 + y4.1 ≤ 3; omega, l6, by show y6.1 ≤ 2; omega, by simp⟩, d10⟩
theorem f13_gd {xs : List Int} (hl : xs.length ≤ 9223372036854775807) {d : List Int × Int} (hd : DeckOK xs d) : Gd (f13 d.1 d.2) fun y => (∃ f ∈ [(1 : Int), 5, 0, 4, 13, 25], y.1.1.2.1 = f) ∧ 0 ≤ y.1.1.2.2.2.2.2.2.1 ∧ DeckOK xs y.2 := by
  unfold f13
  refine .bind (next_gd hl hd 6 (by omega) (by omega)) fun y1 ⟨l1, u1, d1⟩ => ?_
  refine .condT (inRange_true l1 (by simpa using u1)) ?_
  obtain ⟨z, hz, hm⟩ := idx_some (xs := [(1 : Int), 5, 0, 4, 13, 25]) (n := Int.toNat y1.1) (by simp; omega)
  refine .bindS hz ?_
  refine .bind (next_gd hl d1 8 (by omega) (by omega)) fun y3 ⟨l3, u3, d3⟩ => ?_
  refine .bind (next_gd hl d3 5 (by omega) (by omega)) fun y4 ⟨l4, u4, d4⟩ => ?_
  refine .bind (next_gd hl d4 3 (by omega) (by omega)) fun y5 ⟨l5, u5, d5⟩ => ?_
  refine .bind (next_gd hl d5 5 (by omega) (by omega)) fun y6 ⟨l6, u6, d6⟩ => ?_
  exact .pure ⟨⟨z, hm, rfl⟩, l4, d6⟩
theorem deck_new (xs : List Int) : f8 xs = some ((), (xs, 0)) := rfl
theorem deck_ok (xs : List Int) : DeckOK xs (xs, 0) := ⟨rfl, by show (0 : Int) ≤ 0; omega, by show (0 : Int) ≤ (xs.length : Int); omega⟩
end Go.Proofs.Ytjfnkoilnomofaa
