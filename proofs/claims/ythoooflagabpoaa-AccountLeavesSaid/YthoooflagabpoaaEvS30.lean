/-
Chapter 30: streams of bytes, decks: what they are sure to tell.
-/
import Derived.Test.YthoooflagabpoaaEvG30
set_option linter.unusedVariables false
set_option linter.unusedSimpArgs false
namespace Go.Proofs.Ythoooflagabpoaa
open Go Go.Ev
theorem wrapU64_id {n : Int} (h0 : 0 ≤ n) (h1 : n < 18446744073709551616) : IntKind.u64.wrap n = n := wrapU64 h0 (by omega)
/-! ### Words and sums -/
theorem f72_gd (x k : Int) (h0 : 0 ≤ k) : Gd (f72 x k) fun _ => True := by
  unfold f72
  exact .condT (by simpa using h0) (.condT (by simpa using wrapU64_nonneg _) (.pure trivial))
theorem f64_gd (xs : List Int) (h : xs.length = 4) : Gd (f64 xs) fun ys => ys.length = 4 := by
  match xs, h with
  | [a, b, c, d], _ =>
    unfold f64
    refine .bindS rfl (.bindS rfl (.bindS rfl (.bind (f72_gd _ 13 (by omega)) fun y4 _ => .bindS rfl (.bindS rfl (.bind (f72_gd _ 32 (by omega)) fun y7 _ => .bindS rfl (.bindS rfl (.bindS rfl (.bind (f72_gd _ 16 (by omega)) fun y11 _ => ?_))))))))
    refine .bindS rfl (.bindS rfl (.bindS rfl (.bindS rfl (.bind (f72_gd _ 21 (by omega)) fun y16 _ => .bindS rfl (.bindS rfl (.bindS rfl (.bindS rfl (.bind (f72_gd _ 17 (by omega)) fun y21 _ => .bindS rfl (.bindS rfl (.bind (f72_gd _ 32 (by omega)) fun y24 _ => .pure rfl))))))))))
theorem f37l6_gd (s : (List Int × Unit × Int × Int) × List Int) (h0 : 0 ≤ s.1.2.2.1) (h1 : s.1.2.2.1 < s.1.1.length) (h2 : -1 ≤ s.1.2.2.2) (h3 : s.1.2.2.2 ≤ 7) (h4 : s.2.length ≤ 1000000) :
    Gd (loopFix f37l6 s) fun r => r.1 = (s.1.1, (), s.1.2.2.1) ∧ (r.2.length : Int) = s.2.length + (s.1.2.2.2 + 1) := by
  refine Gd.loop (fun t => t.1.1 = s.1.1 ∧ t.1.2.2.1 = s.1.2.2.1 ∧ -1 ≤ t.1.2.2.2 ∧ t.1.2.2.2 ≤ 7 ∧ (t.2.length : Int) + (t.1.2.2.2 + 1) = s.2.length + (s.1.2.2.2 + 1)) (fun t => (t.1.2.2.2 + 1).toNat) (fun t ht => ?_) s ⟨rfl, rfl, h2, h3, rfl⟩
  obtain ⟨⟨b, ⟨⟩, i, k⟩, c⟩ := t
  obtain ⟨e1, e2, e3, e4, e5⟩ := ht
  dsimp only at e1 e2 e3 e4 e5
  unfold f37l6
  dsimp only
  refine .cond (fun h => ?_) fun h => .pure ⟨by rw [e1, e2], ?_⟩
  rotate_left
  · have hk : k < 0 := by simpa using h
    show (c.length : Int) = _
    omega
  have hk : 0 ≤ k := by simpa using h
  obtain ⟨x, hx, _⟩ := getI_ok (xs := b) (i := i) (by omega) (by rw [e1]; omega)
  refine .bindS hx (.condT (by simpa using wrapU64_nonneg _) (.condT (by simp; omega) (.pure ?_)))
  dsimp only
  rw [wrap64 (by omega) (by omega)]
  refine ⟨⟨e1, e2, by omega, by omega, by simp; omega⟩, by omega⟩
theorem f37_gd (xs : List Int) (h : xs.length ≤ 100000) : Gd (f37 xs) fun r => r.2.length = 8 * xs.length := by
  unfold f37
  refine .bind (Q := fun r => r.2.length = 8 * xs.length) (Gd.loop (fun (t : (List Int × Unit × Int) × List Int) => t.1.1 = xs ∧ 0 ≤ t.1.2.2 ∧ t.1.2.2 ≤ (xs.length : Int) ∧ (t.2.length : Int) = 8 * t.1.2.2) (fun t => ((xs.length : Int) - t.1.2.2).toNat) (fun t ht => ?_) _ ⟨rfl, by show (0 : Int) ≤ 0; omega, by show (0 : Int) ≤ xs.length; omega, rfl⟩) fun y hy => .pure hy
  obtain ⟨⟨b, ⟨⟩, i⟩, c⟩ := t
  obtain ⟨e1, e2, e3, e4⟩ := ht
  dsimp only at e1 e2 e3 e4
  subst e1
  unfold f37l3
  dsimp only
  refine .cond (fun hi => ?_) fun hi => .pure (by simp at hi; show c.length = 8 * b.length; omega)
  have hi : i < b.length := by simpa using hi
  refine .bind (f37l6_gd ((b, (), i, 7), c) e2 hi (by show (-1 : Int) ≤ 7; omega) (by show (7 : Int) ≤ 7; omega) (by show c.length ≤ 1000000; omega)) fun y ⟨hy1, hy2⟩ => .pure ?_
  obtain ⟨⟨b', ⟨⟩, i'⟩, c'⟩ := y
  cases hy1
  dsimp only at hy2 ⊢
  rw [wrap64 (by omega) (by omega)]
  refine ⟨⟨rfl, by omega, by omega, by omega⟩, by omega⟩
theorem f48l7_gd (b : List Int) (hb : b.length ≤ 100000) (at_ : Int) (h0 : 0 ≤ at_) (h1 : at_ ≤ b.length) (c : List Int) (x : Int) : Gd (loopFix f48l7 ((b, (), at_, x, 7), c)) fun r => r.1.1 = b ∧ r.1.2.2.1 = at_ ∧ r.2 = c := by
  refine Gd.loop (fun t => t.1.1 = b ∧ t.1.2.2.1 = at_ ∧ t.2 = c ∧ -1 ≤ t.1.2.2.2.2 ∧ t.1.2.2.2.2 ≤ 7) (fun t => (t.1.2.2.2.2 + 1).toNat) (fun t ht => ?_) _ ⟨rfl, rfl, rfl, by show (-1 : Int) ≤ 7; omega, by show (7 : Int) ≤ 7; omega⟩
  obtain ⟨⟨b', ⟨⟩, i, y, k⟩, c'⟩ := t
  obtain ⟨e1, e2, e3, e4, e5⟩ := ht
  dsimp only at e1 e2 e3 e4 e5
  subst e1 e2 e3
  unfold f48l7
  dsimp only
  refine .cond (fun h => ?_) fun h => .pure ⟨rfl, rfl, rfl⟩
  have hk : 0 ≤ k := by simpa using h
  have w1 : IntKind.i64.wrap (i + k) = i + k := wrap64 (by omega) (by omega)
  rw [w1]
  have fin : ∀ (z : Int), f48j14 ((b', (), i, y, k, z), c') = some ((b', (), i, (bitsI .or .u64 (shlI .u64 y 8) (IntKind.u64.wrap z)), k), c') := fun z => rfl
  have w2 : IntKind.i64.wrap (k - 1) = k - 1 := wrap64 (by omega) (by omega)
  refine .cond (fun h => ?_) fun h => .cond (fun _ => .bindS (fin _) (.pure ?_)) fun _ => .bindS (fin _) (.pure ?_)
  · obtain ⟨z, hz, _⟩ := getI_ok (xs := b') (i := i + k) (by omega) (by simpa using h)
    refine .bindS hz (.bindS (fin _) (.pure ?_))
    dsimp only
    rw [w2]
    exact ⟨⟨rfl, rfl, rfl, by omega, by omega⟩, by omega⟩
  all_goals
    dsimp only
    rw [w2]
    exact ⟨⟨rfl, rfl, rfl, by omega, by omega⟩, by omega⟩
theorem f48_gd (a d : Int) (b : List Int) (hb : b.length ≤ 100000) : Gd (f48 a d b) fun _ => True := by
  unfold f48
  refine .bind (Q := fun r => r.2.length = 4) (Gd.loop (fun t => t.1.1 = b ∧ 0 ≤ t.1.2.2 ∧ t.1.2.2 ≤ (b.length : Int) + 8 ∧ t.2.length = 4) (fun t => ((b.length : Int) + 8 - t.1.2.2).toNat) (fun t ht => ?_) _ ⟨rfl, by show (0 : Int) ≤ 0; omega, by show (0 : Int) ≤ _; omega, rfl⟩) fun y hy => ?_
  · obtain ⟨⟨b', ⟨⟩, i⟩, c⟩ := t
    obtain ⟨e1, e2, e3, e4⟩ := ht
    dsimp only at e1 e2 e3 e4
    subst e1
    unfold f48l3
    dsimp only
    refine .cond (fun h => ?_) fun h => .pure e4
    have hi : i ≤ b'.length := by simpa using h
    refine .bind (f48l7_gd b' hb i e2 hi c 0) fun y ⟨g1, g2, g3⟩ => ?_
    obtain ⟨⟨b2, ⟨⟩, i2, x2⟩, c2⟩ := y
    dsimp only at g1 g2 g3 ⊢
    subst g1 g2 g3
    obtain ⟨z, hz, _⟩ := idx_some (xs := c2) (n := 3) (by omega)
    refine .bindS hz (.bind (f64_gd _ (by simpa using e4)) fun y3 h3 => .bind (f64_gd y3 h3) fun y4 h4 => ?_)
    obtain ⟨z0, hz0, _⟩ := idx_some (xs := y4) (n := 0) (by omega)
    refine .bindS hz0 (.pure ?_)
    dsimp only
    rw [wrap64 (by omega) (by omega)]
    exact ⟨⟨rfl, by omega, by omega, by simpa using h4⟩, by omega⟩
  · obtain ⟨z, hz, _⟩ := idx_some (xs := y.2) (n := 2) (by omega)
    refine .bindS hz (.bind (f64_gd _ (by simpa using hy)) fun y3 h3 => .bind (f64_gd y3 h3) fun y4 h4 => .bind (f64_gd y4 h4) fun y5 h5 => .bind (f64_gd y5 h5) fun y6 h6 => ?_)
    obtain ⟨z0, hz0, _⟩ := idx_some (xs := y6) (n := 0) (by omega)
    obtain ⟨z1, hz1, _⟩ := idx_some (xs := y6) (n := 1) (by omega)
    obtain ⟨z2, hz2, _⟩ := idx_some (xs := y6) (n := 2) (by omega)
    obtain ⟨z3, hz3, _⟩ := idx_some (xs := y6) (n := 3) (by omega)
    exact .bindS hz0 (.bindS hz1 (.bindS hz2 (.bindS hz3 (.pure trivial))))
theorem f38_gd (a d : Int) (b : List Int) (hb : b.length ≤ 100000) : Gd (f38 a d b) fun _ => True := by
  unfold f38
  exact .bind (f48_gd _ _ b hb) fun y _ => .pure trivial
theorem f22_gd (key nonce : Int) (n : Int) (h0 : 0 ≤ n) (h1 : n ≤ 1024) : Gd (f22 key nonce n) fun r => (r.2.length : Int) = n := by
  unfold f22
  have e : (if 1024 < (if 0 > n then 0 else n) then 1024 else (if 0 > n then 0 else n)) = n := by
    rw [if_neg (show ¬ 0 > n by omega), if_neg (by omega)]
  rw [e]
  refine .bind (Q := fun r => r.1.1 = n ∧ n ≤ r.2.length) (Gd.loop (fun t => t.1.2.2.1 = n ∧ 0 ≤ t.1.2.2.2.2 ∧ (t.2.length : Int) = 8 * t.1.2.2.2.2 ∧ (t.2.length : Int) ≤ n + 8) (fun t => (n + 8 - t.2.length).toNat) (fun t ht => ?_) _ ⟨rfl, by show (0 : Int) ≤ 0; omega, rfl, by show ((0 : Nat) : Int) ≤ n + 8; omega⟩) fun y hy => ?_
  · obtain ⟨⟨k, no, m, ⟨⟩, i⟩, c⟩ := t
    obtain ⟨e1, e2, e3, e4⟩ := ht
    dsimp only at e1 e2 e3 e4
    subst e1
    unfold f22l4
    dsimp only
    refine .cond (fun h => ?_) fun h => .pure ⟨rfl, by simpa using h⟩
    have hi : (c.length : Int) < m := by simpa using h
    refine .bind (f37_gd [no, IntKind.u64.wrap i] (by simp)) fun y1 h1' => .bind (f38_gd _ _ y1.2 (by rw [h1']; simp)) fun y2 _ => .bind (f37_gd [y2] (by simp)) fun y3 h3 => .condT (by simp [h3]; omega) (.pure ?_)
    dsimp only
    rw [wrap64 (by omega) (by omega)]
    simp only [List.length_append, h3, List.length_cons, List.length_nil]
    exact ⟨⟨trivial, by omega, by omega, by omega⟩, by omega⟩
  · obtain ⟨g1, g2⟩ := hy
    rw [g1]
    refine .condT (okBounds_true (by omega) (by omega) g2) (.pure ?_)
    unfold cut
    simp
    omega
/-! ### Decks -/
theorem f18_gd (v n : Int) (hn : 0 < n) (h1 : n ≤ 1000000) : Gd (f18 v n) fun y => 0 ≤ y ∧ y < n := by
  unfold f18
  rw [wrapU64 (n := n) (by omega) (by omega)]
  refine .condT (by simp; omega) (.pure ?_)
  have h2 := Int.emod_nonneg (IntKind.u64.wrap v) (show n ≠ 0 by omega)
  have h3 := Int.emod_lt_of_pos (IntKind.u64.wrap v) hn
  rw [Int.tmod_eq_emod_of_nonneg (wrapU64_nonneg v), wrap64 (by omega) (by omega)]
  exact ⟨h2, h3⟩
/-- A deck over these numbers. -/
def DeckOK (xs : List Int) (d : List Int × Int) : Prop := d.1 = xs ∧ 0 ≤ d.2 ∧ d.2 ≤ xs.length
theorem next_gd {xs : List Int} (hl : xs.length ≤ 9223372036854775807) {d : List Int × Int} (hd : DeckOK xs d) (n : Int) (hn : 0 < n) (hn1 : n ≤ 1000000) : Gd (f12 n d.1 d.2) fun y => 0 ≤ y.1 ∧ y.1 < n ∧ DeckOK xs y.2 := by
  obtain ⟨xs', i⟩ := d
  obtain ⟨h1, h2, h3⟩ := hd
  dsimp only at h1 h2 h3 ⊢
  subst h1
  unfold f12
  refine .cond (fun h => .pure ⟨Int.le_refl _, hn, rfl, h2, h3⟩) fun h => ?_
  have hi : i < xs'.length := by simpa using h
  rw [wrap64 (n := i + 1) (by omega) (by omega), show i + 1 - 1 = i by omega, wrap64 (n := i) (by omega) (by omega)]
  obtain ⟨z, hz, _⟩ := getI_ok h2 hi
  refine .bindS hz (.bind (f18_gd z n hn hn1) fun y ⟨g1, g2⟩ => .pure ⟨g1, g2, rfl, by show 0 ≤ i + 1; omega, by show i + 1 ≤ xs'.length; omega⟩)
theorem deck_new (xs : List Int) : f8 xs = some ((), (xs, 0)) := rfl
theorem deck_ok (xs : List Int) : DeckOK xs (xs, 0) := ⟨rfl, by show (0 : Int) ≤ 0; omega, by show (0 : Int) ≤ (xs.length : Int); omega⟩
theorem f10_gd (n h : Int) : ∃ id : List Int, id.length = 176 ∧ f10 n h = some (id, h, 5, 0, 0, false, 0, [], false, 3, 0) := by
  have : Gd (f10 n h) fun y => ∃ id : List Int, id.length = 176 ∧ y = (id, h, 5, 0, 0, false, 0, [], false, 3, 0) := by
    unfold f10
    refine .bind (f18_gd n 12 (by omega) (by omega)) fun y1 _ => ?_
    unfold f11
    refine .bind (Q := fun y => y.2.length = 176) (.bind (f22_gd _ 7 _ (by decide) (by decide)) fun y hy => .pure ?_) fun y hy => .pure ⟨y.2, hy, rfl⟩
    have hy' : (y.2.length : Int) = 176 := hy
    show y.2.length = 176
    omega
  obtain ⟨y, hy, id, h1, rfl⟩ := this
  exact ⟨id, h1, hy⟩
end Go.Proofs.Ythoooflagabpoaa
