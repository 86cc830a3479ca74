/-
Chapter 30: the law's own test (awake).
-/
import Derived.Test.YthoooflagabpoaaEvB30
set_option linter.unusedVariables false
set_option linter.unusedSimpArgs false
namespace Go.Proofs.Ythoooflagabpoaa
open Go Go.Ev
/-! ### The digest of the program -/
theorem f65_gd (x k : Int) (h : 0 ≤ bitsI .and .u64 (IntKind.u64.wrap k) 63) : Gd (f65 x k) fun _ => True := by
  unfold f65
  exact .condT (by simpa using h) (.condT (by simpa using wrapU64_nonneg _) (.pure trivial))
theorem f51_gd (n a b c d : Int) (hn : n ≤ 100) : Gd (f51 n a b c d) fun _ => True := by
  unfold f51
  refine .bind (Q := fun _ => True) (Gd.loop (fun (t : (Unit × Int × Int) × (Int × Int × Int × Int)) => t.1.2.1 = n ∧ 0 ≤ t.1.2.2 ∧ (t.1.2.2 ≤ n ∨ n ≤ 0)) (fun t => (n - t.1.2.2).toNat) (fun t ht => ?_) _ ⟨rfl, by show (0 : Int) ≤ 0; omega, by show (0 : Int) ≤ n ∨ n ≤ 0; omega⟩) fun y _ => .pure trivial
  obtain ⟨⟨⟨⟩, m, i⟩, ⟨a, b, c, d⟩⟩ := t
  obtain ⟨e1, e2, e3⟩ := ht
  dsimp only at e1 e2 e3
  subst e1
  unfold f51l1
  dsimp only
  refine .cond (fun h => ?_) fun h => .pure trivial
  have hi : i < m := by simpa using h
  refine .bind (f65_gd _ 13 (by decide)) fun y1 _ => .bind (f65_gd _ 32 (by decide)) fun y2 _ => .bind (f65_gd _ 16 (by decide)) fun y3 _ => .bind (f65_gd _ 21 (by decide)) fun y4 _ => .bind (f65_gd _ 17 (by decide)) fun y5 _ => .bind (f65_gd _ 32 (by decide)) fun y6 _ => .pure ?_
  dsimp only
  rw [wrap64 (by omega) (by omega)]
  exact ⟨⟨rfl, by omega, by omega⟩, by omega⟩
theorem f49_gd (x a b c d : Int) : Gd (f49 x a b c d) fun _ => True := by
  unfold f49
  exact .bind (f51_gd 2 _ _ _ _ (by omega)) fun y _ => .pure trivial
theorem f50_gd (b : List Int) (hb : b.length ≤ 100000) : Gd (f50 b) fun _ => True := by
  unfold f50
  refine .bind (Q := fun _ => True) (Gd.loop (fun (t : Int × List Int × Int × Int) => t.2.1 = b ∧ t.2.2.1 = b.length ∧ 0 ≤ t.2.2.2 ∧ t.2.2.2 ≤ b.length) (fun t => ((b.length : Int) - t.2.2.2).toNat) (fun t ht => ?_) _ ⟨rfl, rfl, by show (0 : Int) ≤ 0; omega, by show (0 : Int) ≤ b.length; omega⟩) fun y _ => .pure trivial
  obtain ⟨x, b', n, i⟩ := t
  obtain ⟨e1, e2, e3, e4⟩ := ht
  dsimp only at e1 e2 e3 e4
  subst e1 e2
  unfold f50l3
  dsimp only
  refine .cond (fun h => ?_) fun h => .pure trivial
  have hi : i < b'.length := by simpa using h
  obtain ⟨z, hz, _⟩ := getI_ok (xs := b') e3 hi
  refine .bindS hz (.condT (by rw [wrap64 (by omega) (by omega)]; simp; omega) (.pure ?_))
  dsimp only
  rw [wrap64 (n := i + 1) (by omega) (by omega)]
  exact ⟨⟨rfl, rfl, by omega, by omega⟩, by omega⟩
theorem f41_gd (k d : Int) (b : List Int) (hb : b.length ≤ 100000) : Gd (f41 k d b) fun _ => True := by
  unfold f41
  refine .bind (Q := fun r => r.1.1.length ≤ 100000) (Gd.loop (fun (t : (List Int × Unit × Int) × (Int × Int × Int × Int)) => t.1.1.length ≤ 100000) (fun t => t.1.1.length) (fun t ht => ?_) _ hb) fun y hy => ?_
  · obtain ⟨⟨c, ⟨⟩, x⟩, ⟨a1, a2, a3, a4⟩⟩ := t
    dsimp only at ht
    unfold f41l3
    dsimp only
    refine .cond (fun h => ?_) fun h => .pure ht
    have h8 : 8 ≤ c.length := by have : (c.length : Int) ≥ 8 := by simpa using h
                                 omega
    have l1 : (cut c 0 8).length ≤ 100000 := by unfold cut; simp; omega
    have l2 : (cut c 8 (c.length : Int)).length = c.length - 8 := by unfold cut; simp
    refine .condT (by rw [okBounds_true (by omega) (by omega) (by omega)]; simp; omega) (.bind (f50_gd _ l1) fun y1 _ => .bind (f49_gd _ _ _ _ _) fun y2 _ => .condT (by rw [okBounds_true (by omega) (by omega) (by omega)]; simp) (.pure ?_))
    dsimp only
    rw [l2]
    exact ⟨by omega, by omega⟩
  · exact .bind (f50_gd _ hy) fun y2 _ => .bind (f49_gd _ _ _ _ _) fun y3 _ => .bind (f51_gd 4 _ _ _ _ (by omega)) fun y4 _ => .pure trivial
theorem f26_gd (k d : Int) (b : List Int) (hb : b.length ≤ 100000) : Gd (f26 k d b) fun _ => True := by
  unfold f26
  exact .bind (f41_gd _ _ b hb) fun y _ => .pure trivial
theorem f42_gd (xs : List Int) (h : xs.length ≤ 100000) : Gd (f42 xs) fun r => r.2.length = 8 * xs.length := by
  unfold f42
  refine .bind (Q := fun r => r.2.length = 8 * xs.length) (Gd.loop (fun (t : (Unit × List Int × Int × Int) × List Int) => t.1.2.1 = xs ∧ t.1.2.2.1 = (xs.length : Int) ∧ 0 ≤ t.1.2.2.2 ∧ t.1.2.2.2 ≤ (xs.length : Int) ∧ (t.2.length : Int) = 8 * t.1.2.2.2) (fun t => ((xs.length : Int) - t.1.2.2.2).toNat) (fun t ht => ?_) _ ⟨rfl, rfl, by show (0 : Int) ≤ 0; omega, by show (0 : Int) ≤ xs.length; omega, rfl⟩) fun y hy => .pure hy
  obtain ⟨⟨⟨⟩, b, n, i⟩, c⟩ := t
  obtain ⟨e1, e2, e3, e4, e5⟩ := ht
  dsimp only at e1 e2 e3 e4 e5
  subst e1 e2
  unfold f42l3
  dsimp only
  refine .cond (fun hi => ?_) fun hi => .pure (by simp at hi; show c.length = 8 * b.length; omega)
  have hi : i < b.length := by simpa using hi
  obtain ⟨z, hz, _⟩ := getI_ok (xs := b) e3 hi
  refine .bindS hz (.bind (Q := fun r => r.1.2.1 = b ∧ r.1.2.2.1 = (b.length : Int) ∧ r.1.2.2.2 = i ∧ (r.2.length : Int) = c.length + 8) (Gd.loop (fun (t : (Unit × Int × List Int × Int × Int × Int) × List Int) => t.1.2.2.1 = b ∧ t.1.2.2.2.1 = (b.length : Int) ∧ t.1.2.2.2.2.1 = i ∧ 0 ≤ t.1.2.2.2.2.2 ∧ t.1.2.2.2.2.2 ≤ 8 ∧ (t.2.length : Int) = c.length + t.1.2.2.2.2.2) (fun t => (8 - t.1.2.2.2.2.2).toNat) (fun t ht => ?_) _ ⟨rfl, rfl, rfl, by show (0 : Int) ≤ 0; omega, by show (0 : Int) ≤ 8; omega, by show (c.length : Int) = c.length + 0; omega⟩) fun y hy => .pure ?_)
  · obtain ⟨⟨⟨⟩, w, b', n', i', k⟩, c'⟩ := t
    obtain ⟨g1, g2, g3, g4, g5, g6⟩ := ht
    dsimp only at g1 g2 g3 g4 g5 g6
    subst g1 g2 g3
    unfold f42l6
    dsimp only
    refine .cond (fun hk => ?_) fun hk => .pure ⟨rfl, rfl, rfl, by simp at hk; show (c'.length : Int) = _; omega⟩
    have hk : k < 8 := by simpa using hk
    rw [wrap64 (n := 8 * k) (by omega) (by omega), wrap64 (n := 56 - 8 * k) (by omega) (by omega)]
    refine .condT (by simp; omega) (.condT (by simp; omega) (.pure ?_))
    dsimp only
    rw [wrap64 (by omega) (by omega)]
    exact ⟨⟨rfl, rfl, rfl, by omega, by omega, by simp; omega⟩, by omega⟩
  · obtain ⟨h1, h2, h3, h4⟩ := hy
    dsimp only
    rw [h1, h2, h3, wrap64 (by omega) (by omega)]
    exact ⟨⟨rfl, rfl, by omega, by omega, by omega⟩, by omega⟩
theorem f27_gd (key nonce : Int) : Gd (f27 key nonce 176) fun r => r.2.length = 176 := by
  unfold f27
  refine .bind (Q := fun r => r.1.1 = 176 ∧ 176 ≤ r.2.length) (Gd.loop (fun (t : (Int × Int × Int × Unit × Int) × List Int) => t.1.2.2.1 = 176 ∧ t.2.length ≤ 1000) (fun t => 1000 - t.2.length) (fun t ht => ?_) _ ⟨rfl, by simp⟩) fun y hy => ?_
  · obtain ⟨⟨k, no, m, ⟨⟩, i⟩, c⟩ := t
    obtain ⟨e1, e4⟩ := ht
    dsimp only at e1 e4
    subst e1
    unfold f27l4
    dsimp only
    refine .cond (fun h => ?_) fun h => .pure ⟨rfl, by have h3 : (176 : Int) ≤ c.length := by simpa using h
                                                       show 176 ≤ c.length; omega⟩
    have hi : (c.length : Int) < 176 := by simpa using h
    refine .bind (f42_gd [no, i] (by simp)) fun y1 h1' => .bind (f26_gd _ _ y1.2 (by rw [h1']; simp)) fun y2 _ => .bind (f42_gd [y2] (by simp)) fun y3 h3 => .condT (by simp [h3]; omega) (.pure ?_)
    dsimp only
    simp only [List.length_append, h3, List.length_cons, List.length_nil]
    exact ⟨⟨trivial, by omega⟩, by omega⟩
  · obtain ⟨g1, g2⟩ := hy
    rw [g1]
    refine .condT (okBounds_true (by omega) (by omega) (by omega)) (.pure ?_)
    unfold cut
    simp
    omega
/-! ### Sorting of a few rows of bytes -/
theorem f45_gd (a b : Int) : Gd (f45 a b) fun _ => True := by
  unfold f45 f62
  refine .bindS rfl (.bindS rfl (.condF (by simp) (.condF (by simp) (.cond (fun _ => .pure trivial) fun _ => .cond (fun _ => .pure trivial) fun _ => .pure trivial))))
theorem f29_gd (a b : List Int) (ha : a.length ≤ 100000) : Gd (f29 a b) fun _ => True := by
  unfold f29
  refine .bind (Q := fun _ => True) (Gd.loop (fun (t : List Int × List Int × List Int × Int × Int) => t.2.2.1 = a ∧ t.2.2.2.1 = (a.length : Int) ∧ 0 ≤ t.2.2.2.2 ∧ t.2.2.2.2 ≤ (a.length : Int)) (fun t => ((a.length : Int) - t.2.2.2.2).toNat) (fun t ht => ?_) _ ⟨rfl, rfl, by show (0 : Int) ≤ 0; omega, by show (0 : Int) ≤ a.length; omega⟩) fun y _ => ?_
  · obtain ⟨x1, x2, x3, n, i⟩ := t
    obtain ⟨e1, e2, e3, e4⟩ := ht
    dsimp only at e1 e2 e3 e4
    subst e1 e2
    unfold f29l2
    dsimp only
    refine .cond (fun h => ?_) fun h => .pure trivial
    have hi : i < x3.length := by simpa using h
    obtain ⟨z, hz, _⟩ := getI_ok (xs := x3) e3 hi
    refine .bindS hz (.cond (fun _ => .pure trivial) fun h2 => ?_)
    have hi2 : i < x2.length := by simpa using h2
    obtain ⟨z2, hz2, _⟩ := getI_ok (xs := x2) e3 hi2
    refine .bindS hz2 (.bind (f45_gd z z2) fun y3 _ => .cond (fun _ => .pure trivial) fun _ => .pure ?_)
    dsimp only
    rw [wrap64 (by omega) (by omega)]
    exact ⟨⟨rfl, rfl, by omega, by omega⟩, by omega⟩
  · cases y with
    | inl z => exact .pure trivial
    | inr z => exact .cond (fun _ => .pure trivial) fun _ => .pure trivial
/-- Rows of bytes, none too long. -/
def Rows (l : List PD) : Prop := ∀ x ∈ l, ∃ b : List Int, x = .nums .u8 b ∧ b.length ≤ 100000
theorem Rows.set {l : List PD} (h : Rows l) (i : Nat) (b : List Int) (hb : b.length ≤ 100000) : Rows (l.set i (.nums .u8 b)) := fun x hx => by
  rcases List.mem_or_eq_of_mem_set hx with hx | rfl
  · exact h x hx
  · exact ⟨b, rfl, hb⟩
theorem Rows.get {l : List PD} (h : Rows l) {i : Int} (h0 : 0 ≤ i) (h1 : i < l.length) : ∃ b : List Int, l[i.toNat]? = some (.nums .u8 b) ∧ b.length ≤ 100000 := by
  obtain ⟨x, hx, hm⟩ := idx_some (xs := l) (n := i.toNat) (by omega)
  obtain ⟨b, rfl, hb⟩ := h x hm
  exact ⟨b, hx, hb⟩
theorem nums0 (b : List Int) : PD.numsAt .u8 (.nums .u8 b) 0 = some b := rfl
theorem f52_gd (n : Int) (l : List PD) (hn : (l.length : Int) = n) (hl : l.length ≤ 1000) (hr : Rows l) : Gd (f52 0 n l) fun r => r.2.length = l.length := by
  unfold f52
  have key : ∀ (i : Int) (l' : List PD), 0 ≤ i → i < n → (l'.length : Int) = n → Rows l' → Gd (loopFix f52l4 (((), 0, n, ((), ()), i, i), l')) fun r => r.1.2.1 = 0 ∧ r.1.2.2.1 = n ∧ r.1.2.2.2.2 = i ∧ (r.2.length : Int) = n ∧ Rows r.2 := by
    intro i l' h0 h1 h2 h3
    refine Gd.loop (fun (t : (Unit × Int × Int × (Unit × Unit) × Int × Int) × List PD) => t.1.2.1 = 0 ∧ t.1.2.2.1 = n ∧ t.1.2.2.2.2.1 = i ∧ 0 ≤ t.1.2.2.2.2.2 ∧ t.1.2.2.2.2.2 ≤ i ∧ (t.2.length : Int) = n ∧ Rows t.2) (fun t => t.1.2.2.2.2.2.toNat) (fun t ht => ?_) _ ⟨rfl, rfl, rfl, h0, Int.le_refl _, h2, h3⟩
    obtain ⟨⟨⟨⟩, a, m, ⟨⟨⟩, ⟨⟩⟩, i', j⟩, q⟩ := t
    obtain ⟨e1, e2, e3, e4, e5, e6, e7⟩ := ht
    dsimp only at e1 e2 e3 e4 e5 e6 e7
    subst e1 e2 e3
    unfold f52l4
    dsimp only
    refine .cond (fun h => ?_) fun h => .pure ⟨rfl, rfl, rfl, e6, e7⟩
    have hj : 0 < j := by simpa using h
    rw [wrap64 (n := j - 1) (by omega) (by omega)]
    obtain ⟨b1, hb1, lb1⟩ := e7.get (i := j) e4 (by omega)
    obtain ⟨b2, hb2, lb2⟩ := e7.get (i := j - 1) (by omega) (by omega)
    refine .condT (inRange_true e4 (by omega)) (.bindS hb1 (.bindS (nums0 _) (.condT (inRange_true (by omega) (by omega)) (.bindS hb2 (.bindS (nums0 _) (.bind (f29_gd b1 b2 lb1) fun y5 _ => .cond (fun _ => ?_) fun _ => .pure ⟨rfl, rfl, rfl, e6, e7⟩))))))
    have e : f52j6 (((), 0, m, ((), ()), i', j), q) = some (((), 0, m, ((), ()), i', j - 1), ((q.set j.toNat (.nums .u8 b2)).set (j - 1).toNat (.nums .u8 b1))) := by
      unfold f52j6
      dsimp only
      rw [wrap64 (n := j - 1) (by omega) (by omega), inRange_true (i := j - 1) (by omega) (by omega), cond_true, hb2, Option.bind_some, nums0, Option.bind_some, inRange_true (i := j) (by omega) (by omega), cond_true, hb1, Option.bind_some, nums0, Option.bind_some, cond_true,
        show (decide (j.toNat < q.length)) = true by simp; omega, cond_true, List.length_set, inRange_true (i := j - 1) (by omega) (by omega), cond_true, show (decide ((j - 1).toNat < q.length)) = true by simp; omega, cond_true]
    refine .bindS e (.pure ?_)
    dsimp only
    exact ⟨⟨rfl, rfl, rfl, by omega, by omega, by simp; omega, (e7.set _ _ lb2).set _ _ lb1⟩, by omega⟩
  refine .bind (Q := fun r => (r.2.length : Int) = n) (Gd.loop (fun (t : (Unit × Int × Int × (Unit × Unit) × Int) × List PD) => t.1.2.1 = 0 ∧ t.1.2.2.1 = n ∧ 0 ≤ t.1.2.2.2.2 ∧ (t.2.length : Int) = n ∧ Rows t.2) (fun t => (n - t.1.2.2.2.2).toNat) (fun t ht => ?_) _ ⟨rfl, rfl, by show (0 : Int) ≤ IntKind.i64.wrap (0 + 1); decide, hn, hr⟩) fun y hy => .pure (by show y.2.length = l.length; omega)
  obtain ⟨⟨⟨⟩, a, m, ⟨⟨⟩, ⟨⟩⟩, i⟩, q⟩ := t
  obtain ⟨e1, e2, e3, e4, e5⟩ := ht
  dsimp only at e1 e2 e3 e4 e5
  subst e1 e2
  unfold f52l1
  dsimp only
  refine .cond (fun h => ?_) fun h => .pure e4
  have hi : i < m := by simpa using h
  refine .bind (key i q e3 hi e4 e5) fun y ⟨y1, y2, y3, y4, y5⟩ => .pure ?_
  dsimp only
  rw [y1, y2, y3, wrap64 (by omega) (by omega)]
  exact ⟨⟨rfl, rfl, by omega, y4, y5⟩, by omega⟩
theorem f28_gd (l : List PD) (hl : l.length = 4) (hr : Rows l) : Gd (f28 l) fun r => r.2.length = 4 := by
  unfold f28
  rw [hl]
  refine .bindS (a := 3) (by kernel_rfl) ?_
  refine .bind (Q := fun r => r.2.length = 4) ?_ fun y hy => .pure hy
  unfold f43
  refine .bind (Q := fun r => r.2.length = 4) ?_ fun y hy => .pure hy
  obtain ⟨y, hy, hy2⟩ := f52_gd 4 l (by omega) (by omega) hr
  refine .of_eq (a := ((), y.2)) (loopFix_inr ?_) (by show y.2.length = 4; omega)
  unfold f43l2
  dsimp only
  rw [show (decide ((IntKind.i64.wrap (((4 : Nat) : Int) - 0)) ≤ 12)) = true by decide, cond_true, show ((4 : Nat) : Int) = 4 from rfl, hy]
  rfl
end Go.Proofs.Ythoooflagabpoaa
