/-
Chapter 30: AccountAccepts tells true.
-/
import Derived.Test.YthoooflagabpoaaEvV30
set_option linter.unusedVariables false
set_option linter.unusedSimpArgs false
namespace Go.Proofs.Ythoooflagabpoaa
open Go Go.Ev
/-- A credential whose ranges are in order. -/
def Good (c : Cred) (n : Nat) : Prop := ∃ id h r m fo sh u L su si la, c = (id, h, r, m, fo, sh, u, rgs L, su, si, la) ∧ Asc L ∧ L.length ≤ n
theorem acc_good (id : List Int) (h r m fo : Int) (sh : Bool) (u : Int) (L : List (Int × Int)) (su : Bool) (si la leaf f now : Int) (n : Nat) (hs : Asc L) (hl : L.length ≤ n) : Good (acc id h r m fo sh u L su si la leaf f now).1 (n + 1) := by
  unfold acc
  split
  · exact ⟨_, _, _, _, _, _, _, L, _, _, _, rfl, hs, by omega⟩
  · split
    · exact ⟨_, _, _, _, _, _, _, L, _, _, _, rfl, hs, by omega⟩
    · split
      · exact ⟨_, _, _, _, _, _, _, L, _, _, _, rfl, hs, by omega⟩
      · split
        · exact ⟨_, _, _, _, _, _, _, L, _, _, _, rfl, hs, by omega⟩
        · exact ⟨_, _, _, _, _, _, _, ins L f leaf, _, _, _, rfl, ins_asc hs f leaf, by have := ins_len L f leaf; omega⟩
theorem accept_both {c : Cred} {n : Nat} (hc : Good c n) (hn : n ≤ 900) (leaf f now : Int) : ∃ y : Cred × Int, f19 c.1 c.2.1 c.2.2.1 c.2.2.2.1 c.2.2.2.2.1 c.2.2.2.2.2.1 c.2.2.2.2.2.2.1 c.2.2.2.2.2.2.2.1 c.2.2.2.2.2.2.2.2.1 c.2.2.2.2.2.2.2.2.2.1 c.2.2.2.2.2.2.2.2.2.2 leaf f now = some y ∧
    f20 c.1 c.2.1 c.2.2.1 c.2.2.2.1 c.2.2.2.2.1 c.2.2.2.2.2.1 c.2.2.2.2.2.2.1 c.2.2.2.2.2.2.2.1 c.2.2.2.2.2.2.2.2.1 c.2.2.2.2.2.2.2.2.2.1 c.2.2.2.2.2.2.2.2.2.2 leaf f now = some y ∧ Good y.1 (n + 1) := by
  obtain ⟨id, h, r, m, fo, sh, u, L, su, si, la, rfl, hs, hl⟩ := hc
  exact ⟨_, f19_val id h r m fo sh u L hs (by omega) su si la leaf f now, f20_val id h r m fo sh u L hs (by omega) su si la leaf f now, acc_good _ _ _ _ _ _ _ _ _ _ _ _ _ _ n hs hl⟩
theorem same_good {c : Cred} {n : Nat} (hc : Good c n) (hn : n ≤ 1000) : f21 c.1 c.2.1 c.2.2.1 c.2.2.2.1 c.2.2.2.2.1 c.2.2.2.2.2.1 c.2.2.2.2.2.2.1 c.2.2.2.2.2.2.2.1 c.2.2.2.2.2.2.2.2.1 c.2.2.2.2.2.2.2.2.2.1 c.2.2.2.2.2.2.2.2.2.2
    c.1 c.2.1 c.2.2.1 c.2.2.2.1 c.2.2.2.2.1 c.2.2.2.2.2.1 c.2.2.2.2.2.2.1 c.2.2.2.2.2.2.2.1 c.2.2.2.2.2.2.2.2.1 c.2.2.2.2.2.2.2.2.2.1 c.2.2.2.2.2.2.2.2.2.2 = some true := by
  obtain ⟨id, h, r, m, fo, sh, u, L, su, si, la, rfl, hs, hl⟩ := hc
  exact f21_self id h r m fo sh u L (by omega) su si la
section law
variable {xs : List Int} (hl : xs.length ≤ 9223372036854775807)
include hl
theorem f4j18_gd (i : Int) {d : List Int × Int} (hd : DeckOK xs d) {c : Cred} {n : Nat} (hc : Good c n) : Gd (f4j18 (((), (), (), i), (d, c, c))) fun y => y.1 = ((), (), (), i) ∧ DeckOK xs y.2.1 ∧ ∃ c', y.2.2 = (c', c') ∧ Good c' n := by
  obtain ⟨id, h, r, m, fo, sh, u, L, su, si, la, rfl, hs, hl2⟩ := hc
  unfold f4j18 f4j18B
  dsimp only
  refine .cond (fun _ => ?_) fun _ => .pure ⟨rfl, hd, _, rfl, id, h, r, m, fo, sh, u, L, su, si, la, rfl, hs, hl2⟩
  refine .bind (next_gd hl hd 2 (by omega) (by omega)) fun y1 ⟨_, _, d1⟩ => .cond (fun _ => .pure ⟨rfl, d1, _, rfl, id, h, r, m, fo, sh, u, L, false, si, la, rfl, hs, hl2⟩) fun _ => .pure ⟨rfl, d1, _, rfl, id, h, r, m, fo, sh, u, L, su, si, la, rfl, hs, hl2⟩
theorem f4j14_gd (i k g : Int) {d : List Int × Int} (hd : DeckOK xs d) {c : Cred} {n : Nat} (hc : Good c n) (hn : n ≤ 900) : Gd (f4j14 (((), (), (), i, k, g), (d, c, c))) fun y => match y with | .inl _ => False | .inr t => t.1 = ((), (), (), i) ∧ DeckOK xs t.2.1 ∧ ∃ c', t.2.2 = (c', c') ∧ Good c' (n + 1) := by
  obtain ⟨y, h19, h20, hg⟩ := accept_both hc hn k g i
  unfold f4j14 f4j14B
  refine .bindS h19 (.bindS h20 (.condF (by simp) (.bindS (same_good hg (by omega)) (.condF (by simp) ?_))))
  exact .bind (f4j18_gd hl i hd hg) fun y4 ⟨q1, q2, q3⟩ => .pure ⟨by rw [q1], q2, q3⟩
theorem f4j11_gd (i : Int) (h0 : 0 ≤ i) (h40 : i < 40) {d : List Int × Int} (hd : DeckOK xs d) {c : Cred} {n : Nat} (hc : Good c n) (hn : n ≤ 900) : Gd (f4j11 (((), (), (), i), (d, c, c))) fun y => match y with | .inl _ => False | .inr t => t.1 = ((), (), (), i + 1) ∧ DeckOK xs t.2.1 ∧ ∃ c', t.2.2 = (c', c') ∧ Good c' (n + 1) := by
  unfold f4j11 f4j11B
  refine .bind (next_gd hl hd 18 (by omega) (by omega)) fun y1 ⟨_, _, d1⟩ => .bind (next_gd hl d1 18 (by omega) (by omega)) fun y2 ⟨_, _, d2⟩ => .bind (next_gd hl d2 3 (by omega) (by omega)) fun y3 ⟨_, _, d3⟩ => .cond (fun _ => ?_) fun _ => ?_
  · refine .bind (next_gd hl d3 3 (by omega) (by omega)) fun y4 ⟨l4, u4, d4⟩ => .condT (inRange_true l4 (by simpa using u4)) ?_
    obtain ⟨z, hz, _⟩ := idx_some (xs := [(0 : Int), 8, 4]) (n := Int.toNat y4.1) (by simp; omega)
    refine .bindS hz (.bind (f4j14_gd hl i _ z d4 hc hn) fun y6 h6 => ?_)
    cases y6 with
    | inl b => exact h6.elim
    | inr t =>
      obtain ⟨q1, q2, q3⟩ := h6
      refine .pure ⟨?_, q2, q3⟩
      rw [q1]
      dsimp only
      rw [wrap64 (by omega) (by omega)]
  · refine .bind (f4j14_gd hl i _ _ d3 hc hn) fun y6 h6 => ?_
    cases y6 with
    | inl b => exact h6.elim
    | inr t =>
      obtain ⟨q1, q2, q3⟩ := h6
      refine .pure ⟨?_, q2, q3⟩
      rw [q1]
      dsimp only
      rw [wrap64 (by omega) (by omega)]
theorem f4j8_gd {d : List Int × Int} (hd : DeckOK xs d) {c : Cred} (hc : Good c 0) : f4j8 (((), (), ()), (d, c, c)) = some true := Gd.eq (by
  unfold f4j8 f4j8B
  refine .bind (Q := fun r => r = .inr ()) (Gd.loop (fun (t : (Unit × Unit × Unit × Int) × ((List Int × Int) × Cred × Cred)) => ∃ i : Nat, i ≤ 40 ∧ t.1 = ((), (), (), (i : Int)) ∧ DeckOK xs t.2.1 ∧ ∃ c', t.2.2 = (c', c') ∧ Good c' i) (fun t => (40 - t.1.2.2.2).toNat) (fun t ht => ?_) _ ⟨0, by omega, rfl, hd, c, rfl, hc⟩) fun r hr => ?_
  · obtain ⟨t1, t2, t3⟩ := t
    obtain ⟨i, hi, e1, hd, c', e2, hg⟩ := ht
    dsimp only at e1 hd e2
    subst e1 e2
    unfold f4l9 f4l9B
    dsimp only
    refine .cond (fun h => ?_) fun _ => .pure rfl
    have hi40 : (i : Int) < 40 := by simpa using h
    unfold f9
    rw [Option.bind_some]
    refine .cond (fun _ => ?_) fun _ => .pure rfl
    refine .bind (f4j11_gd hl i (by omega) hi40 hd hg (by omega)) fun y2 h2 => ?_
    cases y2 with
    | inl b => exact h2.elim
    | inr t =>
      obtain ⟨q1, q2, q3⟩ := h2
      refine .pure ⟨⟨i + 1, by omega, ?_, q2, q3⟩, ?_⟩
      · rw [q1]
        rfl
      · rw [q1]
        dsimp only
        omega
  · rw [hr]
    exact .bindS f7_true (.pure rfl))
theorem f4_true (a2 a3 a4 a5 : Int) : f4 xs a2 a3 a4 a5 = some true := Gd.eq (by
  unfold f4
  refine .bindS (deck_new xs) (.bind (f18_gd a2 7 (by omega) (by omega)) fun y2 _ => .bind (next_gd hl (deck_ok xs) 4 (by omega) (by omega)) fun y3 ⟨l3, u3, d3⟩ => .condT (inRange_true l3 (by simpa using u3)) ?_)
  obtain ⟨z, hz, _⟩ := idx_some (xs := [a2, IntKind.i64.wrap (y2 - 1), 4, 3]) (n := Int.toNat y3.1) (by simp; omega)
  refine .bindS hz ?_
  obtain ⟨id, hid, h10⟩ := f10_gd 1 z
  have hg : Good (id, z, 5, 0, 0, false, 0, [], false, 3, 0) 0 := ⟨id, z, 5, 0, 0, false, 0, [], false, 3, 0, rfl, .nil, Nat.le_refl _⟩
  obtain ⟨y, h19, h20, hg2⟩ := accept_both hg (by omega) a3 a4 a5
  refine .bindS h10 (.bindS h10 (.bindS h19 (.bindS h20 (.condF (by simp) (.bindS (same_good hg2 (by omega)) (.condF (by simp) (.bindS (f4j8_gd hl d3 hg) (.pure rfl))))))))
  )
end law
end Go.Proofs.Ythoooflagabpoaa
