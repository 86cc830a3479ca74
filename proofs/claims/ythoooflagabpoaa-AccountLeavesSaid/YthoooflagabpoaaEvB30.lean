/-
Chapter 30: the reference's Accept, and sameness.
-/
import Derived.Test.YthoooflagabpoaaEvA30
set_option linter.unusedVariables false
set_option linter.unusedSimpArgs false
namespace Go.Proofs.Ythoooflagabpoaa
open Go Go.Ev
/-- What is yet to be appended. -/
def rest (f l : Int) : List (Int × Int) → Bool → List (Int × Int)
  | [], d => if d then [] else [(f, l)]
  | (a, b) :: s, d => if a = f then (f, l) :: rest f l s true else if a > f ∧ d = false then (f, l) :: (a, b) :: rest f l s true else (a, b) :: rest f l s d
theorem rest_done (f l : Int) : ∀ (s : List (Int × Int)), (∀ p ∈ s, p.1 ≠ f) → rest f l s true = s
  | [], _ => rfl
  | (a, b) :: s, h => by
    unfold rest
    rw [if_neg (h (a, b) (by simp)), if_neg (by simp), rest_done f l s fun p hp => h p (by simp [hp])]
theorem rest_ins {L : List (Int × Int)} (h : Asc L) (f l : Int) : rest f l L false = ins L f l := by
  induction L with
  | nil => rfl
  | cons q r ih =>
    obtain ⟨a, b⟩ := q
    obtain ⟨h1, h2⟩ := List.pairwise_cons.1 h
    unfold rest ins
    split
    · rename_i e
      subst e
      rw [rest_done _ l r fun p hp => by have := h1 p hp; dsimp only at this; omega]
    · split
      · rename_i hgt
        rw [if_pos hgt.1, rest_done f l r fun p hp => by have := h1 p hp; dsimp only at this; omega]
      · rename_i hgt
        rw [if_neg (by simpa using hgt), ih h2]
theorem hasGe_take {L : List (Int × Int)} {f l : Int} {i : Nat} (hi : i < L.length) : hasGe (L.take (i + 1)) f l = (hasGe (L.take i) f l || (L[i].1 == f && decide (L[i].2 ≥ l))) := by
  unfold hasGe
  rw [List.take_succ_eq_append_getElem hi, List.any_append]
  simp
abbrev S20 := (Int × Int × Int × Unit × Unit × Unit × Bool × Int) × (Cred × Cred × List PD)
theorem f20j22_val (leaf f now : Int) (d : Bool) (i : Int) (c z : Cred) (A : List (Int × Int)) (p : Int × Int) (hA : A.length ≤ 100000) :
    f20j22 ((leaf, f, now, (), (), (), d, i, ()), (c, z, rgs A, p)) = some ((leaf, f, now, (), (), (), d, i), (c, z, rgs (A ++ [p]))) := by
  obtain ⟨c1, c2, c3, c4, c5, c6, c7, c8, c9, c10, c11⟩ := c
  obtain ⟨z1, z2, z3, z4, z5, z6, z7, z8, z9, z10, z11⟩ := z
  unfold f20j22 f20j22B
  dsimp only
  rw [show (decide (((rgs A ++ [(PD.agg [(.int .i64 p.1), (.int .i64 p.2)])]).length) * 16 ≤ 140737488355328)) = true by simp [rgs_len]; omega, cond_true, rgs_app]
  rfl
theorem f20j19_val (leaf f now : Int) (d : Bool) (i : Int) (c z : Cred) (A : List (Int × Int)) (p : Int × Int) (hA : A.length ≤ 10000) :
    f20j19 ((leaf, f, now, (), (), (), d, i, ()), (c, z, rgs A, p)) = some ((leaf, f, now, (), (), (), d || decide (p.1 > f), i), (c, z, rgs (A ++ (if p.1 > f ∧ d = false then [(f, leaf), p] else [p])))) := by
  obtain ⟨c1, c2, c3, c4, c5, c6, c7, c8, c9, c10, c11⟩ := c
  obtain ⟨z1, z2, z3, z4, z5, z6, z7, z8, z9, z10, z11⟩ := z
  unfold f20j19 f20j19B
  dsimp only
  by_cases hgt : p.1 > f
  · rw [show (decide (p.1 > f)) = true by simpa using hgt, cond_true]
    cases d with
    | false =>
      have e : rgs A ++ [(PD.agg [(.int .i64 f), (.int .i64 leaf)])] = rgs (A ++ [(f, leaf)]) := by rw [rgs_app]; rfl
      rw [show (!false) = true from rfl, cond_true, e, show (decide (((rgs (A ++ [(f, leaf)])).length) * 16 ≤ 140737488355328)) = true by simp [rgs_len]; omega, cond_true,
        f20j22_val leaf f now true i _ _ (A ++ [(f, leaf)]) p (by simp; omega), if_pos ⟨hgt, rfl⟩, List.append_assoc]
      rfl
    | true =>
      rw [show (!true) = false from rfl, cond_false, f20j22_val leaf f now true i _ _ A p (by omega), if_neg (by simp)]
      rfl
  · rw [show (decide (p.1 > f)) = false by simpa using hgt, cond_false, f20j22_val leaf f now d i _ _ A p (by omega), if_neg (by simp [hgt])]
    cases d <;> rfl
theorem f20l11_gd (id : List Int) (h r m fo : Int) (sh : Bool) (u : Int) (L : List (Int × Int)) (hl : L.length ≤ 1000) (su : Bool) (si la leaf f now : Int) (z : Cred) :
    Gd (loopFix f20l11 ((leaf, f, now, (), (), (), false, 0), ((id, h, r, m, fo, sh, u, rgs L, su, si, la), z, []))) fun y => match y with
      | .inl t => t.1.2 = 37 ∧ t.2.2.1 = (id, h, r, m, fo, sh, u, rgs L, su, si, la) ∧ hasGe L f leaf = true
      | .inr t => hasGe L f leaf = false ∧ ∃ (d : Bool) (A : List (Int × Int)), t = ((leaf, f, now, (), (), (), d), ((id, h, r, m, fo, sh, u, rgs L, su, si, la), z, rgs A)) ∧ A.length ≤ L.length + 1 ∧ A ++ rest f leaf [] d = rest f leaf L false := by
  obtain ⟨z1, z2, z3, z4, z5, z6, z7, z8, z9, z10, z11⟩ := z
  refine Gd.loop (fun (t : S20) => ∃ (d : Bool) (i : Nat) (A : List (Int × Int)), t = ((leaf, f, now, (), (), (), d, (i : Int)), ((id, h, r, m, fo, sh, u, rgs L, su, si, la), (z1, z2, z3, z4, z5, z6, z7, z8, z9, z10, z11), rgs A)) ∧ i ≤ L.length ∧ A.length ≤ i + (if d then 1 else 0) ∧
      A ++ rest f leaf (L.drop i) d = rest f leaf L false ∧ hasGe (L.take i) f leaf = false) (fun t => ((L.length : Int) - t.1.2.2.2.2.2.2.2).toNat) (fun t ht => ?_) _ ⟨false, 0, [], rfl, Nat.zero_le _, by simp, rfl, rfl⟩
  obtain ⟨d, i, A, rfl, hi, hA, hrest, hge⟩ := ht
  unfold f20l11 f20l11B
  dsimp only
  rw [rgs_len]
  have hA2 : A.length ≤ 10000 := by split at hA <;> omega
  refine .cond (fun hlt => ?_) fun hlt => .pure ?_
  · have hlt : i < L.length := by simpa using hlt
    have hd : L.drop i = L[i] :: L.drop (i + 1) := List.drop_eq_getElem_cons hlt
    refine .bindS (rgs_getI L i hlt) (.bindS (rg0 _) (.bindS (rg1 _) ?_))
    have hw : IntKind.i64.wrap ((i : Int) + 1) = ((i + 1 : Nat) : Int) := by rw [wrap64 (by omega) (by omega)]; omega
    refine .cond (fun heq => ?_) fun heq => ?_
    · have heq : L[i].1 = f := by simpa using heq
      refine .cond (fun h7 => .pure ⟨rfl, rfl, ?_⟩) fun h7 => ?_
      · have h7 : L[i].2 ≥ leaf := by simpa using h7
        unfold hasGe
        rw [List.any_eq_true]
        exact ⟨L[i], List.getElem_mem hlt, by simp [heq, h7]⟩
      · have h7 : ¬ L[i].2 ≥ leaf := by simpa using h7
        refine .bindS (f20j19_val leaf f now true i _ _ A (L[i].1, leaf) hA2) (.pure ?_)
        dsimp only
        rw [hw]
        refine ⟨⟨true, i + 1, A ++ [(f, leaf)], by rw [if_neg (by simp), heq]; rfl, hlt, ?_, ?_, ?_⟩, by omega⟩
        · rw [List.length_append]
          split at hA <;> simp <;> omega
        · rw [← hrest, hd, List.append_assoc]
          conv => rhs; unfold rest
          rw [show L[i] = (L[i].1, L[i].2) from rfl]
          dsimp only
          rw [if_pos heq]
          rfl
        · rw [hasGe_take hlt, hge]
          simp [h7]
    · have heq : ¬ L[i].1 = f := by simpa using heq
      refine .bindS (f20j19_val leaf f now d i _ _ A (L[i].1, L[i].2) hA2) (.pure ?_)
      dsimp only
      rw [hw]
      refine ⟨⟨d || decide (L[i].1 > f), i + 1, A ++ (if L[i].1 > f ∧ d = false then [(f, leaf), (L[i].1, L[i].2)] else [(L[i].1, L[i].2)]), rfl, hlt, ?_, ?_, ?_⟩, by omega⟩
      · rw [List.length_append]
        by_cases hgt : L[i].1 > f
        · cases d <;> simp [hgt] at hA ⊢ <;> omega
        · cases d <;> simp [hgt] at hA ⊢ <;> omega
      · rw [← hrest, hd, List.append_assoc]
        conv => rhs; unfold rest
        rw [show L[i] = (L[i].1, L[i].2) from rfl]
        dsimp only
        rw [if_neg heq]
        by_cases hgt : L[i].1 > f
        · cases d with
          | false => rw [if_pos ⟨hgt, rfl⟩, if_pos ⟨hgt, rfl⟩]; simp [hgt]
          | true => rw [if_neg (by simp), if_neg (by simp)]; simp
        · rw [if_neg (by simp [hgt]), if_neg (by simp [hgt])]
          simp [hgt]
      · rw [hasGe_take hlt, hge]
        simp [heq]
  · have hlt : ¬ i < L.length := by simpa using hlt
    rw [List.take_of_length_le (by omega)] at hge
    rw [List.drop_of_length_le (by omega)] at hrest
    exact ⟨hge, d, A, rfl, by split at hA <;> omega, hrest⟩
theorem f20j25_val (leaf now : Int) (h0 : 0 ≤ leaf) (h1 : leaf < 1000) (id : List Int) (h r m fo : Int) (sh : Bool) (u : Int) (X : List PD) (su : Bool) (si la : Int) (z : Cred) (Y : List PD) :
    f20j25 ((leaf, now, (), (), ()), ((id, h, r, m, fo, sh, u, X, su, si, la), z, Y)) = some (((), 0), ((id, h, r, m, fo, sh, bitsI .or .u64 u (shlI .u64 1 leaf), (), su, si, now), Y)) := by
  unfold f20j25 f20j25B
  dsimp only
  rw [wrapU64 h0 (by omega), show (decide (0 ≤ leaf)) = true by simpa using h0]
  rfl
theorem shl_le (h : Int) (h0 : 0 ≤ h) (h4 : h ≤ 4) : shlI .i64 1 h ≤ 16 := by
  have : h = 0 ∨ h = 1 ∨ h = 2 ∨ h = 3 ∨ h = 4 := by omega
  rcases this with rfl | rfl | rfl | rfl | rfl <;> decide
theorem f20_val (id : List Int) (h r m fo : Int) (sh : Bool) (u : Int) (L : List (Int × Int)) (hs : Asc L) (hl : L.length ≤ 1000) (su : Bool) (si la leaf f now : Int) :
    f20 id h r m fo sh u (rgs L) su si la leaf f now = some (acc id h r m fo sh u L su si la leaf f now) := by
  unfold f20 acc f35
  by_cases c1 : h < 0
  · rw [if_pos (.inl c1), show (decide (h ≥ 0)) = false by simp; omega]
    rfl
  by_cases c2 : 4 < h
  · rw [if_pos (.inr (.inl c2)), show (decide (h ≥ 0)) = true by simp; omega, show (decide (h ≤ 4)) = false by simp; omega]
    rfl
  rw [show (decide (h ≥ 0)) = true by simp; omega, show (decide (h ≤ 4)) = true by simp; omega, cond_true, Option.bind_some, show (!true) = false from rfl, cond_false]
  by_cases c3 : f < 0
  · simp [c1, c2, c3]
  by_cases c4 : leaf < f
  · simp [c1, c2, c3, c4]
  have hu : IntKind.u64.wrap h = h := wrapU64 (by omega) (by omega)
  rw [hu]
  by_cases c5 : shlI .i64 1 h ≤ leaf
  · rw [if_pos (.inr (.inr (.inr (.inr c5))))]
    simp only [c3, c4, decide_false, cond_false, show leaf ≥ shlI .i64 1 h from c5, show 0 ≤ h by omega, decide_true, cond_true]
  rw [if_neg (by omega)]
  have h0 : 0 ≤ leaf := by omega
  have h16 := shl_le h (by omega) (by omega)
  simp only [c3, c4, decide_false, cond_false, show ¬ leaf ≥ shlI .i64 1 h by omega, show 0 ≤ h by omega, decide_true, cond_true]
  cases su with
  | true => rfl
  | false =>
    rw [cond_false, if_neg (by simp), wrapU64 (n := leaf) h0 (by omega), show (decide (0 ≤ leaf)) = true by simpa using h0, cond_true]
    by_cases c6 : bitsI .and .u64 (shrI .u64 u leaf) 1 = 1
    · rw [if_pos c6, show ((bitsI .and .u64 (shrI .u64 u leaf) 1) == 1) = true by simpa using c6]
      rfl
    · rw [if_neg c6, show ((bitsI .and .u64 (shrI .u64 u leaf) 1) == 1) = false by simpa using c6, cond_false]
      unfold f20j8 f20j8B
      dsimp only
      obtain ⟨y, hy, hq⟩ := f20l11_gd id h r m fo sh u L hl false si la leaf f now ([], 0, 0, 0, 0, false, 0, [], false, 0, 0)
      rw [hy, Option.bind_some]
      cases y with
      | inl t =>
        obtain ⟨q1, q2, q3⟩ := hq
        dsimp only at q1 q2 q3 ⊢
        rw [q1, q2, if_pos q3]
        rfl
      | inr t =>
        obtain ⟨q1, d, A, rfl, q2, q3⟩ := hq
        rw [if_neg (by rw [q1]; simp)]
        dsimp only
        cases d with
        | false =>
          have e : rgs A ++ [(PD.agg [(.int .i64 f), (.int .i64 leaf)])] = rgs (ins L f leaf) := by
            rw [← rest_ins hs, ← q3, rgs_app]; rfl
          rw [show (!false) = true from rfl, cond_true, e, show (decide (((rgs (ins L f leaf)).length) * 16 ≤ 140737488355328)) = true by
            have := ins_len L f leaf
            simp [rgs_len]; omega, cond_true, f20j25_val leaf now h0 (by omega)]
          rfl
        | true =>
          have e : A = ins L f leaf := by rw [← rest_ins hs, ← q3]; simp [rest]
          rw [show (!true) = false from rfl, cond_false, f20j25_val leaf now h0 (by omega), e]
          rfl
/-! ### Sameness -/
theorem f36_self (L : List (Int × Int)) (hl : L.length ≤ 1000000) : f36 (rgs L) (rgs L) = some true := Gd.eq (by
  unfold f36
  rw [show ((((rgs L).length : Nat) : Int) != (((rgs L).length : Nat) : Int)) = false by simp, cond_false]
  refine .bind (Q := fun r => r = .inr ()) (Gd.loop (fun (t : List PD × List PD × Int) => t.1 = rgs L ∧ t.2.1 = rgs L ∧ ∃ i : Nat, t.2.2 = i ∧ i ≤ L.length) (fun t => ((L.length : Int) - t.2.2).toNat) (fun t ht => ?_) _ ⟨rfl, rfl, 0, rfl, Nat.zero_le _⟩) fun r hr => ?_
  · obtain ⟨xs, ys, j⟩ := t
    obtain ⟨e1, e2, i, e3, hi⟩ := ht
    dsimp only at e1 e2 e3
    subst e1 e2 e3
    unfold f36l4
    dsimp only
    rw [rgs_len]
    refine .cond (fun h => ?_) fun h => .pure rfl
    have hi : i < L.length := by simpa using h
    refine .bindS (rgs_getI L i hi) (.bindS (rg0 _) (.bindS (rg1 _) (.bindS (rgs_getI L i hi) (.bindS (rg0 _) (.bindS (rg1 _) ?_)))))
    refine .condF (by simp) (.pure ?_)
    dsimp only
    rw [wrap64 (by omega) (by omega)]
    exact ⟨⟨rfl, rfl, i + 1, by omega, by omega⟩, by omega⟩
  · rw [hr]
    exact .pure rfl)
theorem strEq_self (b : ByteArray) : strEq b b = true := by simp [strEq]
theorem f21_self (id : List Int) (h r m fo : Int) (sh : Bool) (u : Int) (L : List (Int × Int)) (hl : L.length ≤ 1000000) (su : Bool) (si la : Int) :
    f21 id h r m fo sh u (rgs L) su si la id h r m fo sh u (rgs L) su si la = some true := by
  unfold f21
  rw [strEq_self, f36_self L hl]
  simp
end Go.Proofs.Ythoooflagabpoaa
