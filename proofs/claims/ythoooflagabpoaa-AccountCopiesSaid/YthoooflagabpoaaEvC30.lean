/-
Chapter 30: AccountCopies tells true.
-/
import Derived.Test.YthoooflagabpoaaEvF30
import Derived.Test.YthoooflagabpoaaEvWf
set_option linter.unusedVariables false
set_option linter.unusedSimpArgs false
namespace Go.Proofs.Ythoooflagabpoaa
open Go Go.Ev
set_option maxRecDepth 100000
def usedTo (M : Nat) : Int := 2 ^ M - 1
def rngTo : Nat → List (Int × Int)
  | 0 => []
  | M + 1 => [(0, (M : Int))]
theorem bits_old : ∀ M : Fin 17, ∀ l : Fin 17, l.1 < M.1 → bitsI .and .u64 (shrI .u64 (usedTo M.1) (l.1 : Nat)) 1 = 1 := by decide +kernel
theorem bits_new : ∀ M : Fin 16, bitsI .and .u64 (shrI .u64 (usedTo M.1) (M.1 : Nat)) 1 ≠ 1 ∧ bitsI .or .u64 (usedTo M.1) (shlI .u64 1 (M.1 : Nat)) = usedTo (M.1 + 1) := by decide +kernel
theorem shl4 : shlI .i64 1 4 = 16 := by decide +kernel
theorem rngTo_asc (M : Nat) : Asc (rngTo M) := by
  cases M with
  | zero => exact .nil
  | succ M => exact List.pairwise_singleton _ _
theorem rngTo_len (M : Nat) : (rngTo M).length ≤ 1 := by cases M <;> simp [rngTo]
/-- The credential of which the leaves below M are used. -/
def cr (id : List Int) (M : Nat) (la : Int) : Cred := (id, 4, 5, 0, 0, false, usedTo M, rgs (rngTo M), false, 3, la)
theorem acc_old (id : List Int) (M l : Nat) (hM : M ≤ 16) (hl : l < M) (la i : Int) : f19 id 4 5 0 0 false (usedTo M) (rgs (rngTo M)) false 3 la (l : Int) 0 i = some ((id, 4, 5, 0, 0, false, usedTo M, rgs (rngTo M), true, 3, la), 37) := by
  rw [f19_val id 4 5 0 0 false _ _ (rngTo_asc M) (Nat.le_trans (rngTo_len M) (by omega)) false 3 la l 0 i]
  unfold acc
  rw [if_neg (by rw [shl4]; omega), if_neg (by simp), if_pos (bits_old ⟨M, by omega⟩ ⟨l, by omega⟩ hl)]
theorem acc_new (id : List Int) (M : Nat) (hM : M < 16) (la i : Int) : f19 id 4 5 0 0 false (usedTo M) (rgs (rngTo M)) false 3 la (M : Int) 0 i = some (cr id (M + 1) i, 0) := by
  rw [f19_val id 4 5 0 0 false _ _ (rngTo_asc M) (Nat.le_trans (rngTo_len M) (by omega)) false 3 la M 0 i]
  obtain ⟨b1, b2⟩ := bits_new ⟨M, hM⟩
  have hg : hasGe (rngTo M) 0 M = false := by
    cases M with
    | zero => rfl
    | succ M => simp [hasGe, rngTo]; omega
  have hi : ins (rngTo M) 0 M = rngTo (M + 1) := by
    cases M with
    | zero => rfl
    | succ M => simp [ins, rngTo]
  unfold acc cr
  rw [if_neg (by rw [shl4]; omega), if_neg (by simp), if_neg b1, if_neg (by rw [hg]; simp), hi, b2]
/-- Where the two copies stand. -/
def Inv (c : Cred) (nx : List Int) : Prop := ∃ (id : List Int) (p q : Nat) (la : Int), p ≤ 16 ∧ q ≤ 16 ∧ nx = [(p : Int), (q : Int)] ∧ c = cr id (max p q) la
theorem f6j9_gd (who : List PD) (i k : Int) (hk : k = 0 ∨ k = 1) {c : Cred} {nx : List Int} (h : Inv c nx) : Gd (f6j9 ((who, (), (), i, k), (c, nx))) fun y => match y with
    | .inl t => t.1 = (who, (), (), i) ∧ Inv t.2.1 t.2.2 | .inr (.inl t) => t.1 = true | .inr (.inr t) => t.1 = (who, (), (), i) ∧ Inv t.2.1 t.2.2 := by
  obtain ⟨id, p, q, la, hp, hq, rfl, rfl⟩ := h
  -- the own number, the other's
  have key : ∀ (m o : Nat) (nx' : List Int), m ≤ 16 → o ≤ 16 → max m o = max p q → [(p : Int), (q : Int)][k.toNat]? = some (m : Int) → IntKind.i64.wrap (1 - k) = 1 - k → (∀ z : Int, ([(p : Int), (q : Int)].set k.toNat z)[(1 - k).toNat]? = some (o : Int)) →
      (∀ z : Nat, z ≤ 16 → ∃ (p' q' : Nat), p' ≤ 16 ∧ q' ≤ 16 ∧ [(p : Int), (q : Int)].set k.toNat (z : Int) = [(p' : Int), (q' : Int)] ∧ max p' q' = max z o) →
      Gd (f6j9 ((who, (), (), i, k), (cr id (max p q) la, [(p : Int), (q : Int)]))) fun y => match y with
        | .inl t => t.1 = (who, (), (), i) ∧ Inv t.2.1 t.2.2 | .inr (.inl t) => t.1 = true | .inr (.inr t) => t.1 = (who, (), (), i) ∧ Inv t.2.1 t.2.2 := by
    intro m o nx' hm ho hmo g1 g2 g3 g4
    unfold f6j9 cr
    dsimp only
    refine .condT (inRange_true (by omega) (by omega)) (.bindS g1 ?_)
    refine .cond (fun _ => .pure ⟨rfl, id, p, q, la, hp, hq, rfl, rfl⟩) fun h15 => ?_
    have h15 : m ≤ 15 := by have : ¬ ((m : Int) > 15) := by simpa using h15
                            omega
    refine .condT (inRange_true (by omega) (by omega)) (.bindS g1 (.condT (inRange_true (by omega) (by omega)) (.condT (by simp; omega) ?_)))
    have hw : IntKind.i64.wrap ((m : Int) + 1) = ((m + 1 : Nat) : Int) := by rw [wrap64 (by omega) (by omega)]; omega
    rw [g2, hw]
    by_cases hlt : m < o
    · have hM : max p q = o := by omega
      rw [hM]
      refine .bindS (acc_old id o m ho hlt la i) (.condT (inRange_true (by omega) (by omega)) (.bindS (g3 _) (.condT (by simp; omega) (.condT (by simp) (.condT rfl (.bindS f7_true (.pure rfl)))))))
    · have hM : max p q = m := by omega
      rw [hM]
      refine .bindS (acc_new id m (by omega) la i) (.condT (inRange_true (by omega) (by omega)) (.bindS (g3 _) (.condF (by simp; omega) (.condF (by simp) (.pure ⟨rfl, ?_⟩)))))
      obtain ⟨p', q', hp', hq', e1, e2⟩ := g4 (m + 1) (by omega)
      exact ⟨id, p', q', i, hp', hq', e1, by rw [e2, show max (m + 1) o = m + 1 by omega]⟩
  rcases hk with rfl | rfl
  · exact key p q [] hp hq rfl rfl (by decide) (fun z => rfl) fun z hz => ⟨z, q, hz, hq, rfl, rfl⟩
  · exact key q p [] hq hp (by omega) rfl (by decide) (fun z => rfl) fun z hz => ⟨p, z, hp, hz, rfl, by omega⟩
theorem f6_true (who : List PD) (hl : who.length ≤ 9223372036854775807) (hb : ∀ y ∈ who, ∃ b, y = .bool b) : f6 who = some true := Gd.eq (by
  unfold f6
  obtain ⟨id, hid, h10⟩ := f10_gd 1 4
  refine .bindS h10 (.bind (Q := fun r => r = .inl true ∨ r = .inr ()) (Gd.loop (fun (t : (List PD × Unit × Unit × Int) × (Cred × List Int)) => t.1.1 = who ∧ 0 ≤ t.1.2.2.2 ∧ t.1.2.2.2 ≤ 32 ∧ Inv t.2.1 t.2.2) (fun t => (32 - t.1.2.2.2).toNat) (fun t ht => ?_) _ ⟨rfl, by show (0 : Int) ≤ 0; omega, by show (0 : Int) ≤ 32; omega, id, 0, 0, 0, by omega, by omega, rfl, rfl⟩) fun r hr => ?_)
  · obtain ⟨⟨w, ⟨⟩, ⟨⟩, i⟩, c, nx⟩ := t
    obtain ⟨e1, e2, e3, hI⟩ := ht
    dsimp only at e1 e2 e3 hI
    subst e1
    unfold f6l4
    dsimp only
    refine .cond (fun h => ?_) fun _ => .pure (.inr rfl)
    have hi : i < w.length := by simpa using h
    refine .cond (fun h => ?_) fun _ => .pure (.inr rfl)
    have hi32 : i < 32 := by simpa using h
    have hw : IntKind.i64.wrap (i + 1) = i + 1 := wrap64 (by omega) (by omega)
    have j6 : Gd (f6j6 ((w, (), (), i), (c, nx))) fun y => match y with | .inl t => t.1 = (w, (), (), i + 1) ∧ Inv t.2.1 t.2.2 | .inr b => b = true := by
      obtain ⟨z, hz, hm⟩ := getI_ok (xs := w) e2 hi
      obtain ⟨b, rfl⟩ := hb z hm
      unfold f6j6
      dsimp only
      refine .bindS hz (.bindS (a := b) rfl ?_)
      have fin : ∀ k : Int, k = 0 ∨ k = 1 → Gd (f6j9 ((w, (), (), i, k), (c, nx))) fun y => match y with
        | .inl t => t.1 = (w, (), (), i) ∧ Inv t.2.1 t.2.2 | .inr (.inl t) => t.1 = true | .inr (.inr t) => t.1 = (w, (), (), i) ∧ Inv t.2.1 t.2.2 := fun k hk => f6j9_gd w i k hk hI
      cases b with
      | true =>
        refine .bind (fin 1 (.inr rfl)) fun y hy => ?_
        rcases y with t | t | t
        · exact .pure ⟨by dsimp only; rw [hy.1]; dsimp only; rw [hw], hy.2⟩
        · exact .pure hy
        · exact .pure ⟨by dsimp only; rw [hy.1]; dsimp only; rw [hw], hy.2⟩
      | false =>
        refine .bind (fin 0 (.inl rfl)) fun y hy => ?_
        rcases y with t | t | t
        · exact .pure ⟨by dsimp only; rw [hy.1]; dsimp only; rw [hw], hy.2⟩
        · exact .pure hy
        · exact .pure ⟨by dsimp only; rw [hy.1]; dsimp only; rw [hw], hy.2⟩
    refine .bind j6 fun y hy => ?_
    cases y with
    | inl t =>
      obtain ⟨q1, q2⟩ := hy
      refine .pure ⟨⟨?_, ?_, ?_, q2⟩, ?_⟩
      · rw [q1]
      · rw [q1]; show 0 ≤ i + 1; omega
      · rw [q1]; show i + 1 ≤ 32; omega
      · rw [q1]; show (32 - (i + 1)).toNat < (32 - i).toNat; omega
    | inr b =>
      have hy : b = true := hy
      rw [hy]
      exact .pure (.inl rfl)
  · rcases hr with rfl | rfl
    · exact .pure rfl
    · exact .bindS f7_true (.pure rfl))
theorem copies_pure (a1 : List PD)
    (la1 : a1.length ≤ maxLen) {na1 : Nat} (wa1 : ∀ y ∈ a1, ElemWf (aggT Try.prog 4) (WfV Try.prog na1 4) y) :
    f6 a1 = some true :=
  f6_true a1 (Nat.le_trans la1 maxLen_le) fun y hy => by
    have h := wa1 y hy
    have h : WfV Try.prog na1 4 [y] := by simpa [ElemWf, show aggT Try.prog 4 = false by kernel_rfl] using h
    obtain ⟨b, e⟩ := wfv_bool Try.underlying4 h
    exact ⟨b, List.head_eq_of_cons_eq e⟩
end Go.Proofs.Ythoooflagabpoaa
