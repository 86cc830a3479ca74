/-
Chapter 30: Accept, of the values alone.
-/
import Derived.Test.YthoooflagabpoaaEvS30
set_option linter.unusedVariables false
set_option linter.unusedSimpArgs false
namespace Go.Proofs.Ythoooflagabpoaa
open Go Go.Ev
/-! ### Ranges -/
def rg (p : Int × Int) : PD := .agg [.int .i64 p.1, .int .i64 p.2]
def rgs (L : List (Int × Int)) : List PD := L.map rg
theorem rg0 (p : Int × Int) : PD.intAt .i64 (rg p) 0 = some p.1 := rfl
theorem rg1 (p : Int × Int) : PD.intAt .i64 (rg p) 1 = some p.2 := rfl
theorem rgs_len (L : List (Int × Int)) : (rgs L).length = L.length := by simp [rgs]
theorem rgs_app (A B : List (Int × Int)) : rgs (A ++ B) = rgs A ++ rgs B := by simp [rgs]
theorem rgs_getI (L : List (Int × Int)) (k : Nat) (h : k < L.length) : getI (rgs L) (k : Int) = some (rg L[k]) := by
  rw [getI_lt _ _ (by rw [rgs_len]; exact h)]
  simp [rgs]
theorem rgs_set (L : List (Int × Int)) (k : Nat) (p : Int × Int) : (rgs L).set k (rg p) = rgs (L.set k p) := by simp [rgs, List.map_set]
def ins : List (Int × Int) → Int → Int → List (Int × Int)
  | [], f, l => [(f, l)]
  | (a, b) :: r, f, l => if a = f then (f, l) :: r else if a > f then (f, l) :: (a, b) :: r else (a, b) :: ins r f l
def hasGe (L : List (Int × Int)) (f l : Int) : Bool := L.any fun p => p.1 == f && decide (p.2 ≥ l)
def Asc (L : List (Int × Int)) : Prop := L.Pairwise fun p q => p.1 < q.1
theorem ins_mem {L : List (Int × Int)} {f l : Int} : ∀ p ∈ ins L f l, p.1 = f ∨ p ∈ L := by
  induction L with
  | nil => intro p hp; simp [ins] at hp; exact .inl (by rw [hp])
  | cons q r ih =>
    obtain ⟨a, b⟩ := q
    intro p hp
    unfold ins at hp
    split at hp
    · rcases List.mem_cons.1 hp with rfl | hp
      · exact .inl rfl
      · exact .inr (List.mem_cons_of_mem _ hp)
    · split at hp
      · rcases List.mem_cons.1 hp with rfl | hp
        · exact .inl rfl
        · exact .inr hp
      · rcases List.mem_cons.1 hp with rfl | hp
        · exact .inr (by simp)
        · exact (ih p hp).imp id (List.mem_cons_of_mem _)
theorem ins_asc {L : List (Int × Int)} (h : Asc L) (f l : Int) : Asc (ins L f l) := by
  induction L with
  | nil => exact List.pairwise_singleton _ _
  | cons q r ih =>
    obtain ⟨a, b⟩ := q
    obtain ⟨h1, h2⟩ := List.pairwise_cons.1 h
    unfold ins
    split
    · rename_i e
      subst e
      exact List.pairwise_cons.2 ⟨h1, h2⟩
    · split
      · rename_i hgt
        exact List.pairwise_cons.2 ⟨fun p hp => by
          rcases List.mem_cons.1 hp with rfl | hp
          · exact hgt
          · exact Int.lt_trans hgt (h1 p hp), h⟩
      · refine List.pairwise_cons.2 ⟨fun p hp => ?_, ih h2⟩
        rcases ins_mem p hp with e | hp
        · show a < p.1
          omega
        · exact h1 p hp
theorem ins_len (L : List (Int × Int)) (f l : Int) : (ins L f l).length ≤ L.length + 1 := by
  induction L with
  | nil => simp [ins]
  | cons q r ih =>
    obtain ⟨a, b⟩ := q
    unfold ins
    split
    · simp
    · split
      · simp
      · simp; exact ih
theorem ins_at {L : List (Int × Int)} (h : Asc L) (f l : Int) : ∀ (k : Nat) (hk : k < L.length), L[k].1 = f → ins L f l = L.set k (f, l) := by
  induction L with
  | nil => intro k hk; simp at hk
  | cons q r ih =>
    obtain ⟨a, b⟩ := q
    obtain ⟨h1, h2⟩ := List.pairwise_cons.1 h
    intro k hk e
    unfold ins
    cases k with
    | zero =>
      rw [if_pos (by simpa using e)]
      rfl
    | succ k =>
      have hk' : k < r.length := by simpa using hk
      have e' : r[k].1 = f := by simpa using e
      have := h1 r[k] (List.getElem_mem hk')
      dsimp only at this
      rw [if_neg (by omega), if_neg (by omega), ih h2 k hk' e']
      rfl
theorem ins_new {L : List (Int × Int)} (f l : Int) : ∀ (k : Nat), k ≤ L.length → (∀ j (hj : j < L.length), j < k → L[j].1 < f) → (∀ hk : k < L.length, L[k].1 > f) → ins L f l = L.take k ++ [(f, l)] ++ L.drop k := by
  induction L with
  | nil =>
    intro k hk _ _
    simp [ins]
  | cons q r ih =>
    obtain ⟨a, b⟩ := q
    intro k hk h1 h2
    unfold ins
    cases k with
    | zero =>
      have := h2 (by simp)
      simp only [List.getElem_cons_zero] at this
      rw [if_neg (by omega), if_pos (by omega)]
      rfl
    | succ k =>
      have := h1 0 (by simp) (by omega)
      simp only [List.getElem_cons_zero] at this
      rw [if_neg (by omega), if_neg (by omega), ih k (by simpa using hk) (fun j hj hjk => by
        have := h1 (j + 1) (by simpa using hj) (by omega)
        simpa using this) (fun hk' => by
        have := h2 (by simpa using hk')
        simpa using this)]
      rfl
theorem hasGe_at {L : List (Int × Int)} (h : Asc L) (f l : Int) : ∀ (k : Nat) (hk : k < L.length), L[k].1 = f → hasGe L f l = decide (L[k].2 ≥ l) := by
  induction L with
  | nil => intro k hk; simp at hk
  | cons q r ih =>
    obtain ⟨a, b⟩ := q
    obtain ⟨h1, h2⟩ := List.pairwise_cons.1 h
    intro k hk e
    unfold hasGe
    rw [List.any_cons]
    cases k with
    | zero =>
      have ea : a = f := by simpa using e
      have : (r.any fun p => p.1 == f && decide (p.2 ≥ l)) = false := by
        rw [List.any_eq_false]
        intro p hp
        have := h1 p hp
        dsimp only at this
        have : ¬ p.1 = f := by omega
        simp [this]
      rw [this]
      simp [ea]
    | succ k =>
      have hk' : k < r.length := by simpa using hk
      have e' : r[k].1 = f := by simpa using e
      have := h1 r[k] (List.getElem_mem hk')
      dsimp only at this
      have ea : (a == f) = false := by simp; omega
      have := ih h2 k hk' e'
      unfold hasGe at this
      rw [ea, this]
      simp
theorem hasGe_none {L : List (Int × Int)} (f l : Int) (h : ∀ p ∈ L, p.1 ≠ f) : hasGe L f l = false := by
  unfold hasGe
  rw [List.any_eq_false]
  intro p hp
  simp [h p hp]
/-! ### The two searches -/
theorem f30_gd (L : List (Int × Int)) (hl : L.length ≤ 1000000) (f : Int) : Gd (f30 (rgs L) f) fun y => y.2 = f ∧ ((∃ k : Nat, ∃ h : k < L.length, y.1 = k ∧ L[k].1 = f) ∨ (y.1 = -1 ∧ ∀ p ∈ L, p.1 ≠ f)) := by
  unfold f30
  refine .bind (Q := fun r => match r with | .inl z => z.2 = f ∧ ∃ k : Nat, ∃ h : k < L.length, z.1 = k ∧ L[k].1 = f | .inr z => z.2 = f ∧ ∀ p ∈ L, p.1 ≠ f)
    (Gd.loop (fun (t : (List PD × (Unit × Unit) × Int × Int) × Int) => t.1.1 = rgs L ∧ t.1.2.2.1 = L.length ∧ t.2 = f ∧ ∃ i : Nat, t.1.2.2.2 = i ∧ i ≤ L.length ∧ ∀ p ∈ L.take i, p.1 ≠ f) (fun t => ((L.length : Int) - t.1.2.2.2).toNat) (fun t ht => ?_) _ ⟨rfl, by rw [rgs_len], rfl, 0, rfl, Nat.zero_le _, by simp⟩) fun r hr => ?_
  · obtain ⟨⟨xs, ⟨⟨⟩, ⟨⟩⟩, n, i'⟩, g⟩ := t
    obtain ⟨e1, e2, e3, i, e4, e5, e6⟩ := ht
    dsimp only at e1 e2 e3 e4
    subst e1 e2 e3 e4
    unfold f30l2
    dsimp only
    refine .cond (fun h => ?_) fun h => .pure ⟨rfl, ?_⟩
    · have hi : i < L.length := by simpa using h
      refine .bindS (rgs_getI L i hi) (.bindS (rg0 _) (.bindS (rg1 _) ?_))
      unfold f31
      rw [Option.bind_some]
      refine .cond (fun h => .pure ⟨rfl, i, hi, rfl, by simpa using h⟩) fun h => .pure ?_
      dsimp only
      rw [wrap64 (by omega) (by omega)]
      refine ⟨⟨rfl, rfl, rfl, i + 1, by omega, hi, fun p hp => ?_⟩, by omega⟩
      rw [List.take_succ_eq_append_getElem hi] at hp
      rcases List.mem_append.1 hp with hp | hp
      · exact e6 p hp
      · rw [List.mem_singleton.1 hp]
        simpa using h
    · have hi : ¬ i < L.length := by simpa using h
      rw [List.take_of_length_le (by omega)] at e6
      exact e6
  · cases r with
    | inl z => obtain ⟨h1, k, h2, h3, h4⟩ := hr; exact .pure ⟨h1, .inl ⟨k, h2, h3, h4⟩⟩
    | inr z => exact .pure ⟨hr.1, .inr ⟨rfl, hr.2⟩⟩
theorem f30a_gd (L : List (Int × Int)) (hl : L.length ≤ 1000000) (f : Int) : Gd (f30a (rgs L) f) fun y => y.2 = f ∧ ((∃ k : Nat, ∃ h : k < L.length, y.1 = k ∧ L[k].1 > f ∧ ∀ j (hj : j < L.length), j < k → L[j].1 ≤ f) ∨ (y.1 = -1 ∧ ∀ j (hj : j < L.length), L[j].1 ≤ f)) := by
  unfold f30a
  refine .bind (Q := fun r => match r with | .inl z => z.2 = f ∧ ∃ k : Nat, ∃ h : k < L.length, z.1 = k ∧ L[k].1 > f ∧ ∀ j (hj : j < L.length), j < k → L[j].1 ≤ f | .inr z => z.2 = f ∧ ∀ j (hj : j < L.length), L[j].1 ≤ f)
    (Gd.loop (fun (t : (List PD × (Unit × Unit) × Int × Int) × Int) => t.1.1 = rgs L ∧ t.1.2.2.1 = L.length ∧ t.2 = f ∧ ∃ i : Nat, t.1.2.2.2 = i ∧ i ≤ L.length ∧ ∀ j (hj : j < L.length), j < i → L[j].1 ≤ f) (fun t => ((L.length : Int) - t.1.2.2.2).toNat) (fun t ht => ?_) _ ⟨rfl, by rw [rgs_len], rfl, 0, rfl, Nat.zero_le _, fun j hj h => by omega⟩) fun r hr => ?_
  · obtain ⟨⟨xs, ⟨⟨⟩, ⟨⟩⟩, n, i'⟩, g⟩ := t
    obtain ⟨e1, e2, e3, i, e4, e5, e6⟩ := ht
    dsimp only at e1 e2 e3 e4
    subst e1 e2 e3 e4
    unfold f30al2
    dsimp only
    refine .cond (fun h => ?_) fun h => .pure ⟨rfl, fun j hj => e6 j hj ?_⟩
    · have hi : i < L.length := by simpa using h
      refine .bindS (rgs_getI L i hi) (.bindS (rg0 _) (.bindS (rg1 _) ?_))
      unfold f33
      rw [Option.bind_some]
      refine .cond (fun h => .pure ⟨rfl, i, hi, rfl, by simpa using h, e6⟩) fun h => .pure ?_
      dsimp only
      rw [wrap64 (by omega) (by omega)]
      refine ⟨⟨rfl, rfl, rfl, i + 1, by omega, hi, fun j hj hji => ?_⟩, by omega⟩
      by_cases e : j = i
      · subst e
        simpa using h
      · exact e6 j hj (by omega)
    · have hi : ¬ i < L.length := by simpa using h
      omega
  · cases r with
    | inl z => obtain ⟨h1, k, h2, h3, h4⟩ := hr; exact .pure ⟨h1, .inl ⟨k, h2, h3, h4⟩⟩
    | inr z => exact .pure ⟨hr.1, .inr ⟨rfl, hr.2⟩⟩
theorem f32_val (xs : List PD) (h : xs.length ≤ 1000000) : f32 xs = some ((), xs) := by
  unfold f32
  have : (decide ((([] ++ xs).length) * 16 ≤ 140737488355328)) = true := by simp; omega
  rw [this]
  cases xs with
  | nil => exact ambO_eq rfl
  | cons x r => rfl
theorem f34_val (L : List (Int × Int)) (hl : L.length ≤ 1000000) (k : Nat) (hk : k ≤ L.length) (p : Int × Int) : f34 k (rgs L) [rg p] = some ((), (), (), rgs (L.take k ++ [p] ++ L.drop k)) := by
  unfold f34
  rw [show (decide (0 ≤ (k : Int)) && (decide ((k : Int) ≤ (((rgs L).length : Nat) : Int)) && (decide ([rg p].length = 1) && decide (((rgs L).length + 1) * 16 ≤ 140737488355328)))) = true by simp [rgs_len]; omega]
  simp [rgs]
/-! ### Accept -/
abbrev Cred := List Int × Int × Int × Int × Int × Bool × Int × List PD × Bool × Int × Int
/-- What Accept tells. -/
def acc (id : List Int) (h r m fo : Int) (sh : Bool) (u : Int) (L : List (Int × Int)) (su : Bool) (si la leaf f now : Int) : Cred × Int :=
  if h < 0 ∨ 4 < h ∨ f < 0 ∨ leaf < f ∨ shlI .i64 1 h ≤ leaf then ((id, h, r, m, fo, sh, u, rgs L, su, si, la), 9)
  else if su = true then ((id, h, r, m, fo, sh, u, rgs L, su, si, la), 39)
  else if bitsI .and .u64 (shrI .u64 u leaf) 1 = 1 then ((id, h, r, m, fo, sh, u, rgs L, true, si, la), 37)
  else if hasGe L f leaf = true then ((id, h, r, m, fo, sh, u, rgs L, su, si, la), 37)
  else ((id, h, r, m, fo, sh, bitsI .or .u64 u (shlI .u64 1 leaf), rgs (ins L f leaf), su, si, now), 0)
theorem f19j12_val (id : List Int) (h r m fo : Int) (sh : Bool) (u : Int) (L : List (Int × Int)) (hs : Asc L) (hl : L.length ≤ 1000) (su : Bool) (si la leaf f now at_ : Int) (found : Bool) (z : Cred) (h0 : 0 ≤ leaf)
    (hat : (∃ k : Nat, ∃ hk : k < L.length, at_ = k ∧ L[k].1 = f ∧ found = true) ∨ (found = false ∧ ∀ p ∈ L, p.1 ≠ f)) :
    f19j12 ((leaf, now, (), (), (), at_, found), ((id, h, r, m, fo, sh, u, rgs L, su, si, la), f, z)) = some (((), 0), ((id, h, r, m, fo, sh, bitsI .or .u64 u (shlI .u64 1 leaf), (), su, si, now), rgs (ins L f leaf))) := by
  obtain ⟨z1, z2, z3, z4, z5, z6, z7, z8, z9, z10, z11⟩ := z
  have j19 : ∀ (zz : Cred) (X : List PD), f19j19 ((leaf, now, (), (), ()), ((id, h, r, m, fo, sh, u, rgs L, su, si, la), zz, X)) = some (((), 0), ((id, h, r, m, fo, sh, bitsI .or .u64 u (shlI .u64 1 leaf), (), su, si, now), X)) := fun zz X => by
    unfold f19j19 f19j19B
    rw [show (decide (0 ≤ leaf)) = true by simpa using h0]
    rfl
  unfold f19j12 f19j12B
  dsimp only
  rw [f32_val _ (by rw [rgs_len]; omega), Option.bind_some]
  rcases hat with ⟨k, hk, rfl, hf, rfl⟩ | ⟨rfl, hno⟩
  · rw [cond_true, inRange_true (by omega) (by rw [rgs_len]; omega), cond_true, show Int.toNat (k : Int) = k by simp]
    have hx : (rgs L)[k]? = some (rg L[k]) := by simp [rgs, hk]
    rw [hx, Option.bind_some, rg0, Option.bind_some, rg1, Option.bind_some]
    have hset : (rgs L).set k (.agg [.int .i64 L[k].1, .int .i64 leaf]) = rgs (ins L f leaf) := by
      rw [ins_at hs f leaf k hk hf, hf]
      exact rgs_set L k (f, leaf)
    rw [hset, j19]
    rfl
  · rw [cond_false]
    obtain ⟨y, hy, e, hr⟩ := f30a_gd L (by omega) f
    obtain ⟨y1, y2⟩ := y
    dsimp only at e hr
    subst e
    rw [hy, Option.bind_some]
    have hlt : ∀ j (hj : j < L.length), L[j].1 ≤ y2 → L[j].1 < y2 := fun j hj hle => by
      have := hno L[j] (List.getElem_mem hj)
      omega
    rcases hr with ⟨k, hk, rfl, hgt, hle⟩ | ⟨rfl, hle⟩
    · rw [show (decide (((k : Int), y2).1 < 0)) = false by simp, cond_false]
      unfold f19j18 f19j18B
      dsimp only
      have := f34_val L (by omega) k (by omega) (y2, leaf)
      unfold rg at this
      dsimp only at this
      rw [this, ← ins_new y2 leaf k (by omega) (fun j hj hjk => hlt j hj (hle j hj hjk)) (fun _ => hgt)]
      dsimp only [Option.bind_some]
      rw [j19]
      rfl
    · rw [show (decide (((-1 : Int), y2).1 < 0)) = true by simp, cond_true]
      unfold f19j18 f19j18B
      dsimp only
      have := f34_val L (by omega) L.length (by omega) (y2, leaf)
      unfold rg at this
      dsimp only at this
      rw [rgs_len, this, ← ins_new y2 leaf L.length (by omega) (fun j hj hjk => hlt j hj (hle j hj)) (fun h => absurd h (by omega))]
      dsimp only [Option.bind_some]
      rw [j19]
      rfl
theorem f19_val (id : List Int) (h r m fo : Int) (sh : Bool) (u : Int) (L : List (Int × Int)) (hs : Asc L) (hl : L.length ≤ 1000) (su : Bool) (si la leaf f now : Int) :
    f19 id h r m fo sh u (rgs L) su si la leaf f now = some (acc id h r m fo sh u L su si la leaf f now) := by
  unfold f19 acc
  by_cases c1 : h < 0
  · simp [c1]
  by_cases c2 : 4 < h
  · simp [c1, c2]
  by_cases c3 : f < 0
  · simp [c1, c2, c3]
  by_cases c4 : leaf < f
  · simp [c1, c2, c3, c4]
  by_cases c5 : shlI .i64 1 h ≤ leaf
  · rw [if_pos (.inr (.inr (.inr (.inr c5))))]
    simp only [c1, c3, c4, decide_false, cond_false, show ¬ h > 4 by omega, show leaf ≥ shlI .i64 1 h from c5, show 0 ≤ h by omega, decide_true, cond_true]
  rw [if_neg (by omega)]
  have h0 : 0 ≤ leaf := by omega
  simp only [c1, c2, c3, c4, c5, decide_false, cond_false, show ¬ h > 4 by omega, show ¬ leaf ≥ shlI .i64 1 h by omega, show 0 ≤ h by omega, decide_true, cond_true]
  unfold f19j3 f19j3B
  dsimp only
  cases su with
  | true => rfl
  | false =>
    rw [cond_false, if_neg (by simp), show (decide (0 ≤ leaf)) = true by simpa using h0, cond_true]
    by_cases c6 : bitsI .and .u64 (shrI .u64 u leaf) 1 = 1
    · rw [if_pos c6, show ((bitsI .and .u64 (shrI .u64 u leaf) 1) == 1) = true by simpa using c6]
      rfl
    · rw [if_neg c6, show ((bitsI .and .u64 (shrI .u64 u leaf) 1) == 1) = false by simpa using c6, cond_false]
      obtain ⟨y, hy, e, hr⟩ := f30_gd L (by omega) f
      obtain ⟨y1, y2⟩ := y
      dsimp only at e hr
      subst e
      rw [hy, Option.bind_some]
      dsimp only
      rcases hr with ⟨k, hk, rfl, hf⟩ | ⟨rfl, hno⟩
      · rw [show (decide ((k : Int) ≥ 0)) = true by simp, cond_true, rgs_getI L k hk, Option.bind_some, rg1, Option.bind_some, hasGe_at hs y2 leaf k hk hf]
        by_cases c7 : L[k].2 ≥ leaf
        · rw [show (decide (L[k].2 ≥ leaf)) = true by simpa using c7, if_pos rfl]
          rfl
        · rw [show (decide (L[k].2 ≥ leaf)) = false by simpa using c7, if_neg (by simp), cond_false,
            f19j12_val id h r m fo sh u L hs hl false si la leaf y2 now k true _ h0 (.inl ⟨k, hk, rfl, hf, rfl⟩)]
          rfl
      · rw [show (decide ((-1 : Int) ≥ 0)) = false by decide, cond_false, hasGe_none y2 leaf hno, if_neg (by simp),
          f19j12_val id h r m fo sh u L hs hl false si la leaf y2 now (-1) false _ h0 (.inr ⟨rfl, hno⟩)]
        rfl
end Go.Proofs.Ythoooflagabpoaa
