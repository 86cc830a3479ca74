/-
Chapter 30: AccountLeaves: bits and ranges.
-/
import Derived.Test.YthoooflagabpoaaEvF30
import Derived.Test.YthoooflagabpoaaEvG30b
import Derived.Test.YthoooflagabpoaaEvWf
set_option linter.unusedVariables false
set_option linter.unusedSimpArgs false
namespace Go.Proofs.Ythoooflagabpoaa
open Go Go.Ev
theorem min_lt (l : Nat) (hl : l < 16) : min (l : Int).toNat (IntKind.bits .u64) = l := by
  have : IntKind.bits .u64 = 64 := rfl
  rw [this]
  omega
theorem shr_nat (u l : Nat) (hl : l < 16) : shrI .u64 (u : Int) (l : Int) = ((u / 2 ^ l : Nat) : Int) := by
  unfold shrI
  rw [min_lt l hl, Int.fdiv_eq_ediv_of_nonneg _ (by exact_mod_cast Nat.zero_le _)]
  exact_mod_cast rfl
theorem shl_nat (l : Nat) (hl : l < 16) : shlI .u64 1 (l : Int) = ((2 ^ l : Nat) : Int) := by
  unfold shlI
  have h : 2 ^ l < 2 ^ 16 := Nat.pow_lt_pow_right (by omega) hl
  rw [min_lt l hl, Int.one_mul, show ((2 : Int) ^ l) = ((2 ^ l : Nat) : Int) by exact_mod_cast rfl]
  generalize 2 ^ l = p at h ⊢
  exact wrapU64 (by omega) (by omega)
theorem ofInt_nat (n : Nat) : BitVec.ofInt 64 (n : Int) = BitVec.ofNat 64 n := by simp
theorem and_one (n : Nat) (hn : n < 2 ^ 64) : bitsI .and .u64 (n : Int) 1 = ((n % 2 : Nat) : Int) := by
  show IntKind.u64.wrap (((BitVec.ofInt 64 (n : Int) &&& BitVec.ofInt 64 ((1 : Nat) : Int)).toNat : Nat) : Int) = _
  rw [ofInt_nat, ofInt_nat, BitVec.toNat_and, BitVec.toNat_ofNat, BitVec.toNat_ofNat, Nat.mod_eq_of_lt hn, show 1 % 2 ^ 64 = 1 by decide, Nat.and_one_is_mod, wrapU64 (by omega) (by omega)]
theorem or_nat (n m : Nat) (hn : n < 2 ^ 64) (hm : m < 2 ^ 64) : bitsI .or .u64 (n : Int) (m : Int) = ((n ||| m : Nat) : Int) := by
  show IntKind.u64.wrap (((BitVec.ofInt 64 (n : Int) ||| BitVec.ofInt 64 (m : Int)).toNat : Nat) : Int) = _
  have := Nat.or_lt_two_pow hn hm
  rw [ofInt_nat, ofInt_nat, BitVec.toNat_or, BitVec.toNat_ofNat, BitVec.toNat_ofNat, Nat.mod_eq_of_lt hn, Nat.mod_eq_of_lt hm, wrapU64 (by omega) (by omega)]
theorem bit_iff (u l : Nat) (hu : u < 2 ^ 64) (hl : l < 16) : bitsI .and .u64 (shrI .u64 (u : Int) (l : Int)) 1 = 1 ↔ u.testBit l = true := by
  have h : u / 2 ^ l < 2 ^ 64 := Nat.lt_of_le_of_lt (Nat.div_le_self _ _) hu
  rw [shr_nat u l hl, and_one _ h, Nat.testBit_eq_decide_div_mod_eq]
  simp only [decide_eq_true_eq]
  omega
theorem hasGe_ins_other (f g l m : Int) (h : f ≠ g) : ∀ (L : List (Int × Int)), hasGe (ins L g m) f l = hasGe L f l
  | [] => by
    have : ¬ g = f := fun e => h e.symm
    simp [ins, hasGe, this]
  | (a, b) :: r => by
    have hg : (g == f) = false := by simp; exact fun e => h e.symm
    have ih := hasGe_ins_other f g l m h r
    unfold ins
    split
    · rename_i e
      subst e
      unfold hasGe
      rw [List.any_cons, List.any_cons]
      simp [hg]
    · split
      · unfold hasGe
        rw [List.any_cons]
        simp [hg]
      · unfold hasGe at ih ⊢
        rw [List.any_cons, List.any_cons, ih]
theorem hasGe_ins_same (g l m : Int) : ∀ {L : List (Int × Int)}, Asc L → hasGe (ins L g m) g l = decide (m ≥ l)
  | [], _ => by simp [ins, hasGe]
  | (a, b) :: r, hs => by
    obtain ⟨h1, h2⟩ := List.pairwise_cons.1 hs
    have ih := hasGe_ins_same g l m h2
    have hr : ∀ x : Int, g ≤ a → (r.any fun p => p.1 == g && decide (p.2 ≥ l)) = false := fun _ hga => by
      rw [List.any_eq_false]
      intro p hp
      have := h1 p hp
      dsimp only at this
      have : ¬ p.1 = g := by omega
      simp [this]
    unfold ins
    split
    · rename_i e
      unfold hasGe
      rw [List.any_cons, hr 0 (by omega)]
      simp
    · rename_i hne
      split
      · unfold hasGe
        rw [List.any_cons, List.any_cons, hr 0 (by omega)]
        simp [hne]
      · unfold hasGe at ih ⊢
        rw [List.any_cons, ih]
        simp [hne]
theorem shl4' : shlI .i64 1 4 = 16 := by decide +kernel
/-- What is known between two assertions. -/
def LInv (c : Cred) (seen : List Bool) (last : List Int) (n : Nat) : Prop := ∃ (id : List Int) (u : Nat) (L : List (Int × Int)) (la : Int), c = (id, 4, 5, 0, 0, false, (u : Int), rgs L, false, 3, la) ∧ u < 2 ^ 64 ∧ Asc L ∧ L.length ≤ n ∧ seen.length = 16 ∧ last.length = 16 ∧
  (∀ l, l < 16 → seen[l]? = some (u.testBit l)) ∧ ∀ f : Nat, f < 16 → ∃ m, last[f]? = some m ∧ ∀ l : Int, 0 ≤ l → hasGe L f l = decide (m ≥ l)
abbrev S5 := (List Int × List Int × Unit × Unit × Unit × Int) × (Cred × List Bool × List Int)
theorem f5j16_susp (a b : List Int) (i leaf f e : Int) (c : Cred) (seen : List Bool) (last : List Int) (id : List Int) (u : Int) (L : List (Int × Int)) (hs : Asc L) (hl : L.length ≤ 1000) (la : Int) :
    Gd (f5j16 ((a, b, (), (), (), i, leaf, f, (), e), (c, seen, last, (id, 4, 5, 0, 0, false, u, rgs L, true, 3, la)))) fun y => match y with | .inl t => t.1.2.2.1 = true | .inr _ => False := by
  have h19 : f19 id 4 5 0 0 false u (rgs L) true 3 la 15 0 i = some ((id, 4, 5, 0, 0, false, u, rgs L, true, 3, la), 39) := by
    rw [f19_val id 4 5 0 0 false u L hs hl true 3 la 15 0 i]
    unfold acc
    rw [if_neg (by rw [shl4']; omega), if_pos rfl]
  unfold f5j16 f5j16B
  dsimp only
  exact .condT rfl (.bindS h19 (.condT rfl (.condT rfl (.bindS f7_true (.pure rfl)))))
theorem f5j16_keep (a b : List Int) (i leaf f : Int) (c : Cred) (seen : List Bool) (last : List Int) (id : List Int) (u : Int) (X : List PD) (la : Int) :
    f5j16 ((a, b, (), (), (), i, leaf, f, (), 37), (c, seen, last, (id, 4, 5, 0, 0, false, u, X, false, 3, la))) = some (.inr ((a, b, (), (), (), i), (c, seen, last))) := rfl
theorem f5j16_new (a b : List Int) (i leaf f : Int) (c : Cred) (seen : List Bool) (last : List Int) (id : List Int) (u : Int) (X : List PD) (la : Int) (h0 : 0 ≤ leaf) (h1 : leaf < 16) (h2 : 0 ≤ f) (h3 : f < 16) :
    f5j16 ((a, b, (), (), (), i, leaf, f, (), 0), (c, seen, last, (id, 4, 5, 0, 0, false, u, X, false, 3, la))) = some (.inr ((a, b, (), (), (), i), ((id, 4, 5, 0, 0, false, u, X, false, 3, la), seen.set leaf.toNat true, last.set f.toNat leaf))) := by
  unfold f5j16 f5j16B
  dsimp only
  rw [cond_false, show ((0 : Int) == 0) = true from rfl, cond_true, inRange_true h0 (by omega), cond_true, show (decide (leaf.toNat < 16)) = true by simp; omega, cond_true, inRange_true h2 (by omega), cond_true, show (decide (f.toNat < 16)) = true by simp; omega, cond_true]
theorem f5j11_gd (a b : List Int) (ha : ∀ x ∈ a, 0 ≤ x ∧ x ≤ 255) (hb : ∀ x ∈ b, 0 ≤ x ∧ x ≤ 255) (i : Nat) (hia : i < a.length) (hib : i < b.length) (hi60 : i < 60) (c : Cred) (seen : List Bool) (last : List Int) (h : LInv c seen last i) :
    Gd (f5j11 ((a, b, (), (), (), (i : Int)), (c, seen, last))) fun y => match y with | .inl t => t.1.2.2.1 = true | .inr t => t.1 = (a, b, (), (), (), (i : Int) + 1) ∧ LInv t.2.1 t.2.2.1 t.2.2.2 (i + 1) := by
  obtain ⟨id, u, L, la, rfl, hu, hs, hl, hsl, hll, hseen, hlast⟩ := h
  have w1 := ha a[i] (List.getElem_mem hia)
  have w2 := hb b[i] (List.getElem_mem hib)
  obtain ⟨k, hk⟩ := Int.eq_ofNat_of_zero_le (Int.emod_nonneg a[i] (show (16 : Int) ≠ 0 by omega))
  have hk16 : k < 16 := by have := Int.emod_lt_of_pos a[i] (show (0 : Int) < 16 by omega)
                           omega
  have ek : IntKind.i64.wrap (Int.tmod a[i] 16) = (k : Int) := by rw [Int.tmod_eq_emod_of_nonneg w1.1, hk, wrap64 (by omega) (by omega)]
  have ek1 : IntKind.i64.wrap ((k : Int) + 1) = (k : Int) + 1 := wrap64 (by omega) (by omega)
  obtain ⟨f, hf⟩ := Int.eq_ofNat_of_zero_le (Int.emod_nonneg b[i] (show ((k : Int) + 1) ≠ 0 by omega))
  have hfk : f ≤ k := by have := Int.emod_lt_of_pos b[i] (show (0 : Int) < (k : Int) + 1 by omega)
                         omega
  have ef : Int.tmod (IntKind.i64.wrap b[i]) ((k : Int) + 1) = (f : Int) := by rw [wrap64 (by omega) (by omega), Int.tmod_eq_emod_of_nonneg w2.1, hf]
  unfold f5j11
  dsimp only
  refine .bindS (getI_lt a i hia) (.bindS (getI_lt b i hib) ?_)
  rw [ek, ek1, ef]
  refine .condT (by simp; omega) ?_
  have hw : IntKind.i64.wrap ((i : Int) + 1) = (i : Int) + 1 := wrap64 (by omega) (by omega)
  have hk0 : (k : Int).toNat = k := by simp
  have hf0 : (f : Int).toNat = f := by simp
  have s1 : seen[(k : Int).toNat]? = some (u.testBit k) := by rw [hk0]; exact hseen k hk16
  have val := f19_val id 4 5 0 0 false (u : Int) L hs (by omega) false 3 la (k : Int) (f : Int) (i : Int)
  unfold acc at val
  rw [if_neg (by rw [shl4']; omega), if_neg (by simp)] at val
  obtain ⟨m, hm, hge⟩ := hlast f (by omega)
  have s2 : last[(f : Int).toNat]? = some m := by rw [hf0]; exact hm
  cases hbit : u.testBit k with
  | true =>
    rw [hbit] at s1
    rw [if_pos ((bit_iff u k hu hk16).2 hbit)] at val
    refine .bindS val (.condT (inRange_true (by omega) (by omega)) (.bindS s1 (.condF rfl (.condF rfl (.condT (inRange_true (by omega) (by omega)) (.bindS s1 (.condF rfl (.condT rfl (.condF rfl ?_)))))))))
    refine .bind (f5j16_susp a b i k f 37 _ seen last id u L hs (by omega) la) fun y hy => ?_
    cases y with
    | inl t => exact .pure hy
    | inr t => exact hy.elim
  | false =>
    rw [hbit] at s1
    rw [if_neg (fun hh => by rw [(bit_iff u k hu hk16).1 hh] at hbit; cases hbit)] at val
    by_cases hmk : m ≥ (k : Int)
    · rw [if_pos (by rw [hge k (by omega)]; simpa using hmk)] at val
      have hd : decide ((k : Int) > m) = false := by simp; omega
      refine .bindS val (.condT (inRange_true (by omega) (by omega)) (.bindS s1 (.condT rfl (.condT (inRange_true (by omega) (by omega)) (.bindS s2 (.condF (by rw [hd]; rfl) (.condT (inRange_true (by omega) (by omega)) (.bindS s1 (.condF rfl (.condT rfl (.condF rfl (.bindS (f5j16_keep a b i k f _ seen last id u (rgs L) la) (.pure ?_)))))))))))))
      dsimp only
      rw [hw]
      exact ⟨rfl, id, u, L, la, rfl, hu, hs, by omega, hsl, hll, hseen, hlast⟩
    · rw [if_neg (by rw [hge k (by omega)]; simpa using hmk)] at val
      have hd : decide ((k : Int) > m) = true := by simp; omega
      refine .bindS val (.condT (inRange_true (by omega) (by omega)) (.bindS s1 (.condT rfl (.condT (inRange_true (by omega) (by omega)) (.bindS s2 (.condF (by rw [hd]; rfl) (.condT (inRange_true (by omega) (by omega)) (.bindS s1 (.condF rfl (.condF rfl (.bindS (f5j16_new a b i k f _ seen last id _ _ _ (by omega) (by omega) (by omega) (by omega)) (.pure ?_))))))))))))
      dsimp only
      rw [hw]
      have hpow : 2 ^ k < 2 ^ 64 := Nat.pow_lt_pow_right (by omega) (by omega)
      refine ⟨rfl, id, u ||| 2 ^ k, ins L f k, i, ?_, Nat.or_lt_two_pow hu hpow, ins_asc hs f k, by have := ins_len L f k; omega, by simpa using hsl, by simpa using hll, fun l hl16 => ?_, fun g hg => ?_⟩
      · rw [shl_nat k hk16, or_nat u _ hu hpow]
      · rw [hk0, List.getElem?_set, Nat.testBit_or, Nat.testBit_two_pow]
        by_cases e : k = l
        · subst e
          rw [if_pos rfl, if_pos (by omega)]
          simp
        · rw [if_neg e, hseen l hl16]
          simp [e]
      · rw [hf0, List.getElem?_set]
        by_cases e : f = g
        · subst e
          rw [if_pos rfl, if_pos (by omega)]
          exact ⟨k, rfl, fun l _ => hasGe_ins_same f l k hs⟩
        · rw [if_neg e]
          obtain ⟨m2, hm2, hge2⟩ := hlast g hg
          exact ⟨m2, hm2, fun l hl0 => by rw [hasGe_ins_other (g : Int) (f : Int) l k (by omega), hge2 l hl0]⟩
theorem f5_true (a b : List Int) (hla : a.length ≤ 9223372036854775807) (ha : ∀ x ∈ a, 0 ≤ x ∧ x ≤ 255) (hb : ∀ x ∈ b, 0 ≤ x ∧ x ≤ 255) : f5 a b = some true := Gd.eq (by
  unfold f5
  obtain ⟨id, hid, h10⟩ := f10_gd 1 4
  refine .bindS h10 (.bind (Q := fun r => ∃ last : List Int, r = ((a, b, (), (), ()), ((id, 4, 5, 0, 0, false, 0, [], false, 3, 0), List.replicate 16 false, last)) ∧ last.length = 16 ∧ ∀ f, f < 16 → last[f]? = some (-1)) (Gd.loop (fun (t : S5) => ∃ (i : Nat) (last : List Int), i ≤ 16 ∧ t = ((a, b, (), (), (), (i : Int)), ((id, 4, 5, 0, 0, false, 0, [], false, 3, 0), List.replicate 16 false, last)) ∧ last.length = 16 ∧ ∀ f, f < i → last[f]? = some (-1)) (fun t => (16 - t.1.2.2.2.2.2).toNat) (fun t ht => ?_) _ ⟨0, _, by omega, rfl, rfl, fun f hf => by omega⟩) fun y hy => ?_)
  · obtain ⟨i, last, hi, rfl, hl, hlast⟩ := ht
    unfold f5l5
    dsimp only
    refine .cond (fun h => ?_) fun h => .pure ⟨last, rfl, hl, fun f hf => ?_⟩
    rotate_left
    · have h16 : ¬ ((i : Int) < 16) := by simpa using h
      exact hlast f (by omega)
    have hi16 : (i : Int) < 16 := by simpa using h
    refine .condT (inRange_true (by omega) (by omega)) (.condT (by simp; omega) (.pure ?_))
    dsimp only
    rw [wrap64 (by omega) (by omega)]
    refine ⟨⟨i + 1, _, by omega, rfl, by simpa using hl, fun f hf => ?_⟩, by omega⟩
    rw [show (i : Int).toNat = i by simp, List.getElem?_set]
    by_cases e : i = f
    · subst e
      rw [if_pos rfl, if_pos (by omega)]
    · rw [if_neg e]
      exact hlast f (by omega)
  · obtain ⟨last, rfl, hl, hlast⟩ := hy
    refine .bind (Q := fun r => r = .inl true ∨ r = .inr ()) (Gd.loop (fun (t : S5) => ∃ i : Nat, i ≤ 60 ∧ t.1 = (a, b, (), (), (), (i : Int)) ∧ LInv t.2.1 t.2.2.1 t.2.2.2 i) (fun t => (60 - t.1.2.2.2.2.2).toNat) (fun t ht => ?_) _ ⟨0, by omega, rfl, id, 0, [], 0, rfl, by omega, .nil, by simp, rfl, hl, fun l hl16 => ?_, fun f hf => ⟨-1, hlast f hf, fun l hl0 => ?_⟩⟩) fun r hr => ?_
    · obtain ⟨t1, c, seen, la⟩ := t
      obtain ⟨i, hi, e, hI⟩ := ht
      dsimp only at e hI
      subst e
      obtain ⟨c1, c2, c3, c4, c5, c6, c7, c8, c9, c10, c11⟩ := c
      unfold f5l9
      dsimp only
      refine .cond (fun h1 => ?_) fun _ => .pure (.inr rfl)
      refine .cond (fun h2 => ?_) fun _ => .pure (.inr rfl)
      refine .cond (fun h3 => ?_) fun _ => .pure (.inr rfl)
      have h1 : i < a.length := by simpa using h1
      have h2 : i < b.length := by simpa using h2
      have h3 : (i : Int) < 60 := by simpa using h3
      refine .bind (f5j11_gd a b ha hb i h1 h2 (by omega) _ seen la hI) fun y hy => ?_
      cases y with
      | inl t =>
        have hy : t.1.2.2.1 = true := hy
        refine .pure ?_
        dsimp only
        rw [hy]
        exact .inl rfl
      | inr t =>
        obtain ⟨q1, q2⟩ := hy
        refine .pure ⟨⟨i + 1, by omega, ?_, q2⟩, ?_⟩
        · rw [q1]
          rfl
        · rw [q1]
          dsimp only
          omega
    · show (List.replicate 16 false)[l]? = some ((0 : Nat).testBit l)
      rw [List.getElem?_replicate, if_pos hl16, Nat.zero_testBit]
    · have : ¬ ((-1 : Int) ≥ l) := by omega
      simp [hasGe, this]
    · rcases hr with rfl | rfl
      · exact .pure rfl
      · exact .bindS f7_true (.pure rfl))
theorem leaves_pure (a1 : List Int) (a2 : List Int)
    (la1 : a1.length ≤ maxLen) (wa1 : ∀ m ∈ a1, (Lit.int .u8 m).wf = true) (la2 : a2.length ≤ maxLen) (wa2 : ∀ m ∈ a2, (Lit.int .u8 m).wf = true) :
    f5 a1 a2 = some true :=
  f5_true a1 a2 (Nat.le_trans la1 maxLen_le) (fun x hx => wf_u8 (wa1 x hx)) fun x hx => wf_u8 (wa2 x hx)
end Go.Proofs.Ythoooflagabpoaa
