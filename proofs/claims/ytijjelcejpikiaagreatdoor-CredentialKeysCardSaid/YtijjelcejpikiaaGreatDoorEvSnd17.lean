/-
The orders that a region may draw.
-/
import Derived.Test.YtijjelcejpikiaaGreatDoorEvSnd16
set_option linter.unusedVariables false
set_option linter.unusedSimpArgs false
namespace Go.Ev
variable [Globs]
set_option linter.unusedSectionVars false
/-- Operations j of S are done; l are the others, each behind what must go ahead. -/
def Good (n : Nat) (bef : Array Nat) : (Nat → Bool) → List Nat → Prop
  | S, [] => ∀ i, i < n → S i = true
  | S, j :: l => j < n ∧ S j = false ∧ (∀ i, before? bef i j = true → S i = true) ∧ Good n bef (fun i => S i || i == j) l
def ClosedS (bef : Array Nat) (S : Nat → Bool) : Prop := ∀ i j, S j = true → before? bef i j = true → S i = true
theorem ClosedS.add {bef : Array Nat} {S : Nat → Bool} {j : Nat} (h : ClosedS bef S) (hj : ∀ i, before? bef i j = true → S i = true) : ClosedS bef (fun i => S i || i == j) := fun i k hk hb => by
  simp only [Bool.or_eq_true, beq_iff_eq] at hk ⊢
  rcases hk with hk | rfl
  · exact .inl (h i k hk hb)
  · exact .inl (hj i hb)

/-! ### What 'before' says -/
def befStep (acc : Array Nat) (o : Oper) : Nat := o.after.foldl (fun s e => if Region.binds .any e then s ||| 2 ^ e.on ||| acc.getD e.on 0 else s) 0
theorem befStep_bit (acc : Array Nat) (o : Oper) (i : Nat) (h : (befStep acc o).testBit i = true) : ∃ e ∈ o.after.toList, Region.binds .any e = true ∧ (e.on = i ∨ (acc.getD e.on 0).testBit i = true) := by
  unfold befStep at h
  rw [← Array.foldl_toList] at h
  have key : ∀ (l : List Edge) (s : Nat), (l.foldl (fun s e => if Region.binds .any e then s ||| 2 ^ e.on ||| acc.getD e.on 0 else s) s).testBit i = true → s.testBit i = true ∨ ∃ e ∈ l, Region.binds .any e = true ∧ (e.on = i ∨ (acc.getD e.on 0).testBit i = true) := by
    intro l
    induction l with
    | nil => intro s h; exact .inl h
    | cons e l ih =>
      intro s h
      rw [List.foldl_cons] at h
      rcases ih _ h with h1 | ⟨e', h1, h2⟩
      · split at h1
        · rename_i hb
          simp only [Nat.testBit_or, Bool.or_eq_true, Nat.testBit_two_pow, decide_eq_true_eq] at h1
          rcases h1 with (h1 | h1) | h1
          · exact .inl h1
          · exact .inr ⟨e, by simp, hb, .inl h1⟩
          · exact .inr ⟨e, by simp, hb, .inr h1⟩
        · exact .inl h1
      · exact .inr ⟨e', by simp [h1], h2⟩
  rcases key _ 0 h with h1 | h1
  · simp at h1
  · exact h1
theorem before_eq (ops : Array Oper) : ∀ j o, ops[j]? = some o → (Region.before ops).size = ops.size ∧ ∃ acc : Array Nat, (Region.before ops).getD j 0 = befStep acc o ∧ ∀ k, acc.getD k 0 = if k < j then (Region.before ops).getD k 0 else 0 := by
  have key : ∀ (l : List Oper) (acc : Array Nat), (l.foldl (fun acc o => acc.push (befStep acc o)) acc).size = acc.size + l.length ∧ (∀ k, k < acc.size → (l.foldl (fun acc o => acc.push (befStep acc o)) acc).getD k 0 = acc.getD k 0) ∧
      ∀ i o, l[i]? = some o → ∃ acc' : Array Nat, (l.foldl (fun acc o => acc.push (befStep acc o)) acc).getD (acc.size + i) 0 = befStep acc' o ∧ acc'.size = acc.size + i ∧ ∀ k, k < acc.size + i → acc'.getD k 0 = (l.foldl (fun acc o => acc.push (befStep acc o)) acc).getD k 0 := by
    intro l
    induction l with
    | nil => intro acc; exact ⟨by simp, fun k _ => rfl, fun i o h => by simp at h⟩
    | cons o l ih =>
      intro acc
      obtain ⟨h1, h2, h3⟩ := ih (acc.push (befStep acc o))
      simp only [Array.size_push] at h1 h2 h3
      have hold : ∀ k, k < acc.size → (acc.push (befStep acc o)).getD k 0 = acc.getD k 0 := fun k hk => by
        simp only [Array.getD_eq_getD_getElem?, Array.getElem?_push]
        rw [if_neg (by omega)]
      refine ⟨by simp only [List.foldl_cons, h1, List.length_cons]; omega, fun k hk => ?_, fun i o' hi => ?_⟩
      · rw [List.foldl_cons, h2 k (by omega), hold k hk]
      · cases i with
        | zero =>
          simp only [List.getElem?_cons_zero, Option.some.injEq] at hi
          subst hi
          refine ⟨acc, ?_, rfl, fun k hk => ?_⟩
          · rw [List.foldl_cons, Nat.add_zero, h2 acc.size (by omega)]
            simp [Array.getD_eq_getD_getElem?]
          · rw [List.foldl_cons, h2 k (by omega), hold k (by omega)]
        | succ i =>
          obtain ⟨acc', h4, h5, h6⟩ := h3 i o' (by simpa using hi)
          refine ⟨acc', ?_, by omega, fun k hk => h6 k (by omega)⟩
          rw [List.foldl_cons, show acc.size + (i + 1) = acc.size + 1 + i by omega]
          exact h4
  intro j o hj
  have hb : Region.before ops = ops.toList.foldl (fun acc o => acc.push (befStep acc o)) #[] := by
    unfold Region.before
    rw [← Array.foldl_toList]
    rfl
  obtain ⟨h1, _, h3⟩ := key ops.toList #[]
  obtain ⟨acc', h4, h5, h6⟩ := h3 j o (by simpa using hj)
  rw [hb]
  refine ⟨by simpa using h1, acc', by simpa using h4, fun k => ?_⟩
  split
  · rename_i hk
    exact h6 k (by simpa using hk)
  · rename_i hk
    have : acc'.size = j := by simpa using h5
    simp [Array.getD_eq_getD_getElem?, Array.getElem?_eq_none (show acc'.size ≤ k by omega)]
theorem before_bit {ops : Array Oper} {i j : Nat} (h : before? (Region.before ops) i j = true) : ∃ o, ops[j]? = some o ∧ ∃ e ∈ o.after.toList, Region.binds .any e = true ∧ (e.on = i ∨ (e.on < j ∧ before? (Region.before ops) i e.on = true)) := by
  unfold before? at h
  have hj : j < ops.size := by
    rcases Nat.lt_or_ge j ops.size with h1 | h1
    · exact h1
    · exfalso
      have hs : (Region.before ops).size = ops.size := by
        rcases Nat.eq_zero_or_pos ops.size with h0 | h0
        · have : ops = #[] := by simpa using h0
          subst this
          rfl
        · exact (before_eq ops 0 ops[0] (by simp [h0])).1
      simp [Array.getD_eq_getD_getElem?, Array.getElem?_eq_none (show (Region.before ops).size ≤ j by omega)] at h
  obtain ⟨_, acc, h1, h2⟩ := before_eq ops j ops[j] (by simp [hj])
  rw [h1] at h
  obtain ⟨e, he, hb, h3⟩ := befStep_bit acc _ i h
  refine ⟨ops[j], by simp [hj], e, he, hb, h3.imp id fun h3 => ?_⟩
  rw [h2] at h3
  split at h3
  · exact ⟨‹_›, h3⟩
  · simp at h3

/-! ### Orders -/
section order
variable {ops : Array Oper}
structure AheadOk (ops : Array Oper) : Prop where
  any : ∀ (j : Nat) (o : Oper), ops[j]? = some o → ∀ e ∈ o.after.toList, Region.binds .any e = true → e.on < j
  rank : ∀ m, ∃ r : Nat → Nat, ∀ (j : Nat) (o : Oper), ops[j]? = some o → ∀ e ∈ o.after.toList, Region.binds m e = true → e.on < ops.size ∧ r e.on < r j
theorem rankOk_at {m : Region.Mode} (h : rankOk m ops = true) : ∃ r : Nat → Nat, ∀ (j : Nat) (o : Oper), ops[j]? = some o → ∀ e ∈ o.after.toList, Region.binds m e = true → e.on < ops.size ∧ r e.on < r j :=
  ⟨rankM m ops, fun j o hj e he hb => by
    unfold rankOk at h
    have := List.all_eq_true.1 h (o, j) (List.mem_iff_getElem?.2 ⟨j, by simp [hj]⟩)
    have := List.all_eq_true.1 this e he
    simpa [hb] using this⟩
theorem aheadOk_ahead (h : aheadOk ops = true) : AheadOk ops := by
  unfold aheadOk at h
  rcases Bool.or_eq_true _ _ ▸ h with h | h
  · have key : ∀ (j : Nat) (o : Oper), ops[j]? = some o → ∀ e ∈ o.after.toList, e.on < j := fun j o hj e he => by
      have := List.all_eq_true.1 h (o, j) (List.mem_iff_getElem?.2 ⟨j, by simp [hj]⟩)
      exact of_decide_eq_true (List.all_eq_true.1 this e he)
    exact ⟨fun j o hj e he _ => key j o hj e he, fun m => ⟨id, fun j o hj e he _ => ⟨Nat.lt_trans (key j o hj e he) (Array.getElem?_eq_some_iff.1 hj).1, key j o hj e he⟩⟩⟩
  · simp only [Bool.and_eq_true] at h
    obtain ⟨h1, h2, h3, h4⟩ := h
    refine ⟨fun j o hj e he hb => ?_, fun m => ?_⟩
    · have := List.all_eq_true.1 h1 (o, j) (List.mem_iff_getElem?.2 ⟨j, by simp [hj]⟩)
      have := List.all_eq_true.1 this e he
      simpa [hb] using this
    · cases m
      · exact rankOk_at h2
      · exact rankOk_at h3
      · exact rankOk_at h4
theorem slotsOk_ahead {bef : Array Nat} (h : slotsOk ops bef = true) : AheadOk ops := by
  unfold slotsOk at h
  simp only [Bool.and_eq_true] at h
  exact aheadOk_ahead h.1
theorem before_lt (h : AheadOk ops) : ∀ (j i : Nat), before? (Region.before ops) i j = true → i < j := by
  intro j
  induction j using Nat.strongRecOn with
  | _ j ih =>
    intro i hb
    obtain ⟨o, ho, e, he, hbi, h1⟩ := before_bit hb
    have := h.any j o ho e he hbi
    rcases h1 with rfl | ⟨h1, h2⟩
    · exact this
    · exact Nat.lt_trans (ih _ h1 _ h2) h1
theorem binds_any {m : Region.Mode} {e : Edge} (h : Region.binds .any e = true) : Region.binds m e = true := by
  unfold Region.binds at h ⊢
  split at h
  · cases h
  · cases h
  · rfl
theorem go_good (hah : AheadOk ops) (m : Region.Mode) : ∀ (fuel t : Nat) (listed : Array Bool) (acc : List Nat) (S : Nat → Bool), listed.size = ops.size → (∀ i, i < ops.size → listed.getD i true = S i) → ClosedS (Region.before ops) S → (∀ i, S i = true → i < ops.size) →
    (List.range ops.size).countP (fun i => !S i) = fuel → ∃ l, Region.linearise.go m ops fuel t listed acc = acc.reverse ++ l ∧ Good ops.size (Region.before ops) S l
  | 0, t, listed, acc, S, hs, hl, hc, hS, hn => ⟨[], by simp [Region.linearise.go], fun i hi => by
      have := List.countP_eq_zero.1 hn i (by simpa using hi)
      simpa using this⟩
  | fuel + 1, t, listed, acc, S, hs, hl, hc, hS, hn => by
    unfold Region.linearise.go
    simp only
    split
    · rename_i i hi
      have hm := List.mem_of_getElem? hi
      simp only [List.mem_filter, List.mem_range, Bool.and_eq_true, Bool.not_eq_true'] at hm
      obtain ⟨hlt, h1, h2⟩ := hm
      have hSi : S i = false := by rw [← hl i hlt]; exact h1
      have ho : ops[i]? = some ops[i] := by simp [hlt]
      rw [ho] at h2
      simp only [Option.map_some, Option.getD_some] at h2
      rw [← Array.all_toList, List.all_eq_true] at h2
      have hbef : ∀ k, before? (Region.before ops) k i = true → S k = true := fun k hk => by
        obtain ⟨o, ho', e, he, hb, h3⟩ := before_bit hk
        rw [ho] at ho'
        cases ho'
        have h4 := h2 e he
        rw [binds_any hb] at h4
        simp only [Bool.not_true, Bool.false_or] at h4
        have helt : e.on < ops.size := Nat.lt_trans (hah.any i _ ho e he hb) hlt
        have hSe : S e.on = true := by
          rw [← hl e.on helt]
          simp only [Array.getD_eq_getD_getElem?, Array.getElem?_eq_getElem (show e.on < listed.size by omega)] at h4 ⊢
          exact h4
        rcases h3 with rfl | ⟨_, h3⟩
        · exact hSe
        · exact hc k _ hSe h3
      obtain ⟨l, hgo, hgood⟩ := go_good hah m fuel (t / _) (listed.setIfInBounds i true) (i :: acc) (fun k => S k || k == i) (by simpa using hs) (fun k hk => by
          simp only [Array.getD_eq_getD_getElem?, Array.getElem?_setIfInBounds]
          by_cases e : i = k
          · subst e; simp [hs, hlt]
          · rw [if_neg e]
            have := hl k hk
            simp only [Array.getD_eq_getD_getElem?] at this
            rw [this]
            simp [Ne.symm e]) (hc.add hbef) (fun k hk => by
          simp only [Bool.or_eq_true, beq_iff_eq] at hk
          rcases hk with hk | rfl
          · exact hS k hk
          · exact hlt) (by
          have hcount : ∀ (xs : List Nat), xs.Nodup → i ∈ xs → xs.countP (fun k => !S k) = xs.countP (fun k => !(S k || k == i)) + 1 := by
            intro xs
            induction xs with
            | nil => intro _ h; simp at h
            | cons x xs ih =>
              intro hnd hm
              rw [List.nodup_cons] at hnd
              rw [List.countP_cons, List.countP_cons]
              by_cases e : x = i
              · subst e
                have : xs.countP (fun k => !S k) = xs.countP (fun k => !(S k || k == x)) := by
                  apply List.countP_congr
                  intro k hk
                  have : k ≠ x := fun e => hnd.1 (e ▸ hk)
                  simp [this]
                rw [this]
                simp [hSi]
              · have := ih hnd.2 ((List.mem_cons.1 hm).resolve_left (Ne.symm e))
                rw [this]
                simp [e]
                omega
          have := hcount (List.range ops.size) List.nodup_range (by simpa using hlt)
          omega)
      refine ⟨i :: l, ?_, hlt, hSi, hbef, hgood⟩
      rw [hgo]
      simp
    · rename_i hnone
      exfalso
      -- the first operation that is not done can be done
      have hne : ∃ i, i < ops.size ∧ S i = false := by
        refine Classical.byContradiction fun hno => ?_
        have : (List.range ops.size).countP (fun i => !S i) = 0 := List.countP_eq_zero.2 fun i hi => by
          have : ¬ S i = false := fun h => hno ⟨i, by simpa using hi, h⟩
          simpa using this
        omega
      obtain ⟨r, hr⟩ := hah.rank m
      have hmin : ∃ i, i < ops.size ∧ S i = false ∧ ∀ k, k < ops.size → r k < r i → S k = true := by
        obtain ⟨i, hi⟩ := hne
        have key : ∀ (n i : Nat), r i = n → i < ops.size ∧ S i = false → ∃ i, i < ops.size ∧ S i = false ∧ ∀ k, k < ops.size → r k < r i → S k = true := by
          intro n
          induction n using Nat.strongRecOn with
          | _ n ih =>
            intro i hn hi
            by_cases h : ∀ k, k < ops.size → r k < r i → S k = true
            · exact ⟨i, hi.1, hi.2, h⟩
            · simp only [Classical.not_forall] at h
              obtain ⟨k, hk, hrk, hSk⟩ := h
              exact ih (r k) (by omega) k rfl ⟨hk, by simpa using hSk⟩
        exact key _ i rfl hi
      obtain ⟨i, hlt, hSi, hall⟩ := hmin
      have hmem : i ∈ (List.range ops.size).filter fun i => !listed.getD i true && ((ops[i]?).map (·.after.all fun e => !Region.binds m e || listed.getD e.on false)).getD false := by
        simp only [List.mem_filter, List.mem_range, Bool.and_eq_true, Bool.not_eq_true']
        refine ⟨hlt, by rw [hl i hlt]; exact hSi, ?_⟩
        have ho : ops[i]? = some ops[i] := by simp [hlt]
        rw [ho]
        simp only [Option.map_some, Option.getD_some]
        rw [← Array.all_toList, List.all_eq_true]
        intro e he
        by_cases hb : Region.binds m e = true
        · obtain ⟨helt, hrk⟩ := hr i _ ho e he hb
          have := hl e.on helt
          rw [hall _ helt hrk] at this
          simp only [Array.getD_eq_getD_getElem?, Array.getElem?_eq_getElem (show e.on < listed.size by omega), Option.getD_some] at this ⊢
          simp [this]
        · simp [hb]
      have hpos := List.length_pos_of_mem hmem
      have := List.getElem?_eq_none_iff.1 hnone
      have := Nat.mod_lt t hpos
      omega
theorem schedule_good (hah : AheadOk ops) (mixed : Bool) (t : Nat) : Good ops.size (Region.before ops) (fun _ => false) (Region.schedule mixed ops t) := by
  have key : ∀ m t, Good ops.size (Region.before ops) (fun _ => false) (Region.linearise m ops t) := fun m t => by
    obtain ⟨l, h1, h2⟩ := go_good hah m ops.size t (Array.replicate ops.size false) [] (fun _ => false) (by simp) (fun i hi => by simp [Array.getD_eq_getD_getElem?, hi]) (fun i j h => by cases h) (fun i h => by cases h) (by
      have : (List.range ops.size).countP (fun i => !false) = (List.range ops.size).length := List.countP_eq_length.2 (by simp)
      rw [this]
      simp)
    unfold Region.linearise
    rw [h1]
    simpa using h2
  unfold Region.schedule
  split
  · exact key _ _
  · exact key _ _
end order
end Go.Ev
