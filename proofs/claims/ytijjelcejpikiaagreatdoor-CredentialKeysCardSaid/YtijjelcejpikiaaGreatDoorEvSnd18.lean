/-
Regions that draw their order.
-/
import Derived.Test.YtijjelcejpikiaaGreatDoorEvSnd17
set_option linter.unusedVariables false
set_option linter.unusedSimpArgs false
namespace Go.Ev
variable [Globs]
set_option linter.unusedSectionVars false
/-- What an operation did: nothing, or a value and what became of objects. -/
abbrev Out := Option (D × Dl)
def outD : Out → D
  | none => undefD
  | some p => p.1
def outL : Out → Dl
  | none => []
  | some p => p.2
def apply1 (o : Oper) (x : Out) (s : St) : St := ({ s with hp := updsH s.hp (outL x) } : St).put o.dst (outD x)
theorem applyU_congr : ∀ {l : Dl} {H H' : Nat → Option Ob} {o : Nat}, H o = H' o → applyU H l o = applyU H' l o
  | [], _, _, _, h => h
  | (k, ob) :: l, H, H', o, h => by
    rw [applyU_cons, applyU_cons]
    refine applyU_congr ?_
    by_cases e : o = k
    · subst e; rw [upd_same, upd_same]
    · rw [upd_other _ _ e, upd_other _ _ e, h]
theorem applyU_key : ∀ {l : Dl} {H H' : Nat → Option Ob} {o : Nat}, o ∈ keysOf l → applyU H l o = applyU H' l o
  | (k, ob) :: l, H, H', o, h => by
    rw [applyU_cons, applyU_cons]
    by_cases hl : o ∈ keysOf l
    · exact applyU_key hl
    · simp only [keysOf, List.map_cons, List.mem_cons] at h
      rcases h with rfl | h
      · refine applyU_congr ?_
        rw [upd_same, upd_same]
      · exact absurd h hl
theorem okKeys_lt : ∀ (l : Dl) (n : Nat), (∀ x ∈ keysOf l, x < n) → okKeys n l = true
  | [], _, _ => rfl
  | (x, ob) :: l, n, h => by
    have hx : x < n := h x (by simp [keysOf])
    simp only [okKeys, Bool.and_eq_true, decide_eq_true_eq]
    refine ⟨by omega, ?_⟩
    rw [if_neg (by omega)]
    exact okKeys_lt l n fun y hy => h y (by simp [keysOf] at hy ⊢; exact .inr hy)
theorem updsH_length : ∀ (l : Dl) (hp : List Ob), (∀ x ∈ keysOf l, x < hp.length) → (updsH hp l).length = hp.length
  | [], _, _ => rfl
  | (x, ob) :: l, hp, h => by
    have hx : x < hp.length := h x (by simp [keysOf])
    have e : (updH hp (x, ob)).length = hp.length := by unfold updH; rw [if_pos hx]; simp
    rw [updsH, updsH_length l _ fun y hy => by rw [e]; exact h y (by simp [keysOf] at hy ⊢; exact .inr hy), e]
section app
variable {o : Oper} {x : Out} {s : St}
theorem apply1_len : (apply1 o x s).ts.length = s.ts.length := (put_ts _ _ _).2
theorem apply1_ts (t : Nat) : (apply1 o x s).ts.getD t .junk = if o.dst = some t ∧ t < s.ts.length then outD x else s.ts.getD t .junk := by
  unfold apply1
  cases h : o.dst with
  | none => simp [St.put]
  | some k =>
    simp only [St.put, Option.some.injEq]
    rw [put_get]
    by_cases e : t = k
    · subst e; simp
    · rw [if_neg (fun hh => e hh.1), if_neg (fun hh => e hh.1.symm)]
theorem apply1_hp (h : ∀ k ∈ keysOf (outL x), k < s.hp.length) (i : Nat) : (apply1 o x s).hp[i]? = applyU (s.hp[·]?) (outL x) i := by
  unfold apply1
  rw [(put_ts _ _ _).1]
  exact okKeys_get _ _ (okKeys_lt _ _ h) i
theorem apply1_hlen (h : ∀ k ∈ keysOf (outL x), k < s.hp.length) : (apply1 o x s).hp.length = s.hp.length := by
  unfold apply1
  rw [(put_ts _ _ _).1]
  exact updsH_length _ _ h
end app
/-- The operations of S, in the order of the text. -/
def stS (O : Nat → Oper) (out : Nat → Out) (s0 : St) (S : Nat → Bool) : Nat → St
  | 0 => s0
  | i + 1 => if S i then apply1 (O i) (out i) (stS O out s0 S i) else stS O out s0 S i
section st
variable {O : Nat → Oper} {out : Nat → Out} {s0 : St}
theorem stS_len (S : Nat → Bool) : ∀ m, (stS O out s0 S m).ts.length = s0.ts.length
  | 0 => rfl
  | m + 1 => by
    unfold stS
    split
    · rw [apply1_len]; exact stS_len S m
    · exact stS_len S m
theorem stS_hlen (hk : ∀ i, ∀ k ∈ keysOf (outL (out i)), k < s0.hp.length) (S : Nat → Bool) : ∀ m, (stS O out s0 S m).hp.length = s0.hp.length
  | 0 => rfl
  | m + 1 => by
    have ih := stS_hlen hk S m
    unfold stS
    split
    · rw [apply1_hlen (by rw [ih]; exact hk m)]; exact ih
    · exact ih
theorem stS_ts (S S' : Nat → Bool) (t : Nat) : ∀ m, (∀ i, i < m → (O i).dst = some t → S i = S' i) → (stS O out s0 S m).ts.getD t .junk = (stS O out s0 S' m).ts.getD t .junk
  | 0, _ => rfl
  | m + 1, h => by
    have ih := stS_ts S S' t m fun i hi => h i (by omega)
    have l1 := stS_len (O := O) (out := out) (s0 := s0) S m
    have l2 := stS_len (O := O) (out := out) (s0 := s0) S' m
    by_cases hd : (O m).dst = some t
    · have := h m (by omega) hd
      rw [stS, stS, ← this]
      split
      · rw [apply1_ts, apply1_ts, l1, l2, ih]
      · exact ih
    · have e : ∀ S'' : Nat → Bool, (stS O out s0 S'' (m + 1)).ts.getD t .junk = (stS O out s0 S'' m).ts.getD t .junk := fun S'' => by
        rw [stS]
        split
        · rw [apply1_ts, if_neg fun hh => hd hh.1]
        · rfl
      rw [e, e, ih]
theorem stS_hp (hk : ∀ i, ∀ k ∈ keysOf (outL (out i)), k < s0.hp.length) (S S' : Nat → Bool) (o : Nat) : ∀ m, (∀ i, i < m → o ∈ keysOf (outL (out i)) → S i = S' i) → (stS O out s0 S m).hp[o]? = (stS O out s0 S' m).hp[o]?
  | 0, _ => rfl
  | m + 1, h => by
    have ih := stS_hp hk S S' o m fun i hi => h i (by omega)
    have l1 := stS_hlen (O := O) hk S m
    have l2 := stS_hlen (O := O) hk S' m
    by_cases hd : o ∈ keysOf (outL (out m))
    · have := h m (by omega) hd
      rw [stS, stS, ← this]
      split
      · rw [apply1_hp (by rw [l1]; exact hk m), apply1_hp (by rw [l2]; exact hk m)]
        exact applyU_key hd
      · exact ih
    · have e : ∀ S'' : Nat → Bool, (stS O out s0 S'' (m + 1)).hp[o]? = (stS O out s0 S'' m).hp[o]? := fun S'' => by
        rw [stS]
        split
        · rw [apply1_hp (by rw [stS_hlen hk S'' m]; exact hk m), applyU_other hd]
        · rfl
      rw [e, e, ih]
theorem stS_last_ts (S : Nat → Bool) (j t : Nat) (hj : S j = true) (hd : (O j).dst = some t) (ht : t < s0.ts.length) : ∀ m, j < m → (∀ i, j < i → i < m → S i = true → (O i).dst ≠ some t) → (stS O out s0 S m).ts.getD t .junk = outD (out j)
  | m + 1, hm, h => by
    rw [stS]
    by_cases e : j = m
    · subst e
      rw [if_pos hj, apply1_ts, stS_len, if_pos ⟨hd, ht⟩]
    · have ih := stS_last_ts S j t hj hd ht m (by omega) fun i h1 h2 => h i h1 (by omega)
      split
      · rename_i hS
        rw [apply1_ts, if_neg fun hh => h m (by omega) (by omega) hS hh.1, ih]
      · exact ih
theorem stS_last_hp (hk : ∀ i, ∀ k ∈ keysOf (outL (out i)), k < s0.hp.length) (S : Nat → Bool) (j o : Nat) (hj : S j = true) (hd : o ∈ keysOf (outL (out j))) (H : Nat → Option Ob) : ∀ m, j < m → (∀ i, j < i → i < m → S i = true → o ∉ keysOf (outL (out i))) → (stS O out s0 S m).hp[o]? = applyU H (outL (out j)) o
  | m + 1, hm, h => by
    rw [stS]
    have l1 := stS_hlen (O := O) hk S m
    by_cases e : j = m
    · subst e
      rw [if_pos hj, apply1_hp (by rw [l1]; exact hk j)]
      exact applyU_key hd
    · have ih := stS_last_hp hk S j o hj hd H m (by omega) fun i h1 h2 => h i h1 (by omega)
      split
      · rename_i hS
        rw [apply1_hp (by rw [l1]; exact hk m), applyU_other (h m (by omega) (by omega) hS), ih]
      · exact ih
/-- The first j operations, in the text's order. -/
theorem stS_prefix (j : Nat) : ∀ m, stS O out s0 (fun i => decide (i < j)) m = stS O out s0 (fun _ => true) (min m j)
  | 0 => by rw [Nat.zero_min]; rfl
  | m + 1 => by
    rw [stS, stS_prefix j m]
    by_cases h : m < j
    · rw [if_pos (by simpa using h), Nat.min_eq_left (by omega), Nat.min_eq_left (by omega), stS, if_pos rfl]
    · rw [if_neg (by simpa using h), Nat.min_eq_right (by omega), Nat.min_eq_right (by omega)]
theorem St.ext' {s s' : St} (h1 : s.ts.length = s'.ts.length) (h2 : ∀ t, s.ts.getD t .junk = s'.ts.getD t .junk) (h3 : ∀ o : Nat, s.hp[o]? = s'.hp[o]?) : s = s' := by
  obtain ⟨ts, hp⟩ := s
  obtain ⟨ts', hp'⟩ := s'
  have e1 : ts = ts' := by
    apply List.ext_getElem h1
    intro i hi hi'
    have := h2 i
    simp only [List.getD, List.getElem?_eq_getElem hi, List.getElem?_eq_getElem hi', Option.getD_some] at this
    exact this
  have e2 : hp = hp' := List.ext_getElem? h3
  rw [e1, e2]
end st

section draw
variable (P : Program) {call : Cal} (hcall : CalOK P call) (fh : FH) (ops : Array Oper) (base : Nat) (hot : Nat → Oper → Nat → Bool)
def opAt (i : Nat) : Oper := ops.getD i default
/-- What an operation's outcome is, at state s of the text's order. -/
def StepOK (bef : Array Nat) (j : Nat) (s : St) (x : Out) : Prop :=
  match x with
  | none => guardOk ops (opAt ops j) s = some false
  | some (d', dl) => guardOk ops (opAt ops j) s = some true ∧ keysOk hot ops.toList bef base j (opAt ops j) dl = true ∧
    ∃ d, OpOK P (opAt ops j) (maskTs (slotsIn ops (opAt ops j)) s.ts) (fun x => if hot j (opAt ops j) x then maskH bef base j s.hp x else none) (base + 8 * j) (d, dl) ∧ ∀ N γ Fz w v, V N γ Fz w d v → V N γ Fz w d' v
include hcall in
theorem evDraw_trace (r : Nat) (bef : Array Nat) {X : Type} (k : St → Option X) (res : X) : ∀ (l : List Oper) (j : Nat) (s : St), l = ops.toList.drop j → evDraw P call fh r ops bef base j l s X k = some res →
    ∃ out : Nat → Out, ∀ T : Nat → St, T j = s → (∀ i, j ≤ i → T (i + 1) = apply1 (opAt ops i) (out i) (T i)) → k (T (j + l.length)) = some res ∧ ∀ i, j ≤ i → i < j + l.length → StepOK P ops base (hotOp fh r base) bef i (T i) (out i)
  | [], j, s, _, h => ⟨fun _ => none, fun T h0 _ => ⟨by rw [List.length_nil, Nat.add_zero, h0]; exact h, fun i h1 h2 => by simp at h2; omega⟩⟩
  | o :: l, j, s, hl, h => by
    have hi : opAt ops j = o := by
      have := congrArg (·[0]?) hl
      have h1 : ops[j]? = some o := by simpa using this.symm
      simp [opAt, Array.getD_eq_getD_getElem?, h1]
    have hl' : l = ops.toList.drop (j + 1) := by
      have := congrArg List.tail hl
      simpa using this
    have step : ∀ (x : Out) (s' : St), s' = apply1 o x s → StepOK P ops base (hotOp fh r base) bef j s x → evDraw P call fh r ops bef base (j + 1) l s' X k = some res →
        ∃ out : Nat → Out, ∀ T : Nat → St, T j = s → (∀ i, j ≤ i → T (i + 1) = apply1 (opAt ops i) (out i) (T i)) → k (T (j + (o :: l).length)) = some res ∧ ∀ i, j ≤ i → i < j + (o :: l).length → StepOK P ops base (hotOp fh r base) bef i (T i) (out i) := by
      intro x s' hs' hx h'
      obtain ⟨out, hout⟩ := evDraw_trace r bef k res l (j + 1) s' hl' h'
      obtain ⟨out2, hj, hne⟩ : ∃ out2 : Nat → Out, out2 j = x ∧ ∀ i, i ≠ j → out2 i = out i := ⟨fun i => if i = j then x else out i, if_pos rfl, fun i h => if_neg h⟩
      refine ⟨out2, fun T h0 hT => ?_⟩
      obtain ⟨h1, h2⟩ := hout T (by rw [hT j (Nat.le_refl j), hj, hi, h0, hs']) fun i hi' => by rw [hT i (by omega), hne i (by omega)]
      refine ⟨by rw [List.length_cons, show j + (l.length + 1) = j + 1 + l.length by omega]; exact h1, fun i h3 h4 => ?_⟩
      by_cases e : i = j
      · subst e
        rw [hj, h0]
        exact hx
      · rw [hne i e]
        exact h2 i (by omega) (by rw [List.length_cons] at h4; omega)
    rw [evDraw] at h
    cases hgo : guardOk ops o s with
    | none => rw [hgo] at h; cases h
    | some b =>
      rw [hgo] at h
      cases b with
      | true =>
        obtain ⟨⟨d, dl⟩, h1, hop⟩ := evOp_sure P hcall (fh.op r j) o X _ res h
        simp only at h1
        split at h1
        · rename_i hk
          obtain ⟨d', h2, href⟩ := refineD_sure _ d X _ res h1
          exact step (some (d', dl)) _ rfl ⟨by rw [hi]; exact hgo, by rw [hi]; exact hk, d, by rw [hi]; exact hop, href⟩ h2
        · cases h1
      | false => exact step none _ rfl (by show guardOk ops (opAt ops j) s = some false; rw [hi]; exact hgo) h

theorem slotsOk_at {bef : Array Nat} (h : slotsOk ops bef = true) {i j t : Nat} (hi : i < ops.size) (hj : j < ops.size) (hij : i ≠ j) (hd : (opAt ops i).dst = some t) (hn : (opAt ops j).dst = some t ∨ t ∈ slotsIn ops (opAt ops j)) :
    (i < j → before? bef i j = true) ∧ (j < i → before? bef j i = true) := by
  have at_ : ∀ k (hk : k < ops.size), opAt ops k = ops[k] := fun k hk => by simp [opAt, Array.getD, hk]
  unfold slotsOk at h
  simp only [Bool.and_eq_true] at h
  have h1 := List.all_eq_true.1 h.2 (ops[j], j) (List.mem_iff_getElem?.2 ⟨j, by simp [hj]⟩)
  have h2 := List.all_eq_true.1 h1 (ops[i], i) (List.mem_iff_getElem?.2 ⟨i, by simp [hi]⟩)
  rw [at_ i hi] at hd
  rw [at_ j hj] at hn
  simp only [hd] at h2
  have h3 : (ops[j].dst == some t || (slotsIn ops ops[j]).contains t) = true := by
    rcases hn with hn | hn
    · simp [hn]
    · simp [hn]
  rw [h3] at h2
  simp only [Bool.not_true, Bool.or_false, Bool.or_eq_true, beq_iff_eq, hij, false_or] at h2
  constructor
  · intro hlt
    rwa [if_pos hlt] at h2
  · intro hlt
    rwa [if_neg (by omega)] at h2
theorem ownN_iff {base i x : Nat} : ownN base i x = true ↔ base + 8 * i ≤ x ∧ x < base + 8 * i + 8 := by simp [ownN]
theorem ordered_at {bef : Array Nat} {i j : Nat} {ks : List Nat} (h : ordered hot ops.toList bef base j ks = true) (hi : i < ops.size) (hij : i ≠ j) :
    before? bef i j = true ∨ before? bef j i = true ∨ ∀ x ∈ ks, seesO hot bef base i (opAt ops i) x = false ∧ ownN base i x = false := by
  have at_ : opAt ops i = ops[i] := by simp [opAt, Array.getD, hi]
  unfold ordered at h
  have h1 := List.all_eq_true.1 h (ops[i], i) (List.mem_iff_getElem?.2 ⟨i, by simp [hi]⟩)
  rw [at_]
  simp only [Bool.or_eq_true, beq_iff_eq, hij, false_or, List.all_eq_true, Bool.and_eq_true, Bool.not_eq_true'] at h1
  exact h1
/-- Where the names of an operation's objects lie. -/
theorem keysOk_at {bef : Array Nat} {j : Nat} {dl : Dl} (h : keysOk hot ops.toList bef base j (opAt ops j) dl = true) {x : Nat} (hx : x ∈ keysOf dl) :
    ownN base j x = true ∨ (ordered hot ops.toList bef base j (keysOf dl) = true ∧ (ownN base j x = true ∨ seesO hot bef base j (opAt ops j) x = true) ∧ x < base + 8 * ops.size) := by
  unfold keysOk at h
  have hne : dl.isEmpty = false := by cases dl <;> simp_all [keysOf]
  rw [hne] at h
  simp only [Bool.false_or, Bool.and_eq_true, Bool.or_eq_true, List.all_eq_true, decide_eq_true_eq] at h
  refine h.imp (fun h => h x hx) fun h => ⟨h.1, ?_⟩
  have := h.2 x hx
  simpa using this
end draw
end Go.Ev
