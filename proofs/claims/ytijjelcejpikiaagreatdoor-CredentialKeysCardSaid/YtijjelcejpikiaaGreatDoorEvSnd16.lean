/-
Operations one after the other.
-/
import Derived.Test.YtijjelcejpikiaaGreatDoorEvSnd15
set_option linter.unusedVariables false
set_option linter.unusedSimpArgs false
namespace Go.Ev
variable [Globs]
set_option linter.unusedSectionVars false

/-! ### States -/
/-- The state of a call. n0, γ0: the objects that it was handed. -/
structure StR (w0 : World) (F0 W0 : Nat → Prop) (n0 : Nat) (γ0 : Nat → Value) (s : St) (a : Act) (w : World) (N : Nat → Prop) (γ : Nat → Value) (Fz : Nat → Prop) : Prop where
  rel : Rel w0 F0 W0 N γ Fz (s.hp[·]?) w
  inh : ∀ o, o < n0 → N o ∧ γ o = γ0 o
  len : s.ts.length = a.tmps.size
  slots : ∀ t, V N γ Fz w (s.ts.getD t .junk) (a.tmps.getD t undef)
  quiet : a.defers = []
theorem okKeys_get : ∀ (l : Dl) (hp : List Ob), okKeys hp.length l = true → ∀ o, (updsH hp l)[o]? = applyU (fun i => hp[i]?) l o
  | [], hp, _, o => rfl
  | (x, ob) :: l, hp, h, o => by
    simp only [okKeys, Bool.and_eq_true, decide_eq_true_eq] at h
    obtain ⟨h1, h2⟩ := h
    have hlen : (updH hp (x, ob)).length = if x = hp.length then hp.length + 1 else hp.length := by
      unfold updH
      split
      · rw [if_neg (by omega)]; simp
      · rw [if_pos (by simp only [] at *; omega)]; simp
    rw [updsH, okKeys_get l _ (by rw [hlen]; exact h2), applyU_cons]
    congr 1
    funext i
    unfold updH
    simp only []
    split
    · by_cases e : i = x
      · subst e; rw [upd_same]; simp [*]
      · rw [upd_other _ _ e, List.getElem?_set_ne (Ne.symm e)]
    · have hx : x = hp.length := by omega
      by_cases e : i = x
      · subst e; rw [upd_same, hx]; simp
      · rw [upd_other _ _ e]
        by_cases hlt : i < hp.length
        · rw [List.getElem?_append_left hlt]
        · rw [List.getElem?_eq_none (by simp; omega), List.getElem?_eq_none (by omega)]
theorem lookH_some {hp : List Ob} {i : Nat} {ob : Ob} (h : lookH hp i = some ob) : hp[i]? = some ob ∧ ob.live = true := by
  unfold lookH at h
  split at h
  · cases h
  · rename_i hne
    refine ⟨h, ?_⟩
    cases ob with
    | dead => exact absurd h hne
    | _ => rfl
theorem refineD_sure (b : Bool) (d : D) : Sure (refineD b d) fun d' => ∀ N γ Fz w v, V N γ Fz w d v → V N γ Fz w d' v := by
  unfold refineD
  cases b with
  | true =>
    simp only [cond_true]
    refine .bind (boolD_sure d) fun t ht => .split (.pure fun N γ Fz w v h => ?_)
    rw [ht N γ Fz w v h]
    exact .pd _ _ (.bool t)
  | false => exact .pure fun N γ Fz w v h => h
section st
variable {w0 : World} {F0 W0 : Nat → Prop} {n0 : Nat} {γ0 : Nat → Value} {s : St} {a : Act} {w : World} {N : Nat → Prop} {γ : Nat → Value} {Fz : Nat → Prop}
theorem StR.eval (h : StR w0 F0 W0 n0 γ0 s a w N γ Fz) (x : Operand) : V N γ Fz w (evalO s.ts x) (a.eval x) := by
  cases x with
  | tmp t => exact h.slots t
  | const v => exact kon_V v
  | global g =>
    show V N γ Fz w (match Globs.tab g with | some x => D.rptr x 0 | none => D.pd (.opq (.pointer (some ⟨g, 0, none⟩)))) _
    cases hx : Globs.tab g with
    | some x =>
      obtain ⟨u, h1, h2, h3⟩ := h.rel.glob g x hx
      exact .rptr x 0 g 0 u h1 h2 h3
    | none => exact .pd _ _ (.opq _)
  | func f => exact .clo f [] [] #[] #[] rfl rfl (fun i h => by simp at h) fun i h => by simp at h
theorem StR.fresh (h : StR w0 F0 W0 n0 γ0 s a w N γ Fz) {o : Nat} (ho : s.hp.length ≤ o) : ¬ N o := fun hN => by
  obtain ⟨ob, h1⟩ := h.rel.hasob o hN
  have := (List.getElem?_eq_some_iff.1 h1).1
  omega
theorem put_ts (s : St) (d : Option Tmp) (v : D) : (s.put d v).hp = s.hp ∧ (s.put d v).ts.length = s.ts.length := by
  cases d <;> simp [St.put]
theorem put_get (ts : List D) (d t : Nat) (v : D) : (ts.set d v).getD t .junk = if t = d ∧ d < ts.length then v else ts.getD t .junk := by
  simp only [List.getD]
  by_cases h : t = d
  · subst h
    by_cases h2 : t < ts.length
    · simp [h2]
    · rw [if_neg (fun hh => h2 hh.2), List.getElem?_eq_none (by simp; omega), List.getElem?_eq_none (by omega)]
  · rw [if_neg (fun hh => h hh.1), List.getElem?_set_ne (Ne.symm h)]
theorem put_getA (ts : Array Value) (d t : Nat) (v : Value) : (ts.setIfInBounds d v).getD t undef = if t = d ∧ d < ts.size then v else ts.getD t undef := by
  simp only [Array.getD_eq_getD_getElem?, Array.getElem?_setIfInBounds]
  by_cases h : t = d
  · subst h
    by_cases h2 : t < ts.size
    · simp [h2]
    · simp [h2]
  · rw [if_neg (Ne.symm h), if_neg (fun hh => h hh.1)]
/-- A slot is set. -/
theorem StR.put {N' : Nat → Prop} {γ' : Nat → Value} {Fz' : Nat → Prop} {w' : World} {hp' : List Ob} {fr : Nat} {H' : Nat → Option Ob} (h : StR w0 F0 W0 n0 γ0 s a w N γ Fz) (hg : Go1 w0 F0 W0 fr N γ Fz w N' γ' Fz' H' w') (hH : ∀ o, hp'[o]? = H' o)
    (dst : Option Tmp) {d : D} {v : Value} (hv : V N' γ' Fz' w' d v) : StR w0 F0 W0 n0 γ0 (({ s with hp := hp' } : St).put dst d) (a.put dst v) w' N' γ' Fz' := by
  have e : H' = (hp'[·]?) := funext fun o => (hH o).symm
  subst e
  refine ⟨?_, fun o ho => ?_, ?_, fun t => ?_, ?_⟩
  · rw [(put_ts _ _ _).1]; exact hg.rel
  · obtain ⟨h1, h2⟩ := h.inh o ho
    obtain ⟨h3, h4⟩ := hg.ext.names o h1
    exact ⟨h3, h4.trans h2⟩
  · rw [(put_ts _ _ _).2]
    have := h.len
    cases dst <;> simpa [Act.put] using this
  · have h1 := (h.slots t).ext hg.ext
    cases dst with
    | none => exact h1
    | some k =>
      simp only [St.put, Act.put]
      rw [put_get, put_getA, h.len]
      split
      · exact hv
      · exact h1
  · have := h.quiet
    cases dst <;> simpa [Act.put] using this
/-- What the guard says. -/
theorem guardOk_wanted {ops : Array Oper} {o : Oper} {b : Bool} (h : guardOk ops o s = some b) (hs : ∀ t, V N γ Fz w (s.ts.getD t .junk) (a.tmps.getD t undef)) (hlen : s.ts.length = a.tmps.size) : Region.wanted o (yielded ops a.tmps) = b := by
  unfold guardOk at h
  unfold Region.wanted
  split at h
  · rename_i hg
    rw [hg]
    exact Option.some.inj h
  · rename_i j want hg
    rw [hg]
    simp only
    split at h
    · cases h
    · rename_i t ht
      have hv := hs t
      have hy : yielded ops a.tmps j = match a.tmps[t]? with | some (.bool b) => some b | _ => none := by
        unfold yielded
        rw [ht]
        rfl
      split at h
      · rename_i vs hx
        rw [hx] at hv
        have e := hv.inv_pd.inv_opq
        cases h
        rw [hy]
        have : ∀ x, a.tmps[t]? = some x → x = .tuple vs := fun x hx => by
          simpa [Array.getD_eq_getD_getElem?, hx] using e
        cases hc : a.tmps[t]? with
        | none => simp
        | some x => rw [this x hc]; simp
      · rename_i b' hx
        rw [hx] at hv
        have e := hv.inv_pd.inv_bool
        cases h
        rw [hy]
        have hlt : t < a.tmps.size := by
          rw [← hlen]
          rcases Nat.lt_or_ge t s.ts.length with h | h
          · exact h
          · simp [List.getD, List.getElem?_eq_none h] at hx
        have : a.tmps[t]? = some (.bool b') := by
          rw [getD_lt _ _ hlt] at e
          rw [Array.getElem?_eq_getElem hlt, e]
        rw [this]
        simp
      · cases h
end st

section region
variable (P : Program) {call : Cal} (hcall : CalOK P call) (fh : FH)
/-- Some state of this kind. -/
def StE (w0 : World) (F0 W0 : Nat → Prop) (n0 : Nat) (γ0 : Nat → Value) (s : St) (a : Act) (w : World) : Prop := ∃ N γ Fz, StR w0 F0 W0 n0 γ0 s a w N γ Fz
variable {w0 : World} {F0 W0 : Nat → Prop} {n0 : Nat} {γ0 : Nat → Value}
theorem StE.skip {s : St} {a : Act} {w : World} (h : StE w0 F0 W0 n0 γ0 s a w) (dst : Option Tmp) : StE w0 F0 W0 n0 γ0 (s.put dst undefD) (a.put dst undef) w := by
  obtain ⟨N, γ, Fz, h⟩ := h
  exact ⟨N, γ, Fz, h.put (hp' := s.hp) (h.rel.go 0) (fun _ => rfl) dst (.pd _ _ (.opq _))⟩
include hcall in
theorem evOps_wp (r : Nat) (ops : Array Oper) {X : Type} (k : St → Option X) (res : X) (Q : Exit → Act → World → Prop)
    (hQ : ∀ s a w, k s = some res → StE w0 F0 W0 n0 γ0 s a w → Q .normal a w) : ∀ (l : List Oper) (i : Nat) (s : St) (a : Act) (w : World), l = ops.toList.drop i → evOps P call fh r ops i l s X k = some res → StE w0 F0 W0 n0 γ0 s a w →
    wpOps P ops Q (List.range' i l.length) a w
  | [], i, s, a, w, _, h, hs => hQ s a w h hs
  | o :: l, i, s, a, w, hl, h, hs => by
    have hi : ops[i]? = some o := by
      have := congrArg (·[0]?) hl
      simpa using this.symm
    have hl' : l = ops.toList.drop (i + 1) := by
      have := congrArg List.tail hl
      simpa using this
    rw [List.length_cons, List.range'_succ, wpOps, hi]
    simp only
    obtain ⟨N, γ, Fz, hs⟩ := hs
    rw [evOps] at h
    cases hgo : guardOk ops o s with
    | none => rw [hgo] at h; cases h
    | some b =>
      rw [hgo] at h
      cases b with
      | true =>
        rw [guardOk_wanted hgo hs.slots hs.len, if_pos rfl]
        obtain ⟨⟨d, dl⟩, h1, hop⟩ := evOp_sure P hcall (fh.op r i) o X _ res h
        simp only at h1
        split at h1
        · rename_i hk
          obtain ⟨d', h2, href⟩ := refineD_sure _ d X _ res h1
          refine .inl (hop w0 F0 W0 N γ Fz (s.hp[·]?) a w hs.rel hs.eval (fun i ob hi => lookH_some hi) (fun i h1 _ => hs.fresh h1) _ _ fun v w' ⟨N', γ', F', hg, hv⟩ => ?_)
          exact evOps_wp r ops k res Q hQ l (i + 1) _ _ _ hl' h2 ⟨N', γ', F', hs.put hg (okKeys_get dl s.hp hk) o.dst (href _ _ _ _ _ hv)⟩
        · cases h1
      | false =>
        rw [guardOk_wanted hgo hs.slots hs.len, if_neg (by simp)]
        exact evOps_wp r ops k res Q hQ l (i + 1) _ _ _ hl' h (StE.skip ⟨N, γ, Fz, hs⟩ o.dst)
end region
end Go.Ev
