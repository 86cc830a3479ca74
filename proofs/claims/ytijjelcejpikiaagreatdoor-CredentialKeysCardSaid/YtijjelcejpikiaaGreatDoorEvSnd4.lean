/-
Steps that change objects; conversions, lengths.
-/
import Derived.Test.YtijjelcejpikiaaGreatDoorEvSnd3
import Derived.Lib.ConvBytes
import Derived.Laws.BytesArg
import Derived.Lib.AppendStr
set_option linter.unusedVariables false
set_option linter.unusedSimpArgs false
namespace Go.Ev
variable [Globs]
set_option linter.unusedSectionVars false

/-! ### Steps -/
def upd {A : Type} (f : Nat → A) (o : Nat) (a : A) : Nat → A := fun i => if i = o then a else f i
theorem upd_same {A : Type} (f : Nat → A) (o : Nat) (a : A) : upd f o a o = a := by simp [upd]
theorem upd_other {A : Type} (f : Nat → A) {o i : Nat} (a : A) (h : i ≠ o) : upd f o a i = f i := by simp [upd, h]
theorem applyU_cons (H : Nat → Option Ob) (o : Nat) (ob : Ob) (l : Dl) : applyU H ((o, ob) :: l) = applyU (upd H o (some ob)) l := rfl
theorem applyU_append (H : Nat → Option Ob) (l l' : Dl) : applyU H (l ++ l') = applyU (applyU H l) l' := by
  induction l generalizing H with
  | nil => rfl
  | cons p l ih => exact ih _
/-- From one state to another within one operation: names from fr on may have been given. -/
structure Go1 (w0 : World) (F0 W0 : Nat → Prop) (fr : Nat) (N : Nat → Prop) (γ : Nat → Value) (Fz : Nat → Prop) (w : World) (N' : Nat → Prop) (γ' : Nat → Value) (Fz' : Nat → Prop) (H' : Nat → Option Ob) (w' : World) : Prop where
  rel : Rel w0 F0 W0 N' γ' Fz' H' w'
  ext : Ext fr N γ Fz w N' γ' Fz' w'
theorem Ext.trans {fr : Nat} {N N1 N2 : Nat → Prop} {γ γ1 γ2 : Nat → Value} {Fz Fz1 Fz2 : Nat → Prop} {w w1 w2 : World} (h : Ext fr N γ Fz w N1 γ1 Fz1 w1) (h' : Ext fr N1 γ1 Fz1 w1 N2 γ2 Fz2 w2) : Ext fr N γ Fz w N2 γ2 Fz2 w2 where
  names o ho := ⟨(h'.names o (h.names o ho).1).1, (h'.names o (h.names o ho).1).2.trans (h.names o ho).2⟩
  new o ho := (h'.new o ho).elim (fun h1 => h.new o h1) .inr
  fz b hb := h'.fz b (h.fz b hb)
  heap b hb := (h'.heap b (h.fz b hb)).trans (h.heap b hb)
theorem Go1.trans {w0 : World} {F0 W0 : Nat → Prop} {fr : Nat} {N N1 N2 : Nat → Prop} {γ γ1 γ2 : Nat → Value} {Fz Fz1 Fz2 : Nat → Prop} {H1 H2 : Nat → Option Ob} {w w1 w2 : World}
    (h : Go1 w0 F0 W0 fr N γ Fz w N1 γ1 Fz1 H1 w1) (h' : Go1 w0 F0 W0 fr N1 γ1 Fz1 w1 N2 γ2 Fz2 H2 w2) : Go1 w0 F0 W0 fr N γ Fz w N2 γ2 Fz2 H2 w2 := ⟨h'.rel, h.ext.trans h'.ext⟩

section steps
variable {w0 : World} {F0 W0 : Nat → Prop} {N : Nat → Prop} {γ : Nat → Value} {Fz : Nat → Prop} {H : Nat → Option Ob} {w w' : World}
theorem Rel.go (h : Rel w0 F0 W0 N γ Fz H w) (fr : Nat) : Go1 w0 F0 W0 fr N γ Fz w N γ Fz H w := ⟨h, Ext.refl ..⟩
/-- Old memory but for one block is as it was. -/
structure But (w w' : World) (b : Option Nat) : Prop where
  os : w'.os = w.os
  tape : w'.tape = w.tape
  output : w'.output = w.output
  size : w.heap.size ≤ w'.heap.size
  block : ∀ k, k < w.heap.size → b ≠ some k → w'.heap[k]? = w.heap[k]?
theorem But.refl (w : World) (b : Option Nat) : But w w b := ⟨rfl, rfl, rfl, Nat.le_refl _, fun _ _ _ => rfl⟩
/-- Object o is set: a new one, one that is written, one that dies. -/
theorem Rel.put (h : Rel w0 F0 W0 N γ Fz H w) (fr o : Nat) (ob : Ob) (g : Value) (hg : N o → g = γ o) (hfr : ¬ N o → fr ≤ o ∧ o < fr + 8) (hb : But w w' (if ob.own then blkOf g else none))
    (hown : ob.own = true → ∀ b, blkOf g = some b → ¬ Fz b ∧ (w0.heap.size ≤ b ∨ W0 b) ∧ ∀ o' ob', o' ≠ o → H o' = some ob' → ob'.own = true → blkOf (γ o') ≠ some b)
    (hob : ObR (fun i => N i ∨ i = o) (upd γ o g) Fz w' g ob) :
    Go1 w0 F0 W0 fr N γ Fz w (fun i => N i ∨ i = o) (upd γ o g) Fz (upd H o (some ob)) w' := by
  have hn : ∀ i, N i → (N i ∨ i = o) ∧ upd γ o g i = γ i := fun i hi => ⟨.inl hi, by
    by_cases e : i = o
    · subst e; rw [upd_same]; exact hg hi
    · exact upd_other _ _ e⟩
  have hfz : ∀ b, Fz b → w'.heap[b]? = w.heap[b]? := fun b hF => hb.block b (h.fzlt b hF) (by
    split
    · rename_i ho
      intro e
      exact (hown ho b e).1 hF
    · simp)
  have hother : ∀ i ob', i ≠ o → H i = some ob' → ob'.own = true → ∀ b, blkOf (γ i) = some b → w'.heap[b]? = w.heap[b]? := fun i ob' hi hH hw b hbl => by
    by_cases hlt : b < w.heap.size
    · refine hb.block b hlt ?_
      split
      · rename_i ho
        intro e
        exact (hown ho b e).2.2 i ob' hi hH hw hbl
      · simp
    · exfalso
      have := h.obs i ob' hH
      cases ob' with
      | cells ds => obtain ⟨b', cs, E, e, hb', _⟩ := this; rw [e] at hbl; cases hbl; exact hlt (Array.getElem?_eq_some_iff.1 hb').1
      | ints k m xs => obtain ⟨b', E, e, hb', _⟩ := this; rw [e] at hbl; cases hbl; exact hlt (Array.getElem?_eq_some_iff.1 hb').1
      | flags m bs => obtain ⟨b', E, e, hb', _⟩ := this; rw [e] at hbl; cases hbl; exact hlt (Array.getElem?_eq_some_iff.1 hb').1
      | arr z e x =>
        obtain ⟨n, cs, _, ho⟩ := this
        rcases ho.row with ⟨e, _⟩ | ⟨b', cap, cur, fz, e, hb', _⟩
        · rw [e] at hbl; cases hbl
        · rw [e] at hbl; cases hbl; exact hlt (Array.getElem?_eq_some_iff.1 hb').1
      | froz x => cases hw
      | dead => cases hw
  refine ⟨⟨?_, h.fz0, fun b hF => Nat.lt_of_lt_of_le (h.fzlt b hF) hb.size, h.fznew, fun i ob' hi hl => ?_, fun i ob' hi => ?_, fun i ob' hi hw b hbl => ?_, fun i hi => ?_, h.glob.frame (fun _ h => h) hfz⟩, ⟨hn, fun i hi => ?_, fun _ h => h, hfz⟩⟩
  · refine ⟨hb.os.trans h.frm.os, hb.tape.trans h.frm.tape, hb.output.trans h.frm.output, Nat.le_trans h.frm.size hb.size, fun b hlt hnw => ?_⟩
    rw [← h.frm.block b hlt hnw]
    refine hb.block b (Nat.lt_of_lt_of_le hlt h.frm.size) ?_
    split
    · rename_i ho
      intro e
      rcases (hown ho b e).2.1 with h1 | h1
      · omega
      · exact hnw h1
    · simp
  · by_cases e : i = o
    · exact .inr e
    · rw [upd_other _ _ e] at hi
      exact .inl (h.named i ob' hi hl)
  · by_cases e : i = o
    · subst e
      rw [upd_same] at hi
      cases hi
      rw [upd_same]
      exact hob
    · rw [upd_other _ _ e] at hi
      rw [upd_other _ _ e]
      exact (h.obs i ob' hi).frame hn (fun _ h => h) hfz fun hw b hbl => hother i ob' e hi hw b hbl
  · by_cases e : i = o
    · subst e
      rw [upd_same] at hi hbl
      cases hi
      obtain ⟨h1, h2, h3⟩ := hown hw b hbl
      refine ⟨h1, h2, fun j ob2 hj hw2 hbl2 => ?_⟩
      by_cases e2 : j = i
      · exact e2
      · rw [upd_other _ _ e2] at hj hbl2
        exact absurd hbl2 (h3 j ob2 e2 hj hw2)
    · rw [upd_other _ _ e] at hi hbl
      obtain ⟨h1, h2, h3⟩ := h.apart i ob' hi hw b hbl
      refine ⟨h1, h2, fun j ob2 hj hw2 hbl2 => ?_⟩
      by_cases e2 : j = o
      · subst e2
        rw [upd_same] at hj hbl2
        cases hj
        exact absurd hbl ((hown hw2 b hbl2).2.2 i ob' e hi hw)
      · rw [upd_other _ _ e2] at hj hbl2
        exact h3 j ob2 hj hw2 hbl2
  · by_cases e : i = o
    · subst e
      exact ⟨ob, upd_same _ _ _⟩
    · rw [upd_other _ _ e]
      exact h.hasob i (hi.resolve_right e)
  · rcases hi with hi | rfl
    · exact .inl hi
    · by_cases hN : N i
      · exact .inl hN
      · exact .inr (hfr hN)
/-- Object o is written no more. -/
theorem Rel.freeze (h : Rel w0 F0 W0 N γ Fz H w) (fr o : Nat) (z : Nat) (e : TypeId) (x : PD) (ho : H o = some (.arr z e x)) (h1 : OneC (γ o)) :
    Go1 w0 F0 W0 fr N γ Fz w N γ (fun b => Fz b ∨ blkOf (γ o) = some b) (upd H o (some (.froz x))) w := by
  have hap := h.apart o _ ho rfl
  obtain ⟨n, cs, hr, hown⟩ := h.obs o _ ho
  have hlt : ∀ b, blkOf (γ o) = some b → b < w.heap.size := fun b hb => by
    rcases hown.row with ⟨e, _⟩ | ⟨b', cap, cur, fz, e, hb', _⟩
    · rw [e] at hb; cases hb
    · rw [e] at hb; cases hb; exact (Array.getElem?_eq_some_iff.1 hb').1
  refine ⟨⟨h.frm, fun b hb => .inl (h.fz0 b hb), fun b hb => hb.elim (h.fzlt b) (hlt b), fun b hb => hb.elim (h.fznew b) fun hb => .inr (hap b hb).2.1, fun i ob' hi hl => ?_, fun i ob' hi => ?_, fun i ob' hi hw b hbl => ?_, fun i hi => (Classical.em (i = o)).elim (fun e => ⟨_, by subst e; exact upd_same _ _ _⟩) fun e => by rw [upd_other _ _ e]; exact h.hasob i hi, h.glob.frame (fun b hb => .inl hb) fun _ _ => rfl⟩,
    ⟨fun i hi => ⟨hi, rfl⟩, fun i hi => .inl hi, fun b hb => .inl hb, fun _ _ => rfl⟩⟩
  · by_cases e : i = o
    · subst e; exact h.named i _ ho rfl
    · rw [upd_other _ _ e] at hi; exact h.named i ob' hi hl
  · by_cases e : i = o
    · subst e
      rw [upd_same] at hi
      cases hi
      refine ⟨?_, h1⟩
      rcases hown.cells with ⟨e, hn⟩ | ⟨b, cap, e, hn, hc⟩
      · rw [e]; subst hn; exact hr.toNil
      · rw [e]
        exact hr.toRD (fun b hb => .inl hb) _ _ hn fun _ => ⟨rfl, .inr rfl, hc⟩
    · rw [upd_other _ _ e] at hi
      exact (h.obs i ob' hi).frame (fun i hi => ⟨hi, rfl⟩) (fun b hb => .inl hb) (fun _ _ => rfl) fun _ _ _ => rfl
  · have e : i ≠ o := by
      rintro rfl
      rw [upd_same] at hi
      cases hi
      cases hw
    rw [upd_other _ _ e] at hi
    obtain ⟨h2, h3, h4⟩ := h.apart i ob' hi hw b hbl
    refine ⟨fun hb => hb.elim h2 fun hb => e ((hap b hb).2.2 i ob' hi hw hbl), h3, fun j ob2 hj hw2 hbl2 => ?_⟩
    have e2 : j ≠ o := by
      rintro rfl
      rw [upd_same] at hj
      cases hj
      cases hw2
    rw [upd_other _ _ e2] at hj
    exact h4 j ob2 hj hw2 hbl2
/-- An array variable dies; what it holds is written no more. -/
theorem Rel.freezeInts (h : Rel w0 F0 W0 N γ Fz H w) (fr o : Nat) (k : IntKind) (m : Nat) (xs : List Int) (ho : H o = some (.ints k m xs)) :
    Go1 w0 F0 W0 fr N γ Fz w N γ (fun b => Fz b ∨ blkOf (γ o) = some b) (upd H o (some .dead)) w := by
  have hap := h.apart o _ ho rfl
  obtain ⟨b0, E, hg, hb0, hm⟩ := h.obs o _ ho
  have hlt : ∀ b, blkOf (γ o) = some b → b < w.heap.size := fun b hb => by
    rw [hg] at hb; cases hb; exact (Array.getElem?_eq_some_iff.1 hb0).1
  refine ⟨⟨h.frm, fun b hb => .inl (h.fz0 b hb), fun b hb => hb.elim (h.fzlt b) (hlt b), fun b hb => hb.elim (h.fznew b) fun hb => .inr (hap b hb).2.1, fun i ob' hi hl => ?_, fun i ob' hi => ?_, fun i ob' hi hw b hbl => ?_, fun i hi => (Classical.em (i = o)).elim (fun e => ⟨_, by subst e; exact upd_same _ _ _⟩) fun e => by rw [upd_other _ _ e]; exact h.hasob i hi, h.glob.frame (fun b hb => .inl hb) fun _ _ => rfl⟩,
    ⟨fun i hi => ⟨hi, rfl⟩, fun i hi => .inl hi, fun b hb => .inl hb, fun _ _ => rfl⟩⟩
  · by_cases e : i = o
    · subst e; exact h.named i _ ho rfl
    · rw [upd_other _ _ e] at hi; exact h.named i ob' hi hl
  · by_cases e : i = o
    · subst e
      rw [upd_same] at hi
      cases hi
      trivial
    · rw [upd_other _ _ e] at hi
      exact (h.obs i ob' hi).frame (fun i hi => ⟨hi, rfl⟩) (fun b hb => .inl hb) (fun _ _ => rfl) fun _ _ _ => rfl
  · have e : i ≠ o := by
      rintro rfl
      rw [upd_same] at hi
      cases hi
      cases hw
    rw [upd_other _ _ e] at hi
    obtain ⟨h2, h3, h4⟩ := h.apart i ob' hi hw b hbl
    refine ⟨fun hb => hb.elim h2 fun hb => e ((hap b hb).2.2 i ob' hi hw hbl), h3, fun j ob2 hj hw2 hbl2 => ?_⟩
    have e2 : j ≠ o := by
      rintro rfl
      rw [upd_same] at hj
      cases hj
      cases hw2
    rw [upd_other _ _ e2] at hj
    exact h4 j ob2 hj hw2 hbl2
end steps
end Go.Ev
