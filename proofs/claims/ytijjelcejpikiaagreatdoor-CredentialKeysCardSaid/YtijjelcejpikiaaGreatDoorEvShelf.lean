/-
An entry out of a proved summary: a call that writes nothing that was there, and hands pure data back.
-/
import Derived.Test.YtijjelcejpikiaaGreatDoorEvHoare
set_option linter.unusedVariables false
set_option linter.unusedSimpArgs false
namespace Go.Ev
variable [Globs]
set_option linter.unusedSectionVars false
open Go.RowKit
theorem FnOK.of_below {P : Program} {g : FuncId} {args : List D} {x : PD}
    (h : ∀ (w : World) (F0 : Nat → Prop) (γ0 : Nat → Value) (vs : List Value), vs.length = args.length → (∀ i (h : i < args.length), V (fun _ => False) γ0 F0 w args[i] (vs.getD i undef)) →
      (callFunc g vs.toArray).run P w = .ok (.enter g vs.toArray) w ∧ Calls P g vs.toArray w fun e w' => ∃ v, e = .returned v ∧ Below w.heap.size w w' ∧ RD F0 w' x v) : FnOK P g args [] (.pd x, []) := by
  intro w F0 γ0 vs hl hr hv
  have e : (fun o => o < ([] : List Ob).length) = fun _ => False := by funext o; simp
  rw [e] at hr
  obtain ⟨h1, h2⟩ := h w F0 γ0 vs hl fun i hi => (hv i hi).frame (fun o ho => by simp at ho) (fun b hb => hb) fun _ _ => rfl
  refine .inl ⟨h1, h2.mono ?_⟩
  rintro e w' ⟨v, rfl, hb, hx⟩
  have hw : ∀ b, F0 b → w'.heap[b]? = w.heap[b]? := fun b hF => hb.block b (hr.fzlt b hF)
  refine ⟨v, rfl, fun _ => False, γ0, F0, ⟨⟨hb.os, hb.tape, hb.output, hb.size, fun b hlt _ => hb.block b hlt⟩, fun b hF => hF, fun b hF => Nat.lt_of_lt_of_le (hr.fzlt b hF) hb.size, fun b hF => .inl hF, fun o ob ho => by simp at ho, fun o ob ho => by simp at ho, fun o ob ho => by simp at ho, fun o ho => ho.elim, hr.glob.frame (fun b h => h) hw⟩, fun o ho => by simp at ho, fun o ho => ho.elim, .pd x v hx⟩
/-- The same, where the package variables are read. -/
theorem FnOK.of_below_glob {P : Program} {g : FuncId} {args : List D} {x : PD}
    (h : ∀ (w : World) (F0 : Nat → Prop) (γ0 : Nat → Value) (vs : List Value), GlobOk F0 w → vs.length = args.length → (∀ i (h : i < args.length), V (fun _ => False) γ0 F0 w args[i] (vs.getD i undef)) →
      (callFunc g vs.toArray).run P w = .ok (.enter g vs.toArray) w ∧ Calls P g vs.toArray w fun e w' => ∃ v, e = .returned v ∧ Below w.heap.size w w' ∧ RD F0 w' x v) : FnOK P g args [] (.pd x, []) := by
  intro w F0 γ0 vs hl hr hv
  have e : (fun o => o < ([] : List Ob).length) = fun _ => False := by funext o; simp
  rw [e] at hr
  obtain ⟨h1, h2⟩ := h w F0 γ0 vs hr.glob hl fun i hi => (hv i hi).frame (fun o ho => by simp at ho) (fun b hb => hb) fun _ _ => rfl
  refine .inl ⟨h1, h2.mono ?_⟩
  rintro e w' ⟨v, rfl, hb, hx⟩
  have hw : ∀ b, F0 b → w'.heap[b]? = w.heap[b]? := fun b hF => hb.block b (hr.fzlt b hF)
  refine ⟨v, rfl, fun _ => False, γ0, F0, ⟨⟨hb.os, hb.tape, hb.output, hb.size, fun b hlt _ => hb.block b hlt⟩, fun b hF => hF, fun b hF => Nat.lt_of_lt_of_le (hr.fzlt b hF) hb.size, fun b hF => .inl hF, fun o ob ho => by simp at ho, fun o ob ho => by simp at ho, fun o ob ho => by simp at ho, fun o ho => ho.elim, hr.glob.frame (fun b h => h) hw⟩, fun o ho => by simp at ho, fun o ho => ho.elim, .pd x v hx⟩
/-- Nothing that was there is written: what was known is known still. -/
theorem rel_below {w0 : World} {F0 W0 N : Nat → Prop} {γ : Nat → Value} {Fz : Nat → Prop} {H : Nat → Option Ob} {w w' : World} (h : Rel w0 F0 W0 N γ Fz H w) (hb : Below w.heap.size w w') : Rel w0 F0 W0 N γ Fz H w' := by
  have hF : ∀ b, Fz b → w'.heap[b]? = w.heap[b]? := fun b hF => hb.block b (h.fzlt b hF)
  exact ⟨⟨hb.os.trans h.frm.os, hb.tape.trans h.frm.tape, hb.output.trans h.frm.output, Nat.le_trans h.frm.size hb.size, fun b hlt hn => (hb.block b (Nat.lt_of_lt_of_le hlt h.frm.size)).trans (h.frm.block b hlt hn)⟩, h.fz0, fun b hF => Nat.lt_of_lt_of_le (h.fzlt b hF) hb.size, h.fznew, h.named,
    fun o ob ho => (h.obs o ob ho).frame (fun _ h => ⟨h, rfl⟩) (fun _ h => h) hF fun hw b hbl => hb.block b (h.blk_lt ho hw hbl), h.apart, h.hasob, h.glob.frame (fun _ h => h) hF⟩
end Go.Ev
