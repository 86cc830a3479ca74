/-
One operation of the evaluator is one operation of the machine: what only reads, what makes variables.
-/
import Derived.Test.YtijjelcejpikiaaGreatDoorEvSnd4
set_option linter.unusedVariables false
set_option linter.unusedSimpArgs false
namespace Go.Ev
variable [Globs]
set_option linter.unusedSectionVars false

/-- Whatever comes next: it is enough that it holds behind a value and a world of this kind. -/
def OpSound (P : Program) (o : Oper) (a : Act) (w : World) (post : Value → World → Prop) : Prop :=
  ∀ (next : Act → World → Prop) (Q : Exit → Act → World → Prop), (∀ v w', post v w' → next (a.put o.dst v) w') → o.wp P a w next Q
theorem OpSound.value {P : Program} {o : Oper} {a : Act} {w w' : World} {v : Value} {post : Value → World → Prop} (h : (execOp a.eval o).run P w = .ok (.value v) w') (hp : post v w') : OpSound P o a w post := by
  intro next Q hn
  unfold Oper.wp
  rw [h]
  exact hn v w' hp
theorem OpSound.skip {P : Program} {o : Oper} {a : Act} {w w' : World} {post : Value → World → Prop} (h : (execOp a.eval o).run P w = .ok .skip w') (hp : post undef w') : OpSound P o a w post := by
  intro next Q hn
  unfold Oper.wp
  rw [h]
  exact hn undef w' hp
theorem OpSound.enter {P : Program} {o : Oper} {a : Act} {w w' : World} {f : FuncId} {args : Array Value} {post : Value → World → Prop} (h : (execOp a.eval o).run P w = .ok (.enter f args) w')
    (hc : Calls P f args w' fun e w'' => ∃ v, e = .returned v ∧ post v w'') : OpSound P o a w post := by
  intro next Q hn
  unfold Oper.wp
  rw [h]
  refine hc.mono fun e w'' ⟨v, he, hp⟩ => ?_
  subst he
  exact hn v w'' hp

/-- What an operation's outcome means. -/
def OpOK (P : Program) (o : Oper) (ev : Operand → D) (look : Nat → Option Ob) (fr : Nat) (r : D × Dl) : Prop :=
  ∀ w0 F0 W0 N γ Fz H (a : Act) w, Rel w0 F0 W0 N γ Fz H w → (∀ x, V N γ Fz w (ev x) (a.eval x)) → (∀ i ob, look i = some ob → H i = some ob ∧ ob.live = true) → (∀ i, fr ≤ i → i < fr + 8 → ¬ N i) →
    OpSound P o a w fun v w' => ∃ N' γ' Fz', Go1 w0 F0 W0 fr N γ Fz w N' γ' Fz' (applyU H r.2) w' ∧ V N' γ' Fz' w' r.1 v

theorem lookOk {w0 : World} {F0 W0 N : Nat → Prop} {γ : Nat → Value} {Fz : Nat → Prop} {H : Nat → Option Ob} {w : World} {look : Nat → Option Ob} (h : Rel w0 F0 W0 N γ Fz H w)
    (hl : ∀ i ob, look i = some ob → H i = some ob ∧ ob.live = true) : LookOk look N γ Fz w := fun i ob hi => ⟨(hl i ob hi).2, h.named i ob (hl i ob hi).1 (hl i ob hi).2, h.obs i ob (hl i ob hi).1⟩

section ops
variable (P : Program) {o : Oper} {ev : Operand → D} {look : Nat → Option Ob} {fr : Nat}
/-- An operation that leaves all as it is. -/
def ValOK (o : Oper) (ev : Operand → D) (look : Nat → Option Ob) (d : D) : Prop :=
  ∀ N γ Fz w (ρ : Operand → Value), LookOk look N γ Fz w → (∀ x, V N γ Fz w (ev x) (ρ x)) → ∃ v, (execOp ρ o).run P w = .ok (.value v) w ∧ V N γ Fz w d v
theorem valOK {d : D} (h : ValOK P o ev look d) : OpOK P o ev look fr (d, []) := by
  intro w0 F0 W0 N γ Fz H a w hr hv hl hfr
  obtain ⟨v, hrun, hvd⟩ := h N γ Fz w a.eval (lookOk hr hl) hv
  exact .value hrun ⟨N, γ, Fz, hr.go fr, hvd⟩
theorem valSure {m : C D} (h : Sure m (ValOK P o ev look)) : Sure (C.bind m fun d => C.pure (d, [])) (OpOK P o ev look fr) :=
  .bind h fun d hd => .pure (valOK P hd)
theorem pdSure {m : C PD} (h : Sure m fun x => ValOK P o ev look (.pd x)) : Sure (C.bind m fun x => C.pure (.pd x, [])) (OpOK P o ev look fr) :=
  .bind h fun d hd => .pure (valOK P hd)
theorem run_value {w : World} {s : Sem Value} {v : Value} {w' : World} (h : s.run P w = .ok v w') : (do pure (.value (← s)) : Sem Next).run P w = .ok (.value v) w' := by
  simp [h]

/-! new variables -/
theorem run_newVar {w : World} (t : TypeId) (v : Value) : (newVar t v).run P w = .ok ⟨w.heap.size, 0, none⟩ (w.alloc (.cells v.cells t)) := by
  simp [newVar, newRow]
theorem but_alloc (w : World) (ob : Obj) : But w (w.alloc ob) (some w.heap.size) := ⟨rfl, rfl, rfl, by simp, fun k hk _ => heap_alloc_old w ob k hk⟩
/-- A new variable. -/
theorem Rel.newVar {w0 : World} {F0 W0 N : Nat → Prop} {γ : Nat → Value} {Fz : Nat → Prop} {H : Nat → Option Ob} {w : World} (h : Rel w0 F0 W0 N γ Fz H w) (fr : Nat) (hfr : ¬ N fr) (ob : Ob) (cs : Array Value) (t : TypeId) (hown : ob.own = true)
    (hob : ObR (fun i => N i ∨ i = fr) (upd γ fr (.pointer (some ⟨w.heap.size, 0, none⟩))) Fz (w.alloc (.cells cs t)) (.pointer (some ⟨w.heap.size, 0, none⟩)) ob) :
    ∃ N' γ', Go1 w0 F0 W0 fr N γ Fz w N' γ' Fz (upd H fr (some ob)) (w.alloc (.cells cs t)) ∧ V N' γ' Fz (w.alloc (.cells cs t)) (.ptr fr 0) (.pointer (some ⟨w.heap.size, 0, none⟩)) := by
  refine ⟨_, _, h.put fr fr ob (.pointer (some ⟨w.heap.size, 0, none⟩)) (fun hN => absurd hN hfr) (fun _ => ⟨Nat.le_refl _, by omega⟩) (by rw [if_pos hown]; exact but_alloc w _) (fun _ b hb => ?_) hob, .ptr fr 0 _ (.inr rfl) (upd_same _ _ _)⟩
  cases hb
  refine ⟨fun hF => Nat.lt_irrefl _ (h.fzlt _ hF), .inl h.frm.size, fun o' ob' hne hH hw e => ?_⟩
  have := h.obs o' ob' hH
  cases ob' with
  | cells ds => obtain ⟨b', cs, E, e', hb', _⟩ := this; rw [e'] at e; cases e; exact Nat.lt_irrefl _ (Array.getElem?_eq_some_iff.1 hb').1
  | ints k m xs => obtain ⟨b', E, e', hb', _⟩ := this; rw [e'] at e; cases e; exact Nat.lt_irrefl _ (Array.getElem?_eq_some_iff.1 hb').1
  | flags m bs => obtain ⟨b', E, e', hb', _⟩ := this; rw [e'] at e; cases e; exact Nat.lt_irrefl _ (Array.getElem?_eq_some_iff.1 hb').1
  | arr z e2 x =>
    obtain ⟨n, cs, _, ho⟩ := this
    rcases ho.row with ⟨e', _⟩ | ⟨b', cap, cur, fz, e', hb', _⟩
    · rw [e'] at e; cases e
    · rw [e'] at e; cases e; exact Nat.lt_irrefl _ (Array.getElem?_eq_some_iff.1 hb').1
  | froz x => cases hw
  | dead => cases hw
theorem frame_alloc {N : Nat → Prop} {γ : Nat → Value} {Fz : Nat → Prop} {w : World} {d : D} {v g : Value} {fr : Nat} {ob : Obj} (h : V N γ Fz w d v) (hfr : ¬ N fr) (hlt : ∀ b, Fz b → b < w.heap.size) :
    V (fun i => N i ∨ i = fr) (upd γ fr g) Fz (w.alloc ob) d v :=
  h.frame (fun i hi => ⟨.inl hi, upd_other _ _ fun e => hfr (e ▸ hi)⟩) (fun _ h => h) fun b hb => heap_alloc_old w ob b (hlt b hb)
theorem allFalse_eq {m : Nat} {v : Value} (h : allFalse m v = true) : v.cells = ((List.replicate m false).map Value.bool).toArray := by
  cases v <;> simp [allFalse] at h
  obtain ⟨h1, h2⟩ := h
  rename_i cs
  apply Array.ext'
  simp only [Value.cells]
  apply List.ext_getElem
  · simp [h1]
  · intro i hi _
    have := h2 i (by simpa using hi)
    split at this
    · rename_i b he
      simp at this
      subst this
      simpa using he
    · cases this
theorem allZero_eq {k : IntKind} {m : Nat} {v : Value} (h : allZero k m v = true) : v.cells = ((List.replicate m (0 : Int)).map (Value.int k)).toArray := by
  cases v <;> simp [allZero] at h
  obtain ⟨h1, h2⟩ := h
  rename_i cs
  apply Array.ext'
  simp only [Value.cells]
  apply List.ext_getElem
  · simp [h1]
  · intro i hi _
    have := h2 i (by simpa using hi)
    split at this
    · rename_i k' n he
      simp at this
      simp [he, this]
    · cases this
theorem alloc_sure (e : TypeId) (ho : o.op = .alloc e) : Sure (C.bind (C.lift (zeroOb P e)) fun ob => C.pure (D.ptr fr 0, [(fr, ob)])) (OpOK P o ev look fr) := by
  refine .bindL fun ob hob => .pure ?_
  intro w0 F0 W0 N γ Fz H a w hr hv hl hfr
  have hfr0 := hfr fr (Nat.le_refl _) (by omega)
  have run : ∀ z, (P.info? e).bind (·.zero) = some z → (execOp a.eval o).run P w = .ok (.value (.pointer (some ⟨w.heap.size, 0, none⟩))) (w.alloc (.cells z.cells e)) := by
    intro z hz
    obtain ⟨i, hi, hz⟩ := Option.bind_eq_some_iff.1 hz
    have : (zeroValue e).run P w = .ok z w := by simp [zeroValue, typeInfo, hi, hz]
    simp [execOp, ho, Instr.alloc, this, run_newVar]
  unfold zeroOb at hob
  split at hob
  · rename_i k m _
    obtain ⟨z, hz, hob⟩ := Option.bind_eq_some_iff.1 hob
    split at hob
    · rename_i hk
      cases hob
      obtain ⟨N', γ', hg, hv'⟩ := hr.newVar fr hfr0 (.ints k m (List.replicate m 0)) z.cells e rfl ⟨_, e, rfl, by rw [allZero_eq hk]; exact heap_alloc_new w _, by simp⟩
      exact .value (run z hz) ⟨N', γ', Fz, hg, hv'⟩
    · cases hob
  · split at hob
    · rename_i m _
      obtain ⟨z, hz, hob⟩ := Option.bind_eq_some_iff.1 hob
      split at hob
      · rename_i hk
        cases hob
        obtain ⟨N', γ', hg, hv'⟩ := hr.newVar fr hfr0 (.flags m (List.replicate m false)) z.cells e rfl ⟨_, e, rfl, by rw [allFalse_eq hk]; exact heap_alloc_new w _, by simp⟩
        exact .value (run z hz) ⟨N', γ', Fz, hg, hv'⟩
      · cases hob
    · obtain ⟨z, hz, hob⟩ := Option.bind_eq_some_iff.1 hob
      split at hob
      · rename_i hk
        cases hob
        obtain ⟨N', γ', hg, hv'⟩ := hr.newVar fr hfr0 (.cells (z.cells.toList.map kon)) z.cells e rfl
          ⟨_, _, e, rfl, heap_alloc_new w _, by simp, fun u hu => List.all_eq_true.1 hk u hu, fun i hi => by
            simp at hi
            simp only [List.getElem_map, Array.getElem_toList]
            rw [getD_lt _ _ hi]
            exact kon_V _⟩
        exact .value (run z hz) ⟨N', γ', Fz, hg, hv'⟩
      · cases hob
theorem box_sure (e : TypeId) (x : Operand) (ho : o.op = .box e x) : Sure (C.bind (C.lift (boxOb P e (ev x))) fun ob => C.pure (D.ptr fr 0, [(fr, ob)])) (OpOK P o ev look fr) := by
  refine .bindL fun ob hob => .pure ?_
  intro w0 F0 W0 N γ Fz H a w hr hv hl hfr
  have hfr0 := hfr fr (Nat.le_refl _) (by omega)
  have run : (execOp a.eval o).run P w = .ok (.value (.pointer (some ⟨w.heap.size, 0, none⟩))) (w.alloc (.cells (a.eval x).cells e)) := by
    simp [execOp, ho, Instr.box, run_newVar]
  have hx := hv x
  unfold boxOb at hob
  split at hob
  · split at hob
    · rename_i heq
      split at hob
      · rename_i hk
        cases hob
        rw [heq] at hx
        obtain ⟨hl, he⟩ := hx.inv_pd.inv_arr
        obtain ⟨N', γ', hg, hv'⟩ := hr.newVar fr hfr0 (.ints _ _ _) (a.eval x).cells e rfl ⟨_, e, rfl, by rw [he]; exact heap_alloc_new w _, hl⟩
        rw [hk] at hg
        exact .value run ⟨N', γ', Fz, hg, hv'⟩
      · cases hob
    · cases hob
  · obtain ⟨ds, hds, rfl⟩ := Option.map_eq_some_iff.1 hob
    obtain ⟨h1, h2, h3⟩ := cells_sure hds hx
    obtain ⟨N', γ', hg, hv'⟩ := hr.newVar fr hfr0 (.cells ds) (a.eval x).cells e rfl ⟨_, _, e, rfl, heap_alloc_new w _, h1, h2, fun i hi => frame_alloc (h3 i hi) hfr0 hr.fzlt⟩
    exact .value run ⟨N', γ', Fz, hg, hv'⟩
end ops
end Go.Ev
