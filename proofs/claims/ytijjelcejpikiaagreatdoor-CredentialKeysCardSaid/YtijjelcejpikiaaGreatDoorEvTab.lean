/-
Tables of functions.
-/
import Derived.Test.YtijjelcejpikiaaGreatDoorEvNat
set_option linter.unusedVariables false
set_option linter.unusedSimpArgs false
namespace Go.Ev
variable [Globs]
set_option linter.unusedSectionVars false
/-- An entry for function g. -/
def EntOK (P : Program) (g : FuncId) (e : Ent) : Prop := (∀ args hp, Sure (e args hp) (FnOK P g args hp)) ∧ ∀ args hp, Nt (e args hp)
theorem tbl_ok {P : Program} {l : List (FuncId × Ent)} (h : ∀ p ∈ l, EntOK P p.1 p.2) : CalOK P (tbl l) ∧ CalNt (tbl l) := by
  have key : ∀ (l : List (FuncId × Ent)), (∀ p ∈ l, EntOK P p.1 p.2) → ∀ g f, assoc l g = some f → EntOK P g f := by
    intro l
    induction l with
    | nil => intro _ g f h; cases h
    | cons p l ih =>
      intro h g f hf
      obtain ⟨j, a⟩ := p
      simp only [assoc] at hf
      split at hf
      · rename_i e
        cases hf
        subst e
        exact h (j, f) (by simp)
      · exact ih (fun p hp => h p (by simp [hp])) g f hf
  constructor
  · intro g args hp
    unfold tbl
    cases hf : assoc l g with
    | none => exact .fail
    | some f => exact (key l h g f hf).1 args hp
  · intro g args hp
    unfold tbl
    cases hf : assoc l g with
    | none => exact .fail
    | some f => exact (key l h g f hf).2 args hp
/-- A body as an entry. -/
theorem body_ent {P : Program} {call : Cal} (h : CalOK P call ∧ CalNt call) (fh : FH) (g : FuncId) : EntOK P g (evBody P call fh g) :=
  ⟨evBody_sure P fh h.1 h.2 g, evBody_nt P h.2 fh g⟩
/-- A value told by a function of the arguments. -/
theorem val_ent {P : Program} {g : FuncId} {f : List D → List Ob → Option (D × List Ob)} (h : ∀ args hp r, f args hp = some r → FnOK P g args hp r) : EntOK P g (fun args hp => C.lift (f args hp)) :=
  ⟨fun args hp => .lift (h args hp), fun args hp => .lift _⟩
theorem pullD_sure (s : Sh) (d : D) : Sure (pullD s d) fun d' => ∀ N γ Fz w v, V N γ Fz w d v → V N γ Fz w d' v := by
  unfold pullD
  split
  · exact .pure fun N γ Fz w v h => h
  · rename_i t x
    have one : (∀ xs, x ≠ .agg xs) → (∀ k m xs, x ≠ .arr k m xs) → (∀ q, x = .opq q → OneC q) → Sure (C.bind (pullAt t x 0) fun c => C.pure (D.pd c)) fun d' => ∀ N γ Fz w v, V N γ Fz w (.pd x) v → V N γ Fz w d' v := fun h1 h2 h3 => by
      refine .bind (pullAt_sure t x 0) fun c hc => .pure fun N γ Fz w v h => ?_
      have hr := h.inv_pd
      obtain ⟨u, hu, ho, hru⟩ := hc Fz w v hr
      have hv : v = u := by
        have : ∀ v : Value, OneC v → v.cells[0]? = some u → v = u := fun v h1 h2 => by
          rw [cells_one h1] at h2
          simpa using h2
        cases x with
        | agg xs => exact absurd rfl (h1 xs)
        | arr k m xs => exact absurd rfl (h2 k m xs)
        | bool b => cases hr.inv_bool; exact this _ rfl hu
        | anyb => obtain ⟨b, rfl⟩ := hr.inv_anyb; exact this _ rfl hu
        | int k n => cases hr.inv_int; exact this _ rfl hu
        | str s => cases hr.inv_str; exact this _ rfl hu
        | nums k xs => rcases hr.inv_nums with ⟨_, rfl⟩ | ⟨a, cap, rfl, _⟩ <;> exact this _ rfl hu
        | sl z xs => rcases hr.inv_sl with ⟨_, rfl⟩ | ⟨a, cap, vf, rfl, _⟩ <;> exact this _ rfl hu
        | opq q =>
          cases hr.inv_opq
          exact this _ (h3 _ rfl) hu
      rw [hv]
      exact .pd _ _ hru
    split
    · exact .fail
    · exact .fail
    · exact .iteF fun h1 => one (by simp) (by simp) fun q hq => by cases hq; exact h1
    · rename_i h1 h2 h3
      exact one (fun xs hx => h1 xs hx) (fun k m xs hx => h2 k m xs hx) fun q hq => absurd hq (h3 q)
  · rename_i ts xs
    refine .iteF fun hl => .bind (pullsAt_sure ts (.agg xs) 0) fun cs hcs => .pure fun N γ Fz w v h => ?_
    obtain ⟨vs, rfl, hs, ho, hr⟩ := h.inv_pd.inv_agg
    have := agg_of_cells (Fz := Fz) (w := w) (v := .agg vs) (off := 0) (cs := cs) (fun i hi => hcs.2 Fz w _ h.inv_pd i hi) (fun _ => trivial)
    have e : (Value.agg vs).cells.extract 0 (0 + cs.length) = vs := by
      rw [extract_all]
      · rfl
      · show vs.size = cs.length
        rw [hcs.1, ← hl, hs]
    rw [e] at this
    exact .pd _ _ this.1
  · exact .fail
theorem pullD_nt (s : Sh) (d : D) : Nt (pullD s d) := by
  unfold pullD
  repeat' first | exact .pure _ | exact .fail | refine .bind (pullAt_nt _ _ _) fun _ => ?_ | refine .bind (pullsAt_nt _ _ _) fun _ => ?_ | split
theorem pullDs_sure : ∀ (ss : List Sh) (ds : List D), Sure (pullDs ss ds) fun ds' => ds'.length = ds.length ∧ ∀ N γ Fz w (vs : Nat → Value), (∀ i (h : i < ds.length), V N γ Fz w ds[i] (vs i)) → ∀ i (h : i < ds'.length), V N γ Fz w ds'[i] (vs i)
  | [], [] => .pure ⟨rfl, fun N γ Fz w vs _ i h => by simp at h⟩
  | s :: ss, d :: ds => .bind (pullD_sure s d) fun d' hd => .bind (pullDs_sure ss ds) fun ds' hds => .pure ⟨by simp [hds.1], fun N γ Fz w vs h i hi => by
      cases i with
      | zero => exact hd N γ Fz w _ (h 0 (by simp))
      | succ i => exact hds.2 N γ Fz w (fun i => vs (i + 1)) (fun i hi => h (i + 1) (by simpa using hi)) i (by simpa using hi)⟩
  | [], _ :: _ => .fail
  | _ :: _, [] => .fail
theorem pullDs_nt : ∀ (ss : List Sh) (ds : List D), Nt (pullDs ss ds)
  | [], [] => .pure _
  | s :: ss, d :: ds => .bind (pullD_nt s d) fun _ => .bind (pullDs_nt ss ds) fun _ => .pure _
  | [], _ :: _ => .fail
  | _ :: _, [] => .fail
theorem FnOK.of_args {P : Program} {g : FuncId} {args args' : List D} {hp : List Ob} {r : D × List Ob} (h : FnOK P g args' hp r) (hl : args'.length = args.length)
    (hv : ∀ N γ Fz w (vs : Nat → Value), (∀ i (h : i < args.length), V N γ Fz w args[i] (vs i)) → ∀ i (h : i < args'.length), V N γ Fz w args'[i] (vs i)) : FnOK P g args hp r :=
  fun w F0 γ0 vs hvl hrel ha => h w F0 γ0 vs (by omega) hrel (hv _ _ _ _ _ ha)
theorem opened_ent {P : Program} {g : FuncId} {e : Ent} (h : EntOK P g e) (ss : List Sh) : EntOK P g (opened ss e) :=
  ⟨fun args hp => .bind (pullDs_sure ss args) fun args' ha => (h.1 args' hp).mono fun r hr => hr.of_args ha.1 ha.2, fun args hp => .bind (pullDs_nt ss args) fun _ => h.2 _ _⟩
end Go.Ev
