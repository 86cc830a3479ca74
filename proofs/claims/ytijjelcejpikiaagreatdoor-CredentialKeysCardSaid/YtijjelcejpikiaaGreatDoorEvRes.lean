/-
Resuming a function's code at a place: names for the ways that meet and for loops.
-/
import Derived.Test.YtijjelcejpikiaaGreatDoorEvCode
namespace Go.Ev
variable [Globs]
set_option linter.unusedSectionVars false

/-- A way into code: the left of two, the right, a test's first and second way, what a block, a scope, a loop holds. -/
inductive Wy where
  | l | r | t | e | b | o
def codeAt : Code → List Wy → Code
  | c, [] => c
  | .seq a _, .l :: p => codeAt a p
  | .seq _ b, .r :: p => codeAt b p
  | .cond _ x _, .t :: p => codeAt x p
  | .cond _ _ y, .e :: p => codeAt y p
  | .block _ b, .b :: p => codeAt b p
  | .scope b, .b :: p => codeAt b p
  | .loop b, .o :: p => codeAt b p
  | c, _ => c

section res
variable (P : Program) (call : Cal) (fh : FH) (n0 : Nat)
def loopStep (b : Code) (hi ho : NH) (s : St) : Option (St ⊕ (Ex × St)) :=
  evCode P call fh n0 b s ((St ⊕ (Ex × St))) fun (e, s) =>
    match e with
    | .norm => some (.inl (normz P n0 hi s))
    | e => some (.inr (e, normz P n0 ho s))
/-- The rest of code c behind the part at p, which has ended as r says. -/
def resume : Code → List Wy → Ex × St → C (Ex × St)
  | _, [], r => C.pure r
  | .seq a b, .l :: p, r => C.bind (resume a p r) fun (e, s) =>
    match e with
    | .norm => evCode P call fh n0 b (joinAt P fh n0 b s)
    | e => C.pure (e, s)
  | .seq _ b, .r :: p, r => resume b p r
  | .cond _ x _, .t :: p, r => resume x p r
  | .cond _ _ y, .e :: p, r => resume y p r
  | .block id b, .b :: p, r => C.bind (resume b p r) fun (e, s) =>
    match e with
    | .exit j => if j = id then C.pure (.norm, s) else C.pure (.exit j, s)
    | e => C.pure (e, s)
  | .scope b, .b :: p, r => resume b p r
  | .loop b, .o :: p, r =>
    match (firstR b).bind (assoc fh.loops) with
    | none => C.fail
    | some (hi, ho) => C.bind (resume b p r) fun (e, s) =>
      match e with
      | .norm => C.lift (loopFix (loopStep P call fh n0 b hi ho) (normz P n0 hi s))
      | e => C.pure (e, normz P n0 ho s)
  | _, _, _ => C.fail

def codeOf (fn : Func) : Code := fn.body.getD .skip
/-- The rest of a function behind the part at p. -/
def restAt (fn : Func) (p : List Wy) (r : Ex × St) : C (D × List Ob) :=
  C.bind (resume P call fh n0 (codeOf fn) p r) (finC P n0 fn)
/-- A loop at p and what follows. -/
def loopAt (fn : Func) (p : List Wy) (s : St) : C (D × List Ob) :=
  match codeAt (codeOf fn) p with
  | .loop b =>
    match (firstR b).bind (assoc fh.loops) with
    | none => C.fail
    | some (hi, ho) => C.bind (C.lift (loopFix (loopStep P call fh n0 b hi ho) s)) fun r => restAt P call fh n0 fn p r
  | _ => C.fail
/-- The way to the loop whose first region is id. -/
def pathOf (id : Nat) : Code → Option (List Wy)
  | .seq a b => match pathOf id a with
    | some p => some (.l :: p)
    | none => (pathOf id b).map (.r :: ·)
  | .cond _ a b => match pathOf id a with
    | some p => some (.t :: p)
    | none => (pathOf id b).map (.e :: ·)
  | .block _ b => (pathOf id b).map (.b :: ·)
  | .scope b => (pathOf id b).map (.b :: ·)
  | .loop b => if firstR b = some id then some [] else (pathOf id b).map (.o :: ·)
  | _ => none
/-- The loop whose first region is id, and what follows. -/
def loopR (fn : Func) (id : Nat) (s : St) : C (D × List Ob) := loopAt P call fh n0 fn ((pathOf id (codeOf fn)).getD []) s
/-- The way to the code behind a place where ways meet: its first region is id. -/
def joinOf (id : Nat) : Code → Option (List Wy)
  | .seq a b => if firstR b = some id then some [.r] else match joinOf id a with
    | some p => some (.l :: p)
    | none => (joinOf id b).map (.r :: ·)
  | .cond _ a b => match joinOf id a with
    | some p => some (.t :: p)
    | none => (joinOf id b).map (.e :: ·)
  | .block _ b => (joinOf id b).map (.b :: ·)
  | .scope b => (joinOf id b).map (.b :: ·)
  | .loop b => (joinOf id b).map (.o :: ·)
  | _ => none
/-- From such a place on. -/
def joinR (fn : Func) (id : Nat) (s : St) : C (D × List Ob) :=
  C.bind (evCode P call fh n0 (codeAt (codeOf fn) ((joinOf id (codeOf fn)).getD [])) s) fun r => restAt P call fh n0 fn ((joinOf id (codeOf fn)).getD []) r
/-- Its round. -/
def stepR (fn : Func) (id : Nat) (s : St) : Option (St ⊕ (Ex × St)) :=
  match codeAt (codeOf fn) ((pathOf id (codeOf fn)).getD []) with
  | .loop b =>
    match (firstR b).bind (assoc fh.loops) with
    | none => none
    | some (hi, ho) => loopStep P call fh n0 b hi ho s
  | _ => none
/-- What follows it. -/
def restR (fn : Func) (id : Nat) (r : Ex × St) : C (D × List Ob) := restAt P call fh n0 fn ((pathOf id (codeOf fn)).getD []) r
/-- Slots by their numbers. -/
def mkTs (l : List (Nat × D)) : Nat → Nat → List D
  | 0, _ => []
  | n + 1, i => ((assoc l i).getD .junk) :: mkTs l n (i + 1)
def stOf (n : Nat) (l : List (Nat × D)) (hp : List Ob) : St := ⟨mkTs l n 0, hp⟩
end res
/-! ### Tables of functions -/
abbrev Ent := List D → List Ob → C (D × List Ob)
def tbl (l : List (FuncId × Ent)) : Cal := fun g args hp =>
  match assoc l g with
  | some f => f args hp
  | none => C.fail
/-- An argument's shape. -/
inductive Sh where
  | any
  | sc (t : CT)
  | st (ts : List CT)
/-- An argument, its cells laid open. -/
def pullD : Sh → D → C D
  | .any, d => C.pure d
  | .sc t, .pd x => match x with
    | .agg _ => C.fail
    | .arr _ _ _ => C.fail
    | .opq v => if v.oneCell' = true then C.bind (pullAt t (.opq v) 0) fun c => C.pure (.pd c) else C.fail
    | x => C.bind (pullAt t x 0) fun c => C.pure (.pd c)
  | .st ts, .pd (.agg xs) => if xs.length = ts.length then C.bind (pullsAt ts (.agg xs) 0) fun cs => C.pure (.pd (.agg cs)) else C.fail
  | _, _ => C.fail
def pullDs : List Sh → List D → C (List D)
  | [], [] => C.pure []
  | s :: ss, d :: ds => C.bind (pullD s d) fun d => C.bind (pullDs ss ds) fun ds => C.pure (d :: ds)
  | _, _ => C.fail
/-- An entry that sees its arguments laid open. -/
def opened (shs : List Sh) (e : Ent) : Ent := fun args hp => C.bind (pullDs shs args) fun args => e args hp
end Go.Ev
