/-
An evaluator of the model's code over pure values, by this session. Definitions only.
-/
import Derived.Calls
import Derived.Laws.Sem
import Derived.KernelRfl
namespace Go.Ev

/-! ### Pure data -/
/-- A pure value: numbers, strings, lists. `nums k xs`: a slice of integers; `sl z xs`: another slice, its elements of z cells each; `agg xs`: a struct or array by its cells; `arr k m xs`: an array of m integers; `opq v`: just this value of the machine's. -/
inductive PD where
  | bool (b : Bool)
  | int (k : IntKind) (n : Int)
  | str (s : ByteArray)
  | nums (k : IntKind) (xs : List Int)
  | sl (z : Nat) (xs : List PD)
  | agg (xs : List PD)
  | arr (k : IntKind) (m : Nat) (xs : List Int)
  | opq (v : Value)
  | anyb   -- some bool

/-- A value in a slot: pure, or one that leads to the call's own memory. `ptr o off`: the address of cell off of object o; `ref o`: the slice that object o holds; `eptr o z i off`: the address of cell off of element i of it, elements having z cells; `rptr x off`: the address of cell off of an element x that nobody writes; `asl o lo hi`: a part of an array variable as a slice. -/
inductive D where
  | pd (x : PD)
  | agg (ds : List D)
  | tup (ds : List D)
  | ptr (o off : Nat)
  | ref (o : Nat)
  | eptr (o z i off : Nat)
  | rptr (x : PD) (off : Nat)
  | asl (o lo hi : Nat)
  | clo (f : FuncId) (first caps : List D)
  | ifc (t : TypeId) (ds : List D)
  | junk

/-- An object of the call's own: a variable's cells, a variable that is an array of integers, a slice's row that may be written, one that is written no more. -/
inductive Ob where
  | cells (ds : List D)
  | ints (k : IntKind) (m : Nat) (xs : List Int)
  | flags (m : Nat) (bs : List Bool)
  | arr (z : Nat) (e : TypeId) (x : PD)
  | froz (x : PD)
  | dead

/-! ### The monad: continuations into Option -/
def C (A : Type) : Type 1 := (X : Type) → (A → Option X) → Option X
namespace C
def pure {A : Type} (a : A) : C A := fun _ k => k a
def bind {A B : Type} (m : C A) (f : A → C B) : C B := fun X k => m X fun a => f a X k
def fail {A : Type} : C A := fun _ _ => none
def lift {A : Type} (o : Option A) : C A := fun _ k => Option.bind o k
/-- Both ways of a test. -/
def split {A : Type} (b : Bool) (f : Bool → C A) : C A := fun X k => cond b (f true X k) (f false X k)
/-- Go on where the test holds. -/
def need {A : Type} (b : Bool) (m : C A) : C A := fun X k => cond b (m X k) none
end C

/-! ### Reading pure data -/
namespace PD
def nils : PD := .opq (.slice none 0 0)
def cell? (x : PD) (j : Nat) : Option PD :=
  match x with
  | .agg cs => cs[j]?
  | .arr k _ xs => (xs[j]?).map (.int k)
  | .opq v => if j = 0 ∧ v.oneCell' = true then some (.opq v) else none
  | x => if j = 0 then some x else none
/-- How many cells it has. -/
def ncells : PD → Option Nat
  | .agg xs => some xs.length
  | .arr _ m _ => some m
  | .opq v => if v.oneCell' = true then some 1 else none
  | _ => some 1
def int? (k : IntKind) : PD → Option Int
  | .int k' n => if k' = k then some n else none
  | _ => none
def bool? : PD → Option Bool
  | .bool b => some b
  | _ => none
def str? : PD → Option ByteArray
  | .str s => some s
  | _ => none
def nums? (k : IntKind) : PD → Option (List Int)
  | .nums k' xs => if k' = k then some xs else none
  | .opq (.slice none 0 0) => some []
  | _ => none
def sl? (z : Nat) : PD → Option (List PD)
  | .sl z' xs => if z' = z then some xs else none
  | .opq (.slice none 0 0) => some []
  | _ => none
def intAt (k : IntKind) (x : PD) (j : Nat) : Option Int :=
  match x with
  | .arr k' _ xs => if k' = k then xs[j]? else none
  | x => (x.cell? j).bind (int? k)
def boolAt (x : PD) (j : Nat) : Option Bool := (x.cell? j).bind bool?
def strAt (x : PD) (j : Nat) : Option ByteArray := (x.cell? j).bind str?
def numsAt (k : IntKind) (x : PD) (j : Nat) : Option (List Int) := (x.cell? j).bind (nums? k)
def slAt (z : Nat) (x : PD) (j : Nat) : Option (List PD) := (x.cell? j).bind (sl? z)
end PD

/-- What one cell holds. -/
inductive CT where
  | int (k : IntKind) | bool | str | nums (k : IntKind) | sl (z : Nat) | any
/-- Cell j of x, laid open by its type. -/
def pullAt (t : CT) (x : PD) (j : Nat) : C PD :=
  match t with
  | .int k => C.bind (C.lift (x.intAt k j)) fun n => C.pure (.int k n)
  | .bool => C.bind (C.lift (x.boolAt j)) fun b => C.pure (.bool b)
  | .str => C.bind (C.lift (x.strAt j)) fun s => C.pure (.str s)
  | .nums k => C.bind (C.lift (x.numsAt k j)) fun xs => C.pure (.nums k xs)
  | .sl z => C.bind (C.lift (x.slAt z j)) fun xs => C.pure (.sl z xs)
  | .any => C.lift (x.cell? j)
def pullsAt : List CT → PD → Nat → C (List PD)
  | [], _, _ => C.pure []
  | t :: ts, x, j => C.bind (pullAt t x j) fun c => C.bind (pullsAt ts x (j + 1)) fun cs => C.pure (c :: cs)

section types
variable (P : Program)
def sliceCT (e : TypeId) : CT :=
  match P.underlying e with
  | some (.int k) => .nums k
  | _ => .sl (P.cellsOf e)
def ct (t : TypeId) : CT :=
  match P.underlying t with
  | some (.int k) => .int k
  | some .bool => .bool
  | some .string => .str
  | some (.slice e) => sliceCT P e
  | _ => .any
def cts : Nat → TypeId → List CT
  | 0, _ => []
  | n + 1, t =>
    match P.underlying t with
    | some (.struct fs) => fs.toList.flatMap fun f => cts n f.type
    | some (.array m e) => (List.replicate m (cts n e)).flatten
    | _ => [ct P t]
def aggT (t : TypeId) : Bool :=
  match P.underlying t with
  | some (.struct _) | some (.array _ _) => true
  | _ => false
/-- A type of values of one cell. -/
def scalT (t : TypeId) : Bool :=
  match P.underlying t with
  | some (.struct _) | some (.array _ _) | none => false
  | _ => true
/-- An array type of integers. -/
def intsT (t : TypeId) : Option (IntKind × Nat) :=
  match P.underlying t with
  | some (.array m e) => (match P.underlying e with | some (.int k) => some (k, m) | _ => none)
  | _ => none
/-- An array of truth values. -/
def boolsT (t : TypeId) : Option Nat :=
  match P.underlying t with
  | some (.array m e) => (match P.underlying e with | some .bool => some m | _ => none)
  | _ => none
end types

/-! ### Slots' values -/
namespace D
def allPd : List D → Option (List PD)
  | [] => some []
  | .pd x :: ds => (allPd ds).map (x :: ·)
  | _ :: _ => none
def mkAgg (ds : List D) : D :=
  match allPd ds with
  | some xs => .pd (.agg xs)
  | none => .agg ds
/-- The cells of a value, where they can be told one by one. -/
def cells : D → Option (List D)
  | .agg ds => some ds
  | .pd (.agg xs) => some (xs.map .pd)
  | .pd (.arr _ _ _) => none
  | .pd (.opq v) => if v.oneCell' = true then some [.pd (.opq v)] else none
  | .tup _ => none
  | .junk => none
  | d => some [d]
end D

/-- A constant of the text. -/
def konPD : Value → PD
  | .bool b => .bool b
  | .int k n => .int k n
  | .string s => .str s
  | v => .opq v
/-- The package variables that are only read: what they hold. -/
class Globs where
  tab : Nat → Option PD
variable [Globs]
/-- Each cell is one value. -/
def konOk (v : Value) : Bool := v.cells.toList.all (·.oneCell')
def kon : Value → D
  | .agg cs => if konOk (.agg cs) then .pd (.agg (cs.toList.map konPD)) else .junk
  | .tuple _ => .junk
  | v => .pd (konPD v)

def evalO (ts : List D) : Operand → D
  | .tmp t => ts.getD t .junk
  | .const v => kon v
  | .global g => match Globs.tab g with
    | some x => .rptr x 0
    | none => .pd (.opq (.pointer (some ⟨g, 0, none⟩)))
  | .func f => .clo f [] []

/-- What an operation leaves: its value, and what becomes of objects. -/
abbrev Dl := List (Nat × Ob)
def keysOf (l : Dl) : List Nat := l.map (·.1)
def disj (a b : List Nat) : Bool := a.all fun o => !b.contains o

section ops
variable (look : Nat → Option Ob)

/-- What a slice holds, as it is read now. -/
def content : D → C PD
  | .pd x => C.pure x
  | .ref o => C.bind (C.lift (look o)) fun
    | .arr _ _ x => C.pure x
    | .froz x => C.pure x
    | _ => C.fail
  | .asl o lo hi => C.bind (C.lift (look o)) fun
    | .ints k m xs => C.need (decide (hi ≤ m)) (C.pure (.nums k ((xs.take hi).drop lo)))
    | _ => C.fail
  | _ => C.fail
def contents : List D → C (List PD)
  | [] => C.pure []
  | d :: ds => C.bind (content look d) fun x => C.bind (contents ds) fun xs => C.pure (x :: xs)
/-- A value as pure data, nothing being let go. -/
def borrow : D → C PD
  | .agg ds => C.bind (contents look ds) fun xs => C.pure (.agg xs)
  | d => content look d
/-- A value as pure data, and its rows are written no more. -/
def give1 : D → C (PD × Dl)
  | .pd x => C.pure (x, [])
  | .ref o => C.bind (C.lift (look o)) fun
    | .arr _ _ x => C.pure (x, [(o, .froz x)])
    | .froz x => C.pure (x, [])
    | _ => C.fail
  | .asl o lo hi => C.bind (C.lift (look o)) fun
    | .ints k m xs => C.need (decide (hi ≤ m)) (C.pure (.nums k ((xs.take hi).drop lo), [(o, .dead)]))
    | _ => C.fail
  | _ => C.fail
def gives : List D → C (List PD × Dl)
  | [] => C.pure ([], [])
  | d :: ds => C.bind (give1 look d) fun (x, l) => C.bind (gives ds) fun (xs, l') => if disj (keysOf l) (keysOf l') then C.pure (x :: xs, l ++ l') else C.fail
def give : D → C (PD × Dl)
  | .agg ds => C.bind (gives look ds) fun (xs, l) => C.pure (.agg xs, l)
  | d => give1 look d
end ops
end Go.Ev
