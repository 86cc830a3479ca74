/-
The evaluator's operations and code.
-/
import Derived.Test.YtijjelcejpikiaaGreatDoorEvDefs
namespace Go.Ev
variable [Globs]
set_option linter.unusedSectionVars false

/-! ### Small functions on pure data -/
def getI {A : Type} (xs : List A) (i : Int) : Option A := if 0 ≤ i then xs[i.toNat]? else none
def strI (s : ByteArray) (i : Int) : Option Int := if 0 ≤ i then (s[i.toNat]?).map fun b => (b.toNat : Int) else none
def bytesOf (s : ByteArray) : List Int := s.data.toList.map fun b => (b.toNat : Int)
def strOf (xs : List Int) : ByteArray := ⟨(xs.map fun n => UInt8.ofNat n.toNat).toArray⟩
def mulN (a b : Nat) : Nat := match b with | 1 => a | _ => a * b
def addN (a b : Nat) : Nat := match a with | 0 => b | _ => a + b
def cut {A : Type} (xs : List A) (l h : Int) : List A := (xs.take h.toNat).drop l.toNat
def bitsI0 (op : BinOp) (k : IntKind) (x y : Int) : Int :=
  let a := BitVec.ofInt k.bits x
  let b := BitVec.ofInt k.bits y
  match op with
  | .and => k.wrap (a &&& b).toNat
  | .or => k.wrap (a ||| b).toNat
  | .xor => k.wrap (a ^^^ b).toNat
  | _ => k.wrap (a &&& ~~~b).toNat
/-- The same; it stands still where a number is not known (else the kernel computes with what it can't know). -/
def bitsI (op : BinOp) (k : IntKind) (x y : Int) : Int :=
  match x, y with
  | .ofNat a, .ofNat b => bitsI0 op k (.ofNat a) (.ofNat b)
  | .ofNat a, .negSucc b => bitsI0 op k (.ofNat a) (.negSucc b)
  | .negSucc a, .ofNat b => bitsI0 op k (.negSucc a) (.ofNat b)
  | .negSucc a, .negSucc b => bitsI0 op k (.negSucc a) (.negSucc b)
theorem bitsI_eq (op : BinOp) (k : IntKind) (x y : Int) : bitsI op k x y = bitsI0 op k x y := by cases x <;> cases y <;> rfl
def shlI (k : IntKind) (x y : Int) : Int := k.wrap (x * 2 ^ (min y.toNat k.bits))
def shrI (k : IntKind) (x y : Int) : Int := x.fdiv (2 ^ (min y.toNat k.bits))
def strLt (x y : ByteArray) : Bool := Op.bytesLess x.toList y.toList
def strEq (x y : ByteArray) : Bool := x.toList == y.toList

/-- Integers' operations that cannot fail. -/
def intOp (op : BinOp) (k : IntKind) (x y : Int) : Option PD :=
  match op with
  | .add => some (.int k (k.wrap (x + y)))
  | .sub => some (.int k (k.wrap (x - y)))
  | .mul => some (.int k (k.wrap (x * y)))
  | .and | .or | .xor | .andNot => some (.int k (bitsI op k x y))
  | .eql => some (.bool (x == y))
  | .neq => some (.bool (x != y))
  | .lss => some (.bool (x < y))
  | .leq => some (.bool (x ≤ y))
  | .gtr => some (.bool (x > y))
  | .geq => some (.bool (x ≥ y))
  | _ => none
def divOp (op : BinOp) (k : IntKind) (x y : Int) : Option PD :=
  match op with
  | .quo => some (.int k (k.wrap (x.tdiv y)))
  | .rem => some (.int k (x.tmod y))
  | _ => none
def strOp (op : BinOp) (x y : ByteArray) : Option PD :=
  match op with
  | .eql => some (.bool (strEq x y))
  | .neq => some (.bool !(strEq x y))
  | .lss => some (.bool (strLt x y))
  | .leq => some (.bool (strLt x y || strEq x y))
  | .gtr => some (.bool !(strLt x y || strEq x y))
  | .geq => some (.bool !(strLt x y))
  | _ => none
def boolOp (op : BinOp) (x y : Bool) : Option PD :=
  match op with
  | .eql => some (.bool (x == y))
  | .neq => some (.bool !(x == y))
  | _ => none
/-- Equality of two values of one comparable type, cell by cell. -/
def eqCell : PD → PD → Option Bool
  | .int k x, .int k' y => if k = k' then some (x == y) else none
  | .bool x, .bool y => some (x == y)
  | .str x, .str y => some (x == y)
  | _, _ => none
def eqCells : List PD → List PD → Option Bool
  | [], [] => some true
  | x :: xs, y :: ys => (eqCell x y).bind fun b => (eqCells xs ys).map fun c => b && c
  | _, _ => none
def eqAgg : PD → PD → Option Bool
  | .agg xs, .agg ys => eqCells xs ys
  | .arr _ _ xs, .arr _ _ ys => some (xs == ys)
  | _, _ => none

def boolD : D → C Bool
  | .pd x => C.lift x.bool?
  | _ => C.fail
/-- An integer of any kind. -/
def PD.anyInt? : PD → Option (IntKind × Int)
  | .int k n => some (k, n)
  | _ => none
def intD : D → C (IntKind × Int)
  | .pd x => C.lift x.anyInt?
  | _ => C.fail

/-! ### Hints: what a region's or an operation's place in the text wants -/
inductive Hint where
  | std
  | take               -- a slice's head is taken over, its old name dies
  | peek               -- nobody wants the slice, only its bounds are looked at
  | cold               -- it looks at no object of the call's own
  | borrow             -- a call only looks at the rows that it is handed
  | inout (l : List Nat)   -- these arguments' rows are handed over to be written

section ops
variable (P : Program)

/-- Cells off, .. of an element, as a value of type t. -/
def sub (x : PD) (off : Nat) (t : TypeId) : C PD :=
  if aggT P t then
    match intsT P t with
    | some (k, m) => C.bind (C.lift (match x, off with | .arr k' m' xs, 0 => if k' = k ∧ m' = m ∧ P.cellsOf t = m ∧ 0 < m then some xs else none | _, _ => none)) fun xs => C.pure (.arr k m xs)
    | none => if (cts P 20 t).length = P.cellsOf t ∧ 0 < P.cellsOf t then C.bind (pullsAt (cts P 20 t) x off) fun cs => C.pure (.agg cs) else C.fail
  else if scalT P t then pullAt (ct P t) x off else C.fail

/-- An array of integers, all of them 0. -/
def allZero (k : IntKind) (m : Nat) : Value → Bool
  | .agg cs => cs.size == m && cs.toList.all fun | .int k' n => k' == k && n == 0 | _ => false
  | _ => false
def allFalse (m : Nat) : Value → Bool
  | .agg cs => cs.size == m && cs.toList.all fun | .bool b => !b | _ => false
  | _ => false
/-- The zero value's object. -/
def zeroOb (t : TypeId) : Option Ob :=
  match intsT P t with
  | some (k, m) => ((P.info? t).bind (·.zero)).bind fun v => if allZero k m v then some (.ints k m (List.replicate m 0)) else none
  | none => match boolsT P t with
    | some m => ((P.info? t).bind (·.zero)).bind fun v => if allFalse m v then some (.flags m (List.replicate m false)) else none
    | none => ((P.info? t).bind (·.zero)).bind fun v => if konOk v then some (.cells (v.cells.toList.map kon)) else none
def boxOb (t : TypeId) (d : D) : Option Ob :=
  match intsT P t with
  | some (k, _) => (match d with | .pd (.arr k' m xs) => if k' = k then some (.ints k m xs) else none | _ => none)
  | none => d.cells.map .cells

def fieldOf (s : TypeId) (f : Nat) : Option Field :=
  match P.underlying s with
  | some (.struct fields) => fields[f]?
  | _ => none
def elemT (t : TypeId) : Option TypeId :=
  match P.underlying t with
  | some (.slice e) => some e
  | _ => none

/-- What a slice of elements e holds, laid open. -/
def rowOf (e : TypeId) (x : PD) : C PD :=
  match P.underlying e with
  | some (.int k) => if P.cellsOf e = 1 then C.bind (C.lift (x.nums? k)) fun xs => C.pure (.nums k xs) else C.fail
  | _ => if 0 < P.cellsOf e then C.bind (C.lift (x.sl? (P.cellsOf e))) fun xs => C.pure (.sl (P.cellsOf e) xs) else C.fail
/-- The element i of a slice's row, as an address that is only read. -/
def elemAt (x : PD) (i : Int) : C D :=
  match x with
  | .nums k xs => C.bind (C.lift (getI xs i)) fun n => C.pure (.rptr (.int k n) 0)
  | .sl _ xs => C.bind (C.lift (getI xs i)) fun y => C.pure (.rptr y 0)
  | _ => C.fail
def lenOf : PD → Option Nat
  | .nums _ xs => some xs.length
  | .sl _ xs => some xs.length
  | _ => none
def inRange (i : Int) (n : Nat) : Bool := decide (0 ≤ i) && decide (i < n)
def cutRow (x : PD) (l h : Int) : Option PD :=
  match x with
  | .nums k xs => some (.nums k (cut xs l h))
  | .sl z xs => some (.sl z (cut xs l h))
  | _ => none
def putRow (x y : PD) : Option PD :=
  match x, y with
  | .nums k xs, .nums k' ys => if k = k' then some (.nums k (xs ++ ys)) else none
  | .sl z xs, .sl z' ys => if z = z' then some (.sl z (xs ++ ys)) else none
  | _, _ => none
def okBounds (l h : Int) (n : Nat) : Bool := decide (0 ≤ l) && (decide (l ≤ h) && decide (h ≤ n))
def optI (ev : Operand → D) (dflt : Int) : Option Operand → C Int
  | none => C.pure dflt
  | some x => C.bind (intD (ev x)) fun p => C.pure p.2

section body
variable (h : Hint) (ev : Operand → D) (look : Nat → Option Ob) (fr : Nat)

def loadOb (t : TypeId) (off : Nat) : Ob → C D
  | .cells ds =>
    if aggT P t then
      let n := P.cellsOf t
      let l := (ds.drop off).take n
      if l.length = n ∧ 0 < n then C.pure (D.mkAgg l) else C.fail
    else if scalT P t then C.lift ds[off]? else C.fail
  | .ints k m xs =>
    if aggT P t then
      match intsT P t, off with
      | some (k', m'), 0 => if k' = k ∧ m' = m ∧ P.cellsOf t = m ∧ 0 < m then C.pure (.pd (.arr k m xs)) else C.fail
      | _, _ => C.fail
    else if scalT P t then C.bind (C.lift xs[off]?) fun n => C.pure (.pd (.int k n)) else C.fail
  | .flags _ bs => if scalT P t then C.bind (C.lift bs[off]?) fun b => C.pure (.pd (.bool b)) else C.fail
  | _ => C.fail
def loadEl (t : TypeId) (i off : Nat) : PD → C D
  | .nums k xs => if off = 0 ∧ scalT P t = true then C.bind (C.lift xs[i]?) fun n => C.pure (.pd (.int k n)) else C.fail
  | .sl _ xs => C.bind (C.lift xs[i]?) fun y => C.bind (sub P y off t) fun y => C.pure (.pd y)
  | _ => C.fail
def opLoad (t : TypeId) (a : D) : C D :=
  match a with
  | .ptr o off => C.bind (C.lift (look o)) fun ob => loadOb P t off ob
  | .eptr o z i off => C.bind (C.lift (look o)) fun
    | .arr z' _ x => if z' = z then loadEl P t i off x else C.fail
    | _ => C.fail
  | .rptr x off => C.bind (sub P x off t) fun y => C.pure (.pd y)
  | _ => C.fail

/-- An element's cells from off on are written. -/
def setEl (e t : TypeId) (i off : Nat) (y : PD) : PD → C PD
  | .nums k xs =>
    if off = 0 ∧ P.cellsOf t = 1 then C.bind (C.lift (y.int? k)) fun n => C.need (decide (i < xs.length)) (C.pure (.nums k (xs.set i n))) else C.fail
  | .sl z xs =>
    if y.ncells = some (P.cellsOf t) ∧ 0 < P.cellsOf t ∧ (aggT P t = true ∨ P.cellsOf t = 1) then
      if off = 0 ∧ P.cellsOf t = z ∧ aggT P t = aggT P e then
        C.bind (sub P y 0 t) fun y => C.need (decide (i < xs.length)) (C.pure (.sl z (xs.set i y)))
      else if aggT P e ∧ off + P.cellsOf t ≤ z ∧ (cts P 20 e).length = z then
        C.bind (C.lift xs[i]?) fun x0 => C.bind (pullsAt (cts P 20 e) x0 0) fun cs =>
        C.bind (if aggT P t then (if (cts P 20 t).length = P.cellsOf t then pullsAt (cts P 20 t) y 0 else C.fail) else C.bind (pullAt (ct P t) y 0) fun c => if P.cellsOf t = 1 then C.pure [c] else C.fail) fun ys =>
        C.pure (.sl z (xs.set i (.agg (cs.take off ++ ys ++ cs.drop (off + ys.length)))))
      else C.fail
    else C.fail
  | _ => C.fail
def opStore (t : TypeId) (a v : D) : C Dl :=
  match a with
  | .ptr o off => C.bind (C.lift (look o)) fun
    | .cells ds => C.bind (C.lift v.cells) fun vs =>
      if vs.length = P.cellsOf t ∧ 0 < vs.length ∧ off + vs.length ≤ ds.length then C.pure [(o, .cells (ds.take off ++ vs ++ ds.drop (off + vs.length)))] else C.fail
    | .ints k m xs =>
      match v with
      | .pd (.arr k' m' ys) => if k' = k ∧ m' = m ∧ P.cellsOf t = m ∧ 0 < m ∧ off = 0 then C.pure [(o, .ints k m ys)] else C.fail
      | .pd y => if P.cellsOf t = 1 then C.bind (C.lift (y.int? k)) fun n => C.need (decide (off < m)) (C.pure [(o, .ints k m (xs.set off n))]) else C.fail
      | _ => C.fail
    | .flags m bs =>
      match v with
      | .pd y => if P.cellsOf t = 1 then C.bind (C.lift y.bool?) fun n => C.need (decide (off < m)) (C.pure [(o, .flags m (bs.set off n))]) else C.fail
      | _ => C.fail
    | _ => C.fail
  | .eptr o z i off => C.bind (C.lift (look o)) fun
    | .arr z' e x => if z' = z then C.bind (give look v) fun (y, l) => if (keysOf l).contains o then C.fail else C.bind (setEl P e t i off y x) fun x' => C.pure (l ++ [(o, .arr z e x')]) else C.fail
    | _ => C.fail
  | _ => C.fail

def opIndexAddr (T : TypeId) (x : D) (i : Int) : C D :=
  match P.underlying T with
  | some (.slice e) =>
    match x with
    | .ref o => C.bind (C.lift (look o)) fun
      | .arr z _ y => if z = P.cellsOf e then C.bind (C.lift (lenOf y)) fun n => C.need (inRange i n) (C.pure (.eptr o z i.toNat 0)) else C.fail
      | .froz y => C.bind (rowOf P e y) fun y => elemAt y i
      | _ => C.fail
    | .asl o lo hi => if P.cellsOf e = 1 then C.need (inRange i (hi - lo)) (C.pure (.ptr o (addN lo i.toNat))) else C.fail
    | .pd y => C.bind (rowOf P e y) fun y => elemAt y i
    | _ => C.fail
  | some (.array m e) =>
    if P.cellsOf e = 0 then C.fail else
    match x with
    | .ptr o off => C.need (inRange i m) (C.pure (.ptr o (addN off (mulN i.toNat (P.cellsOf e)))))
    | .eptr o z j off => C.need (inRange i m) (C.pure (.eptr o z j (addN off (mulN i.toNat (P.cellsOf e)))))
    | .rptr y off => C.need (inRange i m) (C.pure (.rptr y (addN off (mulN i.toNat (P.cellsOf e)))))
    | _ => C.fail
  | _ => C.fail

def opIndex (T : TypeId) (x : D) (i : Int) : C D :=
  match P.underlying T, x with
  | some (.array m e), .pd (.agg xs) => if P.cellsOf e = 0 then C.fail else C.need (inRange i m) (C.bind (sub P (.agg xs) (mulN i.toNat (P.cellsOf e)) e) fun y => C.pure (.pd y))
  | some (.array m e), .pd (.arr k m' xs) => if P.cellsOf e = 0 then C.fail else C.need (inRange i m) (C.bind (sub P (.arr k m' xs) (mulN i.toNat (P.cellsOf e)) e) fun y => C.pure (.pd y))
  | some .string, .pd y => C.bind (C.lift y.str?) fun s => C.bind (C.lift (strI s i)) fun n => C.pure (.pd (.int .u8 n))
  | _, _ => C.fail

/-- A part of a slice that nobody writes. -/
def cutPd (e : TypeId) (y : PD) (lo hi mx : Option Operand) : C (D × Dl) :=
  if mx.isSome && hi.isNone then C.fail else C.bind (rowOf P e y) fun y => C.bind (C.lift (lenOf y)) fun n =>
      C.bind (optI ev n mx) fun m => C.bind (optI ev n hi) fun h => C.bind (optI ev 0 lo) fun l =>
      C.need (okBounds l h n && (decide (h ≤ m) && decide (m ≤ n))) (C.bind (C.lift (cutRow y l h)) fun y' => C.pure (.pd y', []))
/-- A part of a row of the call's own. -/
def cutRef (e : TypeId) (o z : Nat) (e' : TypeId) (y : PD) (lo hi mx : Option Operand) : C (D × Dl) :=
  if z = P.cellsOf e ∧ 0 < P.cellsOf e then
        match h, lo, mx with
        | .take, none, none => C.bind (C.lift (lenOf y)) fun n => C.bind (optI ev n hi) fun h =>
          C.need (okBounds 0 h n) (C.bind (C.lift (cutRow y 0 h)) fun y' => C.pure (.ref fr, [(o, .dead), (fr, .arr z e' y')]))
        | .peek, _, none => C.bind (C.lift (lenOf y)) fun n => C.bind (optI ev n hi) fun h => C.bind (optI ev 0 lo) fun l =>
          C.need (okBounds l h n) (C.pure (.junk, []))
        | _, _, none => C.bind (C.lift (lenOf y)) fun n => C.bind (optI ev n hi) fun h => C.bind (optI ev 0 lo) fun l =>
          C.need (okBounds l h n) (C.bind (C.lift (cutRow y l h)) fun y' => C.pure (.pd y', [(o, .froz y)]))
        | _, _, _ => C.fail
  else C.fail
/-- A slice expression: its value, and what becomes of objects. -/
def opSlice (T : TypeId) (x : D) (lo hi mx : Option Operand) : C (D × Dl) :=
  match P.underlying T with
  | some .string =>
    match x, mx with
    | .pd y, none => C.bind (C.lift y.str?) fun s =>
      C.bind (optI ev s.size hi) fun h => C.bind (optI ev 0 lo) fun l =>
      C.need (okBounds l h s.size) (C.pure (.pd (.str (s.extract l.toNat h.toNat)), []))
    | _, _ => C.fail
  | some (.slice e) =>
    match x with
    | .asl o a b =>
      match mx with
      | none => if P.cellsOf e = 1 then C.bind (optI ev ((b - a : Nat) : Int) hi) fun h => C.bind (optI ev 0 lo) fun l =>
        C.need (okBounds l h (b - a)) (C.pure (.asl o (addN a l.toNat) (addN a h.toNat), [])) else C.fail
      | _ => C.fail
    | .ref o => C.bind (C.lift (look o)) fun
      | .arr z e' y => cutRef P h ev fr e o z e' y lo hi mx
      | .froz y => cutPd P ev e y lo hi mx
      | _ => C.fail
    | .pd y => cutPd P ev e y lo hi mx
    | _ => C.fail
  | some (.array m e) =>
    if P.cellsOf e = 1 then
    match x, mx with
    | .ptr o 0, none => C.bind (optI ev m hi) fun h => C.bind (optI ev 0 lo) fun l =>
      C.need (okBounds l h m) (C.pure (.asl o l.toNat h.toNat, []))
    | .rptr (.arr k m' xs) 0, none => C.bind (optI ev m hi) fun h => C.bind (optI ev 0 lo) fun l =>
      if m' = m then C.need (okBounds l h m) (C.pure (.pd (.nums k (cut xs l h)), [])) else C.fail
    | _, _ => C.fail
    else C.fail
  | _ => C.fail

/-- An element as pure data. -/
def konElem : Value → PD
  | .agg cs => .agg (cs.toList.map konPD)
  | v => konPD v
/-- The zero value of an element type of rows that may grow. -/
def zeroE (e : TypeId) : Option Value :=
  match (P.info? e).bind (·.zero) with
  | some v => if v.cells.size = P.cellsOf e ∧ 0 < P.cellsOf e ∧ 0 < P.bytesOf e ∧ konOk v = true then some v else none
  | none => none
/-- A new row of n zero elements of type e. -/
def zeroRow (e : TypeId) (n : Nat) : Option PD :=
  match P.underlying e, zeroE P e with
  | some (.int k), some (.int k' 0) => if k' = k then some (.nums k (List.replicate n 0)) else none
  | some (.int _), _ => none
  | _, some v => some (.sl (P.cellsOf e) (List.replicate n (konElem v)))
  | _, _ => none
def opMakeSlice (T : TypeId) (len cap : Int) : C (D × Dl) :=
  C.bind (C.lift (elemT P T)) fun e =>
  C.need (decide (0 ≤ len) && (decide (len ≤ cap) && decide (cap * (P.bytesOf e : Int) ≤ 140737488355328)))
    (C.bind (C.lift (zeroRow P e len.toNat)) fun x => C.pure (.ref fr, [(fr, .arr (P.cellsOf e) e x)]))

/-- A literal's parts, in the order of the text. -/
def lits (e : TypeId) (x : PD) : List (Nat × Operand) → C (PD × Dl)
  | [] => C.pure (x, [])
  | (i, v) :: r => C.bind (give look (ev v)) fun (y, l) =>
    C.bind (setEl P e e i 0 y x) fun x' =>
    C.bind (lits e x' r) fun (x'', l') => if disj (keysOf l) (keysOf l') then C.pure (x'', l ++ l') else C.fail
def opBuildSlice (T : TypeId) (n : Nat) (parts : List (Nat × Operand)) : C (D × Dl) :=
  C.bind (C.lift (elemT P T)) fun e =>
  if n * P.cellsOf e ≤ 16777216 then
    C.bind (C.lift (zeroRow P e n)) fun x => C.bind (lits P ev look e x parts) fun (x, l) => C.pure (.ref fr, l ++ [(fr, .arr (P.cellsOf e) e x)])
  else C.fail

def spliceD (ds : List D) (off : Nat) (vs : List D) : List D := ds.take off ++ vs ++ ds.drop (off + vs.length)
def buildCells (place : Nat → Option (Nat × Nat)) (ds : List D) : List (Nat × Operand) → C (List D)
  | [] => C.pure ds
  | (i, v) :: r => C.bind (C.lift (place i)) fun (off, n) => C.bind (C.lift (ev v).cells) fun vs =>
    if vs.length = n ∧ off + n ≤ ds.length then buildCells place (spliceD ds off vs) r else C.fail
def buildInts (k : IntKind) (xs : List Int) : List (Nat × Operand) → C (List Int)
  | [] => C.pure xs
  | (i, v) :: r => C.bind (intD (ev v)) fun (k', n) =>
    if k' = k ∧ i < xs.length then buildInts k (xs.set i n) r else C.fail
def placesOf (fs : List Field) : Option (List (Nat × Nat)) := fs.mapM fun f => (P.info? f.type).map fun i => (f.offset, i.size)
def opBuild (T : TypeId) (parts : List (Nat × Operand)) : C D :=
  C.bind (C.lift ((P.info? T).bind (·.zero))) fun z =>
  match intsT P T with
  | some (k, m) => if allZero k m z then
      match P.underlying T with
      | some (.array _ e) => if (P.info? e).map (·.size) = some 1 then C.bind (buildInts ev k (List.replicate m 0) parts) fun xs => C.pure (.pd (.arr k m xs)) else C.fail
      | _ => C.fail
    else C.fail
  | none =>
    if konOk z then
    match P.underlying T with
    | some (.struct fields) => C.bind (C.lift (placesOf P fields.toList)) fun pl => C.bind (buildCells ev (pl[·]?) (z.cells.toList.map kon) parts) fun ds => C.pure (D.mkAgg ds)
    | some (.array _ e) => C.bind (C.lift (P.info? e)) fun ie => C.bind (buildCells ev (fun i => some (i * ie.size, ie.size)) (z.cells.toList.map kon) parts) fun ds => C.pure (D.mkAgg ds)
    | _ => C.fail
    else C.fail

def opField (T : TypeId) (x : D) (f : Nat) : C D :=
  C.bind (C.lift (fieldOf P T f)) fun fl =>
  match x with
  | .agg ds =>
    if aggT P fl.type then
      let n := P.cellsOf fl.type
      let l := (ds.drop fl.offset).take n
      if l.length = n ∧ 0 < n then C.pure (D.mkAgg l) else C.fail
    else if scalT P fl.type then C.lift ds[fl.offset]? else C.fail
  | .pd (.agg xs) => C.bind (sub P (.agg xs) fl.offset fl.type) fun y => C.pure (.pd y)
  | _ => C.fail
def opFieldAddr (T : TypeId) (x : D) (f : Nat) : C D :=
  C.bind (C.lift (fieldOf P T f)) fun fl =>
  if P.cellsOf fl.type = 0 then C.fail else
  match x with
  | .ptr o off => C.pure (.ptr o (off + fl.offset))
  | .eptr o z i off => C.pure (.eptr o z i (off + fl.offset))
  | .rptr y off => C.pure (.rptr y (off + fl.offset))
  | _ => C.fail

def opBin0 (op : BinOp) (xT : TypeId) (x y : D) : C PD :=
  match P.underlying xT with
  | some (.int k) =>
    match op with
    | .shl => C.bind (intD x) fun (k', a) => C.bind (intD y) fun (_, b) => if k' = k then C.need (decide (0 ≤ b)) (C.pure (.int k (shlI k a b))) else C.fail
    | .shr => C.bind (intD x) fun (k', a) => C.bind (intD y) fun (_, b) => if k' = k then C.need (decide (0 ≤ b)) (C.pure (.int k (shrI k a b))) else C.fail
    | .quo | .rem => C.bind (intD x) fun (k', a) => C.bind (intD y) fun (k'', b) => if k' = k ∧ k'' = k then C.need (b != 0) (C.lift (divOp op k a b)) else C.fail
    | op => C.bind (intD x) fun (k', a) => C.bind (intD y) fun (k'', b) => if k' = k ∧ k'' = k then C.lift (intOp op k a b) else C.fail
  | some .string =>
    match x, y with
    | .pd x, .pd y => C.bind (C.lift x.str?) fun a => C.bind (C.lift y.str?) fun b =>
      match op with
      | .add => C.need (decide (((a.size + b.size : Nat) : Int) ≤ 9223372036854775807)) (C.pure (.str (a ++ b)))
      | op => C.lift (strOp op a b)
    | _, _ => C.fail
  | some .bool =>
    match x, y with
    | .pd x, .pd y => C.bind (C.lift x.bool?) fun a => C.bind (C.lift y.bool?) fun b => C.lift (boolOp op a b)
    | _, _ => C.fail
  | _ => C.fail
def isNilD : D → Bool
  | .pd (.opq (.slice none 0 0)) => true
  | _ => false
/-- Is a slice nil? eq: or is it not? -/
def opNil (eq : Bool) (x : D) : C PD :=
  match x with
  | .pd (.opq (.slice none 0 0)) => C.pure (.bool eq)
  | .pd (.nums _ xs) => C.split xs.isEmpty fun t => cond t (C.pure .anyb) (C.pure (.bool !eq))
  | .pd (.sl _ xs) => C.split xs.isEmpty fun t => cond t (C.pure .anyb) (C.pure (.bool !eq))
  | _ => C.fail
/-- A struct's part. -/
def partP (t : TypeId) (off : Nat) (xs : List PD) : Option PD :=
  if aggT P t then (if ((xs.drop off).take (P.cellsOf t)).length = P.cellsOf t ∧ 0 < P.cellsOf t then some (.agg ((xs.drop off).take (P.cellsOf t))) else none)
  else if scalT P t then xs[off]? else none
/-- Equality of structs, field by field. -/
def eqFs (eq : TypeId → PD → PD → Option Bool) (xs ys : List PD) : List Field → Option Bool
  | [] => some true
  | f :: fs => if f.name = "_" then none else
    (partP P f.type f.offset xs).bind fun a => (partP P f.type f.offset ys).bind fun b => (eq f.type a b).bind fun r => (eqFs eq xs ys fs).map fun q => r && q
def eqV : Nat → TypeId → PD → PD → Option Bool
  | 0, _, _, _ => none
  | n + 1, t, x, y =>
    match P.underlying t with
    | some (.int _) => (match x, y with | .int k a, .int k' b => if k = k' then some (a == b) else none | _, _ => none)
    | some .bool => (match x, y with | .bool a, .bool b => some (a == b) | _, _ => none)
    | some .string => (match x, y with | .str a, .str b => some (strEq a b) | _, _ => none)
    | some (.struct fs) => if P.stoodInHeld t then none else (match x, y with | .agg xs, .agg ys => eqFs P (eqV n) xs ys fs.toList | _, _ => none)
    | some (.array m e) => (match P.underlying e with
      | some (.int _) => (match x, y with | .arr k m' xs, .arr k' m'' ys => if k' = k ∧ m' = m ∧ m'' = m ∧ P.cellsOf e = 1 then some (xs == ys) else none | _, _ => none)
      | _ => none)
    | _ => none
def opEqS (t : TypeId) (x y : D) : C Bool :=
  match x, y with
  | .pd a, .pd b => if P.eqGuardType P.depth t then C.fail else C.lift (eqV P 30 t a b)
  | _, _ => C.fail
def opBin (op : BinOp) (xT : TypeId) (x y : D) : C PD :=
  match P.underlying xT with
  | some (.slice _) =>
    match op with
    | .eql => if isNilD y then opNil true x else C.fail
    | .neq => if isNilD y then opNil false x else C.fail
    | _ => C.fail
  | some (.struct _) | some (.array _ _) =>
    match op with
    | .eql => C.bind (opEqS P xT x y) fun b => C.pure (.bool b)
    | .neq => C.bind (opEqS P xT x y) fun b => C.pure (.bool !b)
    | _ => C.fail
  | _ => opBin0 P op xT x y
def opUn (op : UnOp) (x : D) : C PD :=
  match x with
  | .pd x =>
    match op with
    | .not => C.bind (C.lift x.bool?) fun b => C.pure (.bool !b)
    | .neg => C.bind (C.lift x.anyInt?) fun (k, n) => C.pure (.int k (k.wrap (0 - n)))
    | .xor => C.bind (C.lift x.anyInt?) fun (k, n) => C.pure (.int k (bitsI .xor k (if k.signed then -1 else k.max) n))
    | _ => C.fail
  | _ => C.fail
def opConvert (src dst : TypeId) (x : D) : C (D × Dl) :=
  match P.underlying src, P.underlying dst with
  | some (.int _), some (.int k) => C.bind (intD x) fun (_, n) => C.pure (.pd (.int k (k.wrap n)), [])
  | some .string, some .string => (match x with | .pd y => C.bind (C.lift y.str?) fun s => C.pure (.pd (.str s), []) | _ => C.fail)
  | some .string, some (.slice e) =>
    match P.underlying e, x with
    | some (.int .u8), .pd y => C.bind (C.lift y.str?) fun s => C.need (decide (s.size ≤ 140737488355328)) (C.pure (.ref fr, [(fr, .arr 1 e (.nums .u8 (bytesOf s)))]))
    | _, _ => C.fail
  | some (.slice e), some .string =>
    match P.underlying e with
    | some (.int .u8) => C.bind (content look x) fun y => C.bind (C.lift (y.nums? .u8)) fun xs => C.pure (.pd (.str (strOf xs)), [])
    | _ => C.fail
  | _, _ => C.fail
def opSliceToArr (T : TypeId) (x : D) : C (D × Dl) :=
  C.bind (C.lift (intsT P T)) fun (k, n) => C.bind (give1 look x) fun (y, l) => C.bind (C.lift (y.nums? k)) fun xs =>
    if 0 < n then C.need (decide (n ≤ xs.length)) (C.pure (.rptr (.arr k n (xs.take n)) 0, l)) else C.fail

/-! built-in functions -/
def opLen (T : TypeId) (x : D) : C PD :=
  match P.underlying T with
  | some .string => (match x with | .pd y => C.bind (C.lift y.str?) fun s => C.pure (.int .i64 s.size) | _ => C.fail)
  | some (.array n _) => C.pure (.int .i64 n)
  | some (.slice e) => C.bind (content look x) fun y => C.bind (rowOf P e y) fun y => C.bind (C.lift (lenOf y)) fun n => C.pure (.int .i64 n)
  | _ => C.fail
/-- What is appended or copied. -/
def srcOf (e T : TypeId) (x : D) : C PD :=
  match P.underlying T with
  | some .string => (match x, P.underlying e with | .pd y, some (.int .u8) => if P.cellsOf e = 1 then C.bind (C.lift y.str?) fun s => C.pure (.nums .u8 (bytesOf s)) else C.fail | _, _ => C.fail)
  | some (.slice _) => C.bind (content look x) fun y => rowOf P e y
  | _ => C.fail
def opAppend (sT xT : TypeId) (s x : D) : C (D × Dl) :=
  C.bind (C.lift (elemT P sT)) fun e =>
  C.bind (C.lift (zeroE P e)) fun _ =>
  C.bind (srcOf P look e xT x) fun y =>
  match s with
  | .ref o => C.bind (C.lift (look o)) fun
    | .arr z e' x0 => C.bind (C.lift (putRow x0 y)) fun x1 => C.bind (C.lift (lenOf x1)) fun n =>
      if e' = e ∧ z = P.cellsOf e then C.need (decide (n * P.bytesOf e ≤ 140737488355328)) (C.pure (.ref fr, [(o, .dead), (fr, .arr z e x1)])) else C.fail
    | _ => C.fail
  | .pd (.opq (.slice none 0 0)) => C.bind (C.lift (lenOf y)) fun n =>
      C.need (decide (n * P.bytesOf e ≤ 140737488355328)) (C.pure (.ref fr, [(fr, .arr (P.cellsOf e) e y)]))
  | _ => C.fail
/-- append(s, make([]T, n)...): so many zero elements. -/
def opAppendMk (sT : TypeId) (s x : D) : C (D × Dl) :=
  C.bind (C.lift (elemT P sT)) fun e =>
  C.bind (C.lift (zeroE P e)) fun _ =>
  C.bind (intD x) fun (_, l) =>
  C.need (decide (0 ≤ l) && decide (l ≤ 140737488355328)) (
  C.bind (C.lift (zeroRow P e l.toNat)) fun y =>
  match s with
  | .ref o => C.bind (C.lift (look o)) fun
    | .arr z e' x0 => C.bind (C.lift (putRow x0 y)) fun x1 => C.bind (C.lift (lenOf x1)) fun n =>
      if e' = e ∧ z = P.cellsOf e then C.need (decide (n * P.bytesOf e ≤ 140737488355328)) (C.pure (.ref fr, [(o, .dead), (fr, .arr z e x1)])) else C.fail
    | _ => C.fail
  | .pd (.opq (.slice none 0 0)) => C.bind (C.lift (lenOf y)) fun n =>
      C.need (decide (n * P.bytesOf e ≤ 140737488355328)) (C.pure (.ref fr, [(fr, .arr (P.cellsOf e) e y)]))
  | _ => C.fail)
def isIntT (t : TypeId) : Bool := match P.underlying t with | some (.int _) => true | _ => false
def opAppend2 (sT xT : TypeId) (s x : D) : C (D × Dl) :=
  if isIntT P xT then opAppendMk P look fr sT s x else opAppend P look fr sT xT s x
/-- copy(d, x): into a row of the call's own, or a part of an array variable. -/
def opCopy (dT xT : TypeId) (d x : D) : C (D × Dl) :=
  C.bind (C.lift (elemT P dT)) fun e =>
  C.bind (srcOf P look e xT x) fun y =>
  C.bind (C.lift (lenOf y)) fun m =>
  match d with
  | .ref o => C.bind (C.lift (look o)) fun
    | .arr z e' x0 =>
      C.bind (C.lift (lenOf x0)) fun n =>
      C.bind (C.lift (cutRow y 0 ((min m n : Nat) : Int))) fun y1 =>
      C.bind (C.lift (cutRow x0 ((min m n : Nat) : Int) (n : Int))) fun x1 =>
      C.bind (C.lift (putRow y1 x1)) fun x2 =>
      if e' = e ∧ z = P.cellsOf e ∧ 0 < z then C.pure (.pd (.int .i64 ((min m n : Nat) : Int)), [(o, .arr z e x2)]) else C.fail
    | _ => C.fail
  | .asl o lo hi => C.bind (C.lift (look o)) fun
    | .ints k j xs =>
      match y with
      | .nums k' ys => if k' = k ∧ lo ≤ hi ∧ hi ≤ j ∧ P.cellsOf e = 1 then C.pure (.pd (.int .i64 ((min ys.length (hi - lo) : Nat) : Int)), [(o, .ints k j (xs.take lo ++ ys.take (hi - lo) ++ xs.drop (lo + min ys.length (hi - lo))))]) else C.fail
      | _ => C.fail
    | _ => C.fail
  | _ => C.fail
def minsI (gt : Bool) : D → List D → C PD
  | .pd x, [] => C.pure x
  | .pd x, y :: r => C.bind (C.lift x.anyInt?) fun (k, a) => C.bind (intD y) fun (k', b) =>
      if k' = k then minsI gt (.pd (.int k (if gt then (if b > a then b else a) else (if b < a then b else a)))) r else C.fail
  | _, _ => C.fail
end body
end ops
end Go.Ev
