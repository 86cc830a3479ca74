/-
The evaluator: calls, regions, code, functions.
-/
import Derived.Test.YtijjelcejpikiaaGreatDoorEvOps
namespace Go.Ev
variable [Globs]
set_option linter.unusedSectionVars false

/-! ### Names of objects -/
mutual
def D.ids : D → List Nat
  | .ptr o _ => [o]
  | .ref o => [o]
  | .eptr o _ _ _ => [o]
  | .asl o _ _ => [o]
  | .agg ds => D.idsL ds
  | .tup ds => D.idsL ds
  | .clo _ a b => D.idsL a ++ D.idsL b
  | .ifc _ ds => D.idsL ds
  | _ => []
def D.idsL : List D → List Nat
  | [] => []
  | d :: ds => d.ids ++ D.idsL ds
end
mutual
/-- Every name anew; what has none dies. -/
def D.ren (f : Nat → Option Nat) : D → D
  | .ptr o off => match f o with | some o => .ptr o off | none => .junk
  | .ref o => match f o with | some o => .ref o | none => .junk
  | .eptr o z i off => match f o with | some o => .eptr o z i off | none => .junk
  | .asl o lo hi => match f o with | some o => .asl o lo hi | none => .junk
  | .agg ds => .agg (D.renL f ds)
  | .tup ds => .tup (D.renL f ds)
  | .clo g a b => .clo g (D.renL f a) (D.renL f b)
  | .ifc t ds => .ifc t (D.renL f ds)
  | d => d
def D.renL (f : Nat → Option Nat) : List D → List D
  | [] => []
  | d :: ds => d.ren f :: D.renL f ds
end
def Ob.ids : Ob → List Nat
  | .cells ds => D.idsL ds
  | _ => []
def Ob.ren (f : Nat → Option Nat) : Ob → Ob
  | .cells ds => .cells (D.renL f ds)
  | ob => ob

/-! ### Objects -/
def lookH (hp : List Ob) (o : Nat) : Option Ob :=
  match hp[o]? with
  | some .dead => none
  | r => r
def updH (hp : List Ob) (p : Nat × Ob) : List Ob := if p.1 < hp.length then hp.set p.1 p.2 else hp ++ [p.2]
def updsH (hp : List Ob) : Dl → List Ob
  | [] => hp
  | p :: l => updsH (updH hp p) l

/-- The objects that names lead to, themselves first; each once. -/
def reachC (look : Nat → Option Ob) : Nat → List Nat → List Nat → C (List Nat)
  | 0, _, _ => C.fail
  | _ + 1, [], acc => C.pure acc
  | n + 1, o :: todo, acc =>
    if acc.contains o then reachC look n todo acc
    else C.bind (C.lift (look o)) fun ob => reachC look n (ob.ids ++ todo) (acc ++ [o])
def takeObs (look : Nat → Option Ob) (f : Nat → Option Nat) : List Nat → C (List Ob)
  | [] => C.pure []
  | o :: l => C.bind (C.lift (look o)) fun ob => C.bind (takeObs look f l) fun obs => C.pure (ob.ren f :: obs)
def posIn (l : List Nat) (o : Nat) : Option Nat := l.findIdx? (· == o)

/-- Does it hang on no row that it does not own? -/
def PD.indep : PD → Bool
  | .bool _ | .int _ _ | .str _ | .opq _ | .arr _ _ _ => true
  | .agg xs => indepL xs
  | _ => false
where indepL : List PD → Bool
  | [] => true
  | x :: xs => (match x with | .bool _ | .int _ _ | .str _ | .opq _ => true | _ => false) && indepL xs
mutual
def D.indep : D → Bool
  | .pd x => x.indep
  | .agg ds => D.indepL ds
  | .tup ds => D.indepL ds
  | .ref _ => true
  | .ptr _ _ => true
  | _ => false
def D.indepL : List D → Bool
  | [] => true
  | d :: ds => d.indep && D.indepL ds
end
def Ob.indep : Ob → Bool
  | .arr _ _ (.nums _ _) => true
  | .ints _ _ _ => true
  | .flags _ _ => true
  | .cells ds => D.indepL ds
  | _ => false

/-! ### Calls -/
/-- What a call of a function comes to: its value and the objects. -/
abbrev Cal := FuncId → List D → List Ob → C (D × List Ob)

section call
variable (look : Nat → Option Ob) (fr : Nat)
/-- An argument handed over: a row of the call's own is kept by its name, or given away. -/
def hand1 (keep : Bool) (d : D) : C (D × Dl) :=
  match d with
  | .ref o => cond keep (C.pure (.ref o, [])) (C.bind (give1 look (.ref o)) fun (x, l) => C.pure (.pd x, l))
  | .asl o lo hi => cond keep (C.pure (.asl o lo hi, [])) (C.bind (give1 look (.asl o lo hi)) fun (x, l) => C.pure (.pd x, l))
  | .tup _ => C.fail
  | .agg _ => C.fail
  | d => C.pure (d, [])
def handL (keep : Bool) : List D → C (List D × Dl)
  | [] => C.pure ([], [])
  | d :: ds => C.bind (hand1 look keep d) fun (d, l) => C.bind (handL keep ds) fun (ds, l') => if disj (keysOf l) (keysOf l') then C.pure (d :: ds, l ++ l') else C.fail
def hand (keep : Bool) (d : D) : C (D × Dl) :=
  match d with
  | .agg ds => C.bind (handL look keep ds) fun (ds, l) => C.pure (D.mkAgg ds, l)
  | d => hand1 look keep d
def hands (kept : Nat → Bool) : Nat → List D → C (List D × Dl)
  | _, [] => C.pure ([], [])
  | i, d :: ds => C.bind (hand look (kept i) d) fun (d, l) => C.bind (hands kept (i + 1) ds) fun (ds, l') => if disj (keysOf l) (keysOf l') then C.pure (d :: ds, l ++ l') else C.fail
/-- An argument that is only looked at. -/
def lend1 (d : D) : C (D × List Nat) :=
  match d with
  | .ref o => C.bind (C.lift (look o)) fun
    | .arr _ _ x => C.pure (.pd x, [o])
    | .froz x => C.pure (.pd x, [])
    | _ => C.fail
  | .asl o lo hi => C.bind (C.lift (look o)) fun
    | .ints k m xs => C.need (decide (hi ≤ m)) (C.pure (.pd (.nums k ((xs.take hi).drop lo)), [o]))
    | _ => C.fail
  | .tup _ => C.fail
  | .agg _ => C.fail
  | d => C.pure (d, [])
def lendL : List D → C (List D × List Nat)
  | [] => C.pure ([], [])
  | d :: ds => C.bind (lend1 look d) fun (d, l) => C.bind (lendL ds) fun (ds, l') => C.pure (d :: ds, l ++ l')
def lend (d : D) : C (D × List Nat) :=
  match d with
  | .agg ds => C.bind (lendL look ds) fun (ds, l) => C.pure (D.mkAgg ds, l)
  | d => lend1 look d
def lends : List D → C (List D × List Nat)
  | [] => C.pure ([], [])
  | d :: ds => C.bind (lend look d) fun (d, l) => C.bind (lends ds) fun (ds, l') => C.pure (d :: ds, l ++ l')
/-- The objects as the callee leaves them, under their old names; new ones under new names. -/
def backTo (back : Nat → Option Nat) (pk : List Nat) (fr : Nat) : Nat → List Ob → Dl
  | _, [] => []
  | i, ob :: obs => ((pk[i]?).getD (fr + (i - pk.length)), ob.ren back) :: backTo back pk fr (i + 1) obs
def backOf (pk : List Nat) (fr : Nat) (i : Nat) : Option Nat := some ((pk[i]?).getD (fr + (i - pk.length)))
/-- A call: as: its arguments as they are handed; bl: rows that are only looked at. -/
def packCall (call : Cal) (g : FuncId) (as : List D) (l : Dl) (bl : List Nat) : C (D × Dl) :=
  C.bind (reachC look 64 (D.idsL as) []) fun pk =>
  if disj (keysOf l) pk && disj bl pk then
    C.bind (takeObs look (posIn pk) pk) fun obs =>
    C.bind (call g (D.renL (posIn pk) as) obs) fun (d, obs') =>
    if pk.length ≤ obs'.length ∧ obs'.length ≤ pk.length + 8 then
      if bl.isEmpty || (d.indep && obs'.all (·.indep)) then C.pure (d.ren (backOf pk fr), l ++ backTo (backOf pk fr) pk fr 0 obs') else C.fail
    else C.fail
  else C.fail
/-- A call of function g, its arguments in order. -/
def opCall (call : Cal) (h : Hint) (g : FuncId) (args : List D) : C (D × Dl) :=
  match h with
  | .borrow => C.bind (lends look args) fun (as, bl) => packCall look fr call g as [] bl
  | .inout kept => C.bind (hands look (fun i => kept.contains i) 0 args) fun (as, l) => packCall look fr call g as l []
  | _ => C.bind (hands look (fun _ => false) 0 args) fun (as, l) => packCall look fr call g as l []
end call

/-! ### One operation -/
section op
variable (P : Program) (call : Cal)
def opndsD (ev : Operand → D) (l : Array Operand) : List D := l.toList.map ev
def partsOf (l : Array (Nat × Operand)) : List (Nat × Operand) := l.toList
def evOp (h : Hint) (ev : Operand → D) (look : Nat → Option Ob) (fr : Nat) (o : Oper) : C (D × Dl) :=
  let v (m : C D) : C (D × Dl) := C.bind m fun d => C.pure (d, [])
  let p (m : C PD) : C (D × Dl) := C.bind m fun x => C.pure (.pd x, [])
  match o.op with
  | .move x | .assign x => C.pure (ev x, [])
  | .pick c a b => C.bind (boolD (ev c)) fun t => C.split t fun t => C.pure (cond t (ev a) (ev b), [])
  | .alloc e => C.bind (C.lift (zeroOb P e)) fun ob => C.pure (.ptr fr 0, [(fr, ob)])
  | .box e x => C.bind (C.lift (boxOb P e (ev x))) fun ob => C.pure (.ptr fr 0, [(fr, ob)])
  | .build t parts => v (opBuild P ev t (partsOf parts))
  | .buildSlice t n parts => opBuildSlice P ev look fr t n (partsOf parts)
  | .load t a => v (opLoad P look t (ev a))
  | .store t a x => C.bind (opStore P look t (ev a) (ev x)) fun l => C.pure (.junk, l)
  | .nilCheck x => match ev x with
    | .ptr o off => C.pure (.ptr o off, [])
    | .eptr o z i off => C.pure (.eptr o z i off, [])
    | .rptr y off => C.pure (.rptr y off, [])
    | .clo f a b => C.pure (.clo f a b, [])
    | _ => C.fail
  | .binOp op t x y _ => p (opBin P op t (ev x) (ev y))
  | .unOp op _ x => p (opUn op (ev x))
  | .convert src dst x => opConvert P look fr src dst (ev x)
  | .sliceToArrayPointer t x => opSliceToArr P look t (ev x)
  | .makeFunc fn first caps => match fn with
    | .func f => C.pure (.clo f (opndsD ev first) (opndsD ev caps), [])
    | _ => C.fail
  | .makeInterface t x => match P.underlying t with
    | some (.slice _) => C.pure (.ifc t [ev x], [])
    | _ => C.fail
  | .makeSlice t l c => C.bind (intD (ev l)) fun (_, l) => C.bind (intD (ev c)) fun (_, c) => opMakeSlice P fr t l c
  | .slice t x lo hi mx => opSlice P h ev look fr t (ev x) lo hi mx
  | .fieldAddr t x f => v (opFieldAddr P t (ev x) f)
  | .field t x f => v (opField P t (ev x) f)
  | .indexAddr t x i => C.bind (intD (ev i)) fun (_, i) => v (opIndexAddr P look t (ev x) i)
  | .index t x i => C.bind (intD (ev i)) fun (_, i) => v (opIndex P t (ev x) i)
  | .extract t i => match ev t with
    | .tup ds => C.bind (C.lift ds[i]?) fun d => C.pure (d, [])
    | _ => C.fail
  | .call c => match c.callee, c.args.toList, c.argTypes.toList with
    | .builtin .len, [x], [t] => p (opLen P look t (ev x))
    | .builtin .append, [s, x], [t, u] => opAppend2 P look fr t u (ev s) (ev x)
    | .builtin .copy, [d, x], [t, u] => opCopy P look t u (ev d) (ev x)
    | .builtin .min, x :: r, _ => p (minsI false (ev x) (r.map ev))
    | .builtin .max, x :: r, _ => p (minsI true (ev x) (r.map ev))
    | .value f, as, _ => match ev f with
      | .clo g first caps => opCall look fr call h g (first ++ as.map ev ++ caps)
      | _ => C.fail
    | _, _, _ => C.fail
  | _ => C.fail
end op

/-! ### The state, and what is forgotten -/
structure St where
  ts : List D
  hp : List Ob
def St.put (s : St) (d : Option Tmp) (v : D) : St :=
  match d with
  | some t => { s with ts := s.ts.set t v }
  | none => s
def undefD : D := .pd (.opq (.tuple #[]))

/-- What is kept at a place in the text: these slots; `own`: nil slices in these become rows that may grow; `fz`: rows in these are written no more -/
structure NH where
  keep : List Nat
  own : List (Nat × TypeId) := []
  ownC : List (Nat × Nat × TypeId) := []
  fz : List Nat := []
  fzC : List (Nat × Nat) := []
  mv : List (Nat × Nat) := []

section norm
variable (P : Program)
def ownRow (e : TypeId) : Ob := .arr (P.cellsOf e) e (match P.underlying e with | some (.int k) => .nums k [] | _ => .sl (P.cellsOf e) [])
/-- A type whose rows may grow. -/
def growT (e : TypeId) : Bool := decide (0 < P.cellsOf e) && (match P.underlying e with | some (.int _) => decide (P.cellsOf e = 1) | _ => true)
def ownAll : List (Nat × TypeId) → St → St
  | [], s => s
  | (t, e) :: l, s => match s.ts.getD t .junk with
    | .pd (.opq (.slice none 0 0)) => if growT P e then ownAll l { ts := s.ts.set t (.ref s.hp.length), hp := s.hp ++ [ownRow P e] } else ownAll l s
    | _ => ownAll l s
/-- The same in a variable's cell j; the slot holds the variable's address. -/
def ownCells : List (Nat × Nat × TypeId) → St → St
  | [], s => s
  | (t, j, e) :: l, s => match s.ts.getD t .junk with
    | .ptr o _ => match s.hp[o]? with
      | some (.cells ds) => match ds.getD j .junk with
        | .pd (.opq (.slice none 0 0)) => if growT P e then ownCells l { ts := s.ts, hp := s.hp.set o (.cells (ds.set j (.ref s.hp.length))) ++ [ownRow P e] } else ownCells l s
        | _ => ownCells l s
      | _ => ownCells l s
    | _ => ownCells l s
/-- A row that came in and lies in cell j of object o gets a new name. -/
def mvCells (n0 : Nat) : List (Nat × Nat) → St → St
  | [], s => s
  | (o, j) :: l, s => match s.hp[o]? with
    | some (.cells ds) => match ds.getD j .junk with
      | .ref p => match s.hp[p]? with
        | some (.arr z e x) => if p < n0 then mvCells n0 l { ts := s.ts, hp := (s.hp.set p .dead).set o (.cells (ds.set j (.ref s.hp.length))) ++ [.arr z e x] } else mvCells n0 l s
        | _ => mvCells n0 l s
      | _ => mvCells n0 l s
    | _ => mvCells n0 l s
def fzOb (hp : List Ob) : List Nat → List Ob
  | [] => hp
  | o :: l => match hp[o]? with
    | some (.arr _ _ x) => fzOb (hp.set o (.froz x)) l
    | _ => fzOb hp l
def keepTs (keep : List Nat) : Nat → List D → List D
  | _, [] => []
  | i, d :: ds => (if keep.contains i then d else .junk) :: keepTs keep (i + 1) ds
/-- Living objects that names lead to. -/
def reachH (hp : List Ob) : Nat → List Nat → List Nat → List Nat
  | 0, _, acc => acc
  | _ + 1, [], acc => acc
  | n + 1, o :: todo, acc =>
    if acc.contains o then reachH hp n todo acc
    else match hp[o]? with
      | some (.cells ds) => reachH hp n (D.idsL ds ++ todo) (acc ++ [o])
      | some (.ints _ _ _) | some (.flags _ _) | some (.arr _ _ _) => reachH hp n todo (acc ++ [o])
      | _ => reachH hp n todo acc
mutual
def D.nrm (hp : List Ob) (f : Nat → Option Nat) : D → D
  | .ptr o off => match f o with | some o => .ptr o off | none => .junk
  | .ref o => match hp[o]? with
    | some (.froz x) => .pd x
    | some (.arr _ _ _) => (match f o with | some o => .ref o | none => .junk)
    | _ => .junk
  | .eptr o z i off => match f o with | some o => .eptr o z i off | none => .junk
  | .asl o lo hi => match f o with | some o => .asl o lo hi | none => .junk
  | .agg ds => D.mkAgg (D.nrmL hp f ds)
  | .tup ds => .tup (D.nrmL hp f ds)
  | .clo g a b => .clo g (D.nrmL hp f a) (D.nrmL hp f b)
  | .ifc t ds => .ifc t (D.nrmL hp f ds)
  | d => d
def D.nrmL (hp : List Ob) (f : Nat → Option Nat) : List D → List D
  | [] => []
  | d :: ds => d.nrm hp f :: D.nrmL hp f ds
end
def Ob.nrm (hp : List Ob) (f : Nat → Option Nat) : Ob → Ob
  | .cells ds => .cells (D.nrmL hp f ds)
  | ob => ob
def pickObs (hp : List Ob) (f : Nat → Option Nat) (l : List Nat) : List Ob := l.map fun o => (hp.getD o .dead).nrm hp f
/-- The first n0 objects stay under their names; of the others those that slots and they lead to. -/
def gc (n0 : Nat) (ts : List D) (hp : List Ob) : List D × List Ob :=
  let inh := List.range n0
  let all := reachH hp 4096 (inh ++ D.idsL ts) []
  let new := all.filter (n0 ≤ ·)
  let f : Nat → Option Nat := fun o => if o < n0 then some o else (posIn new o).map (n0 + ·)
  (D.nrmL hp f ts, pickObs hp f (inh ++ new))
def refsOf (ts : List D) : List Nat → List Nat
  | [] => []
  | t :: l => (ts.getD t .junk).ids ++ refsOf ts l
def refsC (s : St) : List (Nat × Nat) → List Nat
  | [] => []
  | (t, j) :: l => (match s.ts.getD t .junk with
    | .ptr o _ => match s.hp[o]? with
      | some (.cells ds) => (ds.getD j .junk).ids
      | _ => []
    | _ => []) ++ refsC s l
def normz (n0 : Nat) (h : NH) (s : St) : St :=
  let s := mvCells n0 h.mv (ownCells P h.ownC (ownAll P h.own s))
  let hp := fzOb s.hp (refsOf s.ts h.fz ++ refsC s h.fzC)
  let (ts, hp) := gc n0 (keepTs h.keep 0 s.ts) hp
  ⟨ts, hp⟩
end norm

/-- The hints of one function: at which regions ways meet; loops by their first region: what is kept at the head, and behind; operations. -/
structure FH where
  join : List (Nat × NH) := []
  loops : List (Nat × NH × NH) := []
  ops : List (Nat × List (Nat × Hint)) := []
  see : List (Nat × List (Nat × List Nat)) := []
def assoc {A : Type _} (l : List (Nat × A)) (k : Nat) : Option A :=
  match l with
  | [] => none
  | (j, a) :: l => if j = k then some a else assoc l k
def FH.op (h : FH) (r i : Nat) : Hint := ((assoc h.ops r).bind (assoc · i)).getD .std

/-! ### A region -/
section region
variable (P : Program) (call : Cal) (fh : FH)
/-- Does an operation's guard let it through? -/
def guardOk (ops : Array Oper) (o : Oper) (s : St) : Option Bool :=
  match o.guard with
  | none => some true
  | some (j, want) =>
    match (ops[j]?).bind (·.dst) with
    | none => none
    | some t =>
      match s.ts.getD t .junk with
      | .pd (.opq (.tuple _)) => some false
      | .pd (.bool b) => some (b == want)
      | _ => none
/-- Does an operation of the region ask operation j? -/
def isGuard (ops : List Oper) (j : Nat) : Bool := ops.any fun o => match o.guard with | some (i, _) => i == j | none => false
/-- A guard is told apart at once. -/
def refineD (b : Bool) (d : D) : C D := cond b (C.bind (boolD d) fun t => C.split t fun t => C.pure (.pd (.bool t))) (C.pure d)
/-- New names follow one another. -/
def okKeys : Nat → Dl → Bool
  | _, [] => true
  | n, (x, _) :: l => decide (x ≤ n) && okKeys (if x = n then n + 1 else n) l
def evOps (r : Nat) (ops : Array Oper) : Nat → List Oper → St → C St
  | _, [], s => C.pure s
  | i, o :: l, s =>
    match guardOk ops o s with
    | none => C.fail
    | some true => C.bind (evOp P call (fh.op r i) (evalO s.ts) (lookH s.hp) s.hp.length o) fun (d, dl) =>
        if okKeys s.hp.length dl then C.bind (refineD (isGuard ops.toList i) d) fun d => evOps r ops (i + 1) l ({ s with hp := updsH s.hp dl }.put o.dst d) else C.fail
    | some false => evOps r ops (i + 1) l (s.put o.dst undefD)

/-- Operations that look at objects. -/
def heapOp : Op → Bool
  | .move _ | .assign _ | .pick .. | .build .. | .nilCheck _ | .binOp .. | .unOp .. | .makeFunc .. | .fieldAddr .. | .field .. | .extract .. | .index .. => false
  | _ => true
def before? (bef : Array Nat) (i j : Nat) : Bool := (bef.getD j 0).testBit i
/-- Operation j may look at object x: one that the region began with only where a hint names it, if a hint is there. -/
def hotOp (r base j : Nat) (o : Oper) (x : Nat) : Bool :=
  heapOp o.op && (!(match fh.op r j with | .cold => true | _ => false) && (decide (base ≤ x) || (match (assoc fh.see r).bind (assoc · j) with | some l => l.contains x | none => true)))
/-- Operation i can see object x; it is one of its own new names. -/
def seesO (hot : Nat → Oper → Nat → Bool) (bef : Array Nat) (base i : Nat) (o : Oper) (x : Nat) : Bool := hot i o x && (decide (x < base) || before? bef ((x - base) / 8) i)
def ownN (base i x : Nat) : Bool := decide (base + 8 * i ≤ x) && decide (x < base + 8 * i + 8)
/-- Operation j has its order with every other one that can see one of these objects. -/
def ordered (hot : Nat → Oper → Nat → Bool) (ops : List Oper) (bef : Array Nat) (base j : Nat) (ks : List Nat) : Bool :=
  (List.zipIdx ops).all fun (o, i) => i == j || (before? bef i j || (before? bef j i || ks.all fun x => !seesO hot bef base i o x && !ownN base i x))
/-- The slots that an operation reads. -/
def slotsIn (ops : Array Oper) (o : Oper) : List Nat :=
  (o.op.operands.toList.filterMap fun | .tmp t => some t | _ => none) ++ (match o.guard with | some (j, _) => ((ops[j]?).bind (·.dst)).toList | none => [])
/-- A number for each operation: what must go ahead in a mode has the smaller one. -/
def rankM (m : Region.Mode) (ops : Array Oper) (j : Nat) : Nat :=
  match ops[j]? with
  | some o => o.after.toList.foldl (fun a e => if Region.binds m e && decide (j ≤ e.on) then max a ((ops.size + 2) * e.on + (j + 1)) else a) ((ops.size + 2) * j)
  | none => 0
def rankOk (m : Region.Mode) (ops : Array Oper) : Bool :=
  ops.toList.zipIdx.all fun (o, j) => o.after.toList.all fun e => !Region.binds m e || (decide (e.on < ops.size) && decide (rankM m ops e.on < rankM m ops j))
/-- In each mode the operations can be set in a row. -/
def aheadOk (ops : Array Oper) : Bool :=
  (ops.toList.zipIdx.all fun (o, j) => o.after.toList.all fun e => decide (e.on < j)) ||
    ((ops.toList.zipIdx.all fun (o, j) => o.after.toList.all fun e => !Region.binds .any e || decide (e.on < j)) && (rankOk .text ops && (rankOk .gc ops && rankOk .any ops)))
/-- Who writes a slot that another one reads or writes has its order with it; what must go ahead stands ahead in the text. -/
def slotsOk (ops : Array Oper) (bef : Array Nat) : Bool :=
  let l := ops.toList.zipIdx
  aheadOk ops && l.all fun (o, j) => l.all fun (o', i) =>
    match o'.dst with
    | none => true
    | some t => i == j || !(o.dst == some t || (slotsIn ops o).contains t) || (if i < j then before? bef i j else before? bef j i)
/-- A state in which only some slots can be seen. -/
def maskTs (keep : List Nat) (ts : List D) : Operand → D
  | .tmp t => if keep.contains t then ts.getD t .junk else .junk
  | x => evalO ts x
def maskH (bef : Array Nat) (base j : Nat) (hp : List Ob) (x : Nat) : Option Ob :=
  if x < base ∨ ((x - base) / 8 < j ∧ before? bef ((x - base) / 8) j = true) then lookH hp x else none
def keysOk (hot : Nat → Oper → Nat → Bool) (ops : List Oper) (bef : Array Nat) (base j : Nat) (o : Oper) (dl : Dl) : Bool :=
  dl.isEmpty || ((keysOf dl).all (ownN base j) || (ordered hot ops bef base j (keysOf dl) && (keysOf dl).all fun x => (ownN base j x || seesO hot bef base j o x) && decide (x < base + 8 * ops.length)))
def evDraw (r : Nat) (ops : Array Oper) (bef : Array Nat) (base : Nat) : Nat → List Oper → St → C St
  | _, [], s => C.pure s
  | j, o :: l, s =>
    match guardOk ops o s with
    | none => C.fail
    | some true => C.bind (evOp P call (fh.op r j) (maskTs (slotsIn ops o) s.ts) (fun x => if hotOp fh r base j o x then maskH bef base j s.hp x else none) (base + 8 * j) o) fun (d, dl) =>
        if keysOk (hotOp fh r base) ops.toList bef base j o dl then
          C.bind (refineD (isGuard ops.toList j) d) fun d => evDraw r ops bef base (j + 1) l ({ s with hp := updsH s.hp dl }.put o.dst d)
        else C.fail
    | some false => evDraw r ops bef base (j + 1) l (s.put o.dst undefD)
def evRegion (r : Nat) (ops : Array Oper) (draw : Bool) (s : St) : C St :=
  if draw then
    if slotsOk ops (Region.before ops) then
      evDraw P call fh r ops (Region.before ops) s.hp.length 0 ops.toList { s with hp := s.hp ++ List.replicate (8 * ops.size) .dead }
    else C.fail
  else evOps P call fh r ops 0 ops.toList s
end region

/-! ### Code -/
inductive Ex where
  | norm
  | exit (id : Nat)
  | ret
/-- Round after round until a round says that it is the last one. -/
def loopFix {S R : Type} (step : S → Option (S ⊕ R)) (s : S) : Option R :=
  match step s with
  | none => none
  | some (.inl s) => loopFix step s
  | some (.inr r) => some r
  partial_fixpoint

def firstR : Code → Option Nat
  | .region id _ _ => some id
  | .seq a _ => firstR a
  | .block _ b => firstR b
  | .loop b => firstR b
  | .scope b => firstR b
  | _ => none

section code
variable (P : Program) (call : Cal) (fh : FH) (n0 : Nat)
def joinAt (b : Code) (s : St) : St :=
  match (firstR b).bind (assoc fh.join) with
  | some h => normz P n0 h s
  | none => s
/-- A test that has been told apart. -/
def St.know (s : St) (c : Operand) (t : Bool) : St :=
  match c with
  | .tmp i => { s with ts := s.ts.set i (.pd (.bool t)) }
  | _ => s
def evCode : Code → St → C (Ex × St)
  | .skip, s | .label _, s => C.pure (.norm, s)
  | .region id ops draw, s => C.bind (evRegion P call fh id ops draw s) fun s => C.pure (.norm, s)
  | .seq a b, s => C.bind (evCode a s) fun (e, s) =>
    match e with
    | .norm => evCode b (joinAt P fh n0 b s)
    | e => C.pure (e, s)
  | .cond c x y, s =>
    C.bind (boolD (evalO s.ts c)) fun t => C.split t fun t =>
      cond t (evCode x (s.know c t)) (evCode y (s.know c t))
  | .block id b, s => C.bind (evCode b s) fun (e, s) =>
    match e with
    | .exit j => if j = id then C.pure (.norm, s) else C.pure (.exit j, s)
    | e => C.pure (e, s)
  | .loop b, s =>
    match (firstR b).bind (assoc fh.loops) with
    | none => C.fail
    | some (hi, ho) =>
      C.lift (loopFix (fun s => evCode b s ((St ⊕ (Ex × St))) fun (e, s) =>
        match e with
        | .norm => some (.inl (normz P n0 hi s))
        | e => some (.inr (e, normz P n0 ho s))) (normz P n0 hi s))
  | .scope b, s => evCode b s
  | .exit id, s => C.pure (.exit id, s)
  | .ret, s => C.pure (.ret, s)
  | _, _ => C.fail

/-- The values of the results' variables. -/
def resultD (s : St) : ResultVar → C D
  | .tmp t => C.pure (s.ts.getD t .junk)
  | .cell a t => opLoad P (lookH s.hp) t (s.ts.getD a .junk)
def resultsD (s : St) : List ResultVar → C (List D)
  | [] => C.pure []
  | r :: rs => C.bind (resultD P s r) fun d => C.bind (resultsD s rs) fun ds => C.pure (d :: ds)
def tupD : List D → D
  | [d] => d
  | ds => .tup ds
/-- What a function's end hands back. -/
def finC (fn : Func) (r : Ex × St) : C (D × List Ob) :=
  match r.1 with
  | .exit _ => C.fail
  | _ => C.bind (resultsD P r.2 fn.results.toList) fun ds =>
    let (ds, hp') := gc n0 ds r.2.hp
    C.pure (tupD ds, hp')
def evBody (F : FuncId) (args : List D) (hp : List Ob) : C (D × List Ob) :=
  match P.funcs[F]? with
  | none => C.fail
  | some fn =>
    match fn.body with
    | none => C.fail
    | some c =>
      if fn.name = "runtime.NumGoroutine" then C.fail else
      C.bind (evCode P call fh hp.length c ⟨args ++ List.replicate (fn.ntmps - args.length) .junk, hp⟩) (finC P hp.length fn)
end code
end Go.Ev
