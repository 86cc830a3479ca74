/-
Patterns of slots, objects, states: what they hold is told by plain values.
-/
import Derived.Test.YtijjelcejpikiaaGreatDoorEvTold
set_option linter.unusedVariables false
set_option linter.unusedSimpArgs false
namespace Go.Ev
variable [Globs]
set_option linter.unusedSectionVars false
inductive Pt where
  | int (k : IntKind) | bool | str | nums (k : IntKind) | sl (z : Nat) | arr (k : IntKind) (m : Nat)
  | ptr (o off : Nat) | ref (o : Nat) | asl (o : Nat) | eptr (o z off : Nat)
  | agg (p : Pt) | tup (p : Pt) | clo (f : FuncId) (first caps : Pt) | ifc (t : TypeId) (p : Pt)
  | junk
  | nil | cons (p q : Pt)
def Pt.Ty : Pt → Type
  | .int _ => Int
  | .bool => Bool
  | .str => ByteArray
  | .nums _ => List Int
  | .sl _ => List PD
  | .arr _ _ => List Int
  | .ptr _ _ => Unit
  | .ref _ => Unit
  | .asl _ => Nat × Nat
  | .eptr _ _ _ => Nat
  | .agg p => p.Ty
  | .tup p => p.Ty
  | .clo _ a b => a.Ty × b.Ty
  | .ifc _ p => p.Ty
  | .junk => Unit
  | .nil => Unit
  | .cons p q => p.Ty × q.Ty
/-- The values, one after the other. -/
def Pt.emb : (p : Pt) → p.Ty → List D
  | .int k, n => [.pd (.int k n)]
  | .bool, b => [.pd (.bool b)]
  | .str, s => [.pd (.str s)]
  | .nums k, xs => [.pd (.nums k xs)]
  | .sl z, xs => [.pd (.sl z xs)]
  | .arr k m, xs => [.pd (.arr k m xs)]
  | .ptr o off, _ => [.ptr o off]
  | .ref o, _ => [.ref o]
  | .asl o, x => [.asl o x.1 x.2]
  | .eptr o z off, i => [.eptr o z i off]
  | .agg p, x => [D.mkAgg (p.emb x)]
  | .tup p, x => [.tup (p.emb x)]
  | .clo f a b, x => [.clo f (a.emb x.1) (b.emb x.2)]
  | .ifc t p, x => [.ifc t (p.emb x)]
  | .junk, _ => [.junk]
  | .nil, _ => []
  | .cons p q, x => p.emb x.1 ++ q.emb x.2
def PD.arr? (k : IntKind) (m : Nat) : PD → Option (List Int)
  | .arr k' m' xs => if k' = k ∧ m' = m then some xs else none
  | _ => none
def rdPd {A : Type} (f : PD → Option A) : List D → Option (A × List D)
  | .pd x :: ds => (f x).map fun a => (a, ds)
  | _ => none
def rdPtr (o off : Nat) : List D → Option (Unit × List D)
  | .ptr o' off' :: ds => if o' = o ∧ off' = off then some ((), ds) else none
  | _ => none
def rdRef (o : Nat) : List D → Option (Unit × List D)
  | .ref o' :: ds => if o' = o then some ((), ds) else none
  | _ => none
def rdAsl (o : Nat) : List D → Option ((Nat × Nat) × List D)
  | .asl o' lo hi :: ds => if o' = o then some ((lo, hi), ds) else none
  | _ => none
def rdEptr (o z off : Nat) : List D → Option (Nat × List D)
  | .eptr o' z' i off' :: ds => if o' = o ∧ z' = z ∧ off' = off then some (i, ds) else none
  | _ => none
def rdAll {A : Type} (ds : List D) (r : Option (A × List D)) : Option (A × List D) :=
  r.bind fun y => match y.2 with | [] => some (y.1, ds) | _ => none
def rdAgg {A : Type} (f : List D → Option (A × List D)) : List D → Option (A × List D)
  | .agg es :: ds => rdAll ds (f es)
  | .pd (.agg xs) :: ds => rdAll ds (f (xs.map .pd))
  | _ => none
def rdTup {A : Type} (f : List D → Option (A × List D)) : List D → Option (A × List D)
  | .tup es :: ds => rdAll ds (f es)
  | _ => none
def rdClo {A B : Type} (g : FuncId) (f : List D → Option (A × List D)) (f' : List D → Option (B × List D)) : List D → Option ((A × B) × List D)
  | .clo g' a b :: ds => if g' = g then (rdAll ds (f a)).bind fun x => (rdAll ds (f' b)).map fun y => ((x.1, y.1), ds) else none
  | _ => none
def rdIfc {A : Type} (t : TypeId) (f : List D → Option (A × List D)) : List D → Option (A × List D)
  | .ifc t' es :: ds => if t' = t then rdAll ds (f es) else none
  | _ => none
def rdJunk : List D → Option (Unit × List D)
  | _ :: ds => some ((), ds)
  | _ => none
def Pt.rd : (p : Pt) → List D → Option (p.Ty × List D)
  | .int k, ds => rdPd (PD.int? k) ds
  | .bool, ds => rdPd PD.bool? ds
  | .str, ds => rdPd PD.str? ds
  | .nums k, ds => rdPd (PD.nums? k) ds
  | .sl z, ds => rdPd (PD.sl? z) ds
  | .arr k m, ds => rdPd (PD.arr? k m) ds
  | .ptr o off, ds => rdPtr o off ds
  | .ref o, ds => rdRef o ds
  | .asl o, ds => rdAsl o ds
  | .eptr o z off, ds => rdEptr o z off ds
  | .agg p, ds => rdAgg p.rd ds
  | .tup p, ds => rdTup p.rd ds
  | .clo f a b, ds => rdClo f a.rd b.rd ds
  | .ifc t p, ds => rdIfc t p.rd ds
  | .junk, ds => rdJunk ds
  | .nil, ds => some ((), ds)
  | .cons p q, ds => (p.rd ds).bind fun x => (q.rd x.2).map fun y => ((x.1, y.1), y.2)
section V
variable {N : Nat → Prop} {γ : Nat → Value} {Fz : Nat → Prop} {w : World}
/-- The same, for several. -/
inductive VL (N : Nat → Prop) (γ : Nat → Value) (Fz : Nat → Prop) (w : World) : List D → List Value → Prop
  | nil : VL N γ Fz w [] []
  | cons {d : D} {v : Value} {ds : List D} {vs : List Value} (h : V N γ Fz w d v) (t : VL N γ Fz w ds vs) : VL N γ Fz w (d :: ds) (v :: vs)
theorem VL.len {ds : List D} {vs : List Value} (h : VL N γ Fz w ds vs) : vs.length = ds.length := by
  induction h with
  | nil => rfl
  | cons _ _ ih => simp [ih]
theorem VL.get {ds : List D} {vs : List Value} (h : VL N γ Fz w ds vs) : ∀ i (hi : i < ds.length), V N γ Fz w ds[i] (vs.getD i undef) := by
  induction h with
  | nil => intro i hi; simp at hi
  | cons h _ ih =>
    intro i hi
    cases i with
    | zero => exact h
    | succ i => simpa using ih i (by simpa using hi)
theorem VL.of_get : ∀ {ds : List D} {vs : List Value}, vs.length = ds.length → (∀ i (hi : i < ds.length), V N γ Fz w ds[i] (vs.getD i undef)) → VL N γ Fz w ds vs
  | [], [], _, _ => .nil
  | d :: ds, v :: vs, hl, h => .cons (h 0 (by simp)) (VL.of_get (by simpa using hl) fun i hi => h (i + 1) (by simpa using hi))
theorem VL.app {ds es : List D} {vs us : List Value} (h : VL N γ Fz w ds vs) (h' : VL N γ Fz w es us) : VL N γ Fz w (ds ++ es) (vs ++ us) := by
  induction h with
  | nil => exact h'
  | cons h _ ih => exact .cons h ih
theorem VL.one {d : D} {v : Value} (h : V N γ Fz w d v) : VL N γ Fz w [d] [v] := .cons h .nil
/-- A reader that is right. -/
def RdOK (N : Nat → Prop) (γ : Nat → Value) (Fz : Nat → Prop) (w : World) {A : Type} (f : List D → Option (A × List D)) (e : A → List D) : Prop :=
  ∀ ds a ds', f ds = some (a, ds') → ∀ vs, VL N γ Fz w ds vs → ∃ v1 v2, vs = v1 ++ v2 ∧ VL N γ Fz w (e a) v1 ∧ VL N γ Fz w ds' v2
theorem RdOK.head {A : Type} {f : List D → Option (A × List D)} {e : A → D} (h0 : f [] = none) (h : ∀ d ds a ds', f (d :: ds) = some (a, ds') → ds' = ds ∧ ∀ v, V N γ Fz w d v → V N γ Fz w (e a) v) : RdOK N γ Fz w f fun a => [e a] := by
  intro ds a ds' hf vs hv
  cases hv with
  | nil => rw [h0] at hf; cases hf
  | cons hd ht =>
    obtain ⟨rfl, h1⟩ := h _ _ a ds' hf
    exact ⟨[_], _, rfl, .one (h1 _ hd), ht⟩
theorem rdPd_ok {A : Type} {f : PD → Option A} {e : A → PD} (h : ∀ x a v, f x = some a → RD Fz w x v → RD Fz w (e a) v) : RdOK N γ Fz w (rdPd f) fun a => [.pd (e a)] := by
  refine RdOK.head (e := fun a => .pd (e a)) rfl fun d ds a ds' hf => ?_
  cases d <;> simp only [rdPd, reduceCtorEq] at hf
  obtain ⟨b, hb, he⟩ := Option.map_eq_some_iff.1 hf
  cases he
  exact ⟨rfl, fun v hv => .pd _ _ (h _ _ _ hb hv.inv_pd)⟩
theorem rdAll_some {A : Type} {ds ds' : List D} {r : Option (A × List D)} {a : A} (h : rdAll ds r = some (a, ds')) : ds' = ds ∧ r = some (a, []) := by
  unfold rdAll at h
  obtain ⟨y, hy, h⟩ := Option.bind_eq_some_iff.1 h
  obtain ⟨b, l⟩ := y
  dsimp only at h
  split at h
  · cases h
    exact ⟨rfl, hy⟩
  · cases h
theorem RdOK.all {A : Type} {f : List D → Option (A × List D)} {e : A → List D} (h : RdOK N γ Fz w f e) {ds : List D} {a : A} (hf : f ds = some (a, [])) {vs : List Value} (hv : VL N γ Fz w ds vs) : VL N γ Fz w (e a) vs := by
  obtain ⟨v1, v2, rfl, h1, h2⟩ := h ds a [] hf vs hv
  cases h2
  simpa using h1
theorem VL.arr {ds : List D} {vs : Array Value} (hs : vs.size = ds.length) (h : ∀ i (hi : i < ds.length), V N γ Fz w ds[i] (vs.getD i undef)) : VL N γ Fz w ds vs.toList :=
  VL.of_get (by simpa using hs) fun i hi => by simpa [Array.getD_eq_getD_getElem?, List.getD] using h i hi
theorem VL.arr_get {ds : List D} {vs : Array Value} (h : VL N γ Fz w ds vs.toList) : vs.size = ds.length ∧ ∀ i (hi : i < ds.length), V N γ Fz w ds[i] (vs.getD i undef) :=
  ⟨by simpa using h.len, fun i hi => by simpa [Array.getD_eq_getD_getElem?, List.getD] using h.get i hi⟩
theorem rdAgg_ok {A : Type} {f : List D → Option (A × List D)} {e : A → List D} (h : RdOK N γ Fz w f e) : RdOK N γ Fz w (rdAgg f) fun a => [D.mkAgg (e a)] := by
  refine RdOK.head (e := fun a => D.mkAgg (e a)) rfl fun d ds a ds' hf => ?_
  have fin : ∀ es, f es = some (a, []) → ∀ vs : Array Value, VL N γ Fz w es vs.toList → (∀ u ∈ vs.toList, OneC u) → V N γ Fz w (D.mkAgg (e a)) (.agg vs) := fun es he vs hv ho => by
    obtain ⟨h1, h2⟩ := (h.all he hv).arr_get
    exact mkAgg_V h1 ho h2
  unfold rdAgg at hf
  split at hf
  · rename_i es tl heq
    cases heq
    obtain ⟨rfl, h1⟩ := rdAll_some hf
    refine ⟨rfl, fun v hv => ?_⟩
    obtain ⟨vs, rfl, hs, ho, hv'⟩ := hv.inv_agg
    exact fin _ h1 vs (.arr hs hv') ho
  · rename_i xs tl heq
    cases heq
    obtain ⟨rfl, h1⟩ := rdAll_some hf
    refine ⟨rfl, fun v hv => ?_⟩
    obtain ⟨vs, rfl, hs, ho, hv'⟩ := hv.inv_pd.inv_agg
    refine fin _ h1 vs (.arr (by simpa using hs) fun i hi => ?_) ho
    simp only [List.getElem_map]
    exact .pd _ _ (hv' i (by simpa using hi))
  · cases hf
theorem rdTup_ok {A : Type} {f : List D → Option (A × List D)} {e : A → List D} (h : RdOK N γ Fz w f e) : RdOK N γ Fz w (rdTup f) fun a => [.tup (e a)] := by
  refine RdOK.head (e := fun a => .tup (e a)) rfl fun d ds a ds' hf => ?_
  unfold rdTup at hf
  split at hf
  · rename_i es tl heq
    cases heq
    obtain ⟨rfl, h1⟩ := rdAll_some hf
    refine ⟨rfl, fun v hv => ?_⟩
    obtain ⟨vs, rfl, hs, hv'⟩ := hv.inv_tup
    obtain ⟨h2, h3⟩ := (h.all h1 (.arr hs hv')).arr_get
    exact .tup _ _ h2 h3
  · cases hf
theorem rdClo_ok {A B : Type} {g : FuncId} {f : List D → Option (A × List D)} {e : A → List D} {f' : List D → Option (B × List D)} {e' : B → List D} (h : RdOK N γ Fz w f e) (h' : RdOK N γ Fz w f' e') : RdOK N γ Fz w (rdClo g f f') fun a => [.clo g (e a.1) (e' a.2)] := by
  refine RdOK.head (e := fun (a : A × B) => .clo g (e a.1) (e' a.2)) rfl fun d ds a ds' hf => ?_
  unfold rdClo at hf
  split at hf
  · rename_i g' l1 l2 tl heq
    cases heq
    split at hf
    · rename_i hg
      subst hg
      obtain ⟨x, hx, hf⟩ := Option.bind_eq_some_iff.1 hf
      obtain ⟨y, hy, hf⟩ := Option.map_eq_some_iff.1 hf
      cases hf
      obtain ⟨x1, x2⟩ := x
      obtain ⟨y1, y2⟩ := y
      obtain ⟨_, h1⟩ := rdAll_some hx
      obtain ⟨_, h2⟩ := rdAll_some hy
      refine ⟨rfl, fun v hv => ?_⟩
      obtain ⟨vf, vc, rfl, h3, h4, h5, h6⟩ := hv.inv_clo
      obtain ⟨h7, h8⟩ := (h.all h1 (.arr h3 h5)).arr_get
      obtain ⟨h9, h10⟩ := (h'.all h2 (.arr h4 h6)).arr_get
      exact .clo _ _ _ _ _ h7 h9 h8 h10
    · cases hf
  · cases hf
theorem rdIfc_ok {A : Type} {t : TypeId} {f : List D → Option (A × List D)} {e : A → List D} (h : RdOK N γ Fz w f e) : RdOK N γ Fz w (rdIfc t f) fun a => [.ifc t (e a)] := by
  refine RdOK.head (e := fun a => .ifc t (e a)) rfl fun d ds a ds' hf => ?_
  unfold rdIfc at hf
  split at hf
  · rename_i t' es tl heq
    cases heq
    split at hf
    · rename_i ht
      subst ht
      obtain ⟨rfl, h1⟩ := rdAll_some hf
      refine ⟨rfl, fun v hv => ?_⟩
      obtain ⟨d1, u, rfl, rfl, h2⟩ := hv.inv_ifc
      have h3 := h.all h1 (.one h2)
      generalize e a = es' at h3
      cases h3 with
      | cons h4 h5 =>
        cases h5
        exact .ifc _ _ _ h4
    · cases hf
  · cases hf
theorem Pt.rd_ok : ∀ (p : Pt), RdOK N γ Fz w p.rd p.emb
  | .int k => rdPd_ok fun x a v h hr => (hr.int? h).1
  | .bool => rdPd_ok fun x a v h hr => (hr.bool? h).1
  | .str => rdPd_ok fun x a v h hr => (hr.str? h).1
  | .nums k => rdPd_ok fun x a v h hr => hr.nums? h
  | .sl z => rdPd_ok fun x a v h hr => hr.sl? h
  | .arr k m => rdPd_ok (e := fun xs => .arr k m xs) fun x a v h hr => by
    unfold PD.arr? at h
    split at h
    · split at h
      · rename_i h1
        obtain ⟨rfl, rfl⟩ := h1
        cases h
        exact hr
      · cases h
    · cases h
  | .ptr o off => RdOK.head (e := fun _ => .ptr o off) rfl fun d ds a ds' h => by
    change rdPtr o off (d :: ds) = some (a, ds') at h
    unfold rdPtr at h
    split at h
    · rename_i heq
      cases heq
      split at h
      · rename_i h1
        obtain ⟨rfl, rfl⟩ := h1
        cases h
        exact ⟨rfl, fun v hv => hv⟩
      · cases h
    · cases h
  | .ref o => RdOK.head (e := fun _ => .ref o) rfl fun d ds a ds' h => by
    change rdRef o (d :: ds) = some (a, ds') at h
    unfold rdRef at h
    split at h
    · rename_i heq
      cases heq
      split at h
      · rename_i h1
        subst h1
        cases h
        exact ⟨rfl, fun v hv => hv⟩
      · cases h
    · cases h
  | .asl o => RdOK.head (e := fun (x : Nat × Nat) => .asl o x.1 x.2) rfl fun d ds a ds' h => by
    change rdAsl o (d :: ds) = some (a, ds') at h
    unfold rdAsl at h
    split at h
    · rename_i heq
      cases heq
      split at h
      · rename_i h1
        subst h1
        cases h
        exact ⟨rfl, fun v hv => hv⟩
      · cases h
    · cases h
  | .eptr o z off => RdOK.head (e := fun i => .eptr o z i off) rfl fun d ds a ds' h => by
    change rdEptr o z off (d :: ds) = some (a, ds') at h
    unfold rdEptr at h
    split at h
    · rename_i heq
      cases heq
      split at h
      · rename_i h1
        obtain ⟨rfl, rfl, rfl⟩ := h1
        cases h
        exact ⟨rfl, fun v hv => hv⟩
      · cases h
    · cases h
  | .agg p => rdAgg_ok p.rd_ok
  | .tup p => rdTup_ok p.rd_ok
  | .clo f a b => rdClo_ok a.rd_ok b.rd_ok
  | .ifc t p => rdIfc_ok p.rd_ok
  | .junk => RdOK.head (e := fun _ => .junk) rfl fun d ds a ds' h => by
    cases h
    exact ⟨rfl, fun v hv => .junk v⟩
  | .nil => fun ds a ds' h vs hv => by
    cases h
    exact ⟨[], vs, rfl, .nil, hv⟩
  | .cons p q => fun ds a ds' h vs hv => by
    change ((p.rd ds).bind fun x => (q.rd x.2).map fun y => ((x.1, y.1), y.2)) = some (a, ds') at h
    obtain ⟨x, hx, h⟩ := Option.bind_eq_some_iff.1 h
    obtain ⟨y, hy, h⟩ := Option.map_eq_some_iff.1 h
    cases h
    obtain ⟨x1, x2⟩ := x
    obtain ⟨y1, y2⟩ := y
    obtain ⟨v1, v2, rfl, h1, h2⟩ := p.rd_ok ds x1 x2 hx vs hv
    obtain ⟨v3, v4, rfl, h3, h4⟩ := q.rd_ok x2 y1 y2 hy v2 h2
    exact ⟨v1 ++ v3, v4, by simp, h1.app h3, h4⟩
/-- One value. -/
def Pt.emb1 (p : Pt) (x : p.Ty) : D := (p.emb x).headD .junk
def Pt.rd1 (p : Pt) (d : D) : Option p.Ty := (p.rd [d]).bind fun y => match y.2 with | [] => some y.1 | _ => none
theorem Pt.rd1_ok (p : Pt) {d : D} {x : p.Ty} {v : Value} (h : p.rd1 d = some x) (hv : V N γ Fz w d v) : V N γ Fz w (p.emb1 x) v := by
  unfold Pt.rd1 at h
  obtain ⟨y, hy, h⟩ := Option.bind_eq_some_iff.1 h
  obtain ⟨y1, y2⟩ := y
  dsimp only at h
  split at h
  · cases h
    have := p.rd_ok.all hy (.one hv)
    unfold Pt.emb1
    generalize p.emb x = l at this
    cases this with
    | cons h _ => exact h
  · cases h
def Pt.rdL (p : Pt) (ds : List D) : Option p.Ty := (p.rd ds).bind fun y => match y.2 with | [] => some y.1 | _ => none
theorem Pt.rdL_ok (p : Pt) {ds : List D} {x : p.Ty} (h : p.rdL ds = some x) {vs : List Value} (hv : VL N γ Fz w ds vs) : VL N γ Fz w (p.emb x) vs := by
  unfold Pt.rdL at h
  obtain ⟨y, hy, h⟩ := Option.bind_eq_some_iff.1 h
  obtain ⟨y1, y2⟩ := y
  dsimp only at h
  split at h
  · cases h
    exact p.rd_ok.all hy hv
  · cases h
end V
/-! ### Objects -/
inductive Po where
  | cells (p : Pt) | ints (k : IntKind) (m : Nat) | flags (m : Nat) | arrN (z : Nat) (e : TypeId) (k : IntKind) | arrS (z : Nat) (e : TypeId) (z' : Nat) | frozN (k : IntKind) | frozS (z : Nat) | dead
def Po.Ty : Po → Type
  | .cells p => p.Ty
  | .ints _ _ => List Int
  | .flags _ => List Bool
  | .arrN _ _ _ => List Int
  | .arrS _ _ _ => List PD
  | .frozN _ => List Int
  | .frozS _ => List PD
  | .dead => Unit
def Po.emb : (p : Po) → p.Ty → Ob
  | .cells p, x => .cells (p.emb x)
  | .ints k m, xs => .ints k m xs
  | .flags m, xs => .flags m xs
  | .arrN z e k, xs => .arr z e (.nums k xs)
  | .arrS z e z', xs => .arr z e (.sl z' xs)
  | .frozN k, xs => .froz (.nums k xs)
  | .frozS z, xs => .froz (.sl z xs)
  | .dead, _ => .dead
def rdCells {A : Type} (f : List D → Option A) : Ob → Option A
  | .cells ds => f ds
  | _ => none
def rdInts (k : IntKind) (m : Nat) : Ob → Option (List Int)
  | .ints k' m' xs => if k' = k ∧ m' = m then some xs else none
  | _ => none
def rdFlags (m : Nat) : Ob → Option (List Bool)
  | .flags m' xs => if m' = m then some xs else none
  | _ => none
def PD.numsK (k : IntKind) : PD → Option (List Int)
  | .nums k' xs => if k' = k then some xs else none
  | _ => none
def PD.slZ (z : Nat) : PD → Option (List PD)
  | .sl z' xs => if z' = z then some xs else none
  | _ => none
theorem PD.numsK_eq {k : IntKind} {x : PD} {xs : List Int} (h : x.numsK k = some xs) : x = .nums k xs := by
  unfold PD.numsK at h
  split at h
  · split at h
    · rename_i e
      cases h
      rw [e]
    · cases h
  · cases h
theorem PD.slZ_eq {z : Nat} {x : PD} {xs : List PD} (h : x.slZ z = some xs) : x = .sl z xs := by
  unfold PD.slZ at h
  split at h
  · split at h
    · rename_i e
      cases h
      rw [e]
    · cases h
  · cases h
def rdArr {A : Type} (z : Nat) (e : TypeId) (f : PD → Option A) : Ob → Option A
  | .arr z' e' x => if z' = z ∧ e' = e then f x else none
  | _ => none
def rdFroz {A : Type} (f : PD → Option A) : Ob → Option A
  | .froz x => f x
  | _ => none
def rdDead : Ob → Option Unit
  | .dead => some ()
  | _ => none
def Po.rd : (p : Po) → Ob → Option p.Ty
  | .cells p, ob => rdCells p.rdL ob
  | .ints k m, ob => rdInts k m ob
  | .flags m, ob => rdFlags m ob
  | .arrN z e k, ob => rdArr z e (PD.numsK k) ob
  | .arrS z e y, ob => rdArr z e (PD.slZ y) ob
  | .frozN k, ob => rdFroz (PD.nums? k) ob
  | .frozS z, ob => rdFroz (PD.sl? z) ob
  | .dead, ob => rdDead ob
theorem rdArr_some {A : Type} {z : Nat} {e : TypeId} {f : PD → Option A} {ob : Ob} {a : A} (h : rdArr z e f ob = some a) : ∃ x, ob = .arr z e x ∧ f x = some a := by
  unfold rdArr at h
  split at h
  · split at h
    · rename_i h1
      obtain ⟨rfl, rfl⟩ := h1
      exact ⟨_, rfl, h⟩
    · cases h
  · cases h
theorem rdFroz_some {A : Type} {f : PD → Option A} {ob : Ob} {a : A} (h : rdFroz f ob = some a) : ∃ x, ob = .froz x ∧ f x = some a := by
  unfold rdFroz at h
  split at h
  · exact ⟨_, rfl, h⟩
  · cases h
theorem Po.rd_ok (p : Po) {ob : Ob} {x : p.Ty} (h : p.rd ob = some x) : ObW ob (p.emb x) := by
  cases p with
  | cells p =>
    change rdCells p.rdL ob = some x at h
    unfold rdCells at h
    split at h
    · refine ⟨rfl, rfl, fun N γ Fz w g ho => ?_⟩
      obtain ⟨b, cs, E, h1, h2, h3, h4, h5⟩ := ho
      obtain ⟨h6, h7⟩ := (Pt.rdL_ok (N := N) (γ := γ) (Fz := Fz) (w := w) p h (.arr h3 h5)).arr_get
      exact ⟨b, cs, E, h1, h2, h6, h4, h7⟩
    · cases h
  | ints k m =>
    change rdInts k m ob = some x at h
    unfold rdInts at h
    split at h
    · split at h
      · rename_i h1
        obtain ⟨rfl, rfl⟩ := h1
        cases h
        exact .refl _
      · cases h
    · cases h
  | flags m =>
    change rdFlags m ob = some x at h
    unfold rdFlags at h
    split at h
    · split at h
      · rename_i h1
        subst h1
        cases h
        exact .refl _
      · cases h
    · cases h
  | arrN z e k =>
    obtain ⟨y, rfl, h1⟩ := rdArr_some (f := PD.numsK k) h
    rw [PD.numsK_eq h1]
    exact .refl _
  | arrS z e y =>
    obtain ⟨y, rfl, h1⟩ := rdArr_some (f := PD.slZ y) h
    rw [PD.slZ_eq h1]
    exact .refl _
  | frozN k =>
    obtain ⟨y, rfl, h1⟩ := rdFroz_some (f := PD.nums? k) h
    exact ⟨rfl, rfl, fun N γ Fz w g ho => ⟨ho.1.nums? h1, ho.2⟩⟩
  | frozS z =>
    obtain ⟨y, rfl, h1⟩ := rdFroz_some (f := PD.sl? z) h
    exact ⟨rfl, rfl, fun N γ Fz w g ho => ⟨ho.1.sl? h1, ho.2⟩⟩
  | dead =>
    change rdDead ob = some x at h
    unfold rdDead at h
    split at h
    · exact .refl _
    · cases h
def TyH : List Po → Type
  | [] => Unit
  | p :: ps => match ps with
    | [] => p.Ty
    | _ :: _ => p.Ty × TyH ps
def embH : (ps : List Po) → TyH ps → List Ob
  | [], _ => []
  | [p], x => [p.emb x]
  | p :: q :: ps, x => p.emb x.1 :: embH (q :: ps) x.2
def rdOne {A : Type} (f : Ob → Option A) : List Ob → Option A
  | [ob] => f ob
  | _ => none
def rdMore {A B : Type} (f : Ob → Option A) (g : List Ob → Option B) : List Ob → Option (A × B)
  | ob :: obs => (f ob).bind fun x => (g obs).map fun y => (x, y)
  | _ => none
def rdNone : List Ob → Option Unit
  | [] => some ()
  | _ => none
def rdH : (ps : List Po) → List Ob → Option (TyH ps)
  | [], obs => rdNone obs
  | [p], obs => rdOne p.rd obs
  | p :: q :: ps, obs => rdMore p.rd (rdH (q :: ps)) obs
theorem HpW.nil : HpW [] [] := ⟨rfl, fun o ob' h => by simp at h⟩
theorem HpW.cons {ob ob' : Ob} {hp hp' : List Ob} (h : ObW ob ob') (t : HpW hp hp') : HpW (ob :: hp) (ob' :: hp') := by
  refine ⟨by simp [t.len], fun o ob2 ho => ?_⟩
  cases o with
  | zero =>
    simp only [List.getElem?_cons_zero, Option.some.injEq] at ho
    subst ho
    exact ⟨_, rfl, h⟩
  | succ o =>
    simp only [List.getElem?_cons_succ] at ho ⊢
    exact t.ob o ob2 ho
theorem rdH_ok : ∀ (ps : List Po) {obs : List Ob} {x : TyH ps}, rdH ps obs = some x → HpW obs (embH ps x)
  | [], obs, x, h => by
    change rdNone obs = some x at h
    unfold rdNone at h
    split at h
    · exact .nil
    · cases h
  | [p], obs, x, h => by
    change rdOne p.rd obs = some x at h
    unfold rdOne at h
    split at h
    · exact .cons (Po.rd_ok p h) .nil
    · cases h
  | p :: q :: ps, obs, x, h => by
    change rdMore p.rd (rdH (q :: ps)) obs = some x at h
    unfold rdMore at h
    split at h
    · obtain ⟨y, hy, h⟩ := Option.bind_eq_some_iff.1 h
      obtain ⟨z, hz, rfl⟩ := Option.map_eq_some_iff.1 h
      exact .cons (Po.rd_ok p hy) (rdH_ok (q :: ps) hz)
    · cases h
theorem embH_len : ∀ (ps : List Po) (x : TyH ps), (embH ps x).length = ps.length
  | [], _ => rfl
  | [p], x => rfl
  | p :: q :: ps, x => congrArg (· + 1) (embH_len (q :: ps) x.2)
/-- A value, and what the objects hold, if there are any. -/
def TyW (A : Type) (hp : List Po) : Type := match hp with
  | [] => A
  | h :: hs => A × TyH (h :: hs)
def mkW {A : Type} : (hp : List Po) → A → TyH hp → TyW A hp
  | [], a, _ => a
  | _ :: _, a, b => (a, b)
def fstW {A : Type} : (hp : List Po) → TyW A hp → A
  | [], x => x
  | _ :: _, x => x.1
def sndW {A : Type} : (hp : List Po) → TyW A hp → TyH hp
  | [], _ => ()
  | _ :: _, x => x.2
theorem fst_mkW {A : Type} (hp : List Po) (a : A) (b : TyH hp) : fstW hp (mkW hp a b) = a := by cases hp <;> rfl
theorem snd_mkW {A : Type} (hp : List Po) (a : A) (b : TyH hp) : sndW hp (mkW hp a b) = b := by cases hp <;> rfl
/-! ### States -/
structure SP where
  n : Nat
  ix : List Nat
  p : Pt
  hp : List Po := []
def SP.Ty (p : SP) : Type := TyW p.p.Ty p.hp
def embSt (p : SP) (x : p.Ty) : St := ⟨mkTs (p.ix.zip (p.p.emb (fstW p.hp x))) p.n 0, embH p.hp (sndW p.hp x)⟩
def rdSt (p : SP) (s : St) : Option p.Ty := if s.ts.length = p.n then (p.p.rdL (p.ix.map fun t => s.ts.getD t .junk)).bind fun a => (rdH p.hp s.hp).map fun b => mkW p.hp a b else none
theorem mkTs_get (l : List (Nat × D)) : ∀ (n i t : Nat), (mkTs l n i).length = n ∧ (mkTs l n i).getD t .junk = if t < n then (assoc l (i + t)).getD .junk else .junk
  | 0, i, t => ⟨rfl, by simp [mkTs]⟩
  | n + 1, i, t => by
    refine ⟨by simp [mkTs, (mkTs_get l n (i + 1) 0).1], ?_⟩
    cases t with
    | zero => simp [mkTs]
    | succ t =>
      rw [mkTs, List.getD_cons_succ, (mkTs_get l n (i + 1) t).2, show i + 1 + t = i + (t + 1) by omega]
      by_cases h : t < n
      · rw [if_pos h, if_pos (by omega)]
      · rw [if_neg h, if_neg (by omega)]
theorem zip_ok {N : Nat → Prop} {γ : Nat → Value} {Fz : Nat → Prop} {w : World} (vs : Nat → Value) : ∀ (ix : List Nat) (ds : List D), VL N γ Fz w ds (ix.map vs) → ∀ t, V N γ Fz w ((assoc (ix.zip ds) t).getD .junk) (vs t)
  | [], ds, h, t => by cases h; exact .junk _
  | i :: ix, ds, h, t => by
    cases h with
    | cons h1 h2 =>
      simp only [List.zip_cons_cons, assoc]
      split
      · rename_i e
        subst e
        exact h1
      · exact zip_ok vs ix _ h2 t
theorem VL.map {N : Nat → Prop} {γ : Nat → Value} {Fz : Nat → Prop} {w : World} {f : Nat → D} {vs : Nat → Value} (h : ∀ t, V N γ Fz w (f t) (vs t)) : ∀ ix : List Nat, VL N γ Fz w (ix.map f) (ix.map vs)
  | [] => .nil
  | i :: ix => .cons (h i) (VL.map h ix)
theorem rdSt_ok {w0 : World} {F0 W0 : Nat → Prop} {n0 : Nat} {γ0 : Nat → Value} (p : SP) {s : St} {x : p.Ty} (h : rdSt p s = some x) {a : Act} {w : World} (hs : StE w0 F0 W0 n0 γ0 s a w) : StE w0 F0 W0 n0 γ0 (embSt p x) a w := by
  unfold rdSt at h
  split at h
  · rename_i hl
    obtain ⟨y, hy, h⟩ := Option.bind_eq_some_iff.1 h
    obtain ⟨z, hz, rfl⟩ := Option.map_eq_some_iff.1 h
    obtain ⟨N, γ, Fz, hs⟩ := hs
    unfold embSt
    rw [fst_mkW, snd_mkW]
    refine ⟨N, γ, Fz, (rdH_ok p.hp hz).rel hs.rel, hs.inh, ?_, fun t => ?_, hs.quiet⟩
    · rw [← hs.len, hl]
      exact (mkTs_get _ _ 0 0).1
    · show V N γ Fz w ((mkTs (p.ix.zip (p.p.emb y)) p.n 0).getD t .junk) _
      rw [(mkTs_get _ _ 0 t).2]
      split
      · rw [Nat.zero_add]
        exact zip_ok (fun t => a.tmps.getD t undef) p.ix _ (p.p.rdL_ok hy (VL.map hs.slots p.ix)) t
      · exact .junk _
  · cases h
/-! ### Ways out -/
def Ex.same : Ex → Ex → Bool
  | .norm, .norm => true
  | .ret, .ret => true
  | .exit i, .exit j => i == j
  | _, _ => false
theorem Ex.same_eq {e f : Ex} (h : e.same f = true) : e = f := by
  cases e <;> cases f <;> simp [Ex.same] at h <;> first | rfl | (subst h; rfl)
def Ex.isNorm : Ex → Bool
  | .norm => true
  | _ => false
def TyX : List (Ex × SP) → Type
  | [] => Empty
  | q :: l => match l with
    | [] => q.2.Ty
    | _ :: _ => q.2.Ty ⊕ TyX l
def embX : (l : List (Ex × SP)) → TyX l → Ex × St
  | [], x => nomatch x
  | [q], x => (q.1, embSt q.2 x)
  | q :: r :: l, x => match x with
    | .inl x => (q.1, embSt q.2 x)
    | .inr x => embX (r :: l) x
def rdX : (l : List (Ex × SP)) → Ex → St → Option (TyX l)
  | [], _, _ => none
  | [q], e, s => if e.same q.1 = true then rdSt q.2 s else none
  | q :: r :: l, e, s => match (if e.same q.1 = true then rdSt q.2 s else none) with
    | some x => some (.inl x)
    | none => (rdX (r :: l) e s).map .inr
/-- On from each way out. -/
noncomputable def caseX : (l : List (Ex × SP)) → TyX l → C (Ex × St)
  | [], x => nomatch x
  | [q], x => C.pure (q.1, embSt q.2 x)
  | q :: r :: l, x => fun X k => Sum.rec (motive := fun _ => Option X) (fun x => k (q.1, embSt q.2 x)) (fun y => caseX (r :: l) y X k) x
theorem caseX_eq : ∀ (l : List (Ex × SP)) (x : TyX l) (X : Type) (k : Ex × St → Option X), caseX l x X k = k (embX l x)
  | [], x, X, k => nomatch x
  | [q], x, X, k => rfl
  | q :: r :: l, x, X, k => by
    cases x with
    | inl x => rfl
    | inr x => exact caseX_eq (r :: l) x X k
theorem rdX_ok : ∀ (l : List (Ex × SP)) {e : Ex} {s : St} {x : TyX l}, rdX l e s = some x → (embX l x).1 = e ∧ ∀ (w0 : World) (F0 W0 : Nat → Prop) (n0 : Nat) (γ0 : Nat → Value) (a : Act) (w : World), StE w0 F0 W0 n0 γ0 s a w → StE w0 F0 W0 n0 γ0 (embX l x).2 a w
  | [], e, s, x, h => nomatch x
  | [q], e, s, x, h => by
    change (if e.same q.1 = true then rdSt q.2 s else none) = some x at h
    by_cases he : e.same q.1 = true
    · rw [if_pos he] at h
      exact ⟨(Ex.same_eq he).symm, fun _ _ _ _ _ _ _ hs => rdSt_ok q.2 h hs⟩
    · rw [if_neg he] at h
      cases h
  | q :: r :: l, e, s, x, h => by
    simp only [rdX] at h
    split at h
    · rename_i y hy
      cases h
      split at hy
      · rename_i he
        exact ⟨(Ex.same_eq he).symm, fun _ _ _ _ _ _ _ hs => rdSt_ok q.2 hy hs⟩
      · cases hy
    · obtain ⟨y, hy, rfl⟩ := Option.map_eq_some_iff.1 h
      exact rdX_ok (r :: l) hy
/-! ### ToldC parts -/
section told
variable (P : Program) (call : Cal) (fh : FH) (tl tj : Tc) (n0 : Nat)
noncomputable def stepC (b : Code) (p : SP) (px : List (Ex × SP)) (hi ho : NH) (x : p.Ty) : C (p.Ty ⊕ TyX px) :=
  C.bind (evT P call fh tl tj n0 b (embSt p x)) fun es => match es.1 with
    | .norm => C.bind (C.lift (rdSt p (normz P n0 hi es.2))) fun x' => C.pure (.inl x')
    | e => C.bind (C.lift (rdX px e (normz P n0 ho es.2))) fun r => C.pure (.inr r)
noncomputable def joinC (b : Code) (p : SP) (px : List (Ex × SP)) (ho : NH) (x : p.Ty) : C (TyX px) :=
  C.bind (evT P call fh tl tj n0 b (embSt p x)) fun es => C.lift (rdX px es.1 (normz P n0 ho es.2))
noncomputable def toldL (p : SP) (px : List (Ex × SP)) (g : p.Ty → Option (p.Ty ⊕ TyX px)) (S : St) : C (Ex × St) :=
  C.bind (C.lift (rdSt p S)) fun x => C.bind (C.lift (loopFix g x)) fun r => caseX px r
noncomputable def toldJ (p : SP) (px : List (Ex × SP)) (j : p.Ty → Option (TyX px)) (S : St) : C (Ex × St) :=
  C.bind (C.lift (rdSt p S)) fun x => C.bind (C.lift (j x)) fun r => caseX px r
theorem embX_norm : ∀ (l : List (Ex × SP)), l.all (fun q => !q.1.isNorm) = true → ∀ r : TyX l, (embX l r).1 ≠ .norm
  | [], _, r => nomatch r
  | [q], h, r => by
    simp only [List.all_cons, List.all_nil, Bool.and_true] at h
    show q.1 ≠ .norm
    intro e
    rw [e] at h
    cases h
  | q :: s :: l, h, r => by
    rw [List.all_cons, Bool.and_eq_true] at h
    cases r with
    | inl x =>
      show q.1 ≠ .norm
      intro e
      rw [e] at h
      exact absurd h.1 (by decide)
    | inr x => exact embX_norm (s :: l) h.2 x
theorem caseX_sure (l : List (Ex × SP)) (x : TyX l) : Sure (caseX l x) fun r => r = embX l x := fun X k r h => by
  rw [caseX_eq] at h
  exact ⟨_, h, rfl⟩
variable {P call tl tj}
theorem Sure.get {A : Type} {m : C A} {Q : A → Prop} (h : Sure m Q) {a : A} (ha : m A some = some a) : Q a := by
  obtain ⟨b, hb, hq⟩ := h A some a ha
  cases hb
  exact hq
theorem CdOK.post {c : Code} {s : St} {e : Ex} {s' s'' : St} (h : CdOK P n0 c s (e, s')) (hw : ∀ (w0 : World) (F0 W0 : Nat → Prop) (γ0 : Nat → Value) (a : Act) (w : World), StE w0 F0 W0 n0 γ0 s' a w → StE w0 F0 W0 n0 γ0 s'' a w) : CdOK P n0 c s (e, s'') :=
  fun w0 F0 W0 γ0 Q a w hs hQ => h w0 F0 W0 γ0 Q a w hs fun a' w' hs' => hQ a' w' (hw _ _ _ _ _ _ hs')
theorem CdOK.pre {c : Code} {s s0 : St} {r : Ex × St} (h : CdOK P n0 c s r) (hw : ∀ (w0 : World) (F0 W0 : Nat → Prop) (γ0 : Nat → Value) (a : Act) (w : World), StE w0 F0 W0 n0 γ0 s0 a w → StE w0 F0 W0 n0 γ0 s a w) : CdOK P n0 c s0 r :=
  fun w0 F0 W0 γ0 Q a w hs hQ => h w0 F0 W0 γ0 Q a w (hw _ _ _ _ _ _ hs) hQ
variable (hcall : CalOK P call)
include hcall
theorem stepC_ok (b : Code) (h1 : TlOK P tl n0 b) (h2 : TjOK P tj n0 b) (p : SP) (px : List (Ex × SP)) (hi ho : NH) (x : p.Ty) (y : p.Ty ⊕ TyX px) (h : stepC P call fh tl tj n0 b p px hi ho x (p.Ty ⊕ TyX px) some = some y) :
    match y with
      | .inl x' => CdOK P n0 b (embSt p x) (.norm, embSt p x')
      | .inr r => CdOK P n0 b (embSt p x) (embX px r) := by
  unfold stepC at h
  change evT P call fh tl tj n0 b (embSt p x) _ (fun es => (match es.1 with
    | .norm => C.bind (C.lift (rdSt p (normz P n0 hi es.2))) fun x' => C.pure (.inl x')
    | e => C.bind (C.lift (rdX px e (normz P n0 ho es.2))) fun r => C.pure (.inr r) : C (p.Ty ⊕ TyX px)) (p.Ty ⊕ TyX px) some) = some y at h
  have out : ∀ (e : Ex) (s : St) (w0 : World) (F0 W0 : Nat → Prop) (γ0 : Nat → Value) (Q : Exit → Act → World → Prop), e ≠ .norm → (C.bind (C.lift (rdX px e (normz P n0 ho s))) fun r => C.pure (.inr r : p.Ty ⊕ TyX px)) (p.Ty ⊕ TyX px) some = some y → ∃ r, y = .inr r ∧ (embX px r).1 = e ∧ ∀ a w, StE w0 F0 W0 n0 γ0 s a w → StE w0 F0 W0 n0 γ0 (embX px r).2 a w := fun e s w0 F0 W0 γ0 Q hne hh => by
    obtain ⟨r, hr, he⟩ := Option.bind_eq_some_iff.1 hh
    cases he
    obtain ⟨h3, h4⟩ := rdX_ok px hr
    exact ⟨r, rfl, h3, fun a w hs => h4 _ _ _ _ _ _ _ (normz_ok P ho hs)⟩
  cases y with
  | inl x' =>
    intro w0 F0 W0 γ0 Q a w hs hQ
    refine evT_wp fh n0 hcall b h1 h2 _ _ Q (fun e s a w hk hs => ?_) _ a w h hs
    cases e with
    | norm =>
      obtain ⟨x2, hx2, he⟩ := Option.bind_eq_some_iff.1 hk
      cases he
      exact hQ a w (rdSt_ok p hx2 (normz_ok P hi hs))
    | exit id => obtain ⟨r, hr, _⟩ := out (.exit id) s w0 F0 W0 γ0 Q (by simp) hk; cases hr
    | ret => obtain ⟨r, hr, _⟩ := out .ret s w0 F0 W0 γ0 Q (by simp) hk; cases hr
  | inr r =>
    intro w0 F0 W0 γ0 Q a w hs hQ
    · refine evT_wp fh n0 hcall b h1 h2 _ _ Q (fun e s a w hk hs => ?_) _ a w h hs
      cases e with
      | norm =>
        obtain ⟨x2, hx2, he⟩ := Option.bind_eq_some_iff.1 hk
        cases he
      | exit id =>
        obtain ⟨r', hr, h3, h4⟩ := out (.exit id) s w0 F0 W0 γ0 Q (by simp) hk
        cases hr
        have := hQ a w (h4 a w hs)
        rw [h3] at this
        exact this
      | ret =>
        obtain ⟨r', hr, h3, h4⟩ := out .ret s w0 F0 W0 γ0 Q (by simp) hk
        cases hr
        have := hQ a w (h4 a w hs)
        rw [h3] at this
        exact this
theorem toldL_ok (b : Code) (h1 : TlOK P tl n0 b) (h2 : TjOK P tj n0 b) (p : SP) (px : List (Ex × SP)) (hx : px.all (fun q => !q.1.isNorm) = true) (hi ho : NH) (g : p.Ty → Option (p.Ty ⊕ TyX px)) (hg : ∀ x, stepC P call fh tl tj n0 b p px hi ho x (p.Ty ⊕ TyX px) some = g x) (S : St) : Sure (toldL p px g S) (CdOK P n0 (.loop b) S) := by
  unfold toldL
  refine .bindL fun x hx' => .bindL fun r hr => (caseX_sure px r).mono fun q hq => ?_
  subst hq
  refine (loop_cd n0 (step := g) (emb := embSt p) (embX := embX px) (fun x x' h => ?_) (fun x r h => ?_) x r hr).pre n0 fun _ _ _ _ _ _ hs => rdSt_ok p hx' hs
  · rw [← hg] at h
    exact stepC_ok fh n0 hcall b h1 h2 p px hi ho x _ h
  · rw [← hg] at h
    exact ⟨stepC_ok fh n0 hcall b h1 h2 p px hi ho x _ h, embX_norm px hx r⟩
theorem toldJ_ok (b : Code) (h1 : TlOK P tl n0 b) (h2 : TjOK P tj n0 b) (p : SP) (px : List (Ex × SP)) (ho : NH) (j : p.Ty → Option (TyX px)) (hg : ∀ x, joinC P call fh tl tj n0 b p px ho x (TyX px) some = j x) (S : St) : Sure (toldJ p px j S) (CdOK P n0 b S) := by
  unfold toldJ
  refine .bindL fun x hx => .bindL fun r hr => (caseX_sure px r).mono fun q hq => ?_
  subst hq
  rw [← hg] at hr
  unfold joinC at hr
  change evT P call fh tl tj n0 b (embSt p x) _ (fun es => (C.lift (rdX px es.1 (normz P n0 ho es.2))) (TyX px) some) = some r at hr
  have key : CdOK P n0 b (embSt p x) (embX px r) := fun w0 F0 W0 γ0 Q a w hs hQ => by
    refine evT_wp fh n0 hcall b h1 h2 _ _ Q (fun e s a w hk hs => ?_) _ a w hr hs
    obtain ⟨r', hr', he⟩ := Option.bind_eq_some_iff.1 hk
    cases he
    obtain ⟨h3, h4⟩ := rdX_ok px hr'
    have := hQ a w (h4 _ _ _ _ _ _ _ (normz_ok P ho hs))
    rw [h3] at this
    exact this
  exact key.pre n0 fun _ _ _ _ _ _ hs => rdSt_ok p hx hs
omit hcall
theorem sub_loops (id : Nat) : ∀ (c b : Code), b ∈ loopsAt id c → (∀ j x, x ∈ loopsAt j b → x ∈ loopsAt j c) ∧ ∀ j x, x ∈ joinsAt j b → x ∈ joinsAt j c
  | .seq x y, b, h => by
    rcases List.mem_append.1 h with h | h
    · have := sub_loops id x b h
      exact ⟨fun j z hz => List.mem_append.2 (.inl (this.1 j z hz)), fun j z hz => List.mem_append.2 (.inr (List.mem_append.2 (.inl (this.2 j z hz))))⟩
    · have := sub_loops id y b h
      exact ⟨fun j z hz => List.mem_append.2 (.inr (this.1 j z hz)), fun j z hz => List.mem_append.2 (.inr (List.mem_append.2 (.inr (this.2 j z hz))))⟩
  | .cond _ x y, b, h => by
    rcases List.mem_append.1 h with h | h
    · have := sub_loops id x b h
      exact ⟨fun j z hz => List.mem_append.2 (.inl (this.1 j z hz)), fun j z hz => List.mem_append.2 (.inr (List.mem_append.2 (.inl (this.2 j z hz))))⟩
    · have := sub_loops id y b h
      exact ⟨fun j z hz => List.mem_append.2 (.inr (this.1 j z hz)), fun j z hz => List.mem_append.2 (.inr (List.mem_append.2 (.inr (this.2 j z hz))))⟩
  | .block _ x, b, h => sub_loops id x b h
  | .scope x, b, h => sub_loops id x b h
  | .loop x, b, h => by
    rcases List.mem_append.1 h with h | h
    · split at h
      · simp only [List.mem_cons, List.not_mem_nil, or_false] at h
        subst h
        exact ⟨fun j z hz => List.mem_append.2 (.inr hz), fun j z hz => hz⟩
      · simp at h
    · have := sub_loops id x b h
      exact ⟨fun j z hz => List.mem_append.2 (.inr (this.1 j z hz)), this.2⟩
  | .skip, b, h | .label _, b, h | .region _ _ _, b, h | .exit _, b, h | .ret, b, h | .goto _, b, h | .refuse _, b, h | .rangeFunc _ _ _ _, b, h => by simp [loopsAt] at h
theorem sub_joins (id : Nat) : ∀ (c b : Code), b ∈ joinsAt id c → (∀ j x, x ∈ loopsAt j b → x ∈ loopsAt j c) ∧ ∀ j x, x ∈ joinsAt j b → x ∈ joinsAt j c
  | .seq x y, b, h => by
    rcases List.mem_append.1 h with h | h
    · split at h
      · simp only [List.mem_cons, List.not_mem_nil, or_false] at h
        subst h
        exact ⟨fun j z hz => List.mem_append.2 (.inr hz), fun j z hz => List.mem_append.2 (.inr (List.mem_append.2 (.inr hz)))⟩
      · simp at h
    rcases List.mem_append.1 h with h | h
    · have := sub_joins id x b h
      exact ⟨fun j z hz => List.mem_append.2 (.inl (this.1 j z hz)), fun j z hz => List.mem_append.2 (.inr (List.mem_append.2 (.inl (this.2 j z hz))))⟩
    · have := sub_joins id y b h
      exact ⟨fun j z hz => List.mem_append.2 (.inr (this.1 j z hz)), fun j z hz => List.mem_append.2 (.inr (List.mem_append.2 (.inr (this.2 j z hz))))⟩
  | .cond _ x y, b, h => by
    rcases List.mem_append.1 h with h | h
    · rcases List.mem_append.1 h with h | h
      · split at h
        · simp only [List.mem_cons, List.not_mem_nil, or_false] at h
          subst h
          exact ⟨fun j z hz => List.mem_append.2 (.inl hz), fun j z hz => List.mem_append.2 (.inr (List.mem_append.2 (.inl hz)))⟩
        · simp at h
      · split at h
        · simp only [List.mem_cons, List.not_mem_nil, or_false] at h
          subst h
          exact ⟨fun j z hz => List.mem_append.2 (.inr hz), fun j z hz => List.mem_append.2 (.inr (List.mem_append.2 (.inr hz)))⟩
        · simp at h
    rcases List.mem_append.1 h with h | h
    · have := sub_joins id x b h
      exact ⟨fun j z hz => List.mem_append.2 (.inl (this.1 j z hz)), fun j z hz => List.mem_append.2 (.inr (List.mem_append.2 (.inl (this.2 j z hz))))⟩
    · have := sub_joins id y b h
      exact ⟨fun j z hz => List.mem_append.2 (.inr (this.1 j z hz)), fun j z hz => List.mem_append.2 (.inr (List.mem_append.2 (.inr (this.2 j z hz))))⟩
  | .block _ x, b, h => sub_joins id x b h
  | .scope x, b, h => sub_joins id x b h
  | .loop x, b, h => by
    have := sub_joins id x b h
    exact ⟨fun j z hz => List.mem_append.2 (.inr (this.1 j z hz)), this.2⟩
  | .skip, b, h | .label _, b, h | .region _ _ _, b, h | .exit _, b, h | .ret, b, h | .goto _, b, h | .refuse _, b, h | .rangeFunc _ _ _ _, b, h => by simp [joinsAt] at h
/-- Tables of told parts that are right for code c. -/
structure ToldC (P : Program) (n0 : Nat) (c : Code) (tl tj : Tc) : Prop where
  okl : TlOK P tl n0 c
  okj : TjOK P tj n0 c
theorem ToldC.nil {c : Code} : ToldC P n0 c [] [] := ⟨.nil n0, .nil n0⟩
theorem ToldC.loop {c : Code} (h : ToldC P n0 c tl tj) (hc : CalOK P call ∧ CalNt call) (id : Nat) (b : Code) (hb : loopsAt id c = [b]) {p : SP} {px : List (Ex × SP)} {hi ho : NH} {g : p.Ty → Option (p.Ty ⊕ TyX px)} (hx : px.all (fun q => !q.1.isNorm) = true)
    (hg : ∀ x, stepC P call fh tl tj n0 b p px hi ho x (p.Ty ⊕ TyX px) some = g x) : ToldC P n0 c ((id, toldL p px g) :: tl) tj := by
  have hm : b ∈ loopsAt id c := by rw [hb]; simp
  obtain ⟨s1, s2⟩ := sub_loops id c b hm
  exact ⟨.cons n0 hb (toldL_ok fh n0 hc.1 b (fun j t ht x hx => h.okl j t ht x (s1 j x hx)) (fun j t ht x hx => h.okj j t ht x (s2 j x hx)) p px hx hi ho g hg) h.okl, h.okj⟩
theorem ToldC.join {c : Code} (h : ToldC P n0 c tl tj) (hc : CalOK P call ∧ CalNt call) (id : Nat) (b : Code) (hb : joinsAt id c = [b]) {p : SP} {px : List (Ex × SP)} {ho : NH} {g : p.Ty → Option (TyX px)}
    (hg : ∀ x, joinC P call fh tl tj n0 b p px ho x (TyX px) some = g x) : ToldC P n0 c tl ((id, toldJ p px g) :: tj) := by
  have hm : b ∈ joinsAt id c := by rw [hb]; simp
  obtain ⟨s1, s2⟩ := sub_joins id c b hm
  exact ⟨h.okl, .cons n0 hb (toldJ_ok fh n0 hc.1 b (fun j t ht x hx => h.okl j t ht x (s1 j x hx)) (fun j t ht x hx => h.okj j t ht x (s2 j x hx)) p px ho g hg) h.okj⟩
end told
/-! ### Functions -/
def TyA (p : Pt) (hp : List Po) : Type := TyW p.Ty hp
def embA (p : Pt) (hp : List Po) (x : TyA p hp) : List D × List Ob := (p.emb (fstW hp x), embH hp (sndW hp x))
def rdA (p : Pt) (hp : List Po) (ds : List D) (obs : List Ob) : Option (TyA p hp) := (p.rdL ds).bind fun x => (rdH hp obs).map fun y => mkW hp x y
def TyR (p : Pt) (hp : List Po) : Type := TyW p.Ty hp
def embR (p : Pt) (hp : List Po) (x : TyR p hp) : D × List Ob := (p.emb1 (fstW hp x), embH hp (sndW hp x))
def rdR (p : Pt) (hp : List Po) (d : D) (obs : List Ob) : Option (TyR p hp) := (p.rd1 d).bind fun x => (rdH hp obs).map fun y => mkW hp x y
theorem embA_len (p : Pt) (hp : List Po) (x : TyA p hp) : (embA p hp x).2.length = hp.length := embH_len _ _
theorem rdA_ok (p : Pt) (hp : List Po) {ds : List D} {obs : List Ob} {x : TyA p hp} (h : rdA p hp ds obs = some x) : HpW obs (embA p hp x).2 ∧
    ∀ N γ Fz w (vs : List Value), VL N γ Fz w ds vs → VL N γ Fz w (embA p hp x).1 vs := by
  unfold rdA at h
  obtain ⟨y, hy, h⟩ := Option.bind_eq_some_iff.1 h
  obtain ⟨z, hz, rfl⟩ := Option.map_eq_some_iff.1 h
  unfold embA
  rw [fst_mkW, snd_mkW]
  exact ⟨rdH_ok _ hz, fun N γ Fz w vs hv => p.rdL_ok hy hv⟩
theorem rdR_ok (p : Pt) (hp : List Po) {d : D} {obs : List Ob} {x : TyR p hp} (h : rdR p hp d obs = some x) : HpW obs (embR p hp x).2 ∧ ∀ N γ Fz w v, V N γ Fz w d v → V N γ Fz w (embR p hp x).1 v := by
  unfold rdR at h
  obtain ⟨y, hy, h⟩ := Option.bind_eq_some_iff.1 h
  obtain ⟨z, hz, rfl⟩ := Option.map_eq_some_iff.1 h
  unfold embR
  rw [fst_mkW, snd_mkW]
  exact ⟨rdH_ok _ hz, fun N γ Fz w v hv => p.rd1_ok hy hv⟩
theorem FnOK.res {P : Program} {g : FuncId} {args : List D} {hp hp1 hp2 : List Ob} {d d' : D} (h : FnOK P g args hp (d, hp1)) (hw : HpW hp1 hp2) (hd : ∀ N γ Fz w v, V N γ Fz w d v → V N γ Fz w d' v) : FnOK P g args hp (d', hp2) :=
  fun w F0 γ0 vs hl hr hv => (h w F0 γ0 vs hl hr hv).mono fun v w' ⟨N', γ', F', h1, h2, h3, h4⟩ => ⟨N', γ', F', hw.rel h1, h2, fun o ho => by rw [hw.len]; exact h3 o ho, hd _ _ _ _ _ h4⟩
theorem FnOK.arg {P : Program} {g : FuncId} {args args' : List D} {hp hp' : List Ob} {r : D × List Ob} (h : FnOK P g args' hp' r) (hw : HpW hp hp')
    (hv : ∀ N γ Fz w (vs : List Value), VL N γ Fz w args vs → VL N γ Fz w args' vs) : FnOK P g args hp r := fun w F0 γ0 vs hvl hrel ha => by
  have e := hw.ownBlks γ0
  have hrel' := hw.rel hrel
  rw [← e] at hrel'
  have h1 := hv _ _ _ _ vs (VL.of_get hvl ha)
  have := h w F0 γ0 vs h1.len (by rw [hw.len]; exact hrel') (by rw [hw.len]; exact h1.get)
  rw [e, hw.len] at this
  exact this
section fn
variable (P : Program) (call : Cal) (fh : FH) (tl tj : Tc)
noncomputable def bodyC (nh : NH) (g : FuncId) (ps : Pt) (hp : List Po) (pr : Pt) (hr : List Po) (x : TyA ps hp) : C (TyR pr hr) :=
  C.bind (evTBody P call fh tl tj nh g (embA ps hp x).1 (embA ps hp x).2) fun r => C.lift (rdR pr hr r.1 r.2)
/-- An entry by patterns. -/
def ent (ps : Pt) (hp : List Po) (pr : Pt) (hr : List Po) (f : TyA ps hp → Option (TyR pr hr)) : Ent := fun args obs =>
  C.bind (C.lift (rdA ps hp args obs)) fun x => C.bind (C.lift (f x)) fun y => C.pure (embR pr hr y)
variable {P call tl tj}
theorem ent_nt (ps : Pt) (hp : List Po) (pr : Pt) (hr : List Po) (f : TyA ps hp → Option (TyR pr hr)) (args : List D) (obs : List Ob) : Nt (ent ps hp pr hr f args obs) := .bind (.lift _) fun _ => .bind (.lift _) fun _ => .pure _
theorem ent_of {g : FuncId} {ps : Pt} {hp : List Po} {pr : Pt} {hr : List Po} {f : TyA ps hp → Option (TyR pr hr)} (h : ∀ x y, f x = some y → FnOK P g (embA ps hp x).1 (embA ps hp x).2 (embR pr hr y)) : EntOK P g (ent ps hp pr hr f) := by
  refine ⟨fun args obs => .bindL fun x hx => .bindL fun y hy => .pure ?_, ent_nt ps hp pr hr f⟩
  obtain ⟨h1, h2⟩ := rdA_ok ps hp hx
  exact (h x y hy).arg h1 h2
theorem ent_ok (hcall : CalOK P call ∧ CalNt call) {nh : NH} {g : FuncId} {ps : Pt} {hp : List Po} {pr : Pt} {hr : List Po} {fn : Func} (hf : P.funcs[g]? = some fn) (ht : ToldC P hp.length (codeOf fn) tl tj) {f : TyA ps hp → Option (TyR pr hr)}
    (h : ∀ x, bodyC P call fh tl tj nh g ps hp pr hr x (TyR pr hr) some = f x) : EntOK P g (ent ps hp pr hr f) := by
  refine ent_of fun x y hy => ?_
  rw [← h x] at hy
  unfold bodyC at hy
  rw [run_bind] at hy
  refine evTBody_ok fh hcall.1 nh g _ _ fn hf ?_ ?_ _ y _ _ (fun r hk => ?_) hy
  · rw [embA_len]; exact ht.okl
  · rw [embA_len]; exact ht.okj
  · rw [run_lift] at hk
    obtain ⟨z, h5, h6⟩ := Option.bind_eq_some_iff.1 hk
    cases h6
    exact rdR_ok pr hr h5
end fn
/-- One entry, else another one. -/
def altE (ps : Pt) (hp : List Po) (pr : Pt) (hr : List Po) (f : TyA ps hp → Option (TyR pr hr)) (e : Ent) : Ent := fun args obs =>
  match rdA ps hp args obs with
  | some x => C.bind (C.lift (f x)) fun y => C.pure (embR pr hr y)
  | none => e args obs
theorem altE_ok {P : Program} {g : FuncId} {ps : Pt} {hp : List Po} {pr : Pt} {hr : List Po} {f : TyA ps hp → Option (TyR pr hr)} {e : Ent} (h : EntOK P g (ent ps hp pr hr f)) (he : EntOK P g e) : EntOK P g (altE ps hp pr hr f e) := by
  constructor
  · intro args obs
    unfold altE
    split
    · rename_i x hx
      have := h.1 args obs
      unfold ent at this
      rw [hx] at this
      exact this
    · exact he.1 args obs
  · intro args obs
    unfold altE
    split
    · exact .bind (.lift _) fun _ => .pure _
    · exact he.2 args obs
end Go.Ev
