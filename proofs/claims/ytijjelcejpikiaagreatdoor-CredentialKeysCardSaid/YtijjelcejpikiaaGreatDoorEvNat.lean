/-
A computation is what it hands on: whatever comes next, it is asked with what the computation alone would hand back.
-/
import Derived.Test.YtijjelcejpikiaaGreatDoorEvLoop
set_option linter.unusedVariables false
set_option linter.unusedSimpArgs false
namespace Go.Ev
variable [Globs]
set_option linter.unusedSectionVars false
def Nt {A : Type} (m : C A) : Prop := ∀ (X : Type) (k : A → Option X), m X k = (m A some).bind k
namespace Nt
variable {A B : Type}
theorem pure (a : A) : Nt (C.pure a) := fun _ _ => rfl
theorem fail : Nt (C.fail : C A) := fun _ _ => rfl
theorem lift (o : Option A) : Nt (C.lift o) := fun X k => by
  cases o <;> rfl
theorem bind {m : C A} {f : A → C B} (hm : Nt m) (hf : ∀ a, Nt (f a)) : Nt (C.bind m f) := fun X k => by
  show m X (fun a => f a X k) = (m B (fun a => f a B some)).bind k
  rw [hm X, hm B, Option.bind_assoc]
  congr 1
  funext a
  exact hf a X k
theorem need {b : Bool} {m : C A} (h : Nt m) : Nt (C.need b m) := fun X k => by
  cases b
  · rfl
  · exact h X k
theorem split {b : Bool} {f : Bool → C A} (h : ∀ t, Nt (f t)) : Nt (C.split b f) := fun X k => by
  cases b
  · exact h false X k
  · exact h true X k
theorem cond {b : Bool} {m n : C A} (h : Nt m) (h' : Nt n) : Nt (cond b m n) := by
  cases b
  · exact h'
  · exact h
end Nt
theorem pullAt_nt (t : CT) (x : PD) (j : Nat) : Nt (pullAt t x j) := by
  cases t <;> unfold pullAt <;> first | exact .lift _ | exact .bind (.lift _) fun _ => .pure _
theorem pullsAt_nt : ∀ (ts : List CT) (x : PD) (j : Nat), Nt (pullsAt ts x j)
  | [], _, _ => .pure _
  | t :: ts, x, j => .bind (pullAt_nt t x j) fun _ => .bind (pullsAt_nt ts x (j + 1)) fun _ => .pure _
section look
variable (look : Nat → Option Ob)
theorem content_nt (d : D) : Nt (content look d) := by
  unfold content
  repeat' first | refine .need ?_ | exact .pure _ | exact .fail | exact .lift _ | refine .bind (.lift _) fun _ => ?_ | split
theorem give1_nt (d : D) : Nt (give1 look d) := by
  unfold give1
  repeat' first | refine .need ?_ | exact .pure _ | exact .fail | exact .lift _ | refine .bind (.lift _) fun _ => ?_ | split
theorem gives_nt : ∀ ds : List D, Nt (gives look ds)
  | [] => .pure _
  | d :: ds => .bind (give1_nt look d) fun _ => .bind (gives_nt ds) fun _ => by
      repeat' first | exact .pure _ | exact .fail | split
theorem give_nt (d : D) : Nt (give look d) := by
  unfold give
  split
  · exact .bind (gives_nt look _) fun _ => .pure _
  · exact give1_nt look _
end look
theorem boolD_nt (d : D) : Nt (boolD d) := by
  unfold boolD
  repeat' first | exact .lift _ | exact .fail | split
theorem intD_nt (d : D) : Nt (intD d) := by
  unfold intD
  repeat' first | exact .lift _ | exact .fail | split
section ops
variable (P : Program) (h : Hint) (ev : Operand → D) (look : Nat → Option Ob) (fr : Nat)
theorem sub_nt (x : PD) (off : Nat) (t : TypeId) : Nt (sub P x off t) := by
  unfold sub
  repeat' first | exact .pure _ | exact .fail | exact pullAt_nt _ _ _ | refine .bind (pullsAt_nt _ _ _) fun _ => ?_ | refine .bind (.lift _) fun _ => ?_ | split
theorem rowOf_nt (e : TypeId) (x : PD) : Nt (rowOf P e x) := by
  unfold rowOf
  repeat' first | exact .pure _ | exact .fail | refine .bind (.lift _) fun _ => ?_ | split
theorem elemAt_nt (x : PD) (i : Int) : Nt (elemAt x i) := by
  unfold elemAt
  repeat' first | exact .pure _ | exact .fail | refine .bind (.lift _) fun _ => ?_ | split
theorem optI_nt (dflt : Int) (o : Option Operand) : Nt (optI ev dflt o) := by
  cases o
  · exact .pure _
  · unfold optI
    exact .bind (intD_nt _) fun _ => .pure _
theorem loadOb_nt (t : TypeId) (off : Nat) (ob : Ob) : Nt (loadOb P t off ob) := by
  unfold loadOb
  repeat' first | exact .pure _ | exact .fail | exact .lift _ | refine .bind (.lift _) fun _ => ?_ | split | dsimp only
theorem loadEl_nt (t : TypeId) (i off : Nat) (x : PD) : Nt (loadEl P t i off x) := by
  unfold loadEl
  repeat' first | exact .pure _ | exact .fail | refine .bind (sub_nt P _ _ _) fun _ => ?_ | refine .bind (.lift _) fun _ => ?_ | split
theorem opLoad_nt (t : TypeId) (a : D) : Nt (opLoad P look t a) := by
  unfold opLoad
  repeat' first | exact .pure _ | exact .fail | exact loadOb_nt P _ _ _ | exact loadEl_nt P _ _ _ _ | refine .bind (sub_nt P _ _ _) fun _ => ?_ | refine .bind (.lift _) fun _ => ?_ | split
theorem setEl_nt (e t : TypeId) (i off : Nat) (y x : PD) : Nt (setEl P e t i off y x) := by
  unfold setEl
  split
  · split
    · exact .bind (.lift _) fun _ => .need (.pure _)
    · exact .fail
  · split
    · split
      · exact .bind (sub_nt P _ _ _) fun _ => .need (.pure _)
      · split
        · refine .bind (.lift _) fun _ => .bind (pullsAt_nt _ _ _) fun _ => .bind ?_ fun _ => .pure _
          split
          · split
            · exact pullsAt_nt _ _ _
            · exact .fail
          · refine .bind (pullAt_nt _ _ _) fun _ => ?_
            split
            · exact .pure _
            · exact .fail
        · exact .fail
    · exact .fail
  · exact .fail
theorem opStore_nt (t : TypeId) (a v : D) : Nt (opStore P look t a v) := by
  unfold opStore
  repeat' first | exact .pure _ | exact .fail | refine .need ?_ | refine .bind (give_nt look _) fun _ => ?_ | refine .bind (setEl_nt P _ _ _ _ _ _) fun _ => ?_ | refine .bind (.lift _) fun _ => ?_ | split
theorem opIndexAddr_nt (T : TypeId) (x : D) (i : Int) : Nt (opIndexAddr P look T x i) := by
  unfold opIndexAddr
  repeat' first | exact .pure _ | exact .fail | exact elemAt_nt _ _ | refine .need ?_ | refine .bind (rowOf_nt P _ _) fun _ => ?_ | refine .bind (.lift _) fun _ => ?_ | split
theorem opIndex_nt (T : TypeId) (x : D) (i : Int) : Nt (opIndex P T x i) := by
  unfold opIndex
  repeat' first | exact .pure _ | exact .fail | refine .need ?_ | refine .bind (sub_nt P _ _ _) fun _ => ?_ | refine .bind (.lift _) fun _ => ?_ | split
theorem cutPd_nt (e : TypeId) (y : PD) (lo hi mx : Option Operand) : Nt (cutPd P ev e y lo hi mx) := by
  unfold cutPd
  repeat' first | exact .pure _ | exact .fail | refine .need ?_ | refine .bind (rowOf_nt P _ _) fun _ => ?_ | refine .bind (optI_nt ev _ _) fun _ => ?_ | refine .bind (.lift _) fun _ => ?_ | split
theorem cutRef_nt (e : TypeId) (o z : Nat) (e' : TypeId) (y : PD) (lo hi mx : Option Operand) : Nt (cutRef P h ev fr e o z e' y lo hi mx) := by
  unfold cutRef
  repeat' first | exact .pure _ | exact .fail | refine .need ?_ | refine .bind (optI_nt ev _ _) fun _ => ?_ | refine .bind (.lift _) fun _ => ?_ | split
theorem opSlice_nt (T : TypeId) (x : D) (lo hi mx : Option Operand) : Nt (opSlice P h ev look fr T x lo hi mx) := by
  unfold opSlice
  repeat' first | exact .pure _ | exact .fail | exact cutPd_nt P ev _ _ _ _ _ | exact cutRef_nt P h ev fr _ _ _ _ _ _ _ _ | refine .need ?_ | refine .bind (optI_nt ev _ _) fun _ => ?_ | refine .bind (.lift _) fun _ => ?_ | split
theorem opMakeSlice_nt (T : TypeId) (len cap : Int) : Nt (opMakeSlice P fr T len cap) := by
  unfold opMakeSlice
  repeat' first | exact .pure _ | exact .fail | refine .need ?_ | refine .bind (.lift _) fun _ => ?_ | split
theorem lits_nt (e : TypeId) : ∀ (parts : List (Nat × Operand)) (x : PD), Nt (lits P ev look e x parts)
  | [], x => .pure _
  | p :: r, x => by
    unfold lits
    repeat' first | exact .pure _ | exact .fail | refine .bind (give_nt look _) fun _ => ?_ | refine .bind (setEl_nt P _ _ _ _ _ _) fun _ => ?_ | refine .bind (lits_nt e r _) fun _ => ?_ | split
theorem opBuildSlice_nt (T : TypeId) (n : Nat) (parts : List (Nat × Operand)) : Nt (opBuildSlice P ev look fr T n parts) := by
  unfold opBuildSlice
  repeat' first | exact .pure _ | exact .fail | refine .bind (lits_nt P ev look _ _ _) fun _ => ?_ | refine .bind (.lift _) fun _ => ?_ | split
theorem buildCells_nt (place : Nat → Option (Nat × Nat)) : ∀ (parts : List (Nat × Operand)) (ds : List D), Nt (buildCells ev place ds parts)
  | [], ds => .pure _
  | p :: r, ds => by
    unfold buildCells
    repeat' first | exact .pure _ | exact .fail | exact buildCells_nt place r _ | refine .bind (.lift _) fun _ => ?_ | split
theorem buildInts_nt (k : IntKind) : ∀ (parts : List (Nat × Operand)) (xs : List Int), Nt (buildInts ev k xs parts)
  | [], xs => .pure _
  | p :: r, xs => by
    unfold buildInts
    repeat' first | exact .pure _ | exact .fail | exact buildInts_nt k r _ | refine .bind (intD_nt _) fun _ => ?_ | split
theorem opBuild_nt (T : TypeId) (parts : List (Nat × Operand)) : Nt (opBuild P ev T parts) := by
  unfold opBuild
  repeat' first | exact .pure _ | exact .fail | refine .bind (buildInts_nt ev _ _ _) fun _ => ?_ | refine .bind (buildCells_nt ev _ _ _) fun _ => ?_ | refine .bind (.lift _) fun _ => ?_ | split
theorem opField_nt (T : TypeId) (x : D) (f : Nat) : Nt (opField P T x f) := by
  unfold opField
  repeat' first | exact .pure _ | exact .fail | exact .lift _ | refine .bind (sub_nt P _ _ _) fun _ => ?_ | refine .bind (.lift _) fun _ => ?_ | split | dsimp only
theorem opFieldAddr_nt (T : TypeId) (x : D) (f : Nat) : Nt (opFieldAddr P T x f) := by
  unfold opFieldAddr
  repeat' first | exact .pure _ | exact .fail | refine .bind (.lift _) fun _ => ?_ | split
theorem opBin0_nt (op : BinOp) (t : TypeId) (x y : D) : Nt (opBin0 P op t x y) := by
  unfold opBin0
  repeat' first | exact .pure _ | exact .fail | exact .lift _ | refine .need ?_ | refine .bind (intD_nt _) fun _ => ?_ | refine .bind (.lift _) fun _ => ?_ | split
theorem opNil_nt (eq : Bool) (x : D) : Nt (opNil eq x) := by
  unfold opNil
  split
  · exact .pure _
  · exact .split fun t => .cond (.pure _) (.pure _)
  · exact .split fun t => .cond (.pure _) (.pure _)
  · exact .fail
theorem opEqS_nt (t : TypeId) (x y : D) : Nt (opEqS P t x y) := by
  unfold opEqS
  repeat' first | exact .fail | exact .lift _ | split
theorem opBin_nt (op : BinOp) (t : TypeId) (x y : D) : Nt (opBin P op t x y) := by
  unfold opBin
  repeat' first | exact .pure _ | exact .fail | exact opBin0_nt P _ _ _ _ | exact opNil_nt _ _ | refine .bind (opEqS_nt P _ _ _) fun _ => ?_ | split
theorem opUn_nt (op : UnOp) (x : D) : Nt (opUn op x) := by
  unfold opUn
  repeat' first | exact .pure _ | exact .fail | refine .bind (.lift _) fun _ => ?_ | split
theorem opConvert_nt (s d : TypeId) (x : D) : Nt (opConvert P look fr s d x) := by
  unfold opConvert
  repeat' first | exact .pure _ | exact .fail | refine .need ?_ | refine .bind (intD_nt _) fun _ => ?_ | refine .bind (content_nt look _) fun _ => ?_ | refine .bind (.lift _) fun _ => ?_ | split
theorem opSliceToArr_nt (T : TypeId) (x : D) : Nt (opSliceToArr P look T x) := by
  unfold opSliceToArr
  repeat' first | exact .pure _ | exact .fail | refine .need ?_ | refine .bind (give1_nt look _) fun _ => ?_ | refine .bind (.lift _) fun _ => ?_ | split
theorem opLen_nt (T : TypeId) (x : D) : Nt (opLen P look T x) := by
  unfold opLen
  repeat' first | exact .pure _ | exact .fail | refine .bind (content_nt look _) fun _ => ?_ | refine .bind (rowOf_nt P _ _) fun _ => ?_ | refine .bind (.lift _) fun _ => ?_ | split
theorem srcOf_nt (e T : TypeId) (x : D) : Nt (srcOf P look e T x) := by
  unfold srcOf
  repeat' first | exact .pure _ | exact .fail | exact rowOf_nt P _ _ | refine .bind (content_nt look _) fun _ => ?_ | refine .bind (.lift _) fun _ => ?_ | split
theorem opAppend_nt (sT xT : TypeId) (s x : D) : Nt (opAppend P look fr sT xT s x) := by
  unfold opAppend
  repeat' first | exact .pure _ | exact .fail | refine .need ?_ | refine .bind (srcOf_nt P look _ _ _) fun _ => ?_ | refine .bind (.lift _) fun _ => ?_ | split
theorem opAppendMk_nt (sT : TypeId) (s x : D) : Nt (opAppendMk P look fr sT s x) := by
  unfold opAppendMk
  refine .bind (.lift _) fun _ => .bind (.lift _) fun _ => .bind (intD_nt _) fun p => ?_
  obtain ⟨k, l⟩ := p
  repeat' first | exact .pure _ | exact .fail | refine .need ?_ | refine .bind (.lift _) fun _ => ?_ | split
theorem opAppend2_nt (sT xT : TypeId) (s x : D) : Nt (opAppend2 P look fr sT xT s x) := by
  unfold opAppend2
  split
  · exact opAppendMk_nt P look fr _ _ _
  · exact opAppend_nt P look fr _ _ _ _
theorem opCopy_nt (dT xT : TypeId) (d x : D) : Nt (opCopy P look dT xT d x) := by
  unfold opCopy
  repeat' first | exact .pure _ | exact .fail | refine .need ?_ | refine .bind (srcOf_nt P look _ _ _) fun _ => ?_ | refine .bind (.lift _) fun _ => ?_ | split
theorem minsI_nt (gt : Bool) : ∀ (r : List D) (d : D), Nt (minsI gt d r)
  | [], d => by
    cases d <;> first | exact .pure _ | exact .fail
  | y :: r, d => by
    cases d with
    | pd x =>
      rw [minsI]
      refine .bind (.lift _) fun p => .bind (intD_nt _) fun q => ?_
      obtain ⟨k, a⟩ := p
      obtain ⟨k', b⟩ := q
      dsimp only
      by_cases e : k' = k
      · rw [if_pos e]; exact minsI_nt gt r _
      · rw [if_neg e]; exact .fail
    | _ => exact .fail
end ops
section call
variable (look : Nat → Option Ob) (fr : Nat)
theorem reachC_nt : ∀ (n : Nat) (todo acc : List Nat), Nt (reachC look n todo acc)
  | 0, _, _ => .fail
  | n + 1, [], acc => .pure _
  | n + 1, o :: todo, acc => by
    unfold reachC
    split
    · exact reachC_nt n _ _
    · exact .bind (.lift _) fun _ => reachC_nt n _ _
theorem takeObs_nt (f : Nat → Option Nat) : ∀ l : List Nat, Nt (takeObs look f l)
  | [] => .pure _
  | o :: l => .bind (.lift _) fun _ => .bind (takeObs_nt f l) fun _ => .pure _
theorem hand1_nt (keep : Bool) (d : D) : Nt (hand1 look keep d) := by
  unfold hand1
  split <;> first | exact .pure _ | exact .fail | exact .cond (.pure _) (.bind (give1_nt look _) fun _ => .pure _)
theorem handL_nt (keep : Bool) : ∀ ds : List D, Nt (handL look keep ds)
  | [] => .pure _
  | d :: ds => .bind (hand1_nt look keep d) fun _ => .bind (handL_nt keep ds) fun _ => by
      repeat' first | exact .pure _ | exact .fail | split
theorem hand_nt (keep : Bool) (d : D) : Nt (hand look keep d) := by
  unfold hand
  split
  · exact .bind (handL_nt look keep _) fun _ => .pure _
  · exact hand1_nt look keep _
theorem hands_nt (kept : Nat → Bool) : ∀ (ds : List D) (i : Nat), Nt (hands look kept i ds)
  | [], _ => .pure _
  | d :: ds, i => .bind (hand_nt look _ d) fun _ => .bind (hands_nt kept ds (i + 1)) fun _ => by
      repeat' first | exact .pure _ | exact .fail | split
theorem lend1_nt (d : D) : Nt (lend1 look d) := by
  unfold lend1
  repeat' first | refine .need ?_ | exact .pure _ | exact .fail | refine .bind (.lift _) fun _ => ?_ | split
theorem lendL_nt : ∀ ds : List D, Nt (lendL look ds)
  | [] => .pure _
  | d :: ds => .bind (lend1_nt look d) fun _ => .bind (lendL_nt ds) fun _ => .pure _
theorem lend_nt (d : D) : Nt (lend look d) := by
  unfold lend
  split
  · exact .bind (lendL_nt look _) fun _ => .pure _
  · exact lend1_nt look _
theorem lends_nt : ∀ ds : List D, Nt (lends look ds)
  | [] => .pure _
  | d :: ds => .bind (lend_nt look d) fun _ => .bind (lends_nt ds) fun _ => .pure _
/-- Each of a table's computations. -/
def CalNt (call : Cal) : Prop := ∀ g args hp, Nt (call g args hp)
theorem packCall_nt {call : Cal} (hc : CalNt call) (g : FuncId) (as : List D) (l : Dl) (bl : List Nat) : Nt (packCall look fr call g as l bl) := by
  unfold packCall
  repeat' first | exact .pure _ | exact .fail | refine .bind (reachC_nt look _ _ _) fun _ => ?_ | refine .bind (takeObs_nt look _ _) fun _ => ?_ | refine .bind (hc _ _ _) fun _ => ?_ | split
theorem opCall_nt {call : Cal} (hc : CalNt call) (h : Hint) (g : FuncId) (args : List D) : Nt (opCall look fr call h g args) := by
  unfold opCall
  split
  · exact .bind (lends_nt look _) fun _ => packCall_nt look fr hc _ _ _ _
  · exact .bind (hands_nt look _ _ _) fun _ => packCall_nt look fr hc _ _ _ _
  · exact .bind (hands_nt look _ _ _) fun _ => packCall_nt look fr hc _ _ _ _
end call
section code
variable (P : Program) {call : Cal} (hc : CalNt call) (fh : FH) (n0 : Nat)
include hc in
theorem evOp_nt (h : Hint) (ev : Operand → D) (look : Nat → Option Ob) (fr : Nat) (o : Oper) : Nt (evOp P call h ev look fr o) := by
  unfold evOp
  split
  · exact .pure _
  · exact .pure _
  · exact .bind (boolD_nt _) fun _ => .split fun _ => .pure _
  · exact .bind (.lift _) fun _ => .pure _
  · exact .bind (.lift _) fun _ => .pure _
  · exact .bind (opBuild_nt P ev _ _) fun _ => .pure _
  · exact opBuildSlice_nt P ev look fr _ _ _
  · exact .bind (opLoad_nt P look _ _) fun _ => .pure _
  · exact .bind (opStore_nt P look _ _ _) fun _ => .pure _
  · split <;> first | exact .pure _ | exact .fail
  · exact .bind (opBin_nt P _ _ _ _) fun _ => .pure _
  · exact .bind (opUn_nt _ _) fun _ => .pure _
  · exact opConvert_nt P look fr _ _ _
  · exact opSliceToArr_nt P look _ _
  · split <;> first | exact .pure _ | exact .fail
  · split <;> first | exact .pure _ | exact .fail
  · exact .bind (intD_nt _) fun _ => .bind (intD_nt _) fun _ => opMakeSlice_nt P fr _ _ _
  · exact opSlice_nt P h ev look fr _ _ _ _ _
  · exact .bind (opFieldAddr_nt P _ _ _) fun _ => .pure _
  · exact .bind (opField_nt P _ _ _) fun _ => .pure _
  · exact .bind (intD_nt _) fun _ => .bind (opIndexAddr_nt P look _ _ _) fun _ => .pure _
  · exact .bind (intD_nt _) fun _ => .bind (opIndex_nt P _ _ _) fun _ => .pure _
  · split <;> first | exact .bind (.lift _) fun _ => .pure _ | exact .fail
  · split
    · exact .bind (opLen_nt P look _ _) fun _ => .pure _
    · exact opAppend2_nt P look fr _ _ _ _
    · exact opCopy_nt P look _ _ _ _
    · exact .bind (minsI_nt _ _ _) fun _ => .pure _
    · exact .bind (minsI_nt _ _ _) fun _ => .pure _
    · split <;> first | exact opCall_nt look fr hc _ _ _ | exact .fail
    · exact .fail
  · exact .fail
theorem refineD_nt (b : Bool) (d : D) : Nt (refineD b d) := by
  unfold refineD
  exact .cond (.bind (boolD_nt _) fun _ => .split fun _ => .pure _) (.pure _)
include hc in
theorem evOps_nt (r : Nat) (ops : Array Oper) : ∀ (l : List Oper) (i : Nat) (s : St), Nt (evOps P call fh r ops i l s)
  | [], _, s => .pure _
  | o :: l, i, s => by
    unfold evOps
    split
    · exact .fail
    · refine .bind (evOp_nt P hc _ _ _ _ _) fun p => ?_
      obtain ⟨d, dl⟩ := p
      dsimp only
      split
      · exact .bind (refineD_nt _ _) fun _ => evOps_nt r ops l _ _
      · exact .fail
    · exact evOps_nt r ops l _ _
include hc in
theorem evDraw_nt (r : Nat) (ops : Array Oper) (bef : Array Nat) (base : Nat) : ∀ (l : List Oper) (i : Nat) (s : St), Nt (evDraw P call fh r ops bef base i l s)
  | [], _, s => .pure _
  | o :: l, i, s => by
    unfold evDraw
    split
    · exact .fail
    · refine .bind (evOp_nt P hc _ _ _ _ _) fun p => ?_
      obtain ⟨d, dl⟩ := p
      dsimp only
      split
      · exact .bind (refineD_nt _ _) fun _ => evDraw_nt r ops bef base l _ _
      · exact .fail
    · exact evDraw_nt r ops bef base l _ _
include hc in
theorem evRegion_nt (r : Nat) (ops : Array Oper) (draw : Bool) (s : St) : Nt (evRegion P call fh r ops draw s) := by
  unfold evRegion
  repeat' first | exact .fail | exact evDraw_nt P hc fh _ _ _ _ _ _ _ | exact evOps_nt P hc fh _ _ _ _ _ | split
include hc in
theorem evCode_nt : ∀ (c : Code) (s : St), Nt (evCode P call fh n0 c s)
  | .skip, s => .pure _
  | .label _, s => .pure _
  | .region id ops draw, s => .bind (evRegion_nt P hc fh _ _ _ _) fun _ => .pure _
  | .seq a b, s => .bind (evCode_nt a s) fun p => by
      obtain ⟨e, s⟩ := p
      cases e <;> first | exact evCode_nt b _ | exact .pure _
  | .cond c x y, s => .bind (boolD_nt _) fun _ => .split fun t => .cond (evCode_nt x _) (evCode_nt y _)
  | .block id b, s => .bind (evCode_nt b s) fun p => by
      obtain ⟨e, s⟩ := p
      cases e with
      | exit j =>
        dsimp only
        split <;> exact .pure _
      | _ => exact .pure _
  | .loop b, s => by
    rw [evCode]
    split
    · exact .fail
    · exact .lift _
  | .scope b, s => evCode_nt b s
  | .exit id, s => .pure _
  | .ret, s => .pure _
  | .rangeFunc .., s => .fail
  | .goto _, s => .fail
  | .refuse _, s => .fail
theorem resultsD_nt (s : St) : ∀ rs : List ResultVar, Nt (resultsD P s rs)
  | [] => .pure _
  | r :: rs => .bind (by cases r <;> first | exact .pure _ | exact opLoad_nt P _ _ _) fun _ => .bind (resultsD_nt s rs) fun _ => .pure _
include hc in
theorem evBody_nt (g : FuncId) (args : List D) (hp : List Ob) : Nt (evBody P call fh g args hp) := by
  unfold evBody
  split
  · exact .fail
  · split
    · exact .fail
    · split
      · exact .fail
      · refine .bind (evCode_nt P hc fh _ _ _) fun p => ?_
        unfold finC
        split
        · exact .fail
        · exact .bind (resultsD_nt P _ _) fun _ => .pure _
/-- A function's body as a table's entry. -/
theorem evBody_sure (hcall : CalOK P call) (hn : CalNt call) (g : FuncId) (args : List D) (hp : List Ob) : Sure (evBody P call fh g args hp) (FnOK P g args hp) := fun X k res h => by
  rw [evBody_nt P hn fh g args hp X k] at h
  obtain ⟨r, h1, h2⟩ := Option.bind_eq_some_iff.1 h
  exact ⟨r, h2, evBody_ok P hcall fh g args hp r h1⟩
end code
end Go.Ev
