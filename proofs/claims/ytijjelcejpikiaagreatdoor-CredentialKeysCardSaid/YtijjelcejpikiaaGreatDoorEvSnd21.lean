/-
Code, and a function's body.
-/
import Derived.Test.YtijjelcejpikiaaGreatDoorEvSnd20
import Derived.Scope
set_option linter.unusedVariables false
set_option linter.unusedSimpArgs false
namespace Go.Ev
variable [Globs]
set_option linter.unusedSectionVars false
/-- The way on from a loop's round. -/
def LoopIn (P : Program) (c : Code) (Q : Exit → Act → World → Prop) (a : Act) (w : World) : Prop :=
  ∀ (b : Frame) (k : List Item) (cs : List Frame), ∃ e a' w', Q e a' w' ∧ Arrives P (lone (b.at a (.code c :: .inLoop c :: k)) cs w) b k cs e a' w'
theorem loopIn_round {P : Program} {c : Code} {Q : Exit → Act → World → Prop} {a : Act} {w : World} (h : c.wp P (Exit.then (LoopIn P c Q) Q) a w) : LoopIn P c Q a w := by
  intro b k cs
  obtain ⟨e, a₁, w₁, hq, harr⟩ := h b (.inLoop c :: k) cs
  cases e with
  | normal =>
    obtain ⟨e₂, a₂, w₂, hq₂, harr₂⟩ := hq b k cs
    exact ⟨e₂, a₂, w₂, hq₂, .of_steps (Steps.trans harr (.one step_inLoop)) harr₂⟩
  | exit id => exact ⟨_, a₁, w₁, hq, .pass (x := .inLoop c) rfl (fun _ _ => .inl (by simp)) harr⟩
  | goto l => exact ⟨_, a₁, w₁, hq, .pass (x := .inLoop c) rfl (fun _ _ => .inl (by simp)) harr⟩
  | ret => exact ⟨_, a₁, w₁, hq, .pass (x := .inLoop c) rfl (fun _ _ => .inl (by simp)) harr⟩
  | panic ch => exact ⟨_, a₁, w₁, hq, .pass (x := .inLoop c) rfl (fun _ _ => .inl (by simp)) harr⟩
  | outgrown => exact ⟨_, a₁, w₁, hq, .pass (x := .inLoop c) rfl (fun _ _ => .inl (by simp)) harr⟩
theorem wp_loopIn {P : Program} {c : Code} {Q : Exit → Act → World → Prop} {a : Act} {w : World} (h : LoopIn P c Q a w) : (Code.loop c).wp P Q a w := by
  intro b k cs
  obtain ⟨e, a', w', hq, harr⟩ := h b k cs
  exact ⟨e, a', w', hq, .of_steps (.one step_loop) harr⟩
def toExit : Ex → Exit
  | .norm => .normal
  | .exit id => .exit id
  | .ret => .ret
section code
variable (P : Program) {call : Cal} (hcall : CalOK P call) (fh : FH) (n0 : Nat)
variable {w0 : World} {F0 W0 : Nat → Prop} {γ0 : Nat → Value}
theorem joinAt_ok (b : Code) {s : St} {a : Act} {w : World} (hs : StE w0 F0 W0 n0 γ0 s a w) : StE w0 F0 W0 n0 γ0 (joinAt P fh n0 b s) a w := by
  unfold joinAt
  split
  · exact normz_ok P _ hs
  · exact hs
theorem refine_slot {s : St} {a : Act} {w : World} (hs : StE w0 F0 W0 n0 γ0 s a w) (c : Operand) (t : Bool) (hc : a.eval c = .bool t) :
    StE w0 F0 W0 n0 γ0 (s.know c t) a w := by
  cases c with
  | tmp i =>
    obtain ⟨N, γ, Fz, h⟩ := hs
    refine ⟨N, γ, Fz, h.rel, h.inh, by simpa [St.know] using h.len, fun k => ?_, h.quiet⟩
    simp only [St.know]
    rw [put_get]
    split
    · rename_i hk
      obtain ⟨rfl, _⟩ := hk
      have : a.tmps.getD k undef = .bool t := hc
      rw [this]
      exact .pd _ _ (.bool t)
    · exact h.slots k
  | _ => exact hs
include hcall in
theorem evCode_wp : ∀ (c : Code) {X : Type} (k : Ex × St → Option X) (res : X) (Q : Exit → Act → World → Prop), (∀ e s a w, k (e, s) = some res → StE w0 F0 W0 n0 γ0 s a w → Q (toExit e) a w) →
    ∀ (s : St) (a : Act) (w : World), evCode P call fh n0 c s X k = some res → StE w0 F0 W0 n0 γ0 s a w → c.wp P Q a w
  | .skip, X, k, res, Q, hQ, s, a, w, h, hs => wp_skip (hQ .norm s a w h hs)
  | .label _, X, k, res, Q, hQ, s, a, w, h, hs => wp_label (hQ .norm s a w h hs)
  | .region id ops draw, X, k, res, Q, hQ, s, a, w, h, hs => evRegion_wp P hcall fh ops id draw (fun s => k (.norm, s)) res Q (fun s a w h hs => hQ .norm s a w h hs) s a w h hs
  | .seq x y, X, k, res, Q, hQ, s, a, w, h, hs => by
    rw [evCode] at h
    change evCode P call fh n0 x s X _ = some res at h
    refine wp_seq (evCode_wp x _ res _ (fun e s a w h hs => ?_) s a w h hs)
    cases e with
    | norm => exact evCode_wp y k res Q hQ _ a w h (joinAt_ok P fh n0 y hs)
    | exit id => exact hQ _ s a w h hs
    | ret => exact hQ _ s a w h hs
  | .cond c x y, X, k, res, Q, hQ, s, a, w, h, hs => by
    obtain ⟨t, h1, ht⟩ := boolD_sure (evalO s.ts c) X _ res h
    obtain ⟨N, γ, Fz, hs1⟩ := id hs
    have hc := ht N γ Fz w _ (hs1.eval c)
    have hs2 := refine_slot n0 hs c t hc
    cases t with
    | true => exact wp_cond_true hc (evCode_wp x k res Q hQ _ a w h1 hs2)
    | false => exact wp_cond_false hc (evCode_wp y k res Q hQ _ a w h1 hs2)
  | .block id b, X, k, res, Q, hQ, s, a, w, h, hs => by
    rw [evCode] at h
    change evCode P call fh n0 b s X _ = some res at h
    refine wp_block (evCode_wp b _ res _ (fun e s a w h hs => ?_) s a w h hs)
    cases e with
    | norm => exact hQ .norm s a w h hs
    | ret => exact hQ .ret s a w h hs
    | exit j =>
      simp only [toExit, Exit.inBlock]
      by_cases e : j = id
      · rw [if_pos e]
        simp only [if_pos e] at h
        exact hQ .norm s a w h hs
      · rw [if_neg e]
        simp only [if_neg e] at h
        exact hQ (.exit j) s a w h hs
  | .loop b, X, k, res, Q, hQ, s, a, w, h, hs => by
    rw [evCode] at h
    cases hl : (firstR b).bind (assoc fh.loops) with
    | none => rw [hl] at h; cases h
    | some hh =>
      obtain ⟨hi, ho⟩ := hh
      rw [hl] at h
      obtain ⟨r, hr, hk⟩ := Option.bind_eq_some_iff.1 h
      refine wp_loopIn (loopFix.partial_correctness _ (fun s r => k r = some res → ∀ a w, StE w0 F0 W0 n0 γ0 s a w → LoopIn P b Q a w) (fun rec ih s r hr hk a w hs => ?_) _ r hr hk a w (normz_ok P hi hs))
      split at hr
      · cases hr
      · rename_i s' hst
        refine loopIn_round (evCode_wp b _ (Sum.inl s' : St ⊕ (Ex × St)) _ (fun e s1 a w h1 hs1 => ?_) s a w hst hs)
        cases e with
        | norm =>
          simp only [Option.some.injEq, Sum.inl.injEq] at h1
          subst h1
          exact ih _ r hr hk a w (normz_ok P hi hs1)
        | exit id => cases h1
        | ret => cases h1
      · rename_i r' hst
        cases hr
        refine loopIn_round (evCode_wp b _ (Sum.inr r : St ⊕ (Ex × St)) _ (fun e s1 a w h1 hs1 => ?_) s a w hst hs)
        cases e with
        | norm => cases h1
        | exit id =>
          simp only [Option.some.injEq, Sum.inr.injEq] at h1
          subst h1
          exact hQ (.exit id) _ a w hk (normz_ok P ho hs1)
        | ret =>
          simp only [Option.some.injEq, Sum.inr.injEq] at h1
          subst h1
          exact hQ .ret _ a w hk (normz_ok P ho hs1)
  | .scope b, X, k, res, Q, hQ, s, a, w, h, hs => wp_scope_straight (evCode_wp b k res _ (fun e s a w h hs => by
      have := hQ e s a w h hs
      cases e <;> exact this) s a w h hs)
  | .exit id, X, k, res, Q, hQ, s, a, w, h, hs => wp_exit (hQ (.exit id) s a w h hs)
  | .ret, X, k, res, Q, hQ, s, a, w, h, hs => wp_ret (hQ .ret s a w h hs)
  | .rangeFunc .., X, k, res, Q, hQ, s, a, w, h, hs => by cases h
  | .goto _, X, k, res, Q, hQ, s, a, w, h, hs => by cases h
  | .refuse _, X, k, res, Q, hQ, s, a, w, h, hs => by cases h

/-! ### A function -/
theorem asAddr_of_load {t : TypeId} {v u : Value} {w : World} (h : (Instr.loadAt t v).run P w = .ok u w) : ((do loadVar t (← asAddr v)) : Sem Value).run P w = .ok u w := by
  cases v with
  | pointer o =>
    cases o with
    | some a => simpa [Instr.loadAt, Instr.sureAddr, asAddr] using h
    | none => simp [Instr.loadAt, Instr.sureAddr] at h
  | _ => simp [Instr.loadAt, Instr.sureAddr] at h
def resSem (tmps : Array Value) : ResultVar → Sem Value
  | .tmp t => pure (tmps.getD t undef)
  | .cell b t => do loadVar t (← asAddr (tmps.getD b undef))
theorem resultsD_sure (s : St) : ∀ (rs : List ResultVar), Sure (resultsD P s rs) fun ds => ds.length = rs.length ∧ ∀ N γ Fz w (a : Act), StR w0 F0 W0 n0 γ0 s a w N γ Fz →
    ∃ vs : List Value, (rs.mapM (resSem a.tmps)).run P w = .ok vs w ∧ vs.length = rs.length ∧ ∀ i, V N γ Fz w (ds.getD i .junk) (vs.getD i undef)
  | [] => .pure ⟨rfl, fun N γ Fz w a _ => ⟨[], by simp, rfl, fun i => .junk _⟩⟩
  | r :: rs => by
    have one : Sure (resultD P s r) fun d => ∀ N γ Fz w (a : Act), StR w0 F0 W0 n0 γ0 s a w N γ Fz → ∃ v, (resSem a.tmps r).run P w = .ok v w ∧ V N γ Fz w d v := by
      cases r with
      | tmp t => exact .pure fun N γ Fz w a h => ⟨_, by simp [resSem], h.slots t⟩
      | cell b t =>
        refine (opLoad_sure P (lookH s.hp) t (s.ts.getD b .junk)).mono fun d hd N γ Fz w a h => ?_
        obtain ⟨u, h1, h2⟩ := hd N γ Fz w (a.tmps.getD b undef) (lookOk h.rel fun i ob hi => lookH_some hi) (h.slots b)
        exact ⟨u, asAddr_of_load P h1, h2⟩
    refine .bind one fun d hd => .bind (resultsD_sure s rs) fun ds hds => .pure ⟨by simp [hds.1], fun N γ Fz w a h => ?_⟩
    obtain ⟨v, h1, h2⟩ := hd N γ Fz w a h
    obtain ⟨vs, h3, h4, h5⟩ := hds.2 N γ Fz w a h
    refine ⟨v :: vs, ?_, by simp [h4], fun i => ?_⟩
    · rw [List.mapM_cons]
      simp [h1, h3]
    · cases i with
      | zero => exact h2
      | succ i => exact h5 i
def tupV : List Value → Value
  | [v] => v
  | vs => .tuple vs.toArray
theorem results_run {fn : Func} {tmps : Array Value} {vs : List Value} {w : World} (h : (fn.results.toList.mapM (resSem tmps)).run P w = .ok vs w) : (results fn tmps).run P w = .ok (tupV vs) w := by
  have e : results fn tmps = (do
      let vs ← List.toArray <$> fn.results.toList.mapM (resSem tmps)
      pure (if h : vs.size = 1 then vs[0] else .tuple vs)) := by
    unfold results
    rw [Array.mapM_eq_mapM_toList]
    congr 3
  rw [e]
  simp only [map_eq_pure_bind, Sem.run_bind, bind_assoc, pure_bind, h, Result.andThen_ok]
  match vs with
  | [] => simp [tupV]
  | [v] => simp [tupV]
  | v :: u :: r => simp [tupV]
theorem tupD_V {N : Nat → Prop} {γ : Nat → Value} {Fz : Nat → Prop} {w : World} {ds : List D} {vs : List Value} (hl : vs.length = ds.length) (h : ∀ i, V N γ Fz w (ds.getD i .junk) (vs.getD i undef)) : V N γ Fz w (tupD ds) (tupV vs) := by
  have key : V N γ Fz w (.tup ds) (.tuple vs.toArray) := .tup _ _ (by simpa using hl) fun i hi => by
    have := h i
    rw [listD_lt _ _ hi] at this
    simpa [Array.getD_eq_getD_getElem?, List.getD] using this
  match ds, vs, hl with
  | [], [], _ => exact key
  | [d], [v], _ => exact h 0
  | d :: e :: r, v :: u :: t, _ => exact key
include hcall in
/-- A function whose body comes to r. -/
theorem evBody_ok (g : FuncId) (args : List D) (hp : List Ob) (r : D × List Ob) (h : evBody P call fh g args hp (D × List Ob) some = some r) : FnOK P g args hp r := by
  unfold evBody at h
  cases hf : P.funcs[g]? with
  | none => rw [hf] at h; cases h
  | some fn =>
    rw [hf] at h
    simp only at h
    cases hb : fn.body with
    | none => rw [hb] at h; cases h
    | some c =>
      rw [hb] at h
      simp only at h
      split at h
      · cases h
      · rename_i hname
        intro w F0 γ0 vs hvl hrel hargs
        refine .inl ⟨by simp [callFunc, hf, hname, hb], calls_of_wp hf hb ?_⟩
        refine evCode_wp P hcall fh hp.length c _ r _ (fun e s a w' h1 hs => ?_) _ _ w h ⟨(· < hp.length), γ0, F0, hrel, fun o ho => ⟨ho, rfl⟩, by simp [hvl], fun t => ?_, rfl⟩
        · have fin : C.bind (resultsD P s fn.results.toList) (fun ds => let (ds, hp') := gc hp.length ds s.hp; C.pure (tupD ds, hp')) (D × List Ob) some = some r → a.defers = [] ∧ ∃ v, (results fn a.tmps).run P w' = .ok v w' ∧
              ∃ u, Ending.returned v = .returned u ∧ ∃ N' γ' Fz', Rel w F0 (OwnBlks γ0 (hp[·]?)) N' γ' Fz' (r.2[·]?) w' ∧ (∀ o, o < hp.length → N' o ∧ γ' o = γ0 o) ∧ (∀ o, N' o → o < r.2.length) ∧ V N' γ' Fz' w' r.1 u := by
            intro h2
            obtain ⟨ds, h3, hl, hds⟩ := resultsD_sure (w0 := w) (F0 := F0) (W0 := OwnBlks γ0 (hp[·]?)) (γ0 := γ0) P hp.length s fn.results.toList _ _ r h2
            simp only [C.pure, Option.some.injEq] at h3
            obtain ⟨N, γ, Fz, hs⟩ := hs
            obtain ⟨us, h4, h5, h6⟩ := hds N γ Fz w' a hs
            obtain ⟨N', γ', h7, h8, h9, h10⟩ := gc_ok hs.rel hs.inh ds (fun i => us.getD i undef) h6
            refine ⟨hs.quiet, _, results_run P h4, _, rfl, N', γ', Fz, ?_, h8, fun o ho => ?_, ?_⟩
            · rw [← h3]; exact h7
            · rw [← h3]
              obtain ⟨ob, h11⟩ := h7.hasob o ho
              exact (List.getElem?_eq_some_iff.1 h11).1
            · rw [← h3]
              exact tupD_V (by rw [h9, h5, hl]) h10
          cases e with
          | norm => exact fin h1
          | ret => exact fin h1
          | exit id => cases h1
        · have hlt : t < args.length ∨ args.length ≤ t := by omega
          rcases hlt with hlt | hge
          · have := hargs t hlt
            simp only [List.getD, List.getElem?_append_left hlt, List.getElem?_eq_getElem hlt, Option.getD_some]
            have e : (vs.toArray ++ Array.replicate (fn.ntmps - vs.toArray.size) undef).getD t undef = vs.getD t undef := by
              simp [Array.getD_eq_getD_getElem?, Array.getElem?_append, hvl, hlt, List.getD]
            rw [e]
            exact this
          · have e : (args ++ List.replicate (fn.ntmps - args.length) D.junk).getD t .junk = .junk := by
              simp only [List.getD, List.getElem?_append_right hge]
              cases h : (List.replicate (fn.ntmps - args.length) D.junk)[t - args.length]? with
              | none => rfl
              | some d => rw [(List.mem_replicate.1 (List.mem_of_getElem? h)).2]; rfl
            rw [e]
            exact .junk _
end code
end Go.Ev
