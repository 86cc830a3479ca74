/-
Every operation of the evaluator is the machine's.
-/
import Derived.Test.YtijjelcejpikiaaGreatDoorEvSnd14
import Derived.Test.YtijjelcejpikiaaGreatDoorEvSnd9c
set_option linter.unusedVariables false
set_option linter.unusedSimpArgs false
namespace Go.Ev
variable [Globs]
set_option linter.unusedSectionVars false
section ops
variable (P : Program) {o : Oper} {ev : Operand → D} {look : Nat → Option Ob} {fr : Nat}
theorem opSound_runs {f : Operand} {args types : Array Operand} {tys : Array TypeId} {a : Act} {w : World} {post : Value → World → Prop} {g : FuncId} {vf vc : Array Value} (ho : o.op = .call { callee := .value f, args := args, argTypes := tys })
    (hf : a.eval f = .func (.func g) vf vc) (h : RunsF P g (vf ++ args.map a.eval ++ vc) w post) : OpSound P o a w post := by
  have hex : (execOp a.eval o).run P w = (callFunc g (vf ++ args.map a.eval ++ vc)).run P w := by
    simp [execOp, ho, resolve, hf, Deferred.ofValue, invoke]
  rcases h with ⟨h1, h2⟩ | ⟨v, w', h1, h2⟩
  · exact .enter (by rw [hex]; exact h1) h2
  · exact .value (by rw [hex]; exact h1) h2
theorem opCall_sure {call : Cal} (hcall : CalOK P call) (h : Hint) (g : FuncId) (args : List D) : Sure (opCall look fr call h g args) fun r =>
    ∀ w0 F0 W0 N γ Fz H w (vs : List Value), vs.length = args.length → Rel w0 F0 W0 N γ Fz H w → (∀ i ob, look i = some ob → H i = some ob ∧ ob.live = true) → (∀ i, fr ≤ i → i < fr + 8 → ¬ N i) →
      (∀ i (h : i < args.length), V N γ Fz w args[i] (vs.getD i undef)) →
      RunsF P g vs.toArray w fun v w' => ∃ N' γ' Fz', Go1 w0 F0 W0 fr N γ Fz w N' γ' Fz' (applyU H r.2) w' ∧ V N' γ' Fz' w' r.1 v := by
  have given : ∀ kept : Nat → Bool, Sure (C.bind (hands look kept 0 args) fun p => packCall look fr call g p.1 p.2 []) fun r =>
    ∀ w0 F0 W0 N γ Fz H w (vs : List Value), vs.length = args.length → Rel w0 F0 W0 N γ Fz H w → (∀ i ob, look i = some ob → H i = some ob ∧ ob.live = true) → (∀ i, fr ≤ i → i < fr + 8 → ¬ N i) →
      (∀ i (h : i < args.length), V N γ Fz w args[i] (vs.getD i undef)) →
      RunsF P g vs.toArray w fun v w' => ∃ N' γ' Fz', Go1 w0 F0 W0 fr N γ Fz w N' γ' Fz' (applyU H r.2) w' ∧ V N' γ' Fz' w' r.1 v := by
    intro kept
    refine .bind (hands_sure look kept args) fun p hp => (packCall_sure P hcall g p.1 p.2 []).mono fun r hr => ?_
    obtain ⟨l2, e, hr⟩ := hr
    intro w0 F0 W0 N γ Fz H w vs hvl hrel hl hfr hv
    obtain ⟨F1, hg, hv1⟩ := hp.2.2 w0 F0 W0 fr N γ Fz H w vs hvl hrel hl hv
    refine (hr w0 F0 W0 N γ F1 (applyU H p.2) w vs (by rw [hp.1]; exact hvl) hg.rel (fun i ob hi hk => by rw [applyU_other hk]; exact hl i ob hi) hfr (by simp) fun i hi => ?_).mono fun v w' ⟨N', γ', F', h1, h2⟩ => ⟨N', γ', F', ?_, h2⟩
    · exact (hv1 i hi).frame (fun o h => ⟨h, rfl⟩) (fun b h => .inl h) fun _ _ => rfl
    · rw [e, applyU_append]
      exact hg.trans h1
  unfold opCall
  split
  · refine .bind (lends_sure look args) fun p hp => (packCall_sure P hcall g p.1 [] p.2).mono fun r hr => ?_
    obtain ⟨l2, e, hr⟩ := hr
    intro w0 F0 W0 N γ Fz H w vs hvl hrel hl hfr hv
    have hv1 := hp.2.2 N γ Fz w vs hvl (lookOk hrel hl) hv
    refine (hr w0 F0 W0 N γ Fz H w vs (by rw [hp.1]; exact hvl) hrel (fun i ob hi _ => hl i ob hi) hfr (fun o ho => ?_) hv1).mono fun v w' ⟨N', γ', F', h1, h2⟩ => ⟨N', γ', F', ?_, h2⟩
    · obtain ⟨ob, h1, h2⟩ := hp.2.1 o ho
      exact ⟨ob, (hl o ob h1).1, h2⟩
    · rw [e, List.nil_append]
      exact h1
  · exact given _
  · exact given _
theorem nilCheck_run {ρ : Operand → Value} {x : Operand} (ho : o.op = .nilCheck x) {w : World} (h : (∃ a, ρ x = .pointer (some a)) ∨ ∃ g a b, ρ x = .func (.func g) a b) : (execOp ρ o).run P w = .ok (.value (ρ x)) w := by
  rcases h with ⟨a, h⟩ | ⟨g, a, b, h⟩ <;> simp [execOp, ho, h]
theorem getD_append3 (a b c : List Value) (i : Nat) : (a ++ b ++ c).getD i undef = if i < a.length then a.getD i undef else if i < a.length + b.length then b.getD (i - a.length) undef else c.getD (i - a.length - b.length) undef := by
  simp only [List.getD]
  by_cases h1 : i < a.length
  · rw [if_pos h1, List.append_assoc, List.getElem?_append_left h1]
  · rw [if_neg h1]
    by_cases h2 : i < a.length + b.length
    · rw [if_pos h2, List.getElem?_append_left (by simp; omega), List.getElem?_append_right (by omega)]
    · rw [if_neg h2, List.getElem?_append_right (by simp; omega)]
      congr 2
      simp; omega
theorem evOp_sure {call : Cal} (hcall : CalOK P call) (h : Hint) (o : Oper) : Sure (evOp P call h ev look fr o) (OpOK P o ev look fr) := by
  unfold evOp
  split
  · -- move
    rename_i x ho
    exact .pure (valOK P fun N γ Fz w ρ hl hv => ⟨_, by simp [execOp, ho], hv x⟩)
  · rename_i x ho
    exact .pure (valOK P fun N γ Fz w ρ hl hv => ⟨_, by simp [execOp, ho], hv x⟩)
  · rename_i c x y ho
    refine .bind (boolD_sure (ev c)) fun t ht => .split (.pure (valOK P fun N γ Fz w ρ hl hv => ?_))
    have hc := ht N γ Fz w _ (hv c)
    cases t
    · exact ⟨ρ y, by simp [execOp, ho, hc, asBool], hv y⟩
    · exact ⟨ρ x, by simp [execOp, ho, hc, asBool], hv x⟩
  · exact alloc_sure P _ ‹_›
  · exact box_sure P _ _ ‹_›
  · exact valSure P (build_sure P _ _ ‹_›)
  · exact buildSlice_sure P _ _ _ ‹_›
  · rename_i t x ho
    exact valSure P ((opLoad_sure P look t (ev x)).mono fun d hd N γ Fz w ρ hl hv => by
      obtain ⟨u, h1, h2⟩ := hd N γ Fz w _ hl (hv x)
      exact ⟨u, by simp [execOp, ho, h1], h2⟩)
  · exact store_sure P _ _ _ ‹_›
  · rename_i x ho
    split
    · rename_i i off hx
      refine .pure (valOK P fun N γ Fz w ρ hl hv => ⟨ρ x, ?_, hx ▸ hv x⟩)
      have := hv x; rw [hx] at this
      obtain ⟨b, _, _, e⟩ := this.inv_ptr
      exact nilCheck_run P ho (.inl ⟨_, e⟩)
    · rename_i i z j off hx
      refine .pure (valOK P fun N γ Fz w ρ hl hv => ⟨ρ x, ?_, hx ▸ hv x⟩)
      have := hv x; rw [hx] at this
      obtain ⟨b, n, c, _, _, e⟩ := this.inv_eptr
      exact nilCheck_run P ho (.inl ⟨_, e⟩)
    · rename_i y off hx
      refine .pure (valOK P fun N γ Fz w ρ hl hv => ⟨ρ x, ?_, hx ▸ hv x⟩)
      have := hv x; rw [hx] at this
      obtain ⟨b, base, u, _, _, _, e⟩ := this.inv_rptr
      exact nilCheck_run P ho (.inl ⟨_, e⟩)
    · rename_i f a b hx
      refine .pure (valOK P fun N γ Fz w ρ hl hv => ⟨ρ x, ?_, hx ▸ hv x⟩)
      have := hv x; rw [hx] at this
      obtain ⟨vf, vc, e, _⟩ := this.inv_clo
      exact nilCheck_run P ho (.inr ⟨_, _, _, e⟩)
    · exact .fail
  · rename_i op t x y yt ho
    exact pdSure P ((opBin_sure P op t (ev x) (ev y)).mono fun d hd N γ Fz w ρ hl hv => by
      obtain ⟨u, h1, h2⟩ := hd N γ Fz w _ _ x y (hv x) (hv y)
      exact ⟨u, by simp only [execOp, ho]; exact run_value P h1, h2⟩)
  · rename_i op t x ho
    exact pdSure P ((opUn_sure P op (ev x)).mono fun d hd N γ Fz w ρ hl hv => by
      obtain ⟨u, h1, h2⟩ := hd N γ Fz w _ (hv x)
      exact ⟨u, by simp [execOp, ho, h1], h2⟩)
  · exact convert_sure P _ _ _ ‹_›
  · exact toArr_sure P _ _ ‹_›
  · rename_i fn first caps ho
    split
    · rename_i f
      refine .pure (valOK P fun N γ Fz w ρ hl hv => ⟨.func (.func f) (first.map ρ) (caps.map ρ), by simp [execOp, ho, Instr.makeFunc], ?_⟩)
      have key : ∀ (l : Array Operand) i (hi : i < (opndsD ev l).length), V N γ Fz w (opndsD ev l)[i] ((l.map ρ).getD i undef) := fun l i hi => by
        simp only [opndsD, List.length_map, Array.length_toList] at hi
        simp only [opndsD, List.getElem_map, Array.getElem_toList]
        rw [getD_lt _ _ (by simpa using hi)]
        simpa using hv l[i]
      exact .clo f _ _ _ _ (by simp [opndsD]) (by simp [opndsD]) (key first) (key caps)
    · exact .fail
  · rename_i t x ho
    split
    · rename_i e hu
      refine .pure (valOK P fun N γ Fz w ρ hl hv => ⟨.iface t (ρ x), ?_, .ifc t _ _ (hv x)⟩)
      simp [execOp, ho, Instr.makeInterface, run_underlying hu]
    · exact .fail
  · exact makeSlice_sure P _ _ _ ‹_›
  · exact opSlice_sure P ‹_› h
  · rename_i t x f ho
    exact valSure P ((opFieldAddr_sure P t (ev x) f).mono fun d hd N γ Fz w ρ hl hv => by
      obtain ⟨u, h1, h2⟩ := hd N γ Fz w _ (hv x)
      exact ⟨u, by simp [execOp, ho, h1], h2⟩)
  · rename_i t x f ho
    exact valSure P ((opField_sure P t (ev x) f).mono fun d hd N γ Fz w ρ hl hv => by
      obtain ⟨u, h1, h2⟩ := hd N γ Fz w _ (hv x)
      exact ⟨u, by simp [execOp, ho, h1], h2⟩)
  · rename_i t x i ho
    refine .bind (intD_sure (ev i)) fun p hp => ?_
    exact valSure P ((opIndexAddr_sure P look t (ev x) p.2).mono fun d hd N γ Fz w ρ hl hv => by
      obtain ⟨u, h1, h2⟩ := hd N γ Fz w _ p.1 hl (hv x)
      exact ⟨u, by simp [execOp, ho, hp N γ Fz w _ (hv i), h1], h2⟩)
  · rename_i t x i ho
    refine .bind (intD_sure (ev i)) fun p hp => ?_
    exact valSure P ((opIndex_sure P t (ev x) p.2).mono fun d hd N γ Fz w ρ hl hv => by
      obtain ⟨u, h1, h2⟩ := hd N γ Fz w _ p.1 (hv x)
      exact ⟨u, by simp [execOp, ho, hp N γ Fz w _ (hv i), h1], h2⟩)
  · rename_i t i ho
    split
    · rename_i ds ht
      refine .bindL fun d hd => .pure (valOK P fun N γ Fz w ρ hl hv => ?_)
      have := hv t
      rw [ht] at this
      obtain ⟨vs, e, hs, hvs⟩ := this.inv_tup
      obtain ⟨hi, rfl⟩ := List.getElem?_eq_some_iff.1 hd
      have h1 := hvs i hi
      rw [getD_lt _ _ (by omega)] at h1
      exact ⟨_, by simp [execOp, ho, e, Instr.extract, hs, hi], h1⟩
    · exact .fail
  · rename_i c ho
    obtain ⟨callee, args, types⟩ := c
    simp only
    split
    · rename_i x t ha ht
      have e1 : args = #[x] := Array.ext' ha
      have e2 : types = #[t] := Array.ext' ht
      subst e1 e2
      exact pdSure P (opLen_sure P t x ho)
    · rename_i s x t u ha ht
      have e1 : args = #[s, x] := Array.ext' ha
      have e2 : types = #[t, u] := Array.ext' ht
      subst e1 e2
      exact append2_sure P t u s x ho
    · rename_i d x t u ha ht
      have e1 : args = #[d, x] := Array.ext' ha
      have e2 : types = #[t, u] := Array.ext' ht
      subst e1 e2
      exact copy_sure P t u d x ho
    · rename_i x r ha
      refine pdSure P ((minsI_sure P false (ev x) (r.map ev)).mono fun d hd N γ Fz w ρ hl hv => ?_)
      obtain ⟨u, h1, h2⟩ := hd N γ Fz w (ρ x) (r.map ρ) (hv x) (by simp) fun i hi => by
        simp at hi
        simp only [List.getElem_map, List.getD, List.getElem?_map, List.getElem?_eq_getElem hi, Option.map_some, Option.getD_some]
        exact hv _
      refine ⟨u, ?_, .pd _ _ h2⟩
      simp only [Bool.false_eq_true, if_false] at h1
      have e : (args.map ρ).toList = ρ x :: r.map ρ := by simp [ha]
      simp [execOp, ho, resolve, invoke, builtin, Builtin.min_, ha, h1]
    · rename_i x r ha
      refine pdSure P ((minsI_sure P true (ev x) (r.map ev)).mono fun d hd N γ Fz w ρ hl hv => ?_)
      obtain ⟨u, h1, h2⟩ := hd N γ Fz w (ρ x) (r.map ρ) (hv x) (by simp) fun i hi => by
        simp at hi
        simp only [List.getElem_map, List.getD, List.getElem?_map, List.getElem?_eq_getElem hi, Option.map_some, Option.getD_some]
        exact hv _
      refine ⟨u, ?_, .pd _ _ h2⟩
      simp only [if_true] at h1
      simp [execOp, ho, resolve, invoke, builtin, Builtin.max_, ha, h1]
    · rename_i f
      split
      · rename_i g first caps hf
        refine (opCall_sure P hcall h g _).mono fun r hr => ?_
        intro w0 F0 W0 N γ Fz H a w hrel hv hl hfr
        have h1 := hv f
        rw [hf] at h1
        obtain ⟨vf, vc, e, hsf, hsc, h2, h3⟩ := h1.inv_clo
        have hgd : ∀ (l : Array Value) i, l.toList.getD i undef = l.getD i undef := fun l i => by simp [List.getD, Array.getD_eq_getD_getElem?]
        have hrun := hr w0 F0 W0 N γ Fz H w (vf.toList ++ args.toList.map a.eval ++ vc.toList) (by simp [hsf, hsc]) hrel hl hfr fun i hi => by
          rw [getD_append3]
          simp only [Array.length_toList, List.length_map]
          by_cases h4 : i < first.length
          · rw [if_pos (by omega), hgd, List.getElem_append_left (by simp; omega), List.getElem_append_left h4]
            exact h2 i h4
          · rw [if_neg (by omega)]
            by_cases h5 : i < first.length + args.size
            · rw [if_pos (by omega), List.getElem_append_left (by simp; omega), List.getElem_append_right (by omega)]
              simp only [List.getElem_map, List.getD, List.getElem?_map, Array.getElem?_toList]
              rw [Array.getElem?_eq_getElem (by omega)]
              simp only [Option.map_some, Option.getD_some, hsf]
              exact hv _
            · have hi' : i < first.length + args.size + caps.length := by simpa [Nat.add_assoc] using hi
              rw [if_neg (by omega), hgd, List.getElem_append_right (by simp; omega)]
              have := h3 (i - first.length - args.size) (by omega)
              simp only [List.length_append, List.length_map, Array.length_toList, hsf]
              have e5 : i - (first.length + args.size) = i - first.length - args.size := by omega
              simp only [e5]
              exact this
        have ea : (vf.toList ++ args.toList.map a.eval ++ vc.toList).toArray = vf ++ args.map a.eval ++ vc := by
          apply Array.ext'
          simp
        rw [ea] at hrun
        exact opSound_runs P (types := #[]) ho e hrun
      · exact .fail
    · exact .fail
  · exact .fail
end ops
end Go.Ev
