/-
One operation: values handed on; rows that are written no more; stores.
-/
import Derived.Test.YtijjelcejpikiaaGreatDoorEvSnd5
set_option linter.unusedVariables false
set_option linter.unusedSimpArgs false
namespace Go.Ev
variable [Globs]
set_option linter.unusedSectionVars false
theorem disj_iff {a b : List Nat} (h : disj a b = true) : ∀ i ∈ a, i ∉ b := fun i hi => by
  have := List.all_eq_true.1 h i hi
  simpa using this
theorem applyU_other {H : Nat → Option Ob} : ∀ {l : Dl} {o : Nat}, o ∉ keysOf l → applyU H l o = H o
  | [], _, _ => rfl
  | (k, ob) :: l, o, h => by
    rw [applyU_cons, applyU_other (fun hh => h (by simp [keysOf] at hh ⊢; exact .inr hh)), upd_other]
    rintro rfl
    exact h (by simp [keysOf])
theorem keysOf_append (l l' : Dl) : keysOf (l ++ l') = keysOf l ++ keysOf l' := by simp [keysOf]

/-- What it means that a value is given away as pure data. K: the objects that were given before. -/
def GiveOK (look : Nat → Option Ob) (d : D) (x : PD) (l : Dl) : Prop :=
  (∀ i ∈ keysOf l, ∃ ob, look i = some ob ∧ ob.own = true) ∧
  ∀ (K : List Nat), (∀ i ∈ keysOf l, i ∉ K) → ∀ w0 F0 W0 fr N γ Fz H w v, Rel w0 F0 W0 N γ Fz H w → (∀ i ob, look i = some ob → (ob.own = true → i ∉ K) → H i = some ob ∧ ob.live = true) → V N γ Fz w d v →
    ∃ Fz', Go1 w0 F0 W0 fr N γ Fz w N γ Fz' (applyU H l) w ∧ RD Fz' w x v
theorem give1_sure (look : Nat → Option Ob) (d : D) : Sure (give1 look d) fun r => GiveOK look d r.1 r.2 := by
  unfold give1
  split
  · exact .pure ⟨by simp [keysOf], fun K _ w0 F0 W0 fr N γ Fz H w v hr hl hv => ⟨Fz, hr.go fr, hv.inv_pd⟩⟩
  · rename_i o
    refine .bindL fun ob hob => ?_
    split
    · refine .pure ⟨fun i hi => ?_, fun K hK w0 F0 W0 fr N γ Fz H w v hr hl hv => ?_⟩
      · simp [keysOf] at hi; subst hi; exact ⟨_, hob, rfl⟩
      · obtain ⟨hn, rfl, h1⟩ := hv.inv_ref
        have hH := (hl o _ hob fun _ => hK o (by simp [keysOf])).1
        refine ⟨_, hr.freeze fr o _ _ _ hH h1, ?_⟩
        exact ((hr.freeze fr o _ _ _ hH h1).rel.obs o _ (upd_same _ _ _)).1
    · refine .pure ⟨by simp [keysOf], fun K _ w0 F0 W0 fr N γ Fz H w v hr hl hv => ⟨Fz, hr.go fr, ?_⟩⟩
      obtain ⟨hn, rfl, h1⟩ := hv.inv_ref
      exact (hr.obs o _ (hl o _ hob (fun h => by cases h)).1).1
    · exact .fail
  · rename_i o lo hi
    refine .bindL fun ob hob => ?_
    split
    · rename_i k m xs
      refine .need fun hm0 => have hm := of_decide_eq_true hm0; .pure ⟨fun i hi => ?_, fun K hK w0 F0 W0 fr N γ Fz H w v hr hl hv => ?_⟩
      · simp [keysOf] at hi; subst hi; exact ⟨_, hob, rfl⟩
      · obtain ⟨b, a, cap, hn, hg, hlo, hcap, ha, rfl⟩ := hv.inv_asl
        have hH := (hl o _ hob fun _ => hK o (by simp [keysOf])).1
        obtain ⟨b', E, hg', hb, hxs⟩ := hr.obs o _ hH
        rw [hg] at hg'
        cases hg'
        refine ⟨_, hr.freezeInts fr o _ _ _ hH, ?_⟩
        have hlen : ((xs.take hi).drop lo).length = hi - lo := by simp; omega
        rw [← hlen]
        refine .nums _ _ a cap (by omega) fun h0 => ?_
        rw [ha (by omega)]
        refine ⟨rfl, .inr (by rw [hg]; rfl), fun j v hj => ?_⟩
        simp only [List.getElem?_map, List.getElem?_drop, List.getElem?_take] at hj
        simp only [World.cell?, hb]
        split at hj
        · simpa using hj
        · simp at hj
    · exact .fail
  · exact .fail
theorem gives_sure (look : Nat → Option Ob) : ∀ ds : List D, Sure (gives look ds) fun r => r.1.length = ds.length ∧ (∀ i ∈ keysOf r.2, ∃ ob, look i = some ob ∧ ob.own = true) ∧
    ∀ (K : List Nat), (∀ i ∈ keysOf r.2, i ∉ K) → ∀ w0 F0 W0 fr N γ Fz H w (vs : List Value), vs.length = ds.length → Rel w0 F0 W0 N γ Fz H w → (∀ i ob, look i = some ob → (ob.own = true → i ∉ K) → H i = some ob ∧ ob.live = true) →
      (∀ i (h : i < ds.length), V N γ Fz w ds[i] (vs.getD i undef)) → ∃ Fz', Go1 w0 F0 W0 fr N γ Fz w N γ Fz' (applyU H r.2) w ∧ ∀ i (h : i < r.1.length), RD Fz' w r.1[i] (vs.getD i undef)
  | [] => .pure ⟨rfl, by simp [keysOf], fun K _ w0 F0 W0 fr N γ Fz H w vs _ hr hl hv => ⟨Fz, hr.go fr, fun i h => by simp at h⟩⟩
  | d :: ds => by
    unfold gives
    refine .bind (give1_sure look d) fun p hp => .bind (gives_sure look ds) fun q hq => ?_
    obtain ⟨x, l⟩ := p; obtain ⟨xs, l'⟩ := q
    obtain ⟨hk1, hs1⟩ := hp
    obtain ⟨hlen, hk2, hs2⟩ := hq
    refine .iteF fun hd => .pure ⟨by simp [hlen], fun i hi => ?_, fun K hK w0 F0 W0 fr N γ Fz H w vs hvl hr hl hv => ?_⟩
    · simp only [keysOf_append, List.mem_append] at hi
      exact hi.elim (hk1 i) (hk2 i)
    · have hdj := disj_iff hd
      cases vs with
      | nil => simp at hvl
      | cons v vs =>
        obtain ⟨F1, hg1, hr1⟩ := hs1 K (fun i hi => hK i (by simp [keysOf_append, hi])) w0 F0 W0 fr N γ Fz H w v hr hl (by have := hv 0 (by simp); simpa using this)
        obtain ⟨F2, hg2, hr2⟩ := hs2 (K ++ keysOf l) (fun i hi => by
            simp only [List.mem_append, not_or]
            exact ⟨hK i (by simp [keysOf_append, hi]), fun h => hdj i h hi⟩) w0 F0 W0 fr N γ F1 (applyU H l) w vs (by simpa using hvl) hg1.rel
          (fun i ob hi hK' => by
            have hik : i ∉ keysOf l := fun h => by
              obtain ⟨ob', hob', how⟩ := hk1 i h
              rw [hi] at hob'
              cases hob'
              exact hK' how (by simp [h])
            rw [applyU_other hik]
            exact hl i ob hi fun ho h => hK' ho (by simp [h]))
          (fun i h => by
            have := hv (i + 1) (by simpa using h)
            simp only [List.getElem_cons_succ] at this
            exact V.ext this hg1.ext)
        refine ⟨F2, ?_, fun i h => ?_⟩
        · simp only [applyU_append]
          exact hg1.trans hg2
        · cases i with
          | zero => exact hr1.mono hg2.ext.fz
          | succ i => have := hr2 i (by simpa using h); simpa using this
theorem give_sure (look : Nat → Option Ob) (d : D) : Sure (give look d) fun r => GiveOK look d r.1 r.2 := by
  unfold give
  split
  · rename_i ds
    refine .bind (gives_sure look ds) fun p hp => .pure ?_
    obtain ⟨xs, l⟩ := p
    obtain ⟨hlen, hk, hs⟩ := hp
    refine ⟨hk, fun K hK w0 F0 W0 fr N γ Fz H w v hr hl hv => ?_⟩
    obtain ⟨vs, rfl, hsz, ho, hvs⟩ := hv.inv_agg
    have e : ∀ i, vs.toList.getD i undef = vs.getD i undef := fun i => by simp [List.getD, Array.getD_eq_getD_getElem?]
    obtain ⟨F', hg, hr'⟩ := hs K hK w0 F0 W0 fr N γ Fz H w vs.toList (by simpa using hsz) hr hl (fun i h => by rw [e]; exact hvs i h)
    exact ⟨F', hg, .agg _ _ (hsz.trans hlen.symm) ho fun i h => by have := hr' i h; rwa [e] at this⟩
  · exact give1_sure look d
/-- The usual start: nothing was given before. -/
theorem GiveOK.now {look : Nat → Option Ob} {d : D} {x : PD} {l : Dl} (h : GiveOK look d x l) {w0 : World} {F0 W0 N : Nat → Prop} {γ : Nat → Value} {Fz : Nat → Prop} {H : Nat → Option Ob} {w : World} {v : Value} (fr : Nat) (hr : Rel w0 F0 W0 N γ Fz H w)
    (hl : ∀ i ob, look i = some ob → H i = some ob ∧ ob.live = true) (hv : V N γ Fz w d v) : ∃ Fz', Go1 w0 F0 W0 fr N γ Fz w N γ Fz' (applyU H l) w ∧ RD Fz' w x v :=
  h.2 [] (by simp) w0 F0 W0 fr N γ Fz H w v hr (fun i ob hi _ => hl i ob hi) hv

section ops
variable (P : Program) {o : Oper} {ev : Operand → D} {look : Nat → Option Ob} {fr : Nat}
theorem toArr_sure (T : TypeId) (x : Operand) (ho : o.op = .sliceToArrayPointer T x) : Sure (opSliceToArr P look T (ev x)) (OpOK P o ev look fr) := by
  unfold opSliceToArr
  refine .bindL fun p hp => .bind (give1_sure look (ev x)) fun q hq => .bindL fun xs hxs => .iteF fun h0 => .need fun hn => .pure ?_
  obtain ⟨k, n⟩ := p; obtain ⟨y, l⟩ := q
  simp only at hp hq hxs h0 hn
  have hn := of_decide_eq_true hn
  intro w0 F0 W0 N γ Fz H a w hr hv hl hfr
  obtain ⟨F', hg, hrd⟩ := GiveOK.now hq fr hr hl (hv x)
  have hT : ∃ e, P.underlying T = some (.array n e) := by
    unfold intsT at hp
    split at hp
    · split at hp
      · cases hp; exact ⟨_, ‹_›⟩
      · cases hp
    · cases hp
  obtain ⟨e, hT⟩ := hT
  have hrn := hrd.nums? hxs
  rcases hrn.inv_nums with ⟨rfl, _⟩ | ⟨ad, cap, hval, hcap, hc⟩
  · simp at hn; omega
  · obtain ⟨hs, hF, hca⟩ := hc (by omega)
    refine .value (v := .pointer (some ad)) (w' := w) ?_ ⟨N, γ, F', hg, ?_⟩
    · have hnl : ¬ xs.length < n := by omega
      simp [execOp, ho, Instr.arrayAt, run_underlying hT, hval, hnl]
    · have : ad = ⟨ad.block, ad.off + 0, none⟩ := by cases ad; simp only at hs; subst hs; rfl
      rw [this]
      refine .rptr _ 0 ad.block ad.off (.agg ((xs.take n).map (Value.int k)).toArray) (.arr k n _ (by simp; omega)) hF fun j v hj => hca j v ?_
      simp only [Value.cells, List.map_take] at hj
      rw [List.getElem?_take] at hj
      split at hj
      · exact hj
      · cases hj
end ops
end Go.Ev
