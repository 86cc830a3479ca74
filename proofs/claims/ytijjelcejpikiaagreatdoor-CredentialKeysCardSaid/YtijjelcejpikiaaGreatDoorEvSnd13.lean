/-
Calls: what is handed over, new names and back.
-/
import Derived.Test.YtijjelcejpikiaaGreatDoorEvSnd12
set_option linter.unusedVariables false
set_option linter.unusedSimpArgs false
namespace Go.Ev
variable [Globs]
set_option linter.unusedSectionVars false

/-! ### Names anew -/
theorem renL_eq (f : Nat → Option Nat) (ds : List D) : D.renL f ds = ds.map (D.ren f) := by
  induction ds with
  | nil => rfl
  | cons d ds ih => rw [D.renL, ih]; rfl
theorem V.ren {N N' : Nat → Prop} {γ γ' : Nat → Value} {Fz : Nat → Prop} {w : World} {d : D} {v : Value} (f : Nat → Option Nat) (h : V N γ Fz w d v) (hf : ∀ o o', f o = some o' → N o → N' o' ∧ γ' o' = γ o) : V N' γ' Fz w (d.ren f) v := by
  induction h with
  | pd x v h => exact .pd x v h
  | agg ds vs hs ho hv ih =>
    rw [D.ren, renL_eq]
    refine .agg _ _ (by simpa using hs) ho fun i hi => ?_
    simp only [List.getElem_map]
    exact ih i (by simpa using hi)
  | tup ds vs hs hv ih =>
    rw [D.ren, renL_eq]
    refine .tup _ _ (by simpa using hs) fun i hi => ?_
    simp only [List.getElem_map]
    exact ih i (by simpa using hi)
  | ptr o off b hn hg =>
    simp only [D.ren]
    split
    · rename_i o' ho
      obtain ⟨h1, h2⟩ := hf o o' ho hn
      exact .ptr o' off b h1 (h2.trans hg)
    · exact .junk _
  | ref o hn h1 =>
    simp only [D.ren]
    split
    · rename_i o' ho
      obtain ⟨h2, h3⟩ := hf o o' ho hn
      rw [← h3] at h1 ⊢
      exact .ref o' h2 h1
    · exact .junk _
  | eptr o z i off b n c hn hg =>
    simp only [D.ren]
    split
    · rename_i o' ho
      obtain ⟨h1, h2⟩ := hf o o' ho hn
      exact .eptr o' z i off b n c h1 (h2.trans hg)
    · exact .junk _
  | rptr x off b base u h hb hc => exact .rptr x off b base u h hb hc
  | asl o lo hi b a cap hn hg hl hc ha =>
    simp only [D.ren]
    split
    · rename_i o' ho
      obtain ⟨h1, h2⟩ := hf o o' ho hn
      exact .asl o' lo hi b a cap h1 (h2.trans hg) hl hc ha
    · exact .junk _
  | clo g first caps vf vc hf' hc h1 h2 ih1 ih2 =>
    rw [D.ren, renL_eq, renL_eq]
    refine .clo _ _ _ _ _ (by simpa using hf') (by simpa using hc) (fun i hi => ?_) fun i hi => ?_
    · simp only [List.getElem_map]; exact ih1 i (by simpa using hi)
    · simp only [List.getElem_map]; exact ih2 i (by simpa using hi)
  | ifc t d u h ih =>
    rw [D.ren, renL_eq]
    exact .ifc t _ u ih
  | junk v => exact .junk v
theorem ObR.ren {N N' : Nat → Prop} {γ γ' : Nat → Value} {Fz : Nat → Prop} {w : World} {g : Value} {ob : Ob} (f : Nat → Option Nat) (h : ObR N γ Fz w g ob) (hf : ∀ o o', f o = some o' → N o → N' o' ∧ γ' o' = γ o) : ObR N' γ' Fz w g (ob.ren f) := by
  cases ob with
  | cells ds =>
    obtain ⟨b, cs, E, h1, h2, h3, h4, h5⟩ := h
    simp only [Ob.ren, renL_eq]
    refine ⟨b, cs, E, h1, h2, by simpa using h3, h4, fun i hi => ?_⟩
    simp only [List.getElem_map]
    exact (h5 i (by simpa using hi)).ren f hf
  | ints k m xs => exact h
  | flags m bs => exact h
  | arr z e x => exact h
  | froz x => exact h
  | dead => exact h
theorem ren_own (f : Nat → Option Nat) (ob : Ob) : (ob.ren f).own = ob.own := by cases ob <;> rfl
theorem ren_live (f : Nat → Option Nat) (ob : Ob) : (ob.ren f).live = ob.live := by cases ob <;> rfl

/-! ### What hangs on no row -/
theorem RD.indep {Fz Fz' : Nat → Prop} {w : World} {x : PD} {v : Value} (h : RD Fz w x v) (hi : x.indep = true) : RD Fz' w x v := by
  have one : ∀ (x : PD) (v : Value), RD Fz w x v → (match x with | .bool _ | .int _ _ | .str _ | .opq _ => true | _ => false) = true → RD Fz' w x v := by
    intro x v h hx
    cases x <;> simp at hx
    · rw [h.inv_bool]; exact .bool _
    · rw [h.inv_int]; exact .int _ _
    · rw [h.inv_str]; exact .str _
    · rw [h.inv_opq]; exact .opq _
  cases x with
  | bool b => exact one _ _ h rfl
  | int k n => exact one _ _ h rfl
  | str s => exact one _ _ h rfl
  | opq u => exact one _ _ h rfl
  | arr k m xs => obtain ⟨h1, rfl⟩ := h.inv_arr; exact .arr k m xs h1
  | nums k xs => cases hi
  | anyb => cases hi
  | sl z xs => cases hi
  | agg xs =>
    obtain ⟨vs, rfl, hs, ho, hr⟩ := h.inv_agg
    refine .agg xs vs hs ho fun i hlt => one _ _ (hr i hlt) ?_
    have key : ∀ (xs : List PD), PD.indep.indepL xs = true → ∀ i (h : i < xs.length), (match xs[i] with | .bool _ | .int _ _ | .str _ | .opq _ => true | _ => false) = true := by
      intro xs
      induction xs with
      | nil => intro _ i h; simp at h
      | cons x xs ih =>
        intro hx i hlt
        simp only [PD.indep.indepL, Bool.and_eq_true] at hx
        cases i with
        | zero => exact hx.1
        | succ i => exact ih hx.2 i (by simpa using hlt)
    exact key xs hi i hlt
theorem indepL_at : ∀ (ds : List D), D.indepL ds = true → ∀ i (h : i < ds.length), ds[i].indep = true
  | [], _, i, h => by simp at h
  | d :: ds, hx, i, hlt => by
    simp only [D.indepL, Bool.and_eq_true] at hx
    cases i with
    | zero => exact hx.1
    | succ i => exact indepL_at ds hx.2 i (by simpa using hlt)
theorem V.indep {N : Nat → Prop} {γ : Nat → Value} {Fz Fz' : Nat → Prop} {w : World} {d : D} {v : Value} (h : V N γ Fz w d v) (hi : d.indep = true) : V N γ Fz' w d v := by
  induction h with
  | pd x v h => exact .pd x v (h.indep hi)
  | agg ds vs hs ho hv ih => exact .agg ds vs hs ho fun i hlt => ih i hlt (indepL_at ds hi i hlt)
  | tup ds vs hs hv ih => exact .tup ds vs hs fun i hlt => ih i hlt (indepL_at ds hi i hlt)
  | ptr o off b hn hg => exact .ptr o off b hn hg
  | ref o hn h1 => exact .ref o hn h1
  | junk v => cases hi
  | eptr => cases hi
  | rptr => cases hi
  | asl => cases hi
  | clo => cases hi
  | ifc => cases hi
theorem ObR.indep {N : Nat → Prop} {γ : Nat → Value} {Fz Fz' : Nat → Prop} {w : World} {g : Value} {ob : Ob} (h : ObR N γ Fz w g ob) (hi : ob.indep = true) : ObR N γ Fz' w g ob := by
  cases ob with
  | cells ds =>
    obtain ⟨b, cs, E, h1, h2, h3, h4, h5⟩ := h
    exact ⟨b, cs, E, h1, h2, h3, h4, fun i hlt => (h5 i hlt).indep (indepL_at ds hi i hlt)⟩
  | ints k m xs => exact h
  | flags m bs => exact h
  | arr z e x =>
    cases x with
    | nums k xs => exact h
    | _ => cases hi
  | froz x => cases hi
  | dead => exact h

/-! ### What is handed over -/
theorem hand1_sure (look : Nat → Option Ob) (keep : Bool) (d : D) : Sure (hand1 look keep d) fun r => (∀ i ∈ keysOf r.2, ∃ ob, look i = some ob ∧ ob.own = true) ∧
    ∀ (K : List Nat), (∀ i ∈ keysOf r.2, i ∉ K) → ∀ w0 F0 W0 fr N γ Fz H w v, Rel w0 F0 W0 N γ Fz H w → (∀ i ob, look i = some ob → (ob.own = true → i ∉ K) → H i = some ob ∧ ob.live = true) → V N γ Fz w d v →
    ∃ Fz', Go1 w0 F0 W0 fr N γ Fz w N γ Fz' (applyU H r.2) w ∧ V N γ Fz' w r.1 v := by
  have same : ∀ d : D, (∀ i ∈ keysOf ([] : Dl), ∃ ob, look i = some ob ∧ ob.own = true) ∧
    ∀ (K : List Nat), (∀ i ∈ keysOf ([] : Dl), i ∉ K) → ∀ w0 F0 W0 fr N γ Fz H w v, Rel w0 F0 W0 N γ Fz H w → (∀ i ob, look i = some ob → (ob.own = true → i ∉ K) → H i = some ob ∧ ob.live = true) → V N γ Fz w d v →
    ∃ Fz', Go1 w0 F0 W0 fr N γ Fz w N γ Fz' (applyU H []) w ∧ V N γ Fz' w d v := fun d =>
    ⟨by simp [keysOf], fun K _ w0 F0 W0 fr N γ Fz H w v hr _ hv => ⟨Fz, hr.go fr, hv⟩⟩
  have give : ∀ d : D, Sure (C.bind (give1 look d) fun p => C.pure (D.pd p.1, p.2)) fun r => (∀ i ∈ keysOf r.2, ∃ ob, look i = some ob ∧ ob.own = true) ∧
    ∀ (K : List Nat), (∀ i ∈ keysOf r.2, i ∉ K) → ∀ w0 F0 W0 fr N γ Fz H w v, Rel w0 F0 W0 N γ Fz H w → (∀ i ob, look i = some ob → (ob.own = true → i ∉ K) → H i = some ob ∧ ob.live = true) → V N γ Fz w d v →
    ∃ Fz', Go1 w0 F0 W0 fr N γ Fz w N γ Fz' (applyU H r.2) w ∧ V N γ Fz' w r.1 v := fun d =>
    .bind (give1_sure look d) fun p hp => .pure ⟨hp.1, fun K hK w0 F0 W0 fr N γ Fz H w v hr hl hv =>
      let ⟨F', h1, h2⟩ := hp.2 K hK w0 F0 W0 fr N γ Fz H w v hr hl hv
      ⟨F', h1, .pd _ _ h2⟩⟩
  cases d with
  | ref o => cases keep with
    | true => exact .pure (same _)
    | false => exact give (.ref o)
  | asl o lo hi => cases keep with
    | true => exact .pure (same _)
    | false => exact give (.asl o lo hi)
  | tup ds => exact .fail
  | agg ds => exact .fail
  | _ => exact .pure (same _)
/-- One after the other. -/
theorem handL_sure (look : Nat → Option Ob) (f : Nat → D → C (D × Dl)) (g : Nat → List D → C (List D × Dl)) (hg0 : ∀ i, g i [] = C.pure ([], []))
    (hg : ∀ i d ds, g i (d :: ds) = C.bind (f i d) fun p => C.bind (g (i + 1) ds) fun q => if disj (keysOf p.2) (keysOf q.2) then C.pure (p.1 :: q.1, p.2 ++ q.2) else C.fail)
    (hf : ∀ i d, Sure (f i d) fun r => (∀ i ∈ keysOf r.2, ∃ ob, look i = some ob ∧ ob.own = true) ∧
      ∀ (K : List Nat), (∀ i ∈ keysOf r.2, i ∉ K) → ∀ w0 F0 W0 fr N γ Fz H w v, Rel w0 F0 W0 N γ Fz H w → (∀ i ob, look i = some ob → (ob.own = true → i ∉ K) → H i = some ob ∧ ob.live = true) → V N γ Fz w d v →
      ∃ Fz', Go1 w0 F0 W0 fr N γ Fz w N γ Fz' (applyU H r.2) w ∧ V N γ Fz' w r.1 v) :
    ∀ (ds : List D) (j : Nat), Sure (g j ds) fun r => r.1.length = ds.length ∧ (∀ i ∈ keysOf r.2, ∃ ob, look i = some ob ∧ ob.own = true) ∧
    ∀ (K : List Nat), (∀ i ∈ keysOf r.2, i ∉ K) → ∀ w0 F0 W0 fr N γ Fz H w (vs : List Value), vs.length = ds.length → Rel w0 F0 W0 N γ Fz H w → (∀ i ob, look i = some ob → (ob.own = true → i ∉ K) → H i = some ob ∧ ob.live = true) →
      (∀ i (h : i < ds.length), V N γ Fz w ds[i] (vs.getD i undef)) → ∃ Fz', Go1 w0 F0 W0 fr N γ Fz w N γ Fz' (applyU H r.2) w ∧ ∀ i (h : i < r.1.length), V N γ Fz' w r.1[i] (vs.getD i undef)
  | [], j => by rw [hg0]; exact .pure ⟨rfl, by simp [keysOf], fun K _ w0 F0 W0 fr N γ Fz H w vs _ hr hl hv => ⟨Fz, hr.go fr, fun i h => by simp at h⟩⟩
  | d :: ds, j => by
    rw [hg]
    refine .bind (hf j d) fun p hp => .bind (handL_sure look f g hg0 hg hf ds (j + 1)) fun q hq => ?_
    obtain ⟨x, l⟩ := p; obtain ⟨xs, l'⟩ := q
    obtain ⟨hk1, hs1⟩ := hp
    obtain ⟨hlen, hk2, hs2⟩ := hq
    refine .iteF fun hd => .pure ⟨by simp [hlen], fun i hi => ?_, fun K hK w0 F0 W0 fr N γ Fz H w vs hvl hr hl hv => ?_⟩
    · simp only [keysOf_append, List.mem_append] at hi
      exact hi.elim (hk1 i) (hk2 i)
    · have hdj := disj_iff hd
      cases vs with
      | nil => simp at hvl
      | cons v vs =>
        obtain ⟨F1, hg1, hr1⟩ := hs1 K (fun i hi => hK i (by simp [keysOf_append, hi])) w0 F0 W0 fr N γ Fz H w v hr hl (by have := hv 0 (by simp); simpa using this)
        obtain ⟨F2, hg2, hr2⟩ := hs2 (K ++ keysOf l) (fun i hi => by
            simp only [List.mem_append, not_or]
            exact ⟨hK i (by simp [keysOf_append, hi]), fun h => hdj i h hi⟩) w0 F0 W0 fr N γ F1 (applyU H l) w vs (by simpa using hvl) hg1.rel
          (fun i ob hi hK' => by
            have hik : i ∉ keysOf l := fun h => by
              obtain ⟨ob', hob', how⟩ := hk1 i h
              rw [hi] at hob'
              cases hob'
              exact hK' how (by simp [h])
            rw [applyU_other hik]
            exact hl i ob hi fun ho h => hK' ho (by simp [h]))
          (fun i h => by
            have := hv (i + 1) (by simpa using h)
            simp only [List.getElem_cons_succ] at this
            exact V.ext this hg1.ext)
        refine ⟨F2, ?_, fun i h => ?_⟩
        · simp only [applyU_append]
          exact hg1.trans hg2
        · cases i with
          | zero => exact hr1.ext hg2.ext
          | succ i => have := hr2 i (by simpa using h); simpa using this
theorem hand_sure (look : Nat → Option Ob) (keep : Bool) (d : D) : Sure (hand look keep d) fun r => (∀ i ∈ keysOf r.2, ∃ ob, look i = some ob ∧ ob.own = true) ∧
    ∀ (K : List Nat), (∀ i ∈ keysOf r.2, i ∉ K) → ∀ w0 F0 W0 fr N γ Fz H w v, Rel w0 F0 W0 N γ Fz H w → (∀ i ob, look i = some ob → (ob.own = true → i ∉ K) → H i = some ob ∧ ob.live = true) → V N γ Fz w d v →
    ∃ Fz', Go1 w0 F0 W0 fr N γ Fz w N γ Fz' (applyU H r.2) w ∧ V N γ Fz' w r.1 v := by
  unfold hand
  split
  · rename_i ds
    refine .bind (handL_sure look (fun _ => hand1 look keep) (fun _ => handL look keep) (fun _ => rfl) (fun _ _ _ => rfl) (fun _ => hand1_sure look keep) ds 0) fun p hp => .pure ?_
    obtain ⟨xs, l⟩ := p
    obtain ⟨hlen, hk, hs⟩ := hp
    refine ⟨hk, fun K hK w0 F0 W0 fr N γ Fz H w v hr hl hv => ?_⟩
    obtain ⟨vs, rfl, hsz, ho, hvs⟩ := hv.inv_agg
    have e : ∀ i, vs.toList.getD i undef = vs.getD i undef := fun i => by simp [List.getD, Array.getD_eq_getD_getElem?]
    obtain ⟨F', hg, hr'⟩ := hs K hK w0 F0 W0 fr N γ Fz H w vs.toList (by simpa using hsz) hr hl (fun i h => by rw [e]; exact hvs i h)
    exact ⟨F', hg, mkAgg_V (hsz.trans hlen.symm) ho fun i h => by have := hr' i h; rwa [e] at this⟩
  · exact hand1_sure look keep d
theorem hands_sure (look : Nat → Option Ob) (kept : Nat → Bool) (ds : List D) : Sure (hands look kept 0 ds) fun r => r.1.length = ds.length ∧ (∀ i ∈ keysOf r.2, ∃ ob, look i = some ob ∧ ob.own = true) ∧
    ∀ w0 F0 W0 fr N γ Fz H w (vs : List Value), vs.length = ds.length → Rel w0 F0 W0 N γ Fz H w → (∀ i ob, look i = some ob → H i = some ob ∧ ob.live = true) →
      (∀ i (h : i < ds.length), V N γ Fz w ds[i] (vs.getD i undef)) → ∃ Fz', Go1 w0 F0 W0 fr N γ Fz w N γ Fz' (applyU H r.2) w ∧ ∀ i (h : i < r.1.length), V N γ Fz' w r.1[i] (vs.getD i undef) :=
  (handL_sure look (fun i => hand look (kept i)) (hands look kept) (fun _ => rfl) (fun _ _ _ => rfl) (fun i => hand_sure look (kept i)) ds 0).mono fun r hr =>
    ⟨hr.1, hr.2.1, fun w0 F0 W0 fr N γ Fz H w vs hl hrel hlk hv => hr.2.2 [] (by simp) w0 F0 W0 fr N γ Fz H w vs hl hrel (fun i ob hi _ => hlk i ob hi) hv⟩

/-- The blocks of these objects. -/
def Blks (γ : Nat → Value) (bl : List Nat) (b : Nat) : Prop := ∃ o ∈ bl, blkOf (γ o) = some b
theorem lend1_sure (look : Nat → Option Ob) (d : D) : Sure (lend1 look d) fun r => (∀ i ∈ r.2, ∃ ob, look i = some ob ∧ ob.own = true) ∧
    ∀ N γ Fz w v, LookOk look N γ Fz w → V N γ Fz w d v → V N γ (fun b => Fz b ∨ Blks γ r.2 b) w r.1 v := by
  have same : ∀ d : D, (∀ i ∈ ([] : List Nat), ∃ ob, look i = some ob ∧ ob.own = true) ∧ ∀ N γ Fz w v, LookOk look N γ Fz w → V N γ Fz w d v → V N γ (fun b => Fz b ∨ Blks γ [] b) w d v := fun d =>
    ⟨by simp, fun N γ Fz w v _ hv => hv.frame (fun o h => ⟨h, rfl⟩) (fun b h => .inl h) fun _ _ => rfl⟩
  cases d with
  | ref o =>
    refine .bindL fun ob hob => ?_
    cases ob with
    | arr z e x =>
      refine .pure ⟨fun i hi => ?_, fun N γ Fz w v hl hv => ?_⟩
      · simp at hi; subst hi; exact ⟨_, hob, rfl⟩
      · obtain ⟨hn, rfl, h1⟩ := hv.inv_ref
        obtain ⟨_, _, n, cs, hrow, hown⟩ := hl o _ hob
        refine .pd _ _ ?_
        rcases hown.cells with ⟨e, hn⟩ | ⟨b, cap, e, hn, hc⟩
        · rw [e]; subst hn; exact hrow.toNil
        · have hb : blkOf (γ o) = some b := by rw [e]; rfl
          rw [e]
          exact hrow.toRD (fun b hb => .inl hb) _ _ hn fun _ => ⟨rfl, .inr ⟨o, by simp, hb⟩, hc⟩
    | froz x =>
      refine .pure ⟨by simp, fun N γ Fz w v hl hv => ?_⟩
      obtain ⟨hn, rfl, h1⟩ := hv.inv_ref
      exact .pd _ _ ((hl o _ hob).2.2.1.mono fun b h => .inl h)
    | _ => exact .fail
  | asl o lo hi =>
    refine .bindL fun ob hob => ?_
    cases ob with
    | ints k m xs =>
      refine .need fun hm0 => have hm := of_decide_eq_true hm0; .pure ⟨fun i hi => ?_, fun N γ Fz w v hl hv => ?_⟩
      · simp at hi; subst hi; exact ⟨_, hob, rfl⟩
      · obtain ⟨b, a, cap, hn, hg, hlo, hcap, ha, rfl⟩ := hv.inv_asl
        obtain ⟨_, _, b', E, hg', hb, hxs⟩ := hl o _ hob
        rw [hg] at hg'
        cases hg'
        have hlen : ((xs.take hi).drop lo).length = hi - lo := by simp; omega
        rw [← hlen]
        refine .pd _ _ (.nums _ _ a cap (by omega) fun h0 => ?_)
        rw [ha (by omega)]
        refine ⟨rfl, .inr ⟨o, by simp, by rw [hg]; rfl⟩, fun j v hj => ?_⟩
        simp only [List.getElem?_map, List.getElem?_drop, List.getElem?_take] at hj
        simp only [World.cell?, hb]
        split at hj
        · simpa using hj
        · simp at hj
    | _ => exact .fail
  | tup ds => exact .fail
  | agg ds => exact .fail
  | _ => exact .pure (same _)
theorem lendL_sure (look : Nat → Option Ob) (f : D → C (D × List Nat)) (g : List D → C (List D × List Nat)) (hg0 : g [] = C.pure ([], []))
    (hg : ∀ d ds, g (d :: ds) = C.bind (f d) fun p => C.bind (g ds) fun q => C.pure (p.1 :: q.1, p.2 ++ q.2))
    (hf : ∀ d, Sure (f d) fun r => (∀ i ∈ r.2, ∃ ob, look i = some ob ∧ ob.own = true) ∧ ∀ N γ Fz w v, LookOk look N γ Fz w → V N γ Fz w d v → V N γ (fun b => Fz b ∨ Blks γ r.2 b) w r.1 v) :
    ∀ (ds : List D), Sure (g ds) fun r => r.1.length = ds.length ∧ (∀ i ∈ r.2, ∃ ob, look i = some ob ∧ ob.own = true) ∧
    ∀ N γ Fz w (vs : List Value), vs.length = ds.length → LookOk look N γ Fz w → (∀ i (h : i < ds.length), V N γ Fz w ds[i] (vs.getD i undef)) → ∀ i (h : i < r.1.length), V N γ (fun b => Fz b ∨ Blks γ r.2 b) w r.1[i] (vs.getD i undef)
  | [] => by rw [hg0]; exact .pure ⟨rfl, by simp, fun N γ Fz w vs _ hl hv i h => by simp at h⟩
  | d :: ds => by
    rw [hg]
    refine .bind (hf d) fun p hp => .bind (lendL_sure look f g hg0 hg hf ds) fun q hq => .pure ⟨by simp [hq.1], fun i hi => ?_, fun N γ Fz w vs hvl hl hv i hi => ?_⟩
    · exact (List.mem_append.1 hi).elim (hp.1 i) (hq.2.1 i)
    · have wide : ∀ {d : D} {v : Value} (l : List Nat), (∀ o ∈ l, o ∈ p.2 ++ q.2) → V N γ (fun b => Fz b ∨ Blks γ l b) w d v → V N γ (fun b => Fz b ∨ Blks γ (p.2 ++ q.2) b) w d v := fun l hl h =>
        h.frame (fun o h => ⟨h, rfl⟩) (fun b hb => hb.imp id fun ⟨o, ho, e⟩ => ⟨o, hl o ho, e⟩) fun _ _ => rfl
      cases vs with
      | nil => simp at hvl
      | cons v vs =>
        cases i with
        | zero =>
          have h0 := hp.2 N γ Fz w v hl (by have := hv 0 (by simp); simpa using this)
          exact wide p.2 (fun o ho => by simp [ho]) h0
        | succ i =>
          have h1 := hq.2.2 N γ Fz w vs (by simpa using hvl) hl (fun i h => by
            have := hv (i + 1) (by simpa using h)
            simpa using this) i (by simpa using hi)
          have := wide q.2 (fun o ho => by simp [ho]) h1
          simpa using this
theorem lend_sure (look : Nat → Option Ob) (d : D) : Sure (lend look d) fun r => (∀ i ∈ r.2, ∃ ob, look i = some ob ∧ ob.own = true) ∧ ∀ N γ Fz w v, LookOk look N γ Fz w → V N γ Fz w d v → V N γ (fun b => Fz b ∨ Blks γ r.2 b) w r.1 v := by
  unfold lend
  split
  · rename_i ds
    refine .bind (lendL_sure look (lend1 look) (lendL look) rfl (fun _ _ => rfl) (lend1_sure look) ds) fun p hp => .pure ⟨hp.2.1, fun N γ Fz w v hl hv => ?_⟩
    obtain ⟨vs, rfl, hsz, ho, hvs⟩ := hv.inv_agg
    have e : ∀ i, vs.toList.getD i undef = vs.getD i undef := fun i => by simp [List.getD, Array.getD_eq_getD_getElem?]
    exact mkAgg_V (hsz.trans hp.1.symm) ho fun i h => by
      have := hp.2.2 N γ Fz w vs.toList (by simpa using hsz) hl (fun i h => by rw [e]; exact hvs i h) i h
      rwa [e] at this
  · exact lend1_sure look d
theorem lends_sure (look : Nat → Option Ob) (ds : List D) : Sure (lends look ds) fun r => r.1.length = ds.length ∧ (∀ i ∈ r.2, ∃ ob, look i = some ob ∧ ob.own = true) ∧
    ∀ N γ Fz w (vs : List Value), vs.length = ds.length → LookOk look N γ Fz w → (∀ i (h : i < ds.length), V N γ Fz w ds[i] (vs.getD i undef)) → ∀ i (h : i < r.1.length), V N γ (fun b => Fz b ∨ Blks γ r.2 b) w r.1[i] (vs.getD i undef) :=
  lendL_sure look (lend look) (lends look) rfl (fun _ _ => rfl) (lend_sure look) ds
end Go.Ev
