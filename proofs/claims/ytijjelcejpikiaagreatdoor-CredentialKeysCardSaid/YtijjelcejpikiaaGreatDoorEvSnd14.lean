/-
Calls.
-/
import Derived.Test.YtijjelcejpikiaaGreatDoorEvSnd13
set_option linter.unusedVariables false
set_option linter.unusedSimpArgs false
namespace Go.Ev
variable [Globs]
set_option linter.unusedSectionVars false

/-- A call of function g: by its body, or at once. -/
def RunsF (P : Program) (g : FuncId) (args : Array Value) (w : World) (R : Value → World → Prop) : Prop :=
  ((callFunc g args).run P w = .ok (.enter g args) w ∧ Calls P g args w fun e w' => ∃ v, e = .returned v ∧ R v w') ∨ ∃ v w', (callFunc g args).run P w = .ok (.value v) w' ∧ R v w'
theorem RunsF.mono {P : Program} {g : FuncId} {args : Array Value} {w : World} {R R' : Value → World → Prop} (h : RunsF P g args w R) (hr : ∀ v w', R v w' → R' v w') : RunsF P g args w R' := by
  rcases h with ⟨h1, h2⟩ | ⟨v, w', h1, h2⟩
  · exact .inl ⟨h1, h2.mono fun e w' ⟨v, he, h⟩ => ⟨v, he, hr _ _ h⟩⟩
  · exact .inr ⟨v, w', h1, hr _ _ h2⟩
/-- The blocks that the objects own. -/
def OwnBlks (γ : Nat → Value) (H : Nat → Option Ob) (b : Nat) : Prop := ∃ o ob, H o = some ob ∧ ob.own = true ∧ blkOf (γ o) = some b
/-- What it means that a call of g with these arguments and objects comes to r. -/
def FnOK (P : Program) (g : FuncId) (args : List D) (hp : List Ob) (r : D × List Ob) : Prop :=
  ∀ w F0 γ0 (vs : List Value), vs.length = args.length → Rel w F0 (OwnBlks γ0 (hp[·]?)) (· < hp.length) γ0 F0 (hp[·]?) w → (∀ i (h : i < args.length), V (· < hp.length) γ0 F0 w args[i] (vs.getD i undef)) →
    RunsF P g vs.toArray w fun v w' => ∃ N' γ' Fz', Rel w F0 (OwnBlks γ0 (hp[·]?)) N' γ' Fz' (r.2[·]?) w' ∧ (∀ o, o < hp.length → N' o ∧ γ' o = γ0 o) ∧ (∀ o, N' o → o < r.2.length) ∧ V N' γ' Fz' w' r.1 v
def CalOK (P : Program) (call : Cal) : Prop := ∀ g args hp, Sure (call g args hp) (FnOK P g args hp)

theorem reachC_sure (look : Nat → Option Ob) : ∀ (n : Nat) (todo acc : List Nat), acc.Nodup → (∀ o ∈ acc, ∃ ob, look o = some ob) → Sure (reachC look n todo acc) fun pk => pk.Nodup ∧ ∀ o ∈ pk, ∃ ob, look o = some ob
  | 0, _, _, _, _ => .fail
  | n + 1, [], acc, h1, h2 => .pure ⟨h1, h2⟩
  | n + 1, o :: todo, acc, h1, h2 => by
    unfold reachC
    refine .ite (fun _ => reachC_sure look n todo acc h1 h2) fun hc => .bindL fun ob hob => reachC_sure look n _ _ ?_ ?_
    · rw [List.nodup_append]
      refine ⟨h1, by simp, fun a ha b hb => ?_⟩
      simp at hb
      subst hb
      rintro rfl
      exact hc (by simpa using ha)
    · intro o' ho'
      rcases List.mem_append.1 ho' with h | h
      · exact h2 o' h
      · simp at h; subst h; exact ⟨ob, hob⟩
theorem takeObs_sure (look : Nat → Option Ob) (f : Nat → Option Nat) : ∀ (l : List Nat), Sure (takeObs look f l) fun obs => obs.length = l.length ∧ ∀ i (h : i < l.length), ∃ ob, look l[i] = some ob ∧ obs[i]? = some (ob.ren f)
  | [] => .pure ⟨rfl, fun i h => by simp at h⟩
  | o :: l => .bindL fun ob hob => .bind (takeObs_sure look f l) fun obs hobs => .pure ⟨by simp [hobs.1], fun i h => by
      cases i with
      | zero => exact ⟨ob, hob, rfl⟩
      | succ i => simpa using hobs.2 i (by simpa using h)⟩
theorem posIn_some {l : List Nat} {o i : Nat} (h : posIn l o = some i) : i < l.length ∧ l[i]? = some o := by
  unfold posIn at h
  have := List.findIdx?_eq_some_iff_getElem.1 h
  obtain ⟨h1, h2, _⟩ := this
  exact ⟨h1, by rw [List.getElem?_eq_getElem h1]; simpa using h2⟩
theorem applyU_mem : ∀ {l : Dl} {H : Nat → Option Ob} {o : Nat} {ob : Ob}, (keysOf l).Nodup → (o, ob) ∈ l → applyU H l o = some ob
  | (k, kb) :: l, H, o, ob, hn, hm => by
    simp only [keysOf, List.map_cons, List.nodup_cons] at hn
    rw [applyU_cons]
    rcases List.mem_cons.1 hm with h | h
    · cases h
      rw [applyU_other hn.1, upd_same]
    · exact applyU_mem hn.2 h
theorem backTo_get (back : Nat → Option Nat) (pk : List Nat) (fr : Nat) : ∀ (obs : List Ob) (i j : Nat), (backTo back pk fr i obs)[j]? = (obs[j]?).map fun ob => ((pk[i + j]?).getD (fr + (i + j - pk.length)), ob.ren back)
  | [], i, j => by simp [backTo]
  | ob :: obs, i, 0 => by simp [backTo]
  | ob :: obs, i, j + 1 => by
    rw [backTo, List.getElem?_cons_succ, backTo_get back pk fr obs (i + 1) j, List.getElem?_cons_succ, show i + 1 + j = i + (j + 1) by omega]
theorem backTo_length (back : Nat → Option Nat) (pk : List Nat) (fr : Nat) : ∀ (obs : List Ob) (i : Nat), (backTo back pk fr i obs).length = obs.length
  | [], _ => rfl
  | ob :: obs, i => by rw [backTo, List.length_cons, backTo_length back pk fr obs (i + 1), List.length_cons]

theorem nodup_inj {A : Type} {l : List A} (h : l.Nodup) {i j : Nat} (hi : i < l.length) (hj : j < l.length) (e : l[i] = l[j]) : i = j := by
  have := List.pairwise_iff_getElem.1 h
  rcases Nat.lt_trichotomy i j with h1 | h1 | h1
  · exact absurd e (this i j hi hj h1)
  · exact h1
  · exact absurd e.symm (this j i hj hi h1)
theorem nodup_of {A : Type} {l : List A} (h : ∀ i j (hi : i < l.length) (hj : j < l.length), l[i] = l[j] → i = j) : l.Nodup :=
  List.pairwise_iff_getElem.2 fun i j hi hj hlt e => Nat.ne_of_lt hlt (h i j hi hj e)
theorem own_live {ob : Ob} (h : ob.own = true) : ob.live = true := by cases ob <;> first | rfl | cases h

section call
variable (P : Program) {look : Nat → Option Ob} {fr : Nat}
set_option maxHeartbeats 1000000
/-- The old name of the callee's object i. -/
def nameOf (pk : List Nat) (fr i : Nat) : Nat := (pk[i]?).getD (fr + (i - pk.length))
theorem packCall_sure {call : Cal} (hcall : CalOK P call) (g : FuncId) (as : List D) (l : Dl) (bl : List Nat) : Sure (packCall look fr call g as l bl) fun r => ∃ l2, r.2 = l ++ l2 ∧
    ∀ w0 F0 W0 N γ Fz H w (vs : List Value), vs.length = as.length → Rel w0 F0 W0 N γ Fz H w → (∀ i ob, look i = some ob → i ∉ keysOf l → H i = some ob ∧ ob.live = true) → (∀ i, fr ≤ i → i < fr + 8 → ¬ N i) →
      (∀ o ∈ bl, ∃ ob, H o = some ob ∧ ob.own = true) → (∀ i (h : i < as.length), V N γ (fun b => Fz b ∨ Blks γ bl b) w as[i] (vs.getD i undef)) →
      RunsF P g vs.toArray w fun v w' => ∃ N' γ' Fz', Go1 w0 F0 W0 fr N γ Fz w N' γ' Fz' (applyU H l2) w' ∧ V N' γ' Fz' w' r.1 v := by
  unfold packCall
  refine .bind (reachC_sure look 64 _ [] (by simp) (by simp)) fun pk hpk => .iteF fun hdj => .bind (takeObs_sure look _ pk) fun obs hobs => .bind (hcall g _ obs) fun p hfn => ?_
  obtain ⟨d, obs'⟩ := p
  obtain ⟨hnd, hlk⟩ := hpk
  simp only [Bool.and_eq_true] at hdj
  have hd1 := disj_iff hdj.1
  have hd2 := disj_iff hdj.2
  refine .iteF fun hlen => .iteF fun hind => .pure ⟨_, rfl, fun w0 F0 W0 N γ Fz H w vs hvl hr hl hfr hbl hv => ?_⟩
  obtain ⟨hlen1, hlen2⟩ := hlen
  obtain ⟨hol, hog⟩ := hobs
  -- the callee's names
  let γ0 : Nat → Value := fun i => γ (pk.getD i 0)
  have hpkN : ∀ o ∈ pk, ∃ ob, look o = some ob ∧ H o = some ob ∧ ob.live = true ∧ N o := fun o ho => by
    obtain ⟨ob, hob⟩ := hlk o ho
    obtain ⟨h1, h2⟩ := hl o ob hob fun h => hd1 o h ho
    exact ⟨ob, hob, h1, h2, hr.named o ob h1 h2⟩
  have getD_pk : ∀ i, i < pk.length → pk.getD i 0 ∈ pk := fun i hi => by
    rw [listD_lt _ _ hi]; exact List.getElem_mem hi
  have getD_at : ∀ {i : Nat} (hi : i < pk.length), pk.getD i 0 = pk[i] := fun hi => listD_lt _ _ hi
  have inj : ∀ {i j : Nat}, i < pk.length → j < pk.length → pk.getD i 0 = pk.getD j 0 → i = j := fun {i j} hi hj h => by
    rw [getD_at hi, getD_at hj] at h
    exact nodup_inj hnd hi hj h
  have obs_at : ∀ i ob, obs[i]? = some ob → i < pk.length ∧ ∃ ob0, H (pk.getD i 0) = some ob0 ∧ ob = ob0.ren (posIn pk) ∧ ob0.live = true := fun i ob h => by
    have hi : i < pk.length := by
      have := (List.getElem?_eq_some_iff.1 h).1
      omega
    obtain ⟨ob0, h1, h2⟩ := hog i hi
    rw [h2] at h
    cases h
    obtain ⟨h3, h4⟩ := hl _ ob0 h1 fun hh => hd1 _ hh (List.getElem_mem hi)
    exact ⟨hi, ob0, by rw [getD_at hi]; exact h3, rfl, h4⟩
  have hin : ∀ o i, posIn pk o = some i → N o → i < obs.length ∧ γ0 i = γ o := fun o i h hN => by
    obtain ⟨h1, h2⟩ := posIn_some h
    refine ⟨by omega, ?_⟩
    simp only [γ0, List.getD, h2, Option.getD_some]
  let B : Nat → Prop := Blks γ bl
  let F0' : Nat → Prop := fun b => Fz b ∨ B b
  have hBown : ∀ b, B b → ∃ o ob, o ∈ bl ∧ H o = some ob ∧ ob.own = true ∧ blkOf (γ o) = some b := fun b ⟨o, ho, e⟩ => by
    obtain ⟨ob, h1, h2⟩ := hbl o ho
    exact ⟨o, ob, ho, h1, h2, e⟩
  have hBlt : ∀ b, B b → b < w.heap.size := fun b hb => by
    obtain ⟨o, ob, _, h1, h2, h3⟩ := hBown b hb
    exact hr.blk_lt h1 h2 h3
  have hBFz : ∀ b, B b → ¬ Fz b := fun b hb => by
    obtain ⟨o, ob, _, h1, h2, h3⟩ := hBown b hb
    exact (hr.apart o ob h1 h2 b h3).1
  have hW : ∀ b, OwnBlks γ0 (obs[·]?) b → ∃ o ob, o ∈ pk ∧ H o = some ob ∧ ob.own = true ∧ blkOf (γ o) = some b := fun b ⟨i, ob, h1, h2, h3⟩ => by
    obtain ⟨hi, ob0, h4, rfl, _⟩ := obs_at i ob h1
    rw [ren_own] at h2
    exact ⟨_, ob0, getD_pk i hi, h4, h2, h3⟩
  have hWB : ∀ b, OwnBlks γ0 (obs[·]?) b → ¬ F0' b := fun b hb => by
    obtain ⟨o, ob, h1, h2, h3, h4⟩ := hW b hb
    have hap := hr.apart o ob h2 h3 b h4
    rintro (h | h)
    · exact hap.1 h
    · obtain ⟨o', ob', h5, h6, h7, h8⟩ := hBown b h
      have := hap.2.2 o' ob' h6 h7 h8
      subst this
      exact hd2 o' h5 h1
  have hpre : Rel w F0' (OwnBlks γ0 (obs[·]?)) (· < obs.length) γ0 F0' (obs[·]?) w := by
    refine ⟨⟨rfl, rfl, rfl, Nat.le_refl _, fun _ _ _ => rfl⟩, fun b h => h, fun b h => h.elim (hr.fzlt b) (hBlt b), fun b h => .inl h, fun i ob h _ => (List.getElem?_eq_some_iff.1 h).1, fun i ob h => ?_, fun i ob h hw b hb => ?_, fun i hi => ⟨_, List.getElem?_eq_getElem hi⟩, hr.glob.frame (fun b h => .inl h) fun _ _ => rfl⟩
    · obtain ⟨hi, ob0, h1, rfl, _⟩ := obs_at i ob h
      exact ((hr.obs _ ob0 h1).frame (Fz' := F0') (w' := w) (N' := N) (γ' := γ) (fun o h => ⟨h, rfl⟩) (fun b h => .inl h) (fun _ _ => rfl) fun _ _ _ => rfl).ren _ hin
    · refine ⟨hWB b ⟨i, ob, h, hw, hb⟩, .inr ⟨i, ob, h, hw, hb⟩, fun j ob2 hj hw2 hb2 => ?_⟩
      obtain ⟨hi, ob0, h1, rfl, _⟩ := obs_at i ob h
      obtain ⟨hj', ob3, h2, rfl, _⟩ := obs_at j ob2 hj
      rw [ren_own] at hw hw2
      have := (hr.apart _ ob0 h1 hw b hb).2.2 _ ob3 h2 hw2 hb2
      exact (inj hj' hi this)
  have hargs : ∀ i (h : i < (D.renL (posIn pk) as).length), V (· < obs.length) γ0 F0' w (D.renL (posIn pk) as)[i] (vs.getD i undef) := fun i h => by
    simp only [renL_eq, List.getElem_map]
    exact (hv i (by simpa [renL_eq] using h)).ren _ hin
  have hrun := hfn w F0' γ0 vs (by simpa [renL_eq] using hvl) hpre hargs
  refine hrun.mono fun v w' ⟨N', γ', F', hrel, hold, hnew, hres⟩ => ?_
  simp only at hrel hres hnew
  -- the names behind the call
  let back := backOf pk fr
  let N2 : Nat → Prop := fun o => N o ∨ (fr ≤ o ∧ N' (pk.length + (o - fr)))
  let γ2 : Nat → Value := fun o => by
    classical
    exact if N o then γ o else γ' (pk.length + (o - fr))
  let F2 : Nat → Prop := fun b => F' b ∧ ¬ B b
  have hN'lt : ∀ i, N' i → i < obs'.length := hnew
  have hγN : ∀ o, N o → γ2 o = γ o := fun o h => by simp only [γ2, if_pos h]
  have hγnew : ∀ i, pk.length ≤ i → i < obs'.length → ¬ N (fr + (i - pk.length)) := fun i h1 h2 => hfr _ (by omega) (by omega)
  have name_lt : ∀ i, i < pk.length → nameOf pk fr i = pk.getD i 0 := fun i hi => by simp [nameOf, List.getD, List.getElem?_eq_getElem hi]
  have name_ge : ∀ i, pk.length ≤ i → nameOf pk fr i = fr + (i - pk.length) := fun i hi => by simp [nameOf, List.getElem?_eq_none hi]
  have hname : ∀ i, i < obs'.length → (N' i → N2 (nameOf pk fr i)) ∧ γ2 (nameOf pk fr i) = γ' i := fun i hi => by
    by_cases h : i < pk.length
    · rw [name_lt i h]
      obtain ⟨ob, _, _, _, hN⟩ := hpkN _ (getD_pk i h)
      exact ⟨fun _ => .inl hN, (hγN _ hN).trans (hold i (by omega)).2.symm⟩
    · rw [name_ge i (by omega)]
      have e : pk.length + (fr + (i - pk.length) - fr) = i := by omega
      refine ⟨fun h' => .inr ⟨by omega, by rw [e]; exact h'⟩, ?_⟩
      simp only [γ2, if_neg (hγnew i (by omega) hi), e]
  have hback : ∀ i o, back i = some o → N' i → N2 o ∧ γ2 o = γ' i := fun i o h hN' => by
    have : o = nameOf pk fr i := by simp only [back, backOf, Option.some.injEq] at h; exact h.symm
    subst this
    have := hname i (hN'lt i hN')
    exact ⟨this.1 hN', this.2⟩
  -- what does not hang on rows that were only looked at
  have hF2 : bl = [] → ∀ b, F' b → F2 b := fun h b hb => ⟨hb, fun ⟨o, ho, _⟩ => by rw [h] at ho; simp at ho⟩
  have hcase : bl = [] ∨ (d.indep = true ∧ ∀ ob ∈ obs', ob.indep = true) := by
    simp only [Bool.or_eq_true, Bool.and_eq_true, List.all_eq_true, List.isEmpty_iff] at hind
    exact hind
  have hres2 : V N' γ' F2 w' d v := by
    rcases hcase with h | h
    · exact hres.frame (fun o h => ⟨h, rfl⟩) (hF2 h) fun _ _ => rfl
    · exact hres.indep h.1
  have hobs2 : ∀ i ob, obs'[i]? = some ob → ObR N' γ' F2 w' (γ' i) ob := fun i ob h => by
    rcases hcase with h' | h'
    · exact (hrel.obs i ob h).frame (fun o h => ⟨h, rfl⟩) (hF2 h') (fun _ _ => rfl) fun _ _ _ => rfl
    · exact (hrel.obs i ob h).indep (h'.2 ob (List.mem_of_getElem? h))
  -- the objects behind the call
  have hkeys : (keysOf (backTo back pk fr 0 obs')).Nodup := by
    refine nodup_of fun i j hi hj h => ?_
    simp only [keysOf, List.length_map, backTo_length] at hi hj
    have get : ∀ k (hk : k < obs'.length), (keysOf (backTo back pk fr 0 obs'))[k]? = some (nameOf pk fr k) := fun k hk => by
      simp only [keysOf, List.getElem?_map, backTo_get, List.getElem?_eq_getElem hk, Option.map_some, Nat.zero_add]
      rfl
    have e : nameOf pk fr i = nameOf pk fr j := by
      have h1 := get i hi
      have h2 := get j hj
      rw [List.getElem?_eq_getElem] at h1 h2
      simp only [Option.some.injEq] at h1 h2
      rw [← h1, ← h2]
      exact h
    have : i = j := by
      by_cases h1 : i < pk.length
      · by_cases h2 : j < pk.length
        · rw [name_lt i h1, name_lt j h2] at e
          exact inj h1 h2 e
        · rw [name_lt i h1, name_ge j (by omega)] at e
          obtain ⟨ob, _, _, _, hN⟩ := hpkN _ (getD_pk i h1)
          rw [e] at hN
          exact absurd hN (hγnew j (by omega) hj)
      · by_cases h2 : j < pk.length
        · rw [name_ge i (by omega), name_lt j h2] at e
          obtain ⟨ob, _, _, _, hN⟩ := hpkN _ (getD_pk j h2)
          rw [← e] at hN
          exact absurd hN (hγnew i (by omega) hi)
        · rw [name_ge i (by omega), name_ge j (by omega)] at e
          omega
    exact this
  have hH2 : ∀ o ob, applyU H (backTo back pk fr 0 obs') o = some ob → (∃ i ob0, o = nameOf pk fr i ∧ obs'[i]? = some ob0 ∧ ob = ob0.ren back) ∨ ((∀ i, i < obs'.length → o ≠ nameOf pk fr i) ∧ H o = some ob) := fun o ob h => by
    by_cases hk : o ∈ keysOf (backTo back pk fr 0 obs')
    · left
      obtain ⟨⟨o', ob'⟩, hm, he⟩ := List.mem_map.1 hk
      simp only at he
      subst he
      rw [applyU_mem hkeys hm] at h
      cases h
      obtain ⟨i, hi⟩ := List.mem_iff_getElem?.1 hm
      rw [backTo_get] at hi
      obtain ⟨ob0, h1, h2⟩ := Option.map_eq_some_iff.1 hi
      cases h2
      exact ⟨i, ob0, by simp [nameOf], h1, rfl⟩
    · right
      rw [applyU_other hk] at h
      refine ⟨fun i hi e => hk ?_, h⟩
      have : (backTo back pk fr 0 obs')[i]? = some (o, obs'[i].ren back) := by
        rw [backTo_get, List.getElem?_eq_getElem hi, e]
        simp [nameOf]
      exact List.mem_map.2 ⟨_, List.mem_of_getElem? this, rfl⟩
  have hFzW : ∀ b, Fz b → w'.heap[b]? = w.heap[b]? := fun b hb => hrel.frm.block b (hr.fzlt b hb) fun h => hWB b h (.inl hb)
  have hnotpk : ∀ o, (∀ i, i < obs'.length → o ≠ nameOf pk fr i) → o ∉ pk := fun o h ho => by
    obtain ⟨i, hi, e⟩ := List.mem_iff_getElem.1 ho
    refine h i (by omega) ?_
    rw [name_lt i hi, getD_at hi]
    exact e.symm
  have hnW : ∀ o ob b, H o = some ob → ob.own = true → blkOf (γ o) = some b → o ∉ pk → ¬ OwnBlks γ0 (obs[·]?) b := fun o ob b h1 h2 h3 h4 h5 => by
    obtain ⟨o', ob', h6, h7, h8, h9⟩ := hW b h5
    have := (hr.apart o ob h1 h2 b h3).2.2 o' ob' h7 h8 h9
    exact h4 (this ▸ h6)
  have hWc : ∀ b, OwnBlks γ0 (obs[·]?) b → w0.heap.size ≤ b ∨ W0 b := fun b h => by
    obtain ⟨o, ob, _, h2, h3, h4⟩ := hW b h
    exact (hr.apart o ob h2 h3 b h4).2.1
  have hext : ∀ o, N o → N2 o ∧ γ2 o = γ o := fun o h => ⟨.inl h, hγN o h⟩
  refine ⟨N2, γ2, F2, ⟨⟨?_, fun b hb => ⟨hrel.fz0 b (.inl (hr.fz0 b hb)), fun h => hBFz b h (hr.fz0 b hb)⟩, fun b hb => hrel.fzlt b hb.1, fun b hb => ?_, fun o ob h hlv => ?_, fun o ob h => ?_, fun o ob h hw b hb => ?_, fun o h => ?_, hr.glob.frame (fun b hb => ⟨hrel.fz0 b (.inl hb), fun h => hBFz b h hb⟩) hFzW⟩, ⟨hext, fun o h => ?_, fun b hb => ⟨hrel.fz0 b (.inl hb), fun h => hBFz b h hb⟩, hFzW⟩⟩, hres2.ren back hback⟩
  · refine ⟨hrel.frm.os.trans hr.frm.os, hrel.frm.tape.trans hr.frm.tape, hrel.frm.output.trans hr.frm.output, Nat.le_trans hr.frm.size hrel.frm.size, fun b hlt hn => ?_⟩
    rw [hrel.frm.block b (Nat.lt_of_lt_of_le hlt hr.frm.size) fun h => ?_]
    · exact hr.frm.block b hlt hn
    · rcases hWc b h with h1 | h1
      · omega
      · exact hn h1
  · rcases hrel.fznew b hb.1 with (h | h) | h | h
    · exact hr.fznew b h
    · exact absurd h hb.2
    · exact .inr (.inl (Nat.le_trans hr.frm.size h))
    · exact .inr (hWc b h)
  · rcases hH2 o ob h with ⟨i, ob0, rfl, h1, rfl⟩ | ⟨_, h1⟩
    · rw [ren_live] at hlv
      have hi := (List.getElem?_eq_some_iff.1 h1).1
      exact (hname i hi).1 (hrel.named i ob0 h1 hlv)
    · exact .inl (hr.named o ob h1 hlv)
  · rcases hH2 o ob h with ⟨i, ob0, rfl, h1, rfl⟩ | ⟨h0, h1⟩
    · have hi := (List.getElem?_eq_some_iff.1 h1).1
      rw [(hname i hi).2]
      exact (hobs2 i ob0 h1).ren back hback
    · have hg : γ2 o = γ o ∨ ob.live = false := by
        cases hlv : ob.live with
        | true => exact .inl (hγN o (hr.named o ob h1 hlv))
        | false => exact .inr rfl
      rcases hg with hg | hg
      · rw [hg]
        refine (hr.obs o ob h1).frame hext (fun b hb => ⟨hrel.fz0 b (.inl hb), fun h => hBFz b h hb⟩) hFzW fun hw b hb => ?_
        exact hrel.frm.block b (hr.blk_lt h1 hw hb) (hnW o ob b h1 hw hb (hnotpk o h0))
      · cases ob <;> first | trivial | cases hg
  · rcases hH2 o ob h with ⟨i, ob0, rfl, h1, rfl⟩ | ⟨h0, h1⟩
    · have hi := (List.getElem?_eq_some_iff.1 h1).1
      rw [ren_own] at hw
      rw [(hname i hi).2] at hb
      obtain ⟨h2, h3, h4⟩ := hrel.apart i ob0 h1 hw b hb
      refine ⟨fun h => h2 h.1, ?_, fun o' ob' h' hw' hb' => ?_⟩
      · rcases h3 with h3 | h3
        · exact .inl (Nat.le_trans hr.frm.size h3)
        · exact hWc b h3
      · rcases hH2 o' ob' h' with ⟨j, ob2, rfl, h5, rfl⟩ | ⟨h6, h5⟩
        · have hj := (List.getElem?_eq_some_iff.1 h5).1
          rw [ren_own] at hw'
          rw [(hname j hj).2] at hb'
          rw [h4 j ob2 h5 hw' hb']
        · exfalso
          have hlv := own_live hw'
          rw [hγN o' (hr.named o' ob' h5 hlv)] at hb'
          rcases h3 with h3 | h3
          · have := hr.blk_lt h5 hw' hb'; omega
          · exact hnW o' ob' b h5 hw' hb' (hnotpk o' h6) h3
    · have hlv := own_live hw
      rw [hγN o (hr.named o ob h1 hlv)] at hb
      obtain ⟨h2, h3, h4⟩ := hr.apart o ob h1 hw b hb
      have hlt := hr.blk_lt h1 hw hb
      have hnw := hnW o ob b h1 hw hb (hnotpk o h0)
      refine ⟨fun h => ?_, h3, fun o' ob' h' hw' hb' => ?_⟩
      · rcases hrel.fznew b h.1 with (h5 | h5) | h5 | h5
        · exact h2 h5
        · exact h.2 h5
        · omega
        · exact hnw h5
      · rcases hH2 o' ob' h' with ⟨j, ob2, rfl, h5, rfl⟩ | ⟨h6, h5⟩
        · exfalso
          have hj := (List.getElem?_eq_some_iff.1 h5).1
          rw [ren_own] at hw'
          rw [(hname j hj).2] at hb'
          rcases (hrel.apart j ob2 h5 hw' b hb').2.1 with h7 | h7
          · omega
          · exact hnw h7
        · have hlv' := own_live hw'
          rw [hγN o' (hr.named o' ob' h5 hlv')] at hb'
          exact h4 o' ob' h5 hw' hb'
  · by_cases hk : o ∈ keysOf (backTo back pk fr 0 obs')
    · obtain ⟨⟨o', ob'⟩, hm, he⟩ := List.mem_map.1 hk
      simp only at he
      subst he
      exact ⟨_, applyU_mem hkeys hm⟩
    · rw [applyU_other hk]
      rcases h with h | ⟨h1, h2⟩
      · exact hr.hasob o h
      · exfalso
        refine hk ?_
        have hlt := hnew _ h2
        have : (backTo back pk fr 0 obs')[pk.length + (o - fr)]? = some (o, obs'[pk.length + (o - fr)].ren back) := by
          rw [backTo_get, List.getElem?_eq_getElem hlt]
          simp
          omega
        exact List.mem_map.2 ⟨_, List.mem_of_getElem? this, rfl⟩
  · rcases h with h | ⟨h1, h2⟩
    · exact .inl h
    · have := hnew _ h2
      exact .inr ⟨h1, by omega⟩
end call
end Go.Ev
