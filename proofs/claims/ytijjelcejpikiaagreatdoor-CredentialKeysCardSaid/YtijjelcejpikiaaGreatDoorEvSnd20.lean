/-
What is forgotten at a place in the text.
-/
import Derived.Test.YtijjelcejpikiaaGreatDoorEvSnd19
set_option linter.unusedVariables false
set_option linter.unusedSimpArgs false
namespace Go.Ev
variable [Globs]
set_option linter.unusedSectionVars false
theorem nrmL_eq (hp : List Ob) (f : Nat → Option Nat) (ds : List D) : D.nrmL hp f ds = ds.map (D.nrm hp f) := by
  induction ds with
  | nil => rfl
  | cons d ds ih => rw [D.nrmL, ih]; rfl
theorem V.nrm {N N' : Nat → Prop} {γ γ' : Nat → Value} {Fz : Nat → Prop} {w : World} {d : D} {v : Value} (hp : List Ob) (f : Nat → Option Nat) (h : V N γ Fz w d v) (hf : ∀ o o', f o = some o' → N o → N' o' ∧ γ' o' = γ o)
    (hz : ∀ (o : Nat) x, hp[o]? = some (.froz x) → RD Fz w x (γ o)) : V N' γ' Fz w (d.nrm hp f) v := by
  induction h with
  | pd x v h => exact .pd x v h
  | agg ds vs hs ho hv ih =>
    rw [D.nrm, nrmL_eq]
    refine mkAgg_V (by simpa using hs) ho fun i hi => ?_
    simp only [List.getElem_map]
    exact ih i (by simpa using hi)
  | tup ds vs hs hv ih =>
    rw [D.nrm, nrmL_eq]
    refine .tup _ _ (by simpa using hs) fun i hi => ?_
    simp only [List.getElem_map]
    exact ih i (by simpa using hi)
  | ptr o off b hn hg =>
    simp only [D.nrm]
    split
    · rename_i o' ho
      obtain ⟨h1, h2⟩ := hf o o' ho hn
      exact .ptr o' off b h1 (h2.trans hg)
    · exact .junk _
  | ref o hn h1 =>
    simp only [D.nrm]
    split
    · rename_i x hx
      exact .pd _ _ (hz o x hx)
    · split
      · rename_i o' ho
        obtain ⟨h2, h3⟩ := hf o o' ho hn
        rw [← h3] at h1 ⊢
        exact .ref o' h2 h1
      · exact .junk _
    · exact .junk _
  | eptr o z i off b n c hn hg =>
    simp only [D.nrm]
    split
    · rename_i o' ho
      obtain ⟨h1, h2⟩ := hf o o' ho hn
      exact .eptr o' z i off b n c h1 (h2.trans hg)
    · exact .junk _
  | rptr x off b base u h hb hc => exact .rptr x off b base u h hb hc
  | asl o lo hi b a cap hn hg hl hc ha =>
    simp only [D.nrm]
    split
    · rename_i o' ho
      obtain ⟨h1, h2⟩ := hf o o' ho hn
      exact .asl o' lo hi b a cap h1 (h2.trans hg) hl hc ha
    · exact .junk _
  | clo g first caps vf vc hf' hc h1 h2 ih1 ih2 =>
    rw [D.nrm, nrmL_eq, nrmL_eq]
    refine .clo _ _ _ _ _ (by simpa using hf') (by simpa using hc) (fun i hi => ?_) fun i hi => ?_
    · simp only [List.getElem_map]; exact ih1 i (by simpa using hi)
    · simp only [List.getElem_map]; exact ih2 i (by simpa using hi)
  | ifc t d u h ih =>
    rw [D.nrm, nrmL_eq]
    exact .ifc t _ u ih
  | junk v => exact .junk v
theorem ObR.nrm {N N' : Nat → Prop} {γ γ' : Nat → Value} {Fz : Nat → Prop} {w : World} {g : Value} {ob : Ob} (hp : List Ob) (f : Nat → Option Nat) (h : ObR N γ Fz w g ob) (hf : ∀ o o', f o = some o' → N o → N' o' ∧ γ' o' = γ o)
    (hz : ∀ (o : Nat) x, hp[o]? = some (.froz x) → RD Fz w x (γ o)) : ObR N' γ' Fz w g (ob.nrm hp f) := by
  cases ob with
  | cells ds =>
    obtain ⟨b, cs, E, h1, h2, h3, h4, h5⟩ := h
    simp only [Ob.nrm, nrmL_eq]
    refine ⟨b, cs, E, h1, h2, by simpa using h3, h4, fun i hi => ?_⟩
    simp only [List.getElem_map]
    exact (h5 i (by simpa using hi)).nrm hp f hf hz
  | ints k m xs => exact h
  | flags m bs => exact h
  | arr z e x => exact h
  | froz x => exact h
  | dead => exact h
theorem nrm_own (hp : List Ob) (f : Nat → Option Nat) (ob : Ob) : (ob.nrm hp f).own = ob.own := by cases ob <;> rfl
theorem nrm_live (hp : List Ob) (f : Nat → Option Nat) (ob : Ob) : (ob.nrm hp f).live = ob.live := by cases ob <;> rfl
theorem reachH_nodup (hp : List Ob) : ∀ (n : Nat) (todo acc : List Nat), acc.Nodup → (reachH hp n todo acc).Nodup
  | 0, _, _, h => h
  | n + 1, [], _, h => h
  | n + 1, o :: todo, acc, h => by
    have hadd : ¬ acc.contains o = true → (acc ++ [o]).Nodup := fun hc => by
      rw [List.nodup_append]
      refine ⟨h, by simp, fun a ha b hb => ?_⟩
      simp at hb
      subst hb
      rintro rfl
      exact hc (by simpa using ha)
    unfold reachH
    split
    · exact reachH_nodup hp n todo acc h
    · rename_i hc
      split
      · exact reachH_nodup hp n _ _ (hadd hc)
      · exact reachH_nodup hp n _ _ (hadd hc)
      · exact reachH_nodup hp n _ _ (hadd hc)
      · exact reachH_nodup hp n _ _ (hadd hc)
      · exact reachH_nodup hp n _ _ h
section gc
variable {w0 : World} {F0 W0 : Nat → Prop} {n0 : Nat} {γ0 : Nat → Value}
theorem gc_ok {hp : List Ob} {w : World} {N : Nat → Prop} {γ : Nat → Value} {Fz : Nat → Prop} (hr : Rel w0 F0 W0 N γ Fz (hp[·]?) w) (hinh : ∀ o, o < n0 → N o ∧ γ o = γ0 o) (ts : List D) (vs : Nat → Value) (hs : ∀ t, V N γ Fz w (ts.getD t .junk) (vs t)) :
    ∃ N' γ', Rel w0 F0 W0 N' γ' Fz ((gc n0 ts hp).2[·]?) w ∧ (∀ o, o < n0 → N' o ∧ γ' o = γ0 o) ∧ (gc n0 ts hp).1.length = ts.length ∧ ∀ t, V N' γ' Fz w ((gc n0 ts hp).1.getD t .junk) (vs t) := by
  unfold gc
  simp only
  generalize hall : reachH hp 4096 (List.range n0 ++ D.idsL ts) [] = all
  have hnd : all.Nodup := by rw [← hall]; exact reachH_nodup hp _ _ _ (by simp)
  let new := all.filter (n0 ≤ ·)
  let ns := List.range n0 ++ new
  let f : Nat → Option Nat := fun o => if o < n0 then some o else (posIn new o).map (n0 + ·)
  have hns : ns.Nodup := by
    rw [List.nodup_append]
    refine ⟨List.nodup_range, hnd.filter _, fun a ha b hb => ?_⟩
    have h1 : a < n0 := by simpa using ha
    have h2 : n0 ≤ b := by simpa using (List.mem_filter.1 hb).2
    omega
  let N' : Nat → Prop := fun i => ∃ o, ns[i]? = some o ∧ N o
  let γ' : Nat → Value := fun i => γ (ns.getD i 0)
  have hg : ∀ {i o : Nat}, ns[i]? = some o → γ' i = γ o := fun {i o} h => by simp only [γ', List.getD, h, Option.getD_some]
  have hns_lt : ∀ {i : Nat}, i < n0 → ns[i]? = some i := fun {i} h => by
    simp only [ns]
    rw [List.getElem?_append_left (by simpa using h)]
    simp [h]
  have hf : ∀ o o', f o = some o' → N o → N' o' ∧ γ' o' = γ o := fun o o' h hN => by
    have key : ns[o']? = some o := by
      simp only [f] at h
      split at h
      · cases h
        exact hns_lt ‹_›
      · obtain ⟨k, hk, rfl⟩ := Option.map_eq_some_iff.1 h
        obtain ⟨h1, h2⟩ := posIn_some hk
        simp only [ns]
        rw [List.getElem?_append_right (by simp)]
        simpa using h2
    exact ⟨⟨o, key, hN⟩, hg key⟩
  have hz : ∀ (o : Nat) x, hp[o]? = some (.froz x) → RD Fz w x (γ o) := fun o x h => (hr.obs o _ h).1
  have hob : ∀ (i : Nat) (ob : Ob), (pickObs hp f ns)[i]? = some ob → ∃ o, ns[i]? = some o ∧ ((∃ ob0, hp[o]? = some ob0 ∧ ob = ob0.nrm hp f) ∨ ob = .dead) := fun i ob h => by
    simp only [pickObs, List.getElem?_map, Option.map_eq_some_iff] at h
    obtain ⟨o, h1, rfl⟩ := h
    refine ⟨o, h1, ?_⟩
    cases h2 : hp[o]? with
    | none => right; simp [List.getD, h2, Ob.nrm]
    | some ob0 => left; exact ⟨ob0, rfl, by simp [List.getD, h2]⟩
  have hlive : ∀ (i : Nat) (ob : Ob), (pickObs hp f ns)[i]? = some ob → ob.live = true → ∃ o ob0, ns[i]? = some o ∧ hp[o]? = some ob0 ∧ ob = ob0.nrm hp f ∧ ob0.live = true := fun i ob h hl => by
    obtain ⟨o, h1, ⟨ob0, h2, rfl⟩ | rfl⟩ := hob i ob h
    · exact ⟨o, ob0, h1, h2, rfl, by rwa [nrm_live] at hl⟩
    · cases hl
  refine ⟨N', γ', ⟨hr.frm, hr.fz0, hr.fzlt, hr.fznew, fun i ob h hl => ?_, fun i ob h => ?_, fun i ob h hw b hb => ?_, fun i hi => ?_, hr.glob⟩, fun o ho => ?_, ?_, fun t => ?_⟩
  · obtain ⟨o, ob0, h1, h2, rfl, h3⟩ := hlive i ob h hl
    exact ⟨o, h1, hr.named o ob0 h2 h3⟩
  · obtain ⟨o, h1, ⟨ob0, h2, rfl⟩ | rfl⟩ := hob i ob h
    · rw [hg h1]
      exact (hr.obs o ob0 h2).nrm hp f hf hz
    · trivial
  · obtain ⟨o, ob0, h1, h2, rfl, h3⟩ := hlive i ob h (own_live hw)
    rw [nrm_own] at hw
    rw [hg h1] at hb
    obtain ⟨h4, h5, h6⟩ := hr.apart o ob0 h2 hw b hb
    refine ⟨h4, h5, fun i' ob' h' hw' hb' => ?_⟩
    obtain ⟨o', ob1, h7, h8, rfl, h9⟩ := hlive i' ob' h' (own_live hw')
    rw [nrm_own] at hw'
    rw [hg h7] at hb'
    have e := h6 o' ob1 h8 hw' hb'
    subst e
    obtain ⟨l1, e1⟩ := List.getElem?_eq_some_iff.1 h1
    obtain ⟨l2, e2⟩ := List.getElem?_eq_some_iff.1 h7
    exact nodup_inj hns l2 l1 (e2.trans e1.symm)
  · obtain ⟨o, h1, hN⟩ := hi
    have h1' : (List.range n0 ++ all.filter (n0 ≤ ·))[i]? = some o := h1
    exact ⟨(hp.getD o .dead).nrm hp f, by simp only [pickObs, List.getElem?_map, h1', Option.map_some]; rfl⟩
  · exact ⟨⟨o, hns_lt ho, (hinh o ho).1⟩, (hg (hns_lt ho)).trans (hinh o ho).2⟩
  · rw [nrmL_eq]; simp
  · rw [nrmL_eq]
    have := (hs t).nrm hp f hf hz
    simp only [List.getD, List.getElem?_map]
    cases h : ts[t]? with
    | none => exact .junk _
    | some d => simpa [List.getD, h] using this
end gc
section norm
variable (P : Program) {w0 : World} {F0 W0 : Nat → Prop} {n0 : Nat} {γ0 : Nat → Value}
theorem ownRow_ok {e : TypeId} (h : growT P e = true) {N : Nat → Prop} {γ : Nat → Value} {Fz : Nat → Prop} {w : World} : ObR N γ Fz w (.slice none 0 0) (ownRow P e) := by
  unfold growT at h
  simp only [Bool.and_eq_true, decide_eq_true_eq] at h
  obtain ⟨h1, h2⟩ := h
  unfold ownRow
  have own : ∀ cs : List Value, cs = [] → OwnRow w e (P.cellsOf e) (.slice none 0 0) 0 cs := fun cs hc => ⟨by simp [hc], h1, .inl ⟨rfl, rfl⟩⟩
  split
  · rename_i k hk
    rw [hk] at h2
    exact ⟨0, [], ⟨of_decide_eq_true h2, rfl, rfl⟩, own [] rfl⟩
  · exact ⟨0, [], ⟨rfl, rfl, [], rfl, rfl, by simp, fun i hi => by simp at hi⟩, own [] rfl⟩
theorem ownAll_ok : ∀ (l : List (Nat × TypeId)) {s : St} {a : Act} {w : World}, StE w0 F0 W0 n0 γ0 s a w → StE w0 F0 W0 n0 γ0 (ownAll P l s) a w
  | [], s, a, w, h => h
  | (t, e) :: l, s, a, w, h => by
    unfold ownAll
    split
    · rename_i ht
      split
      · rename_i hg
        refine ownAll_ok l ?_
        obtain ⟨N, γ, Fz, h⟩ := h
        have hfr : ¬ N s.hp.length := h.fresh (Nat.le_refl _)
        have hput := h.rel.put (w' := w) s.hp.length s.hp.length (ownRow P e) (.slice none 0 0) (fun hN => absurd hN hfr) (fun _ => ⟨Nat.le_refl _, by omega⟩) (But.refl _ _) (fun _ b hb => by cases hb) (ownRow_ok P hg)
        have hv := h.slots t
        rw [ht] at hv
        have ev := hv.inv_pd.inv_opq
        refine ⟨fun i => N i ∨ i = s.hp.length, upd γ s.hp.length (.slice none 0 0), Fz, ?_, fun o ho => ?_, by simpa using h.len, fun k => ?_, h.quiet⟩
        · have e : (fun (i : Nat) => (s.hp ++ [ownRow P e])[i]?) = upd (s.hp[·]?) s.hp.length (some (ownRow P e)) := by
            funext i
            by_cases e : i = s.hp.length
            · subst e; rw [upd_same]; simp
            · rw [upd_other _ _ e]
              by_cases hlt : i < s.hp.length
              · rw [List.getElem?_append_left hlt]
              · rw [List.getElem?_eq_none (by simp; omega), List.getElem?_eq_none (by omega)]
          rw [e]
          exact hput.rel
        · obtain ⟨h1, h2⟩ := h.inh o ho
          obtain ⟨h3, h4⟩ := hput.ext.names o h1
          exact ⟨h3, h4.trans h2⟩
        · rw [put_get]
          split
          · rename_i hk
            obtain ⟨rfl, _⟩ := hk
            rw [ev]
            have : V (fun i => N i ∨ i = s.hp.length) (upd γ s.hp.length (.slice none 0 0)) Fz w (.ref s.hp.length) (upd γ s.hp.length (.slice none 0 0) s.hp.length) := .ref _ (.inr rfl) (by rw [upd_same]; exact one_slice _ _ _)
            rwa [upd_same] at this
          · exact (h.slots k).ext hput.ext
      · exact ownAll_ok l h
    · exact ownAll_ok l h
theorem ownCells_ok : ∀ (l : List (Nat × Nat × TypeId)) {s : St} {a : Act} {w : World}, StE w0 F0 W0 n0 γ0 s a w → StE w0 F0 W0 n0 γ0 (ownCells P l s) a w
  | [], s, a, w, h => h
  | (t, j, e) :: l, s, a, w, h => by
    unfold ownCells
    split
    · rename_i o off ht
      split
      · rename_i ds hds
        split
        · rename_i hj
          split
          · rename_i hg
            refine ownCells_ok l ?_
            obtain ⟨N, γ, Fz, h⟩ := h
            have hfr : ¬ N s.hp.length := h.fresh (Nat.le_refl _)
            have hlt := (List.getElem?_eq_some_iff.1 hds).1
            have hput := h.rel.put (w' := w) s.hp.length s.hp.length (ownRow P e) (.slice none 0 0) (fun hN => absurd hN hfr) (fun _ => ⟨Nat.le_refl _, by omega⟩) (But.refl _ _) (fun _ b hb => by cases hb) (ownRow_ok P hg)
            have hne : o ≠ s.hp.length := by omega
            have ho1 : upd (s.hp[·]?) s.hp.length (some (ownRow P e)) o = some (.cells ds) := by rw [upd_other _ _ hne]; exact hds
            obtain ⟨b, cs, E, hg1, hb, hsz, hone, hcs⟩ := hput.rel.obs o _ ho1
            have hN1 : (fun i => N i ∨ i = s.hp.length) o := .inl (h.rel.named o _ hds rfl)
            have hput2 := hput.rel.writeVar (w' := w) s.hp.length o b (.cells ds) (.cells (ds.set j (.ref s.hp.length))) ho1 rfl rfl (by rw [hg1]; rfl) (But.refl _ _)
              ⟨b, cs, E, hg1, hb, by simpa using hsz, hone, fun i hi => by
                simp only [List.length_set] at hi
                rw [List.getElem_set]
                split
                · rename_i e1
                  subst e1
                  have h1 := hcs j hi
                  rw [listD_lt _ _ hi] at hj
                  rw [hj] at h1
                  rw [h1.inv_pd.inv_opq]
                  have : V (fun i => N i ∨ i = s.hp.length) (upd γ s.hp.length (.slice none 0 0)) Fz w (.ref s.hp.length) (upd γ s.hp.length (.slice none 0 0) s.hp.length) := .ref _ (.inr rfl) (by rw [upd_same]; exact one_slice _ _ _)
                  rwa [upd_same] at this
                · exact hcs i hi⟩
            have hgo := hput.trans hput2
            refine ⟨fun i => N i ∨ i = s.hp.length, upd γ s.hp.length (.slice none 0 0), Fz, ?_, fun o ho => ?_, h.len, fun k => (h.slots k).ext hgo.ext, h.quiet⟩
            · have eh : (fun (i : Nat) => (s.hp.set o (.cells (ds.set j (.ref s.hp.length))) ++ [ownRow P e])[i]?) = upd (upd (s.hp[·]?) s.hp.length (some (ownRow P e))) o (some (.cells (ds.set j (.ref s.hp.length)))) := by
                funext i
                by_cases e1 : i = o
                · subst e1; rw [upd_same, List.getElem?_append_left (by simpa using hlt)]; simp [hlt]
                · rw [upd_other _ _ e1]
                  by_cases e2 : i = s.hp.length
                  · subst e2; rw [upd_same, List.getElem?_append_right (by simp)]; simp
                  · rw [upd_other _ _ e2]
                    by_cases hl : i < s.hp.length
                    · rw [List.getElem?_append_left (by simpa using hl), List.getElem?_set_ne (Ne.symm e1)]
                    · rw [List.getElem?_eq_none (by simp; omega), List.getElem?_eq_none (by omega)]
              show Rel _ _ _ _ _ _ (fun (i : Nat) => (s.hp.set o (.cells (ds.set j (.ref s.hp.length))) ++ [ownRow P e])[i]?) _
              rw [eh]
              exact hgo.rel
            · obtain ⟨h1, h2⟩ := h.inh o ho
              obtain ⟨h3, h4⟩ := hgo.ext.names o h1
              exact ⟨h3, h4.trans h2⟩
          · exact ownCells_ok l h
        · exact ownCells_ok l h
      · exact ownCells_ok l h
    · exact ownCells_ok l h
theorem mvCells_ok : ∀ (l : List (Nat × Nat)) {s : St} {a : Act} {w : World}, StE w0 F0 W0 n0 γ0 s a w → StE w0 F0 W0 n0 γ0 (mvCells n0 l s) a w
  | [], s, a, w, h => h
  | (o, j) :: l, s, a, w, h => by
    unfold mvCells
    split
    · rename_i ds hds
      split
      · rename_i p hj
        split
        · rename_i z e x hp
          split
          · refine mvCells_ok l ?_
            obtain ⟨N, γ, Fz, h⟩ := h
            have hfr : ¬ N s.hp.length := h.fresh (Nat.le_refl _)
            have hlt := (List.getElem?_eq_some_iff.1 hds).1
            have hlp := (List.getElem?_eq_some_iff.1 hp).1
            have hNp : N p := h.rel.named p _ hp rfl
            have hop : o ≠ p := fun e1 => by
              subst e1
              rw [hds] at hp
              cases hp
            have hjl : j < ds.length := by
              by_cases hl : j < ds.length
              · exact hl
              · rw [List.getD, List.getElem?_eq_none (by omega)] at hj
                cases hj
            obtain ⟨b, cs, E, hg1, hb, hsz, hone, hcs⟩ := h.rel.obs o _ hds
            have hjv := hcs j hjl
            rw [listD_lt _ _ hjl] at hj
            rw [hj] at hjv
            obtain ⟨_, ejv, h1v⟩ := hjv.inv_ref
            obtain ⟨n, rcs, hrow, hown⟩ := h.rel.obs p _ hp
            have hk := h.rel.kill s.hp.length p hNp
            obtain ⟨N1, γ1, hg, hv1⟩ := hk.rel.newRow (w' := w) s.hp.length hfr z e x n rcs (γ p) (But.refl _ _) (by rw [← ejv]; exact h1v) hrow hown fun b' hb' => by
              obtain ⟨h2, h3, h4⟩ := h.rel.apart p _ hp rfl b' hb'
              refine ⟨h2, h3, fun o' ob' hne hH' hw hb2 => ?_⟩
              by_cases e1 : o' = p
              · subst e1
                rw [upd_same] at hH'
                cases hH'
                cases hw
              · rw [upd_other _ _ e1] at hH'
                exact e1 (h4 o' ob' hH' hw hb2)
            have hgo := hk.trans hg
            have hne : o ≠ s.hp.length := by omega
            have ho1 : upd (upd (s.hp[·]?) p (some .dead)) s.hp.length (some (.arr z e x)) o = some (.cells ds) := by rw [upd_other _ _ hne, upd_other _ _ hop]; exact hds
            obtain ⟨hNo, hγo⟩ := hgo.ext.names o (h.rel.named o _ hds rfl)
            have hput2 := hgo.rel.writeVar (w' := w) s.hp.length o b (.cells ds) (.cells (ds.set j (.ref s.hp.length))) ho1 rfl rfl (by rw [hγo, hg1]; rfl) (But.refl _ _)
              ⟨b, cs, E, by rw [hγo]; exact hg1, hb, by simpa using hsz, hone, fun i hi => by
                simp only [List.length_set] at hi
                rw [List.getElem_set]
                split
                · rename_i e1
                  subst e1
                  rw [ejv]
                  exact hv1
                · exact (hcs i hi).ext hgo.ext⟩
            have hgo2 := hgo.trans hput2
            refine ⟨N1, γ1, Fz, ?_, fun o' ho' => ?_, h.len, fun k => (h.slots k).ext hgo2.ext, h.quiet⟩
            · have eh : (fun (i : Nat) => ((s.hp.set p .dead).set o (.cells (ds.set j (.ref s.hp.length))) ++ [Ob.arr z e x])[i]?) = upd (upd (upd (s.hp[·]?) p (some .dead)) s.hp.length (some (.arr z e x))) o (some (.cells (ds.set j (.ref s.hp.length)))) := by
                funext i
                by_cases e1 : i = o
                · subst e1; rw [upd_same, List.getElem?_append_left (by simpa using hlt)]; simp [hlt]
                · rw [upd_other _ _ e1]
                  by_cases e2 : i = s.hp.length
                  · subst e2; rw [upd_same, List.getElem?_append_right (by simp)]; simp
                  · rw [upd_other _ _ e2]
                    by_cases hl : i < s.hp.length
                    · rw [List.getElem?_append_left (by simpa using hl), List.getElem?_set_ne (Ne.symm e1)]
                      by_cases e3 : i = p
                      · subst e3; rw [upd_same]; simp [hl]
                      · rw [upd_other _ _ e3, List.getElem?_set_ne (Ne.symm e3)]
                    · rw [List.getElem?_eq_none (by simp; omega), upd_other _ _ (by omega), List.getElem?_eq_none (by omega)]
              show Rel _ _ _ _ _ _ (fun (i : Nat) => ((s.hp.set p .dead).set o (.cells (ds.set j (.ref s.hp.length))) ++ [Ob.arr z e x])[i]?) _
              rw [eh]
              exact hgo2.rel
            · obtain ⟨h1, h2⟩ := h.inh o' ho'
              obtain ⟨h3, h4⟩ := hgo2.ext.names o' h1
              exact ⟨h3, h4.trans h2⟩
          · exact mvCells_ok l h
        · exact mvCells_ok l h
      · exact mvCells_ok l h
    · exact mvCells_ok l h
theorem fzOb_ok {s : St} {a : Act} {w : World} : ∀ (l : List Nat) (hp : List Ob), StE w0 F0 W0 n0 γ0 { s with hp := hp } a w → StE w0 F0 W0 n0 γ0 { s with hp := fzOb hp l } a w
  | [], hp, h => h
  | o :: l, hp, h => by
    unfold fzOb
    split
    · rename_i z e x ho
      refine fzOb_ok l _ ?_
      obtain ⟨N, γ, Fz, h⟩ := h
      have h1 : OneC (γ o) := by
        obtain ⟨n, cs, _, hown⟩ := h.rel.obs o _ ho
        rcases hown.row with ⟨e, _⟩ | ⟨b, cap, cur, fz, e, _⟩ <;> rw [e] <;> exact one_slice _ _ _
      have hg := h.rel.freeze 0 o z e x ho h1
      refine ⟨N, γ, _, ?_, h.inh, h.len, fun t => (h.slots t).ext hg.ext, h.quiet⟩
      have e : (fun (i : Nat) => (hp.set o (.froz x))[i]?) = upd (hp[·]?) o (some (.froz x)) := by
        funext i
        have hlt := (List.getElem?_eq_some_iff.1 ho).1
        by_cases e : i = o
        · subst e; rw [upd_same]; simp [hlt]
        · rw [upd_other _ _ e, List.getElem?_set_ne (Ne.symm e)]
      show Rel _ _ _ _ _ _ (fun i => (hp.set o (.froz x))[i]?) _
      rw [e]
      exact hg.rel
    · exact fzOb_ok l _ h
theorem keepTs_get (keep : List Nat) : ∀ (ts : List D) (i t : Nat), (keepTs keep i ts).length = ts.length ∧ ((keepTs keep i ts).getD t .junk = ts.getD t .junk ∨ (keepTs keep i ts).getD t .junk = .junk)
  | [], i, t => ⟨rfl, .inl rfl⟩
  | d :: ds, i, t => by
    obtain ⟨h1, _⟩ := keepTs_get keep ds (i + 1) 0
    refine ⟨by simp [keepTs, h1], ?_⟩
    cases t with
    | zero =>
      simp only [keepTs, List.getD_cons_zero]
      split
      · exact .inl rfl
      · exact .inr rfl
    | succ t =>
      simp only [keepTs, List.getD_cons_succ]
      exact (keepTs_get keep ds (i + 1) t).2
theorem normz_ok (h : NH) {s : St} {a : Act} {w : World} (hs : StE w0 F0 W0 n0 γ0 s a w) : StE w0 F0 W0 n0 γ0 (normz P n0 h s) a w := by
  unfold normz
  simp only
  have h1 := mvCells_ok h.mv (ownCells_ok P h.ownC (ownAll_ok P h.own hs))
  generalize mvCells n0 h.mv (ownCells P h.ownC (ownAll P h.own s)) = s1 at h1
  have h2 : StE w0 F0 W0 n0 γ0 { ts := s1.ts, hp := fzOb s1.hp (refsOf s1.ts h.fz ++ refsC s1 h.fzC) } a w := fzOb_ok (s := s1) _ _ h1
  obtain ⟨N, γ, Fz, h3⟩ := h2
  obtain ⟨N', γ', h4, h5, h6, h7⟩ := gc_ok h3.rel h3.inh (keepTs h.keep 0 s1.ts) (fun t => a.tmps.getD t undef) fun t => by
    rcases (keepTs_get h.keep s1.ts 0 t).2 with e | e
    · rw [e]; exact h3.slots t
    · rw [e]; exact .junk _
  refine ⟨N', γ', Fz, h4, h5, ?_, h7, h3.quiet⟩
  have := h3.len
  rw [← this]
  exact h6.trans (keepTs_get h.keep _ 0 0).1
end norm
end Go.Ev
