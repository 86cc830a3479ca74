/-
Regions: in order, and by a drawn order.
-/
import Derived.Test.YtijjelcejpikiaaGreatDoorEvSnd18
set_option linter.unusedVariables false
set_option linter.unusedSimpArgs false
namespace Go.Ev
variable [Globs]
set_option linter.unusedSectionVars false
theorem Rel.sameMem {w0 : World} {F0 W0 N : Nat → Prop} {γ : Nat → Value} {Fz : Nat → Prop} {H : Nat → Option Ob} {w w' : World} (h : Rel w0 F0 W0 N γ Fz H w) (hh : w'.heap = w.heap) (h1 : w'.os = w.os) (h2 : w'.tape = w.tape) (h3 : w'.output = w.output) : Rel w0 F0 W0 N γ Fz H w' :=
  ⟨⟨h1.trans h.frm.os, h2.trans h.frm.tape, h3.trans h.frm.output, by rw [hh]; exact h.frm.size, fun b hb hn => by rw [hh]; exact h.frm.block b hb hn⟩, h.fz0, fun b hb => by rw [hh]; exact h.fzlt b hb, h.fznew, h.named,
    fun o ob ho => (h.obs o ob ho).frame (fun _ h => ⟨h, rfl⟩) (fun _ h => h) (fun _ _ => by rw [hh]) fun _ _ _ => by rw [hh], h.apart, h.hasob, h.glob.frame (fun _ h => h) fun _ _ => by rw [hh]⟩
theorem StE.sameMem {w0 : World} {F0 W0 : Nat → Prop} {n0 : Nat} {γ0 : Nat → Value} {s : St} {a : Act} {w w' : World} (h : StE w0 F0 W0 n0 γ0 s a w) (hh : w'.heap = w.heap) (h1 : w'.os = w.os) (h2 : w'.tape = w.tape) (h3 : w'.output = w.output) : StE w0 F0 W0 n0 γ0 s a w' := by
  obtain ⟨N, γ, Fz, h⟩ := h
  exact ⟨N, γ, Fz, h.rel.sameMem hh h1 h2 h3, h.inh, h.len, fun t => (h.slots t).frame (fun _ h => ⟨h, rfl⟩) (fun _ h => h) fun _ _ => by rw [hh], h.quiet⟩
/-- More names for nothing. -/
theorem StR.pad {w0 : World} {F0 W0 : Nat → Prop} {n0 : Nat} {γ0 : Nat → Value} {s : St} {a : Act} {w : World} {N : Nat → Prop} {γ : Nat → Value} {Fz : Nat → Prop} (h : StR w0 F0 W0 n0 γ0 s a w N γ Fz) (k : Nat) :
    StR w0 F0 W0 n0 γ0 { s with hp := s.hp ++ List.replicate k .dead } a w N γ Fz := by
  have get : ∀ (o : Nat) (ob : Ob), (s.hp ++ List.replicate k Ob.dead)[o]? = some ob → s.hp[o]? = some ob ∨ ob = .dead := fun o ob ho => by
    by_cases hlt : o < s.hp.length
    · rw [List.getElem?_append_left hlt] at ho
      exact .inl ho
    · rw [List.getElem?_append_right (by omega)] at ho
      exact .inr (List.mem_replicate.1 (List.mem_of_getElem? ho)).2
  refine ⟨⟨h.rel.frm, h.rel.fz0, h.rel.fzlt, h.rel.fznew, fun o ob ho hl => ?_, fun o ob ho => ?_, fun o ob ho hw b hb => ?_, fun o hN => ?_, h.rel.glob⟩, h.inh, h.len, h.slots, h.quiet⟩
  · rcases get o ob ho with h1 | rfl
    · exact h.rel.named o ob h1 hl
    · cases hl
  · rcases get o ob ho with h1 | rfl
    · exact h.rel.obs o ob h1
    · trivial
  · rcases get o ob ho with h1 | rfl
    · obtain ⟨h2, h3, h4⟩ := h.rel.apart o ob h1 hw b hb
      refine ⟨h2, h3, fun o' ob' ho' hw' hb' => ?_⟩
      rcases get o' ob' ho' with h5 | rfl
      · exact h4 o' ob' h5 hw' hb'
      · cases hw'
    · cases hw
  · obtain ⟨ob, h1⟩ := h.rel.hasob o hN
    exact ⟨ob, by rw [List.getElem?_append_left (List.getElem?_eq_some_iff.1 h1).1]; exact h1⟩
section draw
variable (P : Program) {call : Cal} (hcall : CalOK P call) (fh : FH) (ops : Array Oper) (base : Nat)
variable {w0 : World} {F0 W0 : Nat → Prop} {n0 : Nat} {γ0 : Nat → Value} {s0 : St} {out : Nat → Out}
theorem operand_slots {o : Oper} (s : St) (N : Nat → Prop) (γ : Nat → Value) (Fz : Nat → Prop) (w : World) (a : Act) (hG : GlobOk Fz w) (hs : ∀ t, t ∈ slotsIn ops o → V N γ Fz w (s.ts.getD t .junk) (a.tmps.getD t undef)) (x : Operand) : V N γ Fz w (maskTs (slotsIn ops o) s.ts x) (a.eval x) := by
  cases x with
  | tmp t =>
    simp only [maskTs]
    split
    · rename_i hc
      exact hs t (by simpa using hc)
    · exact .junk _
  | const v => exact kon_V v
  | global g =>
    show V N γ Fz w (match Globs.tab g with | some x => D.rptr x 0 | none => D.pd (.opq (.pointer (some ⟨g, 0, none⟩)))) _
    cases hx : Globs.tab g with
    | some x =>
      obtain ⟨u, h1, h2, h3⟩ := hG g x hx
      exact .rptr x 0 g 0 u h1 h2 h3
    | none => exact .pd _ _ (.opq _)
  | func f => exact .clo f [] [] #[] #[] rfl rfl (fun i h => by simp at h) fun i h => by simp at h
theorem good_wp {hot : Nat → Oper → Nat → Bool} (hslots : slotsOk ops (Region.before ops) = true) (hL : s0.hp.length = base + 8 * ops.size)
    (hout : ∀ j, j < ops.size → StepOK P ops base hot (Region.before ops) j (stS (opAt ops) out s0 (fun _ => true) j) (out j)) (hrest : ∀ j, ops.size ≤ j → out j = none)
    (Q : Exit → Act → World → Prop) (hQ : ∀ a w, StE w0 F0 W0 n0 γ0 (stS (opAt ops) out s0 (fun _ => true) ops.size) a w → Q .normal a w) :
    ∀ (l : List Nat) (S : Nat → Bool) (a : Act) (w : World) (N : Nat → Prop) (γ : Nat → Value) (Fz : Nat → Prop), Good ops.size (Region.before ops) S l → ClosedS (Region.before ops) S → StR w0 F0 W0 n0 γ0 (stS (opAt ops) out s0 S ops.size) a w N γ Fz →
      (∀ o, N o → o < base ∨ ∃ i, S i = true ∧ base + 8 * i ≤ o ∧ o < base + 8 * i + 8) → wpOps P ops Q l a w
  | [], S, a, w, N, γ, Fz, hg, hc, hs, hN => by
    refine hQ a w ⟨N, γ, Fz, ?_⟩
    have : stS (opAt ops) out s0 S ops.size = stS (opAt ops) out s0 (fun _ => true) ops.size := by
      have key : ∀ m, m ≤ ops.size → stS (opAt ops) out s0 S m = stS (opAt ops) out s0 (fun _ => true) m := by
        intro m
        induction m with
        | zero => intro _; rfl
        | succ m ih => intro hm; rw [stS, stS, ih (by omega), hg m (by omega)]
      exact key _ (Nat.le_refl _)
    rw [← this]
    exact hs
  | j :: l, S, a, w, N, γ, Fz, hg, hc, hs, hN => by
    obtain ⟨hj, hSj, hbef, hgood⟩ := hg
    have hah := slotsOk_ahead hslots
    have hO : ops[j]? = some (opAt ops j) := by simp [opAt, Array.getD, hj]
    have hk : ∀ i, ∀ x ∈ keysOf (outL (out i)), i < ops.size ∧ ((base + 8 * i ≤ x ∧ x < base + 8 * i + 8) ∨ (ordered hot ops.toList (Region.before ops) base i (keysOf (outL (out i))) = true ∧ (ownN base i x = true ∨ seesO hot (Region.before ops) base i (opAt ops i) x = true) ∧ x < base + 8 * ops.size)) := fun i x hx => by
      by_cases hi : i < ops.size
      · have hst := hout i hi
        cases hx2 : out i with
        | none => rw [hx2] at hx; simp [outL, keysOf] at hx
        | some p =>
          rw [hx2] at hst hx
          exact ⟨hi, (keysOk_at ops base hot hst.2.1 hx).imp ownN_iff.1 id⟩
      · rw [hrest i (by omega)] at hx
        simp [outL, keysOf] at hx
    have hkl : ∀ i, ∀ x ∈ keysOf (outL (out i)), x < s0.hp.length := fun i x hx => by
      obtain ⟨h1, h2⟩ := hk i x hx
      omega
    -- what two operations that share an object's name have to do with each other
    have hpair : ∀ i k x, x ∈ keysOf (outL (out i)) → x ∈ keysOf (outL (out k)) → i ≠ k → before? (Region.before ops) i k = true ∨ before? (Region.before ops) k i = true := fun i k x hi hk2 hne => by
      obtain ⟨h1, h3⟩ := hk i x hi
      obtain ⟨h4, h6⟩ := hk k x hk2
      rcases h3 with h3 | h3
      · rcases h6 with h6 | h6
        · omega
        · rcases ordered_at ops base hot h6.1 h1 hne with h | h | h
          · exact .inl h
          · exact .inr h
          · have := (h x hk2).2
            rw [ownN_iff.2 h3] at this
            cases this
      · rcases ordered_at ops base hot h3.1 h4 (Ne.symm hne) with h | h | h
        · exact .inr h
        · exact .inl h
        · obtain ⟨h7, h8⟩ := h x hi
          rcases h6 with h6 | h6
          · rw [ownN_iff.2 h6] at h8; cases h8
          · rcases h6.2.1 with h9 | h9
            · rw [h9] at h8; cases h8
            · rw [h9] at h7; cases h7
    have hS' := hc.add hbef
    -- the slots that operation j sees
    have hts : ∀ t, ((opAt ops j).dst = some t ∨ t ∈ slotsIn ops (opAt ops j)) → (stS (opAt ops) out s0 S ops.size).ts.getD t .junk = (stS (opAt ops) out s0 (fun _ => true) j).ts.getD t .junk := fun t ht => by
      have h1 := stS_ts (O := opAt ops) (out := out) (s0 := s0) S (fun i => decide (i < j)) t ops.size fun i hi hd => by
        by_cases e : i = j
        · subst e; rw [hSj]; simp
        · obtain ⟨h2, h3⟩ := slotsOk_at ops hslots hi hj e hd ht
          rcases Nat.lt_or_ge i j with hlt | hge
          · rw [hbef i (h2 hlt)]; simp [hlt]
          · have hlt : j < i := by omega
            have : S i = false := by
              cases hSi : S i with
              | false => rfl
              | true => rw [hc j i hSi (h3 hlt)] at hSj; cases hSj
            rw [this]; simp; omega
      rw [h1, stS_prefix, Nat.min_eq_right (by omega)]
    -- the objects that it sees
    have hhp : ∀ x, hot j (opAt ops j) x = true → ∀ ob, maskH (Region.before ops) base j (stS (opAt ops) out s0 (fun _ => true) j).hp x = some ob → (stS (opAt ops) out s0 S ops.size).hp[x]? = some ob ∧ ob.live = true := fun x hheap ob hx => by
      unfold maskH at hx
      split at hx
      · rename_i hvis
        obtain ⟨h1, h2⟩ := lookH_some hx
        refine ⟨?_, h2⟩
        have h3 := stS_hp (O := opAt ops) (out := out) (s0 := s0) hkl S (fun i => decide (i < j)) x ops.size fun i hi hd => by
          by_cases e : i = j
          · subst e; rw [hSj]; simp
          · obtain ⟨_, h6⟩ := hk i x hd
            have ahead : before? (Region.before ops) i j = true → S i = decide (i < j) := fun hb => by
              rw [hbef i hb]; simpa using before_lt hah _ _ hb
            have behind : before? (Region.before ops) j i = true → S i = decide (i < j) := fun hb => by
              have hlt := before_lt hah _ _ hb
              have : S i = false := by
                cases hSi : S i with
                | false => rfl
                | true => rw [hc j i hSi hb] at hSj; cases hSj
              rw [this]; simp; omega
            rcases h6 with h6 | h6
            · rcases hvis with hvis | ⟨h7, h8⟩
              · omega
              · have : (x - base) / 8 = i := by omega
                rw [this] at h7 h8
                exact ahead h8
            · rcases ordered_at ops base hot h6.1 hj (Ne.symm e) with hb | hb | hb
              · exact behind hb
              · exact ahead hb
              · have h7 := (hb x hd).1
                have h8 : seesO hot (Region.before ops) base j (opAt ops j) x = true := by
                  unfold seesO
                  rw [hheap, Bool.true_and]
                  rcases hvis with hvis | ⟨_, hvis⟩
                  · simp [hvis]
                  · simp [hvis]
                rw [h8] at h7
                cases h7
        rw [h3, stS_prefix, Nat.min_eq_right (by omega)]
        exact h1
      · cases hx
    -- and behind it
    have hlen := stS_len (O := opAt ops) (out := out) (s0 := s0)
    have hhlen := stS_hlen (O := opAt ops) (out := out) (s0 := s0) hkl
    have hnext : apply1 (opAt ops j) (out j) (stS (opAt ops) out s0 S ops.size) = stS (opAt ops) out s0 (fun i => S i || i == j) ops.size := by
      have later : ∀ i, j < i → (S i || i == j) = true → S i = true := fun i hlt h => by
        simp only [Bool.or_eq_true, beq_iff_eq] at h
        rcases h with h | h
        · exact h
        · omega
      have noway : ∀ i, S i = true → before? (Region.before ops) j i = true → False := fun i hSi hb => by
        rw [hc j i hSi hb] at hSj; cases hSj
      refine St.ext' (by rw [apply1_len, hlen, hlen]) (fun t => ?_) fun x => ?_
      · rw [apply1_ts]
        by_cases hd : (opAt ops j).dst = some t
        · by_cases ht : t < s0.ts.length
          · rw [if_pos ⟨hd, by rw [hlen]; exact ht⟩]
            refine (stS_last_ts _ j t (by simp) hd ht ops.size hj fun i h1 h2 h3 h4 => ?_).symm
            exact noway i (later i h1 h3) ((slotsOk_at ops hslots h2 hj (by omega) h4 (.inl hd)).2 h1)
          · rw [if_neg fun h => ht (by rw [hlen] at h; exact h.2)]
            simp only [List.getD]
            rw [List.getElem?_eq_none (by rw [hlen]; omega), List.getElem?_eq_none (by rw [hlen]; omega)]
        · rw [if_neg fun h => hd h.1]
          refine stS_ts _ _ t ops.size fun i hi hdi => ?_
          have : i ≠ j := fun e => hd (e ▸ hdi)
          simp [this]
      · rw [apply1_hp (by rw [hhlen]; exact hkl j)]
        by_cases hx : x ∈ keysOf (outL (out j))
        · refine (stS_last_hp hkl _ j x (by simp) hx _ ops.size hj fun i h1 h2 h3 h4 => ?_).symm
          rcases hpair i j x h4 hx (by omega) with hb | hb
          · have := before_lt hah _ _ hb; omega
          · exact noway i (later i h1 h3) hb
        · rw [applyU_other hx]
          refine stS_hp hkl _ _ x ops.size fun i hi hdi => ?_
          have : i ≠ j := fun e => hx (e ▸ hdi)
          simp [this]
    have hgo : ∀ b, guardOk ops (opAt ops j) (stS (opAt ops) out s0 (fun _ => true) j) = some b → guardOk ops (opAt ops j) (stS (opAt ops) out s0 S ops.size) = some b := fun b h => by
      rw [← h]
      unfold guardOk
      cases hgd : (opAt ops j).guard with
      | none => rfl
      | some p =>
        obtain ⟨k, want⟩ := p
        simp only
        cases hd : (ops[k]?).bind (·.dst) with
        | none => rfl
        | some t =>
          simp only
          rw [hts t (.inr (by simp [slotsIn, hgd, hd]))]
    have hst := hout j hj
    rw [wpOps, hO]
    simp only
    cases hx : out j with
    | none =>
      rw [hx] at hst
      rw [guardOk_wanted (hgo _ hst) hs.slots hs.len, if_neg (by simp)]
      have hs2 := hs.put (hp' := (stS (opAt ops) out s0 S ops.size).hp) (hs.rel.go 0) (fun _ => rfl) (opAt ops j).dst (d := undefD) (v := undef) (.pd _ _ (.opq _))
      have e : (({ stS (opAt ops) out s0 S ops.size with hp := (stS (opAt ops) out s0 S ops.size).hp } : St).put (opAt ops j).dst undefD) = apply1 (opAt ops j) (out j) (stS (opAt ops) out s0 S ops.size) := by rw [hx]; rfl
      rw [e, hnext] at hs2
      exact good_wp hslots hL hout hrest Q hQ l _ _ _ N γ Fz hgood hS' hs2 fun o ho => (hN o ho).imp id fun ⟨i, h1, h2⟩ => ⟨i, by simp [h1], h2⟩
    | some p =>
      obtain ⟨d', dl⟩ := p
      rw [hx] at hst
      obtain ⟨hg1, hko, d, hop, href⟩ := hst
      rw [guardOk_wanted (hgo _ hg1) hs.slots hs.len, if_pos rfl]
      refine .inl (hop w0 F0 W0 N γ Fz ((stS (opAt ops) out s0 S ops.size).hp[·]?) a w hs.rel (operand_slots ops _ N γ Fz w a hs.rel.glob fun t ht => ?_) (fun i ob hi => ?_) (fun i h1 h2 hNi => ?_) _ _ fun v w' ⟨N', γ', F', hg, hv⟩ => ?_)
      · rw [← hts t (.inr ht)]
        exact hs.slots t
      · dsimp only at hi
        split at hi
        · rename_i hheap
          exact hhp i hheap ob hi
        · cases hi
      · rcases hN i hNi with h3 | ⟨k, h3, h4, h5⟩
        · omega
        · have : k = j := by omega
          subst this
          rw [hSj] at h3
          cases h3
      · have hs2 := hs.put (hp' := updsH (stS (opAt ops) out s0 S ops.size).hp dl) hg (fun o => okKeys_get _ _ (okKeys_lt _ _ fun x hxx => by
          rw [hhlen]; exact hkl j x (by rw [hx]; exact hxx)) o) (opAt ops j).dst (href _ _ _ _ _ hv)
        have e : (({ stS (opAt ops) out s0 S ops.size with hp := updsH (stS (opAt ops) out s0 S ops.size).hp dl } : St).put (opAt ops j).dst d') = apply1 (opAt ops j) (out j) (stS (opAt ops) out s0 S ops.size) := by rw [hx]; rfl
        rw [e, hnext] at hs2
        refine good_wp hslots hL hout hrest Q hQ l _ _ _ N' γ' F' hgood hS' hs2 fun o ho => ?_
        rcases hg.ext.new o ho with h1 | h1
        · exact (hN o h1).imp id fun ⟨i, h1, h2⟩ => ⟨i, by simp [h1], h2⟩
        · exact .inr ⟨j, by simp, h1⟩
include hcall in
theorem evRegion_wp (r : Nat) (draw : Bool) {X : Type} (k : St → Option X) (res : X) (Q : Exit → Act → World → Prop) (hQ : ∀ s a w, k s = some res → StE w0 F0 W0 n0 γ0 s a w → Q .normal a w)
    (s : St) (a : Act) (w : World) (h : evRegion P call fh r ops draw s X k = some res) (hs : StE w0 F0 W0 n0 γ0 s a w) : (Code.region r ops draw).wp P Q a w := by
  unfold evRegion at h
  cases draw with
  | false =>
    refine wp_region ?_
    have := evOps_wp P hcall fh r ops k res Q hQ ops.toList 0 s a w (by simp) h hs
    rw [List.range_eq_range']
    simpa using this
  | true =>
    rw [if_pos rfl] at h
    split at h
    · rename_i hslots
      refine wp_region_draw fun t => ?_
      obtain ⟨N, γ, Fz, hs1⟩ := hs.sameMem (w' := { w with drawn := w.drawn + 1 }) rfl rfl rfl rfl
      obtain ⟨out, hout⟩ := evDraw_trace P hcall fh ops s.hp.length r (Region.before ops) k res ops.toList 0 _ (by simp) h
      -- beyond the region nothing
      let out2 : Nat → Out := fun i => if i < ops.size then out i else none
      have hlt : ∀ i, i < ops.size → out2 i = out i := fun i hi => if_pos hi
      have hge : ∀ i, ops.size ≤ i → out2 i = none := fun i hi => if_neg (by omega)
      let s1 : St := { s with hp := s.hp ++ List.replicate (8 * ops.size) .dead }
      let T : Nat → St := fun i => if i ≤ ops.size then stS (opAt ops) out2 s1 (fun _ => true) i else stS (opAt ops) out s1 (fun _ => true) i
      have heq : ∀ m, m ≤ ops.size → stS (opAt ops) out2 s1 (fun _ => true) m = stS (opAt ops) out s1 (fun _ => true) m := by
        intro m
        induction m with
        | zero => intro _; rfl
        | succ m ih => intro hm; rw [stS, stS, ih (by omega), hlt m (by omega)]
      obtain ⟨h1, h2⟩ := hout (stS (opAt ops) out s1 (fun _ => true)) rfl fun i _ => by rw [stS, if_pos rfl]
      simp only [Array.length_toList, Nat.zero_add] at h1 h2
      refine good_wp P ops s.hp.length (hot := hotOp fh r s.hp.length) (s0 := s1) (out := out2) hslots (by simp [s1]) (fun j hj => ?_) hge Q (fun a w h => hQ _ a w h1 (by rw [heq _ (Nat.le_refl _)] at h; exact h)) _ (fun _ => false) a _ N γ Fz (schedule_good (slotsOk_ahead hslots) _ t) (fun i j h => by cases h) ?_ fun o ho => ?_
      · rw [heq j (by omega), hlt j hj]
        exact h2 j (Nat.zero_le _) hj
      · have : stS (opAt ops) out2 s1 (fun _ => false) ops.size = s1 := by
          have key : ∀ m, stS (opAt ops) out2 s1 (fun _ => false) m = s1 := by
            intro m
            induction m with
            | zero => rfl
            | succ m ih => rw [stS, ih]; simp
          exact key _
        rw [this]
        exact hs1.pad _
      · obtain ⟨ob, h3⟩ := hs1.rel.hasob o ho
        exact .inl (List.getElem?_eq_some_iff.1 h3).1
    · cases h
end draw
end Go.Ev
