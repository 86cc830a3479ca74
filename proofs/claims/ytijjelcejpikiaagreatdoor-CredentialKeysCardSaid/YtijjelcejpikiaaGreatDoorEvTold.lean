/-
Code with told parts: a loop, or what follows a place where ways meet, is told by a function of the state there.
-/
import Derived.Test.YtijjelcejpikiaaGreatDoorEvTab
set_option linter.unusedVariables false
set_option linter.unusedSimpArgs false
namespace Go.Ev
variable [Globs]
set_option linter.unusedSectionVars false
/-! ### Objects, less told of -/
structure ObW (ob ob' : Ob) : Prop where
  own : ob'.own = ob.own
  live : ob'.live = ob.live
  obr : ∀ (N : Nat → Prop) (γ : Nat → Value) (Fz : Nat → Prop) (w : World) (g : Value), ObR N γ Fz w g ob → ObR N γ Fz w g ob'
theorem ObW.refl (ob : Ob) : ObW ob ob := ⟨rfl, rfl, fun _ _ _ _ _ h => h⟩
structure HpW (hp hp' : List Ob) : Prop where
  len : hp'.length = hp.length
  ob : ∀ (o : Nat) ob', hp'[o]? = some ob' → ∃ ob, hp[o]? = some ob ∧ ObW ob ob'
theorem HpW.back {hp hp' : List Ob} (h : HpW hp hp') {o : Nat} {ob : Ob} (ho : hp[o]? = some ob) : ∃ ob', hp'[o]? = some ob' ∧ ObW ob ob' := by
  have hlt := (List.getElem?_eq_some_iff.1 ho).1
  have h1 : hp'[o]? = some (hp'[o]'(by rw [h.len]; exact hlt)) := by simp [h.len, hlt]
  obtain ⟨ob2, h2, h3⟩ := h.ob o _ h1
  rw [ho] at h2
  cases h2
  exact ⟨_, h1, h3⟩
theorem HpW.rel {hp hp' : List Ob} (h : HpW hp hp') {w0 : World} {F0 W0 N : Nat → Prop} {γ : Nat → Value} {Fz : Nat → Prop} {w : World} (hr : Rel w0 F0 W0 N γ Fz (hp[·]?) w) : Rel w0 F0 W0 N γ Fz (hp'[·]?) w := by
  refine ⟨hr.frm, hr.fz0, hr.fzlt, hr.fznew, fun o ob' ho hl => ?_, fun o ob' ho => ?_, fun o ob' ho hw b hb => ?_, fun o ho => ?_, hr.glob⟩
  · obtain ⟨ob, h1, h2⟩ := h.ob o ob' ho
    exact hr.named o ob h1 (by rw [← h2.live]; exact hl)
  · obtain ⟨ob, h1, h2⟩ := h.ob o ob' ho
    exact h2.obr _ _ _ _ _ (hr.obs o ob h1)
  · obtain ⟨ob, h1, h2⟩ := h.ob o ob' ho
    obtain ⟨h3, h4, h5⟩ := hr.apart o ob h1 (by rw [← h2.own]; exact hw) b hb
    refine ⟨h3, h4, fun o' ob'' ho' hw' hb' => ?_⟩
    obtain ⟨ob1, h6, h7⟩ := h.ob o' ob'' ho'
    exact h5 o' ob1 h6 (by rw [← h7.own]; exact hw') hb'
  · obtain ⟨ob, h1⟩ := hr.hasob o ho
    obtain ⟨ob', h2, _⟩ := h.back h1
    exact ⟨ob', h2⟩
theorem HpW.ownBlks {hp hp' : List Ob} (h : HpW hp hp') (γ : Nat → Value) : OwnBlks γ (hp'[·]?) = OwnBlks γ (hp[·]?) := by
  funext b
  apply propext
  constructor
  · rintro ⟨o, ob', h1, h2, h3⟩
    obtain ⟨ob, h4, h5⟩ := h.ob o ob' h1
    exact ⟨o, ob, h4, by rw [← h5.own]; exact h2, h3⟩
  · rintro ⟨o, ob, h1, h2, h3⟩
    obtain ⟨ob', h4, h5⟩ := h.back h1
    exact ⟨o, ob', h4, by rw [h5.own]; exact h2, h3⟩
abbrev Tc := List (Nat × (St → C (Ex × St)))
/-- The codes of loops whose first region is id. -/
def loopsAt (id : Nat) : Code → List Code
  | .seq a b => loopsAt id a ++ loopsAt id b
  | .cond _ a b => loopsAt id a ++ loopsAt id b
  | .block _ b => loopsAt id b
  | .scope b => loopsAt id b
  | .loop b => (if firstR b = some id then [b] else []) ++ loopsAt id b
  | _ => []
/-- What follows places whose first region is id. -/
def joinsAt (id : Nat) : Code → List Code
  | .seq a b => (if firstR b = some id then [b] else []) ++ (joinsAt id a ++ joinsAt id b)
  | .cond _ a b => ((if firstR a = some id then [a] else []) ++ (if firstR b = some id then [b] else [])) ++ (joinsAt id a ++ joinsAt id b)
  | .block _ b => joinsAt id b
  | .scope b => joinsAt id b
  | .loop b => joinsAt id b
  | _ => []
/-- Both ways come to the same. -/
noncomputable def ambO {X : Type} (a b : Option X) : Option X := @ite _ (a = b) (Classical.propDecidable _) a none
theorem ambO_some {X : Type} {a b : Option X} {r : X} (h : ambO a b = some r) : a = some r ∧ b = some r := by
  unfold ambO at h
  split at h
  · rename_i e
    exact ⟨h, e ▸ h⟩
  · cases h
theorem ambO_eq {X : Type} {a b : Option X} (h : a = b) : ambO a b = a := by
  unfold ambO
  rw [if_pos h]
def isAnyb : D → Bool
  | .pd .anyb => true
  | _ => false
noncomputable def C.amb {A : Type} (f : Bool → C A) : C A := fun X k => ambO (f true X k) (f false X k)
section code
variable (P : Program) (call : Cal) (fh : FH) (tl tj : Tc) (n0 : Nat)
def normAt (l : List (Nat × NH)) (b : Code) (s : St) : St :=
  match (firstR b).bind (assoc l) with
  | some h => normz P n0 h s
  | none => s
noncomputable def evT : Code → St → C (Ex × St)
  | .skip, s | .label _, s => C.pure (.norm, s)
  | .region id ops draw, s => C.bind (evRegion P call fh id ops draw s) fun s => C.pure (.norm, s)
  | .seq a b, s => C.bind (evT a s) fun (e, s) =>
    match e with
    | .norm => match (firstR b).bind (assoc tj) with
      | some t => t (normAt P n0 fh.join b s)
      | none => evT b s
    | e => C.pure (e, s)
  | .cond c x y, s =>
    cond (isAnyb (evalO s.ts c)) (C.amb fun t => cond t (match (firstR x).bind (assoc tj) with | some t' => t' (normAt P n0 fh.join x (s.know c t)) | none => evT x (s.know c t)) (match (firstR y).bind (assoc tj) with | some t' => t' (normAt P n0 fh.join y (s.know c t)) | none => evT y (s.know c t))) (C.bind (boolD (evalO s.ts c)) fun t => C.split t fun t =>
      cond t (match (firstR x).bind (assoc tj) with | some t' => t' (normAt P n0 fh.join x (s.know c t)) | none => evT x (s.know c t)) (match (firstR y).bind (assoc tj) with | some t' => t' (normAt P n0 fh.join y (s.know c t)) | none => evT y (s.know c t)))
  | .block id b, s => C.bind (evT b s) fun (e, s) =>
    match e with
    | .exit j => if j = id then C.pure (.norm, s) else C.pure (.exit j, s)
    | e => C.pure (e, s)
  | .loop b, s =>
    match (firstR b).bind (assoc tl) with
    | none => C.fail
    | some t => t (match (firstR b).bind (assoc fh.loops) with | some (hi, _) => normz P n0 hi s | none => s)
  | .scope b, s => evT b s
  | .exit id, s => C.pure (.exit id, s)
  | .ret, s => C.pure (.ret, s)
  | _, _ => C.fail
def finT (nh : NH) (fn : Func) (r : Ex × St) : C (D × List Ob) :=
  match r.1 with
  | .exit _ => C.fail
  | _ => C.bind (resultsD P r.2 fn.results.toList) fun ds =>
    let s := normz P n0 { nh with keep := List.range ds.length } ⟨ds, r.2.hp⟩
    C.pure (tupD s.ts, s.hp)
noncomputable def evTBody (nh : NH) (F : FuncId) (args : List D) (hp : List Ob) : C (D × List Ob) :=
  match P.funcs[F]? with
  | none => C.fail
  | some fn =>
    match fn.body with
    | none => C.fail
    | some c =>
      if fn.name = "runtime.NumGoroutine" then C.fail else
      C.bind (evT P call fh tl tj hp.length c ⟨args ++ List.replicate (fn.ntmps - args.length) .junk, hp⟩) (finT P hp.length nh fn)

/-- What it means that code c comes from state s to r. -/
def CdOK (c : Code) (s : St) (r : Ex × St) : Prop :=
  ∀ (w0 : World) (F0 W0 : Nat → Prop) (γ0 : Nat → Value) (Q : Exit → Act → World → Prop) (a : Act) (w : World), StE w0 F0 W0 n0 γ0 s a w → (∀ a' w', StE w0 F0 W0 n0 γ0 r.2 a' w' → Q (toExit r.1) a' w') → c.wp P Q a w
def TlOK (c : Code) : Prop := ∀ id t, assoc tl id = some t → ∀ b ∈ loopsAt id c, ∀ s, Sure (t s) (CdOK P n0 (.loop b) s)
def TjOK (c : Code) : Prop := ∀ id t, assoc tj id = some t → ∀ b ∈ joinsAt id c, ∀ s, Sure (t s) (CdOK P n0 b s)
variable {P call tl tj}
theorem TlOK.nil {c : Code} : TlOK P [] n0 c := fun id t h => by cases h
theorem TjOK.nil {c : Code} : TjOK P [] n0 c := fun id t h => by cases h
theorem TlOK.cons {c b0 : Code} {id : Nat} {t : St → C (Ex × St)} (hb : loopsAt id c = [b0]) (ht : ∀ s, Sure (t s) (CdOK P n0 (.loop b0) s)) (h : TlOK P tl n0 c) : TlOK P ((id, t) :: tl) n0 c := fun j f hf b hm => by
  simp only [assoc] at hf
  split at hf
  · rename_i e
    cases hf
    subst e
    rw [hb] at hm
    simp only [List.mem_cons, List.not_mem_nil, or_false] at hm
    subst hm
    exact ht
  · exact h j f hf b hm
theorem TjOK.cons {c b0 : Code} {id : Nat} {t : St → C (Ex × St)} (hb : joinsAt id c = [b0]) (ht : ∀ s, Sure (t s) (CdOK P n0 b0 s)) (h : TjOK P tj n0 c) : TjOK P ((id, t) :: tj) n0 c := fun j f hf b hm => by
  simp only [assoc] at hf
  split at hf
  · rename_i e
    cases hf
    subst e
    rw [hb] at hm
    simp only [List.mem_cons, List.not_mem_nil, or_false] at hm
    subst hm
    exact ht
  · exact h j f hf b hm
theorem normAt_ok (l : List (Nat × NH)) (b : Code) {w0 : World} {F0 W0 : Nat → Prop} {γ0 : Nat → Value} {s : St} {a : Act} {w : World} (hs : StE w0 F0 W0 n0 γ0 s a w) : StE w0 F0 W0 n0 γ0 (normAt P n0 l b s) a w := by
  unfold normAt
  split
  · exact normz_ok P _ hs
  · exact hs
variable (hcall : CalOK P call)
include hcall in
theorem evT_wp {w0 : World} {F0 W0 : Nat → Prop} {γ0 : Nat → Value} : ∀ (c : Code), TlOK P tl n0 c → TjOK P tj n0 c → ∀ {X : Type} (k : Ex × St → Option X) (res : X) (Q : Exit → Act → World → Prop), (∀ e s a w, k (e, s) = some res → StE w0 F0 W0 n0 γ0 s a w → Q (toExit e) a w) →
    ∀ (s : St) (a : Act) (w : World), evT P call fh tl tj n0 c s X k = some res → StE w0 F0 W0 n0 γ0 s a w → c.wp P Q a w
  | .skip, _, _, X, k, res, Q, hQ, s, a, w, h, hs => wp_skip (hQ .norm s a w h hs)
  | .label _, _, _, X, k, res, Q, hQ, s, a, w, h, hs => wp_label (hQ .norm s a w h hs)
  | .region id ops draw, _, _, X, k, res, Q, hQ, s, a, w, h, hs => evRegion_wp P hcall fh ops id draw (fun s => k (.norm, s)) res Q (fun s a w h hs => hQ .norm s a w h hs) s a w h hs
  | .seq x y, hl, hj, X, k, res, Q, hQ, s, a, w, h, hs => by
    rw [evT] at h
    change evT P call fh tl tj n0 x s X _ = some res at h
    refine wp_seq (evT_wp x (fun id t ht b hb => hl id t ht b (by simp [loopsAt, hb])) (fun id t ht b hb => hj id t ht b (by simp [joinsAt, hb])) _ res _ (fun e s a w h hs => ?_) s a w h hs)
    cases e with
    | norm =>
      dsimp only at h
      cases ht : (firstR y).bind (assoc tj) with
      | some t =>
        rw [ht] at h
        obtain ⟨id, h1, h2⟩ := Option.bind_eq_some_iff.1 ht
        obtain ⟨r, hr, hc⟩ := hj id t h2 y (by simp [joinsAt, h1]) _ X k res h
        exact hc w0 F0 W0 γ0 Q a w (normAt_ok n0 _ y hs) fun a' w' hs' => hQ r.1 r.2 a' w' hr hs'
      | none =>
        rw [ht] at h
        exact evT_wp y (fun id t ht b hb => hl id t ht b (by simp [loopsAt, hb])) (fun id t ht b hb => hj id t ht b (by simp [joinsAt, hb])) k res Q hQ _ a w h hs
    | exit id => exact hQ _ s a w h hs
    | ret => exact hQ _ s a w h hs
  | .cond c x y, hl, hj, X, k, res, Q, hQ, s, a, w, h, hs => by
    obtain ⟨N, γ, Fz, hs1⟩ := id hs
    have hev := hs1.eval c
    have bx : ∀ s', StE w0 F0 W0 n0 γ0 s' a w → (match (firstR x).bind (assoc tj) with | some t' => t' (normAt P n0 fh.join x s') | none => evT P call fh tl tj n0 x s') X k = some res → x.wp P Q a w := fun s' hs' h1 => by
      cases ht : (firstR x).bind (assoc tj) with
      | some t' =>
        rw [ht] at h1
        obtain ⟨id, h3, h4⟩ := Option.bind_eq_some_iff.1 ht
        obtain ⟨r, hr, hc⟩ := hj id t' h4 x (by simp [joinsAt, h3]) _ X k res h1
        exact hc w0 F0 W0 γ0 Q a w (normAt_ok n0 _ x hs') fun a' w' hs' => hQ r.1 r.2 a' w' hr hs'
      | none =>
        rw [ht] at h1
        exact evT_wp x (fun id t ht b hb => hl id t ht b (by simp [loopsAt, hb])) (fun id t ht b hb => hj id t ht b (by simp [joinsAt, hb])) k res Q hQ _ a w h1 hs'
    have by' : ∀ s', StE w0 F0 W0 n0 γ0 s' a w → (match (firstR y).bind (assoc tj) with | some t' => t' (normAt P n0 fh.join y s') | none => evT P call fh tl tj n0 y s') X k = some res → y.wp P Q a w := fun s' hs' h1 => by
      cases ht : (firstR y).bind (assoc tj) with
      | some t' =>
        rw [ht] at h1
        obtain ⟨id, h3, h4⟩ := Option.bind_eq_some_iff.1 ht
        obtain ⟨r, hr, hc⟩ := hj id t' h4 y (by simp [joinsAt, h3]) _ X k res h1
        exact hc w0 F0 W0 γ0 Q a w (normAt_ok n0 _ y hs') fun a' w' hs' => hQ r.1 r.2 a' w' hr hs'
      | none =>
        rw [ht] at h1
        exact evT_wp y (fun id t ht b hb => hl id t ht b (by simp [loopsAt, hb])) (fun id t ht b hb => hj id t ht b (by simp [joinsAt, hb])) k res Q hQ _ a w h1 hs'
    have go : ∀ t : Bool, a.eval c = .bool t → (cond t (match (firstR x).bind (assoc tj) with | some t' => t' (normAt P n0 fh.join x (s.know c t)) | none => evT P call fh tl tj n0 x (s.know c t)) (match (firstR y).bind (assoc tj) with | some t' => t' (normAt P n0 fh.join y (s.know c t)) | none => evT P call fh tl tj n0 y (s.know c t))) X k = some res → (Code.cond c x y).wp P Q a w := fun t hc h1 => by
      have hs2 := refine_slot n0 hs c t hc
      cases t with
      | true => exact wp_cond_true hc (bx _ hs2 h1)
      | false => exact wp_cond_false hc (by' _ hs2 h1)
    rw [evT] at h
    cases hany : isAnyb (evalO s.ts c) with
    | true =>
      rw [hany] at h
      obtain ⟨b, hb⟩ : ∃ b, a.eval c = .bool b := by
        unfold isAnyb at hany
        split at hany
        · rename_i hb
          rw [hb] at hev
          exact hev.inv_pd.inv_anyb
        · cases hany
      obtain ⟨h1, h2⟩ := ambO_some h
      cases b with
      | true => exact go true hb h1
      | false => exact go false hb h2
    | false =>
      rw [hany] at h
      obtain ⟨t, h1, ht⟩ := boolD_sure (evalO s.ts c) X _ res h
      exact go t (ht N γ Fz w _ hev) (by cases t <;> exact h1)
  | .block id b, hl, hj, X, k, res, Q, hQ, s, a, w, h, hs => by
    rw [evT] at h
    change evT P call fh tl tj n0 b s X _ = some res at h
    refine wp_block (evT_wp b hl hj _ res _ (fun e s a w h hs => ?_) s a w h hs)
    cases e with
    | norm => exact hQ .norm s a w h hs
    | ret => exact hQ .ret s a w h hs
    | exit j =>
      simp only [toExit, Exit.inBlock]
      by_cases e : j = id
      · rw [if_pos e]
        simp only [if_pos e] at h
        exact hQ .norm s a w h hs
      · rw [if_neg e]
        simp only [if_neg e] at h
        exact hQ (.exit j) s a w h hs
  | .loop b, hl, hj, X, k, res, Q, hQ, s, a, w, h, hs => by
    rw [evT] at h
    cases ht : (firstR b).bind (assoc tl) with
    | none => rw [ht] at h; cases h
    | some t =>
      rw [ht] at h
      obtain ⟨id, h1, h2⟩ := Option.bind_eq_some_iff.1 ht
      obtain ⟨r, hr, hc⟩ := hl id t h2 b (by simp [loopsAt, h1]) _ X k res h
      refine hc w0 F0 W0 γ0 Q a w ?_ fun a' w' hs' => hQ r.1 r.2 a' w' hr hs'
      split
      · exact normz_ok P _ hs
      · exact hs
  | .scope b, hl, hj, X, k, res, Q, hQ, s, a, w, h, hs => wp_scope_straight (evT_wp b hl hj k res _ (fun e s a w h hs => by
      have := hQ e s a w h hs
      cases e <;> exact this) s a w h hs)
  | .exit id, _, _, X, k, res, Q, hQ, s, a, w, h, hs => wp_exit (hQ (.exit id) s a w h hs)
  | .ret, _, _, X, k, res, Q, hQ, s, a, w, h, hs => wp_ret (hQ .ret s a w h hs)
  | .rangeFunc .., _, _, X, k, res, Q, hQ, s, a, w, h, hs => by cases h
  | .goto _, _, _, X, k, res, Q, hQ, s, a, w, h, hs => by cases h
  | .refuse _, _, _, X, k, res, Q, hQ, s, a, w, h, hs => by cases h
include hcall in
/-- A function whose body comes to r. -/
theorem evTBody_ok (nh : NH) (g : FuncId) (args : List D) (hp : List Ob) (fn : Func) (hf : P.funcs[g]? = some fn) (h1 : TlOK P tl hp.length (codeOf fn)) (h2 : TjOK P tj hp.length (codeOf fn)) {X : Type} (k : D × List Ob → Option X) (res : X) (d' : D) (hp' : List Ob) (hk : ∀ r, k r = some res → HpW r.2 hp' ∧ ∀ N γ Fz w v, V N γ Fz w r.1 v → V N γ Fz w d' v) (h : evTBody P call fh tl tj nh g args hp X k = some res) : FnOK P g args hp (d', hp') := by
  unfold evTBody at h
  rw [hf] at h
  simp only at h
  cases hb : fn.body with
  | none => rw [hb] at h; cases h
  | some c =>
    have hc : codeOf fn = c := by unfold codeOf; rw [hb]; rfl
    rw [hc] at h1 h2
    rw [hb] at h
    simp only at h
    split at h
    · cases h
    · rename_i hname
      intro w F0 γ0 vs hvl hrel hargs
      refine .inl ⟨by simp [callFunc, hf, hname, hb], calls_of_wp hf hb ?_⟩
      refine evT_wp fh hp.length hcall c h1 h2 _ res _ (fun e s a w' h1 hs => ?_) _ _ w h ⟨(· < hp.length), γ0, F0, hrel, fun o ho => ⟨ho, rfl⟩, by simp [hvl], fun t => ?_, rfl⟩
      · have fin : C.bind (resultsD P s fn.results.toList) (fun ds => let s' := normz P hp.length { nh with keep := List.range ds.length } ⟨ds, s.hp⟩; C.pure (tupD s'.ts, s'.hp)) X k = some res → a.defers = [] ∧ ∃ v, (results fn a.tmps).run P w' = .ok v w' ∧
            ∃ u, Ending.returned v = .returned u ∧ ∃ N' γ' Fz', Rel w F0 (OwnBlks γ0 (hp[·]?)) N' γ' Fz' (hp'[·]?) w' ∧ (∀ o, o < hp.length → N' o ∧ γ' o = γ0 o) ∧ (∀ o, N' o → o < hp'.length) ∧ V N' γ' Fz' w' d' u := by
          intro h2
          obtain ⟨ds, h3, hl, hds⟩ := resultsD_sure (w0 := w) (F0 := F0) (W0 := OwnBlks γ0 (hp[·]?)) (γ0 := γ0) P hp.length s fn.results.toList _ _ res h2
          obtain ⟨hw, hd⟩ := hk _ h3
          obtain ⟨N, γ, Fz, hs⟩ := hs
          obtain ⟨us, h4, h5, h6⟩ := hds N γ Fz w' a hs
          have hst : StE w F0 (OwnBlks γ0 (hp[·]?)) hp.length γ0 ⟨ds, s.hp⟩ { a with tmps := us.toArray } w' := ⟨N, γ, Fz, hs.rel, hs.inh, by simp [hl, h5], fun t => by
            have := h6 t
            simpa [Array.getD_eq_getD_getElem?, List.getD] using this, hs.quiet⟩
          obtain ⟨N', γ', Fz', hz⟩ := normz_ok P { nh with keep := List.range ds.length } hst
          refine ⟨hs.quiet, _, results_run P h4, _, rfl, N', γ', Fz', ?_, hz.inh, fun o ho => ?_, ?_⟩
          · exact hw.rel hz.rel
          · rw [hw.len]
            obtain ⟨ob, h11⟩ := hz.rel.hasob o ho
            exact (List.getElem?_eq_some_iff.1 h11).1
          · refine hd _ _ _ _ _ (tupD_V (by simpa using hz.len.symm) fun t => ?_)
            have := hz.slots t
            simpa [Array.getD_eq_getD_getElem?, List.getD] using this
        cases e with
        | norm => exact fin h1
        | ret => exact fin h1
        | exit id => cases h1
      · have hlt : t < args.length ∨ args.length ≤ t := by omega
        rcases hlt with hlt | hge
        · have := hargs t hlt
          simp only [List.getD, List.getElem?_append_left hlt, List.getElem?_eq_getElem hlt, Option.getD_some]
          have e : (vs.toArray ++ Array.replicate (fn.ntmps - vs.toArray.size) undef).getD t undef = vs.getD t undef := by
            simp [Array.getD_eq_getD_getElem?, Array.getElem?_append, hvl, hlt, List.getD]
          rw [e]
          exact this
        · have e : (args ++ List.replicate (fn.ntmps - args.length) D.junk).getD t .junk = .junk := by
            simp only [List.getD, List.getElem?_append_right hge]
            cases h : (List.replicate (fn.ntmps - args.length) D.junk)[t - args.length]? with
            | none => rfl
            | some d => rw [(List.mem_replicate.1 (List.mem_of_getElem? h)).2]; rfl
          rw [e]
          exact .junk _
/-- A loop by its rounds. -/
theorem loop_cd {σ ρ : Type} {step : σ → Option (σ ⊕ ρ)} {emb : σ → St} {embX : ρ → Ex × St} {b : Code} (hin : ∀ x x', step x = some (.inl x') → CdOK P n0 b (emb x) (.norm, emb x')) (hout : ∀ x r, step x = some (.inr r) → CdOK P n0 b (emb x) (embX r) ∧ (embX r).1 ≠ .norm) :
    ∀ x r, loopFix step x = some r → CdOK P n0 (.loop b) (emb x) (embX r) := by
  intro x r hr w0 F0 W0 γ0 Q a w hs hQ
  refine wp_loopIn (loopFix.partial_correctness step (fun x r => (∀ a' w', StE w0 F0 W0 n0 γ0 (embX r).2 a' w' → Q (toExit (embX r).1) a' w') → ∀ a w, StE w0 F0 W0 n0 γ0 (emb x) a w → LoopIn P b Q a w) (fun rec ih x r hr hQ a w hs => ?_) x r hr hQ a w hs)
  split at hr
  · cases hr
  · rename_i x' hst
    exact loopIn_round (hin x x' hst w0 F0 W0 γ0 _ a w hs fun a' w' hs' => ih x' r hr hQ a' w' hs')
  · rename_i r' hst
    cases hr
    obtain ⟨h1, h2⟩ := hout x r hst
    refine loopIn_round (h1 w0 F0 W0 γ0 _ a w hs fun a' w' hs' => ?_)
    have := hQ a' w' hs'
    revert this h2
    generalize (embX r).1 = e
    intro h2 h3
    cases e with
    | norm => exact absurd rfl h2
    | exit id => exact h3
    | ret => exact h3
end code
end Go.Ev
