/- The engine, besides: what panics, defers, and calls a round; over the fenced walk. -/
import Derived.Test.YtbbcofdibkgalaaGreatDoorEngC
import Derived.RangeFuncWrites
import Derived.RangeFuncLeaves
import Derived.RangeFuncCalls
import Derived.RangeFuncSeq
import Derived.Recover
import Derived.TacticsIn
set_option linter.unusedVariables false
set_option linter.unusedSimpArgs false
namespace Go.Eng

/-- The functions that may panic. -/
abbrev Pan := List Nat
def opI (F : Fence) (m : Nat) (P : Program) (T : Tab) (fok : Env) (pan : Pan) (o : Oper) (f : Fr) (ds : List Deferred) (w : World) (K : Value → List Deferred → World → Prop) (KP : List PanicEntry → World → Prop) : Prop :=
  match o.op with
  | .defer c => match F.round with
    | some _ => False
    | none => match c.callee with
      | .value g => (match ev f g with
        | .func (.func h) a cp => K undef ({ target := .fn (.func h) cp, args := a ++ (evs f c.args).toArray } :: ds) w
        | _ => False)
      | _ => False
  | .panic x => match ev f x with | .iface t v => KP [{ v := .iface t v, recovered := false }] w | _ => False
  | .call c => match c.callee with
    | .value g => (match ev f g with
      | .func (.yield l) a cp => YieldAt F (m - 1) P l (a ++ (evs f c.args).toArray) w fun e w' => ∃ b : Bool, e = .returned (.bool b) ∧ K (.bool b) ds w'
      | .func (.func h) a cp => bif pan.contains h then
          (bif fok.fs.contains h then Calls P h ((a.toList ++ evs f c.args) ++ cp.toList).toArray w (fun e w' => (ExR (rkOf T o.type) fun v => e = .returned v ∧ K v ds w') ∨ ∃ ch, e = .panicked ch ∧ KP ch w') else False)
        else opW P T fok o f w (fun v w' => K v ds w')
      | _ => opW P T fok o f w (fun v w' => K v ds w'))
    | _ => opW P T fok o f w (fun v w' => K v ds w')
  | _ => opW P T fok o f w (fun v w' => K v ds w')

def opsI (F : Fence) (m : Nat) (P : Program) (T : Tab) (fok : Env) (pan : Pan) (all : List Oper) : List Oper → Fr → List Deferred → World → (Fr → List Deferred → World → Prop) → (List PanicEntry → Fr → List Deferred → World → Prop) → Prop
  | [], f, ds, w, K, KP => K f ds w
  | o :: r, f, ds, w, K, KP => match o.guard with
    | none => opI F m P T fok pan o f ds w (fun v ds' w' => opsI F m P T fok pan all r (upo f o.dst v) ds' w' K KP) (fun ch w' => KP ch f ds w')
    | some (j, want) => match gslot all j with
      | some g => (match f g with
        | .bool t => cond t
            (match want with
              | true => opI F m P T fok pan o (upd f g (.bool true)) ds w (fun v ds' w' => opsI F m P T fok pan all r (upo (upd f g (.bool true)) o.dst v) ds' w' K KP) (fun ch w' => KP ch (upd f g (.bool true)) ds w')
              | false => opsI F m P T fok pan all r (upo (upd f g (.bool true)) o.dst undef) ds w K KP)
            (match want with
              | true => opsI F m P T fok pan all r (upo (upd f g (.bool false)) o.dst undef) ds w K KP
              | false => opI F m P T fok pan o (upd f g (.bool false)) ds w (fun v ds' w' => opsI F m P T fok pan all r (upo (upd f g (.bool false)) o.dst v) ds' w' K KP) (fun ch w' => KP ch (upd f g (.bool false)) ds w'))
        | .tuple _ => opsI F m P T fok pan all r (upo f o.dst undef) ds w K KP
        | _ => False)
      | none => False

def FI (F : Fence) (m : Nat) (P : Program) (T : Tab) (fok : Env) (pan : Pan) : Code → AN → Fr → List Deferred → World → (Ex → Fr → List Deferred → World → Prop) → (List PanicEntry → Fr → List Deferred → World → Prop) → Prop
  | .skip, _, f, ds, w, K, KP => K .normal f ds w
  | .region _ ops d, an, f, ds, w, K, KP => match d with
    | false => opsI F m P T fok pan ops.toList ops.toList f ds w (fun f ds w => K .normal f ds w) KP
    | true => match an with
      | .draw order => ∃ S : World → Prop, S w.drew ∧ dopsW P T fok S ops.toList order f w.drew fun f w => K .normal f ds w
      | _ => False
  | .seq a b, an, f, ds, w, K, KP => FI F m P T fok pan a an.l f ds w (fun e f' ds' w' => match e with | .normal => FI F m P T fok pan b an.r f' ds' w' K KP | e => K e f' ds' w') KP
  | .cond c a b, an, f, ds, w, K, KP => match ev f c with
    | .bool t => cond t (FI F m P T fok pan a an.l f ds w K KP) (FI F m P T fok pan b an.r f ds w K KP)
    | _ => False
  | .block id c, an, f, ds, w, K, KP => FI F m P T fok pan c an f ds w (fun e f' ds' w' => match e with
    | .exit i => bif Nat.beq i id then K .normal f' ds' w' else K (.exit i) f' ds' w'
    | e => K e f' ds' w') KP
  | .loop c, an, f, ds, w, K, KP => match an with
    | .loop live wr x => ∃ (I : Cur (live.map (·.2)) Prop) (μ : Cur (live.map (·.2)) Nat), appC False (live.map (·.2)) I (gather f live) w ∧
        AllL (live.map (·.2)) fun vals => ∀ (g : Fr) (w' : World), appC False (live.map (·.2)) I vals w' →
          FI F m P T fok pan c x (plug f live vals wr g) ds w' (fun e f' ds' w'' => match e with
            | .normal => ds' = ds ∧ appC False (live.map (·.2)) I (gather f' live) w'' ∧ appC 0 (live.map (·.2)) μ (gather f' live) w'' < appC 0 (live.map (·.2)) μ vals w'
            | e => K e f' ds' w'') KP
    | _ => False
  | .exit id, _, f, ds, w, K, KP => K (.exit id) f ds w
  | .label _, _, f, ds, w, K, KP => K .normal f ds w
  | .ret, _, f, ds, w, K, KP => K .ret f ds w
  | _, _, _, _, _, _, _ => False

section
variable {P : Program} {T : Tab} {fok : Env} {pan : Pan} {n m : Nat} {F : Fence}

/-- A fence that lets all in. -/
structure Open (F : Fence) : Prop where
  fn : ∀ f, F.fn f
  depth : F.depth = none
  wide : ∀ P, Machine.fenced P F = Machine.fenced P Fence.wide
theorem open_wide : Open Fence.wide := ⟨fun _ => trivial, rfl, fun _ => rfl⟩
theorem open_round (l : Nat) : Open (Fence.wide.inRound l) := ⟨fun _ => trivial, rfl, fun _ => rfl⟩
theorem Open.calls (hO : Open F) {f : FuncId} {args : Array Value} {w : World} {R : Ending → World → Prop} (h : Calls P f args w R) : CallsIn F m P f args w R := by
  obtain ⟨_, h2⟩ := callsIn_wide (n := m).2 h
  refine ⟨hO.fn f, fun cs _ => ?_⟩
  rw [hO.wide]
  exact h2 cs (room_wide _)
theorem Open.rows (hO : Open F) {row : String} {args : Array Value} {w : World} {R : Value → World → Prop} (h : Rows P row args w R) : RowsIn F m P row args w R := by
  intro c cs _
  obtain ⟨v, w', hr, hs⟩ := h c cs
  refine ⟨v, w', hr, ?_⟩
  rw [hO.wide]
  exact stepsIn_wide.2 hs

theorem opIn_of (hO : Open F) {o : Oper} {a : Act} {w : World} {next : Act → World → Prop} {Q : Exit → Act → World → Prop} (hd : ∀ c, o.op ≠ .defer c) (h : o.wp P a w next Q) : o.wpIn F m P a w next Q := by
  refine ⟨fun f _ => hO.fn f, ?_⟩
  rw [Oper.semAt_eq _ _ _ hd]
  unfold Oper.wp at h
  have hdep : F.depth.isSome = true → 1 ≤ m := fun e => by rw [hO.depth] at e; cases e
  cases hr : (execOp a.eval o).run P w with
  | ok x w' =>
    rw [hr] at h
    cases x <;> first | exact h | exact h.elim | (exact ⟨hdep, hO.calls h⟩) | (exact ⟨hdep, hO.rows h⟩)
  | halt x w' =>
    rw [hr] at h
    cases x <;> first | exact h | exact h.elim

theorem opsIn_of (hO : Open F) {ops : Array Oper} {Q : Exit → Act → World → Prop} (hd : ∀ (i : Nat) (o : Oper), ops[i]? = some o → ∀ c, o.op ≠ .defer c) (hQ : ¬ LetsOut Q) : ∀ (l : List Nat) (a : Act) (w : World), wpOps P ops Q l a w → wpOpsIn F m P ops Q l a w
  | [], a, w, h => h
  | i :: rest, a, w, h => by
    simp only [wpOps] at h
    simp only [wpOpsIn]
    cases ho : ops[i]? with
    | none => simp only [ho] at h; exact opsIn_of hO hd hQ rest a w h
    | some o =>
      simp only [ho] at h
      by_cases hw : Region.wanted o (yielded ops a.tmps) = true
      · simp only [hw, if_true] at h ⊢
        rcases h with h | ⟨_, h⟩
        · refine opIn_of hO (hd i o ho) ?_
          exact oper_wp_mono h (fun a' w' => opsIn_of hO hd hQ rest a' w')
        · exact (hQ h).elim
      · simp only [hw, if_false, Bool.false_eq_true] at h ⊢
        exact ⟨fun f _ => hO.fn f, opsIn_of hO hd hQ rest _ w h⟩
 where
  oper_wp_mono {o : Oper} {a : Act} {w : World} {next next' : Act → World → Prop} {Q : Exit → Act → World → Prop} (h : o.wp P a w next Q) (hn : ∀ a w, next a w → next' a w) : o.wp P a w next' Q := by
    unfold Oper.wp at h ⊢
    cases hr : (execOp a.eval o).run P w with
    | ok x w' =>
      rw [hr] at h
      cases x <;> first | exact hn _ _ h | exact h.elim | skip
      · exact Calls.mono h fun e w'' he => by cases e <;> first | exact hn _ _ he | exact he
      · exact Rows.mono h fun v w'' he => hn _ _ he
    | halt x w' => rw [hr] at h; cases x <;> first | exact h | exact h.elim

theorem opI_sound (hT : TabOk P T) (hF : FokOk P fok) (hO : Open F) {o : Oper} {f : Fr} {a : Act} {ds : List Deferred} {w : World} {K : Value → List Deferred → World → Prop} {KP : List PanicEntry → World → Prop} {next : Act → World → Prop} {Q : Exit → Act → World → Prop}
    (he : a.eval = ev f) (hds : a.defers = ds) (h : opI F m P T fok pan o f ds w K KP) (hn : ∀ v ds' w', K v ds' w' → next ({ a with defers := ds' }.put o.dst v) w') (hp : ∀ ch w', KP ch w' → Q (.panic ch) a w') : o.wpIn F m P a w next Q := by
  have hdep : F.depth.isSome = true → 1 ≤ m := fun e => by rw [hO.depth] at e; cases e
  have same : ∀ v w', K v ds w' → next (a.put o.dst v) w' := fun v w' hk => by
    have := hn v ds w' hk
    rwa [show ({ a with defers := ds } : Act) = a by rw [← hds]] at this
  have plain : (∀ c, o.op ≠ .defer c) → opW P T fok o f w (fun v w' => K v ds w') → o.wpIn F m P a w next Q := fun hd h =>
    opIn_of hO hd (op_sound hT hF he h same)
  cases hop : o.op
  case defer c =>
    simp only [opI, hop] at h
    cases hro : F.round with
    | some l => simp only [hro] at h
    | none =>
      simp only [hro] at h
      cases hc : c.callee <;> simp only [hc] at h
      rename_i g
      cases hg : ev f g <;> simp only [hg] at h
      rename_i fn x cp
      cases fn <;> simp only at h
      rename_i hh
      refine ⟨fun f _ => hO.fn f, ?_⟩
      have hr : (Oper.semAt F.round a.eval o).run P w = .ok (.defer { target := .fn (.func hh) cp, args := x ++ (evs f c.args).toArray }) w := by
        rw [hro, Oper.semAt_none]
        simp only [execOp, hop, resolve, hc, he, hg, Deferred.ofValue, Sem.run_bind, Sem.run_pure, Result.andThen_ok]
        congr 3
        apply Array.toList_inj.1
        simp [evs]
      rw [hr, Oper.uponIn_defer, hds]
      exact hn _ _ _ h
  case panic x =>
    simp only [opI, hop] at h
    cases hx : ev f x <;> simp only [hx] at h
    rename_i t v
    refine ⟨fun f _ => hO.fn f, ?_⟩
    have hr : (Oper.semAt F.round a.eval o).run P w = .halt (.panic (.iface t v)) w := by
      rw [Oper.semAt_eq _ _ _ (by rw [hop]; simp)]
      simp only [execOp, hop, he, hx, Sem.run_bind, run_panic_iface]
      rfl
    rw [hr, Oper.uponIn_panic]
    exact hp _ _ h
  case call c =>
    simp only [opI, hop] at h
    have hd : ∀ c, o.op ≠ .defer c := by rw [hop]; simp
    cases hc : c.callee <;> simp only [hc] at h
    case value g =>
      cases hg : ev f g <;> simp only [hg] at h
      case func fn x cp =>
        cases fn <;> simp only at h
        case func hh =>
          cases hpc : pan.contains hh with
          | false => simp only [hpc, cond_false] at h; exact plain hd h
          | true =>
            simp only [hpc, cond_true] at h
            cases hk : fok.fs.contains hh with
            | false => simp only [hk, cond_false] at h
            | true =>
              simp only [hk, cond_true] at h
              refine opIn_of hO hd ?_
              unfold Oper.wp
              have hr : (execOp a.eval o).run P w = .ok (.enter hh ((x.toList ++ evs f c.args) ++ cp.toList).toArray) w := by
                simp only [execOp, hop, resolve, hc, he, hg, Deferred.ofValue, Sem.run_bind, Sem.run_pure, Result.andThen_ok, invoke]
                rw [callFunc_run (hF.1 hh hk)]
                congr 2
                apply Array.toList_inj.1
                simp [evs]
              rw [hr, Oper.upon_enter]
              refine h.mono fun e w' hh => ?_
              rcases hh with hh | ⟨ch, rfl, hh⟩
              · obtain ⟨v, rfl, hk⟩ := exR hh
                exact same v w' hk
              · exact hp ch w' hh
        case yield l =>
          obtain ⟨fn, tmps, assign, body, hy, hR⟩ := h
          refine ⟨fun f _ => hO.fn f, ?_⟩
          have hr : (Oper.semAt F.round a.eval o).run P w = .ok (.round l fn tmps assign body) w := by
            rw [Oper.semAt_eq _ _ _ hd]
            simp only [execOp, hop, resolve, hc, he, hg, Deferred.ofValue, Sem.run_bind, Sem.run_pure, Result.andThen_ok, invoke]
            rw [← hy]
            congr 2
            apply Array.toList_inj.1
            simp [evs]
          rw [hr, Oper.uponIn_round]
          refine ⟨hdep, hR.mono fun e w' hh => ?_⟩
          obtain ⟨b, rfl, hk⟩ := hh
          exact same _ _ hk
        all_goals exact plain hd h
      all_goals exact plain hd h
    all_goals exact plain hd h
  all_goals
    simp only [opI, hop] at h
    exact plain (by rw [hop]; simp) h

theorem Rep.defer {ds ds' : List Deferred} {n : Nat} {a : Act} {f : Fr} (h : Rep ds n a f) : Rep ds' n { a with defers := ds' } f := ⟨rfl, h.2.1, h.2.2⟩

theorem opsI_sound (hT : TabOk P T) (hF : FokOk P fok) (hO : Open F) (arr : Array Oper) (Q : Exit → Act → World → Prop) : ∀ (l : List Oper) (f : Fr) (ds : List Deferred) (a : Act) (w : World) (K : Fr → List Deferred → World → Prop) (KP : List PanicEntry → Fr → List Deferred → World → Prop),
    opsOk n l = true → opsI F m P T fok pan arr.toList l f ds w K KP → Rep ds n a f →
    (∀ a' f' ds' w', Rep ds' n a' f' → (∀ i, i ∉ wrOps l → f' i = f i) → K f' ds' w' → Q .normal a' w') →
    (∀ ch a' f' ds' w', Rep ds' n a' f' → KP ch f' ds' w' → Q (.panic ch) a' w') → wpListIn F m P arr Q l a w
  | [], f, ds, a, w, K, KP, _, h, hr, hq, hp => hq a f ds w hr (fun _ _ => rfl) h
  | o :: r, f, ds, a, w, K, KP, hok, h, hr, hq, hp => by
    simp only [opsOk, List.all_cons, Bool.and_eq_true] at hok
    have hd : ∀ t, o.dst = some t → t < n := fun t ht => by
      have := hok.1; rw [ht] at this; simpa using this
    have ho : ∀ {i}, i ∉ wrOps (o :: r) → o.dst ≠ some i ∧ i ∉ wrOps r := fun {i} hi => by
      simp only [wrOps, List.filterMap_cons] at hi
      cases hdo : o.dst with
      | none => simp only [hdo] at hi; exact ⟨by simp, hi⟩
      | some t => simp only [hdo, List.mem_cons, not_or] at hi; exact ⟨fun e => hi.1 (by cases e; rfl), hi.2⟩
    have skip : opsI F m P T fok pan arr.toList r (upo f o.dst undef) ds w K KP → Region.wanted o (yielded arr a.tmps) = false → wpListIn F m P arr Q (o :: r) a w := fun h hw => by
      simp only [wpListIn, hw]
      exact ⟨fun f _ => hO.fn f, opsI_sound hT hF hO arr Q r _ _ _ w K KP hok.2 h (hr.put o.dst undef hd) (fun a' f' ds' w' hr' hs hk => hq a' f' ds' w' hr' (fun i hi => (hs i (ho hi).2).trans (upo_other (ho hi).1)) hk) hp⟩
    have go : opI F m P T fok pan o f ds w (fun v ds' w' => opsI F m P T fok pan arr.toList r (upo f o.dst v) ds' w' K KP) (fun ch w' => KP ch f ds w') → Region.wanted o (yielded arr a.tmps) = true → wpListIn F m P arr Q (o :: r) a w := fun h hw => by
      simp only [wpListIn, hw, if_true]
      refine opI_sound hT hF hO hr.eval hr.1 h (fun v ds' w' hk => ?_) fun ch w' hk => hp ch a f ds w' hr hk
      exact opsI_sound hT hF hO arr Q r _ _ _ w' K KP hok.2 hk ((hr.defer (ds' := ds')).put o.dst v hd) (fun a' f' ds'' w'' hr' hs hk => hq a' f' ds'' w'' hr' (fun i hi => (hs i (ho hi).2).trans (upo_other (ho hi).1)) hk) hp
    simp only [opsI] at h
    cases hg : o.guard with
    | none =>
      simp only [hg] at h
      exact go h (by simp [Region.wanted, hg])
    | some jw =>
      obtain ⟨j, want⟩ := jw
      simp only [hg] at h
      cases hs : gslot arr.toList j with
      | none => simp [hs] at h
      | some g =>
        simp only [hs] at h
        cases hfg : f g <;> simp only [hfg] at h
        case bool b =>
          have hyb := gslot_bool hr hs hfg
          cases b <;> cases want <;> simp only [cond_true, cond_false, upd_self hfg] at h
          · exact go h (by simp [Region.wanted, hg, hyb])
          · exact skip h (by simp [Region.wanted, hg, hyb])
          · exact skip h (by simp [Region.wanted, hg, hyb])
          · exact go h (by simp [Region.wanted, hg, hyb])
        case tuple vs =>
          exact skip h (by simp [Region.wanted, hg, gslot_tuple hr hs hfg])

def QI (n : Nat) (f0 : Fr) (wr : List Nat) (K : Ex → Fr → List Deferred → World → Prop) (KP : List PanicEntry → Fr → List Deferred → World → Prop) : Exit → Act → World → Prop
  | .normal, a, w => ∃ f ds, Rep ds n a f ∧ (∀ i, i ∉ wr → f i = f0 i) ∧ K .normal f ds w
  | .exit id, a, w => ∃ f ds, Rep ds n a f ∧ (∀ i, i ∉ wr → f i = f0 i) ∧ K (.exit id) f ds w
  | .ret, a, w => ∃ f ds, Rep ds n a f ∧ (∀ i, i ∉ wr → f i = f0 i) ∧ K .ret f ds w
  | .panic ch, a, w => ∃ f ds, Rep ds n a f ∧ KP ch f ds w
  | _, _, _ => False
theorem QI_out {f0 : Fr} {wr : List Nat} {K : Ex → Fr → List Deferred → World → Prop} {KP : List PanicEntry → Fr → List Deferred → World → Prop} : ¬ LetsOut (QI n f0 wr K KP) := fun ⟨_, _, h⟩ => h

def noDef : Code → Bool
  | .region _ ops true => ops.toList.all fun o => match o.op with | .defer _ => false | _ => true
  | .seq a b => noDef a && noDef b
  | .cond _ a b => noDef a && noDef b
  | .block _ c => noDef c
  | .loop c => noDef c
  | _ => true

theorem fi_sound (hT : TabOk P T) (hF : FokOk P fok) (hO : Open F) : ∀ (c : Code) (an : AN) (f : Fr) (ds : List Deferred) (a : Act) (w : World) (K : Ex → Fr → List Deferred → World → Prop) (KP : List PanicEntry → Fr → List Deferred → World → Prop),
    codeOk n c = true → noDef c = true → anOk T c an = true → FI F m P T fok pan c an f ds w K KP → Rep ds n a f → c.wpIn F m P (QI n f (wrs c) K KP) a w := by
  intro c
  induction c with
  | skip => intro an f ds a w K KP _ _ _ h hr; exact wpIn_skip ⟨f, ds, hr, fun _ _ => rfl, h⟩
  | region id ops d =>
    intro an f ds a w K KP hok hnd han h hr
    cases d with
    | true =>
      cases an with
      | draw order =>
        obtain ⟨S, hS, h⟩ := h
        simp only [anOk, drawOk, Bool.and_eq_true] at han
        simp only [noDef] at hnd
        have hd : ∀ (i : Nat) (o : Oper), ops[i]? = some o → ∀ c, o.op ≠ .defer c := fun i o hi c e => by
          rw [← Array.getElem?_toList] at hi
          have := List.all_eq_true.1 hnd o (List.mem_of_getElem? hi)
          rw [e] at this; simp at this
        obtain ⟨Q', hQ'⟩ : ∃ Q' : Exit → Act → World → Prop, Q' = fun e a w => match e with | .normal => QI n f (wrs (.region id ops true)) K KP .normal a w | _ => False := ⟨_, rfl⟩
        refine wpIn_mono (Q := Q') (wpIn_region_draw fun t => opsIn_of hO hd (fun ⟨_, _, x⟩ => by rw [hQ'] at x; exact x) _ _ _ ?_) (fun e a w x => by rw [hQ'] at x; cases e <;> first | exact x | exact x.elim)
        have hany := wpN_any (S := S) (ql := fun k => !isLoud T ops k) (nd := nedL T ops) _ _ _ _ ((dops_sound hT hF ops Q' S hok han.1.1 (fun c a w x => by rw [hQ'] at x; exact x) order f a _ (fun f w => K .normal f ds w) true (fun _ => hS) h hr fun a' f' w' hr' hs hk => by rw [hQ']; exact ⟨f', ds, hr', hs, hk⟩).1 ops.size _ (Nat.le_of_ble_eq_true han.1.2) han.2)
        simp only [Region.schedule, hF.2, Bool.true_or, if_true]
        exact wpAny_sound ops.size t _ a _ hany
      | nil => exact h.elim
      | node p q => exact h.elim
      | loop p q r => exact h.elim
      | cut p q r s => exact h.elim
    | false =>
      exact wpIn_region_list (opsI_sound hT hF hO ops _ ops.toList f ds a w _ _ hok h hr (fun a' f' ds' w' hr' hs hk => ⟨f', ds', hr', hs, hk⟩) fun ch a' f' ds' w' hr' hk => ⟨f', ds', hr', hk⟩)
  | seq x y ihx ihy =>
    intro an f ds a w K KP hok hnd han h hr
    simp only [codeOk, Bool.and_eq_true] at hok
    simp only [noDef, Bool.and_eq_true] at hnd
    simp only [anOk, Bool.and_eq_true] at han
    have hmem : ∀ {i}, i ∉ wrs (.seq x y) → i ∉ wrs x ∧ i ∉ wrs y := fun hi => by simpa [wrs, not_or] using hi
    refine wpIn_seq (wpIn_mono (ihx an.l f ds a w _ KP hok.1 hnd.1 han.1.1 h hr) fun e a' w' hq => ?_)
    cases e with
    | normal =>
      obtain ⟨f', ds', hr', hs, hk⟩ := hq
      refine wpIn_mono (ihy an.r f' ds' a' w' K KP hok.2 hnd.2 han.1.2 hk hr') fun e a'' w'' hq => ?_
      cases e <;> first | exact hq.elim | (obtain ⟨f'', ds'', hr'', hs'', hk''⟩ := hq; exact ⟨f'', ds'', hr'', fun i hi => (hs'' i (hmem hi).2).trans (hs i (hmem hi).1), hk''⟩) | exact hq
    | exit id => obtain ⟨f', ds', hr', hs, hk⟩ := hq; exact ⟨f', ds', hr', fun i hi => hs i (hmem hi).1, hk⟩
    | ret => obtain ⟨f', ds', hr', hs, hk⟩ := hq; exact ⟨f', ds', hr', fun i hi => hs i (hmem hi).1, hk⟩
    | goto l => exact hq.elim
    | panic ch => exact hq
    | outgrown => exact hq.elim
  | cond c x y ihx ihy =>
    intro an f ds a w K KP hok hnd han h hr
    simp only [codeOk, Bool.and_eq_true] at hok
    simp only [noDef, Bool.and_eq_true] at hnd
    simp only [anOk, Bool.and_eq_true] at han
    simp only [FI] at h
    cases hc : ev f c <;> simp only [hc] at h
    rename_i t
    refine wpIn_cond (t := t) (by rw [hr.eval, hc]) ?_
    cases t with
    | true =>
      refine wpIn_mono (ihx an.l f ds a w K KP hok.1 hnd.1 han.1 h hr) fun e a' w' hq => ?_
      cases e <;> first | exact hq.elim | (obtain ⟨f', ds', hr', hs, hk⟩ := hq; exact ⟨f', ds', hr', fun i hi => hs i (fun h => hi (by simp [wrs, h])), hk⟩) | exact hq
    | false =>
      refine wpIn_mono (ihy an.r f ds a w K KP hok.2 hnd.2 han.2 h hr) fun e a' w' hq => ?_
      cases e <;> first | exact hq.elim | (obtain ⟨f', ds', hr', hs, hk⟩ := hq; exact ⟨f', ds', hr', fun i hi => hs i (fun h => hi (by simp [wrs, h])), hk⟩) | exact hq
  | block id c ih =>
    intro an f ds a w K KP hok hnd han h hr
    refine wpIn_block (wpIn_mono (ih an f ds a w _ KP hok hnd han h hr) fun e a' w' hq => ?_)
    cases e with
    | normal => obtain ⟨f', ds', hr', hs, hk⟩ := hq; exact ⟨f', ds', hr', hs, hk⟩
    | ret => obtain ⟨f', ds', hr', hs, hk⟩ := hq; exact ⟨f', ds', hr', hs, hk⟩
    | exit i =>
      obtain ⟨f', ds', hr', hs, hk⟩ := hq
      simp only at hk
      simp only [Exit.inBlock]
      cases hb : Nat.beq i id with
      | true =>
        simp only [hb, cond_true] at hk
        rw [if_pos (Nat.eq_of_beq_eq_true hb)]
        exact ⟨f', ds', hr', hs, hk⟩
      | false =>
        simp only [hb, cond_false] at hk
        rw [if_neg (fun e => by subst e; simp at hb)]
        exact ⟨f', ds', hr', hs, hk⟩
    | goto l => exact hq.elim
    | panic ch => exact hq
    | outgrown => exact hq.elim
  | loop c ih =>
    intro an f ds a w K KP hok hnd han h hr
    cases an with
    | loop live wr x =>
      simp only [FI] at h
      simp only [anOk, Bool.and_eq_true] at han
      obtain ⟨I, μ, h0, hstep⟩ := h
      classical
      have sel : ∀ (f' : Fr), (∀ i, i ∉ wrs c → f' i = f i) → plug f live (gather f' live) wr f' = f' := fun f' hs => plug_eq f f' wr live fun i h1 h2 => hs i fun hi => by
        have := List.all_eq_true.1 han.2 i hi
        rw [Bool.or_eq_true, memN_iff (live.map (·.1)) i] at this
        rcases this with e | e
        · exact h1 e
        · exact h2 e
      refine wpIn_loop (fun a' w' => ∃ f', Rep ds n a' f' ∧ (∀ i, i ∉ wrs c → f' i = f i) ∧ appC False (live.map (·.2)) I (gather f' live) w')
        (fun a' w' => appC 0 (live.map (·.2)) μ (gather (fun i => a'.tmps.getD i undef) live) w') ⟨f, hr, fun _ _ => rfl, h0⟩ ?_
      rintro a1 w1 ⟨f1, hr1, hs1, hI1⟩
      have hf1 : (fun i => a1.tmps.getD i undef) = f1 := funext hr1.2.2
      have hb := AllL.apply _ I _ _ hI1 hstep f1 w1 hI1
      rw [sel f1 hs1] at hb
      refine wpIn_mono (ih x f1 ds a1 w1 _ KP hok hnd han.1 hb hr1) fun e a2 w2 hq => ?_
      cases e with
      | normal =>
        obtain ⟨f2, ds2, hr2, hs2, rfl, hk⟩ := hq
        have hf2 : (fun i => a2.tmps.getD i undef) = f2 := funext hr2.2.2
        refine ⟨⟨f2, hr2, fun i hi => (hs2 i hi).trans (hs1 i hi), hk.1⟩, ?_⟩
        show appC 0 _ μ (gather (fun i => a2.tmps.getD i undef) live) w2 < appC 0 _ μ (gather (fun i => a1.tmps.getD i undef) live) w1
        rw [hf1, hf2]
        exact hk.2
      | exit id => obtain ⟨f2, ds2, hr2, hs2, hk⟩ := hq; exact ⟨f2, ds2, hr2, fun i hi => (hs2 i hi).trans (hs1 i hi), hk⟩
      | ret => obtain ⟨f2, ds2, hr2, hs2, hk⟩ := hq; exact ⟨f2, ds2, hr2, fun i hi => (hs2 i hi).trans (hs1 i hi), hk⟩
      | goto l => exact hq.elim
      | panic ch => exact hq
      | outgrown => exact hq.elim
    | nil => exact h.elim
    | node p q => exact h.elim
    | cut p q r s => exact h.elim
    | draw o => exact h.elim
  | exit id => intro an f ds a w K KP _ _ _ h hr; exact wpIn_exit ⟨f, ds, hr, fun _ _ => rfl, h⟩
  | scope c ih => intro an f ds a w K KP _ _ _ h hr; exact h.elim
  | label l => intro an f ds a w K KP _ _ _ h hr; exact wpIn_label ⟨f, ds, hr, fun _ _ => rfl, h⟩
  | ret => intro an f ds a w K KP _ _ _ h hr; exact wpIn_ret ⟨f, ds, hr, fun _ _ => rfl, h⟩
  | rangeFunc => intro an f ds a w K KP _ _ _ h hr; exact h.elim
  | goto => intro an f ds a w K KP _ _ _ h hr; exact h.elim
  | refuse => intro an f ds a w K KP _ _ _ h hr; exact h.elim

theorem rep_arg0 {fn : Func} {args : List Value} (hle : args.length ≤ fn.ntmps) : Rep [] fn.ntmps { tmps := args.toArray ++ Array.replicate (fn.ntmps - args.toArray.size) undef, defers := [] } (arg0 args) := by
  refine ⟨rfl, by simp; omega, fun i => ?_⟩
  rw [arg0_get]
  simp only [Array.getD_eq_getD_getElem?, List.getD_eq_getElem?_getD]
  rcases Nat.lt_or_ge i args.length with hi | hi
  · rw [Array.getElem?_append_left (by simpa using hi)]; simp
  · rw [Array.getElem?_append_right (by simpa using hi), List.getElem?_eq_none hi]
    simp only [Option.getD_none]
    rcases Nat.lt_or_ge (i - args.length) (fn.ntmps - args.length) with h1 | h1
    · simp [h1]
    · simp [Nat.not_lt.2 h1]

/-- how a function ends that defers nothing -/
def finI (T : Tab) (fn : Func) (R : Ending → World → Prop) : Ex → Fr → List Deferred → World → Prop := fun e f ds w' => ds = [] ∧ match e with
  | .normal => resW T f w' fn.results.toList fun v => R (.returned v) w'
  | .ret => resW T f w' fn.results.toList fun v => R (.returned v) w'
  | _ => False
def finP (R : Ending → World → Prop) : List PanicEntry → Fr → List Deferred → World → Prop := fun ch _ ds w' => ds = [] ∧ R (.panicked ch) w'
def okI (T : Tab) (fn : Func) (an : AN) (n : Nat) : Bool := match fn.body with
  | some c => codeOk fn.ntmps c && noDef c && anOk T c an && Nat.ble n fn.ntmps
  | none => false
theorem callsI_mk {g : FuncId} {fn : Func} (an : AN) (args : List Value) (w : World) (R : Ending → World → Prop) (hT : TabOk P T) (hF : FokOk P fok) (pan : Pan)
    (hf : P.funcs[g]? = some fn) (hok : okI T fn an args.length = true) (X : Prop) (hX : X = FI Fence.wide 0 P T fok pan (fn.body.getD .skip) an (arg0 args) [] w (finI T fn R) (finP R)) (h : X) : Calls P g args.toArray w R := by
  unfold okI at hok
  cases hb : fn.body with
  | none => simp [hb] at hok
  | some c =>
    simp only [hb, Bool.and_eq_true] at hok
    rw [hX, hb] at h
    have hle := Nat.le_of_ble_eq_true hok.2
    refine calls_of_wp hf hb (wpIn_wide (n := 0).1 (wpIn_mono (fi_sound hT hF open_wide c an (arg0 args) [] _ w _ _ hok.1.1.1 hok.1.1.2 hok.1.2 h (rep_arg0 hle)) fun e a' w' hq => ?_))
    cases e with
    | normal => obtain ⟨f', ds, hr', hs, rfl, hk⟩ := hq; obtain ⟨v, h1, h2⟩ := resW_run hT hr' hk; exact ⟨hr'.1, v, h1, h2⟩
    | ret => obtain ⟨f', ds, hr', hs, rfl, hk⟩ := hq; obtain ⟨v, h1, h2⟩ := resW_run hT hr' hk; exact ⟨hr'.1, v, h1, h2⟩
    | exit id => obtain ⟨f', ds, hr', hs, _, hk⟩ := hq; exact hk.elim
    | goto l => exact hq.elim
    | panic ch => obtain ⟨f', ds, hr', rfl, hk⟩ := hq; exact ⟨hr'.1, hk⟩
    | outgrown => exact hq.elim

end
end Go.Eng
