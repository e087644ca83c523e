/- The engine: control, and its soundness. -/
import Derived.Test.YtbbcofdibkgalaaGreatDoorEngS
set_option linter.unusedVariables false
set_option linter.unusedSimpArgs false
namespace Go.Eng

inductive Ex where
  | normal | exit (id : Nat) | ret
/-- What a code's parts are walked with: a loop's live slots, a cut's, a drawn region's order. -/
inductive AN where
  | nil
  | node (a b : AN)
  | loop (live : List (Nat × LK)) (wr : List Nat) (body : AN)
  | cut (live : List (Nat × LK)) (wr : List Nat) (a b : AN)
  | draw (order : DT)
def AN.l : AN → AN | .node a _ => a | .cut _ _ a _ => a | _ => .nil
def AN.r : AN → AN | .node _ b => b | .cut _ _ _ b => b | _ => .nil
def gather (f : Fr) : List (Nat × LK) → List Value
  | [] => []
  | (s, _) :: r => f s :: gather f r
def memN : List Nat → Nat → Bool
  | [], _ => false
  | a :: r, i => bif Nat.beq a i then true else memN r i
/-- a frame: 'vals' in the live slots, g's in what else is written, else f's -/
def plug (f : Fr) (live : List (Nat × LK)) (vals : List Value) (wr : List Nat) (g : Fr) : Fr :=
  match live, vals with
  | (s, _) :: r, v :: vs => fun i => bif Nat.beq i s then v else plug f r vs wr g i
  | _, _ => fun i => bif memN wr i then g i else f i

def FC (P : Program) (T : Tab) (fok : Env) : Code → AN → Fr → World → (Ex → Fr → World → Prop) → Prop
  | .skip, _, f, w, K => K .normal f w
  | .region _ ops d, an, f, w, K => match d with
    | false => opsW P T fok ops.toList ops.toList f w fun f w => K .normal f w
    | true => match an with
      | .draw order => ∃ S : World → Prop, S w.drew ∧ dopsW P T fok S ops.toList order f w.drew fun f w => K .normal f w
      | _ => False
  | .seq a b, an, f, w, K => match an with
    | .cut live wr x y => ∃ J : Cur (live.map (·.2)) Prop,
        FC P T fok a x f w (fun e f' w' => match e with | .normal => appC False (live.map (·.2)) J (gather f' live) w' | e => K e f' w') ∧
        AllL (live.map (·.2)) fun vals => ∀ (g : Fr) (w' : World), appC False (live.map (·.2)) J vals w' → FC P T fok b y (plug f live vals wr g) w' K
    | an => FC P T fok a an.l f w fun e f' w' => match e with | .normal => FC P T fok b an.r f' w' K | e => K e f' w'
  | .cond c a b, an, f, w, K => match ev f c with
    | .bool t => cond t (FC P T fok a an.l f w K) (FC P T fok b an.r f w K)
    | _ => False
  | .block id c, an, f, w, K => FC P T fok c an f w fun e f' w' => match e with
    | .exit i => bif Nat.beq i id then K .normal f' w' else K (.exit i) f' w'
    | e => K e f' w'
  | .loop c, an, f, w, K => match an with
    | .loop live wr x => ∃ (I : Cur (live.map (·.2)) Prop) (μ : Cur (live.map (·.2)) Nat), appC False (live.map (·.2)) I (gather f live) w ∧
        AllL (live.map (·.2)) fun vals => ∀ (g : Fr) (w' : World), appC False (live.map (·.2)) I vals w' →
          FC P T fok c x (plug f live vals wr g) w' fun e f' w'' => match e with
            | .normal => appC False (live.map (·.2)) I (gather f' live) w'' ∧ appC 0 (live.map (·.2)) μ (gather f' live) w'' < appC 0 (live.map (·.2)) μ vals w'
            | e => K e f' w''
    | _ => False
  | .exit id, _, f, w, K => K (.exit id) f w
  | .scope c, an, f, w, K => FC P T fok c an f w K
  | .label _, _, f, w, K => K .normal f w
  | .ret, _, f, w, K => K .ret f w
  | _, _, _, _, _ => False

/-! ### The frame of a run -/
def Rep (ds : List Deferred) (n : Nat) (a : Act) (f : Fr) : Prop := a.defers = ds ∧ a.tmps.size = n ∧ ∀ i, a.tmps.getD i undef = f i
theorem Rep.eval {ds : List Deferred} {n : Nat} {a : Act} {f : Fr} (h : Rep ds n a f) : a.eval = ev f := by
  funext x; cases x <;> simp [Act.eval, ev, h.2.2]
theorem Rep.put {ds : List Deferred} {n : Nat} {a : Act} {f : Fr} (h : Rep ds n a f) (d : Option Tmp) (v : Value) (hd : ∀ t, d = some t → t < n) : Rep ds n (a.put d v) (upo f d v) := by
  cases d with
  | none => exact h
  | some t =>
    refine ⟨h.1, by simpa [Act.put] using h.2.1, fun i => ?_⟩
    have ht := hd t rfl
    simp only [Act.put, upo, upd]
    by_cases hi : i = t
    · subst hi
      have : i < a.tmps.size := by rw [h.2.1]; exact ht
      simp [Array.getD, this]
    · have hb : Nat.beq i t = false := by
        cases hb : Nat.beq i t with
        | false => rfl
        | true => exact absurd (Nat.eq_of_beq_eq_true hb) hi
      rw [hb, cond_false, ← h.2.2 i]
      simp only [Array.getD_eq_getD_getElem?]
      rw [Array.getElem?_setIfInBounds_ne (fun e => hi e.symm)]
theorem upo_other {f : Fr} {d : Option Tmp} {v : Value} {i : Nat} (h : d ≠ some i) : upo f d v i = f i := by
  cases d with
  | none => rfl
  | some t =>
    have : i ≠ t := fun e => h (by rw [e])
    have hb : Nat.beq i t = false := by
      cases hb : Nat.beq i t with
      | false => rfl
      | true => exact absurd (Nat.eq_of_beq_eq_true hb) this
    simp [upo, upd, hb]
theorem upd_self {f : Fr} {g : Nat} {v : Value} (h : f g = v) : upd f g v = f := by
  funext i
  unfold upd
  cases hb : Nat.beq i g with
  | false => rfl
  | true => rw [Nat.eq_of_beq_eq_true hb, h]; rfl

def opsOk (n : Nat) (ops : List Oper) : Bool := ops.all fun o => match o.dst with | some d => Nat.blt d n | none => true
def wrOps (ops : List Oper) : List Nat := ops.filterMap (·.dst)
def codeOk (n : Nat) : Code → Bool
  | .region _ ops _ => opsOk n ops.toList
  | .seq a b => codeOk n a && codeOk n b
  | .cond _ a b => codeOk n a && codeOk n b
  | .block _ c => codeOk n c
  | .loop c => codeOk n c
  | .scope c => codeOk n c
  | _ => true
def wrs : Code → List Nat
  | .region _ ops _ => wrOps ops.toList
  | .seq a b => wrs a ++ wrs b
  | .cond _ a b => wrs a ++ wrs b
  | .block _ c => wrs c
  | .loop c => wrs c
  | .scope c => wrs c
  | _ => []
/-- the annotations' lists of written slots hold all that is written -/
def dtIds : DT → List Nat
  | .alt i _ s => i :: dtIds s
  | _ => []
def dtLen : DT → Nat
  | .op _ r => dtLen r + 1
  | .alt _ r s => Nat.max (dtLen r + 1) (dtLen s)
  | _ => 0
def isLoud (T : Tab) (ops : Array Oper) (i : Nat) : Bool := match ops[i]? with | some o => loud T o | none => false
def nedL (T : Tab) (ops : Array Oper) (i : Nat) : Bool := isLoud T ops i && ned T ops.toList i
/-- 'cur': is S known now? -/
def okAt (T : Tab) (ops : Array Oper) (cur : Bool) (i : Nat) : Bool := cur || (match ops[i]? with
  | some o => bif loud T o then !(ned T ops.toList i) || o.guard.isNone else !(rd T o)
  | none => false)
def nextCur (T : Tab) (ops : Array Oper) (cur : Bool) (i : Nat) : Bool := bif isLoud T ops i then ned T ops.toList i else cur
def drawStep (T : Tab) (ops : Array Oper) : Bool → Bool → DT → Array Bool → Bool
  | sub, cur, .done, listed => !sub && (Region.ready .any ops listed).isEmpty
  | sub, cur, .op i r, listed => !sub && okAt T ops cur i && (bif isLoud T ops i then (Region.ready .any ops listed == [i]) else Region.free .any ops listed i && (Region.ready .any ops listed).contains i) && drawStep T ops false (nextCur T ops cur i) r (listed.setIfInBounds i true)
  | sub, cur, .alt i r s, listed => isLoud T ops i && okAt T ops cur i && (sub || Region.ready .any ops listed == i :: dtIds s) && drawStep T ops false (nextCur T ops cur i) r (listed.setIfInBounds i true) && drawStep T ops true cur s listed
  | sub, cur, .none, _ => sub
def drawOk (T : Tab) (ops : Array Oper) (order : DT) : Bool := Region.noSelect ops && Nat.ble (dtLen order) ops.size && drawStep T ops false true order (Array.replicate ops.size false)
def anOk (T : Tab) : Code → AN → Bool
  | .region _ ops true, .draw order => drawOk T ops order
  | .seq a b, an => anOk T a an.l && anOk T b an.r && (match an with | .cut live wr _ _ => (wrs a).all fun i => memN wr i || memN (live.map (·.1)) i | _ => true)
  | .cond _ a b, an => anOk T a an.l && anOk T b an.r
  | .block _ c, an => anOk T c an
  | .scope c, an => anOk T c an
  | .loop c, .loop live wr x => anOk T c x && (wrs c).all fun i => memN wr i || memN (live.map (·.1)) i
  | _, _ => true

section
variable {P : Program} {T : Tab} {fok : Env} {n : Nat} {ds : List Deferred}

theorem getD_put {a : Act} {f : Fr} (hr : Rep ds n a f) {g : Nat} {v : Value} (hv : v ≠ undef) (h : f g = v) : a.tmps[g]? = some v := by
  have h1 : a.tmps.getD g undef = v := (hr.2.2 g).trans h
  rw [Array.getD_eq_getD_getElem?] at h1
  cases hx : a.tmps[g]? with
  | none => rw [hx] at h1; exact absurd h1.symm hv
  | some x => rw [hx] at h1; simp at h1; rw [h1]
theorem gslot_bool {arr : Array Oper} {a : Act} {f : Fr} (hr : Rep ds n a f) {j g : Nat} (hs : gslot arr.toList j = some g) {b : Bool} (hb : f g = .bool b) : yielded arr a.tmps j = some b := by
  unfold gslot at hs
  simp only [Array.getElem?_toList] at hs
  cases ha : arr[j]? with
  | none => simp [ha] at hs
  | some oj =>
    simp only [ha] at hs
    have h2 := getD_put hr (by simp [undef]) hb
    simp [yielded, ha, hs, h2]
theorem gslot_tuple {arr : Array Oper} {a : Act} {f : Fr} (hr : Rep ds n a f) {j g : Nat} (hs : gslot arr.toList j = some g) {vs : Array Value} (hb : f g = .tuple vs) : yielded arr a.tmps j = none := by
  unfold gslot at hs
  simp only [Array.getElem?_toList] at hs
  cases ha : arr[j]? with
  | none => simp [ha] at hs
  | some oj =>
    simp only [ha] at hs
    have h1 : a.tmps.getD g undef = .tuple vs := (hr.2.2 g).trans hb
    unfold yielded
    simp only [ha, hs, Option.bind_some]
    rw [Array.getD_eq_getD_getElem?] at h1
    cases hx : a.tmps[g]? with
    | none => rfl
    | some x => rw [hx] at h1; simp at h1; rw [h1]

/-- Whatever order is picked; 'S' is asked behind those operations alone behind which one that reads may come up. -/
def wpN (P : Program) (ops : Array Oper) (Q : Exit → Act → World → Prop) (S : World → Prop) (ql nd : Nat → Bool) : Nat → Array Bool → Act → World → Prop
  | 0, listed, a, w => Region.ready .any ops listed = [] ∧ Q .normal a w
  | fuel + 1, listed, a, w => (Region.ready .any ops listed = [] → Q .normal a w) ∧
      ∀ i ∈ Region.ready .any ops listed, wpOp P ops Q i (fun a' w' => ((ql i = true → w' = w) ∧ (nd i = true → S w')) ∧ wpN P ops Q S ql nd fuel (listed.setIfInBounds i true) a' w') a w
theorem wpN_any {ops : Array Oper} {Q : Exit → Act → World → Prop} {S : World → Prop} {ql nd : Nat → Bool} : ∀ (fuel : Nat) (listed : Array Bool) (a : Act) (w : World), wpN P ops Q S ql nd fuel listed a w → wpAny P .any ops Q fuel listed a w := by
  intro fuel
  induction fuel with
  | zero => exact fun _ _ _ h => h
  | succ k ih => exact fun listed a w h => ⟨h.1, fun i hi => wpOp_mono (fun a' w' x => ih _ a' w' x.2) (h.2 i hi)⟩
theorem wpN_done {ops : Array Oper} {Q : Exit → Act → World → Prop} {S : World → Prop} {ql nd : Nat → Bool} {listed : Array Bool} {a : Act} {w : World} (hr : Region.ready .any ops listed = []) (h : Q .normal a w) (fuel : Nat) : wpN P ops Q S ql nd fuel listed a w := by
  cases fuel with
  | zero => exact ⟨hr, h⟩
  | succ k => exact ⟨fun _ => h, fun i hi => by rw [hr] at hi; cases hi⟩
/-- An operation that yields its value in every world of 'Y' may be taken first, if 'Y' holds now and behind each operation that may come up ahead of it. -/
theorem wpN_take {ops : Array Oper} {Q : Exit → Act → World → Prop} {S Y : World → Prop} {ql nd : Nat → Bool} {i : Nat} {oi : Oper} {v : Value} (hi : ops[i]? = some oi) (hsel : Region.noSelect ops = true)
    (hQ : ∀ c a w, Q (.panic c) a w → False) (hni : nd i = false)
    (hY : ∀ j oj, ops[j]? = some oj → j ≠ i → (∀ e ∈ oj.after, Region.binds .any e = true → e.on ≠ i) → ∀ w w', Y w → (ql j = true → w' = w) → (nd j = true → S w') → Y w') :
    ∀ (fuel : Nat) (listed : Array Bool) (a : Act) (w : World),
      (∀ j oj, ops[j]? = some oj → j ≠ i → listed.getD j true = false → (∀ e ∈ oj.after, Region.binds .any e = true → e.on ≠ i) → oi.apart ops oj = true) →
      i ∈ Region.ready .any ops listed → YieldsIf P ops Y oi v a → Y w →
      wpN P ops Q S ql nd fuel (listed.setIfInBounds i true) (a.put oi.dst v) w → wpN P ops Q S ql nd (fuel + 1) listed a w := by
  have none : nd i = true → False := fun e => by rw [hni] at e; cases e
  intro fuel
  induction fuel with
  | zero =>
    intro listed a w _ hr hy hYw H
    refine ⟨fun e => (by rw [e] at hr; cases hr), fun j hj => ?_⟩
    by_cases ne : j = i
    · subst ne; exact hy.wpOp hi hYw ⟨⟨fun _ => rfl, fun e => (none e).elim⟩, H⟩
    · have hm := ready_mono hj ne
      rw [H.1] at hm; cases hm
  | succ fuel ih =>
    intro listed a w hfree hr hy hYw H
    refine ⟨fun e => (by rw [e] at hr; cases hr), fun j hj => ?_⟩
    by_cases ne : j = i
    · subst ne; exact hy.wpOp hi hYw ⟨⟨fun _ => rfl, fun e => (none e).elim⟩, H⟩
    · obtain ⟨hju, oj, hoj, hall⟩ := mem_ready.1 hj
      have hno : ∀ e ∈ oj.after, Region.binds .any e = true → e.on ≠ i := by
        intro e he hb heq
        have h1 := hall e he hb
        have h0 := (mem_ready.1 hr).1
        rw [heq] at h1
        rcases Nat.lt_or_ge i listed.size with hlt | hge
        · simp [hlt] at h0 h1; rw [h0] at h1; cases h1
        · simp [Array.getElem?_eq_none hge] at h1
      have hstep := wpOp_putIf hoj (hfree j oj hoj ne hju hno) (fun cs b => Region.noSelect_spec hsel i oi cs b hi) (fun cs b => Region.noSelect_spec hsel j oj cs b hoj) (fun c a w q => (hQ c _ w q).elim) hy (H.2 j (ready_mono hj ne))
      refine wpOp_mono (fun a' w' x => ⟨x.2.1, ih _ a' w' ?_ (ready_mono hr (Ne.symm ne)) x.1 (hY j oj hoj ne hno w w' hYw x.2.1.1 x.2.1.2) ?_⟩) hstep
      · intro k ok hk hki hun hnk
        refine hfree k ok hk hki ?_ hnk
        by_cases e : j = k
        · subst e; exact hju
        · rwa [getD_set_ne true e] at hun
      · rw [Array.setIfInBounds_comm _ _ ne]; exact x.2.2

theorem ned_of {T : Tab} {ops : Array Oper} {i j : Nat} {oi oj : Oper} (hi : ops[i]? = some oi) (hj : ops[j]? = some oj) (hq : loud T oi = false) (hr : rd T oi = true) (hne : j ≠ i) (hno : ∀ e ∈ oj.after, Region.binds .any e = true → e.on ≠ i) : ned T ops.toList j = true := by
  unfold ned
  simp only [Array.getElem?_toList, hj]
  refine List.any_eq_true.2 ⟨(oi, i), ?_, ?_⟩
  · rw [List.mem_zipIdx_iff_getElem?]
    simpa using hi
  · have h1 : Nat.beq i j = false := by
      cases hb : Nat.beq i j with
      | false => rfl
      | true => exact absurd (Nat.eq_of_beq_eq_true hb).symm hne
    have h2 : (oj.after.any fun e => Region.binds .any e && Nat.beq e.on i) = false := by
      cases hb : (oj.after.any fun e => Region.binds .any e && Nat.beq e.on i) with
      | false => rfl
      | true =>
        obtain ⟨e, he, hb⟩ := Array.any_eq_true'.1 hb
        simp only [Bool.and_eq_true] at hb
        exact absurd (Nat.eq_of_beq_eq_true hb.2) (hno e he hb.1)
    simp [hq, hr, h1, h2]
theorem andIf_def {b : Bool} {A B : Prop} (h : andIf b A B) : (b = true → A) ∧ B := by
  cases b with
  | true => exact ⟨fun _ => h.1, h.2⟩
  | false => exact ⟨fun e => (by cases e), h⟩

theorem dop_sound (hT : TabOk P T) (hF : FokOk P fok) {arr : Array Oper} {Q : Exit → Act → World → Prop} {S : World → Prop} (hok : opsOk n arr.toList = true) (hsel : Region.noSelect arr = true)
    (hQ : ∀ c a w, Q (.panic c) a w → False) {i fuel : Nat} {listed : Array Bool} {f : Fr} {a : Act} {w : World} {K : Fr → World → Prop} {cur : Bool}
    (hS : cur = true → S w) (hc : okAt T arr cur i = true) (h : dopW P T fok S arr.toList i f w K) (hr : Rep ds n a f)
    (next : ∀ f' a' w', Rep ds n a' f' → (∀ k, k ∉ wrOps arr.toList → f' k = f k) → (nextCur T arr cur i = true → S w') → K f' w' → wpN P arr Q S (fun k => !isLoud T arr k) (nedL T arr) fuel (listed.setIfInBounds i true) a' w') :
    (isLoud T arr i = true → wpOp P arr Q i (fun a' w' => (((!isLoud T arr i) = true → w' = w) ∧ (nedL T arr i = true → S w')) ∧ wpN P arr Q S (fun k => !isLoud T arr k) (nedL T arr) fuel (listed.setIfInBounds i true) a' w') a w) ∧
    (isLoud T arr i = false → Region.free .any arr listed i = true → (Region.ready .any arr listed).contains i = true → wpN P arr Q S (fun k => !isLoud T arr k) (nedL T arr) (fuel + 1) listed a w) := by
  cases hi : arr[i]? with
  | none => simp [dopW, hi] at h
  | some o =>
  have hlo : isLoud T arr i = loud T o := by simp [isLoud, hi]
  simp only [dopW, Array.getElem?_toList, hi] at h
  have hmem : o ∈ arr.toList := by
    rw [← Array.getElem?_toList] at hi
    exact List.mem_of_getElem? hi
  have hdst : ∀ t, o.dst = some t → t < n := fun t ht => by
    have := List.all_eq_true.1 hok o hmem; rw [ht] at this; simpa using this
  have hw : ∀ k, k ∉ wrOps arr.toList → o.dst ≠ some k := fun k hk e => hk (List.mem_filterMap.2 ⟨o, hmem, e⟩)
  have nx : ∀ (v : Value) (w' : World), (nextCur T arr cur i = true → S w') → K (upo f o.dst v) w' → wpN P arr Q S (fun k => !isLoud T arr k) (nedL T arr) fuel (listed.setIfInBounds i true) (a.put o.dst v) w' := fun v w' hS' h' =>
    next _ _ _ (hr.put o.dst v hdst) (fun k hk => upo_other (hw k hk)) hS' h'
  have quiet : ∀ {v : Value}, loud T o = false → Region.free .any arr listed i = true → (Region.ready .any arr listed).contains i = true → K (upo f o.dst v) w →
      YieldsIf P arr (fun w' => rd T o = true → S w') o v a → wpN P arr Q S (fun k => !isLoud T arr k) (nedL T arr) (fuel + 1) listed a w := fun {v} hl hf hcn hk hy => by
    have hnd : nedL T arr i = false := by rw [nedL, hlo, hl]; rfl
    have hcur : rd T o = true → S w := fun hrd => by
      simp only [okAt, hi, hl, cond_false, hrd, Bool.not_true, Bool.or_false] at hc
      exact hS hc
    refine wpN_take (Y := fun w' => rd T o = true → S w') hi hsel hQ hnd (fun j oj hj hne hno w1 w2 hY hq hn hrd => ?_) fuel listed a w (Region.free_spec hi hf) (by simpa using hcn) hy hcur (nx v w (fun hn => ?_) hk)
    · cases hlj : isLoud T arr j with
      | false => rw [hq (by simp [hlj])]; exact hY hrd
      | true => exact hn (by rw [nedL, hlj, ned_of hi hj hl hrd hne hno]; rfl)
    · rw [nextCur, hlo, hl] at hn; exact hS hn
  have skip : (loud T o = true → o.guard.isNone = false) → Region.wanted o (yielded arr a.tmps) = false → K (upo f o.dst undef) w →
      (isLoud T arr i = true → wpOp P arr Q i (fun a' w' => (((!isLoud T arr i) = true → w' = w) ∧ (nedL T arr i = true → S w')) ∧ wpN P arr Q S (fun k => !isLoud T arr k) (nedL T arr) fuel (listed.setIfInBounds i true) a' w') a w) ∧
      (isLoud T arr i = false → Region.free .any arr listed i = true → (Region.ready .any arr listed).contains i = true → wpN P arr Q S (fun k => !isLoud T arr k) (nedL T arr) (fuel + 1) listed a w) := fun hg hw h' => by
    refine ⟨fun hl => ?_, fun hl hf hcn => quiet (by rw [← hlo]; exact hl) hf hcn h' (.inr ⟨hw, rfl⟩)⟩
    have hl' : loud T o = true := by rw [← hlo]; exact hl
    have key : ned T arr.toList i = true → S w := fun hn => by
      simp only [okAt, hi, hl', cond_true, hn, Bool.not_true, hg hl', Bool.or_false] at hc
      exact hS hc
    unfold wpOp
    simp only [hi, hw, Bool.false_eq_true, if_false]
    refine ⟨⟨fun e => (by simp [hl] at e), fun e => ?_⟩, nx _ _ (fun e => ?_) h'⟩
    · rw [nedL, hl, Bool.true_and] at e; exact key e
    · rw [nextCur, hl, cond_true] at e; exact key e
  have go : Region.wanted o (yielded arr a.tmps) = true → dopO P T fok S (ned T arr.toList i) o f w K →
      (isLoud T arr i = true → wpOp P arr Q i (fun a' w' => (((!isLoud T arr i) = true → w' = w) ∧ (nedL T arr i = true → S w')) ∧ wpN P arr Q S (fun k => !isLoud T arr k) (nedL T arr) fuel (listed.setIfInBounds i true) a' w') a w) ∧
      (isLoud T arr i = false → Region.free .any arr listed i = true → (Region.ready .any arr listed).contains i = true → wpN P arr Q S (fun k => !isLoud T arr k) (nedL T arr) (fuel + 1) listed a w) := fun hw h' => by
    refine ⟨fun hl => ?_, fun hl hf hcn => ?_⟩
    · have hl' : loud T o = true := by rw [← hlo]; exact hl
      simp only [dopO, hl', cond_true] at h'
      unfold wpOp
      simp only [hi, hw, if_true]
      refine .inl (opL_sound hT hF hr.eval h' fun v w' hk => ?_)
      obtain ⟨h1, h2⟩ := andIf_def hk
      refine ⟨⟨fun e => (by simp [hl] at e), fun e => ?_⟩, nx v w' (fun e => ?_) h2⟩
      · rw [nedL, hl, Bool.true_and] at e; exact h1 e
      · rw [nextCur, hl, cond_true] at e; exact h1 e
    · have hl' : loud T o = false := by rw [← hlo]; exact hl
      simp only [dopO, hl', cond_false] at h'
      obtain ⟨v, hv, hk⟩ := opV_run hT h'
      refine quiet hl' hf hcn hk (.inl ⟨hw, fun w' hS' => ?_⟩)
      rw [hr.eval]
      refine hv w' fun φ h => ?_
      unfold ctxS at h
      cases hrd : rd T o with
      | true => simp only [hrd, cond_true] at h; exact h w' (hS' hrd)
      | false => simp only [hrd, cond_false] at h; exact h w'
  cases hg : o.guard with
  | none =>
    simp only [hg] at h
    exact go (by simp [Region.wanted, hg]) h
  | some jw =>
    obtain ⟨j, want⟩ := jw
    have hgn : loud T o = true → o.guard.isNone = false := fun _ => by rw [hg]; rfl
    simp only [hg] at h
    cases hs : gslot arr.toList j with
    | none => simp [hs] at h
    | some g =>
      simp only [hs] at h
      cases hfg : f g <;> simp only [hfg] at h
      case bool b =>
        have hyb := gslot_bool hr hs hfg
        cases b <;> cases want <;> simp only [cond_true, cond_false, upd_self hfg] at h
        · exact go (by simp [Region.wanted, hg, hyb]) h
        · exact skip hgn (by simp [Region.wanted, hg, hyb]) h
        · exact skip hgn (by simp [Region.wanted, hg, hyb]) h
        · exact go (by simp [Region.wanted, hg, hyb]) h
      case tuple vs =>
        exact skip hgn (by simp [Region.wanted, hg, gslot_tuple hr hs hfg]) h

theorem dops_sound (hT : TabOk P T) (hF : FokOk P fok) (arr : Array Oper) (Q : Exit → Act → World → Prop) (S : World → Prop) (hok : opsOk n arr.toList = true) (hsel : Region.noSelect arr = true)
    (hQ : ∀ c a w, Q (.panic c) a w → False) : ∀ (dt : DT) (f : Fr) (a : Act) (w : World) (K : Fr → World → Prop) (cur : Bool),
    (cur = true → S w) → dopsW P T fok S arr.toList dt f w K → Rep ds n a f →
    (∀ a' f' w', Rep ds n a' f' → (∀ i, i ∉ wrOps arr.toList → f' i = f i) → K f' w' → Q .normal a' w') →
    (∀ (fuel : Nat) (listed : Array Bool), dtLen dt ≤ fuel → drawStep T arr false cur dt listed = true → wpN P arr Q S (fun k => !isLoud T arr k) (nedL T arr) fuel listed a w) ∧
    (∀ (fuel : Nat) (listed : Array Bool), dtLen dt ≤ fuel + 1 → drawStep T arr true cur dt listed = true → ∀ k ∈ dtIds dt, isLoud T arr k = true →
      wpOp P arr Q k (fun a' w' => (((!isLoud T arr k) = true → w' = w) ∧ (nedL T arr k = true → S w')) ∧ wpN P arr Q S (fun k => !isLoud T arr k) (nedL T arr) fuel (listed.setIfInBounds k true) a' w') a w)
  | .done, f, a, w, K, cur, hS, h, hr, hq => ⟨fun fuel listed _ hd => wpN_done (by simpa [drawStep] using hd) (hq a f w hr (fun _ _ => rfl) h) fuel, fun _ _ _ hd => by simp [drawStep] at hd⟩
  | .none, f, a, w, K, cur, hS, h, hr, hq => ⟨fun fuel listed _ hd => by simp [drawStep] at hd, fun _ _ _ _ k hk => by simp [dtIds] at hk⟩
  | .op i r, f, a, w, K, cur, hS, h, hr, hq => by
    refine ⟨fun fuel listed hl hd => ?_, fun _ _ _ hd => by simp [drawStep] at hd⟩
    cases fuel with
    | zero => simp [dtLen] at hl
    | succ fuel =>
    have hl' : dtLen r ≤ fuel := by simpa [dtLen] using hl
    simp only [drawStep, Bool.and_eq_true] at hd
    obtain ⟨⟨⟨_, hok1⟩, hd1⟩, hd2⟩ := hd
    have key := dop_sound hT hF hok hsel hQ (fuel := fuel) (listed := listed) hS hok1 h hr fun f' a' w' hr' hs hS' hk =>
      (dops_sound hT hF arr Q S hok hsel hQ r f' a' w' K _ hS' hk hr' fun a'' f'' w'' hr'' hs'' hk' => hq a'' f'' w'' hr'' (fun k hk => (hs'' k hk).trans (hs k hk)) hk').1 fuel _ hl' hd2
    cases hlo : isLoud T arr i with
    | true =>
      simp only [hlo, cond_true, beq_iff_eq] at hd1
      refine ⟨fun e => (by rw [hd1] at e; cases e), fun k hk => ?_⟩
      rw [hd1, List.mem_singleton] at hk
      subst hk
      exact key.1 hlo
    | false =>
      simp only [hlo, cond_false, Bool.and_eq_true] at hd1
      exact key.2 hlo hd1.1 hd1.2
  | .alt i r s, f, a, w, K, cur, hS, h, hr, hq => by
    obtain ⟨h1, h2⟩ := h
    have alts : ∀ (fuel : Nat) (listed : Array Bool), dtLen (.alt i r s) ≤ fuel + 1 → isLoud T arr i = true → okAt T arr cur i = true → drawStep T arr false (nextCur T arr cur i) r (listed.setIfInBounds i true) = true → drawStep T arr true cur s listed = true → ∀ k ∈ i :: dtIds s, isLoud T arr k = true →
        wpOp P arr Q k (fun a' w' => (((!isLoud T arr k) = true → w' = w) ∧ (nedL T arr k = true → S w')) ∧ wpN P arr Q S (fun k => !isLoud T arr k) (nedL T arr) fuel (listed.setIfInBounds k true) a' w') a w := fun fuel listed hl hi hok1 hd2 hd3 k hk hkl => by
      have hl1 : dtLen r ≤ fuel := by have : dtLen r + 1 ≤ fuel + 1 := Nat.le_trans (Nat.le_max_left _ _) hl; omega
      have hl2 : dtLen s ≤ fuel + 1 := Nat.le_trans (Nat.le_max_right _ _) hl
      rcases List.mem_cons.1 hk with rfl | hk
      · exact (dop_sound hT hF hok hsel hQ (fuel := fuel) (listed := listed) hS hok1 h1 hr fun f' a' w' hr' hs hS' hk =>
          (dops_sound hT hF arr Q S hok hsel hQ r f' a' w' K _ hS' hk hr' fun a'' f'' w'' hr'' hs'' hk' => hq a'' f'' w'' hr'' (fun k hk => (hs'' k hk).trans (hs k hk)) hk').1 fuel _ hl1 hd2).1 hi
      · exact (dops_sound hT hF arr Q S hok hsel hQ s f a w K cur hS h2 hr hq).2 fuel listed hl2 hd3 k hk hkl
    refine ⟨fun fuel listed hl hd => ?_, fun fuel listed hl hd k hk hkl => ?_⟩
    · cases fuel with
      | zero => have : dtLen r + 1 ≤ 0 := Nat.le_trans (Nat.le_max_left _ _) hl; omega
      | succ fuel =>
      simp only [drawStep, Bool.and_eq_true, Bool.false_or, beq_iff_eq] at hd
      obtain ⟨⟨⟨⟨hi, hok1⟩, hrd⟩, hd2⟩, hd3⟩ := hd
      refine ⟨fun e => (by rw [hrd] at e; cases e), fun k hk => ?_⟩
      rw [hrd] at hk
      have hkl : ∀ (s : DT) (listed : Array Bool), drawStep T arr true cur s listed = true → ∀ k ∈ dtIds s, isLoud T arr k = true := by
        intro s
        induction s with
        | alt i r s _ ih =>
          intro listed hd k hk
          simp only [drawStep, Bool.and_eq_true] at hd
          rcases List.mem_cons.1 hk with rfl | hk
          · exact hd.1.1.1.1
          · exact ih listed hd.2 k hk
        | done => intro _ _ k hk; simp [dtIds] at hk
        | none => intro _ _ k hk; simp [dtIds] at hk
        | op => intro _ _ k hk; simp [dtIds] at hk
      refine alts fuel listed hl hi hok1 hd2 hd3 k hk ?_
      rcases List.mem_cons.1 hk with rfl | hk
      · exact hi
      · exact hkl s listed hd3 k hk
    · simp only [drawStep, Bool.and_eq_true] at hd
      exact alts fuel listed hl hd.1.1.1.1 hd.1.1.1.2 hd.1.2 hd.2 k hk hkl

theorem opsW_sound (hT : TabOk P T) (hF : FokOk P fok) (arr : Array Oper) (Q : Exit → Act → World → Prop) : ∀ (l : List Oper) (f : Fr) (a : Act) (w : World) (K : Fr → World → Prop),
    opsOk n l = true → opsW P T fok arr.toList l f w K → Rep ds n a f →
    (∀ a' f' w', Rep ds n a' f' → (∀ i, i ∉ wrOps l → f' i = f i) → K f' w' → Q .normal a' w') → wpList P arr Q l a w
  | [], f, a, w, K, _, h, hr, hq => hq a f w hr (fun _ _ => rfl) h
  | o :: r, f, a, w, K, hok, h, hr, hq => by
    simp only [opsOk, List.all_cons, Bool.and_eq_true] at hok
    have hd : ∀ t, o.dst = some t → t < n := fun t ht => by
      have := hok.1; rw [ht] at this; simpa using this
    have ho : ∀ {i}, i ∉ wrOps (o :: r) → o.dst ≠ some i ∧ i ∉ wrOps r := fun {i} hi => by
      simp only [wrOps, List.filterMap_cons] at hi
      cases hdo : o.dst with
      | none => simp only [hdo] at hi; exact ⟨by simp, hi⟩
      | some t => simp only [hdo, List.mem_cons, not_or] at hi; exact ⟨fun e => hi.1 (by cases e; rfl), hi.2⟩
    have skip : opsW P T fok arr.toList r (upo f o.dst undef) w K → Region.wanted o (yielded arr a.tmps) = false → wpList P arr Q (o :: r) a w := fun h hw => by
      simp only [wpList, hw]
      exact opsW_sound hT hF arr Q r _ _ w K hok.2 h (hr.put o.dst undef hd) fun a' f' w' hr' hs hk => hq a' f' w' hr' (fun i hi => (hs i (ho hi).2).trans (upo_other (ho hi).1)) hk
    have go : opW P T fok o f w (fun v w' => opsW P T fok arr.toList r (upo f o.dst v) w' K) → Region.wanted o (yielded arr a.tmps) = true → wpList P arr Q (o :: r) a w := fun h hw => by
      simp only [wpList, hw, if_true]
      exact .inl (op_sound hT hF hr.eval h fun v w' hk => opsW_sound hT hF arr Q r _ _ w' K hok.2 hk (hr.put o.dst v hd) fun a' f' w'' hr' hs hk => hq a' f' w'' hr' (fun i hi => (hs i (ho hi).2).trans (upo_other (ho hi).1)) hk)
    simp only [opsW] at h
    cases hg : o.guard with
    | none =>
      simp only [hg] at h
      exact go h (by simp [Region.wanted, hg])
    | some jw =>
      obtain ⟨j, want⟩ := jw
      simp only [hg] at h
      cases hs : gslot arr.toList j with
      | none => simp [hs] at h
      | some g =>
        simp only [hs] at h
        have hy : ∀ b, f g = .bool b → yielded arr a.tmps j = some b := fun b hb => by
          unfold gslot at hs
          simp only [Array.getElem?_toList] at hs
          cases ha : arr[j]? with
          | none => simp [ha] at hs
          | some oj =>
            simp only [ha] at hs
            have h1 : a.tmps.getD g undef = .bool b := (hr.2.2 g).trans hb
            have h2 : a.tmps[g]? = some (.bool b) := by
              rw [Array.getD_eq_getD_getElem?] at h1
              cases hx : a.tmps[g]? with
              | none => rw [hx] at h1; simp [undef] at h1
              | some x => rw [hx] at h1; simp at h1; rw [h1]
            simp [yielded, ha, hs, h2]
        have hyn : ∀ vs, f g = .tuple vs → yielded arr a.tmps j = none := fun vs hb => by
          unfold gslot at hs
          simp only [Array.getElem?_toList] at hs
          cases ha : arr[j]? with
          | none => simp [ha] at hs
          | some oj =>
            simp only [ha] at hs
            have h1 : a.tmps.getD g undef = .tuple vs := (hr.2.2 g).trans hb
            unfold yielded
            simp only [ha, hs, Option.bind_some]
            rw [Array.getD_eq_getD_getElem?] at h1
            cases hx : a.tmps[g]? with
            | none => rfl
            | some x => rw [hx] at h1; simp at h1; rw [h1]
        cases hfg : f g <;> simp only [hfg] at h
        case bool b =>
          have hyb := hy b hfg
          cases b <;> cases want <;> simp only [cond_true, cond_false, upd_self hfg] at h
          · exact go h (by simp [Region.wanted, hg, hyb])
          · exact skip h (by simp [Region.wanted, hg, hyb])
          · exact skip h (by simp [Region.wanted, hg, hyb])
          · exact go h (by simp [Region.wanted, hg, hyb])
        case tuple vs =>
          exact skip h (by simp [Region.wanted, hg, hyn vs hfg])

def Qof (ds : List Deferred) (n : Nat) (f0 : Fr) (wr : List Nat) (K : Ex → Fr → World → Prop) : Exit → Act → World → Prop
  | .normal, a, w => ∃ f, Rep ds n a f ∧ (∀ i, i ∉ wr → f i = f0 i) ∧ K .normal f w
  | .exit id, a, w => ∃ f, Rep ds n a f ∧ (∀ i, i ∉ wr → f i = f0 i) ∧ K (.exit id) f w
  | .ret, a, w => ∃ f, Rep ds n a f ∧ (∀ i, i ∉ wr → f i = f0 i) ∧ K .ret f w
  | _, _, _ => False

theorem memN_iff (l : List Nat) (i : Nat) : memN l i = true ↔ i ∈ l := by
  induction l with
  | nil => simp [memN]
  | cons a r ih =>
    simp only [memN, List.mem_cons]
    cases hb : Nat.beq a i with
    | true => simp [Nat.eq_of_beq_eq_true hb]
    | false =>
      have : a ≠ i := fun e => by subst e; simp at hb
      simp [ih, Ne.symm this]
theorem plug_eq (f0 f : Fr) (wr : List Nat) : ∀ (live : List (Nat × LK)), (∀ i, ¬ (memN wr i = true) → i ∉ live.map (·.1) → f i = f0 i) → plug f0 live (gather f live) wr f = f
  | [], h => by
    funext i
    simp only [plug, gather]
    cases hb : memN wr i with
    | true => rfl
    | false => exact (h i (by simp [hb]) (by simp)).symm
  | (s, k) :: r, h => by
    have ih := plug_eq f0 f wr r
    funext i
    simp only [plug, gather]
    cases hb : Nat.beq i s with
    | true => rw [Nat.eq_of_beq_eq_true hb]; rfl
    | false =>
      have hne : i ≠ s := fun e => by subst e; simp at hb
      have aux : ∀ (live : List (Nat × LK)) (i : Nat), (¬ (memN wr i = true) → i ∉ live.map (·.1) → f i = f0 i) → plug f0 live (gather f live) wr f i = f i := by
        intro live
        induction live with
        | nil =>
          intro i h
          simp only [plug, gather]
          cases hb : memN wr i with
          | true => rfl
          | false => exact (h (by simp [hb]) (by simp)).symm
        | cons p r ih =>
          obtain ⟨s, k⟩ := p
          intro i h
          simp only [plug, gather]
          cases hb : Nat.beq i s with
          | true => rw [Nat.eq_of_beq_eq_true hb]; rfl
          | false =>
            have hne : i ≠ s := fun e => by subst e; simp at hb
            exact ih i (fun h1 h2 => h h1 (by simp only [List.map_cons, List.mem_cons, not_or]; exact ⟨hne, h2⟩))
      exact aux r i (fun h1 h2 => h i h1 (by simp only [List.map_cons, List.mem_cons, not_or]; exact ⟨hne, h2⟩))

theorem fc_sound (hT : TabOk P T) (hF : FokOk P fok) : ∀ (c : Code) (an : AN) (f : Fr) (a : Act) (w : World) (K : Ex → Fr → World → Prop),
    codeOk n c = true → anOk T c an = true → FC P T fok c an f w K → Rep ds n a f → c.wp P (Qof ds n f (wrs c) K) a w := by
  intro c
  induction c with
  | skip => intro an f a w K _ _ h hr; exact wp_skip ⟨f, hr, fun _ _ => rfl, h⟩
  | region id ops d =>
    intro an f a w K hok han h hr
    cases d with
    | true =>
      cases an with
      | draw order =>
        obtain ⟨S, hS, h⟩ := h
        simp only [anOk, drawOk, Bool.and_eq_true] at han
        refine wp_region_any hF.2 (wpN_any (S := S) (ql := fun k => !isLoud T ops k) (nd := nedL T ops) _ _ _ _ ?_)
        exact (dops_sound hT hF ops _ S hok han.1.1 (fun c a w hq => hq) order f a _ _ true (fun _ => hS) h hr fun a' f' w' hr' hs hk => ⟨f', hr', hs, hk⟩).1 ops.size _ (Nat.le_of_ble_eq_true han.1.2) han.2
      | nil => exact h.elim
      | node p q => exact h.elim
      | loop p q r => exact h.elim
      | cut p q r s => exact h.elim
    | false =>
      exact wp_region_list (opsW_sound hT hF ops _ ops.toList f a w _ hok h hr fun a' f' w' hr' hs hk => ⟨f', hr', hs, hk⟩)
  | seq x y ihx ihy =>
    intro an f a w K hok han h hr
    simp only [codeOk, Bool.and_eq_true] at hok
    simp only [anOk, Bool.and_eq_true] at han
    have hmem : ∀ {i}, i ∉ wrs (.seq x y) → i ∉ wrs x ∧ i ∉ wrs y := fun hi => by simpa [wrs, not_or] using hi
    refine wp_seq ?_
    have plain : FC P T fok x an.l f w (fun e f' w' => match e with | .normal => FC P T fok y an.r f' w' K | e => K e f' w') → x.wp P (Exit.then (y.wp P (Qof ds n f (wrs (.seq x y)) K)) (Qof ds n f (wrs (.seq x y)) K)) a w := fun h =>
      wp_mono (ihx an.l f a w _ hok.1 han.1.1 h hr) fun e a' w' hq => by
        cases e with
        | normal =>
          obtain ⟨f', hr', hs, hk⟩ := hq
          refine wp_mono (ihy an.r f' a' w' K hok.2 han.1.2 hk hr') fun e a'' w'' hq => ?_
          cases e <;> first | exact hq.elim | (obtain ⟨f'', hr'', hs'', hk''⟩ := hq; exact ⟨f'', hr'', fun i hi => (hs'' i (hmem hi).2).trans (hs i (hmem hi).1), hk''⟩)
        | exit id => obtain ⟨f', hr', hs, hk⟩ := hq; exact ⟨f', hr', fun i hi => hs i (hmem hi).1, hk⟩
        | ret => obtain ⟨f', hr', hs, hk⟩ := hq; exact ⟨f', hr', fun i hi => hs i (hmem hi).1, hk⟩
        | goto l => exact hq.elim
        | panic ch => exact hq.elim
        | outgrown => exact hq.elim
    cases an with
    | cut live wr p q =>
      simp only [FC] at h
      obtain ⟨J, h1, h2⟩ := h
      refine wp_mono (ihx p f a w _ hok.1 han.1.1 h1 hr) fun e a' w' hq => ?_
      cases e with
      | normal =>
        obtain ⟨f', hr', hs, hk⟩ := hq
        have hpl : plug f live (gather f' live) wr f' = f' := plug_eq f f' wr live fun i h1 h2 => hs i fun hi => by
          have := List.all_eq_true.1 han.2 i hi
          rw [Bool.or_eq_true, memN_iff (live.map (·.1)) i] at this
          rcases this with e | e
          · exact h1 e
          · exact h2 e
        have hy := AllL.apply _ J _ _ hk h2 f' w' hk
        rw [hpl] at hy
        refine wp_mono (ihy q f' a' w' K hok.2 han.1.2 hy hr') fun e a'' w'' hq => ?_
        cases e <;> first | exact hq.elim | (obtain ⟨f'', hr'', hs'', hk''⟩ := hq; exact ⟨f'', hr'', fun i hi => (hs'' i (hmem hi).2).trans (hs i (hmem hi).1), hk''⟩)
      | exit id => obtain ⟨f', hr', hs, hk⟩ := hq; exact ⟨f', hr', fun i hi => hs i (hmem hi).1, hk⟩
      | ret => obtain ⟨f', hr', hs, hk⟩ := hq; exact ⟨f', hr', fun i hi => hs i (hmem hi).1, hk⟩
      | goto l => exact hq.elim
      | panic ch => exact hq.elim
      | outgrown => exact hq.elim
    | nil => exact plain h
    | node p q => exact plain h
    | loop p q r => exact plain h
    | draw o => exact plain h
  | cond c x y ihx ihy =>
    intro an f a w K hok han h hr
    simp only [codeOk, Bool.and_eq_true] at hok
    simp only [anOk, Bool.and_eq_true] at han
    simp only [FC] at h
    cases hc : ev f c <;> simp only [hc] at h
    rename_i t
    refine wp_cond (t := t) (by rw [hr.eval, hc]) ?_
    cases t with
    | true =>
      refine wp_mono (ihx an.l f a w K hok.1 han.1 h hr) fun e a' w' hq => ?_
      cases e <;> first | exact hq.elim | (obtain ⟨f', hr', hs, hk⟩ := hq; exact ⟨f', hr', fun i hi => hs i (fun h => hi (by simp [wrs, h])), hk⟩)
    | false =>
      refine wp_mono (ihy an.r f a w K hok.2 han.2 h hr) fun e a' w' hq => ?_
      cases e <;> first | exact hq.elim | (obtain ⟨f', hr', hs, hk⟩ := hq; exact ⟨f', hr', fun i hi => hs i (fun h => hi (by simp [wrs, h])), hk⟩)
  | block id c ih =>
    intro an f a w K hok han h hr
    refine wp_block (wp_mono (ih an f a w _ hok han h hr) fun e a' w' hq => ?_)
    cases e with
    | normal => obtain ⟨f', hr', hs, hk⟩ := hq; exact ⟨f', hr', hs, hk⟩
    | ret => obtain ⟨f', hr', hs, hk⟩ := hq; exact ⟨f', hr', hs, hk⟩
    | exit i =>
      obtain ⟨f', hr', hs, hk⟩ := hq
      simp only at hk
      simp only [Exit.inBlock]
      cases hb : Nat.beq i id with
      | true =>
        simp only [hb, cond_true] at hk
        rw [if_pos (Nat.eq_of_beq_eq_true hb)]
        exact ⟨f', hr', hs, hk⟩
      | false =>
        simp only [hb, cond_false] at hk
        rw [if_neg (fun e => by subst e; simp at hb)]
        exact ⟨f', hr', hs, hk⟩
    | goto l => exact hq.elim
    | panic ch => exact hq.elim
    | outgrown => exact hq.elim
  | loop c ih =>
    intro an f a w K hok han h hr
    cases an with
    | loop live wr x =>
      simp only [FC] at h
      simp only [anOk, Bool.and_eq_true] at han
      obtain ⟨I, μ, h0, hstep⟩ := h
      classical
      have sel : ∀ (f' : Fr), (∀ i, i ∉ wrs c → f' i = f i) → plug f live (gather f' live) wr f' = f' := fun f' hs => plug_eq f f' wr live fun i h1 h2 => hs i fun hi => by
        have := List.all_eq_true.1 han.2 i hi
        rw [Bool.or_eq_true, memN_iff (live.map (·.1)) i] at this
        rcases this with e | e
        · exact h1 e
        · exact h2 e
      refine wp_loop (fun a' w' => ∃ f', Rep ds n a' f' ∧ (∀ i, i ∉ wrs c → f' i = f i) ∧ appC False (live.map (·.2)) I (gather f' live) w')
        (fun a' w' => appC 0 (live.map (·.2)) μ (gather (fun i => a'.tmps.getD i undef) live) w') ⟨f, hr, fun _ _ => rfl, h0⟩ ?_
      rintro a1 w1 ⟨f1, hr1, hs1, hI1⟩
      have hf1 : (fun i => a1.tmps.getD i undef) = f1 := funext hr1.2.2
      have hb := AllL.apply _ I _ _ hI1 hstep f1 w1 hI1
      rw [sel f1 hs1] at hb
      refine wp_mono (ih x f1 a1 w1 _ hok han.1 hb hr1) fun e a2 w2 hq => ?_
      cases e with
      | normal =>
        obtain ⟨f2, hr2, hs2, hk⟩ := hq
        have hf2 : (fun i => a2.tmps.getD i undef) = f2 := funext hr2.2.2
        refine ⟨⟨f2, hr2, fun i hi => (hs2 i hi).trans (hs1 i hi), hk.1⟩, ?_⟩
        show appC 0 _ μ (gather (fun i => a2.tmps.getD i undef) live) w2 < appC 0 _ μ (gather (fun i => a1.tmps.getD i undef) live) w1
        rw [hf1, hf2]
        exact hk.2
      | exit id => obtain ⟨f2, hr2, hs2, hk⟩ := hq; exact ⟨f2, hr2, fun i hi => (hs2 i hi).trans (hs1 i hi), hk⟩
      | ret => obtain ⟨f2, hr2, hs2, hk⟩ := hq; exact ⟨f2, hr2, fun i hi => (hs2 i hi).trans (hs1 i hi), hk⟩
      | goto l => exact hq.elim
      | panic ch => exact hq.elim
      | outgrown => exact hq.elim
    | nil => exact h.elim
    | node p q => exact h.elim
    | cut p q r s => exact h.elim
    | draw o => exact h.elim
  | exit id => intro an f a w K _ _ h hr; exact wp_exit ⟨f, hr, fun _ _ => rfl, h⟩
  | scope c ih =>
    intro an f a w K hok han h hr
    refine wp_scope_straight (wp_mono (ih an f a w K hok han h hr) fun e a' w' hq => ?_)
    cases e <;> first | exact hq | exact hq.elim
  | label l => intro an f a w K _ _ h hr; exact wp_label ⟨f, hr, fun _ _ => rfl, h⟩
  | ret => intro an f a w K _ _ h hr; exact wp_ret ⟨f, hr, fun _ _ => rfl, h⟩
  | rangeFunc => intro an f a w K _ _ h hr; exact h.elim
  | goto => intro an f a w K _ _ h hr; exact h.elim
  | refuse => intro an f a w K _ _ h hr; exact h.elim

/-! ### A function -/
def resV (T : Tab) (f : Fr) (w : World) : List ResultVar → (List Value → Prop) → Prop
  | [], F => F []
  | .tmp t :: r, F => resV T f w r fun vs => F (f t :: vs)
  | .cell a t :: r, F => match f a with
    | .pointer (some ⟨b, o, none⟩) => loadW T t b o (fun φ => φ w) fun v => resV T f w r fun vs => F (v :: vs)
    | _ => False
def resW (T : Tab) (f : Fr) (w : World) (rs : List ResultVar) (F : Value → Prop) : Prop :=
  resV T f w rs fun vs => match vs with | [v] => F v | vs => F (.tuple vs.toArray)
def arg0 : List Value → Fr
  | [], _ => undef
  | v :: _, 0 => v
  | _ :: r, n + 1 => arg0 r n
theorem arg0_get : ∀ (l : List Value) (i : Nat), arg0 l i = l.getD i undef
  | [], i => by simp [arg0]
  | v :: _, 0 => by simp [arg0]
  | _ :: r, n + 1 => by simp [arg0, arg0_get r n]

def resOne (tmps : Array Value) : ResultVar → Sem Value
  | .tmp t => pure (tmps.getD t undef)
  | .cell a t => do loadVar t (← asAddr (tmps.getD a undef))
theorem results_eq (fn : Func) (tmps : Array Value) : results fn tmps = (do let vs ← fn.results.mapM (resOne tmps); pure (if h : vs.size = 1 then vs[0] else .tuple vs)) := by
  unfold results
  congr 1
theorem resV_run (hT : TabOk P T) {a : Act} {f : Fr} (hr : Rep ds n a f) {w : World} : ∀ (rs : List ResultVar) (F : List Value → Prop), resV T f w rs F →
    ∃ vs, (rs.mapM (resOne a.tmps)).run P w = .ok vs w ∧ F vs
  | [], F, h => ⟨[], by simp, h⟩
  | .tmp t :: r, F, h => by
    obtain ⟨vs, h1, h2⟩ := resV_run hT hr r _ h
    exact ⟨f t :: vs, by simp only [List.mapM_cons, resOne, Sem.run_bind, Sem.run_pure, Result.andThen_ok, h1, hr.2.2], h2⟩
  | .cell x t :: r, F, h => by
    simp only [resV] at h
    split at h <;> try exact h.elim
    rename_i b o hx
    obtain ⟨v, hv0, h⟩ := loadW_run hT h
    have hv := hv0 w fun φ h => h
    obtain ⟨vs, h1, h2⟩ := resV_run hT hr r _ h
    refine ⟨v :: vs, ?_, h2⟩
    simp only [List.mapM_cons, resOne, Sem.run_bind, hr.2.2, hx, asAddr, Sem.run_pure, Result.andThen_ok, hv, h1]
theorem resW_run (hT : TabOk P T) {a : Act} {f : Fr} (hr : Rep ds n a f) {w : World} {fn : Func} {F : Value → Prop} (h : resW T f w fn.results.toList F) :
    ∃ v, (results fn a.tmps).run P w = .ok v w ∧ F v := by
  obtain ⟨vs, h1, h2⟩ := resV_run (P := P) hT hr _ _ h
  refine ⟨if h : vs.toArray.size = 1 then vs.toArray[0] else .tuple vs.toArray, ?_, ?_⟩
  · rw [results_eq]
    simp only [Array.mapM_eq_mapM_toList, Sem.run_map, Sem.run_bind, Sem.run_pure, h1, Result.andThen_ok]
  · rcases vs with _ | ⟨v, _ | ⟨u, r⟩⟩
    · exact h2
    · exact h2
    · exact h2

theorem calls_of_fc {g : FuncId} {fn : Func} {c : Code} {args : List Value} {w : World} {R : Ending → World → Prop} (an : AN) (hT : TabOk P T) (hF : FokOk P fok)
    (hf : P.funcs[g]? = some fn) (hb : fn.body = some c) (hok : (codeOk fn.ntmps c && anOk T c an && Nat.ble args.length fn.ntmps) = true)
    (h : FC P T fok c an (arg0 args) w fun e f w' => match e with
      | .normal => resW T f w' fn.results.toList fun v => R (.returned v) w'
      | .ret => resW T f w' fn.results.toList fun v => R (.returned v) w'
      | _ => False) : Calls P g args.toArray w R := by
  simp only [Bool.and_eq_true] at hok
  have hle := Nat.le_of_ble_eq_true hok.2
  refine calls_of_wp hf hb (wp_mono (fc_sound hT hF c an (arg0 args) _ w _ hok.1.1 hok.1.2 h ⟨rfl, by simp; omega, fun i => ?_⟩) fun e a' w' hq => ?_)
  · rw [arg0_get]
    simp only [Array.getD_eq_getD_getElem?, List.getD_eq_getElem?_getD]
    rcases Nat.lt_or_ge i args.length with hi | hi
    · rw [Array.getElem?_append_left (by simpa using hi)]; simp
    · rw [Array.getElem?_append_right (by simpa using hi), List.getElem?_eq_none hi]
      simp only [Option.getD_none]
      rcases Nat.lt_or_ge (i - args.length) (fn.ntmps - args.length) with h1 | h1
      · simp [h1]
      · simp [Nat.not_lt.2 h1]
  · cases e with
    | normal => obtain ⟨f', hr', hs, hk⟩ := hq; obtain ⟨v, h1, h2⟩ := resW_run hT hr' hk; exact ⟨hr'.1, v, h1, h2⟩
    | ret => obtain ⟨f', hr', hs, hk⟩ := hq; obtain ⟨v, h1, h2⟩ := resW_run hT hr' hk; exact ⟨hr'.1, v, h1, h2⟩
    | exit id => obtain ⟨f', hr', hs, hk⟩ := hq; exact hk.elim
    | goto l => exact hq.elim
    | panic ch => exact hq.elim
    | outgrown => exact hq.elim

def finK (T : Tab) (fn : Func) (R : Ending → World → Prop) : Ex → Fr → World → Prop := fun e f w' => match e with
  | .normal => resW T f w' fn.results.toList fun v => R (.returned v) w'
  | .ret => resW T f w' fn.results.toList fun v => R (.returned v) w'
  | _ => False
def okF (T : Tab) (fn : Func) (an : AN) (n : Nat) : Bool := match fn.body with
  | some c => codeOk fn.ntmps c && anOk T c an && Nat.ble n fn.ntmps
  | none => false
theorem calls_mk {g : FuncId} {fn : Func} (an : AN) (args : List Value) (w : World) (R : Ending → World → Prop) (hT : TabOk P T) (hF : FokOk P fok)
    (hf : P.funcs[g]? = some fn) (hok : okF T fn an args.length = true) (X : Prop) (hX : X = FC P T fok (fn.body.getD .skip) an (arg0 args) w (finK T fn R)) (h : X) : Calls P g args.toArray w R := by
  unfold okF at hok
  cases hb : fn.body with
  | none => simp [hb] at hok
  | some c =>
    simp only [hb] at hok
    rw [hX, hb] at h
    exact calls_of_fc an hT hF hf hb hok h

end
end Go.Eng
