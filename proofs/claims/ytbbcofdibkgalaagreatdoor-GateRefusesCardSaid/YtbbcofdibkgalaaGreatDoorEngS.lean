/- The engine's soundness, operation by operation. -/
import Derived.Test.YtbbcofdibkgalaaGreatDoorEng
set_option linter.unusedVariables false
set_option linter.unusedSimpArgs false
namespace Go.Eng

def TabOk (P : Program) (T : Tab) : Prop := ∀ t i, lk T t = some i →
  P.underlying t = some i.desc ∧ (P.info? t).map (fun x => (x.zero, x.size)) = some (some i.zero, i.size) ∧ (isRow i.desc = match i.zero with | .agg _ => true | _ => false) ∧ i.zero.cells.size = i.size
def FnOk (P : Program) (h : Nat) : Prop := ∃ fn, P.funcs[h]? = some fn ∧ fn.body.isNone = false ∧ (fn.name == "runtime.NumGoroutine") = false
def FokOk (P : Program) (fok : Env) : Prop := (∀ h, fok.fs.contains h = true → FnOk P h) ∧ P.follows .mixedOrders = true

section
variable {P : Program} {T : Tab}

theorem TabOk.und (hT : TabOk P T) {t : Nat} {i : TI} (h : lk T t = some i) : P.underlying t = some i.desc := (hT t i h).1
theorem TabOk.info (hT : TabOk P T) {t : Nat} {i : TI} (h : lk T t = some i) : ∃ x, P.info? t = some x ∧ x.zero = some i.zero ∧ x.size = i.size := by
  have := (hT t i h).2.1
  cases hx : P.info? t with
  | none => simp [hx] at this
  | some x => simp [hx] at this; exact ⟨x, rfl, this.1, this.2⟩
theorem TabOk.runSize (hT : TabOk P T) {t : Nat} {i : TI} (h : lk T t = some i) (w : World) : (sizeOf t).run P w = .ok i.size w := by
  obtain ⟨x, hx, _, hs⟩ := hT.info h
  simp [sizeOf, typeInfo, hx, hs]
theorem TabOk.runZero (hT : TabOk P T) {t : Nat} {i : TI} (h : lk T t = some i) (w : World) : (zeroValue t).run P w = .ok i.zero w := by
  obtain ⟨x, hx, hz, _⟩ := hT.info h
  simp [zeroValue, typeInfo, hx, hz]
theorem TabOk.runUnd (hT : TabOk P T) {t : Nat} {i : TI} (h : lk T t = some i) (w : World) : (underlying t).run P w = .ok i.desc w := run_underlying (hT.und h) w
theorem TabOk.runAgg (hT : TabOk P T) {t : Nat} {i : TI} (h : lk T t = some i) (w : World) : (isAgg t).run P w = .ok (isRow i.desc) w := by
  simp only [isAgg, Sem.run_bind, hT.runUnd h, Result.andThen_ok]
  cases i.desc <;> rfl
theorem dsc_def {t : TypeId} {p : TypeDesc → Bool} {X : Prop} (h : dsc T t p X) : ∃ i, lk T t = some i ∧ p i.desc = true ∧ X := by
  unfold dsc at h
  cases hl : lk T t with
  | none => simp [hl] at h
  | some i =>
    simp only [hl] at h
    cases hp : p i.desc with
    | true => simp only [hp, cond_true] at h; exact ⟨i, rfl, hp, h⟩
    | false => simp [hp] at h

theorem exK {k : LK} {F : List Value → Prop} (h : ExK k F) : ∃ cs, F cs := by
  cases k <;> simp only [ExK] at h
  case int => obtain ⟨n, h⟩ := h; exact ⟨_, h⟩
  case bool => obtain ⟨n, h⟩ := h; exact ⟨_, h⟩
  case str => obtain ⟨n, h⟩ := h; exact ⟨_, h⟩
  case ptr => obtain ⟨n, h⟩ := h; exact ⟨_, h⟩
  case pt => obtain ⟨n, _, h⟩ := h; exact ⟨_, h⟩
  case slice => obtain ⟨n, _, _, h⟩ := h; exact ⟨_, h⟩
  case map => obtain ⟨n, h⟩ := h; exact ⟨_, h⟩
  case any => obtain ⟨n, h⟩ := h; exact ⟨_, h⟩
  case arr => obtain ⟨n, _, h⟩ := h; exact ⟨_, h⟩
theorem exL : ∀ {ks : List LK} {F : List Value → Prop}, ExL ks F → ∃ cs, F cs
  | [], _, h => ⟨_, h⟩
  | k :: r, F, h => by
    obtain ⟨c, h⟩ := exK h
    obtain ⟨d, h⟩ := exL h
    exact ⟨_, h⟩
theorem exE {e : Bool × List LK} {F : Value → Prop} (h : ExE e F) : ∃ v, F v := by
  match e, h with
  | (true, ks), h => obtain ⟨c, h⟩ := exL h; exact ⟨_, h⟩
  | (false, [k]), h =>
    obtain ⟨c, h⟩ := exK h
    match c, h with
    | [v], h => exact ⟨v, h⟩
  | (false, []), h => exact h.elim
  | (false, _ :: _ :: _), h => exact h.elim
theorem exT : ∀ {es : List (Bool × List LK)} {F : List Value → Prop}, ExT es F → ∃ cs, F cs
  | [], _, h => ⟨_, h⟩
  | e :: r, F, h => by
    obtain ⟨c, h⟩ := exE h
    obtain ⟨d, h⟩ := exT h
    exact ⟨_, h⟩
theorem exR {k : RK} {F : Value → Prop} (h : ExR k F) : ∃ v, F v := by
  cases k with
  | sc k =>
    cases k
    case arr n => obtain ⟨cs, _, h⟩ := h; exact ⟨_, h⟩
    all_goals
      simp only [ExR] at h
      obtain ⟨c, h⟩ := exK h
      match c, h with
      | [v], h => exact ⟨v, h⟩
  | agg ks => obtain ⟨c, h⟩ := exL h; exact ⟨_, h⟩
  | tup es => obtain ⟨c, h⟩ := exT h; exact ⟨_, h⟩

theorem kk_def {k k' : IntKind} {X : Prop} (h : kk k k' X) : k = k' ∧ X := by
  unfold kk at h
  by_cases hk : k = k'
  · simp [hk] at h; exact ⟨hk, h⟩
  · simp [hk] at h

theorem binI_run {op : BinOp} {t : TypeId} {k k' : IntKind} {a b : Int} {K : Value → Prop} (h : binI op k a k' b K) (w : World) :
    ∃ v, (binOp op t (.int k a) (.int k' b)).run P w = .ok v w ∧ K v := by
  cases op <;> simp only [binI] at h
  case add => obtain ⟨rfl, hh⟩ := kk_def h; exact ⟨_, by simp [binOp, Op.intArith], hh⟩
  case sub => obtain ⟨rfl, hh⟩ := kk_def h; exact ⟨_, by simp [binOp, Op.intArith], hh⟩
  case mul => obtain ⟨rfl, hh⟩ := kk_def h; exact ⟨_, by simp [binOp, Op.intArith], hh⟩
  case quo => obtain ⟨hb, h⟩ := h; obtain ⟨rfl, hh⟩ := kk_def h; exact ⟨_, by simp [binOp, Op.intDiv, hb], hh⟩
  case rem => obtain ⟨hb, h⟩ := h; obtain ⟨rfl, hh⟩ := kk_def h; exact ⟨_, by simp [binOp, Op.intDiv, hb], hh⟩
  case and => obtain ⟨rfl, hh⟩ := kk_def h; exact ⟨_, by simp only [binOp, ne_eq, not_true, if_false, Op.intBits, Sem.run_pure, bitv], hh⟩
  case or => obtain ⟨rfl, hh⟩ := kk_def h; exact ⟨_, by simp only [binOp, ne_eq, not_true, if_false, Op.intBits, Sem.run_pure, bitv], hh⟩
  case xor => obtain ⟨rfl, hh⟩ := kk_def h; exact ⟨_, by simp only [binOp, ne_eq, not_true, if_false, Op.intBits, Sem.run_pure, bitv], hh⟩
  case andNot => obtain ⟨rfl, hh⟩ := kk_def h; exact ⟨_, by simp only [binOp, ne_eq, not_true, if_false, Op.intBits, Sem.run_pure, bitv], hh⟩
  case shl => obtain ⟨hb, h⟩ := h; exact ⟨_, by simp only [binOp, Op.shift]; rw [if_neg (by omega)]; rfl, h⟩
  case shr => obtain ⟨hb, h⟩ := h; exact ⟨_, by simp only [binOp, Op.shift]; rw [if_neg (by omega)]; rfl, h⟩
  case eql => obtain ⟨rfl, hh⟩ := kk_def h; exact ⟨_, by simp only [binOp, ne_eq, not_true, if_false, Op.intCmp, Sem.run_pure]; rfl, hh⟩
  case neq => obtain ⟨rfl, hh⟩ := kk_def h; exact ⟨.bool (decide (a ≠ b)), by simp only [binOp, ne_eq, not_true, if_false, Op.intCmp, Sem.run_pure]; congr 2; simp [bne, decide_not]; rfl, hh⟩
  case lss => obtain ⟨rfl, hh⟩ := kk_def h; exact ⟨_, by simp only [binOp, ne_eq, not_true, if_false, Op.intCmp, Sem.run_pure], hh⟩
  case leq => obtain ⟨rfl, hh⟩ := kk_def h; exact ⟨_, by simp only [binOp, ne_eq, not_true, if_false, Op.intCmp, Sem.run_pure], hh⟩
  case gtr => obtain ⟨rfl, hh⟩ := kk_def h; exact ⟨_, by simp only [binOp, ne_eq, not_true, if_false, Op.intCmp, Sem.run_pure], hh⟩
  case geq => obtain ⟨rfl, hh⟩ := kk_def h; exact ⟨_, by simp only [binOp, ne_eq, not_true, if_false, Op.intCmp, Sem.run_pure], hh⟩

theorem toList_eq (a : ByteArray) : a.toList = a.data.toList := ByteArray.toList_eq a
theorem bytes_beq (a b : ByteArray) : (a.data.toList == b.data.toList) = decide (a = b) := by
  rw [Bool.eq_iff_iff]
  simp only [beq_iff_eq, decide_eq_true_eq]
  constructor
  · intro h
    cases a; cases b
    simp only at h
    congr 1
    exact Array.toList_inj.1 h
  · intro h; rw [h]

theorem binS_run {op : BinOp} {t : TypeId} {a b : ByteArray} {K : Value → Prop} (h : binS op a b K) (w : World) :
    ∃ v, (binOp op t (.string a) (.string b)).run P w = .ok v w ∧ K v := by
  cases op <;> simp only [binS] at h <;> try exact h.elim
  case add =>
    obtain ⟨hl, h⟩ := h
    refine ⟨_, ?_, h⟩
    simp only [binOp, Op.stringOp, IntKind.max_i64]
    rw [if_neg (by omega)]; rfl
  case eql => exact ⟨_, by simp only [binOp, Op.stringOp, Sem.run_pure, toList_eq, bytes_beq], h⟩
  case neq => exact ⟨_, by simp only [binOp, Op.stringOp, Sem.run_pure, toList_eq, bytes_beq]; congr 2; simp, h⟩
  case lss => exact ⟨_, by simp only [binOp, Op.stringOp, Sem.run_pure, toList_eq, bytes_beq], h⟩
  case leq => exact ⟨_, by simp only [binOp, Op.stringOp, Sem.run_pure, toList_eq, bytes_beq], h⟩
  case gtr => exact ⟨_, by simp only [binOp, Op.stringOp, Sem.run_pure, toList_eq, bytes_beq], h⟩
  case geq => exact ⟨_, by simp only [binOp, Op.stringOp, Sem.run_pure, toList_eq, bytes_beq], h⟩

section
variable {t : TypeId} (w : World) (d : Nat)
theorem eqIn_bool (hu : P.underlying t = some .bool) (a b : Bool) : (Op.equalIn (d + 1) t (.bool a) (.bool b)).run P w = .ok (a == b) w := by
  unfold Op.equalIn; simp only [Sem.run_bind, run_underlying hu, Result.andThen_ok]; rfl
theorem eqIn_ptr {e : TypeId} (hu : P.underlying t = some (.pointer e)) (a : Option Addr) : (Op.equalIn (d + 1) t (.pointer a) (.pointer none)).run P w = .ok a.isNone w := by
  unfold Op.equalIn; simp only [Sem.run_bind, run_underlying hu, Result.andThen_ok]; cases a <;> rfl
theorem eqIn_sl {e : TypeId} (hu : P.underlying t = some (.slice e)) (a : Option Addr) (n c m k : Nat) : (Op.equalIn (d + 1) t (.slice a n c) (.slice none m k)).run P w = .ok a.isNone w := by
  unfold Op.equalIn; simp only [Sem.run_bind, run_underlying hu, Result.andThen_ok]; cases a <;> rfl
theorem eqIn_map {e e2 : TypeId} (hu : P.underlying t = some (.map e e2)) (a : Option Nat) : (Op.equalIn (d + 1) t (.map a) (.map none)).run P w = .ok a.isNone w := by
  unfold Op.equalIn; simp only [Sem.run_bind, run_underlying hu, Result.andThen_ok]; cases a <;> rfl
theorem eqIn_fn {e e2 : Array TypeId} {e3 : Bool} (hu : P.underlying t = some (.func e e2 e3)) (f : Fn) (a c : Array Value) : (Op.equalIn (d + 1) t (.func f a c) .nilFunc).run P w = .ok false w := by
  unfold Op.equalIn; simp only [Sem.run_bind, run_underlying hu, Result.andThen_ok]; rfl
theorem eqIn_nilFn {e e2 : Array TypeId} {e3 : Bool} (hu : P.underlying t = some (.func e e2 e3)) : (Op.equalIn (d + 1) t .nilFunc .nilFunc).run P w = .ok true w := by
  unfold Op.equalIn; simp only [Sem.run_bind, run_underlying hu, Result.andThen_ok]; rfl
end

theorem eqn_run {op : BinOp} {t : TypeId} {x y : Value} {b : Bool} {K : Value → Prop} {w : World} (h : eqn op b K)
    (he : op = .eql → (binOp op t x y) = (do pure (.bool (← Op.equal t x y)))) (hn : op = .neq → (binOp op t x y) = (do pure (.bool (!(← Op.equal t x y)))))
    (hb : (Op.equal t x y).run P w = .ok b w) : ∃ v, (binOp op t x y).run P w = .ok v w ∧ K v := by
  cases op <;> simp only [eqn] at h <;> try exact h.elim
  case eql => exact ⟨_, by rw [he rfl]; simp [hb], h⟩
  case neq => exact ⟨_, by rw [hn rfl]; simp [hb], h⟩

abbrev Sat (C : Ctx) (w : World) : Prop := ∀ φ, C φ → φ w
theorem eqv_run {op : BinOp} {t : TypeId} {x y : Value} {b : Bool} {K : Value → Prop} {w : World} {o p : Operand} (h : EqV P t x y w b) (hk : eqn op b K)
    (he : ∀ o : BinOp, o = .eql → (binOp o t x y) = (do pure (.bool (← Op.equal t x y)))) (hn : ∀ o : BinOp, o = .neq → (binOp o t x y) = (do pure (.bool (!(← Op.equal t x y))))) :
    ∃ v, (do eqGuard op t o p x y; binOp op t x y).run P w = .ok v w ∧ K v := by
  obtain ⟨v, hr, hv⟩ := eqn_run hk (he op) (hn op) h.2
  refine ⟨v, ?_, hv⟩
  cases op <;> simp only [eqn] at hk <;> try exact hk.elim
  case eql => rw [Sem.run_bind, (h.1 o p).1]; exact hr
  case neq => rw [Sem.run_bind, (h.1 o p).2]; exact hr

theorem eqn_all {op : BinOp} {t : TypeId} {x y : Value} {b : Bool} {K : Value → Prop} {C : Ctx} {o p : Operand} (h : eqn op b K) (hg : eqGuard op t o p x y = pure ())
    (he : op = .eql → (binOp op t x y) = (do pure (.bool (← Op.equal t x y)))) (hn : op = .neq → (binOp op t x y) = (do pure (.bool (!(← Op.equal t x y)))))
    (hb : ∀ w, Sat C w → (Op.equal t x y).run P w = .ok b w) : ∃ v, (∀ w, Sat C w → (do eqGuard op t o p x y; binOp op t x y).run P w = .ok v w) ∧ K v := by
  rw [hg]
  cases op <;> simp only [eqn] at h <;> try exact h.elim
  case eql => exact ⟨_, fun w hw => by rw [he rfl]; simp [hb w hw], h⟩
  case neq => exact ⟨_, fun w hw => by rw [hn rfl]; simp [hb w hw], h⟩
theorem eqv_all {op : BinOp} {t : TypeId} {x y : Value} {b : Bool} {K : Value → Prop} {C : Ctx} {o p : Operand} (h : C fun w => EqV P t x y w b) (hk : eqn op b K)
    (he : ∀ o : BinOp, o = .eql → (binOp o t x y) = (do pure (.bool (← Op.equal t x y)))) (hn : ∀ o : BinOp, o = .neq → (binOp o t x y) = (do pure (.bool (!(← Op.equal t x y))))) :
    ∃ v, (∀ w, Sat C w → (do eqGuard op t o p x y; binOp op t x y).run P w = .ok v w) ∧ K v := by
  cases op <;> simp only [eqn] at hk <;> try exact hk.elim
  case eql => exact ⟨_, fun w hw => by have := hw _ h; rw [Sem.run_bind, (this.1 o p).1, he _ rfl]; simp [this.2], hk⟩
  case neq => exact ⟨_, fun w hw => by have := hw _ h; rw [Sem.run_bind, (this.1 o p).2, hn _ rfl]; simp [this.2], hk⟩
theorem binI_all {op : BinOp} {t : TypeId} {k k' : IntKind} {a b : Int} {K : Value → Prop} (h : binI op k a k' b K) :
    ∃ v, (∀ w, (binOp op t (.int k a) (.int k' b)).run P w = .ok v w) ∧ K v := by
  obtain ⟨v, hr, hk⟩ := binI_run (P := P) (t := t) h default
  refine ⟨v, fun w => ?_, hk⟩
  have key : ∀ w, (∃ u, (binOp op t (.int k a) (.int k' b)) = pure u) → (binOp op t (.int k a) (.int k' b)).run P w = .ok v w := by
    rintro w ⟨u, hu⟩
    rw [hu] at hr ⊢
    simp only [Sem.run_pure, Result.ok.injEq] at hr ⊢
    exact ⟨hr.1, trivial⟩
  apply key w
  cases op <;> simp only [binI] at h
  case add => obtain ⟨rfl, hh⟩ := kk_def h; exact ⟨_, by simp [binOp, Op.intArith]; rfl⟩
  case sub => obtain ⟨rfl, hh⟩ := kk_def h; exact ⟨_, by simp [binOp, Op.intArith]; rfl⟩
  case mul => obtain ⟨rfl, hh⟩ := kk_def h; exact ⟨_, by simp [binOp, Op.intArith]; rfl⟩
  case quo => obtain ⟨hb, h⟩ := h; obtain ⟨rfl, hh⟩ := kk_def h; exact ⟨_, by simp [binOp, Op.intDiv, hb]; rfl⟩
  case rem => obtain ⟨hb, h⟩ := h; obtain ⟨rfl, hh⟩ := kk_def h; exact ⟨_, by simp [binOp, Op.intDiv, hb]; rfl⟩
  case shl => obtain ⟨hb, h⟩ := h; exact ⟨_, by simp only [binOp, Op.shift]; rw [if_neg (by omega)]⟩
  case shr => obtain ⟨hb, h⟩ := h; exact ⟨_, by simp only [binOp, Op.shift]; rw [if_neg (by omega)]⟩
  all_goals
    obtain ⟨rfl, hh⟩ := kk_def h
    exact ⟨_, by simp only [binOp, ne_eq, not_true, if_false, Op.intBits, Op.intCmp]; rfl⟩
theorem binS_all {op : BinOp} {t : TypeId} {a b : ByteArray} {K : Value → Prop} (h : binS op a b K) :
    ∃ v, (∀ w, (binOp op t (.string a) (.string b)).run P w = .ok v w) ∧ K v := by
  obtain ⟨v, hr, hk⟩ := binS_run (P := P) (t := t) h default
  refine ⟨v, fun w => ?_, hk⟩
  have key : ∀ w, (∃ u, (binOp op t (.string a) (.string b)) = pure u) → (binOp op t (.string a) (.string b)).run P w = .ok v w := by
    rintro w ⟨u, hu⟩
    rw [hu] at hr ⊢
    simp only [Sem.run_pure, Result.ok.injEq] at hr ⊢
    exact ⟨hr.1, trivial⟩
  apply key w
  cases op <;> simp only [binS] at h <;> try exact h.elim
  case add =>
    obtain ⟨hl, h⟩ := h
    refine ⟨.string (a ++ b), ?_⟩
    simp only [binOp, Op.stringOp, IntKind.max_i64]
    rw [if_neg (by omega)]
  all_goals exact ⟨_, rfl⟩
theorem binW_ne {op : BinOp} {t : TypeId} {x y : Value} {C : Ctx} {K : Value → Prop} (hy : y ≠ .nilFunc) (hy2 : y ≠ .nilIface) (h : binW P T op t x y C K) : binX P T op t x y C K := by
  cases y <;> first | exact h | exact absurd rfl hy | exact absurd rfl hy2
theorem binW_run (hT : TabOk P T) {op : BinOp} {t : TypeId} {x y : Value} {C : Ctx} {K : Value → Prop} (h : binW P T op t x y C K) (o p : Operand) :
    ∃ v, (∀ w, Sat C w → (do eqGuard op t o p x y; binOp op t x y).run P w = .ok v w) ∧ K v := by
  by_cases hy : y = .nilFunc
  · subst hy
    have h : dsc T t isFn (nilF x fun b => eqn op b K) := h
    obtain ⟨i, hi, hd, h⟩ := dsc_def h
    obtain ⟨e, e2, e3, hu⟩ : ∃ e e2 e3, P.underlying t = some (.func e e2 e3) := by
      rw [hT.und hi]; cases hdd : i.desc <;> simp_all [isFn]
    unfold nilF at h
    split at h <;> try exact h.elim
    · exact eqn_all h (eqGuard_at_func ..) (by rintro rfl; rfl) (by rintro rfl; rfl) fun w _ => eqIn_fn w 9999 hu _ _ _
    · exact eqn_all h (eqGuard_at_nilFunc ..) (by rintro rfl; rfl) (by rintro rfl; rfl) fun w _ => eqIn_nilFn w 9999 hu
  by_cases hy2 : y = .nilIface
  · subst hy2
    obtain ⟨b, hb, h⟩ := (h : ∃ b, C (fun w => EqV P t x .nilIface w b) ∧ eqn op b K)
    refine eqv_all hb h ?_ ?_
    · rintro _ rfl; cases x <;> first | rfl | (rename_i x; cases x <;> rfl)
    · rintro _ rfl; cases x <;> first | rfl | (rename_i x; cases x <;> rfl)
  replace h := binW_ne hy hy2 h
  cases x <;> simp only [binX] at h
  case int k a =>
    cases y <;> try exact h.elim
    obtain ⟨v, hr, hv⟩ := binI_all (P := P) (t := t) h
    exact ⟨v, fun w _ => by rw [eqGuard_at_int]; exact hr w, hv⟩
  case string a =>
    cases y <;> try exact h.elim
    obtain ⟨v, hr, hv⟩ := binS_all (P := P) (t := t) h
    exact ⟨v, fun w _ => by rw [eqGuard_at_string]; exact hr w, hv⟩
  case bool a =>
    cases y <;> try exact h.elim
    obtain ⟨i, hi, hd, h⟩ := dsc_def h
    have hu : P.underlying t = some .bool := by rw [hT.und hi]; cases hdd : i.desc <;> simp_all [isBoolT]
    exact eqn_all h (eqGuard_at_bool ..) (by rintro rfl; rfl) (by rintro rfl; rfl) fun w _ => eqIn_bool w 9999 hu _ _
  case pointer a =>
    split at h
    · obtain ⟨i, hi, hd, h⟩ := dsc_def h
      obtain ⟨e, hu⟩ : ∃ e, P.underlying t = some (.pointer e) := by
        rw [hT.und hi]; cases hdd : i.desc <;> simp_all [isPtr]
      exact eqn_all h (eqGuard_at_pointer ..) (by rintro rfl; cases a <;> rfl) (by rintro rfl; cases a <;> rfl) fun w _ => eqIn_ptr w 9999 hu _
    · obtain ⟨b, hb, h⟩ := h
      refine eqn_all h (eqGuard_at_pointer ..) ?_ ?_ fun w hw => (hw _ hb).2
      · rintro rfl; cases a <;> cases y <;> first | rfl | (rename_i y; cases y <;> rfl)
      · rintro rfl; cases a <;> cases y <;> first | rfl | (rename_i y; cases y <;> rfl)
  case slice a n c =>
    split at h <;> try exact h.elim
    obtain ⟨i, hi, hd, h⟩ := dsc_def h
    obtain ⟨e, hu⟩ : ∃ e, P.underlying t = some (.slice e) := by
      rw [hT.und hi]; cases hdd : i.desc <;> simp_all [isSl]
    exact eqn_all h (eqGuard_at_slice ..) (by rintro rfl; rfl) (by rintro rfl; rfl) fun w _ => eqIn_sl w 9999 hu _ _ _ _ _
  case map a =>
    split at h <;> try exact h.elim
    obtain ⟨i, hi, hd, h⟩ := dsc_def h
    obtain ⟨e, e2, hu⟩ : ∃ e e2, P.underlying t = some (.map e e2) := by
      rw [hT.und hi]; cases hdd : i.desc <;> simp_all [isMap]
    exact eqn_all h (eqGuard_at_map ..) (by rintro rfl; rfl) (by rintro rfl; rfl) fun w _ => eqIn_map w 9999 hu _
  all_goals
    obtain ⟨b, hb, h⟩ := h
    refine eqv_all hb h ?_ ?_
    · rintro _ rfl; cases y <;> rfl
    · rintro _ rfl; cases y <;> rfl

/-! ### The other operations -/
theorem wp_of_value {o : Oper} {a : Act} {w w' : World} {v : Value} {next : Act → World → Prop} {Q : Exit → Act → World → Prop}
    (hr : (execOp a.eval o).run P w = .ok (.value v) w') (hk : next (a.put o.dst v) w') : o.wp P a w next Q := by
  unfold Oper.wp; rw [hr]; exact hk
theorem wp_of_skip {o : Oper} {a : Act} {w w' : World} {next : Act → World → Prop} {Q : Exit → Act → World → Prop}
    (hr : (execOp a.eval o).run P w = .ok .skip w') (hk : next (a.put o.dst undef) w') : o.wp P a w next Q := by
  unfold Oper.wp; rw [hr]; exact hk

theorem lk_cases {t : TypeId} {F : TI → Prop} (h : match lk T t with | some i => F i | none => False) : ∃ i, lk T t = some i ∧ F i := by
  cases hl : lk T t with
  | none => rw [hl] at h; exact h.elim
  | some i => rw [hl] at h; exact ⟨i, rfl, h⟩

theorem row_desc {d : TypeDesc} (h : isRow d = true) : (∃ fs, d = .struct fs) ∨ ∃ n e, d = .array n e := by
  cases d <;> simp_all [isRow]
theorem loadVar_row (hT : TabOk P T) {t : TypeId} {i : TI} (hi : lk T t = some i) (hr : isRow i.desc = true) {b o : Nat} {cs : List Value} (w : World) (hc : w.rangeAt b o cs) (hl : cs.length = i.size) :
    (loadVar t ⟨b, o, none⟩).run P w = .ok (.agg cs.toArray) w := by
  simp only [loadVar, Sem.run_bind, hT.runAgg hi, hr, Result.andThen_ok, if_true, hT.runSize hi, ← hl]
  rw [run_loadCells_list (P := P) w ⟨b, o, none⟩ cs (fun j v hj => by rw [Addr.add_mid]; exact hc j v hj)]
  rfl
theorem loadVar_one (hT : TabOk P T) {t : TypeId} {i : TI} (hi : lk T t = some i) (hr : isRow i.desc = false) {a : Addr} {v : Value} (w : World) (hc : w.cell? a = some v) :
    (loadVar t a).run P w = .ok v w := by
  simp only [loadVar, Sem.run_bind, hT.runAgg hi, hr, Result.andThen_ok]
  show (load a).run P w = _
  simp [load, Sem.run, hc]

theorem lenW_def : ∀ {cs : List Value} {n : Nat} {X : Prop}, lenW cs n X → cs.length = n ∧ X
  | [], 0, _, h => ⟨rfl, h⟩
  | _ :: cs, n + 1, _, h => by obtain ⟨h1, h2⟩ := lenW_def (cs := cs) (n := n) h; exact ⟨by simp [h1], h2⟩
  | [], _ + 1, _, h => h.elim
  | _ :: _, 0, _, h => h.elim
theorem lenW_mk : ∀ {cs : List Value} {n : Nat} {X : Prop}, cs.length = n → X → lenW cs n X
  | [], 0, _, _, h => h
  | _ :: cs, n + 1, _, h, hx => lenW_mk (cs := cs) (n := n) (by simpa using h) hx
theorem loadW_run (hT : TabOk P T) {t : TypeId} {b o : Nat} {C : Ctx} {K : Value → Prop} (h : loadW T t b o C K) : ∃ v, (∀ w, Sat C w → (loadVar t ⟨b, o, none⟩).run P w = .ok v w) ∧ K v := by
  unfold loadW at h
  obtain ⟨i, hi, h⟩ := lk_cases h
  cases hrk : i.rk with
  | sc k =>
    simp only [hrk] at h
    cases hr : isRow i.desc with
    | true =>
      simp only [hr, cond_true] at h
      cases k <;> simp only at h
      obtain ⟨cs, hl, hc, h⟩ := h
      rename_i n
      cases hn : Nat.beq n i.size with
      | true =>
        simp only [hn, cond_true] at h
        have := Nat.eq_of_beq_eq_true hn
        rw [ex_eq hl] at h
        exact ⟨_, fun w hw => loadVar_row hT hi hr w (hw _ hc) (by omega), h⟩
      | false => simp [hn] at h
    | false =>
      simp only [hr, cond_false] at h
      obtain ⟨cs, h⟩ := exK h
      match cs, h with
      | [v], ⟨hc, h⟩ => exact ⟨v, fun w hw => loadVar_one hT hi hr w (hw _ hc), h⟩
  | agg ks =>
    simp only [hrk] at h
    cases hr : isRow i.desc with
    | true =>
      simp only [hr, cond_true] at h
      obtain ⟨cs, h⟩ := exL h
      obtain ⟨hl, hc, h⟩ := lenW_def h
      exact ⟨_, fun w hw => loadVar_row hT hi hr w (hw _ hc) hl, h⟩
    | false => simp [hr] at h
  | tup es => simp [hrk] at h

theorem cellsI_eq {i : TI} {v : Value} {cs : List Value} (h : cellsI i v = some cs) : v.cells = cs.toArray := by
  unfold cellsI at h
  cases hr : isRow i.desc with
  | true =>
    simp only [hr, cond_true] at h
    cases v <;> simp at h
    subst h; simp [Value.cells]
  | false =>
    simp only [hr, cond_false] at h
    cases v <;> simp at h <;> subst h <;> rfl

theorem storeCells_run {b o : Nat} {vs : List Value} {w : World} (hs : Sto w b o vs) : (storeCells ⟨b, o, none⟩ vs).run P w = .ok () (w.setCells b o vs) := by
  have := run_storeCells_cells (P := P) b o vs 0 w (fun j hj => by simpa using (hs.1 j hj).1) (fun j hj => by simpa using (hs.1 j hj).2) hs.2
  simpa using this

theorem nthF_get (l : List Field) : ∀ n : Nat, nthF l n = l[n]? := by
  induction l with
  | nil => intro n; cases n <;> rfl
  | cons a r ih => intro n; cases n with
    | zero => rfl
    | succ n => simp [nthF, ih]
theorem fields_get {i : TI} {fd : Nat} {f : Field} (hf : nthF (fields i) fd = some f) : ∃ fs, i.desc = .struct fs ∧ fs[fd]? = some f := by
  unfold fields at hf
  split at hf
  · rename_i fs hd; exact ⟨fs, hd, by rw [nthF_get] at hf; simpa using hf⟩
  · rw [nthF_get] at hf; simp at hf
theorem fieldAddr_run (hT : TabOk P T) {s : TypeId} {x : Value} {fd : Nat} {K : Value → Prop} (h : fieldAddrW T s x fd K) : ∃ v, (∀ w, (Instr.fieldAt s x fd).run P w = .ok v w) ∧ K v := by
  unfold fieldAddrW at h
  obtain ⟨i, hi, h⟩ := lk_cases h
  cases hf : nthF (fields i) fd with
  | none => simp [hf] at h
  | some f =>
    simp only [hf] at h
    obtain ⟨j, hj, h⟩ := lk_cases h
    cases hz : Nat.beq j.size 0 with
    | true => simp [hz] at h
    | false =>
      simp only [hz, cond_false] at h
      have hz' : j.size ≠ 0 := fun e => by rw [e] at hz; cases hz
      split at h <;> try exact h.elim
      rename_i b o
      refine ⟨_, fun w => ?_, h⟩
      obtain ⟨fs, hfs, hn⟩ := fields_get hf
      simp only [Instr.fieldAt, Sem.run_bind, hT.runUnd hi, hfs, Result.andThen_ok, hn, Instr.sureAddr, Sem.run_pure, fieldPlace, hT.runSize hj, hz', if_false, Addr.add_mid]

theorem cut_eq (cs : List Value) : ∀ o n : Nat, cut cs o n = (cs.drop o).take n := by
  induction cs with
  | nil => intro o n; cases o <;> cases n <;> rfl
  | cons c cs ih =>
    intro o n
    cases o with
    | zero => cases n with
      | zero => rfl
      | succ n => simp [cut, ih]
    | succ o => simp [cut, ih]
theorem part_run (hT : TabOk P T) {t : TypeId} {j : TI} (hj : lk T t = some j) (cs : Array Value) (off : Nat) {K : Value → Prop}
    (h : bif isRow j.desc then K (.agg (cut cs.toList off j.size).toArray) else (match cut cs.toList off 1 with | [v] => K v | _ => False)) :
    ∃ v, (∀ w, (part t cs off).run P w = .ok v w) ∧ K v := by
  unfold part
  cases hr : isRow j.desc with
  | true =>
    simp only [hr, cond_true] at h
    refine ⟨_, fun w => ?_, h⟩
    simp only [Sem.run_bind, hT.runAgg hj, hr, Result.andThen_ok, if_true, Sem.run_bind, hT.runSize hj, Result.andThen_ok, Sem.run_pure]
    congr 3
    rw [cut_eq]
    apply Array.toList_inj.1
    rw [Array.toList_extract, List.extract_eq_take_drop, Nat.add_sub_cancel_left]
  | false =>
    simp only [hr, cond_false] at h
    rw [cut_eq] at h
    split at h <;> try exact h.elim
    rename_i v hv
    refine ⟨v, fun w => ?_, h⟩
    have : cs[off]? = some v := by
      have h2 : (List.take 1 (List.drop off cs.toList))[0]? = some v := by rw [hv]; rfl
      simpa [List.getElem?_take, List.getElem?_drop] using h2
    simp only [Sem.run_bind, hT.runAgg hj, hr, Result.andThen_ok]
    simp [this]
theorem field_run (hT : TabOk P T) {s : TypeId} {x : Value} {fd : Nat} {K : Value → Prop} (h : fieldW T s x fd K) : ∃ v, (∀ w, (Instr.field s x fd).run P w = .ok v w) ∧ K v := by
  unfold fieldW at h
  obtain ⟨i, hi, h1⟩ := lk_cases h
  clear h
  cases hf : nthF (fields i) fd with
  | none => simp [hf] at h1
  | some f =>
    simp only [hf] at h1
    obtain ⟨j, hj, h2⟩ := lk_cases h1
    clear h1
    cases x <;> simp only at h2
    rename_i cs
    obtain ⟨fs, hfs, hn⟩ := fields_get hf
    obtain ⟨v, hr, hk⟩ := part_run hT hj cs f.offset h2
    refine ⟨v, fun w => ?_, hk⟩
    simp only [Instr.field, Sem.run_bind, hT.runUnd hi, hfs, Result.andThen_ok, hn, asAgg, Sem.run_pure]
    exact hr w
theorem nilW_def {p : Option Addr} {F : Nat → Nat → Prop} (h : nilW p F) : ∃ b o, p = some ⟨b, o, none⟩ ∧ F b o := by
  unfold nilW at h
  split at h
  · rename_i b o; exact ⟨b, o, rfl, h⟩
  · exact h.elim
theorem nilW_mk {b o : Nat} {F : Nat → Nat → Prop} (h : F b o) : nilW (some ⟨b, o, none⟩) F := h
theorem indexAddr_run (hT : TabOk P T) {t : TypeId} {x ix : Value} {K : Value → Prop} (h : indexAddrW T t x ix K) : ∃ v, (∀ w, (Instr.indexAt t x ix).run P w = .ok v w) ∧ K v := by
  unfold indexAddrW at h
  obtain ⟨i, hi, h⟩ := lk_cases h
  split at h <;> try exact h.elim
  rename_i k n
  cases hd : i.desc <;> simp only [hd] at h <;> try exact h.elim
  case slice e =>
    obtain ⟨j, hj, h⟩ := lk_cases h
    split at h <;> try exact h.elim
    rename_i p len c
    obtain ⟨h0, h1, h⟩ := h
    obtain ⟨b, o, rfl, h⟩ := nilW_def h
    refine ⟨_, fun w => ?_, h⟩
    simp only [Instr.indexAt, Sem.run_bind, asIntOf, Sem.run_pure, Result.andThen_ok, hT.runUnd hi, hd, h0, h1, and_self, if_true, hT.runSize hj, Addr.add_mid]
  case array len e =>
    obtain ⟨j, hj, h⟩ := lk_cases h
    split at h <;> try exact h.elim
    rename_i b o
    obtain ⟨h0, h1, h⟩ := h
    refine ⟨_, fun w => ?_, h⟩
    simp only [Instr.indexAt, Sem.run_bind, asIntOf, Sem.run_pure, Result.andThen_ok, hT.runUnd hi, hd, h0, h1, and_self, if_true, hT.runSize hj, Addr.add_mid, Instr.sureAddr, Sem.run_map]

theorem index_run (hT : TabOk P T) {t : TypeId} {x ix : Value} {K : Value → Prop} (h : indexW T t x ix K) : ∃ v, (∀ w, (Instr.index t x ix).run P w = .ok v w) ∧ K v := by
  unfold indexW at h
  obtain ⟨i, hi, h1⟩ := lk_cases h
  clear h
  cases ix <;> simp only at h1
  rename_i k n
  cases hd : i.desc <;> simp only [hd] at h1
  case string =>
    cases x <;> simp only at h1
    rename_i s
    obtain ⟨h0, c, hc, h⟩ := h1
    refine ⟨_, fun w => ?_, h⟩
    have hlt : n.toNat < s.size := by
      rcases Nat.lt_or_ge n.toNat s.size with h | h
      · exact h
      · have : s.data.toList.length = s.size := by rw [Array.length_toList]; rfl
        rw [List.getElem?_eq_none (by omega)] at hc; cases hc
    have hg : s[n.toNat]? = some c := by
      rw [getElem?_pos s n.toNat hlt]
      congr 1
      have : s.data.toList[n.toNat]? = some s[n.toNat] := by
        rw [Array.getElem?_toList]
        exact Array.getElem?_eq_getElem (by exact hlt)
      rw [this] at hc
      exact Option.some.inj hc
    simp only [Instr.index, Sem.run_bind, asIntOf, Sem.run_pure, Result.andThen_ok, hT.runUnd hi, hd, h0, if_true, hg]
  case array len e =>
    obtain ⟨j, hj, h2⟩ := lk_cases h1
    clear h1
    cases x <;> simp only at h2
    rename_i cs
    cases hr : isRow j.desc with
    | true => simp [hr] at h2
    | false =>
      simp only [hr, cond_false] at h2
      obtain ⟨h0, h1, hs, h⟩ := h2
      obtain ⟨v, hv, h⟩ := exR h
      refine ⟨v, fun w => ?_, h⟩
      simp only [Instr.index, Sem.run_bind, asIntOf, Sem.run_pure, Result.andThen_ok, hT.runUnd hi, hd, h0, h1, and_self, if_true, hT.runSize hj, hs, Nat.mul_one, part, hT.runAgg hj, hr]
      have : cs[n.toNat]? = some v := by simpa using hv
      simp [this]

theorem bnd_def {x : Option Value} {d : Nat} {F : Nat → Prop} (h : bnd x d F) : (x = none ∧ F d) ∨ ∃ k n, x = some (.int k n) ∧ 0 ≤ n ∧ F n.toNat := by
  unfold bnd at h
  split at h
  · exact .inl ⟨rfl, h⟩
  · rename_i k n; exact .inr ⟨k, n, rfl, h.1, h.2⟩
  · exact h.elim
theorem bounds_run (isS : Bool) (len cap : Nat) {lo hi : Option Value} {F : Nat → Nat → Prop} (h : bnd lo 0 fun l => bnd hi len fun m => l ≤ m ∧ m ≤ cap ∧ F l m) :
    ∃ l m, (∀ w, (Instr.sliceBounds isS len cap lo hi none).run P w = .ok (l, m, cap) w) ∧ l ≤ m ∧ m ≤ cap ∧ F l m := by
  rcases bnd_def h with ⟨e, g⟩ | ⟨k, n, e, hn, g⟩ <;> rcases bnd_def g with ⟨e', h1, h2, g'⟩ | ⟨k', n', e', hn', h1, h2, g'⟩ <;> subst e e'
  · exact ⟨0, len, fun w => by simp [Instr.sliceBounds], h1, h2, g'⟩
  · refine ⟨0, n'.toNat, fun w => ?_, h1, h2, g'⟩
    simp [Instr.sliceBounds, run_sliceBound w k' n' cap _ hn' (by omega)]
  · refine ⟨n.toNat, len, fun w => ?_, h1, h2, g'⟩
    simp [Instr.sliceBounds, run_sliceBound w k n len _ hn (by omega)]
  · refine ⟨n.toNat, n'.toNat, fun w => ?_, h1, h2, g'⟩
    simp [Instr.sliceBounds, run_sliceBound w k' n' cap _ hn' (by omega), run_sliceBound w k n n'.toNat _ hn (by omega)]

theorem slice_run (hT : TabOk P T) {t : TypeId} {x : Value} {lo hi : Option Value} {K : Value → Prop} (h : sliceW T t x lo hi K) : ∃ v, (∀ w, (Instr.sliceAt t x lo hi none).run P w = .ok v w) ∧ K v := by
  unfold sliceW at h
  obtain ⟨i, hi', h1⟩ := lk_cases h
  clear h
  cases hd : i.desc <;> simp only [hd] at h1
  case string =>
    cases x <;> simp only at h1
    rename_i s
    obtain ⟨l, m, hr, h1, h2, h⟩ := bounds_run (P := P) false s.size s.size h1
    refine ⟨_, fun w => ?_, h⟩
    simp only [Instr.sliceAt, Sem.run_bind, hT.runUnd hi', hd, Result.andThen_ok, Instr.slice]
    simp [hr w]
  case slice e =>
    obtain ⟨j, hj, h2⟩ := lk_cases h1
    clear h1
    cases x <;> simp only at h2
    rename_i p n c
    obtain ⟨l, m, hr, h1, h3, h⟩ := bounds_run (P := P) true n c h2
    cases hz : Nat.ble 1 j.size with
    | false => simp [hz] at h
    | true =>
    simp only [hz, cond_true] at h
    have hz' : 1 ≤ j.size := Nat.le_of_ble_eq_true hz
    refine ⟨_, fun w => ?_, h (if c = l then p else p.map (·.add (l * j.size))) ?_ ?_⟩
    · simp only [Instr.sliceAt, Sem.run_bind, hT.runUnd hi', hd, Result.andThen_ok, Instr.slice, hr w, hT.runSize hj, Sem.run_pure]
    · intro h0 hl
      rw [if_neg (by omega)]
      have : l * j.size ≠ 0 := fun e => by rcases Nat.mul_eq_zero.1 e with e | e <;> omega
      rcases p with _ | ⟨b, o, s⟩
      · rfl
      · simp [shiftP, Addr.add, this]
    · intro hl
      subst hl
      split
      · rfl
      · cases p <;> simp [Addr.add]
  case array n e =>
    obtain ⟨j, hj, h2⟩ := lk_cases h1
    clear h1
    split at h2 <;> try exact h2.elim
    rename_i b o
    obtain ⟨l, m, hr, h1, h3, h⟩ := bounds_run (P := P) false n n h2
    cases hz : Nat.ble 1 j.size with
    | false => simp [hz] at h
    | true =>
    simp only [hz, cond_true] at h
    refine ⟨_, fun w => ?_, h (some (if n = l then ⟨b, o, none⟩ else (⟨b, o, none⟩ : Addr).add (l * j.size))) ?_ ?_⟩
    · simp only [Instr.sliceAt, Sem.run_bind, hT.runUnd hi', hd, Result.andThen_ok, Instr.sureAddr, Sem.run_pure, hr w, hT.runSize hj]
    · intro hl
      rw [if_neg (by omega), Addr.add_mid]
    · intro hl
      subst hl
      split
      · rfl
      · simp [Addr.add]

theorem bytes_of {w : World} {p : Option Addr} {n : Nat} {s : ByteArray} (h : BytesAt w p n s) {src dst e : TypeId} (hs : P.underlying src = some (.slice e)) (he : P.underlying e = some (.int .u8)) (hd : P.underlying dst = some .string) (c : Nat) :
    (convert src dst (.slice p n c)).run P w = .ok (.string s) w := by
  obtain ⟨hl, h⟩ := h
  rcases n with _ | n
  · have hs0 : s = ByteArray.empty := by
      cases s with | mk d => simp [ByteArray.size] at hl; subst hl; rfl
    subst hs0
    cases p with
    | none => exact run_convert_bytes_nil w src e hs he 0 c dst hd
    | some a =>
      rw [run_convert_bytes_string w src dst e _ 0 c hs he hd]
      simp [Conv.bytesToString, loadCells, loadCellsFrom]
  · obtain ⟨b, o, rfl, _⟩ := nilW_def (h 0 (by omega))
    rw [run_convert_bytes_arg w src e hs he b o (n + 1) c (s.data.toList.map fun x => (x.toNat : Int)) (by simp; exact hl) (fun j hj => by
      have h1 : w.cell? ⟨b, o + j, none⟩ = some (.int .u8 ((s.data.toList.getD j 0).toNat : Int)) := h j hj
      have hjl : j < s.data.size := by have : s.data.size = s.size := rfl; omega
      rw [h1]
      simp [List.getD, Array.getElem?_eq_getElem hjl]) dst hd]
    congr 2
    simp only [strOfNums, List.map_map]
    have : ((fun n : Int => UInt8.ofNat n.toNat) ∘ fun x : UInt8 => (x.toNat : Int)) = id := by funext x; simp
    rw [this, List.map_id]

theorem convQ_run (hT : TabOk P T) {src dst : TypeId} {x : Value} {C : Ctx} {K : Value → Prop} (h : convQ T src dst x C K) : ∃ v, (∀ w, Sat C w → (convert src dst x).run P w = .ok v w) ∧ K v := by
  unfold convQ at h
  cases hi : lk T src with
  | none => simp [hi] at h
  | some i =>
  cases hj : lk T dst with
  | none => simp [hi, hj] at h
  | some j =>
  simp only [hi, hj] at h
  cases x <;> simp only at h
  case int k n =>
    cases hd : j.desc <;> simp only [hd] at h
    rename_i k'
    refine ⟨_, fun w _ => ?_, h⟩
    have hu : P.underlying dst = some (.int k') := by rw [hT.und hj, hd]
    simp only [convert, Sem.run_bind, hT.runUnd hi, run_underlying hu, Result.andThen_ok]
    cases i.desc <;> rfl
  case string s =>
    cases hd : j.desc <;> simp only [hd] at h
    refine ⟨_, fun w _ => ?_, h⟩
    have hu : P.underlying dst = some .string := by rw [hT.und hj, hd]
    simp only [convert, Sem.run_bind, hT.runUnd hi, run_underlying hu, Result.andThen_ok]
    cases i.desc <;> rfl
  case slice p n c =>
    cases hd : i.desc <;> simp only [hd] at h
    rename_i e
    cases hd' : j.desc <;> simp only [hd'] at h
    obtain ⟨u, hu, h1⟩ := lk_cases h
    clear h
    cases hdu : u.desc <;> simp only [hdu] at h1
    rename_i k
    cases k <;> simp only at h1
    obtain ⟨s, hb, h1⟩ := h1
    exact ⟨_, fun w hw => bytes_of (hw _ hb) (by rw [hT.und hi, hd]) (by rw [hT.und hu, hdu]) (by rw [hT.und hj, hd']) c, h1⟩
theorem isB_def (hT : TabOk P T) {dst : TypeId} {e : TypeId} (h : isB T dst = some e) : P.underlying dst = some (.slice e) ∧ P.underlying e = some (.int .u8) := by
  unfold isB at h
  cases hj : lk T dst with
  | none => simp [hj] at h
  | some j =>
    simp only [hj] at h
    cases hd : j.desc <;> simp only [hd] at h <;> try (cases h; done)
    rename_i e'
    cases hu : lk T e' with
    | none => simp [hu] at h
    | some u =>
      simp only [hu] at h
      cases hdu : u.desc <;> simp only [hdu] at h <;> try (cases h; done)
      rename_i k
      cases k <;> simp only at h <;> try (cases h; done)
      cases h
      exact ⟨by rw [hT.und hj, hd], by rw [hT.und hu, hdu]⟩
theorem convB_run (hT : TabOk P T) {src dst : TypeId} {x : Value} {w : World} {K : Value → World → Prop} (h : convB T src dst x w K) : ∃ v w', (convert src dst x).run P w = .ok v w' ∧ K v w' := by
  unfold convB at h
  split at h <;> try exact h.elim
  rename_i i e s hi he
  cases hs : isStr i.desc with
  | false => simp [hs] at h
  | true =>
  simp only [hs, cond_true] at h
  obtain ⟨h1, h2⟩ := isB_def hT he
  have h3 : P.underlying src = some .string := by rw [hT.und hi]; cases hd : i.desc <;> simp_all [isStr]
  exact ⟨_, _, Lib.run_convert_string_bytes w src dst e s h3 h1 h2, h _ _ _ rfl rfl rfl⟩

/-! build -/
theorem splice_len : ∀ (cs : List Value) (o : Nat) (d : List Value), (splice cs o d).length = cs.length
  | cs, 0, [] => by cases cs <;> simp [splice]
  | [], 0, _ :: _ => by simp [splice]
  | [], o + 1, _ => by simp [splice]
  | _ :: cs, 0, v :: d => by simp [splice, splice_len cs 0 d]
  | c :: cs, o + 1, d => by simp [splice, splice_len cs o d]
theorem splice_cons (cs : List Value) (o : Nat) (v : Value) (d : List Value) : splice cs o (v :: d) = splice (cs.set o v) (o + 1) d := by
  induction cs generalizing o with
  | nil => cases o <;> simp [splice]
  | cons c cs ih =>
    cases o with
    | zero => cases d <;> simp [splice]
    | succ o => simp [splice, ih]
theorem splice_nil (cs : List Value) (o : Nat) : splice cs o [] = cs := by
  induction cs generalizing o with
  | nil => cases o <;> simp [splice]
  | cons c cs ih => cases o <;> simp [splice, ih]
theorem fold_splice (off : Nat) : ∀ (d : List Value) (j : Nat) (cells : Array Value),
    ((d.zipIdx j).foldl (fun cs (p : Value × Nat) => cs.setIfInBounds (off + p.2) p.1) cells).toList = splice cells.toList (off + j) d
  | [], j, cells => by simp [splice_nil]
  | v :: d, j, cells => by
    simp only [List.zipIdx_cons, List.foldl_cons]
    rw [fold_splice off d (j + 1), splice_cons]
    simp [Nat.add_assoc]
theorem fill_one (place : Nat → Option (Nat × Nat)) (cells : Array Value) (n off size : Nat) (v : Value) (cs : List Value) (r : List (Nat × Value))
    (hp : place n = some (off, size)) (hv : v.cells = cs.toArray) (hs : cs.length = size) (hfit : off + size ≤ cells.size) :
    Instr.fill place cells ((n, v) :: r) = Instr.fill place (splice cells.toList off cs).toArray r := by
  have hz : v.cells.size = size := by rw [hv]; simpa using hs
  have key : v.cells.zipIdx.foldl (fun (acc : Array Value) (x : Value × Nat) => acc.setIfInBounds (off + x.2) x.1) cells = (splice cells.toList off cs).toArray := by
    apply Array.toList_inj.1
    rw [hv, ← Array.foldl_toList]
    have := fold_splice off cs 0 cells
    simpa [Array.toList_zipIdx] using this
  simp only [Instr.fill, hp]
  rw [if_neg (by simp [hz]; omega)]
  exact congrArg (fun c => Instr.fill place c r) key

theorem partAt_def {t : TypeId} {N o : Nat} {v : Value} {d : List (Nat × List Value)} {F : List (Nat × List Value) → Prop} (h : partAt T t N o v d F) :
    ∃ j cs, lk T t = some j ∧ v.cells = cs.toArray ∧ cs.length = j.size ∧ o + j.size ≤ N ∧ F ((o, cs) :: d) := by
  unfold partAt at h
  obtain ⟨j, hj, h1⟩ := lk_cases h
  clear h
  cases hb : Nat.ble (o + j.size) N with
  | false => simp [hb] at h1
  | true =>
    simp only [hb, cond_true] at h1
    cases hc : cellsI j v with
    | none => simp [hc] at h1
    | some cs =>
      simp only [hc] at h1
      obtain ⟨hl, hF⟩ := lenW_def h1
      exact ⟨j, cs, hj, cellsI_eq hc, hl, Nat.le_of_ble_eq_true hb, hF⟩

/-- what 'fill' does with the parts -/
theorem fill_parts {i : TI} {N : Nat} (place : Nat → Option (Nat × Nat))
    (hs : ∀ n f, (∃ fs, i.desc = .struct fs) → nthF (fields i) n = some f → ∀ j, lk T f.type = some j → place n = some (f.offset, j.size))
    (ha : ∀ n e, ((∃ m, i.desc = .array m e) ∨ i.desc = .slice e) → ∀ j, lk T e = some j → place n = some (n * j.size, j.size)) :
    ∀ (parts : List (Nat × Value)) (F : List (Nat × List Value) → Prop), partsW T i N parts F →
      ∃ ps, F ps ∧ ∀ cells : List Value, cells.length = N → Instr.fill place cells.toArray parts = some (spl cells ps).toArray
  | [], F, h => ⟨[], h, fun _ _ => rfl⟩
  | (n, v) :: r, F, h => by
    simp only [partsW] at h
    obtain ⟨d, hd, hfill⟩ := fill_parts place hs ha r _ h
    have key : ∀ (t : TypeId) (o : Nat), partAt T t N o v d F → (∀ j, lk T t = some j → place n = some (o, j.size)) →
        ∃ ps, F ps ∧ ∀ cells : List Value, cells.length = N → Instr.fill place cells.toArray ((n, v) :: r) = some (spl cells ps).toArray := by
      intro t o hp hpl
      obtain ⟨j, cs, hj, hv, hl, hN, hF⟩ := partAt_def hp
      refine ⟨_, hF, fun cells hc => ?_⟩
      rw [fill_one place cells.toArray n o j.size v cs r (hpl j hj) hv hl (by simp; omega), hfill _ (by simp [splice_len, hc])]
      rfl
    cases hde : i.desc <;> simp only [hde] at hd
    case struct fs =>
      cases hf : nthF (fields i) n with
      | none => simp [hf] at hd
      | some f => simp only [hf] at hd; exact key _ _ hd (hs n f ⟨fs, hde⟩ hf)
    case array m e =>
      obtain ⟨j, hj, hd⟩ := lk_cases hd
      exact key _ _ hd (fun j' hj' => by rw [hj] at hj'; cases hj'; exact ha n e (.inl ⟨m, hde⟩) j hj)
    case slice e =>
      obtain ⟨j, hj, hd⟩ := lk_cases hd
      exact key _ _ hd (fun j' hj' => by rw [hj] at hj'; cases hj'; exact ha n e (.inr hde) j hj)

theorem run_mapM_list {α β : Type} (g : α → Sem β) (h : α → β) (w : World) : ∀ (l : List α), (∀ x ∈ l, (g x).run P w = .ok (h x) w) → (l.mapM g).run P w = .ok (l.map h) w
  | [], _ => by simp
  | x :: r, hx => by
    simp only [List.mapM_cons, Sem.run_bind, hx x (by simp), Result.andThen_ok, run_mapM_list g h w r (fun y hy => hx y (by simp [hy])), Sem.run_pure, List.map_cons]
theorem build_run (hT : TabOk P T) {t : TypeId} {parts : List (Nat × Value)} {K : Value → Prop} (h : buildW T t parts K) :
    ∃ v, (∀ w, (Instr.build t parts.toArray).run P w = .ok v w) ∧ K v := by
  unfold buildW at h
  obtain ⟨i, hi, h1⟩ := lk_cases h
  clear h
  cases hr : bOk T i with
  | false => simp only [hr, cond_false] at h1
  | true =>
    simp only [hr, cond_true] at h1
    have hzl : i.zero.cells.toList.length = i.size := by rw [Array.length_toList]; exact (hT t i hi).2.2.2
    unfold bOk at hr
    cases hd : i.desc <;> simp only [hd] at hr <;> try (cases hr; done)
    case struct fs =>
      have hpl : ∀ (w : World), ∀ f ∈ fs.toList, (do pure (f.offset, ← sizeOf f.type) : Sem (Nat × Nat)).run P w = .ok (f.offset, match lk T f.type with | some j => j.size | none => 0) w := by
        intro w f hf
        have := List.all_eq_true.1 hr f hf
        cases hj : lk T f.type with
        | none => simp [hj] at this
        | some j => simp only [Sem.run_bind, hT.runSize hj, Result.andThen_ok, Sem.run_pure, hj]
      obtain ⟨ps, hF, hfill⟩ := fill_parts (T := T) (i := i) (N := i.size) (fun n => (fs.map fun f => (f.offset, match lk T f.type with | some j => j.size | none => 0))[n]?)
        (fun n f _ hn j hj => by
          obtain ⟨fs', hfs', hg⟩ := fields_get hn
          rw [hd] at hfs'; cases hfs'
          simp [hg, hj])
        (fun n e he => by rcases he with ⟨m, he⟩ | he <;> rw [hd] at he <;> cases he) parts _ h1
      refine ⟨_, fun w => ?_, hF⟩
      have := hfill _ hzl
      simp only [Instr.build, Sem.run_bind, hT.runZero hi, Result.andThen_ok, hT.runUnd hi, hd, Array.mapM_eq_mapM_toList, run_mapM_list _ _ w _ (hpl w), Sem.run_pure, Sem.run_map]
      simp only [← Array.toList_map, Array.toArray_toList] at this ⊢
      rw [this]
      rfl
    case array m e =>
      cases hj : lk T e with
      | none => simp [hj] at hr
      | some j =>
      obtain ⟨ps, hF, hfill⟩ := fill_parts (T := T) (i := i) (N := i.size) (fun n => some (n * j.size, j.size))
        (fun n f hx => by obtain ⟨fs, hx⟩ := hx; rw [hd] at hx; cases hx)
        (fun n e' he j' hj' => by rcases he with ⟨m, he⟩ | he <;> rw [hd] at he <;> cases he; rw [hj] at hj'; cases hj'; rfl) parts _ h1
      refine ⟨_, fun w => ?_, hF⟩
      have := hfill _ hzl
      simp only [Instr.build, Sem.run_bind, hT.runZero hi, Result.andThen_ok, hT.runUnd hi, hd, hT.runSize hj]
      simp only [Array.toArray_toList] at this ⊢
      rw [this]
      rfl

theorem reps_eq (n : Nat) (z : List Value) (hz : z ≠ []) : (Array.range (n * z.length)).map (fun i => z.toArray[i % z.toArray.size]!) = (reps n z).toArray := by
  apply Array.toList_inj.1
  have hz' : 0 < z.length := List.length_pos_iff.2 hz
  apply List.ext_getElem?
  intro k
  induction n generalizing k with
  | zero => simp [reps]
  | succ n ih =>
    simp only [reps]
    rcases Nat.lt_or_ge k z.length with hk | hk
    · have h1 : k < (n + 1) * z.length := by rw [Nat.succ_mul]; omega
      simp [h1, List.getElem?_append, hk, Nat.mod_eq_of_lt hk]
    · have := ih (k - z.length)
      rw [List.getElem?_append_right hk]
      rw [← this]
      have hmod : k % z.length = (k - z.length) % z.length := Nat.mod_eq_sub_mod hk
      rcases Nat.lt_or_ge k ((n + 1) * z.length) with h1 | h1
      · have h2 : k - z.length < n * z.length := by rw [Nat.succ_mul] at h1; omega
        simp [h1, h2, hmod]
      · have h2 : n * z.length ≤ k - z.length := by rw [Nat.succ_mul] at h1; omega
        rw [List.getElem?_eq_none (by simpa using h1), List.getElem?_eq_none (by simpa using h2)]
theorem reps_nil : ∀ n, reps n [] = []
  | 0 => rfl
  | n + 1 => by simp [reps, reps_nil n]
theorem alloc_run (w : World) (t : TypeId) (v : Value) : (newVar t v).run P w = .ok ⟨w.heap.size, 0, none⟩ (w.alloc (.cells v.cells t)) := by
  simp [newVar, newRow]
theorem buildSlice_run (hT : TabOk P T) {t : TypeId} {len : Nat} {parts : List (Nat × Value)} {w : World} {K : Value → World → Prop} (h : buildSliceW T t len parts w K) :
    ∃ v w', (Instr.buildSlice t len parts.toArray).run P w = .ok v w' ∧ K v w' := by
  unfold buildSliceW at h
  obtain ⟨i, hi, h1⟩ := lk_cases h
  clear h
  cases hd : i.desc <;> simp only [hd] at h1
  rename_i e
  obtain ⟨j, hj, h2⟩ := lk_cases h1
  clear h1
  cases hb : Nat.ble (len * j.size) 65536 with
  | false => simp [hb] at h2
  | true =>
    simp only [hb, cond_true] at h2
    have hle := Nat.le_of_ble_eq_true hb
    have hzs : j.zero.cells.size = j.size := (hT e j hj).2.2.2
    obtain ⟨ps, hF, hfill⟩ := fill_parts (T := T) (i := i) (N := len * j.size) (fun n => some (n * j.size, j.size))
      (fun n f hx => by obtain ⟨fs, hx⟩ := hx; rw [hd] at hx; cases hx)
      (fun n e' he j' hj' => by rcases he with ⟨m, he⟩ | he <;> rw [hd] at he <;> cases he; rw [hj] at hj'; cases hj'; rfl) parts _ h2
    refine ⟨_, _, ?_, hF _ _ rfl rfl⟩
    have hl0 : ¬ (len * j.size > 2 ^ 24) := by omega
    simp only [Instr.buildSlice, Sem.run_bind, hT.runUnd hi, hd, Result.andThen_ok, hT.runSize hj, hl0, if_false, Sem.run_pure]
    by_cases h0 : len * j.size = 0
    · have hr0 : reps len j.zero.cells.toList = [] := by
        rcases Nat.mul_eq_zero.1 h0 with e | e
        · subst e; rfl
        · have : j.zero.cells.toList = [] := by apply List.length_eq_zero_iff.1; rw [Array.length_toList]; omega
          rw [this]; exact reps_nil len
      have := hfill [] (by simp [h0])
      rw [hr0]
      simp only [h0, if_true, Sem.run_pure, Result.andThen_ok, Array.range_zero', List.map_toArray, List.map_nil, this, newRow, Sem.run_map, Sem.run_bind]
      rfl
    · have hne : j.zero.cells.toList ≠ [] := fun e => by
        have : j.zero.cells.toList.length = 0 := by rw [e]; rfl
        rw [Array.length_toList] at this
        apply h0; rw [← hzs, this, Nat.mul_zero]
      have hrow := reps_eq len j.zero.cells.toList hne
      rw [Array.length_toList, hzs, Array.toArray_toList] at hrow
      have hrl : (reps len j.zero.cells.toList).length = len * j.size := by
        have := congrArg Array.size hrow
        simpa using this.symm
      have := hfill _ hrl
      simp only [h0, if_false, hT.runZero hj, Sem.run_map, Sem.run_pure, Result.andThen_ok, hzs, hrow, this, newRow, Sem.run_bind]
      rfl

/-! ### One operation -/
theorem callFunc_run {h : FuncId} (hf : FnOk P h) (args : Array Value) (w : World) : (callFunc h args).run P w = .ok (.enter h args) w := by
  obtain ⟨fn, h1, h2, h3⟩ := hf
  simp only [callFunc, Sem.run_bind, run_program, Result.andThen_ok, h1, h2, h3, Bool.false_eq_true, if_false, Sem.run_pure]
theorem calls_next {o : Oper} {a : Act} {h : FuncId} {args : List Value} {w : World} {ty : TypeId} {K : Value → World → Prop} {next : Act → World → Prop} {Q : Exit → Act → World → Prop}
    (hr : (execOp a.eval o).run P w = .ok (.enter h args.toArray) w) (hc : CallW P T ty h args w K) (hn : ∀ v w', K v w' → next (a.put o.dst v) w') : o.wp P a w next Q := by
  unfold Oper.wp
  rw [hr, Oper.upon_enter]
  refine hc.mono fun e w' he => ?_
  obtain ⟨v, rfl, hk⟩ := exR he
  exact hn v w' hk

theorem hd0 {l : Array TypeId} {t : TypeId} {r : List TypeId} (h : l.toList = t :: r) : l[0]? = some t := by
  rw [← Array.getElem?_toList, h]; rfl
theorem bltQ_run (hT : TabOk P T) {b : Builtin} {argTypes : Array TypeId} {ty : TypeId} {args : List Value} {C : Ctx} {K : Value → Prop} {cs : Array Bool}
    (h : bltQ T b argTypes args C K) : ∃ v, (∀ w, Sat C w → (builtin b argTypes ty cs args.toArray).run P w = .ok (.value v) w) ∧ K v := by
  cases b <;> simp only [bltQ] at h
  case len =>
    split at h <;> try exact h.elim
    rename_i t r hl
    split at h <;> try exact h.elim
    · obtain ⟨i, hi, hd, h⟩ := dsc_def h
      refine ⟨_, fun w _ => ?_, h⟩
      have hu : P.underlying t = some .string := by rw [hT.und hi]; cases hdd : i.desc <;> simp_all [isStr]
      simp [builtin, Builtin.len_, hd0 hl, run_underlying hu, goInt]
    · obtain ⟨i, hi, hd, h⟩ := dsc_def h
      refine ⟨_, fun w _ => ?_, h⟩
      obtain ⟨e, hu⟩ : ∃ e, P.underlying t = some (.slice e) := by rw [hT.und hi]; cases hdd : i.desc <;> simp_all [isSl]
      simp [builtin, Builtin.len_, hd0 hl, run_underlying hu, goInt]
    · rename_i m
      obtain ⟨i, hi, hd, h⟩ := dsc_def h
      obtain ⟨e, e2, hu⟩ : ∃ e e2, P.underlying t = some (.map e e2) := by rw [hT.und hi]; cases hdd : i.desc <;> simp_all [isMap]
      obtain ⟨n, hg, h⟩ := h
      refine ⟨_, fun w hw => ?_, h⟩
      have hg' : MapLen w m n := hw _ hg
      cases m with
      | none => cases hg'; simp [builtin, Builtin.len_, hd0 hl, run_underlying hu, goInt]
      | some r =>
        obtain ⟨es, ck, hg', rfl⟩ := hg'
        simp [builtin, Builtin.len_, hd0 hl, run_underlying hu, goInt, getObj, Sem.run, hg']
  case cap =>
    split at h <;> try exact h.elim
    rename_i t r hl
    split at h <;> try exact h.elim
    obtain ⟨i, hi, hd, h⟩ := dsc_def h
    refine ⟨_, fun w _ => ?_, h⟩
    obtain ⟨e, hu⟩ : ∃ e, P.underlying t = some (.slice e) := by rw [hT.und hi]; cases hdd : i.desc <;> simp_all [isSl]
    simp [builtin, Builtin.cap_, hd0 hl, run_underlying hu, goInt]
  case min =>
    split at h <;> try exact h.elim
    exact ⟨_, fun w _ => by simp [builtin, Builtin.min_, Builtin.min2], h⟩
  case max =>
    split at h <;> try exact h.elim
    exact ⟨_, fun w _ => by simp [builtin, Builtin.max_, Builtin.max2], h⟩
theorem bltW_run (hT : TabOk P T) {b : Builtin} {argTypes : Array TypeId} {ty : TypeId} {args : List Value} {w : World} {K : Value → World → Prop} {cs : Array Bool}
    (h : bltW P b argTypes ty args w K) : ∃ v w', (builtin b argTypes ty cs args.toArray).run P w = .ok (.value v) w' ∧ K v w' := by
  cases b <;> simp only [bltW] at h
  case append =>
    obtain ⟨p, n, c, w1, hr, h⟩ := h
    exact ⟨_, w1, by simp [builtin, hr], h⟩
  case copy =>
    obtain ⟨n, w1, hr, h⟩ := h
    exact ⟨_, w1, by simp [builtin, hr], h⟩
  case delete =>
    obtain ⟨w1, hr, h⟩ := h
    exact ⟨_, w1, by simp [builtin, hr], h⟩

theorem binC_run (hT : TabOk P T) {op : BinOp} {t : TypeId} {x y : Value} {C : Ctx} {K : Value → Prop} (o p : Operand) (hq : ∀ c, p = .const c → y = c) (h : binC P T op t p x y C K) :
    ∃ v, (∀ w, Sat C w → (do eqGuard op t o p x y; binOp op t x y).run P w = .ok v w) ∧ K v := by
  unfold binC at h
  split at h
  · have := hq _ rfl
    subst this
    obtain ⟨b, hb, h⟩ := h
    have hx : ∀ o : BinOp, o = .eql → binOp o t x .nilIface = (do pure (.bool (← Op.equal t x .nilIface))) := by
      rintro _ rfl; cases x <;> first | rfl | (rename_i x; cases x <;> rfl)
    have hy : ∀ o : BinOp, o = .neq → binOp o t x .nilIface = (do pure (.bool (!(← Op.equal t x .nilIface)))) := by
      rintro _ rfl; cases x <;> first | rfl | (rename_i x; cases x <;> rfl)
    cases op <;> simp only [eqn] at h <;> try exact h.elim
    case eql => exact ⟨_, fun w hw => by have := hw _ hb; rw [Sem.run_bind, (this.1 o).1, hx _ rfl]; simp [this.2], h⟩
    case neq => exact ⟨_, fun w hw => by have := hw _ hb; rw [Sem.run_bind, (this.1 o).2, hy _ rfl]; simp [this.2], h⟩
  · exact binW_run hT h o p
theorem pk_eq (t : Bool) (x y : Value) : pk t x y = if t then x else y := by cases x <;> cases y <;> cases t <;> rfl
theorem evs_map {a : Act} {f : Fr} (he : a.eval = ev f) (xs : Array Operand) : xs.map a.eval = (evs f xs).toArray := by
  rw [he]; apply Array.toList_inj.1; simp [evs]
theorem opV_run (hT : TabOk P T) {fok : Env} {o : Oper} {f : Fr} {C : Ctx} {K : Value → Prop} (h : opV P T fok o f C K) :
    ∃ v, (∀ w, Sat C w → (execOp (ev f) o).run P w = .ok (.value v) w) ∧ K v := by
  have val : ∀ {s : Sem Value} {v : Value}, execOp (ev f) o = (do pure (.value (← s))) → (∀ w, Sat C w → s.run P w = .ok v w) → K v → ∃ v, (∀ w, Sat C w → (execOp (ev f) o).run P w = .ok (.value v) w) ∧ K v := fun {s v} hx hr hk =>
    ⟨v, fun w hw => by rw [hx]; simp [hr w hw], hk⟩
  unfold opV at h
  cases hop : o.op <;> simp only [hop] at h
  case move x => exact ⟨_, fun w _ => by simp only [execOp, hop, Sem.run_pure], h⟩
  case assign x => exact ⟨_, fun w _ => by simp only [execOp, hop, Sem.run_pure], h⟩
  case pick c x y =>
    cases hc : ev f c <;> simp only [hc] at h
    rename_i t
    exact ⟨_, fun w _ => by simp only [execOp, hop, hc, asBool, Sem.run_bind, Sem.run_pure, Result.andThen_ok, pk_eq], h⟩
  case binOp op t x y ty =>
    obtain ⟨v, hr, hk⟩ := binC_run hT x y (by rintro c rfl; rfl) h
    exact val (by simp only [execOp, hop]) hr hk
  case unOp op ty x =>
    split at h
    · rename_i hx; exact val (s := Op.unary .not (ev f x)) (by simp only [execOp, hop]) (fun w _ => by rw [hx]; rfl) h
    · rename_i hx; exact val (s := Op.unary .neg (ev f x)) (by simp only [execOp, hop]) (fun w _ => by rw [hx]; rfl) h
    · rename_i hx; exact val (s := Op.unary .xor (ev f x)) (by simp only [execOp, hop]) (fun w _ => by rw [hx]; rfl) h
    · exact h.elim
  case build t ps =>
    obtain ⟨v, hr, hk⟩ := build_run hT h
    refine val (s := Instr.build t (ps.map fun (i, x) => (i, ev f x))) (by simp only [execOp, hop]) (fun w _ => ?_) hk
    rw [← hr w]; congr 2
    apply Array.toList_inj.1; simp
  case load t x =>
    split at h <;> try exact h.elim
    rename_i b o' hx
    obtain ⟨v, hr, hk⟩ := loadW_run hT h
    exact val (s := Instr.loadAt t (ev f x)) (by simp only [execOp, hop]) (fun w hw => by simp only [hx, Instr.loadAt, Instr.sureAddr, Sem.run_bind, Sem.run_pure, Result.andThen_ok, hr w hw]) hk
  case nilCheck x =>
    cases hx : ev f x <;> simp only [hx] at h <;> try exact h.elim
    · obtain ⟨b, o', hp, hk⟩ := nilW_def h
      subst hp
      exact ⟨_, fun w _ => by simp [execOp, hop, hx], hk⟩
    · rename_i fn first cap
      cases fn <;> simp only at h
      exact ⟨_, fun w _ => by simp [execOp, hop, hx], h⟩
  case convert s d x =>
    obtain ⟨v, hr, hk⟩ := convQ_run hT h
    exact val (by simp only [execOp, hop]) hr hk
  case makeFunc fn x y =>
    exact val (s := Instr.makeFunc fn (x.map (ev f)) (y.map (ev f))) (by simp only [execOp, hop]) (fun _ _ => rfl) h
  case slice t x lo hi mx =>
    cases mx <;> simp only at h
    obtain ⟨v, hr, hk⟩ := slice_run hT h
    exact val (by simp only [execOp, hop]; rfl) (fun w _ => hr w) hk
  case fieldAddr s x n =>
    obtain ⟨v, hr, hk⟩ := fieldAddr_run hT h
    exact val (by simp only [execOp, hop]) (fun w _ => hr w) hk
  case field s x n =>
    obtain ⟨v, hr, hk⟩ := field_run hT h
    exact val (by simp only [execOp, hop]) (fun w _ => hr w) hk
  case indexAddr t x i =>
    obtain ⟨v, hr, hk⟩ := indexAddr_run hT h
    exact val (by simp only [execOp, hop]) (fun w _ => hr w) hk
  case index t x i =>
    obtain ⟨v, hr, hk⟩ := index_run hT h
    exact val (by simp only [execOp, hop]) (fun w _ => hr w) hk
  case lookup t m k ok =>
    obtain ⟨v, hr, hk⟩ := exR h
    exact val (by simp only [execOp, hop]) (fun w hw => hw _ hr) hk
  case entry it =>
    obtain ⟨v, hr, hk⟩ := exT h
    exact val (by simp only [execOp, hop]) (fun w hw => hw _ hr) hk
  case makeInterface t x =>
    exact val (s := Instr.makeInterface t (ev f x)) (by simp only [execOp, hop]) (fun w _ => run_makeInterface w t _ h.1) h.2
  case extract t n =>
    cases hx : ev f t <;> simp only [hx] at h <;> try exact h.elim
    rename_i vs
    rw [cut_eq] at h
    split at h <;> try exact h.elim
    rename_i v hv
    have : vs[n]? = some v := by
      have h2 : (List.take 1 (List.drop n vs.toList))[0]? = some v := by rw [hv]; rfl
      simpa [List.getElem?_take, List.getElem?_drop] using h2
    exact val (s := Instr.extract (ev f t) n) (by simp only [execOp, hop]) (fun w _ => by simp [hx, Instr.extract, this]) h
  case call c =>
    cases hc : c.callee <;> simp only [hc] at h
    rename_i b
    obtain ⟨v, hr, hk⟩ := bltQ_run hT h (ty := o.type) (cs := c.args.map fun | .const _ => true | _ => false)
    refine ⟨v, fun w hw => ?_, hk⟩
    simp only [execOp, hop, resolve, hc, Sem.run_bind, Sem.run_pure, Result.andThen_ok, invoke]
    rw [← hr w hw]
    congr 2
    apply Array.toList_inj.1; simp [evs]

theorem opL_sound (hT : TabOk P T) {fok : Env} (hF : FokOk P fok) {o : Oper} {f : Fr} {a : Act} {w : World} {K : Value → World → Prop} {next : Act → World → Prop} {Q : Exit → Act → World → Prop}
    (he : a.eval = ev f) (h : opL P T fok o f w K) (hn : ∀ v w', K v w' → next (a.put o.dst v) w') : o.wp P a w next Q := by
  have val : ∀ {s : Sem Value} {v : Value} {w' : World}, execOp a.eval o = (do pure (.value (← s))) → s.run P w = .ok v w' → K v w' → o.wp P a w next Q := fun {s v w'} hx hr hk =>
    wp_of_value (w' := w') (v := v) (by rw [hx]; simp [hr]) (hn _ _ hk)
  have unt : ∀ {s : Sem Unit} {w' : World}, execOp a.eval o = (do s; pure .skip) → s.run P w = .ok () w' → K undef w' → o.wp P a w next Q := fun {s w'} hx hr hk =>
    wp_of_skip (w' := w') (by rw [hx]; simp [hr]) (hn _ _ hk)
  cases hop : o.op <;> simp only [opL, hop] at h
  case alloc t =>
    obtain ⟨i, hi, h⟩ := lk_cases h
    refine val (s := Instr.alloc t true (.tuple #[])) (by simp only [execOp, hop]) ?_ (h _ _ rfl rfl)
    simp [Instr.alloc, hT.runZero hi, alloc_run]
  case box t x =>
    obtain ⟨i, hi, h1⟩ := lk_cases h
    cases hc : cellsI i (ev f x) with
    | none => simp [hc] at h1
    | some cs =>
      simp only [hc] at h1
      refine val (s := Instr.box t (ev f x)) (by simp only [execOp, hop, he]) ?_ (h1 _ _ rfl rfl)
      simp [Instr.box, alloc_run, cellsI_eq hc]
  case buildSlice t n ps =>
    obtain ⟨v, w', hr, hk⟩ := buildSlice_run hT h
    refine val (s := Instr.buildSlice t n (ps.map fun (i, x) => (i, ev f x))) (by simp only [execOp, hop, he]) ?_ hk
    rw [← hr]; congr 2
    apply Array.toList_inj.1; simp
  case store t x y =>
    split at h <;> try exact h.elim
    rename_i b o' hx
    obtain ⟨i, hi, h1⟩ := lk_cases h
    cases hc : cellsI i (ev f y) with
    | none => simp [hc] at h1
    | some cs =>
      simp only [hc] at h1
      obtain ⟨hl, hs, hk⟩ := lenW_def h1
      refine unt (s := Instr.storeAt t (ev f x) (ev f y)) (by simp only [execOp, hop, he]) ?_ (hk _ rfl)
      have hv := cellsI_eq hc
      simp only [hx, Instr.storeAt, Instr.sureAddr, Sem.run_bind, Sem.run_pure, Result.andThen_ok, storeVar, hT.runSize hi, hv]
      rw [if_neg (by simp [hl])]
      exact storeCells_run hs
  case convert s d x =>
    obtain ⟨v, w', hr, hk⟩ := convB_run hT h
    exact val (by simp only [execOp, hop, he]) hr hk
  case makeMap t r =>
    cases r <;> simp only at h
    exact val (s := Instr.makeMap t none) (by simp only [execOp, hop]; rfl) (by simp [Instr.makeMap]) (h _ _ rfl rfl)
  case makeSlice t n c =>
    obtain ⟨p, m, k, w1, hr, hk⟩ := h
    exact val (by simp only [execOp, hop, he]) hr hk
  case mapUpdate t m k x =>
    obtain ⟨w1, hr, hk⟩ := h
    exact unt (by simp only [execOp, hop, he]) hr hk
  case insert t m k x =>
    obtain ⟨w1, hr, hk⟩ := h
    exact unt (by simp only [execOp, hop, he]) hr hk
  case range t x =>
    obtain ⟨v, w1, hr, hk⟩ := h
    exact val (by simp only [execOp, hop, he]) hr hk
  case next it s =>
    rcases h with ⟨w1, hr, hk⟩ | h
    · exact val (by simp only [execOp, hop, he]) hr hk
    · obtain ⟨v, w1, hr, hk⟩ := exT h
      exact val (by simp only [execOp, hop, he]) hr hk
  case call c =>
    cases hc : c.callee <;> simp only [hc] at h
    case builtin b =>
      obtain ⟨v, w', hr, hk⟩ := bltW_run hT h (cs := c.args.map fun | .const _ => true | _ => false)
      refine wp_of_value (v := v) (w' := w') ?_ (hn _ _ hk)
      simp only [execOp, hop, resolve, hc, Sem.run_bind, Sem.run_pure, Result.andThen_ok, invoke, evs_map he]
      exact hr
    case value g =>
      unfold fnW at h
      cases hg : ev f g <;> simp only [hg] at h
      rename_i fn x cp
      cases fn <;> simp only at h
      rename_i hh
      cases hk : fok.fs.contains hh with
      | false => simp only [hk, cond_false] at h
      | true =>
        simp only [hk, cond_true] at h
        refine calls_next ?_ h hn
        simp only [execOp, hop, resolve, hc, he, hg, Deferred.ofValue, Sem.run_bind, Sem.run_pure, Result.andThen_ok, invoke]
        rw [callFunc_run (hF.1 hh hk)]
        congr 2
        apply Array.toList_inj.1
        simp [evs]

theorem op_sound (hT : TabOk P T) {fok : Env} (hF : FokOk P fok) {o : Oper} {f : Fr} {a : Act} {w : World} {K : Value → World → Prop} {next : Act → World → Prop} {Q : Exit → Act → World → Prop}
    (he : a.eval = ev f) (h : opW P T fok o f w K) (hn : ∀ v w', K v w' → next (a.put o.dst v) w') : o.wp P a w next Q := by
  unfold opW at h
  cases hl : loud T o with
  | true => simp only [hl, cond_true] at h; exact opL_sound hT hF he h hn
  | false =>
    simp only [hl, cond_false] at h
    obtain ⟨v, hr, hk⟩ := opV_run hT h
    exact wp_of_value (by rw [he]; exact hr w fun φ h => h) (hn _ _ hk)

/-! ### A program's tables -/
def zchk (i : TI) : Bool := (isRow i.desc == match i.zero with | .agg _ => true | _ => false) && Nat.beq i.zero.cells.size i.size
theorem tabOk_of (h : T.map (fun p => (P.underlying p.1, (P.info? p.1).map fun x => (x.zero, x.size))) = T.map (fun p => (some p.2.desc, some (some p.2.zero, p.2.size)))) (h2 : T.all (fun p => zchk p.2) = true) : TabOk P T := by
  intro t i hl
  have key : ∀ (T : Tab), T.map (fun p => (P.underlying p.1, (P.info? p.1).map fun x => (x.zero, x.size))) = T.map (fun p => (some p.2.desc, some (some p.2.zero, p.2.size))) → T.all (fun p => zchk p.2) = true → lk T t = some i →
      P.underlying t = some i.desc ∧ (P.info? t).map (fun x => (x.zero, x.size)) = some (some i.zero, i.size) ∧ zchk i = true := by
    intro T
    induction T with
    | nil => intro _ _ h; cases h
    | cons p r ih =>
      obtain ⟨k, j⟩ := p
      intro h h2 hl
      simp only [List.map_cons, List.cons.injEq, Prod.mk.injEq] at h
      simp only [List.all_cons, Bool.and_eq_true] at h2
      simp only [lk] at hl
      cases hb : Nat.beq k t with
      | true =>
        simp only [hb, cond_true, Option.some.injEq] at hl
        subst hl
        have := Nat.eq_of_beq_eq_true hb
        subst this
        exact ⟨h.1.1, h.1.2, h2.1⟩
      | false => simp only [hb, cond_false] at hl; exact ih h.2 h2.2 hl
  obtain ⟨h1, h3, h4⟩ := key T h h2 hl
  simp only [zchk, Bool.and_eq_true, beq_iff_eq] at h4
  exact ⟨h1, h3, h4.1, Nat.eq_of_beq_eq_true h4.2⟩
def fnOkB (P : Program) (h : Nat) : Bool := match P.funcs[h]? with | some fn => !fn.body.isNone && !(fn.name == "runtime.NumGoroutine") | none => false
theorem fokOk_of {fs : List Nat} {nx : List (Nat × List (Bool × List LK))} (h : (P.follows .mixedOrders && fs.all (fnOkB P)) = true) : FokOk P ⟨fs, nx⟩ := by
  rw [Bool.and_eq_true] at h
  refine ⟨fun k hk => ?_, h.1⟩
  replace h := h.2
  have := List.all_eq_true.1 h k (by simpa using hk)
  unfold fnOkB at this
  cases hf : P.funcs[k]? with
  | none => simp [hf] at this
  | some fn =>
    simp only [hf, Bool.and_eq_true, Bool.not_eq_true'] at this
    exact ⟨fn, hf, this.1, this.2⟩

end
end Go.Eng
