/- Contracts: field's Parse: a range over a function. -/
import Derived.Test.YtbbcofdibkgalaaGreatDoorFb
import Derived.Test.YtbbcofdibkgalaaGreatDoorGw
import Derived.Test.YtbbcofdibkgalaaGreatDoorPd
import Derived.Test.YtbbcofdibkgalaaGreatDoorWI
set_option linter.unusedVariables false
set_option linter.unusedSimpArgs false
namespace Go.Proofs.YtbbcofdibkgalaaGreatDoor
open Go.Eng
open Go.RowKit (Below)

theorem elP : ElT prg 51 56 2 := ⟨by kernel_rfl, Tryz.t56, .agg #[.string ⟨#[]⟩, .string ⟨#[]⟩], 32, by kernel_rfl, by kernel_rfl, by kernel_rfl, by kernel_rfl, by kernel_rfl, by omega, by omega⟩
/-- the cells of pairs -/
def prCells (l : List Pr) : List Value := l.flatMap fun x => [.string x.1, .string x.2]
theorem prCells_append (a b : List Pr) : prCells (a ++ b) = prCells a ++ prCells b := by simp [prCells]
theorem prCells_len (l : List Pr) : (prCells l).length = l.length * 2 := by
  induction l with
  | nil => rfl
  | cons x r ih => simp only [prCells, List.flatMap_cons, List.length_append, List.length_cons, List.length_nil] at ih ⊢; omega
theorem prCells_at : ∀ (l : List Pr) (j : Nat) (x : Pr), l[j]? = some x → (prCells l)[j * 2]? = some (.string x.1) ∧ (prCells l)[j * 2 + 1]? = some (.string x.2)
  | [], j, x, h => by simp at h
  | y :: r, 0, x, h => by simp at h; subst h; exact ⟨rfl, rfl⟩
  | y :: r, j + 1, x, h => by
    have ih := prCells_at r j x (by simpa using h)
    have e : prCells (y :: r) = .string y.1 :: .string y.2 :: prCells r := rfl
    rw [e, show (j + 1) * 2 = j * 2 + 2 by omega, show j * 2 + 2 + 1 = j * 2 + 1 + 2 by omega]
    simpa using ih
theorem own_slp {w : World} {base : Nat} {p : Option Addr} {n c : Nat} {l : List Pr} (h : Eng.Own w base 56 2 p n c (prCells l)) : SlP w p n l := by
  have hl : l.length = n := by have := h.1; rw [prCells_len] at this; omega
  refine ⟨hl, fun j x hj => ?_⟩
  obtain ⟨h1, h2⟩ := prCells_at l j x hj
  rcases h.2 with ⟨hv, h0⟩ | ⟨g, cap, cur, hv, hrest⟩
  · subst h0
    have : l = [] := List.eq_nil_of_length_eq_zero hl
    subst this; simp at hj
  · cases hv
    have c1 := h.cells (g := g) rfl _ _ h1
    have c2 := h.cells (g := g) rfl _ _ h2
    rw [Addr.add_mid] at c1 c2
    exact nilW_mk ⟨c1, c2⟩
theorem own_appP {w : World} {p : Option Addr} {n c : Nat} {xs : List Value} {base : Nat} (h : Eng.Own w base 56 2 p n c xs) (hb : base ≤ w.heap.size) (a b : ByteArray) (hn : n < 999999999999) :
    ∀ (k : Nat) (w3 : World), k = w.heap.size → w3 = w.alloc (.cells #[.string a, .string b] 56) →
      ∃ (p' : Option Addr) (n' c' : Nat) (w4 : World), (Builtin.append_ #[51, 51] 51 #[.slice p n c, .slice (some ⟨k, 0, none⟩) 1 1]).run prg w3 = .ok (.slice p' n' c') w4 ∧
        n' = n + 1 ∧ Eng.Own w4 base 56 2 p' n' c' (xs ++ [.string a, .string b]) ∧ w.grownBy w4 ((Value.slice p n c).ownBlock) := by
  rintro k w3 rfl rfl
  have ho : Eng.Own (w.alloc (.cells #[.string a, .string b] 56)) base 56 2 p n c xs := h.ext ((Ext.refl w).alloc _)
  have hB : Blk (w.alloc (.cells #[.string a, .string b] 56)) w.heap.size [.string a, .string b] := Blk.new w _ _
  obtain ⟨p', c', w', hr, ho', hg⟩ := own_append elP 51 ho (by simp; omega) (b := w.heap.size) (o := 0) (m := 1) (k := 1) (news := [.string a, .string b]) rfl hB.all (by simp [Value.oneCell']) (by omega)
  exact ⟨p', n + 1, c', w', hr, rfl, ho', grown_trans (grown_alloc w _ _) hg⟩

theorem parseGo_nil (acc : List Pr) : parseGo acc [] = (acc, 0) := rfl
theorem pieces_eq (c : UInt8) (l : List UInt8) : pieces c l = if (cutB c l).2.2 then (cutB c l).1 :: pieces c (cutB c l).2.1 else [(cutB c l).1] := by rw [pieces]
theorem parseGo_len : ∀ (l : List (List UInt8)) (acc : List Pr), acc.length ≤ 64 → (parseGo acc l).1.length ≤ 64
  | [], acc, h => h
  | p :: r, acc, h => by
    rw [parseGo]
    split
    · exact parseGo_len r acc h
    · split
      · simp
      · split
        · simp
        · exact parseGo_len r _ (by rw [List.length_append]; simp; omega)

section parse
variable (s : ByteArray) (w : World)
/-- a record of the loop -/
noncomputable abbrev loopRec (a : Act) (st : LoopState) (pe : Option Code) (fn : Nat) : Loop :=
  { state := st, pending := pe, fn := fn, tmps := a.tmps, params := #[18], assign := cL (cL (cR (cL (cR (cR (cR (Tryz.f28.body.getD .skip))))))), body := cR (cL (cR (cL (cR (cR (cR (Tryz.f28.body.getD .skip))))))), defers := w.heap.size + 4 }

/-- between two rounds -/
structure StP (fn : Nat) (a : Act) (st : LoopState) (pe : Option Code) (acc : List Pr) (W : World) : Prop where
  ext : Ext w W
  size : w.heap.size + 6 ≤ W.heap.size
  b2 : Blk W w.heap.size [.slice none 0 0]
  b3 : Blk W (w.heap.size + 1) [.int .i64 0]
  acc : ∃ p n c, Blk W (w.heap.size + 2) [.slice p n c] ∧ Eng.Own W (w.heap.size + 6) 56 2 p n c (prCells acc)
  lp : W.heap[w.heap.size + 5]? = some (.loop (loopRec w a st pe fn))
  df : W.heap[w.heap.size + 4]? = some (.deferred (some []))
/-- behind a round that has left by 'return' -/
structure DnP (fn : Nat) (a : Act) (st : LoopState) (err : Int) (W : World) : Prop where
  ext : Ext w W
  size : w.heap.size + 6 ≤ W.heap.size
  b2 : Blk W w.heap.size [.slice none 0 0]
  b3 : Blk W (w.heap.size + 1) [.int .i64 err]
  lp : W.heap[w.heap.size + 5]? = some (.loop (loopRec w a st (some .ret) fn))
  df : W.heap[w.heap.size + 4]? = some (.deferred (some []))
variable {s w}
theorem grown_at {W W' : World} {row : Option Nat} (hg : W.grownBy W' row) {k : Nat} {o : Obj} (hk : W.heap[k]? = some o) (hne : row ≠ some k) : W'.heap[k]? = some o :=
  (hg.block k (Array.getElem?_eq_some_iff.1 hk).1 fun e => hne e.symm).trans hk
/-- a step that turns one block that none of it is -/
theorem StP.step {fn : Nat} {a : Act} {st : LoopState} {pe : Option Code} {acc : List Pr} {W W' : World} (h : StP w fn a st pe acc W) {b : Nat} (hg : W.grownBy W' (some b)) (h1 : w.heap.size ≤ b)
    (h2 : b ≠ w.heap.size) (h3 : b ≠ w.heap.size + 1) (h4 : b ≠ w.heap.size + 2) (h5 : b < w.heap.size + 6) (h6 : b ≠ w.heap.size + 5) (h7 : b ≠ w.heap.size + 4) : StP w fn a st pe acc W' := by
  obtain ⟨p, n, c, hb, ho⟩ := h.acc
  exact ⟨Ext.grownB h.ext h1 hg, Nat.le_trans h.size hg.size, h.b2.grown hg (fun e => by have := Option.some.inj e; omega), h.b3.grown hg (fun e => by have := Option.some.inj e; omega),
    ⟨p, n, c, hb.grown hg (fun e => by have := Option.some.inj e; omega), Own.setOther' ho h5 hg⟩, grown_at hg h.lp (fun e => by have := Option.some.inj e; omega), grown_at hg h.df (fun e => by have := Option.some.inj e; omega)⟩
theorem StP.put {fn : Nat} {a : Act} {st st' : LoopState} {pe pe' : Option Code} {acc : List Pr} {W : World} (h : StP w fn a st pe acc W) : StP w fn a st' pe' acc (W.putObj (w.heap.size + 5) (.loop (loopRec w a st' pe' fn))) := by
  have hg := grownBy_putObj' W (w.heap.size + 5) (.loop (loopRec w a st' pe' fn))
  obtain ⟨p, n, c, hb, ho⟩ := h.acc
  exact ⟨Ext.grownB h.ext (by omega) hg, Nat.le_trans h.size hg.size, h.b2.grown hg (fun e => by have := Option.some.inj e; omega), h.b3.grown hg (fun e => by have := Option.some.inj e; omega),
    ⟨p, n, c, hb.grown hg (fun e => by have := Option.some.inj e; omega), Own.setOther' ho (by omega) hg⟩, World.putObj_heap_same (by have := h.size; omega), grown_at hg h.df (fun e => by have := Option.some.inj e; omega)⟩
theorem StP.same {fn : Nat} {a : Act} {st : LoopState} {pe : Option Code} {acc : List Pr} {W W' : World} (h : StP w fn a st pe acc W) (he : Ext W W') : StP w fn a st pe acc W' := by
  obtain ⟨p, n, c, hb, ho⟩ := h.acc
  have hs := h.size
  have lt : ∀ {k : Nat} {o : Obj}, W.heap[k]? = some o → W'.heap[k]? = some o := fun {k o} hk => (Ext.block he (Array.getElem?_eq_some_iff.1 hk).1).trans hk
  exact ⟨h.ext.trans he, Nat.le_trans hs he.size, h.b2.ext he, h.b3.ext he, ⟨p, n, c, hb.ext he, ho.ext he⟩, lt h.lp, lt h.df⟩

theorem setCells2 {W : World} {fn : Nat} {a : Act} {st : LoopState} {acc : List Pr} (h : StP w fn a st none acc W) (err : Int) :
    Sto W w.heap.size 0 [.slice none 0 0] ∧ ∀ w1, w1 = W.setCells w.heap.size 0 [.slice none 0 0] → Sto w1 (w.heap.size + 1) 0 [.int .i64 err] ∧ ∀ w2, w2 = w1.setCells (w.heap.size + 1) 0 [.int .i64 err] →
      Ext w w2 ∧ w.heap.size + 6 ≤ w2.heap.size ∧ Blk w2 w.heap.size [.slice none 0 0] ∧ Blk w2 (w.heap.size + 1) [.int .i64 err] ∧ w2.heap[w.heap.size + 5]? = some (.loop (loopRec w a st none fn)) ∧ w2.heap[w.heap.size + 4]? = some (.deferred (some [])) := by
  refine ⟨h.b2.sto (by simp) (by simp [Value.oneCell']), ?_⟩
  rintro w1 rfl
  have g1 := grownBy_setCells W w.heap.size 0 [.slice none 0 0]
  have c2 := h.b2.set 0 [.slice none 0 0]
  have c3 := h.b3.grown g1 (fun e => by have := Option.some.inj e; omega)
  refine ⟨c3.sto (by simp) (by simp [Value.oneCell']), ?_⟩
  rintro w2 rfl
  have g2 := grownBy_setCells (W.setCells w.heap.size 0 [.slice none 0 0]) (w.heap.size + 1) 0 [.int .i64 err]
  have d2 := c2.grown g2 (fun e => by have := Option.some.inj e; omega)
  have d3 := c3.set 0 [.int .i64 err]
  exact ⟨Ext.grownB (Ext.grownB h.ext (Nat.le_refl _) g1) (by omega) g2, Nat.le_trans h.size (Nat.le_trans g1.size g2.size), d2, d3,
    grown_at g2 (grown_at g1 h.lp (fun e => by have := Option.some.inj e; omega)) (fun e => by have := Option.some.inj e; omega), grown_at g2 (grown_at g1 h.df (fun e => by have := Option.some.inj e; omega)) (fun e => by have := Option.some.inj e; omega)⟩

/-- ONE ROUND: at a piece -/
theorem round_ok {fn : Nat} {a : Act} {f : Fr} (hr : Rep [] 51 a f) (h2 : f 2 = .pointer (some ⟨w.heap.size, 0, none⟩)) (h3 : f 3 = .pointer (some ⟨w.heap.size + 1, 0, none⟩)) (h4 : f 4 = .pointer (some ⟨w.heap.size + 2, 0, none⟩))
    {acc : List Pr} {W : World} (h : StP w fn a .ready none acc W) (hg : GW w) (hacc : acc.length ≤ 64) (r : List UInt8) (hrl : r.length ≤ 1000000000) :
    YieldAt Fence.wide 0 prg (w.heap.size + 5) #[.string (mk r)] W fun e W' =>
      (e = .returned (.bool true) ∧ ∃ x, acc.length < 64 ∧ pairOf r = some x ∧ StP w fn a .ready none (acc ++ [x]) W' ∧ W.heap[w.heap.size + 3]? = W'.heap[w.heap.size + 3]?) ∨
      (e = .returned (.bool false) ∧ ∃ err, DnP w fn a .done err W' ∧ ((acc.length = 64 ∧ err = 2) ∨ (acc.length ≠ 64 ∧ pairOf r = none ∧ err = 3))) := by
  refine ⟨_, _, _, _, run_yield h.lp rfl, roundIn_of_wpIn trivial ?_⟩
  have hrep : Rep [] 51 { tmps := (#[(18 : Tmp)].zip #[Value.string (mk r)]).foldl (fun tmps (t, a) => tmps.setIfInBounds t a) a.tmps, defers := [] } (upd f 18 (.string (mk r))) := by
    have := hr.put (some 18) (.string (mk r)) (by intro t ht; cases ht; decide)
    refine ⟨rfl, ?_, ?_⟩
    · simpa [Act.put] using this.2.1
    · simpa [Act.put, upo] using this.2.2
  have ok1 := pS_ok
  simp only [Bool.and_eq_true] at ok1
  refine wpIn_mono (fi_sound (m := 0) (F := Fence.wide.inRound (w.heap.size + 5)) tabOkI (fokOkI []) (open_round _) _ _ _ _ _ W _ _ ok1.1.1 ok1.1.2 ok1.2
    (pS_fi [] (w.heap.size + 5) f (mk r) W (fun e vs W1 => e = .normal ∧ vs = [.string (mk r)] ∧ W1 = W) ⟨rfl, rfl, rfl, rfl⟩) hrep) fun e a1 W1 hq => ?_
  cases e with
  | normal =>
    obtain ⟨f1, ds1, hr1, hs1, rfl, -, h5, rfl⟩ := hq
    have h5' : f1 5 = .string (mk r) := by simpa using h5
    have keep : ∀ i, i = 2 ∨ i = 3 ∨ i = 4 → f1 i = f i := by
      rintro i (rfl | rfl | rfl)
      · exact hs1 2 (by show (2 : Nat) ∉ wrs (cL (cL (cR (cL (cR (cR (cR (Tryz.f28.body.getD .skip)))))))); decide +kernel)
      · exact hs1 3 (by show (3 : Nat) ∉ wrs (cL (cL (cR (cL (cR (cR (cR (Tryz.f28.body.getD .skip)))))))); decide +kernel)
      · exact hs1 4 (by show (4 : Nat) ∉ wrs (cL (cL (cR (cL (cR (cR (cR (Tryz.f28.body.getD .skip)))))))); decide +kernel)
    refine ⟨_, run_beginRound h.lp rfl, ?_⟩
    have hS := StP.put (st' := .busy) (pe' := none) h
    obtain ⟨W2, hW2⟩ : ∃ W2, W2 = W1.putObj (w.heap.size + 5) (.loop (loopRec w a .busy none fn)) := ⟨_, rfl⟩
    have e3 : W2.heap[w.heap.size + 3]? = W1.heap[w.heap.size + 3]? := by rw [hW2]; exact World.putObj_heap_other (by omega)
    rw [← hW2] at hS
    show (Code.wpIn _ _ _ _ _ a1 (W1.putObj (w.heap.size + 5) (.loop (loopRec w a .busy none fn))))
    rw [← hW2]
    have fin : ∀ (acc' : List Pr) (W3 : World), StP w fn a .busy none acc' W3 → ∃ v W4, (Instr.endRound (w.heap.size + 5) none).run prg W3 = .ok v W4 ∧ Value.bool true = v ∧ StP w fn a .ready none acc' W4 ∧ W4.heap[w.heap.size + 3]? = W3.heap[w.heap.size + 3]? := fun acc' W3 h3 =>
      ⟨_, _, run_endRound none h3.lp, rfl, StP.put (st' := .ready) (pe' := none) h3, World.putObj_heap_other (by omega)⟩
    have upd3 : (upd (upd (upd (upd f1 2 (.pointer (some ⟨w.heap.size, 0, none⟩))) 3 (.pointer (some ⟨w.heap.size + 1, 0, none⟩))) 4 (.pointer (some ⟨w.heap.size + 2, 0, none⟩))) 5 (.string (mk r))) = f1 := by
      rw [upd_self (f := f1) (g := 2) (by rw [keep 2 (by simp), h2]), upd_self (f := f1) (g := 3) (by rw [keep 3 (by simp), h3]), upd_self (f := f1) (g := 4) (by rw [keep 4 (by simp), h4]), upd_self h5']
    have ok2 := pE_ok
    simp only [Bool.and_eq_true] at ok2
    have hrep1 : Rep [] 51 a1 (upd (upd (upd (upd f1 2 (.pointer (some ⟨w.heap.size, 0, none⟩))) 3 (.pointer (some ⟨w.heap.size + 1, 0, none⟩))) 4 (.pointer (some ⟨w.heap.size + 2, 0, none⟩))) 5 (.string (mk r))) := by rw [upd3]; exact hr1
    -- what the body leaves
    refine wpIn_mono (fi_sound (m := 0) (F := Fence.wide.inRound (w.heap.size + 5)) tabOkI (fokOkI []) (open_round _) _ _ _ _ _ W2 _ _ ok2.1.1 ok2.1.2 ok2.2
      (pE_fi [] (w.heap.size + 5) f1 w.heap.size 0 (w.heap.size + 1) 0 (w.heap.size + 2) 0 (mk r) W2 (fun e vs W3 =>
        (e = .normal ∧ ∃ x, acc.length < 64 ∧ pairOf r = some x ∧ StP w fn a .busy none (acc ++ [x]) W3 ∧ W3.heap[w.heap.size + 3]? = W1.heap[w.heap.size + 3]?) ∨
        (e = .ret ∧ ∃ err, (Ext w W3 ∧ w.heap.size + 6 ≤ W3.heap.size ∧ Blk W3 w.heap.size [.slice none 0 0] ∧ Blk W3 (w.heap.size + 1) [.int .i64 err] ∧ W3.heap[w.heap.size + 5]? = some (.loop (loopRec w a .busy none fn)) ∧ W3.heap[w.heap.size + 4]? = some (.deferred (some []))) ∧
          ((acc.length = 64 ∧ err = 2) ∨ (acc.length ≠ 64 ∧ pairOf r = none ∧ err = 3)))) ?_) hrep1) fun e a3 W3 hq => ?_
    · obtain ⟨p, n, c, hb4, ho⟩ := hS.acc
      have hn : n = acc.length := by have := ho.1; rw [prCells_len] at this; omega
      refine ⟨p, n, c, hb4.cell rfl, cwd (fun hc => ?_) fun hc => ?_⟩
      · obtain ⟨s1, k1⟩ := setCells2 hS 2
        refine ⟨s1, fun w1 e1 => ?_⟩
        obtain ⟨s2, k2⟩ := k1 w1 e1
        exact ⟨s2, fun w2 e2 => ⟨rfl, .inr ⟨rfl, 2, k2 w2 e2, .inl ⟨by omega, rfl⟩⟩⟩⟩
      · refine (cut_ok (mk r) 61 (by rw [mk_size]; omega) W2 (hg.ext hS.ext)).mono fun e w4 he => ?_
        obtain ⟨rfl, k, rfl⟩ := he
        rw [bs_mk]
        have hcl := cutB_len 61 r
        have S4 := hS.same (Ext.drewN (Ext.refl W2) k)
        refine ⟨_, _, _, rfl, ?_⟩
        refine (unquote_ok (mk (cutB 61 r).1) (by rw [mk_size]; omega) (W2.drewN k)).mono fun e w6 he => ?_
        obtain ⟨rfl, e6⟩ := he
        have S6 := S4.same e6
        refine ⟨_, _, rfl, (unquote_ok (mk (cutB 61 r).2.1) (by rw [mk_size]; omega) w6).mono fun e w8 he => ?_⟩
        obtain ⟨rfl, e8⟩ := he
        have S8 := S6.same e8
        rw [bs_mk, bs_mk]
        refine ⟨_, _, rfl, ?_⟩
        have bad : pairOf r = none → Sto w8 w.heap.size 0 [.slice none 0 0] ∧ ∀ w1, w1 = w8.setCells w.heap.size 0 [.slice none 0 0] → Sto w1 (w.heap.size + 1) 0 [.int .i64 3] ∧ ∀ w2, w2 = w1.setCells (w.heap.size + 1) 0 [.int .i64 3] →
            ([] : List Deferred) = [] ∧ ((Ex.ret = .normal ∧ ∃ x, acc.length < 64 ∧ pairOf r = some x ∧ StP w fn a .busy none (acc ++ [x]) w2 ∧ w2.heap[w.heap.size + 3]? = W1.heap[w.heap.size + 3]?) ∨
              (Ex.ret = .ret ∧ ∃ err, (Ext w w2 ∧ w.heap.size + 6 ≤ w2.heap.size ∧ Blk w2 w.heap.size [.slice none 0 0] ∧ Blk w2 (w.heap.size + 1) [.int .i64 err] ∧ w2.heap[w.heap.size + 5]? = some (.loop (loopRec w a .busy none fn)) ∧ w2.heap[w.heap.size + 4]? = some (.deferred (some []))) ∧
              ((acc.length = 64 ∧ err = 2) ∨ (acc.length ≠ 64 ∧ pairOf r = none ∧ err = 3)))) := fun hp => by
          obtain ⟨s1, k1⟩ := setCells2 S8 3
          refine ⟨s1, fun w1 e1 => ?_⟩
          obtain ⟨s2, k2⟩ := k1 w1 e1
          exact ⟨s2, fun w2 e2 => ⟨rfl, .inr ⟨rfl, 3, k2 w2 e2, .inr ⟨by omega, hp, rfl⟩⟩⟩⟩
        cases h1 : unq (cutB 61 r).1 with
        | none =>
          rw [unqP_none h1]
          refine cyes (by simp) (bad (by rw [pairOf, h1]))
        | some a1' =>
          rw [unqP_some h1]
          refine cno (by simp) ?_
          cases h2' : unq (cutB 61 r).2.1 with
          | none =>
            rw [unqP_none h2']
            exact cyes (by simp) (bad (by rw [pairOf, h1, h2']))
          | some a2' =>
            rw [unqP_some h2']
            refine cno (by simp) ?_
            have hp : pairOf r = some (mk a1', mk a2') := by rw [pairOf, h1, h2']
            obtain ⟨p8, n8, c8, hb8, ho8⟩ := S8.acc
            have hn8 : n8 = acc.length := by have := ho8.1; rw [prCells_len] at this; omega
            refine ⟨p8, n8, c8, hb8.cell rfl, fun b_ w13 hb hw13 => ?_⟩
            obtain ⟨q, m, d, w14, hrun, hm, ho14, hg14⟩ := own_appP ho8 S8.size (mk a1') (mk a2') (by omega) b_ w13 hb hw13
            have hb14 := hb8.grown hg14 (ho8.ne (by omega))
            refine ⟨q, m, d, w14, hrun, hb14.sto (by simp) (by simp [Value.oneCell']), ?_⟩
            rintro w15 rfl
            have g15 := grownBy_setCells w14 (w.heap.size + 2) 0 [.slice q m d]
            refine ⟨rfl, .inl ⟨rfl, (mk a1', mk a2'), by omega, hp, ?_, ?_⟩⟩
            · have E14 := Ext.grown' S8.ext ho8 (by omega) hg14
              exact ⟨Ext.grownB E14 (by omega) g15, Nat.le_trans S8.size (Nat.le_trans hg14.size g15.size), (S8.b2.grown hg14 (ho8.ne (by omega))).grown g15 (fun e => by have := Option.some.inj e; omega), (S8.b3.grown hg14 (ho8.ne (by omega))).grown g15 (fun e => by have := Option.some.inj e; omega),
                ⟨q, m, d, hb14.set 0 [.slice q m d], by rw [prCells_append]; exact Own.setOther' ho14 (by omega) g15⟩, grown_at g15 (grown_at hg14 S8.lp (ho8.ne (by omega))) (fun e => by have := Option.some.inj e; omega), grown_at g15 (grown_at hg14 S8.df (ho8.ne (by omega))) (fun e => by have := Option.some.inj e; omega)⟩
            · have s8 := S8.size
              have sz2 := hS.size
              rw [g15.block _ (by have := hg14.size; omega) (fun e => by have := Option.some.inj e; omega), hg14.block _ (by omega) (fun e => ho8.ne (b := w.heap.size + 3) (by omega) e.symm), Ext.block e8 (by have := S6.size; omega), Ext.block e6 (by have := S4.size; omega), ← e3]
              rfl
    · cases e with
      | normal =>
        obtain ⟨f3, ds3, hr3, hs3, rfl, hk⟩ := hq
        rcases hk with ⟨-, x, hx1, hx2, hx3, hx4⟩ | ⟨h', _⟩
        · obtain ⟨v, W4, hrun, hv, hst, he4⟩ := fin _ _ hx3
          exact ⟨v, W4, hrun, .inl ⟨by rw [hv], x, hx1, hx2, hst, by rw [he4, hx4]⟩⟩
        · cases h'
      | ret =>
        obtain ⟨f3, ds3, hr3, hs3, rfl, hk⟩ := hq
        rcases hk with ⟨h', _⟩ | ⟨-, err, ⟨x1, x2, x3, x4, x5, x6⟩, hx⟩
        · cases h'
        · refine ⟨_, _, run_endRound (some .ret) x5, .inr ⟨rfl, err, ?_, hx⟩⟩
          have hgp := grownBy_putObj' W3 (w.heap.size + 5) (.loop (loopRec w a .done (some .ret) fn))
          exact ⟨Ext.grownB x1 (by omega) hgp, Nat.le_trans x2 hgp.size, x3.grown hgp (fun e => by have := Option.some.inj e; omega), x4.grown hgp (fun e => by have := Option.some.inj e; omega), World.putObj_heap_same (by omega), grown_at hgp x6 (fun e => by have := Option.some.inj e; omega)⟩
      | exit id =>
        obtain ⟨f3, ds3, hr3, hs3, rfl, hk⟩ := hq
        rcases hk with ⟨h', _⟩ | ⟨h', _⟩ <;> cases h'
      | goto l => exact hq.elim
      | panic ch => obtain ⟨_, _, _, hq⟩ := hq; exact hq.elim
      | outgrown => exact hq.elim
  | exit id => obtain ⟨f1, ds1, hr1, hs1, _, h', _⟩ := hq; cases h'
  | ret => obtain ⟨f1, ds1, hr1, hs1, _, h', _⟩ := hq; cases h'
  | goto l => exact hq.elim
  | panic ch => obtain ⟨_, _, _, hq⟩ := hq; exact hq.elim
  | outgrown => exact hq.elim
end parse

end Go.Proofs.YtbbcofdibkgalaaGreatDoor
