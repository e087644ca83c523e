/- Contracts: field's Parse, whole. -/
import Derived.Test.YtbbcofdibkgalaaGreatDoorFc
set_option linter.unusedVariables false
set_option linter.unusedSimpArgs false
namespace Go.Proofs.YtbbcofdibkgalaaGreatDoor
open Go.Eng
open Go.RowKit (Below)

theorem parseGo_cons (acc : List Pr) (p : List UInt8) (r : List (List UInt8)) : parseGo acc (p :: r) = if p = [] then parseGo acc r else if acc.length = 64 then ([], 2) else match pairOf p with
    | none => ([], 3)
    | some x => parseGo (acc ++ [x]) r := by rw [parseGo]; rfl
section
variable {w : World}
theorem iter_ok {fn : Nat} {a : Act} {f : Fr} (hr : Rep [] 51 a f) (h2 : f 2 = .pointer (some ⟨w.heap.size, 0, none⟩)) (h3 : f 3 = .pointer (some ⟨w.heap.size + 1, 0, none⟩)) (h4 : f 4 = .pointer (some ⟨w.heap.size + 2, 0, none⟩))
    {W : World} (h : StP w fn a .ready none [] W) (s : List UInt8) (hs : s.length ≤ 1000000000) (hb : Blk W (w.heap.size + 3) [.string (mk s)]) (hg : GW w) :
    Calls prg 106 #[.func (.yield (w.heap.size + 5)) #[] #[], .pointer (some ⟨w.heap.size + 3, 0, none⟩)] W fun e W' => e = .returned (.tuple #[]) ∧
      ((∃ acc, StP w fn a .ready none acc W' ∧ parseGo [] (pieces 38 s) = (acc, 0)) ∨ (∃ err, DnP w fn a .done err W' ∧ parseGo [] (pieces 38 s) = ([], err))) := by
  refine f106_wpI (w.heap.size + 5) (w.heap.size + 3) 0 W _ ⟨fun more W1 => ∃ acc rest, StP w fn a .ready none acc W1 ∧ Blk W1 (w.heap.size + 3) [.string (mk rest)] ∧ acc.length ≤ 64 ∧ rest.length ≤ 1000000000 ∧
      parseGo [] (pieces 38 s) = (if more then parseGo acc (pieces 38 rest) else (acc, 0)),
    fun more W1 => if more then (match W1.cell? ⟨w.heap.size + 3, 0, none⟩ with | some (.string x) => x.size + 1 | _ => 0) else 0, ⟨[], s, h, hb, by simp, hs, rfl⟩, ?_⟩
  rintro more fr w1 ⟨acc, rest, S1, B1, hacc, hrl, hp⟩
  cases more with
  | false =>
    simp only [Bool.false_eq_true, if_false] at hp
    exact ⟨rfl, rfl, .inl ⟨acc, S1, hp⟩⟩
  | true =>
    simp only [if_true] at hp
    refine ⟨mk rest, B1.cell rfl, (cut_ok (mk rest) 38 (by rw [mk_size]; omega) w1 (hg.ext S1.ext)).mono fun e w3 he => ?_⟩
    obtain ⟨rfl, k, rfl⟩ := he
    rw [bs_mk]
    have hcl := cutB_len 38 rest
    have S3 := S1.same (Ext.drewN (Ext.refl w1) k)
    have B3 : Blk (w1.drewN k) (w.heap.size + 3) [.string (mk rest)] := B1
    refine ⟨_, _, _, rfl, B3.sto (by simp) (by simp [Value.oneCell']), ?_⟩
    rintro w4 rfl
    have g4 := grownBy_setCells (w1.drewN k) (w.heap.size + 3) 0 [.string (mk (cutB 38 rest).2.1)]
    have S4 := S3.step g4 (by omega) (by omega) (by omega) (by omega) (by omega) (by omega) (by omega)
    have B4 := B3.set 0 [.string (mk (cutB 38 rest).2.1)]
    simp only [setL, List.set] at B4
    obtain ⟨w4, hw4⟩ : ∃ w4, w4 = (w1.drewN k).setCells (w.heap.size + 3) 0 [.string (mk (cutB 38 rest).2.1)] := ⟨_, rfl⟩
    rw [← hw4] at S4 B4 ⊢
    -- the measure
    have mea : ∀ W', Blk W' (w.heap.size + 3) [.string (mk (cutB 38 rest).2.1)] → (if (cutB 38 rest).2.2 then (match W'.cell? ⟨w.heap.size + 3, 0, none⟩ with | some (.string x) => x.size + 1 | _ => 0) else 0) < (if true then (match w1.cell? ⟨w.heap.size + 3, 0, none⟩ with | some (.string x) => x.size + 1 | _ => 0) else 0) := fun W' hW => by
      have c1 : w1.cell? ⟨w.heap.size + 3, 0, none⟩ = some (.string (mk rest)) := B1.cell rfl
      have c2 : W'.cell? ⟨w.heap.size + 3, 0, none⟩ = some (.string (mk (cutB 38 rest).2.1)) := hW.cell rfl
      rw [c1, c2]
      simp only [if_true, mk_size]
      cases hy : (cutB 38 rest).2.2 with
      | false => simp
      | true =>
        have := congrArg List.length (cutB_yes 38 rest hy)
        simp only [List.length_append, List.length_cons] at this
        simp only [if_true]; omega
    have pq := pieces_eq 38 rest
    by_cases he : (cutB 38 rest).1 = []
    · refine cno (fun hne => hne (by rw [he]; rfl)) ?_
      refine ⟨rfl, ⟨acc, (cutB 38 rest).2.1, S4, B4, hacc, by omega, ?_⟩, mea w4 B4⟩
      rw [hp, pq]
      cases hy : (cutB 38 rest).2.2 with
      | false => simp only [Bool.false_eq_true, if_false]; rw [parseGo_cons, if_pos he, parseGo_nil]
      | true => simp only [if_true]; rw [parseGo_cons, if_pos he]
    · refine cyes (fun e => he (mk_inj (e.trans rfl))) ?_
      obtain ⟨fn', tmps, assign, body, hy1, hR⟩ := round_ok hr h2 h3 h4 S4 hg hacc (cutB 38 rest).1 (by omega)
      refine ⟨fn', tmps, assign, body, hy1, hR.mono fun e w5 hh => ?_⟩
      rcases hh with ⟨rfl, x, hx1, hx2, S5, h35⟩ | ⟨rfl, err, D5, hx⟩
      · refine ⟨true, rfl, ?_⟩
        have B5 : Blk w5 (w.heap.size + 3) [.string (mk (cutB 38 rest).2.1)] := by
          obtain ⟨t, ht⟩ := B4
          exact ⟨t, h35 ▸ ht⟩
        refine ⟨rfl, ⟨acc ++ [x], (cutB 38 rest).2.1, S5, B5, by rw [List.length_append]; simp; omega, by omega, ?_⟩, mea w5 B5⟩
        rw [hp, pq]
        cases hy : (cutB 38 rest).2.2 with
        | false => simp only [Bool.false_eq_true, if_false]; rw [parseGo_cons, if_neg he, if_neg (by omega), hx2]; exact parseGo_nil _
        | true => simp only [if_true]; rw [parseGo_cons, if_neg he, if_neg (by omega), hx2]
      · refine ⟨false, rfl, rfl, rfl, .inr ⟨err, D5, ?_⟩⟩
        rw [hp, pq]
        have key : ∀ r, parseGo acc ((cutB 38 rest).1 :: r) = ([], err) := fun r => by
          rw [parseGo_cons, if_neg he]
          rcases hx with ⟨h64, rfl⟩ | ⟨h64, hn, rfl⟩
          · rw [if_pos h64]
          · rw [if_neg h64, hn]
        split <;> exact key _
end

theorem codeP : Tryz.f28.body.getD .skip = .seq (cL (Tryz.f28.body.getD .skip)) (.seq (cL (cR (Tryz.f28.body.getD .skip))) (.seq (cL (cR (cR (Tryz.f28.body.getD .skip))))
    (.seq (.seq (cL (cL (cR (cR (cR (Tryz.f28.body.getD .skip)))))) (.block 0 (.rangeFunc (.tmp 17) #[18] (cL (cL (cR (cL (cR (cR (cR (Tryz.f28.body.getD .skip)))))))) (cR (cL (cR (cL (cR (cR (cR (Tryz.f28.body.getD .skip))))))))))) (cR (cR (cR (cR (Tryz.f28.body.getD .skip)))))))) := by kernel_rfl
theorem bodyP : Tryz.f28.body = some (Tryz.f28.body.getD .skip) := by kernel_rfl
theorem resP : Tryz.f28.results = #[.cell 2 51, .cell 3 30] := by kernel_rfl

theorem slp_drop {w w' : World} {p : Option Addr} {n : Nat} {l : List Pr} (h : SlP w p n l) (he : Ext w w') : SlP w' p n l := h.ext he
/-- the end: the two results are read, with a mark or without -/
theorem endP {a : Act} {f : Fr} {ds : List Deferred} (hr : Rep ds 51 a f) {w w' : World} (h2 : f 2 = .pointer (some ⟨w.heap.size, 0, none⟩)) (h3 : f 3 = .pointer (some ⟨w.heap.size + 1, 0, none⟩))
    {p : Option Addr} {n c : Nat} {err : Int} (b2 : Blk w' w.heap.size [.slice p n c]) (b3 : Blk w' (w.heap.size + 1) [.int .i64 err]) :
    (results Tryz.f28 a.tmps).run prg w' = .ok (.tuple #[.slice p n c, .int .i64 err]) w' := by
  have key : resW TbI f w' Tryz.f28.results.toList (fun v => v = .tuple #[.slice p n c, .int .i64 err]) := by
    rw [resP]
    simp only [resW, resV, h2, h3]
    exact ⟨p, n, c, b2.cell rfl, err, b3.cell rfl, rfl⟩
  obtain ⟨v, hv, rfl⟩ := resW_run tabOkI hr key
  exact hv

theorem parse_ok (s : ByteArray) (hs : s.size ≤ 1000000000) (w : World) (hg : GW w) :
    Calls prg 28 #[.string s] w fun e w' => ∃ p n c, e = .returned (.tuple #[.slice p n c, .int .i64 (parse (bs s)).2]) ∧ SlP w' p n (parse (bs s)).1 ∧ Ext w w' ∧ (∀ a, p = some a → w.heap.size ≤ a.block) := by
  have hlen := bs_len s
  obtain ⟨R, hR⟩ : ∃ R : Ending → World → Prop, R = fun e w' => ∃ p n c, e = .returned (.tuple #[.slice p n c, .int .i64 (parse (bs s)).2]) ∧ SlP w' p n (parse (bs s)).1 ∧ Ext w w' ∧ (∀ a, p = some a → w.heap.size ≤ a.block) := ⟨_, rfl⟩
  rw [← hR]
  refine callsIn_wide.1 (callsIn_of_wp_marks (F := Fence.wide) (n := 0) Tryz.func28 bodyP trivial ?_)
  rw [codeP]
  have nt : Tryz.f28.ntmps = 51 := by kernel_rfl
  have rep0 : Rep [] 51 { tmps := #[Value.string s] ++ Array.replicate (Tryz.f28.ntmps - (#[Value.string s] : Array Value).size) undef, defers := [] } (arg0 [.string s]) := by
    have := rep_arg0 (fn := Tryz.f28) (args := [.string s]) (by rw [nt]; simp)
    rw [nt] at this ⊢
    exact this
  -- the two results
  have oA := pA_ok
  simp only [Bool.and_eq_true, nt] at oA
  refine wpIn_seq (wpIn_mono (fi_sound (m := 0) tabOkI (fokOkI []) open_wide _ _ _ _ _ w _ _ oA.1.1 oA.1.2 oA.2
    (pA_fi [] (arg0 [.string s]) w (fun e vs W => e = .normal ∧ vs = [.pointer (some ⟨w.heap.size, 0, none⟩), .pointer (some ⟨w.heap.size + 1, 0, none⟩)] ∧ Ext w W ∧ W.heap.size = w.heap.size + 2 ∧ Blk W w.heap.size [.slice none 0 0] ∧ Blk W (w.heap.size + 1) [.int .i64 0]) ?_) rep0) fun e a1 W1 hq => ?_)
  · rintro b2 w1 hb2 hw1 b3 w2 hb3 hw2
    have E1 : Ext w w1 := by rw [hw1]; exact (Ext.refl w).alloc _
    have E2 : Ext w1 w2 := by rw [hw2]; exact (Ext.refl w1).alloc _
    have z1 : w1.heap.size = w.heap.size + 1 := by rw [hw1]; simp
    have B2 : Blk w1 b2 [.slice none 0 0] := by rw [hb2, hw1]; exact Blk.new w _ _
    have B3 : Blk w2 b3 [.int .i64 0] := by rw [hb3, hw2]; exact Blk.new w1 _ _
    rw [hb2] at B2 ⊢
    rw [hb3, z1] at B3 ⊢
    exact ⟨rfl, rfl, rfl, E1.trans E2, by rw [hw2]; simp [z1], B2.ext E2, B3⟩
  cases e with
  | exit id => obtain ⟨_, _, _, _, _, h, _⟩ := hq; cases h
  | ret => obtain ⟨_, _, _, _, _, h, _⟩ := hq; cases h
  | goto l => exact hq.elim
  | panic ch => obtain ⟨_, _, _, hq⟩ := hq; exact hq.elim
  | outgrown => exact hq.elim
  | normal =>
  obtain ⟨f1, d1, r1, k1, rfl, -, hv, E1, z1, B2, B3⟩ := hq
  have f12 : f1 2 = .pointer (some ⟨w.heap.size, 0, none⟩) := by simpa using congrArg (fun l => l.getD 0 undef) hv
  have f13 : f1 3 = .pointer (some ⟨w.heap.size + 1, 0, none⟩) := by simpa using congrArg (fun l => l.getD 1 undef) hv
  have f10 : f1 0 = .string s := k1 0 (by decide +kernel)
  -- the length
  have oB := pB_ok
  simp only [Bool.and_eq_true, nt] at oB
  have u1 : upd (upd (upd f1 0 (.string s)) 2 (.pointer (some ⟨w.heap.size, 0, none⟩))) 3 (.pointer (some ⟨w.heap.size + 1, 0, none⟩)) = f1 := by rw [upd_self f10, upd_self f12, upd_self f13]
  refine wpIn_seq (wpIn_mono (fi_sound (m := 0) tabOkI (fokOkI []) open_wide _ _ _ _ _ W1 _ _ oB.1.1 oB.1.2 oB.2
    (pB_fi [] f1 s w.heap.size 0 (w.heap.size + 1) 0 W1 (fun e vs W => (e = .normal ∧ W = W1 ∧ ¬ (bs s).length > 16384) ∨ (e = .ret ∧ (bs s).length > 16384 ∧ Ext w W ∧ Blk W w.heap.size [.slice none 0 0] ∧ Blk W (w.heap.size + 1) [.int .i64 2])) ?_) (by rw [u1]; exact r1)) fun e a2 W2 hq => ?_)
  · refine cwd (fun h => ?_) fun h => ⟨rfl, .inl ⟨rfl, rfl, by omega⟩⟩
    refine ⟨B2.sto (by simp) (by simp [Value.oneCell']), ?_⟩
    rintro w1 rfl
    have g1 := grownBy_setCells W1 w.heap.size 0 [.slice none 0 0]
    have c3 := B3.grown g1 (fun e => by have := Option.some.inj e; omega)
    refine ⟨c3.sto (by simp) (by simp [Value.oneCell']), ?_⟩
    rintro w2 rfl
    have g2 := grownBy_setCells (W1.setCells w.heap.size 0 [.slice none 0 0]) (w.heap.size + 1) 0 [.int .i64 2]
    exact ⟨rfl, .inr ⟨rfl, by omega, Ext.grownB (Ext.grownB E1 (Nat.le_refl _) g1) (by omega) g2, (B2.set 0 [.slice none 0 0]).grown g2 (fun e => by have := Option.some.inj e; omega), c3.set 0 [.int .i64 2]⟩⟩
  cases e with
  | exit id => obtain ⟨_, _, _, _, _, h⟩ := hq; rcases h with ⟨h, _⟩ | ⟨h, _⟩ <;> cases h
  | goto l => exact hq.elim
  | panic ch => obtain ⟨_, _, _, hq⟩ := hq; exact hq.elim
  | outgrown => exact hq.elim
  | ret =>
    obtain ⟨f2, d2, r2, k2, rfl, h⟩ := hq
    rcases h with ⟨h, _⟩ | ⟨-, h1, h2, h3, h4⟩
    · cases h
    rw [u1] at k2
    have f22 := (k2 2 (by decide +kernel)).trans f12
    have f23 := (k2 3 (by decide +kernel)).trans f13
    have hpar : parse (bs s) = ([], 2) := by rw [parse, if_pos h1]
    have hend := endP (w := w) r2 f22 f23 h3 h4
    show LeavesInM _ _ _ _ _ _ a2.defers .returning W2
    rw [r2.1]
    have : R (.returned (.tuple #[.slice none 0 0, .int .i64 2])) W2 := by rw [hR, hpar]; exact ⟨none, 0, 0, rfl, ⟨rfl, by simp⟩, h2, by simp⟩
    simp only [LeavesInM, LeavesIn]
    exact ⟨_, hend, this⟩
  | normal =>
  obtain ⟨f2, d2, r2, k2, rfl, h⟩ := hq
  rcases h with ⟨-, rfl, hshort⟩ | ⟨h, _⟩
  rotate_left
  · cases h
  rw [u1] at k2
  have f20 := (k2 0 (by decide +kernel)).trans f10
  have f22 := (k2 2 (by decide +kernel)).trans f12
  have f23 := (k2 3 (by decide +kernel)).trans f13
  -- the list
  have oC := pC_ok
  simp only [Bool.and_eq_true, nt] at oC
  refine wpIn_seq (wpIn_mono (fi_sound (m := 0) tabOkI (fokOkI []) open_wide _ _ _ _ _ W2 _ _ oC.1.1 oC.1.2 oC.2
    (pC_fi [] f2 W2 (fun e vs W => e = .normal ∧ vs = [.pointer (some ⟨w.heap.size + 2, 0, none⟩)] ∧ Ext W2 W ∧ W.heap.size = w.heap.size + 3 ∧ Blk W (w.heap.size + 2) [.slice none 0 0]) ?_) r2) fun e a3 W3 hq => ?_)
  · rintro b4 w1 hb4 hw1
    have B4 : Blk w1 b4 [.slice none 0 0] := by rw [hb4, hw1]; exact Blk.new W2 _ _
    rw [hb4, z1] at B4 ⊢
    exact ⟨rfl, rfl, rfl, by rw [hw1]; exact (Ext.refl W2).alloc _, by rw [hw1]; simp [z1], B4⟩
  cases e with
  | exit id => obtain ⟨_, _, _, _, _, h, _⟩ := hq; cases h
  | ret => obtain ⟨_, _, _, _, _, h, _⟩ := hq; cases h
  | goto l => exact hq.elim
  | panic ch => obtain ⟨_, _, _, hq⟩ := hq; exact hq.elim
  | outgrown => exact hq.elim
  | normal =>
  obtain ⟨f3, d3, r3, k3, rfl, -, hv3, E3, z3, B4⟩ := hq
  have f34 : f3 4 = .pointer (some ⟨w.heap.size + 2, 0, none⟩) := by simpa using congrArg (fun l => l.getD 0 undef) hv3
  have f30 := (k3 0 (by decide +kernel)).trans f20
  have f32 := (k3 2 (by decide +kernel)).trans f22
  have f33 := (k3 3 (by decide +kernel)).trans f23
  -- the function that tells the pieces
  have oD := pD_ok
  simp only [Bool.and_eq_true, nt] at oD
  refine wpIn_seq (wpIn_seq (wpIn_mono (fi_sound (m := 0) tabOkI (fokOkI []) open_wide _ _ _ _ _ W3 _ _ oD.1.1 oD.1.2 oD.2
    (pD_fi [] f3 s W3 (fun e vs W => e = .normal ∧ vs = [.func (.func 106) #[] #[.pointer (some ⟨w.heap.size + 3, 0, none⟩)]] ∧ Ext W3 W ∧ W.heap.size = w.heap.size + 4 ∧ Blk W (w.heap.size + 3) [.string s]) ?_) (by rw [upd_self f30]; exact r3)) fun e a4 W4 hq => ?_))
  · refine f70_wp s W3 _ ?_
    rintro b5 w1 hb5 hw1
    have B5 : Blk w1 b5 [.string s] := by rw [hb5, hw1]; exact Blk.new W3 _ _
    rw [hb5, z3] at B5 ⊢
    exact ⟨_, rfl, rfl, rfl, rfl, by rw [hw1]; exact (Ext.refl W3).alloc _, by rw [hw1]; simp [z3], B5⟩
  cases e with
  | exit id => obtain ⟨_, _, _, _, _, h, _⟩ := hq; cases h
  | ret => obtain ⟨_, _, _, _, _, h, _⟩ := hq; cases h
  | goto l => exact hq.elim
  | panic ch => obtain ⟨_, _, _, hq⟩ := hq; exact hq.elim
  | outgrown => exact hq.elim
  | normal =>
  obtain ⟨f4, d4, r4, k4, rfl, -, hv4, E4, z4, B5⟩ := hq
  rw [upd_self f30] at k4
  have f47 : f4 17 = .func (.func 106) #[] #[.pointer (some ⟨w.heap.size + 3, 0, none⟩)] := by simpa using congrArg (fun l => l.getD 0 undef) hv4
  have f42 := (k4 2 (by decide +kernel)).trans f32
  have f43 := (k4 3 (by decide +kernel)).trans f33
  have f44 := (k4 4 (by decide +kernel)).trans f34
  -- the loop
  refine wpIn_block (wpIn_rangeFunc fun fn _ => ?_)
  obtain ⟨W5, hW5⟩ : ∃ W5, W5 = (W4.alloc (.deferred (some []))).alloc (.loop (loopRec w a4 .ready none fn)) := ⟨_, rfl⟩
  have E45 : Ext W4 W5 := by rw [hW5]; exact ((Ext.refl W4).alloc _).alloc _
  have z5 : W5.heap.size = w.heap.size + 6 := by rw [hW5]; simp [z4]
  have hL : W5.heap[w.heap.size + 5]? = some (.loop (loopRec w a4 .ready none fn)) := by
    rw [hW5]; have := World.alloc_heap_new (W4.alloc (.deferred (some []))) (.loop (loopRec w a4 .ready none fn)); rw [World.size_alloc, z4] at this; exact this
  have hD : W5.heap[w.heap.size + 4]? = some (.deferred (some [])) := by
    rw [hW5]
    have h1 : (W4.alloc (.deferred (some []))).heap[w.heap.size + 4]? = some (.deferred (some [])) := by have := World.alloc_heap_new W4 (.deferred (some [])); rw [z4] at this; exact this
    exact (Ext.block ((Ext.refl (W4.alloc (.deferred (some [])))).alloc _) (by simp [z4])).trans h1
  have hS : StP w fn a4 .ready none [] W5 := ⟨((E1.trans E3).trans E4).trans E45, by omega, ((B2.ext E3).ext E4).ext E45, ((B3.ext E3).ext E4).ext E45, ⟨none, 0, 0, (B4.ext E4).ext E45, Own.nil ..⟩, hL, hD⟩
  have a4d : a4.defers = [] := r4.1
  have ev4 : a4.eval (.tmp 17) = .func (.func 106) #[] #[.pointer (some ⟨w.heap.size + 3, 0, none⟩)] := by rw [r4.eval]; exact f47
  refine ⟨w.heap.size + 5, [{ target := .collected (w.heap.size + 4), args := #[] }], W5, { target := .fn (.func 106) #[.pointer (some ⟨w.heap.size + 3, 0, none⟩)], args := #[.func (.yield (w.heap.size + 5)) #[] #[]] }, W5, 106,
    #[.func (.yield (w.heap.size + 5)) #[] #[], .pointer (some ⟨w.heap.size + 3, 0, none⟩)], W5, ?_, ?_, fun _ _ => trivial, ?_, (fun h => by cases h), ?_⟩
  · have := run_enterLoop_outer (P := prg) (w := W4) fn a4.tmps #[18] (cL (cL (cR (cL (cR (cR (cR (Tryz.f28.body.getD .skip)))))))) (cR (cL (cR (cL (cR (cR (cR (Tryz.f28.body.getD .skip))))))))
    rw [z4] at this
    rw [hW5]; exact this
  · have ev5 : a4.tmps[17]?.getD undef = .func (.func 106) #[] #[.pointer (some ⟨w.heap.size + 3, 0, none⟩)] := by simpa [Act.eval] using ev4
    simp [resolve, rangeCall, Deferred.ofValue, Act.eval, ev5, Sem.run_pure]
  · have hfn : FnOk prg 106 := by
      have := fokOk_of (P := prg) (fs := [106]) (nx := []) (by kernel_rfl)
      exact this.1 _ (by decide)
    simp only [invoke]
    exact callFunc_run hfn _ W5
  refine open_wide.calls ((iter_ok (w := w) r4 f42 f43 f44 hS (bs s) (by omega) (by rw [mk_bs]; exact B5.ext E45) hg).mono fun e W6 he => ?_)
  obtain ⟨rfl, he⟩ := he
  have hpar : parse (bs s) = parseGo [] (pieces 38 (bs s)) := by rw [parse, if_neg hshort]
  have fin : ∀ (f5 : Fr) (a5 : Act) (W7 : World) (p : Option Addr) (n c : Nat) (err : Int), Rep [{ target := .collected (w.heap.size + 4), args := #[] }] 51 a5 f5 → f5 2 = .pointer (some ⟨w.heap.size, 0, none⟩) → f5 3 = .pointer (some ⟨w.heap.size + 1, 0, none⟩) →
      Blk W7 w.heap.size [.slice p n c] → Blk W7 (w.heap.size + 1) [.int .i64 err] → W7.heap[w.heap.size + 4]? = some (.deferred (some [])) → SlP W7 p n (parse (bs s)).1 → err = (parse (bs s)).2 → Ext w W7 → (∀ a, p = some a → w.heap.size ≤ a.block) →
      (∀ (W8 : World), W7.grownBy W8 (some (w.heap.size + 4)) → SlP W8 p n (parse (bs s)).1) → LeavesInM Fence.wide 0 prg Tryz.f28 a5.tmps R a5.defers .returning W7 := by
    intro f5 a5 W7 p n c err r5 h2 h3 b2 b3 hD7 hsl herr he7 hfar hsl8
    rw [r5.1]
    have hg8 := grownBy_putObj' W7 (w.heap.size + 4) (.deferred none)
    refine ⟨by simp, .inl ⟨_, _, rfl, run_takeDeferred hD7, ?_⟩⟩
    have hend := endP (w := w) r5 h2 h3 (b2.grown hg8 (fun e => by have := Option.some.inj e; omega)) (b3.grown hg8 (fun e => by have := Option.some.inj e; omega))
    have : R (.returned (.tuple #[.slice p n c, .int .i64 err])) (W7.putObj (w.heap.size + 4) (.deferred none)) := by
      rw [hR]; exact ⟨p, n, c, by rw [herr], hsl8 _ hg8, Ext.grownB he7 (by omega) hg8, hfar⟩
    simp only [LeavesInM, LeavesIn]
    exact ⟨_, hend, this⟩
  rcases he with ⟨acc, S6, hp⟩ | ⟨err, D6, hp⟩
  · refine ⟨none, _, run_endLoop S6.lp (by simp), ?_⟩
    have hgp := grownBy_putObj' W6 (w.heap.size + 5) (.loop (loopRec w a4 .exhausted none fn))
    have S7 := StP.put (st' := .exhausted) (pe' := none) S6
    obtain ⟨W7, hW7⟩ : ∃ W7, W7 = W6.putObj (w.heap.size + 5) (.loop (loopRec w a4 .exhausted none fn)) := ⟨_, rfl⟩
    rw [← hW7] at S7
    show Exit.inBlock 0 _ .normal _ (W6.putObj (w.heap.size + 5) (.loop (loopRec w a4 .exhausted none fn)))
    rw [← hW7]
    obtain ⟨p, n, c, b7, o7⟩ := S7.acc
    have r5 : Rep [{ target := .collected (w.heap.size + 4), args := #[] }] 51 { a4 with defers := [{ target := .collected (w.heap.size + 4), args := #[] }] ++ a4.defers } f4 := ⟨by simp [a4d], r4.2.1, r4.2.2⟩
    have u5 : upd (upd (upd f4 2 (.pointer (some ⟨w.heap.size, 0, none⟩))) 3 (.pointer (some ⟨w.heap.size + 1, 0, none⟩))) 4 (.pointer (some ⟨w.heap.size + 2, 0, none⟩)) = f4 := by rw [upd_self f42, upd_self f43, upd_self f44]
    have oF := pF_ok
    simp only [Bool.and_eq_true, nt] at oF
    refine wpIn_mono (fi_sound (m := 0) tabOkI (fokOkI []) open_wide _ _ _ [{ target := .collected (w.heap.size + 4), args := #[] }] _ W7 _ _ oF.1.1 oF.1.2 oF.2
      (pF_fi [{ target := .collected (w.heap.size + 4), args := #[] }] f4 w.heap.size 0 (w.heap.size + 1) 0 (w.heap.size + 2) 0 W7 (fun e vs W => e = .ret ∧ Ext w W ∧ Blk W w.heap.size [.slice p n c] ∧ Blk W (w.heap.size + 1) [.int .i64 0] ∧ W.heap[w.heap.size + 4]? = some (.deferred (some [])) ∧ Eng.Own W (w.heap.size + 6) 56 2 p n c (prCells acc)) ?_) (by rw [u5]; exact r5)) fun e a6 W8 hq => ?_
    · refine ⟨p, n, c, b7.cell rfl, S7.b2.sto (by simp) (by simp [Value.oneCell']), ?_⟩
      rintro w1 rfl
      have g1 := grownBy_setCells W7 w.heap.size 0 [.slice p n c]
      have c3 := S7.b3.grown g1 (fun e => by have := Option.some.inj e; omega)
      refine ⟨c3.sto (by simp) (by simp [Value.oneCell']), ?_⟩
      rintro w2 rfl
      have g2 := grownBy_setCells (W7.setCells w.heap.size 0 [.slice p n c]) (w.heap.size + 1) 0 [.int .i64 0]
      exact ⟨rfl, rfl, Ext.grownB (Ext.grownB S7.ext (Nat.le_refl _) g1) (by omega) g2, (S7.b2.set 0 [.slice p n c]).grown g2 (fun e => by have := Option.some.inj e; omega), c3.set 0 [.int .i64 0],
        grown_at g2 (grown_at g1 S7.df (fun e => by have := Option.some.inj e; omega)) (fun e => by have := Option.some.inj e; omega), Own.setOther' (Own.setOther' o7 (by omega) g1) (by omega) g2⟩
    · cases e with
      | exit id => obtain ⟨_, _, _, _, _, h, _⟩ := hq; cases h
      | normal => obtain ⟨_, _, _, _, _, h, _⟩ := hq; cases h
      | goto l => exact hq.elim
      | panic ch => obtain ⟨_, _, _, hq⟩ := hq; exact hq.elim
      | outgrown => exact hq.elim
      | ret =>
        obtain ⟨f5, d5, r6, k6, rfl, -, x1, x2, x3, x4, x5⟩ := hq
        rw [u5] at k6
        have hp' : parse (bs s) = (acc, 0) := hpar.trans hp
        refine fin f5 a6 W8 p n c 0 r6 ((k6 2 (by decide +kernel)).trans f42) ((k6 3 (by decide +kernel)).trans f43) x2 x3 x4 (by rw [hp']; exact own_slp x5) (by rw [hp']) x1 (fun a ha => by subst ha; have := (x5.lt a.block rfl).1; omega) fun W9 h9 => ?_
        rw [hp']; exact own_slp (Own.setOther' x5 (by omega) h9)
  · refine ⟨some .ret, _, run_endLoop D6.lp (by simp), ?_⟩
    have hgp := grownBy_putObj' W6 (w.heap.size + 5) (.loop (loopRec w a4 .exhausted (some .ret) fn))
    have hp' : parse (bs s) = ([], err) := hpar.trans hp
    have r5 : Rep [{ target := .collected (w.heap.size + 4), args := #[] }] 51 { a4 with defers := [{ target := .collected (w.heap.size + 4), args := #[] }] ++ a4.defers } f4 := ⟨by simp [a4d], r4.2.1, r4.2.2⟩
    refine wpIn_ret ?_
    refine fin f4 _ _ none 0 0 err r5 f42 f43 (D6.b2.grown hgp (fun e => by have := Option.some.inj e; omega)) (D6.b3.grown hgp (fun e => by have := Option.some.inj e; omega)) (grown_at hgp D6.df (fun e => by have := Option.some.inj e; omega)) (by rw [hp']; exact ⟨rfl, by simp⟩) (by rw [hp']) (Ext.grownB D6.ext (by omega) hgp) (by simp) fun W9 h9 => ?_
    rw [hp']; exact ⟨rfl, by simp⟩

end Go.Proofs.YtbbcofdibkgalaaGreatDoor
