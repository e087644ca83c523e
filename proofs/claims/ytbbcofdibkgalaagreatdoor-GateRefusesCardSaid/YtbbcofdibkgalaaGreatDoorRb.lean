/- Contracts: roll's New and get. -/
import Derived.Test.YtbbcofdibkgalaaGreatDoorRa
import Derived.Test.YtbbcofdibkgalaaGreatDoorW0
import Derived.Test.YtbbcofdibkgalaaGreatDoorW5
set_option linter.unusedVariables false
set_option linter.unusedSimpArgs false
namespace Go.Proofs.YtbbcofdibkgalaaGreatDoor
open Go.Eng
open Go.RowKit (Below)

def findC (k : ByteArray) : List Cl → Option Cl
  | [] => none
  | c :: r => if c.id = k then some c else findC k r
theorem findC_app (k : ByteArray) : ∀ (l r : List Cl), findC k (l ++ r) = (findC k l).or (findC k r)
  | [], r => by simp [findC]
  | c :: l, r => by
    simp only [List.cons_append, findC, findC_app k l r]
    by_cases h : c.id = k <;> simp [h]
abbrev zL : List Value := [.string ⟨#[]⟩, .string ⟨#[]⟩, .bool false, .slice none 0 0, .slice none 0 0, .slice none 0 0]
/-- what stands in the map -/
def RollM (w : World) (m : Nat) (l : List Cl) : Prop := ∃ es, Eng.MapAt w m es ∧ ∀ k, match findC k l with
  | none => findE k es.toList = none
  | some c => ∃ vs, findE k es.toList = some (.agg vs.toArray) ∧ ClV w c vs
def RollB (w : World) (b m : Nat) (l : List Cl) : Prop := Blk w b [.map (some m)] ∧ RollM w m l
theorem RollM.ext {w w' : World} {m : Nat} {l : List Cl} (h : RollM w m l) (he : Ext w w') : RollM w' m l := by
  obtain ⟨es, hM, hk⟩ := h
  refine ⟨es, hM.ext he, fun k => ?_⟩
  have := hk k
  cases hf : findC k l with
  | none => rw [hf] at this; exact this
  | some c =>
    rw [hf] at this
    obtain ⟨vs, h1, h2⟩ := this
    exact ⟨vs, h1, h2.ext he⟩
theorem RollB.ext {w w' : World} {b m : Nat} {l : List Cl} (h : RollB w b m l) (he : Ext w w') : RollB w' b m l := ⟨h.1.ext he, h.2.ext he⟩
theorem cell_map {w w' : World} {m : Nat} {es : Array MapEntry} (hM : Eng.MapAt w m es) (hg : w.grownBy w' (some m)) {a : Addr} {v : Value} (h : w.cell? a = some v) : w'.cell? a = some v := by
  have hlt := World.block_lt_of_cell? w a h
  have hne : a.block ≠ m := fun e => by
    obtain ⟨ck, hm, _⟩ := hM
    rw [World.cell?, e, hm] at h
    cases h
  have hb : w'.heap[a.block]? = w.heap[a.block]? := hg.block a.block hlt (fun e => hne (by have := Option.some.inj e; omega))
  rw [World.cell?, hb]; exact h
theorem SlC.map {w w' : World} {m : Nat} {es : Array MapEntry} (hM : Eng.MapAt w m es) (hg : w.grownBy w' (some m)) {p : Option Addr} {n : Nat} {vs : List Value} (h : SlC w p n vs) : SlC w' p n vs := by
  refine ⟨h.1, fun j v hj => ?_⟩
  obtain ⟨b, o, rfl, hc⟩ := nilW_def (h.2 j v hj)
  exact nilW_mk (cell_map hM hg hc)
theorem ClV.map {w w' : World} {m : Nat} {es : Array MapEntry} (hM : Eng.MapAt w m es) (hg : w.grownBy w' (some m)) {c : Cl} {vs : List Value} (h : ClV w c vs) : ClV w' c vs := by
  obtain ⟨p1, n1, c1, p2, n2, c2, p3, n3, c3, rfl, h1, h2, h3⟩ := h
  exact ⟨p1, n1, c1, p2, n2, c2, p3, n3, c3, rfl, SlC.map hM hg h1, SlC.map hM hg h2, SlC.map hM hg h3⟩
theorem clUnd : prg.underlying 67 = some (.map 9 71) := by kernel_rfl
def zCl : Value := .agg #[.string ⟨#[]⟩, .string ⟨#[]⟩, .bool false, .slice none 0 0, .slice none 0 0, .slice none 0 0]
theorem clZero (w : World) : (zeroValue 71).run prg w = .ok zCl w := Tryz.zeroValue71 w
def cl0 : Cl := ⟨⟨#[]⟩, ⟨#[]⟩, false, [], [], []⟩
theorem clv0 (w : World) : ClV w cl0 [.string ⟨#[]⟩, .string ⟨#[]⟩, .bool false, .slice none 0 0, .slice none 0 0, .slice none 0 0] := ⟨none, 0, 0, none, 0, 0, none, 0, 0, rfl, SlC.nil .., SlC.nil .., SlC.nil ..⟩
/-- the map, asked -/
theorem roll_lookup {w : World} {m : Nat} {l : List Cl} (h : RollM w m l) (k : ByteArray) : ∃ vs, ClV w ((findC k l).getD cl0) vs ∧ vs.length = 6 ∧
    ∀ W, Ext w W → (Instr.lookup 67 (.map (some m)) (.string k) true).run prg W = .ok (.tuple #[.agg vs.toArray, .bool (findC k l).isSome]) W := by
  obtain ⟨es, hM, hk⟩ := h
  have hk := hk k
  cases hf : findC k l with
  | none =>
    rw [hf] at hk
    refine ⟨_, clv0 w, rfl, fun W hW => ?_⟩
    have := run_lookup_str (P := prg) clUnd strUnd (clZero W) (hM.ext hW) k true
    rw [if_pos rfl, hk] at this
    exact this
  | some c =>
    rw [hf] at hk
    obtain ⟨vs, h1, h2⟩ := hk
    refine ⟨vs, h2, ?_, fun W hW => ?_⟩
    · obtain ⟨p1, n1, c1, p2, n2, c2, p3, n3, c3, rfl, _⟩ := h2; rfl
    have := run_lookup_str (P := prg) clUnd strUnd (clZero W) (hM.ext hW) k true
    rw [if_pos rfl, h1] at this
    exact this

/-- a slice of clients -/
def SlCl (w : World) (p : Option Addr) (n : Nat) (l : List Cl) : Prop := l.length = n ∧ ∀ j c, l[j]? = some c → nilW p fun b o => ∃ vs, ClV w c vs ∧ w.rangeAt b (o + j * 6) vs
theorem SlCl.ext {w w' : World} {p : Option Addr} {n : Nat} {l : List Cl} (h : SlCl w p n l) (he : Ext w w') : SlCl w' p n l := by
  refine ⟨h.1, fun j v hj => ?_⟩
  obtain ⟨b, o, rfl, vs, h1, h2⟩ := nilW_def (h.2 j v hj)
  exact ⟨vs, h1.ext he, fun i v hi => Ext.cell he (h2 i v hi)⟩
theorem SlCl.at {w : World} {p : Option Addr} {n : Nat} {l : List Cl} (h : SlCl w p n l) {i : Int} (h0 : 0 ≤ i) (h1 : i < (n : Int)) :
    ∃ c b o vs, l[i.toNat]? = some c ∧ p = some ⟨b, o, none⟩ ∧ ClV w c vs ∧ w.rangeAt b (o + i.toNat * 6) vs := by
  have hl : i.toNat < l.length := by rw [h.1]; omega
  obtain ⟨b, o, hp, vs, hc⟩ := nilW_def (h.2 i.toNat _ (List.getElem?_eq_getElem hl))
  exact ⟨_, b, o, vs, List.getElem?_eq_getElem hl, hp, hc⟩

/-- may these be a roll? -/
def newOk : List Cl → List Cl → Bool
  | _, [] => true
  | d, c :: r => (findC c.id d).isNone && (rightC c && newOk (d ++ [c]) r)
def rollOk (l : List Cl) : Bool := decide (l.length ≤ 64) && newOk [] l
def NewR (w : World) (l : List Cl) (e : Ending) (w' : World) : Prop := Ext w w' ∧
  ((rollOk l = false ∧ e = .returned (.tuple #[.pointer none, .int .i64 1])) ∨ (rollOk l = true ∧ ∃ b m, e = .returned (.tuple #[.pointer (some ⟨b, 0, none⟩), .int .i64 0]) ∧ RollB w' b m l))
theorem new_ok (p : Option Addr) (n c : Nat) (l : List Cl) (hl : ∀ x ∈ l, ClB x) (w : World) (h : SlCl w p n l) (hn : n ≤ 1000000000) :
    Calls prg 10 #[.slice p n c] w (NewR w l) := by
  have hlen := h.1
  refine f10_wp p n c w _ (cwd (fun g => ⟨Ext.refl w, .inl ⟨?_, rfl⟩⟩) fun g => ?_)
  · rw [rollOk, decide_eq_false (by omega)]; rfl
  have hro : rollOk l = newOk [] l := by rw [rollOk, decide_eq_true (by omega)]; rfl
  intro m w1 hm hw1 b w2 hb hw2
  have E1 : Ext w w1 := by rw [hw1]; exact (Ext.refl w).alloc _
  have E2 : Ext w1 w2 := by rw [hw2]; exact (Ext.refl w1).alloc _
  have z1 : w1.heap.size = w.heap.size + 1 := by rw [hw1]; simp
  have z2 : w2.heap.size = w.heap.size + 2 := by rw [hw2]; simp [z1]
  have M1 : Eng.MapAt w1 m #[] := by rw [hm, hw1]; exact MapAt.new w
  have B2 : Blk w2 b [.map (some m)] := by rw [hb, hw2]; exact Blk.new w1 _ _
  have hbm : b ≠ m := by omega
  refine ⟨fun i W => 0 ≤ i ∧ i ≤ n ∧ Ext w W ∧ w2.heap.size ≤ W.heap.size ∧ RollB W b m (l.take i.toNat) ∧ newOk [] l = newOk (l.take i.toNat) (l.drop i.toNat), fun i _ => (n - i).toNat,
    ⟨by omega, by omega, E1.trans E2, Nat.le_refl _, ⟨B2, #[], M1.ext E2, fun k => rfl⟩, rfl⟩, ?_⟩
  rintro i fr w3 ⟨i0, i1, E3, z3, R3, hN⟩
  refine cwd (fun hi => ?_) fun hi => ?_
  rotate_left
  · refine ⟨E3, .inr ⟨?_, b, m, rfl, ?_⟩⟩
    · rw [hro, hN, List.drop_eq_nil_of_le (by omega), newOk]
    · rw [List.take_of_length_le (by omega)] at R3; exact R3
  obtain ⟨x, bk, of, vs, hx, rfl, hV, hrg⟩ := (h.ext E3).at i0 hi
  have hxm : x ∈ l := List.mem_of_getElem? hx
  rw [drop_at hx, newOk] at hN
  obtain ⟨p1, n1, c1, p2, n2, c2, p3, n3, c3, rfl, hv1, hv2, hv3⟩ := hV
  refine ⟨i0, hi, nilW_mk ⟨_, _, _, _, _, _, _, _, _, _, _, _, hrg, ?_⟩⟩
  intro k2 w4 hk2 hw4
  have E4 : Ext w3 w4 := by rw [hw4]; exact (Ext.refl w3).alloc _
  have B4 : Blk w4 k2 zL := by rw [hk2, hw4]; exact Blk.new w3 _ _
  have z4 : w4.heap.size = w3.heap.size + 1 := by rw [hw4]; simp
  refine ⟨B4.sto (by simp) (by simp [Value.oneCell']), ?_⟩
  rintro w5 hw5
  have B5 := B4.set 0 [.string x.id, .string x.sec, .bool x.pub, .slice p1 n1 c1, .slice p2 n2 c2, .slice p3 n3 c3]
  simp only [zL, setL, List.set] at B5
  rw [← hw5] at B5
  have E5 : Ext w3 w5 := by rw [hw5]; exact E4.setCells (by omega) _
  have z5 : w5.heap.size = w4.heap.size := by rw [hw5]; exact (setCells_heap _ _ _ _).1
  refine ⟨_, _, _, _, _, _, _, _, _, _, _, _, B5.all, ?_⟩
  intro k3 w6 hk3 hw6
  have E6 : Ext w5 w6 := by rw [hw6]; exact (Ext.refl w5).alloc _
  have B6 : Blk w6 k3 zL := by rw [hk3, hw6]; exact Blk.new w5 _ _
  have z6 : w6.heap.size = w5.heap.size + 1 := by rw [hw6]; simp
  refine ⟨B6.sto (by simp) (by simp [Value.oneCell']), ?_⟩
  rintro w7 hw7
  have B7 := B6.set 0 [.string x.id, .string x.sec, .bool x.pub, .slice p1 n1 c1, .slice p2 n2 c2, .slice p3 n3 c3]
  simp only [zL, setL, List.set] at B7
  rw [← hw7] at B7
  have E7 : Ext w3 w7 := by rw [hw7]; exact (E5.trans E6).setCells (by omega) _
  have z7 : w7.heap.size = w6.heap.size := by rw [hw7]; exact (setCells_heap _ _ _ _).1
  have R7 := R3.ext E7
  obtain ⟨vs, hV, hvl, hlk⟩ := roll_lookup R7.2 x.id
  obtain ⟨q1, m1, d1, q2, m2, d2, q3, m3, d3, rfl, hw1', hw2', hw3'⟩ := hV
  refine ⟨fun W => Ext w7 W, (Ext.refl w7).drew, some m, fun W hW => (R7.1.ext hW).cell rfl, x.id, fun W hW => (B7.ext hW).cell rfl, _, _, _, _, _, _, _, _, _, _, _, _, _, hlk, ?_⟩
  intro k4 w11 hk4 hw11
  have E11 : Ext w7 w11 := by rw [hw11]; exact ((Ext.refl w7).drew).alloc _
  have B11 : Blk w11 k4 zL := by rw [hk4, hw11]; exact Blk.new w7.drew _ _
  refine ⟨E11, B11.sto (by simp) (by simp [Value.oneCell']), ?_⟩
  rintro w12 hw12
  have E12 : Ext w7 w12 := by rw [hw12]; exact E11.setCells (by rw [hk4]; exact Nat.le_refl _) _
  refine cwb (fun g1 => ⟨(E3.trans E7).trans E12, .inl ⟨?_, rfl⟩⟩) fun g1 => ?_
  · rw [hro, hN]
    cases hf : findC x.id (l.take i.toNat) with
    | none => rw [hf] at g1; cases g1
    | some y => rfl
  have hf : findC x.id (l.take i.toNat) = none := by
    cases hf : findC x.id (l.take i.toNat) with
    | none => rfl
    | some y => rw [hf] at g1; cases g1
  rw [hf] at hN
  have B12 := B7.ext E12
  refine ⟨_, _, _, _, _, _, _, _, _, _, _, _, B12.all, ?_⟩
  have hb' := hl x hxm
  refine (rightC_ok x hb' _ w12 ⟨p1, n1, c1, p2, n2, c2, p3, n3, c3, rfl, (hv1.ext E7).ext E12, (hv2.ext E7).ext E12, (hv3.ext E7).ext E12⟩).mono fun e w13 he => ?_
  obtain ⟨rfl, e13⟩ := he
  have E13 := E12.trans e13
  refine ⟨_, rfl, cwb (fun g2 => ⟨(E3.trans E7).trans E13, .inl ⟨?_, rfl⟩⟩) fun g2 => ?_⟩
  · have g' : rightC x = false := by simpa using g2
    rw [hro, hN, g']; simp
  have hr : rightC x = true := by simpa using g2
  rw [hr] at hN
  have E13d : Ext w7 w13.drew := E13.drew
  refine ⟨fun W => Ext w7 W, E13d, some m, fun W hW => (R7.1.ext hW).cell rfl, x.id, fun W hW => (B7.ext hW).cell rfl, _, _, _, _, _, _, _, _, _, _, _, _, fun W hW => (B7.ext hW).all, ?_⟩
  have hl1 := hv1.len
  have hl2 := hv2.len
  have hl3 := hv3.len
  have hr1 := hb'.red
  have hr2 := hb'.sco
  have hr3 := hb'.gra
  refine (own_ok x.id x.sec x.pub p1 n1 c1 p2 n2 c2 p3 n3 c3 x.red x.sco x.gra w13.drew ((hv1.ext E7).ext E13d) ((hv2.ext E7).ext E13d) ((hv3.ext E7).ext E13d) (by omega) (by omega) (by omega)).mono fun e w17 he => ?_
  obtain ⟨q1', d1', q2', d2', q3', d3', rfl, y1, y2, y3, e17⟩ := he
  have E17 : Ext w7 w17 := E13d.trans e17
  refine ⟨_, _, _, _, _, _, _, _, _, _, _, _, rfl, E17, ?_⟩
  obtain ⟨B17, es, M17, hk17⟩ := R7.ext E17
  obtain ⟨w18, es', hr18, M18, hf18, _, hg18⟩ := run_update_str clUnd strUnd M17 x.id (.agg #[.string x.id, .string x.sec, .bool x.pub, .slice q1' n1 d1', .slice q2' n2 d2', .slice q3' n3 d3'])
  refine ⟨w18, hr18, ?_⟩
  rw [wrap_i64 (by omega) (by omega)]
  refine ⟨⟨by omega, by omega, Ext.grownB ((E3.trans E7).trans E17) (by omega) hg18, ?_, ⟨B17.grown hg18 (fun e => hbm (by have := Option.some.inj e; omega)), es', M18, fun k => ?_⟩, ?_⟩, by dsimp only; omega⟩
  · have := E7.size; have := E17.size; have := hg18.size; omega
  · rw [show (i + 1).toNat = i.toNat + 1 by omega, take_snoc hx, findC_app]
    have h17 := hk17 k
    cases hfk : findC k (l.take i.toNat) with
    | some y =>
      rw [hfk] at h17
      obtain ⟨vs, h1, h2⟩ := h17
      have hne : k ≠ x.id := fun e => by rw [e, hf] at hfk; cases hfk
      exact ⟨vs, by rw [hf18 k, if_neg hne]; exact h1, h2.map M17 hg18⟩
    | none =>
      rw [hfk] at h17
      simp only [Option.none_or, findC]
      by_cases hk : x.id = k
      · rw [if_pos hk]
        refine ⟨[.string x.id, .string x.sec, .bool x.pub, .slice q1' n1 d1', .slice q2' n2 d2', .slice q3' n3 d3'], by rw [hf18 k, if_pos hk.symm], q1', n1, d1', q2', n2, d2', q3', n3, d3', rfl, ?_, ?_, ?_⟩
        · exact SlC.map M17 hg18 y1.slc
        · exact SlC.map M17 hg18 y2.slc
        · exact SlC.map M17 hg18 y3.slc
      · rw [if_neg hk]
        show findE k es'.toList = none
        rw [hf18 k, if_neg (fun e => hk e.symm)]; exact h17
  · rw [show (i + 1).toNat = i.toNat + 1 by omega, take_snoc hx]
    rw [hN]; rfl

/-- a client as it stands -/
theorem rget_ok (b m : Nat) (l : List Cl) (id : ByteArray) (w : World) (h : RollB w b m l) :
    Calls prg 42 #[.pointer (some ⟨b, 0, none⟩), .string id] w fun e w' => ∃ vs, e = .returned (.tuple #[.agg vs.toArray, .bool (findC id l).isSome]) ∧ ClV w' ((findC id l).getD cl0) vs ∧ Ext w w' := by
  refine f42_wp (some ⟨b, 0, none⟩) id w _ ?_
  intro k1 w1 hk1 hw1
  have E1 : Ext w w1 := by rw [hw1]; exact (Ext.refl w).alloc _
  have B1 : Blk w1 k1 zL := by rw [hk1, hw1]; exact Blk.new w _ _
  have z1 : w1.heap.size = w.heap.size + 1 := by rw [hw1]; simp
  have R1 := h.ext E1
  refine cwb (fun g => by cases g) fun _ => nilW_mk ⟨some m, R1.1.cell rfl, ?_⟩
  obtain ⟨vs, hV, hvl, hlk⟩ := roll_lookup h.2 id
  obtain ⟨q1, m1, d1, q2, m2, d2, q3, m3, d3, rfl, y1, y2, y3⟩ := hV
  refine ⟨_, _, _, _, _, _, _, _, _, _, _, _, _, hlk w1 E1, ?_⟩
  intro k3 w3 hk3 hw3
  have E3 : Ext w1 w3 := by rw [hw3]; exact (Ext.refl w1).alloc _
  have B3 : Blk w3 k3 zL := by rw [hk3, hw3]; exact Blk.new w1 _ _
  refine ⟨B3.sto (by simp) (by simp [Value.oneCell']), ?_⟩
  intro w4 hw4
  have B4 := B3.set 0 [.string ((findC id l).getD cl0).id, .string ((findC id l).getD cl0).sec, .bool ((findC id l).getD cl0).pub, .slice q1 m1 d1, .slice q2 m2 d2, .slice q3 m3 d3]
  simp only [zL, setL, List.set] at B4
  rw [← hw4] at B4
  have E4 : Ext w1 w4 := by rw [hw4]; exact E3.setCells (by omega) _
  have C4 : Blk w4 k1 zL := B1.ext E4
  refine ⟨_, _, _, _, _, _, _, _, _, _, _, _, B4.all, C4.sto (by simp) (by simp [Value.oneCell']), ?_⟩
  intro w5 hw5
  have C5 := C4.set 0 [.string ((findC id l).getD cl0).id, .string ((findC id l).getD cl0).sec, .bool ((findC id l).getD cl0).pub, .slice q1 m1 d1, .slice q2 m2 d2, .slice q3 m3 d3]
  simp only [zL, setL, List.set] at C5
  rw [← hw5] at C5
  have E5 : Ext w w5 := by rw [hw5]; exact (E1.trans E4).setCells (by omega) _
  refine ⟨_, _, _, _, _, _, _, _, _, _, _, _, C5.all, _, rfl, (show ClV w _ _ from ⟨q1, m1, d1, q2, m2, d2, q3, m3, d3, rfl, y1, y2, y3⟩).ext E5, E5⟩

end Go.Proofs.YtbbcofdibkgalaaGreatDoor
