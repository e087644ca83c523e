/- Contracts: strings.Builder. -/
import Derived.Test.YtbbcofdibkgalaaGreatDoorHb
import Derived.Test.YtbbcofdibkgalaaGreatDoorW7
import Derived.Lib.Builder
import Derived.Lib.AppendStr
import Derived.Lib.UnsafeStr
import Derived.Shelf.Strings.BuilderX
import Derived.WalkKit
import Derived.Laws.Externs
set_option linter.unusedVariables false
set_option linter.unusedSimpArgs false
namespace Go.Proofs.YtbbcofdibkgalaaGreatDoor
open Go.Eng Go.RowKit

theorem bX : (prg.info? 152).map (·.size) = some 2 := by kernel_rfl
theorem bL : liesAt prg prg.depth 152 (2 / prg.cellsOf 152) 0 152 1 = true := by kernel_rfl

set_option maxHeartbeats 1000000 in
set_option maxRecDepth 100000 in
theorem copyCheck_used (b : Nat) (w : World) (h0 : w.cell? ⟨b, 0, none⟩ = some (.pointer (some ⟨b, 0, none⟩))) :
    Calls prg 127 #[.pointer (some ⟨b, 0, none⟩)] w fun e w' => e = .returned (.tuple #[]) ∧ w' = w := by
  obtain ⟨j, hj, _⟩ := Option.map_eq_some_iff.1 bX
  go_enter Tryz.func127, Tryz.ntmps127
  go_wp2
  rw [Lib.run_neq_ptr_same w _ Tryz.underlying150 hj]
  go_wp2
  go_end0
  exact ⟨rfl, rfl⟩

set_option maxHeartbeats 1000000 in
set_option maxRecDepth 100000 in
theorem copyCheck_fresh (b : Nat) (w : World) (h0 : w.cell? ⟨b, 0, none⟩ = some (.pointer none)) (hsh : w.shape? b = some (152, 2)) (hfz : w.frozen? ⟨b, 0, none⟩ = false) :
    Calls prg 127 #[.pointer (some ⟨b, 0, none⟩)] w fun e w' => e = .returned (.tuple #[]) ∧ w' = w.setCell ⟨b, 0, none⟩ (.pointer (some ⟨b, 0, none⟩)) := by
  obtain ⟨j, hj, hjs⟩ := Option.map_eq_some_iff.1 bX
  go_enter Tryz.func127, Tryz.ntmps127
  go_wp2
  rw [Lib.run_to_unsafe w ⟨b, 0, none⟩ Tryz.underlying150 Tryz.underlying206 hj (by rw [hjs]; decide) hsh (Nat.zero_lt_succ 1)]
  simp only [Result.andThen]
  rw [Oper.upon_value]
  go_wp2
  rw [run_callFunc_extern Tryz.func163 (by kernel_rfl) (by kernel_rfl) (by kernel_rfl) (e := Extern.AbiNoEscape.same) (by kernel_rfl)]
  rw [Lib.run_noEscape]
  simp only [Result.andThen]
  rw [Oper.upon_value]
  go_wp2
  rw [Lib.run_from_unsafe w ⟨b, 0, none⟩ Tryz.underlying206 Tryz.underlying150 hj hsh bL]
  simp only [Result.andThen]
  rw [Oper.upon_value]
  go_wp2
  go_end0
  exact ⟨rfl, rfl⟩

/-- a builder of the call's own, and its bytes -/
abbrev Bld (w : World) (base b : Nat) (l : List UInt8) : Prop := Lib.IsBuilder 152 5 base b (bvs l) w
theorem copyCheck_ok (B b : Nat) (bs : List Value) (w : World) (h : Lib.IsBuilder 152 5 B b bs w) :
    Calls prg 127 #[.pointer (some ⟨b, 0, none⟩)] w fun e w' => e = .returned (.tuple #[]) ∧ (Lib.BuilderAt 152 5 B b (.pointer (some ⟨b, 0, none⟩)) bs w' ∧ Below B w w') := by
  rcases h with h | h
  · refine (copyCheck_fresh b w h.cell0 h.shape h.frozen0).mono ?_
    rintro e w' ⟨rfl, rfl⟩
    exact ⟨rfl, h.used _, (Below.refl B w).setCell (p := ⟨b, 0, none⟩) h.1 _⟩
  · refine (copyCheck_used b w h.cell0).mono ?_
    rintro e w' ⟨rfl, rfl⟩
    exact ⟨rfl, h, Below.refl B _⟩

theorem bvs_cells (s : ByteArray) : Lib.strCells s = bvs (bs s) := rfl
theorem neBu : (152 : Nat) ≠ 5 := by decide
theorem Bld.fresh (w : World) (base : Nat) (h : base ≤ w.heap.size) : Bld (w.alloc (.cells #[.pointer none, .slice none 0 0] 152)) base w.heap.size [] := by
  refine .inl ⟨h, .slice none 0 0, heap_alloc_new w _, Own.nil .., ?_⟩
  simp [Value.ownBlock]

theorem writeByte_ok (B b : Nat) (l : List UInt8) (c : UInt8) (w : World) (h : Bld w B b l) (hlen : l.length < 99999999999) (hBw : B ≤ w.heap.size) :
    Calls prg 94 #[.pointer (some ⟨b, 0, none⟩), .int .u8 (c.toNat : Int)] w fun e w' => e = .returned .nilIface ∧ Bld w' B b (l ++ [c]) ∧ Below B w w' := by
  refine f94_wp (some ⟨b, 0, none⟩) (c.toNat : Int) w _ ((copyCheck_ok B b (bvs l) w h).mono fun e w1 he => ?_)
  obtain ⟨rfl, ⟨hB, v, hbk, hown, hne⟩, hb1⟩ := he
  obtain ⟨p, n, cc, rfl⟩ : ∃ p n cc, v = .slice p n cc := by
    rcases hown.2 with ⟨hv, _⟩ | ⟨g, cap, cur, hv, _⟩ <;> exact ⟨_, _, _, hv⟩
  have hn : n = (bvs l).length := by
    rcases hown.2 with ⟨hv, h0⟩ | ⟨g, cap, cur, hv, _⟩
    · cases hv; rw [h0]
    · cases hv; rfl
  have B1 : Blk w1 b [.pointer (some ⟨b, 0, none⟩), .slice p n cc] := ⟨_, hbk⟩
  rw [← hn] at hown
  have hown : Own w1 B 5 1 p n cc (bvs l) := hown
  refine ⟨rfl, nilW_mk ⟨p, n, cc, B1.cell rfl, fun b_1 w2 h1 h2 => ?_⟩⟩
  have hsz := hb1.size
  rw [bvs_len] at hn
  obtain ⟨p', n', c', w3, hrun, hn', ho', hg⟩ := hown.app1 elB (by omega) (bv_one c) (by omega) 5 b_1 w2 h1 h2
  refine ⟨p', n', c', w3, hrun, nilW_mk ?_⟩
  have B3 := B1.grown hg hne
  refine ⟨B3.sto (by simp) (by simp [Value.oneCell']), ?_⟩
  rintro w4 rfl
  have hlt := B1.lt
  refine ⟨rfl, .inr ?_, ?_⟩
  · have hbk3 : w3.heap[b]? = some (.cells #[.pointer (some ⟨b, 0, none⟩), .slice p n cc] 152 (0, 0)) := (hg.block b hlt (fun e => hne e.symm)).trans hbk
    have hl' : (bvs (l ++ [c])).length = n' := by rw [bvs_len, List.length_append]; simp; omega
    exact Lib.BuilderAt.put hB hbk3 (v' := .slice p' n' c') (bs' := bvs (l ++ [c])) (by rw [hl', bvs_append]; exact ho') neBu
  · exact (Below.grown hb1 hg (by omega) fun k hk => (hown.lt k hk).1).setCell (p := ⟨b, 1, none⟩) hB _

theorem writeString_ok (B b : Nat) (l : List UInt8) (s : ByteArray) (w : World) (h : Bld w B b l) (hlen : l.length + s.size < 99999999999) (hBw : B ≤ w.heap.size) :
    Calls prg 95 #[.pointer (some ⟨b, 0, none⟩), .string s] w fun e w' => e = .returned (.tuple #[.int .i64 s.size, .nilIface]) ∧ Bld w' B b (l ++ bs s) ∧ Below B w w' := by
  refine f95_wp (some ⟨b, 0, none⟩) s w _ ((copyCheck_ok B b (bvs l) w h).mono fun e w1 he => ?_)
  obtain ⟨rfl, ⟨hB, v, hbk, hown, hne⟩, hb1⟩ := he
  obtain ⟨p, n, cc, rfl⟩ : ∃ p n cc, v = .slice p n cc := by
    rcases hown.2 with ⟨hv, _⟩ | ⟨g, cap, cur, hv, _⟩ <;> exact ⟨_, _, _, hv⟩
  have hn : n = (bvs l).length := by
    rcases hown.2 with ⟨hv, h0⟩ | ⟨g, cap, cur, hv, _⟩
    · cases hv; rw [h0]
    · cases hv; rfl
  have B1 : Blk w1 b [.pointer (some ⟨b, 0, none⟩), .slice p n cc] := ⟨_, hbk⟩
  refine ⟨rfl, nilW_mk ⟨p, n, cc, B1.cell rfl, ?_⟩⟩
  have hsz := hb1.size
  rw [bvs_len] at hn
  obtain ⟨i, z, bytes, hi, hz, hsz2, hby, hzs, h0, hle⟩ := elB.more
  have hz0 : Tryz.t5.zero = some (.int .u8 0) := by kernel_rfl
  obtain ⟨v', w2, hrun, ho', hg, hv'⟩ := Lib.run_append_own_string (P := prg) w1 B 23 9 23 5 Tryz.t5 elB.und (by kernel_rfl) (by kernel_rfl) hz0 (by kernel_rfl) (by kernel_rfl) (.slice p n cc) (bvs l).length (bvs l) hown s
    (by simp only [maxLen, bvs_len]; omega) (by rw [bvs_len]; omega) (by omega)
  obtain ⟨p', n', c', rfl⟩ : ∃ p n cc, v' = .slice p n cc := by
    rcases ho'.2 with ⟨hv, _⟩ | ⟨g, cap, cur, hv, _⟩ <;> exact ⟨_, _, _, hv⟩
  refine ⟨p', n', c', w2, hrun, nilW_mk ?_⟩
  have B3 := B1.grown hg hne
  refine ⟨B3.sto (by simp) (by simp [Value.oneCell']), ?_⟩
  rintro w4 rfl
  have hlt := B1.lt
  refine ⟨rfl, .inr ?_, ?_⟩
  · have hbk3 : w2.heap[b]? = some (.cells #[.pointer (some ⟨b, 0, none⟩), .slice p n cc] 152 (0, 0)) := (hg.block b hlt (fun e => hne e.symm)).trans hbk
    exact Lib.BuilderAt.put hB hbk3 (v' := .slice p' n' c') (bs' := bvs (l ++ bs s)) (by rw [bvs_append, List.length_append, ← bvs_cells, Lib.strCells_length]; exact ho') neBu
  · exact (Below.grown hb1 hg (by omega) fun k hk => (hown.lt k hk).1).setCell (p := ⟨b, 1, none⟩) hB _

end Go.Proofs.YtbbcofdibkgalaaGreatDoor
