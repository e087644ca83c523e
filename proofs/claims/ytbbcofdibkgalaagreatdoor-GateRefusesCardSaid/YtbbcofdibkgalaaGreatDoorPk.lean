/- Contracts: what recovers in Peek. -/
import Derived.Test.YtbbcofdibkgalaaGreatDoorWb
import Derived.Test.YtbbcofdibkgalaaGreatDoorEngR
import Derived.Test.YtbbcofdibkgalaaGreatDoorM
import Derived.Tactics
import Derived.Tactics2
import Derived.Defers
import Derived.Recover
import Derived.Laws.Pointers
import Derived.TacticsInMore
import Derived.RegionIn
import Derived.LoopNIn
import Derived.RecoverIn
set_option linter.unusedVariables false
set_option linter.unusedSimpArgs false
set_option maxRecDepth 100000
set_option maxHeartbeats 4000000
namespace Go.Proofs.YtbbcofdibkgalaaGreatDoor
open Go.Eng

theorem Blk.frozen {w : World} {b : Nat} {cs : List Value} (h : Blk w b cs) (o : Nat) : w.frozen? ⟨b, o, none⟩ = false := by
  obtain ⟨t, h⟩ := h
  exact frozen_of_row w b o cs.toArray t h
theorem Blk.setCell {w : World} {b : Nat} {cs : List Value} (h : Blk w b cs) (o : Nat) (v : Value) : Blk (w.setCell ⟨b, o, none⟩ v) b (cs.set o v) := h.set o [v]
theorem Blk.setCellO {w : World} {b b' : Nat} {cs : List Value} (h : Blk w b' cs) (hne : b' ≠ b) (o : Nat) (v : Value) : Blk (w.setCell ⟨b, o, none⟩ v) b' cs := h.setOther hne o [v]
theorem peekD_panic (b1 b2 : Nat) (hne : b2 ≠ b1) (w : World) (x1 x2 x3 x4 : Value) (h1 : Blk w b1 [x1, x2, x3]) (h2 : Blk w b2 [x4]) :
    CallsDIn Fence.wide 0 prg 86 #[.pointer (some ⟨b1, 0, none⟩), .pointer (some ⟨b2, 0, none⟩)] (.panicking [{ v := .iface 138 (.agg #[]), recovered := false }]) w fun e u' w' =>
      e = .returned (.tuple #[]) ∧ u' = .panicking [{ v := .iface 138 (.agg #[]), recovered := true }] ∧ w' = ((w.alloc (.cells #[] 138)).setCells b1 0 [.int .i64 0, .string ⟨#[]⟩, .int .i64 0]).setCells b2 0 [.int .i64 3] := by
  have nt : Tryz.f86.ntmps = 17 := by kernel_rfl
  refine callsDIn_of_wpSIn Tryz.func86 rfl trivial fun c₀ cs hu => ?_
  rw [nt]
  apply wpSIn_seq
  apply wpSIn_region
  simp [wpOpsSIn, go_sem, recoverD, hu, Exit.thenS]
  apply wpSIn_seq
  apply wpSIn_region
  simp [wpOpsSIn, go_sem, Exit.thenS]
  refine wpSIn_cond (t := true) (by simp [Act.eval, Array.replicate]) ?_
  simp only [if_true]
  apply wpSIn_seq
  apply wpSIn_seq
  apply wpSIn_region
  simp [wpOpsSIn, go_sem, Exit.thenS]
  apply wpSIn_seq
  apply wpSIn_region
  simp [wpOpsSIn, go_sem, Exit.thenS]
  refine wpSIn_cond (t := false) (by simp [Act.eval, Array.replicate]) ?_
  simp only [Bool.false_eq_true, if_false]
  refine wpSIn_of_wpIn rfl (wpIn_skip ?_)
  have B0 := h1.alloc (.cells #[] 138)
  have D0 := h2.alloc (.cells #[] 138)
  have B1 := Blk.setCell B0 0 (.int .i64 0)
  have B2 := Blk.setCell B1 1 (.string ⟨#[]⟩)
  have B3 := Blk.setCell B2 2 (.int .i64 0)
  have D3 := Blk.setCellO (Blk.setCellO (Blk.setCellO D0 hne 0 (.int .i64 0)) hne 1 (.string ⟨#[]⟩)) hne 2 (.int .i64 0)
  apply wpSIn_region
  simp [wpOpsSIn, go_sem, Exit.thenS, B0.cell (o := 0) rfl, Blk.frozen B0 0, B1.cell (o := 1) rfl, Blk.frozen B1 1, B2.cell (o := 2) rfl, Blk.frozen B2 2, D3.cell (o := 0) rfl, Blk.frozen D3 0, bodyPostS, results]
  rfl
theorem peekD_idle (b1 b2 : Nat) (w : World) :
    CallsDIn Fence.wide 0 prg 86 #[.pointer (some ⟨b1, 0, none⟩), .pointer (some ⟨b2, 0, none⟩)] .returning w fun e u' w' =>
      e = .returned (.tuple #[]) ∧ u' = .returning ∧ w' = w := by
  have nt : Tryz.f86.ntmps = 17 := by kernel_rfl
  refine callsDIn_of_wpSIn Tryz.func86 rfl trivial fun c₀ cs hu => ?_
  rw [nt]
  apply wpSIn_seq
  apply wpSIn_region
  simp [wpOpsSIn, go_sem, recoverD, hu, Exit.thenS]
  apply wpSIn_seq
  apply wpSIn_region
  simp [wpOpsSIn, go_sem, Exit.thenS]
  refine wpSIn_cond (t := false) (by simp [Act.eval, Array.replicate]) ?_
  simp only [Bool.false_eq_true, if_false]
  refine wpSIn_of_wpIn rfl (wpIn_skip ?_)
  cases c₀
  simp_all [bodyPostS, results]

end Go.Proofs.YtbbcofdibkgalaaGreatDoor
