/- What the row's list gives of the world; the witness's world. -/
import Derived.Test.YtbbcofdibkgalaaGreatDoorGw
import Derived.Test.YtbbcofdibkgalaaGreatDoorCards
import Derived.Test.YtbbcofdibkgalaaGreatDoorTie
import Derived.WalkKit
import Derived.ProofKit
import Derived.OpenShut
import Derived.Deep.DeepHandedRow
import Derived.Deep.DeepWitnessRowRef
import Derived.Lib.LaidTab
import Derived.Stop.LaidErr
import Derived.Lay
set_option linter.unusedVariables false
set_option linter.unusedSimpArgs false
namespace Go.Proofs.YtbbcofdibkgalaaGreatDoor
open Go.Eng

theorem own0 : ownKnob prg.godebug = none := by kernel_rfl
theorem laid_tail {P : Program} {W : World} {x : String × DataW Unit} {r : List (String × DataW Unit)} (h : laidMet P (x :: r) W) : laidMet P r W := by
  obtain ⟨n, d⟩ := x
  obtain ⟨ps, ⟨g, t, cs, fuel, p, q, _, _, _, _, hr, rfl⟩, hn, hc⟩ := h
  exact ⟨q, hr, (List.nodup_append.1 hn).2.1, fun b off hp => hc b off (List.mem_append_right _ hp)⟩
abbrev laidL : List (String × DataW Unit) := [("math/bits.deBruijn32tab", Rows.laid_math_bits_deBruijn32tab), ("math/bits.deBruijn64tab", Rows.laid_math_bits_deBruijn64tab), ("internal/strconv.uint64pow10", Rows.laid_internal_strconv_uint64pow10), ("unicode/utf8.acceptRanges", Rows.laid_unicode_utf8_acceptRanges), ("strconv.ErrRange", Rows.laid_strconv_ErrRange), ("strconv.ErrSyntax", Rows.laid_strconv_ErrSyntax), ("unicode/utf8.first", Rows.laid_unicode_utf8_first)]
theorem starE : "*" ++ "errors.errorString" = "*errors.errorString" := by decide
theorem rowE (u : TypeId) (h : prg.typeName? 3 u = some "*errors.errorString") : u = 252 :=
  typeName_ptr_named (nm := "errors.errorString") (by rw [starE]; kernel_rfl) (by kernel_rfl) (by decide) u (by rw [starE]; exact h)
theorem powEq : (Rows.laid_internal_strconv_uint64pow10 : DataW Unit) = Lib.tabData .u64 Lib.pow10Tab := by kernel_rfl
theorem gw_of {W : World} (hL : laidMetH prg laidL W) (hS : W.ShapedOpen prg) : GW W := by
  have hL : laidMet prg laidL W := hL
  have h3 := laid_tail (laid_tail hL)
  have h5 := laid_tail (laid_tail h3)
  have h6 := laid_tail h5
  refine ⟨Tryz.laysM144.s1_3 W hS, ?_, ?_, ?_⟩
  · rw [powEq] at h3
    exact Lib.tabIs_of_head (g := 3) (t := 273) (e := 57) (n := 20) (by kernel_rfl) (by kernel_rfl) (by kernel_rfl) (by kernel_rfl) (by kernel_rfl) (by kernel_rfl) h3
  · obtain ⟨a, s, hv, _⟩ := laid_sentinel (g := 1) (ti := 144) (tp := 252) (te := 254) (ts := 9) h6 (by kernel_rfl) (by kernel_rfl) Tryz.underlying144 rowE (by kernel_rfl) Tryz.underlying254 rfl rfl (by kernel_rfl) (by kernel_rfl) (by kernel_rfl)
    exact ⟨_, _, hv⟩
  · obtain ⟨a, s, hv, _⟩ := laid_sentinel (g := 2) (ti := 144) (tp := 252) (te := 254) (ts := 9) h5 (by kernel_rfl) (by kernel_rfl) Tryz.underlying144 rowE (by kernel_rfl) Tryz.underlying254 rfl rfl (by kernel_rfl) (by kernel_rfl) (by kernel_rfl)
    exact ⟨_, _, hv⟩
/-- the witness's world -/
noncomputable def laidWorld (os : Os) : World := World.laidAll prg os laidL
theorem laid_met (os : Os) (args : Array Value) : laidMet prg laidL ((laidWorld os).forCall (fun _ _ => 0) ⟨#[], args, []⟩).memory :=
  laidMet_laidAll args (by kernel_rfl) (by kernel_rfl)

end Go.Proofs.YtbbcofdibkgalaaGreatDoor
