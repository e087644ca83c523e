/- What is known of the library's variables; library calls in plain words. -/
import Derived.Test.YtbbcofdibkgalaaGreatDoorHb
import Derived.Test.YtbbcofdibkgalaaGreatDoorQf
import Derived.Test.YtbbcofdibkgalaaGreatDoorShelf
set_option linter.unusedVariables false
set_option linter.unusedSimpArgs false
namespace Go.Proofs.YtbbcofdibkgalaaGreatDoor
open Go.Eng
open Go.RowKit (Below)

structure GW (w : World) : Prop where
  ml : ∃ m, w.cell? ⟨0, 0, none⟩ = some (.int .i64 m)
  tab : Lib.TabIs prg w "internal/strconv.uint64pow10" .u64 Lib.pow10Tab
  es : ∃ tp p, w.var? prg "strconv.ErrSyntax" = some #[.iface tp p]
  er : ∃ tp p, w.var? prg "strconv.ErrRange" = some #[.iface tp p]
theorem var_ext {w w' : World} (h : Ext w w') {n : String} {v : Array Value} (hv : w.var? prg n = some v) : w'.var? prg n = some v := by
  unfold World.var? at hv ⊢
  cases hg : prg.globalNamed n with
  | none => rw [hg] at hv; cases hv
  | some g =>
    rw [hg] at hv
    simp only [Option.bind_some] at hv ⊢
    cases ho : w.heap[g]? with
    | none => rw [ho] at hv; cases hv
    | some o =>
      rw [ho] at hv
      rw [Ext.block h (Array.getElem?_eq_some_iff.1 ho).1, ho]
      exact hv
theorem GW.ext {w w' : World} (h : GW w) (he : Ext w w') : GW w' := by
  obtain ⟨m, hm⟩ := h.ml
  obtain ⟨t1, p1, h1⟩ := h.es
  obtain ⟨t2, p2, h2⟩ := h.er
  exact ⟨⟨m, Ext.cell he hm⟩, var_ext he h.tab, ⟨t1, p1, var_ext he h1⟩, ⟨t2, p2, var_ext he h2⟩⟩

theorem libIndex (c : UInt8) : ∀ l : List UInt8, (Lib.index l [c] = -1 ∧ (cutB c l).2.2 = false) ∨ (∃ i : Nat, Lib.index l [c] = i ∧ (cutB c l).2.2 = true ∧ (cutB c l).1 = l.take i ∧ (cutB c l).2.1 = l.drop (i + 1))
  | [] => .inl ⟨rfl, rfl⟩
  | a :: r => by
    by_cases h : a = c
    · subst h
      exact .inr ⟨0, by simp [Lib.index, List.isPrefixOf], by simp [cutB], by simp [cutB], by simp [cutB]⟩
    · have hp : ([c].isPrefixOf (a :: r)) = false := by simp [List.isPrefixOf, Ne.symm h]
      rcases libIndex c r with ⟨h1, h2⟩ | ⟨i, h1, h2, h3, h4⟩
      · refine .inl ⟨by unfold Lib.index; rw [hp, h1]; rfl, by rw [cutB, if_neg h]; exact h2⟩
      · refine .inr ⟨i + 1, ?_, by rw [cutB, if_neg h]; exact h2, by rw [cutB, if_neg h]; simp [h3], by rw [cutB, if_neg h]; simp [h4]⟩
        unfold Lib.index
        rw [hp, h1]
        have : ((i : Int) == -1) = false := by rw [beq_eq_false_iff_ne]; omega
        simp [this]
theorem libCut (c : UInt8) (l : List UInt8) : Lib.cut l [c] = cutB c l := by
  unfold Lib.cut
  rcases libIndex c l with ⟨h1, h2⟩ | ⟨i, h1, h2, h3, h4⟩
  · have := cutB_no c l h2
    rw [h1, if_neg (by omega)]
    exact Prod.ext this.1.symm (Prod.ext this.2.symm h2.symm)
  · rw [h1, if_pos (by omega)]
    refine Prod.ext ?_ (Prod.ext ?_ h2.symm)
    · rw [h3]; rfl
    · rw [h4]; rfl
theorem Ext.drewN {a b : World} (h : Ext a b) (n : Nat) : Ext a (b.drewN n) := ⟨h.os, h.tape, h.output, h.size, fun k hk => Ext.block h hk⟩
theorem cut_ok (s : ByteArray) (c : UInt8) (hs : s.size < 4294967281) (w : World) (hg : GW w) :
    Calls prg 71 #[.string s, .string ⟨#[c]⟩] w fun e w' => e = .returned (.tuple #[.string (mk (cutB c (bs s)).1), .string (mk (cutB c (bs s)).2.1), .bool (cutB c (bs s)).2.2]) ∧ ∃ n, w' = w.drewN n := by
  obtain ⟨m, hm⟩ := hg.ml
  refine (Tryz.strings_Cut s ⟨#[c]⟩ m w hs hm).mono fun e w' he => ?_
  rw [show (⟨#[c]⟩ : ByteArray).data.toList = [c] from rfl, libCut] at he
  exact he

end Go.Proofs.YtbbcofdibkgalaaGreatDoor
