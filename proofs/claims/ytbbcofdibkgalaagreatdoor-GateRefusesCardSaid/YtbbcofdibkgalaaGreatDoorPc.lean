/- Contracts: what appends. -/
import Derived.Test.YtbbcofdibkgalaaGreatDoorPb
set_option linter.unusedVariables false
namespace Go.Proofs.YtbbcofdibkgalaaGreatDoor
open Go.Eng

theorem elS : ElT prg 33 9 1 := ⟨by kernel_rfl, Tryz.t9, .string ⟨#[]⟩, 16, by kernel_rfl, by kernel_rfl, by kernel_rfl, by kernel_rfl, by kernel_rfl, by omega, by omega⟩
theorem cloneS_ok (p : Option Addr) (n c : Nat) (hn : n ≤ 1000000000000) (l : List ByteArray) (w : World) (h : SlC w p n (l.map .string)) :
    Calls prg 59 #[.slice p n c] w fun e w' => ∃ q d, e = .returned (.slice q n d) ∧ Own w' w.heap.size 9 1 q n d (l.map .string) ∧ Ext w w' ∧ (q = none ↔ p = none) := by
  refine f59_wp p n c w _ (cwb (fun g => ?_) fun g => ?_)
  · have hp : p = none := by simpa using g
    subst hp
    have h0 := SlC.none_len h
    subst h0
    have : l = [] := List.eq_nil_of_length_eq_zero h.len
    subst this
    exact ⟨none, 0, rfl, Own.nil .., Ext.refl w, Iff.rfl⟩
  · rintro b w1 rfl rfl
    have ho : Own (w.alloc (.cells #[] 9)) w.heap.size 9 1 (some ⟨w.heap.size, 0, none⟩) 0 0 [] := World.ownsRow_made w #[] 0 (Nat.le_refl _) (by simp [maxLen]) rfl
    obtain ⟨⟨b, o, s⟩, rfl⟩ : ∃ a, p = some a := by
      cases p with
      | none => simp at g
      | some a => exact ⟨a, rfl⟩
    have h' : SlC (w.alloc (.cells #[] 9)) (some ⟨b, o, s⟩) n (l.map .string) := h.ext ((Ext.refl w).alloc _)
    obtain ⟨p', c', w', hr, ho', hg, hn'⟩ := own_append_slc elS 33 ho (by simp) (q := some ⟨b, o, s⟩) (k := c) h' (by simp) (by simp [Value.oneCell']) (by omega)
    rw [Nat.zero_add] at hr ho'
    refine ⟨p', n, c', w', hr, p', c', rfl, ho', ?_, ?_⟩
    · exact Ext.grown ((Ext.refl w).alloc _) ho hg
    · rw [hn']; simp

end Go.Proofs.YtbbcofdibkgalaaGreatDoor
