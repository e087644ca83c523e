/- Memory: blocks of the call's own that hold a struct or a variable. -/
import Derived.Test.YtbbcofdibkgalaaGreatDoorH
set_option linter.unusedVariables false
namespace Go.Eng

/-- block b is cells, and these -/
def Blk (w : World) (b : Nat) (cs : List Value) : Prop := ∃ t, w.heap[b]? = some (.cells cs.toArray t (0, 0))
theorem Blk.lt {w : World} {b : Nat} {cs : List Value} (h : Blk w b cs) : b < w.heap.size := by
  obtain ⟨t, h⟩ := h
  exact (Array.getElem?_eq_some_iff.1 h).1
theorem Blk.new (w : World) (cs : List Value) (t : TypeId) : Blk (w.alloc (.cells cs.toArray t)) w.heap.size cs := ⟨t, heap_alloc_new w _⟩
theorem Blk.ext {a w : World} {b : Nat} {cs : List Value} (h : Blk a b cs) (he : Ext a w) : Blk w b cs := by
  have hl := h.lt
  obtain ⟨t, h⟩ := h
  exact ⟨t, (Ext.block he hl).trans h⟩
theorem Blk.drew {w : World} {b : Nat} {cs : List Value} (h : Blk w b cs) : Blk w.drew b cs := h
theorem Blk.alloc {w : World} {b : Nat} {cs : List Value} (h : Blk w b cs) (o : Obj) : Blk (w.alloc o) b cs := h.ext ((Ext.refl w).alloc o)
theorem Blk.cell {w : World} {b : Nat} {cs : List Value} (h : Blk w b cs) {o : Nat} {v : Value} (hv : cs[o]? = some v) : w.cell? ⟨b, o, none⟩ = some v := by
  obtain ⟨t, h⟩ := h
  rw [cell_of_row w b o cs.toArray t (0, 0) h]
  simpa using hv
theorem Blk.range {w : World} {b : Nat} {cs : List Value} (h : Blk w b cs) {o : Nat} {vs : List Value} (hv : ∀ j v, vs[j]? = some v → cs[o + j]? = some v) : w.rangeAt b o vs := fun j v hj => h.cell (hv j v hj)
theorem Blk.all {w : World} {b : Nat} {cs : List Value} (h : Blk w b cs) : w.rangeAt b 0 cs := h.range fun j v hj => by rw [Nat.zero_add]; exact hj
theorem Blk.sto {w : World} {b : Nat} {cs : List Value} (h : Blk w b cs) {o : Nat} {vs : List Value} (hl : o + vs.length ≤ cs.length) (h1 : ∀ v ∈ vs, v.oneCell' = true) : Sto w b o vs := by
  refine ⟨fun j hj => ⟨?_, ?_⟩, h1⟩
  · rw [h.cell (List.getElem?_eq_getElem (show o + j < cs.length by omega))]; rfl
  · obtain ⟨t, h⟩ := h
    exact frozen_of_row w b (o + j) cs.toArray t h
/-- cs with vs from place o on -/
def setL : List Value → Nat → List Value → List Value
  | cs, _, [] => cs
  | cs, o, v :: r => setL (cs.set o v) (o + 1) r
theorem Blk.set {b : Nat} : ∀ {w : World} {cs : List Value} (h : Blk w b cs) (o : Nat) (vs : List Value), Blk (w.setCells b o vs) b (setL cs o vs)
  | w, cs, h, o, [] => h
  | w, cs, h, o, v :: r => by
    have h2 : Blk (w.setCell ⟨b, o, none⟩ v) b (cs.set o v) := by
      obtain ⟨t, h⟩ := h
      have := heap_setCell_same w b o cs.toArray t v h
      exact ⟨t, by rw [this]; simp⟩
    exact Blk.set h2 (o + 1) r
theorem Blk.setOther {w : World} {b b' : Nat} {cs : List Value} (h : Blk w b' cs) (hne : b' ≠ b) (o : Nat) (vs : List Value) : Blk (w.setCells b o vs) b' cs := by
  obtain ⟨t, h⟩ := h
  exact ⟨t, ((setCells_heap b vs o w).2 b' hne).trans h⟩

theorem Own.ext {a w : World} {base e size : Nat} {p : Option Addr} {n c : Nat} {xs : List Value} (h : Own a base e size p n c xs) (he : Ext a w) : Own w base e size p n c xs :=
  h.kept (row := none) ⟨he.os, he.tape, he.output, he.size, fun k hk _ => Ext.block he hk⟩ (by cases hv : (Value.slice p n c).ownBlock <;> simp)
theorem grownBy_setCells (w : World) (b o : Nat) (vs : List Value) : w.grownBy (w.setCells b o vs) (some b) := by
  obtain ⟨h1, h2⟩ := setCells_heap b vs o w
  obtain ⟨h3, h4, h5⟩ := setCells_rest b vs o w
  exact ⟨h3, h4, h5, by rw [h1]; exact Nat.le_refl _, fun k _ hk => h2 k fun e => hk (by rw [e])⟩
theorem Own.setOther {w : World} {base e size : Nat} {p : Option Addr} {n c : Nat} {xs : List Value} (h : Own w base e size p n c xs) {b : Nat} (hb : b < base) (o : Nat) (vs : List Value) : Own (w.setCells b o vs) base e size p n c xs := by
  refine h.kept (grownBy_setCells w b o vs) ?_
  cases hv : (Value.slice p n c).ownBlock with
  | none => exact .inl rfl
  | some k =>
    have := (h.lt k hv).1
    right; intro e; cases e; omega

end Go.Eng
