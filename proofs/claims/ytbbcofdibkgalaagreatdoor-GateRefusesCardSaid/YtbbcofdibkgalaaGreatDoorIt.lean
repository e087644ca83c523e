/- Maps whose keys are texts: going through them. -/
import Derived.Test.YtbbcofdibkgalaaGreatDoorS
import Derived.Test.YtbbcofdibkgalaaGreatDoorHb
import Derived.Maps.RangeRun
set_option linter.unusedVariables false
set_option linter.unusedSimpArgs false
namespace Go.Eng
variable {P : Program}
open Go.ChangeMaps (setBlock)

/-- Block r goes through the map of block m; ks has come out. -/
structure ItS (w : World) (r m : Nat) (es : Array MapEntry) (ks : List ByteArray) : Prop where
  it : ∃ since seen c0 clock, w.heap[r]? = some (.mapIter (some m) since seen c0) ∧ w.heap[m]? = some (.map es clock) ∧ MapOk es clock ∧ since ≤ c0 ∧ (∀ x ∈ es.toList, x.born < since) ∧
    (∀ e ∈ es.toList, seen.contains e.born = true ↔ ∃ k ∈ ks, e.key = .string k) ∧ since ≤ clock
  nd : ks.Nodup
  sub : ∀ k ∈ ks, ∃ e ∈ es.toList, e.key = .string k
theorem ItS.map {w : World} {r m : Nat} {es : Array MapEntry} {ks : List ByteArray} (h : ItS w r m es ks) : MapAt w m es := by
  obtain ⟨_, _, _, ck, _, h2, h3, _⟩ := h.it
  exact ⟨ck, h2, h3⟩
theorem ItS.lt {w : World} {r m : Nat} {es : Array MapEntry} {ks : List ByteArray} (h : ItS w r m es ks) : r < w.heap.size := by
  obtain ⟨_, _, _, ck, h1, _⟩ := h.it
  exact (Array.getElem?_eq_some_iff.1 h1).1
theorem ItS.kept {w w' : World} {r m : Nat} {es : Array MapEntry} {ks : List ByteArray} (h : ItS w r m es ks) (h1 : w'.heap[r]? = w.heap[r]?) (h2 : w'.heap[m]? = w.heap[m]?) : ItS w' r m es ks := by
  obtain ⟨a, b, c, d, x, y, z⟩ := h.it
  exact ⟨⟨a, b, c, d, h1.trans x, h2.trans y, z⟩, h.nd, h.sub⟩
theorem ItS.grown {w w' : World} {r m : Nat} {es : Array MapEntry} {ks : List ByteArray} (h : ItS w r m es ks) {row : Option Nat} (hg : w.grownBy w' row) (hr : row ≠ some r) (hm : row ≠ some m) : ItS w' r m es ks :=
  h.kept (hg.block r h.lt (fun e => hr e.symm)) (hg.block m h.map.lt (fun e => hm e.symm))
theorem ItS.new {w : World} {m : Nat} {es : Array MapEntry} (h : MapAt w m es) {t k e : TypeId} (ht : P.underlying t = some (.map k e)) :
    ∃ w', (Instr.range t (.map (some m))).run P w = .ok (.pointer (some ⟨w.heap.size, 0, none⟩)) w' ∧ ItS w' w.heap.size m es [] ∧ w.grownBy w' none ∧ w'.heap.size = w.heap.size + 1 := by
  have hlt := h.lt
  obtain ⟨ck, hm, hok⟩ := h
  refine ⟨_, run_range_map w t k e m es ck ht hm, ⟨⟨ck, #[], ck, ck, heap_alloc_new w _, (heap_alloc_old w _ hlt).trans hm, hok, Nat.le_refl _, ((MapKept.stamped_iff es ck).1 hok.st).1, ?_, Nat.le_refl _⟩, List.nodup_nil, by simp⟩, grown_alloc w _ _, by simp⟩
  intro e _
  simp
theorem grown_setBlock {w w1 : World} (hal : w1 = w ∨ w1 = w.drew) (r : Nat) (o : Obj) : w.grownBy (setBlock w1 r o) (some r) := by
  have key : ∀ w1 : World, w1.os = w.os → w1.tape = w.tape → w1.output = w.output → w1.heap = w.heap → w.grownBy (setBlock w1 r o) (some r) := fun w1 h1 h2 h3 h4 =>
    ⟨h1, h2, h3, by simp [setBlock, h4], fun k hk hne => by
      have : r ≠ k := fun e => hne (by rw [e])
      simp [setBlock, h4, Array.getElem?_setIfInBounds_ne this]⟩
  rcases hal with rfl | rfl
  · exact key _ rfl rfl rfl rfl
  · exact key _ rfl rfl rfl rfl
theorem its_next {w : World} {r m : Nat} {es : Array MapEntry} {ks : List ByteArray} (h : ItS w r m es ks) (ty : TypeId) :
    ((∀ k, (findE k es.toList).isSome → k ∈ ks) ∧ (Instr.next (.pointer (some ⟨r, 0, none⟩)) false ty).run P w = .ok (.tuple #[.bool false]) w) ∨
    ∃ k v w6, k ∉ ks ∧ findE k es.toList = some v ∧ (Instr.next (.pointer (some ⟨r, 0, none⟩)) false ty).run P w = .ok (.tuple #[.bool true, .string k, v]) w6 ∧
      (Instr.entry (.pointer (some ⟨r, 0, none⟩))).run P w6 = .ok (.tuple #[.string k, v]) w6 ∧ ItS w6 r m es (ks ++ [k]) ∧ w.grownBy w6 (some r) ∧ (leftOf es (w6.iterSeen r)).size < (leftOf es (w.iterSeen r)).size := by
  have hrlt := h.lt
  obtain ⟨since, seen, c0, clock, h1, h2, h3, h4, h5, h6, h7⟩ := h.it
  have hst := (MapKept.stamped_iff es clock).1 h3.st
  have hne : r ≠ m := fun e => by rw [e, h2] at h1; cases h1
  -- the value of an entry's key is its own
  have hfind : ∀ e ∈ es.toList, ∀ k, e.key = .string k → findE k es.toList = some e.val := by
    intro e he k hk
    have : ∀ l : List MapEntry, l.Pairwise (fun x y => x.key ≠ y.key) → e ∈ l → findE k l = some e.val := by
      intro l
      induction l with
      | nil => intro _ h; simp at h
      | cons a l ih =>
        intro hp hm
        have hp' := List.pairwise_cons.1 hp
        rcases List.mem_cons.1 hm with rfl | hm
        · simp [findE, hk]
        · have hne := hp'.1 e hm
          rw [findE]
          cases hak : a.key <;> simp only [] <;> try exact ih hp'.2 hm
          rename_i s
          rw [if_neg (fun e' => hne (by rw [hak, hk, e']))]
          exact ih hp'.2 hm
    exact this _ hst.2.2 he
  rcases run_next_at (P := P) w ty r m since c0 seen es clock h1 h2 h5 h4 with ⟨hz, hr⟩ | ⟨e, he, w1, hal, hr⟩
  · left
    refine ⟨fun k hk => ?_, hr⟩
    cases hf : findE k es.toList with
    | none => rw [hf] at hk; cases hk
    | some v =>
      have : ∃ e ∈ es.toList, e.key = .string k := by
        refine Classical.byContradiction fun hn => ?_
        rw [findE_none.2 (fun e he hke => hn ⟨e, he, hke⟩)] at hf; cases hf
      obtain ⟨e, he, hke⟩ := this
      obtain ⟨k', hk', e'⟩ := (h6 e he).1 (all_seen es seen hz e he)
      rw [hke] at e'; cases e'; exact hk'
  · right
    obtain ⟨hm, hs⟩ := mem_left he
    obtain ⟨k, hk⟩ := h3.str e hm
    have hkn : k ∉ ks := fun hks => by
      have := (h6 e hm).2 ⟨k, hks, hk⟩
      rw [hs] at this; cases this
    have hw1 : w1.heap = w.heap := by rcases hal with rfl | rfl <;> rfl
    have g1 : (setBlock w1 r (.mapIter (some m) since (seen.push e.born) clock)).heap[r]? = some (.mapIter (some m) since (seen.push e.born) clock) := by
      simp [setBlock, hw1, hrlt]
    have g2 : (setBlock w1 r (.mapIter (some m) since (seen.push e.born) clock)).heap[m]? = some (.map es clock) := by
      simp only [setBlock, hw1, Array.getElem?_setIfInBounds_ne hne]; exact h2
    rw [hk] at hr
    refine ⟨k, e.val, _, hkn, hfind e hm k hk, hr, ?_, ⟨⟨since, seen.push e.born, clock, clock, g1, g2, h3, ?_, h5, ?_, h7⟩, ?_, ?_⟩, grown_setBlock hal r _, ?_⟩
    · have := run_entry_at (P := P) _ r m since seen es clock e g1 g2 hm hst.2.1
      rw [hk] at this; exact this
    · exact h7
    · intro x hx
      rw [contains_push, Bool.or_eq_true, h6 x hx]
      constructor
      · rintro (⟨k', hk', e'⟩ | hb)
        · exact ⟨k', by simp [hk'], e'⟩
        · have := born_inj hst.2.1 hx hm (by simpa using hb)
          exact ⟨k, by simp, by rw [this, hk]⟩
      · rintro ⟨k', hk', e'⟩
        rcases List.mem_append.1 hk' with h | h
        · exact .inl ⟨k', h, e'⟩
        · right
          have : k' = k := by simpa using h
          subst this
          have hxe : x = e := by
            refine Classical.byContradiction fun hne' => ?_
            have hp := hst.2.2
            obtain ⟨i, hi, hie⟩ := List.getElem_of_mem hx
            obtain ⟨j, hj, hje⟩ := List.getElem_of_mem hm
            rw [List.pairwise_iff_getElem] at hp
            rcases Nat.lt_trichotomy i j with h | h | h
            · exact hp i j hi hj h (by rw [hie, hje, e', hk])
            · subst h; exact hne' (hie.symm.trans hje)
            · exact hp j i hj hi h (by rw [hie, hje, e', hk])
          rw [hxe]; simp
    · rw [List.nodup_append]
      exact ⟨h.nd, by simp, fun a ha b hb => by rintro rfl; have : a = k := by simpa using hb
                                                subst this; exact hkn ha⟩
    · intro k' hk'
      rcases List.mem_append.1 hk' with h' | h'
      · exact h.sub k' h'
      · have : k' = k := by simpa using h'
        subst this; exact ⟨e, hm, hk⟩
    · simp only [World.iterSeen, g1, h1]
      exact left_shrinks es seen e he

end Go.Eng
