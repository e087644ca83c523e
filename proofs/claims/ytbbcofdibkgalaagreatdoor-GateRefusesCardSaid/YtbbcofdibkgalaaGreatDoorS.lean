/- Maps whose keys are texts. -/
import Derived.Test.YtbbcofdibkgalaaGreatDoorM
import Derived.Laws.IdiomRangeMap
set_option linter.unusedVariables false
namespace Go.Eng
variable {P : Program}

theorem ba_beq (a b : ByteArray) : (a == b) = decide (a = b) := by
  cases a with | mk x => cases b with | mk y =>
  have : ((⟨x⟩ : ByteArray) == ⟨y⟩) = (x == y) := rfl
  rw [this]
  by_cases h : x = y
  · subst h; simp
  · have h2 : (⟨x⟩ : ByteArray) ≠ ⟨y⟩ := fun e => h (by cases e; rfl)
    simp [h, h2]
/-- Block m is a map; its entries. -/
structure MapOk (es : Array MapEntry) (ck : Nat) : Prop where
  st : MapKept.Stamped es ck
  str : ∀ e ∈ es.toList, ∃ s : ByteArray, e.key = .string s
def MapAt (w : World) (m : Nat) (es : Array MapEntry) : Prop := ∃ ck, w.heap[m]? = some (.map es ck) ∧ MapOk es ck
theorem MapAt.new (w : World) : MapAt (w.alloc (.map #[] 0)) w.heap.size #[] := ⟨0, heap_alloc_new w _, ⟨MapKept.stamped_empty 0, by simp⟩⟩
theorem MapAt.lt {w : World} {m : Nat} {es : Array MapEntry} (h : MapAt w m es) : m < w.heap.size := by
  obtain ⟨ck, h, _⟩ := h
  exact (Array.getElem?_eq_some_iff.1 h).1
theorem MapAt.block {w w' : World} {m : Nat} {es : Array MapEntry} (h : MapAt w m es) (he : w'.heap[m]? = w.heap[m]?) : MapAt w' m es := by
  obtain ⟨ck, h, k⟩ := h
  exact ⟨ck, he.trans h, k⟩
theorem MapAt.ext {w w' : World} {m : Nat} {es : Array MapEntry} (h : MapAt w m es) (he : Ext w w') : MapAt w' m es := h.block (Ext.block he h.lt)

/-- the value of a key -/
def findE (k : ByteArray) : List MapEntry → Option Value
  | [] => none
  | e :: r => match e.key with
    | .string s => if s = k then some e.val else findE k r
    | _ => findE k r
theorem findNow_none (k : ByteArray) : ∀ (l : List MapEntry) (i : Nat), (∀ e ∈ l, ∃ s : ByteArray, e.key = .string s) → findE k l = none → Instr.findNow .string (.string k) l i = some none
  | [], i, _, _ => rfl
  | e :: r, i, hs, h => by
    obtain ⟨s, hk⟩ := hs e (by simp)
    simp only [findE, hk] at h
    have hne : s ≠ k := fun h' => by rw [if_pos h'] at h; cases h
    have h2 : findE k r = none := by rw [if_neg hne] at h; exact h
    have hb : (k == s) = false := by
      rw [ba_beq, decide_eq_false (fun h' => hne h'.symm)]
    simp only [Instr.findNow, hk, Instr.sameNow, hb]
    exact findNow_none k r (i + 1) (fun e he => hs e (by simp [he])) h2
theorem findNow_some (k : ByteArray) (v : Value) : ∀ (l : List MapEntry) (i : Nat), (∀ e ∈ l, ∃ s : ByteArray, e.key = .string s) → findE k l = some v →
    ∃ j, j < l.length ∧ (l[j]?.map (·.val)) = some v ∧ (l[j]?.map (·.key)) = some (.string k) ∧ Instr.findNow .string (.string k) l i = some (some (i + j, v))
  | [], i, _, h => by simp [findE] at h
  | e :: r, i, hs, h => by
    obtain ⟨s, hk⟩ := hs e (by simp)
    simp only [findE, hk] at h
    by_cases hsk : s = k
    · subst hsk
      rw [if_pos rfl] at h
      cases h
      exact ⟨0, by simp, rfl, by simp [hk], by simp [Instr.findNow, hk, Instr.sameNow, ba_beq]⟩
    · rw [if_neg hsk] at h
      obtain ⟨j, hj, h1, h2, h3⟩ := findNow_some k v r (i + 1) (fun e he => hs e (by simp [he])) h
      refine ⟨j + 1, by simpa using hj, by simpa using h1, by simpa using h2, ?_⟩
      have hb : (k == s) = false := by
        rw [ba_beq, decide_eq_false (fun h' => hsk h'.symm)]
      simp only [Instr.findNow, hk, Instr.sameNow, hb, h3]
      congr 3; omega

theorem run_lookup_str {w : World} {t kT eT m : Nat} {es : Array MapEntry} {z : Value} (ht : P.underlying t = some (.map kT eT)) (hk : P.underlying kT = some .string) (hz : (zeroValue eT).run P w = .ok z w) (h : MapAt w m es) (k : ByteArray) (ok : Bool) :
    (Instr.lookup t (.map (some m)) (.string k) ok).run P w = .ok (if ok then .tuple #[(findE k es.toList).getD z, .bool (findE k es.toList).isSome] else (findE k es.toList).getD z) w := by
  obtain ⟨ck, hm, hok⟩ := h
  have hc : ∀ b, (Instr.checkKey b 10000 kT (.string k)).run P w = .ok () w := fun b => by
    unfold Instr.checkKey; simp [run_underlying hk]
  simp only [Instr.lookup, Sem.run_bind, run_underlying ht, Result.andThen_ok, MapKept.run_getObj_map hm, Sem.run_pure, hc, Instr.findKey, run_underlying hk]
  cases hf : findE k es.toList with
  | none => rw [findNow_none k _ 0 hok.str hf]; simp [hz]
  | some v =>
    obtain ⟨j, _, _, _, h3⟩ := findNow_some k v _ 0 hok.str hf
    rw [h3]; simp

/-- the keys -/
def keysE (es : Array MapEntry) : List Value := es.toList.map (·.key)
theorem findE_none {k : ByteArray} : ∀ {l : List MapEntry}, findE k l = none ↔ ∀ e ∈ l, e.key ≠ .string k
  | [] => by simp [findE]
  | e :: r => by
    have ih := findE_none (k := k) (l := r)
    rw [List.forall_mem_cons, ← ih, findE]
    cases hk : e.key <;> simp only [ne_eq, reduceCtorEq, not_false_eq_true, true_and, Value.string.injEq]
    rename_i s
    by_cases h : s = k
    · simp [h]
    · simp [h]
theorem findE_keys {k : ByteArray} {l : List MapEntry} : findE k l = none ↔ .string k ∉ l.map (·.key) := by
  rw [findE_none]
  simp only [List.mem_map, not_exists, not_and, ne_eq]
theorem findE_app {k : ByteArray} : ∀ (l r : List MapEntry), findE k (l ++ r) = (findE k l).or (findE k r)
  | [], r => by simp [findE]
  | e :: l, r => by
    simp only [List.cons_append, findE, findE_app l r]
    cases e.key <;> try rfl
    rename_i s
    by_cases h : s = k <;> simp [h]
theorem findE_set {k' k : ByteArray} {v : Value} : ∀ (l : List MapEntry) (j : Nat) (e0 : MapEntry), l[j]? = some e0 → e0.key = .string k → (∀ i e, l[i]? = some e → e.key = .string k → i = j) →
    findE k' (l.set j { e0 with key := .string k, val := v }) = if k' = k then some v else findE k' l
  | [], j, e0, h, _, _ => by simp at h
  | e :: r, 0, e0, h, hk, _ => by
    simp only [List.getElem?_cons_zero, Option.some.injEq] at h
    subst h
    simp only [List.set_cons_zero, findE, hk]
    by_cases h : k = k'
    · simp [h]
    · simp [h, Ne.symm h]
  | e :: r, j + 1, e0, h, hk, hu => by
    have hne : e.key ≠ .string k := fun h' => by
      have := hu 0 e (by simp) h'
      omega
    have ih := findE_set (k' := k') (k := k) (v := v) r j e0 (by simpa using h) hk (fun i e he hke => by
      have := hu (i + 1) e (by simpa using he) hke
      omega)
    simp only [List.set_cons_succ, findE, ih]
    cases hek : e.key <;> simp only [] 
    rename_i s
    by_cases h1 : s = k'
    · have : k' ≠ k := fun h2 => hne (by rw [hek, h1, h2])
      simp [h1, this]
    · simp [h1]

theorem run_update_str {w : World} {t kT eT m : Nat} {es : Array MapEntry} (ht : P.underlying t = some (.map kT eT)) (hk : P.underlying kT = some .string) (h : MapAt w m es) (k : ByteArray) (v : Value) :
    ∃ w' es', (Instr.mapUpdate t (.map (some m)) (.string k) v).run P w = .ok () w' ∧ MapAt w' m es' ∧ (∀ k', findE k' es'.toList = if k' = k then some v else findE k' es.toList) ∧
      keysE es' = (if (findE k es.toList).isSome then keysE es else keysE es ++ [.string k]) ∧ w.grownBy w' (some m) := by
  obtain ⟨ck, hm, hok⟩ := h
  have hc : ∀ b, (Instr.checkKey b 10000 kT (.string k)).run P w = .ok () w := fun b => by
    unfold Instr.checkKey; simp [run_underlying hk]
  have hgrow : ∀ o : Obj, w.grownBy { w with heap := w.heap.setIfInBounds m o } (some m) := fun o =>
    ⟨rfl, rfl, rfl, by simp, fun i hi hne => (MapKept.heap_set hm).2 i fun e => hne (by rw [e])⟩
  simp only [Instr.mapUpdate, Sem.run_bind, run_underlying ht, Result.andThen_ok, MapKept.run_getObj_map hm, hc, Instr.findKey, run_underlying hk]
  cases hf : findE k es.toList with
  | none =>
    rw [findNow_none k _ 0 hok.str hf]
    refine ⟨_, es.push { key := .string k, val := v, born := ck }, by simp only [Sem.run_pure, Result.andThen_ok]; exact MapKept.run_setObj_map _ hm, ⟨ck + 1, (MapKept.heap_set hm).1, MapKept.stamped_push hok.st ?_, ?_⟩, ?_, by simp [keysE], hgrow _⟩
    · intro x hx e
      exact findE_keys.1 hf (List.mem_map.2 ⟨x, hx, e⟩)
    · intro e he
      simp only [Array.toList_push, List.mem_append, List.mem_singleton] at he
      rcases he with he | rfl
      · exact hok.str e he
      · exact ⟨k, rfl⟩
    · intro k'
      rw [Array.toList_push, findE_app]
      by_cases h : k' = k
      · subst h; simp [hf, findE]
      · simp [findE, h, Ne.symm h]
  | some v0 =>
    obtain ⟨j, hj, h1, h2, h3⟩ := findNow_some k v0 _ 0 hok.str hf
    rw [h3, Nat.zero_add]
    cases he : es[j]? with
    | none => rw [Array.getElem?_toList, he] at h2; simp at h2
    | some e0 =>
    have hk0 : e0.key = .string k := by rw [Array.getElem?_toList, he] at h2; simpa using h2
    have hmod : (es.modify j fun e => { e with key := .string k, val := v }).toList = es.toList.set j { e0 with key := .string k, val := v } := by
      apply List.ext_getElem?
      intro i
      rw [Array.getElem?_toList, Array.getElem?_modify, List.getElem?_set]
      by_cases hij : j = i
      · subst hij
        simp [he]
        have : j < es.size := by simpa using hj
        simp [this]
      · simp [hij]
    refine ⟨_, es.modify j fun e => { e with key := .string k, val := v }, ?_, ⟨ck, (MapKept.heap_set hm).1, MapKept.stamped_modify hok.st j _ (fun _ _ => rfl) (fun e _ h => by rw [he] at h; cases h; exact hk0.symm), ?_⟩, ?_, ?_, hgrow _⟩
    · simp only [Sem.run_pure, Result.andThen_ok, he, Option.map_some, Option.getD_some, Instr.keyThatStays, hk0, Instr.sameBits, ba_beq, decide_true, if_true]
      exact MapKept.run_setObj_map _ hm
    · intro e hm'
      rw [hmod] at hm'
      rcases List.mem_or_eq_of_mem_set hm' with h | h
      · exact hok.str e h
      · exact ⟨k, by rw [h]⟩
    · intro k'
      rw [hmod]
      refine findE_set es.toList j e0 (by rw [Array.getElem?_toList, he]) hk0 fun i e hi hke => ?_
      have hp := ((MapKept.stamped_iff es ck).1 hok.st).2.2
      rw [List.pairwise_iff_getElem] at hp
      obtain ⟨hil, hie⟩ := List.getElem?_eq_some_iff.1 hi
      have hje : es.toList[j] = e0 := by
        have : es.toList[j]? = some e0 := by rw [Array.getElem?_toList, he]
        exact (List.getElem?_eq_some_iff.1 this).2
      rcases Nat.lt_trichotomy i j with h | h | h
      · exact absurd (by rw [hie, hje, hke, hk0]) (hp i j hil hj h)
      · exact h
      · exact absurd (by rw [hie, hje, hke, hk0]) (hp j i hj hil h)
    · simp only [Option.isSome_some, if_true]
      exact MapKept.modify_keys j _ fun e h => by rw [he] at h; cases h; exact hk0.symm

end Go.Eng
