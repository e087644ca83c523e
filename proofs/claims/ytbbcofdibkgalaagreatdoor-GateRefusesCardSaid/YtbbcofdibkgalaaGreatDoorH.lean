/- Small helpers for the contracts. -/
import Derived.Test.YtbbcofdibkgalaaGreatDoorEngC
import Derived.Below
import Derived.IntWalk
import Derived.Laws.AppendOwn
import Derived.Laws.OwnMore
set_option linter.unusedVariables false
namespace Go.Eng
open Go.RowKit (Below)

theorem cwd {p : Prop} [Decidable p] {A B : Prop} (h1 : p → A) (h2 : ¬ p → B) : cond (decide p) A B := by
  by_cases h : p
  · rw [decide_eq_true h]; exact h1 h
  · rw [decide_eq_false h]; exact h2 h
theorem cwb {b : Bool} {A B : Prop} (h1 : b = true → A) (h2 : b = false → B) : cond b A B := by
  cases b
  · exact h2 rfl
  · exact h1 rfl
theorem cyes {p : Prop} [Decidable p] {A B : Prop} (h : p) (a : A) : cond (decide p) A B := by rw [decide_eq_true h]; exact a
theorem cno {p : Prop} [Decidable p] {A B : Prop} (h : ¬ p) (b : B) : cond (decide p) A B := by rw [decide_eq_false h]; exact b

/-- of memory that was there nothing has turned -/
abbrev Ext (w w' : World) : Prop := Below w.heap.size w w'
theorem Ext.refl (w : World) : Ext w w := Below.refl _ w
theorem Ext.trans {a b c : World} (h : Ext a b) (k : Ext b c) : Ext a c := Below.trans h (Below.mono k h.size)
theorem Ext.drew {a b : World} (h : Ext a b) : Ext a b.drew := Below.drew h
theorem Ext.alloc {a b : World} (h : Ext a b) (o : Obj) : Ext a (b.alloc o) := Below.alloc h h.size o
theorem Ext.cell {a b : World} (h : Ext a b) {p : Addr} {v : Value} (hp : a.cell? p = some v) : b.cell? p = some v :=
  (Below.cell h (World.block_lt_of_cell? a p hp)).trans hp

/-- a call's answer, and that no old memory has turned -/
def Ret (w : World) (v : Value) : Ending → World → Prop := fun e w' => e = .returned v ∧ Ext w w'
def RetP (w : World) (v : Value) : Ending → World → Prop := fun e w' => e = .returned v ∧ w' = w

theorem wrap_i64 {n : Int} (h0 : -9223372036854775808 ≤ n) (h1 : n ≤ 9223372036854775807) : IntKind.i64.wrap n = n := IntWalk.i64_in n ⟨h0, h1⟩
theorem wrap_u8 {n : Int} (h0 : 0 ≤ n) (h1 : n < 256) : IntKind.u8.wrap n = n := by
  simp only [IntKind.wrap, IntKind.bits, IntKind.signed]
  simp
  omega
theorem at_drop {l : List UInt8} {i : Nat} {c : UInt8} (h : l[i]? = some c) : l.drop i = c :: l.drop (i + 1) := by
  have hi : i < l.length := by
    rcases Nat.lt_or_ge i l.length with h1 | h1
    · exact h1
    · rw [List.getElem?_eq_none h1] at h; cases h
  rw [List.drop_eq_getElem_cons hi]
  rw [List.getElem?_eq_getElem hi] at h
  cases h; rfl
theorem size_list (s : ByteArray) : s.data.toList.length = s.size := by rw [Array.length_toList]; rfl
/-- the byte at a place -/
theorem byte_at {s : ByteArray} {i : Int} (h0 : 0 ≤ i) (h1 : i < (s.size : Int)) : ∃ c : UInt8, s.data.toList[i.toNat]? = some c := by
  have : i.toNat < s.data.toList.length := by rw [size_list]; omega
  exact ⟨_, List.getElem?_eq_getElem this⟩


theorem Ext.block {a b : World} (h : Ext a b) {k : Nat} (hk : k < a.heap.size) : b.heap[k]? = a.heap[k]? := Below.block h k hk
/-- a store into a block that is the call's own -/
theorem setCells_heap (b : Nat) : ∀ (vs : List Value) (o : Nat) (w : World), (w.setCells b o vs).heap.size = w.heap.size ∧ ∀ k, k ≠ b → (w.setCells b o vs).heap[k]? = w.heap[k]?
  | [], o, w => ⟨rfl, fun _ _ => rfl⟩
  | v :: r, o, w => by
    obtain ⟨h1, h2⟩ := setCells_heap b r (o + 1) (w.setCell ⟨b, o, none⟩ v)
    refine ⟨by rw [World.setCells, h1]; simp, fun k hk => ?_⟩
    rw [World.setCells, h2 k hk, RowKit.Below.heap_setCell _ _ _ _ hk]
theorem setCells_rest (b : Nat) : ∀ (vs : List Value) (o : Nat) (w : World), (w.setCells b o vs).os = w.os ∧ (w.setCells b o vs).tape = w.tape ∧ (w.setCells b o vs).output = w.output
  | [], o, w => ⟨rfl, rfl, rfl⟩
  | v :: r, o, w => setCells_rest b r (o + 1) (w.setCell ⟨b, o, none⟩ v)
theorem Ext.setCells {a w : World} (h : Ext a w) {b o : Nat} (hb : a.heap.size ≤ b) (vs : List Value) : Ext a (w.setCells b o vs) := by
  obtain ⟨h1, h2⟩ := setCells_heap b vs o w
  obtain ⟨h3, h4, h5⟩ := setCells_rest b vs o w
  exact Below.trans h ⟨h3, h4, h5, by rw [h1]; exact Nat.le_refl _, fun k hk => h2 k (by omega)⟩

/-- A slice of elements of one cell each: what stands in it. -/
def SlC (w : World) (p : Option Addr) (n : Nat) (vs : List Value) : Prop := vs.length = n ∧ ∀ j v, vs[j]? = some v → nilW p fun b o => w.cell? ⟨b, o + j, none⟩ = some v
theorem SlC.ext {w w' : World} {p : Option Addr} {n : Nat} {vs : List Value} (h : SlC w p n vs) (he : Ext w w') : SlC w' p n vs := by
  refine ⟨h.1, fun j v hj => ?_⟩
  obtain ⟨b, o, rfl, hc⟩ := nilW_def (h.2 j v hj)
  exact Ext.cell he hc
theorem SlC.nil (w : World) (p : Option Addr) : SlC w p 0 [] := ⟨rfl, fun j v h => by simp at h⟩
/-- the element at a place -/
theorem SlC.at {w : World} {p : Option Addr} {n : Nat} {vs : List Value} (h : SlC w p n vs) {i : Int} (h0 : 0 ≤ i) (h1 : i < (n : Int)) :
    ∃ v b o, vs[i.toNat]? = some v ∧ p = some ⟨b, o, none⟩ ∧ w.cell? ⟨b, o + i.toNat, none⟩ = some v := by
  have hl : i.toNat < vs.length := by rw [h.1]; omega
  obtain ⟨b, o, hp, hc⟩ := nilW_def (h.2 i.toNat _ (List.getElem?_eq_getElem hl))
  exact ⟨_, b, o, List.getElem?_eq_getElem hl, hp, hc⟩
theorem SlC.atF {w : World} {p : Option Addr} {n : Nat} {α : Type} {f : α → Value} {l : List α} (h : SlC w p n (l.map f)) {i : Int} (h0 : 0 ≤ i) (h1 : i < (n : Int)) :
    ∃ a b o, l[i.toNat]? = some a ∧ p = some ⟨b, o, none⟩ ∧ w.cell? ⟨b, o + i.toNat, none⟩ = some (f a) := by
  obtain ⟨v, b, o, hv, hp, hc⟩ := h.at h0 h1
  rw [List.getElem?_map] at hv
  cases hl : l[i.toNat]? with
  | none => simp [hl] at hv
  | some a => simp [hl] at hv; subst hv; exact ⟨a, b, o, rfl, hp, hc⟩
theorem SlC.len {w : World} {p : Option Addr} {n : Nat} {α : Type} {f : α → Value} {l : List α} (h : SlC w p n (l.map f)) : l.length = n := by simpa using h.1
theorem SlC.drew {w : World} {p : Option Addr} {n : Nat} {vs : List Value} (h : SlC w p n vs) : SlC w.drew p n vs := h
theorem cell_drew (w : World) (a : Addr) : w.drew.cell? a = w.cell? a := rfl
/-- bytes as values -/
def bv (c : UInt8) : Value := .int .u8 (c.toNat : Int)
theorem ofInt_u8 (a : UInt8) : BitVec.ofInt 8 (a.toNat : Int) = a.toBitVec := by
  apply BitVec.eq_of_toNat_eq
  simp
theorem bitv_or (a b : UInt8) : bitv .or .u8 (a.toNat : Int) (b.toNat : Int) = ((a ||| b).toNat : Int) := by
  show IntKind.u8.wrap ((BitVec.ofInt 8 (a.toNat : Int) ||| BitVec.ofInt 8 (b.toNat : Int)).toNat : Int) = _
  rw [ofInt_u8, ofInt_u8]
  have : (a.toBitVec ||| b.toBitVec).toNat = (a ||| b).toNat := rfl
  rw [this, wrap_u8 (by omega) (by have := (a ||| b).toNat_lt; omega)]
theorem bitv_xor (a b : UInt8) : bitv .xor .u8 (a.toNat : Int) (b.toNat : Int) = ((a ^^^ b).toNat : Int) := by
  show IntKind.u8.wrap ((BitVec.ofInt 8 (a.toNat : Int) ^^^ BitVec.ofInt 8 (b.toNat : Int)).toNat : Int) = _
  rw [ofInt_u8, ofInt_u8]
  have : (a.toBitVec ^^^ b.toBitVec).toNat = (a ^^^ b).toNat := rfl
  rw [this, wrap_u8 (by omega) (by have := (a ^^^ b).toNat_lt; omega)]
theorem drop_at {α : Type} {l : List α} {i : Nat} {c : α} (h : l[i]? = some c) : l.drop i = c :: l.drop (i + 1) := by
  have hi : i < l.length := by
    rcases Nat.lt_or_ge i l.length with h1 | h1
    · exact h1
    · rw [List.getElem?_eq_none h1] at h; cases h
  rw [List.drop_eq_getElem_cons hi]
  rw [List.getElem?_eq_getElem hi] at h
  cases h; rfl


/-! ### Slices of the call's own -/
/-- A type of elements, for appending. -/
structure ElT (P : Program) (t e size : Nat) : Prop where
  und : P.underlying t = some (.slice e)
  more : ∃ i z bytes, P.info? e = some i ∧ i.zero = some z ∧ i.size = size ∧ i.bytes = bytes ∧ z.cells.size = size ∧ 0 < size ∧ bytes ≤ 128
abbrev Own (w : World) (base e size : Nat) (p : Option Addr) (n c : Nat) (xs : List Value) : Prop := w.ownsRow base e size (.slice p n c) n xs
theorem Own.nil (w : World) (base e size : Nat) : Own w base e size none 0 0 [] := World.ownsRow_nil w base e size
theorem Own.len {w : World} {base e size : Nat} {p : Option Addr} {n c : Nat} {xs : List Value} (h : Own w base e size p n c xs) : xs.length = n * size := h.1
theorem own_append {P : Program} {t e size : Nat} (hT : ElT P t e size) (ty : Nat) {w : World} {base : Nat} {p : Option Addr} {n c : Nat} {xs : List Value} (h : Own w base e size p n c xs) (hb : base ≤ w.heap.size)
    {b o m k : Nat} {news : List Value} (hl : news.length = m * size) (hnews : w.rangeAt b o news) (h1 : ∀ u ∈ news, u.oneCell' = true) (hs : n + m ≤ 1000000000000) :
    ∃ p' c' w', (Builtin.append_ #[t, t] ty #[.slice p n c, .slice (some ⟨b, o, none⟩) m k]).run P w = .ok (.slice p' (n + m) c') w' ∧ Own w' base e size p' (n + m) c' (xs ++ news) ∧ w.grownBy w' ((Value.slice p n c).ownBlock) := by
  obtain ⟨i, z, bytes, hi, hz, hsz, hby, hzs, h0, hle⟩ := hT.more
  obtain ⟨v', w', hr, ho, hg, _⟩ := run_append_own (P := P) w base t ty e i z size bytes hT.und hi hz hsz hby hzs h0 _ n xs h ⟨b, o, none⟩ m k news hl
    (fun j u hu => by rw [Addr.add_mid]; exact hnews j u hu) h1 (by simp only [maxLen]; omega)
    (by have : (n + m) * bytes ≤ 1000000000000 * 128 := Nat.mul_le_mul hs hle; omega) hb
  rcases ho.2 with ⟨rfl, hn⟩ | ⟨g, cap, cur, rfl, hrest⟩
  · exact ⟨none, 0, w', by rw [hn]; exact hr, by rw [hn] at ho ⊢; exact ho, hg⟩
  · exact ⟨some ⟨g, 0, none⟩, cap, w', hr, ho, hg⟩
theorem own_append_none {P : Program} {t e size : Nat} (hT : ElT P t e size) (ty : Nat) {w : World} {base : Nat} {p : Option Addr} {n c : Nat} {xs : List Value} (h : Own w base e size p n c xs) :
    (Builtin.append_ #[t, t] ty #[.slice p n c, .slice none 0 0]).run P w = .ok (.slice p n c) w := by
  obtain ⟨i, z, bytes, hi, hz, hsz, hby, hzs, h0, hle⟩ := hT.more
  exact run_append_owned_none (P := P) (w := w) base t ty e i size hT.und hi _ n xs h
/-- what grew is the call's own -/
theorem Ext.grown {a w w' : World} (h : Ext a w) {p : Option Addr} {e size n c : Nat} {xs : List Value} (ho : Own w a.heap.size e size p n c xs) (hg : w.grownBy w' ((Value.slice p n c).ownBlock)) : Ext a w' :=
  Below.grown h hg h.size fun k hk => (ho.lt k hk).1
/-- its elements, read -/
theorem Own.slc {w : World} {base e : Nat} {p : Option Addr} {n c : Nat} {xs : List Value} (h : Own w base e 1 p n c xs) : SlC w p n xs := by
  refine ⟨by rw [h.1, Nat.mul_one], fun j v hj => ?_⟩
  rcases h.2 with ⟨hv, rfl⟩ | ⟨g, cap, cur, hv, hrest⟩
  · have : xs = [] := List.eq_nil_of_length_eq_zero (by rw [h.1])
    subst this; simp at hj
  · cases hv
    have := h.cells (g := g) rfl j v hj
    rw [Addr.add_mid] at this
    exact nilW_mk this
theorem Own.mono {w : World} {base base' e size : Nat} {p : Option Addr} {n c : Nat} {xs : List Value} (h : Own w base e size p n c xs) (hb : base' ≤ base) : Own w base' e size p n c xs := by
  refine ⟨h.1, ?_⟩
  rcases h.2 with h2 | ⟨g, cap, cur, hv, hg, r⟩
  · exact .inl h2
  · exact .inr ⟨g, cap, cur, hv, by omega, r⟩

theorem SlC.none_len {w : World} {n : Nat} {vs : List Value} (h : SlC w none n vs) : n = 0 := by
  rcases Nat.eq_zero_or_pos n with h0 | h0
  · exact h0
  · exact (h.2 0 _ (List.getElem?_eq_getElem (by rw [h.1]; exact h0))).elim
theorem own_append_slc {P : Program} {t e : Nat} (hT : ElT P t e 1) (ty : Nat) {w : World} {base : Nat} {p : Option Addr} {n c : Nat} {xs : List Value} (h : Own w base e 1 p n c xs) (hb : base ≤ w.heap.size)
    {q : Option Addr} {m k : Nat} {news : List Value} (hs : SlC w q m news) (hk : q = none → k = 0) (h1 : ∀ u ∈ news, u.oneCell' = true) (hlim : n + m ≤ 1000000000000) :
    ∃ p' c' w', (Builtin.append_ #[t, t] ty #[.slice p n c, .slice q m k]).run P w = .ok (.slice p' (n + m) c') w' ∧ Own w' base e 1 p' (n + m) c' (xs ++ news) ∧ w.grownBy w' ((Value.slice p n c).ownBlock) ∧
      (p' = none ↔ p = none ∧ m = 0) := by
  obtain ⟨i, z, bytes, hi, hz, hsz, hby, hzs, h0, hle⟩ := hT.more
  cases q with
  | none =>
    have hm := hs.none_len
    subst hm
    have : news = [] := List.eq_nil_of_length_eq_zero hs.1
    subst this
    rw [hk rfl]
    exact ⟨p, c, w, own_append_none hT ty h, by rw [List.append_nil]; exact h, ⟨rfl, rfl, rfl, Nat.le_refl _, fun _ _ _ => rfl⟩, by simp⟩
  | some a =>
    obtain ⟨v', w', hr, ho, hg, hv⟩ := run_append_own (P := P) w base t ty e i z 1 bytes hT.und hi hz hsz hby hzs h0 _ n xs h a m k news (by rw [hs.1, Nat.mul_one])
      (fun j u hu => by
        obtain ⟨b, o, ha, hc⟩ := nilW_def (hs.2 j u hu)
        cases ha
        rw [Addr.add_mid]; exact hc) h1 (by simp only [maxLen]; omega)
      (by have : (n + m) * bytes ≤ 1000000000000 * 128 := Nat.mul_le_mul hlim hle; omega) hb
    rcases ho.2 with ⟨rfl, hn⟩ | ⟨g, cap, cur, rfl, hrest⟩
    · refine ⟨none, 0, w', by rw [hn]; exact hr, by rw [hn] at ho ⊢; exact ho, hg, ?_⟩
      have := hv.1 rfl
      simp only [Value.slice.injEq] at this
      exact ⟨fun _ => ⟨this.1.1, this.2⟩, fun _ => rfl⟩
    · refine ⟨some ⟨g, 0, none⟩, cap, w', hr, ho, hg, ?_⟩
      simp only [Value.slice.injEq, reduceCtorEq, false_and, false_iff, not_and] at hv
      constructor
      · intro e; cases e
      · rintro ⟨rfl, hm⟩
        rcases h.2 with ⟨hv2, hn⟩ | ⟨g', cap', cur', hv2, _⟩
        · simp only [Value.slice.injEq] at hv2
          exact (hv ⟨rfl, hv2.2.1, hv2.2.2⟩ hm).elim
        · simp at hv2

end Go.Eng
