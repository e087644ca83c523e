/- Plain: order of texts, sets of texts. -/
namespace Go.Eng

/-- a text of bytes -/
def mk (l : List UInt8) : ByteArray := ⟨l.toArray⟩
def bs (s : ByteArray) : List UInt8 := s.data.toList
theorem bs_mk (l : List UInt8) : bs (mk l) = l := rfl
theorem mk_bs (s : ByteArray) : mk (bs s) = s := rfl
theorem bs_inj {a b : ByteArray} (h : bs a = bs b) : a = b := by rw [← mk_bs a, h, mk_bs]
theorem mk_inj {a b : List UInt8} (h : mk a = mk b) : a = b := by rw [← bs_mk a, h, bs_mk]
theorem bs_len (s : ByteArray) : (bs s).length = s.size := by rw [bs, Array.length_toList]; rfl
theorem mk_size (l : List UInt8) : (mk l).size = l.length := by rw [← bs_len, bs_mk]
theorem bs_append (a b : ByteArray) : bs (a ++ b) = bs a ++ bs b := by simp [bs, ByteArray.data_append]
theorem mk_append (a b : List UInt8) : mk a ++ mk b = mk (a ++ b) := bs_inj (by rw [bs_append, bs_mk, bs_mk, bs_mk])
theorem bs_extract (s : ByteArray) (a b : Nat) : bs (s.extract a b) = ((bs s).drop a).take (b - a) := by
  simp only [bs, ByteArray.data_extract, Array.toList_extract, List.extract_eq_take_drop]

theorem u8_lt {a b : UInt8} : a < b ↔ a.toNat < b.toNat := UInt8.lt_iff_toNat_lt
instance : Std.Irrefl (α := UInt8) (· < ·) := ⟨fun a h => by rw [u8_lt] at h; omega⟩
instance : Std.Asymm (α := UInt8) (· < ·) := ⟨fun a b h k => by rw [u8_lt] at h k; omega⟩
instance : Trans (α := UInt8) (β := UInt8) (γ := UInt8) (· < ·) (· < ·) (· < ·) := ⟨fun h k => by rw [u8_lt] at *; omega⟩
instance : Std.Antisymm (α := UInt8) (¬ · < ·) := ⟨fun a b h k => by rw [u8_lt] at *; exact UInt8.toNat_inj.1 (by omega)⟩
theorem llt_irrefl (a : List UInt8) : ¬ a < a := List.lt_irrefl a
theorem llt_trans {a b c : List UInt8} (h : a < b) (k : b < c) : a < c := List.lt_trans h k
theorem llt_asymm {a b : List UInt8} (h : a < b) : ¬ b < a := fun k => llt_irrefl a (llt_trans h k)
theorem llt_total : ∀ (a b : List UInt8), a < b ∨ a = b ∨ b < a
  | [], [] => .inr (.inl rfl)
  | [], _ :: _ => .inl (List.nil_lt_cons ..)
  | _ :: _, [] => .inr (.inr (List.nil_lt_cons ..))
  | x :: a, y :: b => by
    rcases Nat.lt_trichotomy x.toNat y.toNat with h | h | h
    · exact .inl (List.Lex.rel (u8_lt.2 h))
    · have hxy : x = y := UInt8.toNat_inj.1 h
      subst hxy
      rcases llt_total a b with h | h | h
      · exact .inl (List.Lex.cons h)
      · exact .inr (.inl (by rw [h]))
      · exact .inr (.inr (List.Lex.cons h))
    · exact .inr (.inr (List.Lex.rel (u8_lt.2 h)))

/-- texts, rising -/
def Rising (l : List ByteArray) : Prop := l.Pairwise fun a b => bs a < bs b
theorem Rising.ext : ∀ {a b : List ByteArray}, Rising a → Rising b → (∀ x, x ∈ a ↔ x ∈ b) → a = b
  | [], [], _, _, _ => rfl
  | [], y :: b, _, _, h => by have := (h y).2 (by simp); simp at this
  | x :: a, [], _, _, h => by have := (h x).1 (by simp); simp at this
  | x :: a, y :: b, ha, hb, h => by
    have ha' := List.pairwise_cons.1 ha
    have hb' := List.pairwise_cons.1 hb
    have hxy : x = y := by
      have h1 := (h x).1 (by simp)
      have h2 := (h y).2 (by simp)
      rcases List.mem_cons.1 h1 with e | e
      · exact e
      · rcases List.mem_cons.1 h2 with e2 | e2
        · exact e2.symm
        · exact absurd (ha'.1 y e2) (llt_asymm (hb'.1 x e))
    subst hxy
    have hna : x ∉ a := fun e => llt_irrefl _ (ha'.1 x e)
    have hnb : x ∉ b := fun e => llt_irrefl _ (hb'.1 x e)
    rw [Rising.ext ha'.2 hb'.2 fun z => ?_]
    have := h z
    simp only [List.mem_cons] at this
    constructor
    · intro hz
      rcases this.1 (.inr hz) with e | e
      · exact absurd (e ▸ hz) hna
      · exact e
    · intro hz
      rcases this.2 (.inr hz) with e | e
      · exact absurd (e ▸ hz) hnb
      · exact e
theorem Rising.nodup {a : List ByteArray} (h : Rising a) : a.Nodup := List.Pairwise.imp (fun {x y} (hxy : bs x < bs y) (e : x = y) => llt_irrefl (bs y) (by rw [e] at hxy; exact hxy)) h
/-- a text at its place -/
def insS (x : ByteArray) : List ByteArray → List ByteArray
  | [] => [x]
  | y :: r => if x = y then y :: r else if bs x < bs y then x :: y :: r else y :: insS x r
theorem mem_insS (x z : ByteArray) : ∀ l, z ∈ insS x l ↔ z = x ∨ z ∈ l
  | [] => by simp [insS]
  | y :: r => by
    rw [insS]
    split
    · rename_i h; subst h; simp
    · split
      · simp
      · rw [List.mem_cons, mem_insS x z r, List.mem_cons]
        constructor
        · rintro (h | h | h) <;> simp [h]
        · rintro (h | h | h) <;> simp [h]
theorem Rising.ins {x : ByteArray} : ∀ {l : List ByteArray}, Rising l → Rising (insS x l)
  | [], _ => by simp [insS, Rising]
  | y :: r, h => by
    have h' := List.pairwise_cons.1 h
    rw [insS]
    split
    · exact h
    · rename_i hne
      split
      · rename_i hlt
        refine List.pairwise_cons.2 ⟨fun z hz => ?_, h⟩
        rcases List.mem_cons.1 hz with e | e
        · rw [e]; exact hlt
        · exact llt_trans hlt (h'.1 z e)
      · rename_i hlt
        refine List.pairwise_cons.2 ⟨fun z hz => ?_, Rising.ins h'.2⟩
        rcases (mem_insS x z r).1 hz with e | e
        · rw [e]
          rcases llt_total (bs x) (bs y) with h | h | h
          · exact absurd h hlt
          · exact absurd (bs_inj h) hne
          · exact h
        · exact h'.1 z e
/-- the texts of a list that are words, rising -/
def setW (p : ByteArray → Bool) (l : List ByteArray) : List ByteArray := (l.filter p).foldr insS []
theorem setW_rising (p : ByteArray → Bool) (l : List ByteArray) : Rising (setW p l) := by
  unfold setW
  induction l.filter p with
  | nil => exact List.Pairwise.nil
  | cons x r ih => exact Rising.ins ih
theorem mem_setW (p : ByteArray → Bool) (l : List ByteArray) (x : ByteArray) : x ∈ setW p l ↔ x ∈ l ∧ p x = true := by
  have : ∀ r : List ByteArray, x ∈ r.foldr insS [] ↔ x ∈ r := by
    intro r
    induction r with
    | nil => simp
    | cons y r ih => rw [List.foldr_cons, mem_insS, ih, List.mem_cons]
  rw [setW, this, List.mem_filter]
theorem setW_eq {p : ByteArray → Bool} {l k : List ByteArray} (hk : Rising k) (h : ∀ x, x ∈ k ↔ x ∈ l ∧ p x = true) : k = setW p l :=
  hk.ext (setW_rising p l) fun x => by rw [h, mem_setW]
theorem insS_len (x : ByteArray) (l : List ByteArray) : (insS x l).length ≤ l.length + 1 := by
  induction l with
  | nil => simp [insS]
  | cons y r ih =>
    rw [insS]
    split
    · simp
    · split
      · simp
      · simp only [List.length_cons]; omega
theorem setW_len (p : ByteArray → Bool) (l : List ByteArray) : (setW p l).length ≤ l.length := by
  have : ∀ r : List ByteArray, (r.foldr insS []).length ≤ r.length := by
    intro r
    induction r with
    | nil => simp
    | cons y r ih => rw [List.foldr_cons, List.length_cons]; have := insS_len y (r.foldr insS []); omega
  exact Nat.le_trans (this _) (List.length_filter_le p l)

end Go.Eng
