/- Contracts: Set, Print, Within, printed. -/
import Derived.Test.YtbbcofdibkgalaaGreatDoorGa
import Derived.Test.YtbbcofdibkgalaaGreatDoorPd
set_option linter.unusedVariables false
set_option linter.unusedSimpArgs false
namespace Go.Proofs.YtbbcofdibkgalaaGreatDoor
open Go.Eng
open Go.RowKit (Below)

/-- a slice of later memory -/
def Far (w : World) (q : Option Addr) : Prop := ∀ a, q = some a → w.heap.size ≤ a.block
theorem Far.none (w : World) : Far w none := fun _ h => by cases h
theorem Far.own {w w' : World} {base e size : Nat} {p : Option Addr} {n c : Nat} {xs : List Value} (h : Eng.Own w' base e size p n c xs) (hb : w.heap.size ≤ base) : Far w p := by
  rintro a rfl
  have := (h.lt a.block rfl).1
  omega
theorem Far.trans {a w : World} {q : Option Addr} (h : Far w q) (he : Ext a w) : Far a q := fun x hx => Nat.le_trans he.size (h x hx)
theorem SlC.setFar {w w' : World} {p : Option Addr} {n : Nat} {vs : List Value} (h : SlC w p n vs) {b : Nat} (hg : w.grownBy w' (some b)) (hf : ∀ a, p = some a → a.block ≠ b) : SlC w' p n vs := by
  refine ⟨h.1, fun j v hj => ?_⟩
  obtain ⟨k, o, rfl, hc⟩ := nilW_def (h.2 j v hj)
  refine nilW_mk ?_
  have hlt := World.block_lt_of_cell? w _ hc
  have hne := hf _ rfl
  have : w'.heap[k]? = w.heap[k]? := hg.block k hlt (fun e => hne (by have := Option.some.inj e; omega))
  rw [World.cell?, this]; exact hc
theorem set_ok (p : Option Addr) (n c : Nat) (hn : n ≤ 1000000000) (l : List ByteArray) (w : World) (h : SlC w p n (l.map .string)) (hsz : ∀ s ∈ l, s.size < 9223372036854775807) :
    Calls prg 57 #[.slice p n c] w fun e w' => ∃ q d, e = .returned (.slice q (words l).length d) ∧ SlC w' q (words l).length ((words l).map .string) ∧ Ext w w' ∧ Far w q := by
  refine f57_wp p n c w _ ?_
  rintro b w1 rfl rfl
  have E1 : Ext w (w.alloc (.cells #[.slice p n c] 33)) := (Ext.refl w).alloc _
  have B1 : Blk (w.alloc (.cells #[.slice p n c] 33)) w.heap.size [.slice p n c] := Blk.new w _ _
  refine (both_ok w.heap.size 0 1 p n c hn l _ (B1.cell rfl) (h.ext E1) hsz).mono fun e w2 he => ?_
  obtain ⟨q, d, rfl, o, e2⟩ := he
  exact ⟨q, _, d, rfl, q, d, rfl, o.slc, E1.trans e2, Far.own o E1.size⟩

/-- texts, a space between two -/
def joined (l : List ByteArray) : List UInt8 := Lib.join (l.map bs) [32]
theorem joined_len (l : List ByteArray) : (joined l).length ≤ (l.map fun s => s.size + 1).sum := by
  have key : ∀ r : List ByteArray, (Lib.joinTail [32] (r.map bs)).length = (r.map fun s => s.size + 1).sum := by
    intro r
    induction r with
    | nil => rfl
    | cons a r ih =>
      simp only [Lib.joinTail, List.map_cons, List.flatten_cons, List.length_append, List.sum_cons] at ih ⊢
      rw [ih, bs_len]; simp; omega
  cases l with
  | nil => simp [joined, Lib.join_nil]
  | cons a r =>
    rw [joined, List.map_cons, Lib.join_cons, List.length_append, key, bs_len]
    simp only [List.map_cons, List.sum_cons]; omega
theorem sum_le (l : List ByteArray) (k : Nat) (h : ∀ s ∈ l, s.size ≤ k) : (l.map fun s => s.size + 1).sum ≤ l.length * (k + 1) := by
  induction l with
  | nil => simp
  | cons a r ih =>
    have := ih fun s hs => h s (by simp [hs])
    have := h a (by simp)
    simp only [List.map_cons, List.sum_cons, List.length_cons, Nat.add_mul]; omega
theorem isWord_size {s : ByteArray} (h : isWord s = true) : s.size ≤ 64 ∧ 1 ≤ s.size := by
  simp only [isWord, Bool.and_eq_true, decide_eq_true_iff] at h
  exact ⟨h.2, h.1.2⟩
theorem words_size {l : List ByteArray} : ∀ s ∈ words l, s.size ≤ 64 := fun s hs => (isWord_size ((mem_setW isWord l s).1 hs).2).1
theorem words_len (l : List ByteArray) : (words l).length ≤ l.length := setW_len isWord l
theorem print_ok (p : Option Addr) (n c : Nat) (hn : n ≤ 1000000000) (l : List ByteArray) (w : World) (h : SlC w p n (l.map .string)) (hsz : ∀ s ∈ l, s.size < 9223372036854775807) :
    Calls prg 58 #[.slice p n c] w (Ret w (.string (mk (joined (words l))))) := by
  refine f58_wp p n c w _ ?_
  rintro b w1 rfl rfl
  have E1 : Ext w (w.alloc (.cells #[.slice p n c] 33)) := (Ext.refl w).alloc _
  have B1 : Blk (w.alloc (.cells #[.slice p n c] 33)) w.heap.size [.slice p n c] := Blk.new w _ _
  refine (both_ok w.heap.size 0 1 p n c hn l _ (B1.cell rfl) (h.ext E1) hsz).mono fun e w2 he => ?_
  obtain ⟨q, d, rfl, o, e2⟩ := he
  have hll := h.len
  have hwl := words_len l
  rcases o.2 with ⟨hv, h0⟩ | ⟨g, cap, cur, hv, hb, hg, h1, h2, h3, h4⟩
  · have hw0 : words l = [] := List.eq_nil_of_length_eq_zero h0
    refine ⟨q, _, d, rfl, ?_⟩
    rw [hw0]
    refine (Tryz.strings_Join_none q d ⟨#[32]⟩ w2).mono fun e w3 he => ?_
    obtain ⟨rfl, rfl⟩ := he
    exact ⟨_, rfl, rfl, E1.trans e2⟩
  · cases hv
    refine ⟨_, _, d, rfl, ?_⟩
    have hsl := o.slc
    have hj := joined_len (words l)
    have hs := sum_le (words l) 64 words_size
    refine (Tryz.strings_Join g 0 d (words l) ⟨#[32]⟩ w2 (fun j x hx => hsl.2 j (.string x) (by rw [List.getElem?_map, hx]; rfl)) (Array.getElem?_eq_some_iff.1 hg).1 (by omega) h1 (by
      have : (Lib.join ((words l).map (·.data.toList)) [32]).length = (joined (words l)).length := rfl
      show (Lib.join ((words l).map (·.data.toList)) [32]).length ≤ _
      rw [this]; omega)).mono fun e w3 he => ?_
    obtain ⟨rfl, he3⟩ := he
    exact ⟨_, rfl, rfl, (E1.trans e2).trans he3⟩

/-- is each word of a one of b? -/
def within (a b : List ByteArray) : Bool := a.all fun s => !isWord s || memS s b
theorem within_ok (p1 p2 : Option Addr) (n1 c1 n2 c2 : Nat) (hn1 : n1 ≤ 1000000000) (hn2 : n2 ≤ 1000000000) (a b : List ByteArray) (w : World) (ha : SlC w p1 n1 (a.map .string)) (hb : SlC w p2 n2 (b.map .string))
    (hsa : ∀ s ∈ a, s.size < 9223372036854775807) (hsb : ∀ s ∈ b, s.size < 9223372036854775807) :
    Calls prg 132 #[.slice p1 n1 c1, .slice p2 n2 c2] w (Ret w (.bool (within a b))) := by
  refine f132_wp p1 n1 c1 p2 n2 c2 w _ ?_
  rintro k1 w1 rfl rfl
  have E1 : Ext w (w.alloc (.cells #[.slice p2 n2 c2] 33)) := (Ext.refl w).alloc _
  have B1 : Blk (w.alloc (.cells #[.slice p2 n2 c2] 33)) w.heap.size [.slice p2 n2 c2] := Blk.new w _ _
  refine (gathered_ok w.heap.size 0 1 p2 n2 c2 (by omega) b _ (B1.cell rfl) (hb.ext E1) hsb).mono fun e w2 he => ?_
  obtain ⟨m, es, rfl, hm, M2, hW, E2⟩ := he
  refine ⟨some m, rfl, ?_⟩
  rintro k2 w3 rfl rfl
  have E3 : Ext w2 (w2.alloc (.cells #[.slice p1 n1 c1] 33)) := (Ext.refl w2).alloc _
  have B3 : Blk (w2.alloc (.cells #[.slice p1 n1 c1] 33)) w2.heap.size [.slice p1 n1 c1] := Blk.new w2 _ _
  refine (gathered_ok w2.heap.size 0 1 p1 n1 c1 (by omega) a _ (B3.cell rfl) (((ha.ext E1).ext E2).ext E3) hsa).mono fun e w4 he => ?_
  obtain ⟨m4, es4, rfl, hm4, M4, hW4, E4⟩ := he
  obtain ⟨w5, hr, I5, hg5, hz5⟩ := ItS.new M4 (P := prg) setUnd
  have E5 : Ext w4 w5 := ⟨hg5.os, hg5.tape, hg5.output, hg5.size, fun k hk => hg5.block k hk (by simp)⟩
  have E : Ext w w5 := (((E1.trans E2).trans E3).trans E4).trans E5
  have M5 : Eng.MapAt w5 m es := ((M2.ext E3).ext E4).ext E5
  refine ⟨some m4, rfl, _, w5, hr, fun W => ∃ ks, ItS W w4.heap.size m4 es4 ks ∧ Eng.MapAt W m es ∧ Ext w W ∧ ∀ x ∈ ks, x ∈ b, fun W => (leftOf es4 (W.iterSeen w4.heap.size)).size, ?_, ?_⟩
  · exact ⟨[], I5, M5, E, by simp⟩
  rintro fr w6 ⟨ks, I6, M6, E6, hks⟩
  have hpre : ∀ x, (findE x es4.toList).isSome = (memS x a && isWord x) := fun x => by
    rw [hW4 x]; cases (memS x a && isWord x) <;> rfl
  rcases its_next (P := prg) I6 0 with ⟨hall, hr6⟩ | ⟨key, v, w8, hnot, hfind, hr6, hent, I8, hg8, hlt⟩
  · left
    refine ⟨w6, hr6, retE E6 ?_⟩
    symm
    rw [within, List.all_eq_true]
    intro x hx
    cases hw : isWord x with
    | false => rfl
    | true =>
      have := hks x (hall x (by rw [hpre x, hw, (memS_iff x a).2 hx]; rfl))
      rw [(memS_iff x b).2 this]; rfl
  · right
    have hka : (memS key a && isWord key) = true := by rw [← hpre key, hfind]; rfl
    have hka' := mw.1 hka
    have hv : v = .bool true := by
      rw [hW4 key, if_pos hka] at hfind
      exact (Option.some.inj hfind).symm
    subst hv
    have M8 : Eng.MapAt w8 m es := M6.block (hg8.block m M6.lt (fun e => by have := Option.some.inj e; have := M2.lt; have := E3.size; have := E4.size; omega))
    have E8 : Ext w w8 := Ext.grownB E6 (by have := (((E1.trans E2).trans E3).trans E4).size; omega) hg8
    have hz : (zeroValue 4).run prg w8 = .ok (.bool false) w8 := by
      exact Tryz.zeroValue4 w8
    have hl := run_lookup_str (P := prg) (z := .bool false) setUnd strUnd hz M8 key false
    simp only [Bool.false_eq_true, if_false] at hl
    have hb' : (findE key es.toList).getD (.bool false) = .bool (memS key b) := by
      rw [hW key, hka'.2, Bool.and_true]; cases memS key b <;> rfl
    rw [hb'] at hl
    refine ⟨_, _, w8, hr6, key, true, hent, memS key b, hl, cwb (fun g => ?_) fun g => ?_⟩
    · refine retE E8 ?_
      symm
      have g' : memS key b = false := by simpa using g
      rw [within, List.all_eq_false]
      exact ⟨key, hka'.1, by rw [hka'.2, g']; simp⟩
    · have g' : memS key b = true := by simpa using g
      refine ⟨⟨ks ++ [key], I8, M8, E8, fun x hx => ?_⟩, ?_⟩
      · rcases List.mem_append.1 hx with h | h
        · exact hks x h
        · have : x = key := by simpa using h
          subst this; exact (memS_iff _ _).1 g'
      · exact hlt

/-- has a text from 1 to so many bytes, all from 33 to 126? -/
def shows (c : UInt8) : Bool := decide (33 ≤ c.toNat ∧ c.toNat ≤ 126)
def printedB (s : ByteArray) (most : Nat) : Bool := decide (1 ≤ s.size) && (decide (s.size ≤ most) && (bs s).all shows)
def odd (x : Nat) : Bool := decide (x < 33) || decide (x > 126)
theorem decode_small (s : ByteArray) (i : Nat) (h : (s.get! i).toNat < 128) : Utf8.decode s i = ((s.get! i).toNat, 1) := by
  simp [Utf8.decode, h]
theorem decode_big (s : ByteArray) (i : Nat) (h : ¬ (s.get! i).toNat < 128) : 128 ≤ (Utf8.decode s i).1 := by
  unfold Utf8.decode
  simp only [Nat.add_zero, if_neg h]
  repeat' split
  all_goals simp only [Utf8.runeError]
  all_goals first
    | omega
    | (rename_i h1 h2; first | omega | (rw [Bool.and_eq_true, decide_eq_true_iff] at h2; omega) | skip)
theorem idx_neg (s : ByteArray) : ∀ (f i : Nat), s.size ≤ i + f → (Lib.idxFuncFrom odd true s f i < 0 ↔ ((bs s).drop i).all shows = true)
  | 0, i, h => by
    rw [List.drop_eq_nil_of_le (by rw [bs_len]; omega)]
    simp [Lib.idxFuncFrom]
  | f + 1, i, h => by
    rw [Lib.idxFuncFrom]
    by_cases hi : i < s.size
    · rw [if_pos hi]
      have hb : (bs s)[i]? = some (s.get! i) := by
        have hl : i < (bs s).length := by rw [bs_len]; exact hi
        rw [List.getElem?_eq_getElem hl]
        have : s.get! i = s.data[i]! := rfl
        rw [this, getElem!_pos s.data i hi]
        simp [bs]
      rw [drop_at hb, List.all_cons]
      by_cases h1 : (s.get! i).toNat < 128
      · rw [decode_small s i h1]
        by_cases h2 : odd (s.get! i).toNat = true
        · rw [if_pos h2]
          have : shows (s.get! i) = false := by
            simp only [odd, Bool.or_eq_true, decide_eq_true_iff] at h2
            rw [shows, decide_eq_false_iff_not]; omega
          rw [this]; simp
        · rw [if_neg h2]
          have : shows (s.get! i) = true := by
            simp only [odd, Bool.or_eq_true, decide_eq_true_iff] at h2
            rw [shows, decide_eq_true_iff]; omega
          rw [this, Bool.true_and]
          exact idx_neg s f (i + 1) (by omega)
      · have hd := decode_big s i h1
        have : odd (Utf8.decode s i).1 = true := by
          simp only [odd, Bool.or_eq_true, decide_eq_true_iff]; omega
        rw [if_pos this]
        have : shows (s.get! i) = false := by rw [shows, decide_eq_false_iff_not]; omega
        rw [this]; simp
    · rw [if_neg hi, List.drop_eq_nil_of_le (by rw [bs_len]; omega)]
      simp
theorem printed1_ok (x : Nat) (w : World) : Calls prg 99 #[.int .i32 x] w (RetP w (.bool (odd x))) := by
  refine f99_wp x w _ (cwd (fun h => retb ?_) fun h => retb ?_)
  · simp only [odd]; rw [decide_eq_true (show x < 33 by omega)]; rfl
  · simp only [odd]; rw [decide_eq_false (show ¬ x < 33 by omega), Bool.false_or]; exact decide_eq_decide.2 (by omega)
theorem fn1_ok : FnOk prg 99 := by
  have := fokOk_of (P := prg) (fs := [99]) (nx := []) (by kernel_rfl)
  exact this.1 _ (by decide)
theorem printed_ok (s : ByteArray) (most : Nat) (w : World) : Calls prg 53 #[.string s, .int .i64 most] w (Ret w (.bool (printedB s most))) := by
  refine f53_wp s most w _ (cwd (fun h => cwd (fun h1 => ?_) fun h1 => ?_) fun h => ?_)
  · refine (Tryz.strings_IndexFunc_runes 99 #[] (fun args w => callFunc_run fn1_ok args w) odd s w ?_).mono fun e w1 he => ?_
    · intro W x _ _
      exact (printed1_ok x W).mono fun e w' he => ⟨he.1, 0, he.2⟩
    · obtain ⟨rfl, he⟩ := he
      refine ⟨_, rfl, retE he ?_⟩
      have := idx_neg s s.size 0 (by omega)
      rw [List.drop_zero] at this
      rw [printedB, decide_eq_true (show 1 ≤ s.size by omega), decide_eq_true (show s.size ≤ most by omega), Bool.true_and, Bool.true_and, Bool.eq_iff_iff, decide_eq_true_iff]
      exact this
  · exact retE (Ext.refl w) (by rw [printedB, decide_eq_false (show ¬ s.size ≤ most by omega)]; simp)
  · exact retE (Ext.refl w) (by rw [printedB, decide_eq_false (show ¬ 1 ≤ s.size by omega)]; simp)

end Go.Proofs.YtbbcofdibkgalaaGreatDoor
