/- Contracts: small slices. -/
import Derived.Test.YtbbcofdibkgalaaGreatDoorPa
import Derived.Test.YtbbcofdibkgalaaGreatDoorW5
set_option linter.unusedVariables false
namespace Go.Proofs.YtbbcofdibkgalaaGreatDoor
open Go.Eng

/-- the first that isn't none -/
def firstOf : List Int → Int
  | [] => 0
  | a :: r => if a ≠ 0 then a else firstOf r
theorem first_ok (p : Option Addr) (n c : Nat) (hn : n < 9223372036854775807) (l : List Int) (w : World) (h : SlC w p n (l.map (.int .i64))) : Calls prg 65 #[.slice p n c] w (RetP w (.int .i64 (firstOf l))) := by
  refine f65_wp p n c w _ ⟨fun i w1 => 0 ≤ i ∧ i ≤ n ∧ w1 = w ∧ firstOf l = firstOf (l.drop i.toNat), fun i _ => (n - i).toNat, ⟨by omega, by omega, rfl, rfl⟩, ?_⟩
  rintro i fr w1 ⟨h0, h1, rfl, h2⟩
  refine cwd (fun hi => ?_) fun hi => ?_
  · obtain ⟨a, b, o, ha, rfl, hc⟩ := h.atF h0 hi
    rw [drop_at ha, firstOf] at h2
    refine ⟨h0, hi, a, by rw [Nat.mul_one]; exact hc, cwd (fun g => ?_) fun g => ?_⟩
    · rw [if_pos g] at h2; exact reti h2.symm
    · rw [if_neg g] at h2
      rw [wrap_i64 (by omega) (by omega)]
      exact ⟨⟨by omega, by omega, rfl, by rw [h2, show (i + 1).toNat = i.toNat + 1 by omega]⟩, by dsimp only; omega⟩
  · rw [List.drop_eq_nil_of_le (by rw [h.len]; omega), firstOf] at h2
    exact reti h2.symm
theorem unless_ok (is : Bool) (y : Int) (w : World) : Calls prg 66 #[.bool is, .int .i64 y] w (RetP w (.int .i64 (if is then 0 else y))) :=
  f66_wp is y w _ (cwb (fun h => by rw [h]; exact ⟨rfl, rfl⟩) fun h => by rw [h]; exact ⟨rfl, rfl⟩)

/-- a text's place -/
def findS (v : ByteArray) : List ByteArray → Int → Int
  | [], _ => -1
  | a :: r, i => if v = a then i else findS v r (i + 1)
theorem indexS_ok (p : Option Addr) (n c : Nat) (hn : n < 9223372036854775807) (l : List ByteArray) (v : ByteArray) (w : World) (h : SlC w p n (l.map .string)) :
    Calls prg 55 #[.slice p n c, .string v] w (RetP w (.int .i64 (findS v l 0))) := by
  refine f55_wp p n c v w _ ⟨fun i w1 => 0 ≤ i ∧ i ≤ n ∧ w1 = w ∧ findS v l 0 = findS v (l.drop i.toNat) i, fun i _ => (n - i).toNat, ⟨by omega, by omega, rfl, rfl⟩, ?_⟩
  rintro i fr w1 ⟨h0, h1, rfl, h2⟩
  refine cwd (fun hi => ?_) fun hi => ?_
  · obtain ⟨a, b, o, ha, rfl, hc⟩ := h.atF h0 hi
    rw [drop_at ha, findS] at h2
    refine ⟨h0, hi, a, by rw [Nat.mul_one]; exact hc, cwd (fun g => ?_) fun g => ?_⟩
    · rw [if_pos g] at h2; exact reti h2.symm
    · rw [if_neg g] at h2
      rw [wrap_i64 (by omega) (by omega)]
      exact ⟨⟨by omega, by omega, rfl, by rw [h2, show (i + 1).toNat = i.toNat + 1 by omega]⟩, by dsimp only; omega⟩
  · rw [List.drop_eq_nil_of_le (by rw [h.len]; omega), findS] at h2
    exact reti h2.symm
def memS (v : ByteArray) (l : List ByteArray) : Bool := l.any fun a => decide (v = a)
theorem memS_iff (v : ByteArray) (l : List ByteArray) : memS v l = true ↔ v ∈ l := by simp [memS]
theorem findS_mem (v : ByteArray) : ∀ (l : List ByteArray) (i : Int), 0 ≤ i → (0 ≤ findS v l i ↔ v ∈ l)
  | [], i, h => by simp [findS]
  | a :: r, i, h => by
    rw [findS, List.mem_cons]
    by_cases e : v = a
    · simp [e, h]
    · rw [if_neg e, findS_mem v r (i + 1) (by omega)]; simp [e]
theorem containsS_ok (p : Option Addr) (n c : Nat) (hn : n < 9223372036854775807) (l : List ByteArray) (v : ByteArray) (w : World) (h : SlC w p n (l.map .string)) :
    Calls prg 102 #[.slice p n c, .string v] w (RetP w (.bool (memS v l))) := by
  refine f102_wp p n c v w _ ((indexS_ok p n c hn l v w h).mono fun e w1 he => ?_)
  obtain ⟨rfl, rfl⟩ := he
  exact ⟨_, rfl, retb (by rw [Bool.eq_iff_iff, memS_iff, ← findS_mem v l 0 (by omega), decide_eq_true_iff])⟩

/-- the same texts? -/
theorem equalS_ok (p q : Option Addr) (n m c d : Nat) (hn : n < 9223372036854775807) (l k : List ByteArray) (w : World) (h : SlC w p n (l.map .string)) (hk : SlC w q m (k.map .string)) :
    Calls prg 56 #[.slice p n c, .slice q m d] w (Ret w (.bool (decide (l = k)))) := by
  refine f56_wp p n c q m d w _ (cwd (fun g => ⟨?_, Ext.refl w⟩) fun g => ?_)
  · rw [decide_eq_false]
    intro e; subst e
    have := h.len; have := hk.len; omega
  refine ⟨fun i w1 => 0 ≤ i ∧ i ≤ n ∧ Ext w w1 ∧ l.take i.toNat = k.take i.toNat, fun i _ => (n - i).toNat, ⟨by omega, by omega, Ext.refl w, rfl⟩, ?_⟩
  rintro i fr w1 ⟨h0, h1, he, h2⟩
  refine cwd (fun hi => ?_) fun hi => ?_
  · obtain ⟨a, b, o, ha, rfl, hc⟩ := (h.ext he).atF h0 hi
    obtain ⟨a', b', o', ha', rfl, hc'⟩ := (hk.ext he).atF h0 (by omega)
    refine ⟨fun w2 => Ext w1 w2, (Ext.refl w1).drew, h0, hi, a, fun w2 h2 => by rw [Nat.mul_one]; exact Ext.cell h2 hc, h0, by omega, a', fun w2 h2 => by rw [Nat.mul_one]; exact Ext.cell h2 hc', cwd (fun g2 => ⟨?_, he.drew⟩) fun g2 => ?_⟩
    · rw [decide_eq_false]
      intro e; subst e
      rw [ha] at ha'; cases ha'; exact g2 rfl
    · rw [wrap_i64 (by omega) (by omega)]
      refine ⟨⟨by omega, by omega, he.drew, ?_⟩, by dsimp only; omega⟩
      have : a = a' := Classical.byContradiction g2
      subst this
      rw [show (i + 1).toNat = i.toNat + 1 by omega, List.take_add_one, List.take_add_one, h2, ha, ha']
  · refine ⟨?_, he⟩
    rw [decide_eq_true]
    have e1 : l.take i.toNat = l := List.take_of_length_le (by rw [h.len]; omega)
    have e2 : k.take i.toNat = k := List.take_of_length_le (by rw [hk.len]; omega)
    rw [← e1, h2, e2]

/-- the same bytes? -/
theorem same_ok (p q : Option Addr) (n m c d : Nat) (hn : n < 9223372036854775807) (l k : List UInt8) (w : World) (h : SlC w p n (l.map bv)) (hk : SlC w q m (k.map bv)) :
    Calls prg 43 #[.slice p n c, .slice q m d] w (Ret w (.bool (decide (l = k)))) := by
  refine f43_wp p n c q m d w _ (cwd (fun g => ⟨?_, Ext.refl w⟩) fun g => ?_)
  · rw [decide_eq_false]
    intro e; subst e
    have := h.len; have := hk.len; omega
  refine ⟨fun x i w1 => 0 ≤ i ∧ i ≤ n ∧ Ext w w1 ∧ ∃ y : UInt8, x = (y.toNat : Int) ∧ (y = 0 ↔ l.take i.toNat = k.take i.toNat), fun _ i _ => (n - i).toNat, ⟨by omega, by omega, Ext.refl w, 0, rfl, by simp⟩, ?_⟩
  rintro x i fr w1 ⟨h0, h1, he, y, rfl, h2⟩
  refine cwd (fun hi => ?_) fun hi => ?_
  · obtain ⟨a, b, o, ha, rfl, hc⟩ := (h.ext he).atF h0 hi
    obtain ⟨a', b', o', ha', rfl, hc'⟩ := (hk.ext he).atF h0 (by omega)
    refine ⟨fun w2 => Ext w1 w2, (Ext.refl w1).drew, h0, hi, a.toNat, fun w2 h2 => by rw [Nat.mul_one]; exact Ext.cell h2 hc, h0, by omega, a'.toNat, fun w2 h2 => by rw [Nat.mul_one]; exact Ext.cell h2 hc', ?_⟩
    rw [wrap_i64 (by omega) (by omega), bitv_xor, bitv_or]
    refine ⟨⟨by omega, by omega, he.drew, _, rfl, ?_⟩, by dsimp only; omega⟩
    have e1 : (y ||| (a ^^^ a') = 0) ↔ (y = 0 ∧ a = a') := by
      rw [UInt8.or_eq_zero_iff, UInt8.xor_eq_zero_iff]
    rw [e1, h2, show (i + 1).toNat = i.toNat + 1 by omega, List.take_add_one, List.take_add_one, ha, ha']
    have hl : (l.take i.toNat).length = (k.take i.toNat).length := by
      rw [List.length_take, List.length_take, h.len, hk.len]; omega
    constructor
    · rintro ⟨e, e'⟩; rw [e, e']
    · intro e
      have := List.append_inj e hl
      simpa using this
  · refine ⟨?_, he⟩
    have e1 : l.take i.toNat = l := List.take_of_length_le (by rw [h.len]; omega)
    have e2 : k.take i.toNat = k := List.take_of_length_le (by rw [hk.len]; omega)
    rw [e1, e2] at h2
    have : (decide ((y.toNat : Int) = 0)) = decide (l = k) := decide_eq_decide.2 (by rw [← h2]; constructor
                                                                                     · intro e; apply UInt8.toNat_inj.1; simpa using e
                                                                                     · intro e; rw [e]; rfl)
    rw [this]

end Go.Proofs.YtbbcofdibkgalaaGreatDoor
