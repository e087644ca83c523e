/- Contracts: seal.Right, field.Get. -/
import Derived.Test.YtbbcofdibkgalaaGreatDoorPc
import Derived.Test.YtbbcofdibkgalaaGreatDoorM
import Derived.Test.YtbbcofdibkgalaaGreatDoorW3
import Derived.Test.YtbbcofdibkgalaaGreatDoorW2
set_option linter.unusedVariables false
namespace Go.Proofs.YtbbcofdibkgalaaGreatDoor
open Go.Eng

/-- is a token? -/
def tokRight (kind : Int) (fam : ByteArray) (serial : Int) : Bool :=
  fam.data.toList.all (fun c => famByte c.toNat) && (decide (1 ≤ kind) && (decide (kind ≤ 3) && (decide (1 ≤ fam.size) && (decide (fam.size ≤ 32) && (decide (0 ≤ serial) && decide (serial ≤ 1099511627776))))))
theorem retE {w w1 : World} {a b : Bool} (he : Ext w w1) (h : a = b) : Ret w (.bool b) (.returned (.bool a)) w1 := by rw [h]; exact ⟨rfl, he⟩
theorem right_ok (kind : Int) (fam : ByteArray) (serial : Int) (hs : fam.size < 9223372036854775807) (w : World) :
    Calls prg 29 #[.agg #[.int .i64 kind, .string fam, .int .i64 serial]] w (Ret w (.bool (tokRight kind fam serial))) := by
  refine f29_wp kind fam serial w _ ?_
  rintro b w1 rfl rfl
  have hB : Blk (w.alloc (.cells #[.int .i64 kind, .string fam, .int .i64 serial] 47)) w.heap.size [.int .i64 kind, .string fam, .int .i64 serial] := Blk.new w _ _
  refine ⟨fun i w2 => 0 ≤ i ∧ i ≤ fam.size ∧ w2 = (w.alloc (.cells #[.int .i64 kind, .string fam, .int .i64 serial] 47)) ∧ fam.data.toList.all (fun c => famByte c.toNat) = (fam.data.toList.drop i.toNat).all (fun c => famByte c.toNat), fun i _ => (fam.size - i).toNat, ⟨by omega, by omega, rfl, rfl⟩, ?_⟩
  rintro i fr w2 ⟨h0, h1, rfl, h2⟩
  have hE := (Ext.refl w).alloc (.cells #[.int .i64 kind, .string fam, .int .i64 serial] 47)
  refine ⟨fam, hB.cell rfl, cwd (fun hi => ?_) fun hi => ?_⟩
  · obtain ⟨c, hc⟩ := byte_at h0 hi
    rw [at_drop hc, List.all_cons] at h2
    refine ⟨fam, hB.cell rfl, h0, c, hc, (sign_ok c.toNat _).mono fun e w3 he => ?_⟩
    obtain ⟨rfl, rfl⟩ := he
    refine ⟨_, rfl, cwb (fun g => ?_) fun g => ?_⟩
    · refine retE hE ?_
      have : famByte c.toNat = false := by simpa using g
      rw [tokRight, h2, this]; rfl
    · have : famByte c.toNat = true := by simpa using g
      rw [wrap_i64 (by omega) (by omega)]
      exact ⟨⟨by omega, by omega, rfl, by rw [h2, this, Bool.true_and, show (i + 1).toNat = i.toNat + 1 by omega]⟩, by dsimp only; omega⟩
  · rw [List.drop_eq_nil_of_le (by rw [size_list]; omega), List.all_nil] at h2
    have key : tokRight kind fam serial = (decide (1 ≤ kind) && (decide (kind ≤ 3) && (decide (1 ≤ fam.size) && (decide (fam.size ≤ 32) && (decide (0 ≤ serial) && decide (serial ≤ 1099511627776)))))) := by rw [tokRight, h2, Bool.true_and]
    rw [key]
    refine ⟨kind, hB.cell rfl, cwd (fun g1 => ⟨kind, hB.cell rfl, cwd (fun g2 => ⟨fam, hB.cell rfl, cwd (fun g3 => ⟨fam, hB.cell rfl, cwd (fun g4 => ⟨serial, hB.cell rfl, cwd (fun g5 => ⟨serial, hB.cell rfl, ?_⟩) fun g5 => ?_⟩) fun g4 => ?_⟩) fun g3 => ?_⟩) fun g2 => ?_⟩) fun g1 => ?_⟩
    · exact retE hE (by rw [decide_eq_true (show 1 ≤ kind by omega), decide_eq_true g2, decide_eq_true (show 1 ≤ fam.size by omega), decide_eq_true (show fam.size ≤ 32 by omega), decide_eq_true (show 0 ≤ serial by omega)]; rfl)
    · exact retE hE (by rw [decide_eq_false (show ¬ 0 ≤ serial by omega)]; simp)
    · exact retE hE (by rw [decide_eq_false (show ¬ fam.size ≤ 32 by omega)]; simp)
    · exact retE hE (by rw [decide_eq_false (show ¬ 1 ≤ fam.size by omega)]; simp)
    · exact retE hE (by rw [decide_eq_false g2]; simp)
    · exact retE hE (by rw [decide_eq_false (show ¬ 1 ≤ kind by omega)]; simp)

/-! ### Pairs -/
/-- A slice of pairs: the cells of each. -/
def SlP (w : World) (p : Option Addr) (n : Nat) (l : List (ByteArray × ByteArray)) : Prop :=
  l.length = n ∧ ∀ j x, l[j]? = some x → nilW p fun b o => w.cell? ⟨b, o + j * 2, none⟩ = some (.string x.1) ∧ w.cell? ⟨b, o + j * 2 + 1, none⟩ = some (.string x.2)
theorem SlP.ext {w w' : World} {p : Option Addr} {n : Nat} {l : List (ByteArray × ByteArray)} (h : SlP w p n l) (he : Ext w w') : SlP w' p n l := by
  refine ⟨h.1, fun j v hj => ?_⟩
  obtain ⟨b, o, rfl, hc⟩ := nilW_def (h.2 j v hj)
  exact ⟨Ext.cell he hc.1, Ext.cell he hc.2⟩
theorem SlP.at {w : World} {p : Option Addr} {n : Nat} {l : List (ByteArray × ByteArray)} (h : SlP w p n l) {i : Int} (h0 : 0 ≤ i) (h1 : i < (n : Int)) :
    ∃ x b o, l[i.toNat]? = some x ∧ p = some ⟨b, o, none⟩ ∧ w.cell? ⟨b, o + i.toNat * 2, none⟩ = some (.string x.1) ∧ w.cell? ⟨b, o + i.toNat * 2 + 1, none⟩ = some (.string x.2) := by
  have hl : i.toNat < l.length := by rw [h.1]; omega
  obtain ⟨b, o, hp, hc⟩ := nilW_def (h.2 i.toNat _ (List.getElem?_eq_getElem hl))
  exact ⟨_, b, o, List.getElem?_eq_getElem hl, hp, hc⟩
/-- the first value of a name (or what is there already), and how many there are -/
def getP (name : ByteArray) : List (ByteArray × ByteArray) → ByteArray × Nat
  | [] => (⟨#[]⟩, 0)
  | x :: r => if x.1 = name then (x.2, (getP name r).2 + 1) else getP name r
theorem getP_le (name : ByteArray) : ∀ l, (getP name l).2 ≤ l.length
  | [] => by simp [getP]
  | x :: r => by
    have := getP_le name r
    rw [getP, List.length_cons]
    split
    · dsimp only; omega
    · omega
theorem get_ok (p : Option Addr) (n c : Nat) (hn : n < 9223372036854775807) (l : List (ByteArray × ByteArray)) (name : ByteArray) (w : World) (h : SlP w p n l) :
    Calls prg 30 #[.slice p n c, .string name] w (RetP w (.tuple #[.string (getP name l).1, .int .i64 ((getP name l).2 : Int)])) := by
  refine f30_wp p n c name w _ ⟨fun v k i w1 => -1 ≤ i ∧ i < n ∧ w1 = w ∧ v = (getP name (l.drop (i + 1).toNat)).1 ∧ k = ((getP name (l.drop (i + 1).toNat)).2 : Int), fun _ _ i _ => (i + 1).toNat, ?_, ?_⟩
  · rw [wrap_i64 (by omega) (by omega)]
    have : l.drop ((n : Int) - 1 + 1).toNat = [] := List.drop_eq_nil_of_le (by rw [h.1]; omega)
    dsimp only
    rw [this]
    exact ⟨by omega, by omega, rfl, rfl, rfl⟩
  rintro v k i fr w1 ⟨h0, h1, rfl, rfl, rfl⟩
  refine cwd (fun hi => ?_) fun hi => ?_
  · obtain ⟨x, b, o, hx, rfl, hc, hc2⟩ := h.at hi h1
    have hd := drop_at hx
    have hi1 : (i + 1).toNat = i.toNat + 1 := by omega
    have hle := getP_le name (l.drop (i + 1).toNat)
    have hll : (l.drop (i + 1).toNat).length ≤ n := by rw [List.length_drop, h.1]; omega
    refine ⟨hi, h1, x.1, hc, cwd (fun g => ?_) fun g => ?_⟩
    · refine ⟨hi, h1, x.2, hc2, ?_⟩
      rw [wrap_i64 (by omega) (by omega), wrap_i64 (by omega) (by omega)]
      have e : getP name (l.drop (i - 1 + 1).toNat) = (x.2, (getP name (l.drop (i + 1).toNat)).2 + 1) := by
        rw [show (i - 1 + 1).toNat = i.toNat by omega, hd, getP, if_pos g, hi1]
      refine ⟨⟨by omega, by omega, rfl, by rw [e], by rw [e]; push_cast; rfl⟩, by dsimp only; omega⟩
    · rw [wrap_i64 (by omega) (by omega)]
      have e : getP name (l.drop (i - 1 + 1).toNat) = getP name (l.drop (i + 1).toNat) := by
        rw [show (i - 1 + 1).toNat = i.toNat by omega, hd, getP, if_neg g, hi1]
      refine ⟨⟨by omega, by omega, rfl, by rw [e], by rw [e]⟩, by dsimp only; omega⟩
  · have : (i + 1).toNat = 0 := by omega
    rw [this, List.drop_zero]
    exact ⟨rfl, rfl⟩

end Go.Proofs.YtbbcofdibkgalaaGreatDoor
