/- Contracts: bytes and words. -/
import Derived.Test.YtbbcofdibkgalaaGreatDoorWb
import Derived.Test.YtbbcofdibkgalaaGreatDoorH
import Derived.Test.YtbbcofdibkgalaaGreatDoorW6
import Derived.Test.YtbbcofdibkgalaaGreatDoorW7
import Derived.Test.YtbbcofdibkgalaaGreatDoorW8
import Derived.Test.YtbbcofdibkgalaaGreatDoorW9
set_option linter.unusedVariables false
namespace Go.Proofs.YtbbcofdibkgalaaGreatDoor
open Go.Eng

def wordByte (c : UInt8) : Bool := !(decide (c.toNat < 33) || decide (c.toNat = 34) || decide (c.toNat = 92) || decide (c.toNat > 126))
def isWord (s : ByteArray) : Bool := s.data.toList.all wordByte && decide (1 ≤ s.size) && decide (s.size ≤ 64)
theorem isWord_ok (s : ByteArray) (hs : s.size < 9223372036854775807) (w : World) : Calls prg 142 #[.string s] w (RetP w (.bool (isWord s))) := by
  refine f142_wp s w _ ⟨fun i w1 => 0 ≤ i ∧ i ≤ s.size ∧ w1 = w ∧ s.data.toList.all wordByte = (s.data.toList.drop i.toNat).all wordByte, fun i _ => (s.size - i).toNat, ⟨by omega, by omega, rfl, rfl⟩, ?_⟩
  rintro i fr w1 ⟨h0, h1, rfl, h2⟩
  refine cwd (fun h => ?_) fun h => ?_
  · obtain ⟨c, hc⟩ := byte_at h0 h
    have hd := at_drop hc
    rw [hd, List.all_cons] at h2
    refine ⟨h0, c, hc, ?_⟩
    have no : wordByte c = false → isWord s = false := fun hb => by simp [isWord, h2, hb]
    refine cwd (fun h => ⟨by rw [no (by simp [wordByte]; omega)], rfl⟩) fun g1 => ?_
    refine cwd (fun h => ⟨by rw [no (by simp [wordByte]; omega)], rfl⟩) fun g2 => ?_
    refine cwd (fun h => ⟨by rw [no (by simp [wordByte]; omega)], rfl⟩) fun g3 => ?_
    refine cwd (fun h => ⟨by rw [no (by simp [wordByte]; omega)], rfl⟩) fun g4 => ?_
    rw [wrap_i64 (by omega) (by omega)]
    have hb : wordByte c = true := by simp [wordByte]; omega
    refine ⟨⟨by omega, by omega, rfl, ?_⟩, by dsimp only; omega⟩
    rw [h2, hb, Bool.true_and, show (i + 1).toNat = i.toNat + 1 by omega]
  · have : s.data.toList.drop i.toNat = [] := List.drop_eq_nil_of_le (by rw [size_list]; omega)
    rw [this, List.all_nil] at h2
    refine cwd (fun h => ?_) fun h => ?_
    · refine ⟨?_, rfl⟩
      rw [show isWord s = decide ((s.size : Int) ≤ 64) by simp only [isWord, h2, Bool.true_and, decide_eq_true (show 1 ≤ s.size by omega)]; exact decide_eq_decide.2 (by omega)]
    · refine ⟨?_, rfl⟩
      rw [show isWord s = false by simp only [isWord, decide_eq_false (show ¬ 1 ≤ s.size by omega), Bool.and_false, Bool.false_and]]


theorem retb {w : World} {a b : Bool} (h : a = b) : RetP w (.bool b) (.returned (.bool a)) w := by rw [h]; exact ⟨rfl, rfl⟩
theorem reti {w : World} {k : IntKind} {a b : Int} (h : a = b) : RetP w (.int k b) (.returned (.int k a)) w := by rw [h]; exact ⟨rfl, rfl⟩

/-- may a byte stand in a family? -/
def famByte (c : Nat) : Bool := decide (97 ≤ c ∧ c ≤ 122) || decide (65 ≤ c ∧ c ≤ 90) || decide (48 ≤ c ∧ c ≤ 57) || decide (c = 45) || decide (c = 95)
theorem sign_ok (c : Nat) (w : World) : Calls prg 73 #[.int .u8 c] w (RetP w (.bool (famByte c))) := by
  refine f73_wp c w _ ?_
  have yes : 97 ≤ c ∧ c ≤ 122 ∨ 65 ≤ c ∧ c ≤ 90 ∨ 48 ≤ c ∧ c ≤ 57 ∨ c = 45 → true = famByte c := fun h => by
    simp only [famByte]
    rcases h with h | h | h | h <;> simp [h]
  have no : ¬ (97 ≤ c ∧ c ≤ 122 ∨ 65 ≤ c ∧ c ≤ 90 ∨ 48 ≤ c ∧ c ≤ 57 ∨ c = 45) → decide ((c : Int) = 95) = famByte c := fun h => by
    simp only [famByte, not_or] at h ⊢
    rw [decide_eq_false h.1, decide_eq_false h.2.1, decide_eq_false h.2.2.1, decide_eq_false h.2.2.2]
    simp only [Bool.false_or]
    exact decide_eq_decide.2 (by omega)
  repeat' refine cwd (fun h => ?_) (fun h => ?_)
  all_goals first
    | exact retb (yes (by omega))
    | exact retb (no (by omega))

/-- worth by sixteen; -1: none -/
def hexVal (c : Nat) : Int := if 48 ≤ c ∧ c ≤ 57 then c - 48 else if 65 ≤ c ∧ c ≤ 70 then c - 55 else if 97 ≤ c ∧ c ≤ 102 then c - 87 else -1
theorem hexVal_ok (c : Nat) (w : World) : Calls prg 109 #[.int .u8 c] w (RetP w (.int .i64 (hexVal c))) := by
  refine f109_wp c w _ ⟨fun b w1 => w1 = w ∧ b = decide (48 ≤ c ∧ c ≤ 57), ?_, ?_⟩
  · refine cwd (fun h => ⟨rfl, decide_eq_decide.2 (by omega)⟩) fun h => ⟨rfl, (decide_eq_false (by omega)).symm⟩
  rintro b fr w1 ⟨rfl, rfl⟩
  refine cwd (fun h => ?_) fun h => ⟨fun b w2 => w2 = w1 ∧ b = decide (65 ≤ c ∧ c ≤ 70), ?_, ?_⟩
  · exact reti (by rw [wrap_u8 (by omega) (by omega), wrap_i64 (by omega) (by omega), hexVal, if_pos h])
  · refine cwd (fun h => ⟨rfl, decide_eq_decide.2 (by omega)⟩) fun h => ⟨rfl, (decide_eq_false (by omega)).symm⟩
  rintro b fr1 w2 ⟨rfl, rfl⟩
  refine cwd (fun h1 => ?_) fun h1 => ?_
  · exact reti (by rw [wrap_u8 (by omega) (by omega), wrap_i64 (n := (c : Int) - 65) (by omega) (by omega), wrap_i64 (by omega) (by omega), hexVal, if_neg h, if_pos h1]; omega)
  refine cwd (fun h2 => ?_) fun h2 => ?_
  · refine cwd (fun h3 => ?_) fun h3 => ?_
    · exact reti (by rw [wrap_u8 (by omega) (by omega), wrap_i64 (n := (c : Int) - 97) (by omega) (by omega), wrap_i64 (by omega) (by omega), hexVal, if_neg h, if_neg h1, if_pos (by omega)]; omega)
    · exact reti (by rw [hexVal, if_neg h, if_neg h1, if_neg (by omega)])
  · exact reti (by rw [hexVal, if_neg h, if_neg h1, if_neg (by omega)])

/-- a byte's place in a list, from i on; -1: it is not there -/
def placeIn (c : UInt8) : List UInt8 → Int → Int
  | [], _ => -1
  | a :: r, i => if a = c then i else placeIn c r (i + 1)
theorem place_ok (s : ByteArray) (hs : s.size < 9223372036854775807) (c : UInt8) (w : World) : Calls prg 151 #[.string s, .int .u8 (c.toNat : Int)] w (RetP w (.int .i64 (placeIn c s.data.toList 0))) := by
  refine f151_wp s c.toNat w _ ⟨fun i w1 => 0 ≤ i ∧ i ≤ s.size ∧ w1 = w ∧ placeIn c s.data.toList 0 = placeIn c (s.data.toList.drop i.toNat) i, fun i _ => (s.size - i).toNat, ⟨by omega, by omega, rfl, rfl⟩, ?_⟩
  rintro i fr w1 ⟨h0, h1, rfl, h2⟩
  refine cwd (fun h => ?_) fun h => ?_
  · obtain ⟨d, hc⟩ := byte_at h0 h
    rw [at_drop hc, placeIn] at h2
    refine ⟨h0, d, hc, ?_⟩
    refine cwd (fun h => ?_) fun g1 => ?_
    · rw [if_pos (UInt8.toNat_inj.1 (by omega))] at h2
      exact reti h2.symm
    · rw [if_neg (fun e => g1 (by rw [e]))] at h2
      rw [wrap_i64 (by omega) (by omega)]
      refine ⟨⟨by omega, by omega, rfl, ?_⟩, by dsimp only; omega⟩
      rw [h2, show (i + 1).toNat = i.toNat + 1 by omega]
  · have : s.data.toList.drop i.toNat = [] := List.drop_eq_nil_of_le (by rw [size_list]; omega)
    rw [this, placeIn] at h2
    exact reti h2.symm

end Go.Proofs.YtbbcofdibkgalaaGreatDoor
