/- Contracts: field's Quote. -/
import Derived.Test.YtbbcofdibkgalaaGreatDoorBl
import Derived.Test.YtbbcofdibkgalaaGreatDoorPa
import Derived.Test.YtbbcofdibkgalaaGreatDoorQf
import Derived.Test.YtbbcofdibkgalaaGreatDoorW5
import Derived.Test.YtbbcofdibkgalaaGreatDoorShelf
set_option linter.unusedVariables false
set_option linter.unusedSimpArgs false
namespace Go.Proofs.YtbbcofdibkgalaaGreatDoor
open Go.Eng
open Go.RowKit (Below)

theorem u8_back (c : UInt8) : ((c.toNat : Int)).toNat.toUInt8 = c := by simp
theorem idx_some (c : UInt8) : ∀ (l : List UInt8), decide (Lib.indexByte l c ≥ 0) = decide (c ∈ l)
  | [] => by simp [Lib.indexByte]
  | a :: r => by
    have ih := idx_some c r
    have hge := Lib.indexByte_ge r c
    unfold Lib.indexByte
    by_cases h : a = c
    · subst h; simp
    · have h2 : ¬ c = a := fun e => h e.symm
      have hb : (a == c) = false := by simpa using h
      simp only [hb, Bool.false_eq_true, if_false, List.mem_cons, h2, false_or]
      rw [← ih]
      by_cases h3 : Lib.indexByte r c = -1
      · simp [h3]
      · have : (Lib.indexByte r c == -1) = false := by simpa using h3
        simp only [this, Bool.false_eq_true, if_false]
        exact decide_eq_decide.2 (by omega)
theorem plain_ok (c : UInt8) (w : World) : Calls prg 93 #[.int .u8 (c.toNat : Int)] w (RetP w (.bool (itself c.toNat))) := by
  have hc := c.toNat_lt
  have mem : decide (c ∈ ([42, 45, 46, 95] : List UInt8)) = (decide (c.toNat = 42) || decide (c.toNat = 45) || decide (c.toNat = 46) || decide (c.toNat = 95)) := by
    have e : ∀ k : UInt8, (c = k) = (c.toNat = k.toNat) := fun k => by rw [UInt8.toNat_inj]
    simp only [List.mem_cons, List.not_mem_nil, or_false, e]
    rw [show (42 : UInt8).toNat = 42 from rfl, show (45 : UInt8).toNat = 45 from rfl, show (46 : UInt8).toNat = 46 from rfl, show (95 : UInt8).toNat = 95 from rfl]
    simp only [Bool.decide_or, Bool.or_assoc]
  have ask : ¬ (65 ≤ c.toNat ∧ c.toNat ≤ 90) → ¬ (97 ≤ c.toNat ∧ c.toNat ≤ 122) → ¬ (48 ≤ c.toNat ∧ c.toNat ≤ 57) →
      Calls prg 126 #[.string ⟨#[42, 45, 46, 95]⟩, .int .u8 (c.toNat : Int)] w fun e w1 => ∃ (r : Int), e = .returned (.int .i64 r) ∧ RetP w (.bool (itself c.toNat)) (.returned (.bool (decide (r ≥ (0 : Int))))) w1 := fun h1 h2 h3 => by
    refine (Tryz.strings_IndexByte ⟨#[42, 45, 46, 95]⟩ (c.toNat : Int) w).mono fun e w1 he => ?_
    obtain ⟨rfl, rfl⟩ := he
    refine ⟨_, rfl, retb ?_⟩
    rw [u8_back, idx_some]
    have : (⟨#[42, 45, 46, 95]⟩ : ByteArray).data.toList = [42, 45, 46, 95] := rfl
    rw [this, mem]
    simp only [itself, decide_eq_false h1, decide_eq_false h2, decide_eq_false h3, Bool.false_or]
  have yes : (65 ≤ c.toNat ∧ c.toNat ≤ 90) ∨ (97 ≤ c.toNat ∧ c.toNat ≤ 122) ∨ (48 ≤ c.toNat ∧ c.toNat ≤ 57) → RetP w (.bool (itself c.toNat)) (.returned (.bool true)) w := fun h => retb (by
    simp only [itself]
    rcases h with h | h | h
    · rw [decide_eq_true h]; simp
    · rw [decide_eq_true h]; simp
    · rw [decide_eq_true h]; simp)
  refine f93_wp (c.toNat : Int) w _ ?_
  repeat' refine cwd (fun h => ?_) (fun h => ?_)
  all_goals first
    | exact yes (by omega)
    | exact ask (by omega) (by omega) (by omega)

theorem quote_append (a b : List UInt8) : quote (a ++ b) = quote a ++ quote b := by simp [quote]
theorem quoteB_len (c : UInt8) : (quoteB c).length ≤ 3 := by unfold quoteB; repeat' split
                                                             all_goals simp
theorem quote_len (l : List UInt8) : (quote l).length ≤ 3 * l.length := by
  induction l with
  | nil => simp [quote]
  | cons c r ih => have := quoteB_len c; simp only [quote, List.flatMap_cons, List.length_append, List.length_cons] at ih ⊢; omega
theorem hexS_at (n : Nat) (h : n < 16) : bs ((⟨#[48, 49, 50, 51, 52, 53, 54, 55, 56, 57, 65, 66, 67, 68, 69, 70]⟩ : ByteArray).extract n (n + 1)) = [hexS n] := by
  rw [bs_extract]
  have : ∀ n : Fin 16, ((bs (⟨#[48, 49, 50, 51, 52, 53, 54, 55, 56, 57, 65, 66, 67, 68, 69, 70]⟩ : ByteArray)).drop n.1).take (n.1 + 1 - n.1) = [hexS n.1] := by decide
  exact this ⟨n, h⟩
theorem bitv_and_u8 (a b : Nat) (ha : a < 256) (hb : b < 256) : bitv .and .u8 (a : Int) (b : Int) = ((a &&& b : Nat) : Int) := by
  show IntKind.u8.wrap ((BitVec.ofInt 8 (a : Int) &&& BitVec.ofInt 8 (b : Int)).toNat : Int) = _
  rw [ofInt_nat, ofInt_nat, BitVec.toNat_and, BitVec.toNat_ofNat, BitVec.toNat_ofNat, Nat.mod_eq_of_lt (by omega), Nat.mod_eq_of_lt (by omega)]
  have : a &&& b ≤ a := Nat.and_le_left
  exact wrap_u8 (by omega) (by omega)
theorem quote_ok (s : ByteArray) (hs : s.size ≤ 10000000000) (w : World) : Calls prg 47 #[.string s] w (Ret w (.string (mk (quote (bs s))))) := by
  have hlen := bs_len s
  refine f47_wp s w _ fun b w1 hb hw1 => ?_
  have hE : Ext w w1 := by rw [hw1]; exact (Ext.refl w).alloc _
  refine ⟨fun i w2 => 0 ≤ i ∧ i ≤ s.size ∧ Ext w w2 ∧ Bld w2 w.heap.size b (quote ((bs s).take i.toNat)), fun i _ => (s.size - i).toNat, ⟨by omega, by omega, hE, ?_⟩, ?_⟩
  · rw [hw1, hb]; exact Bld.fresh w _ (Nat.le_refl _)
  rintro i fr w2 ⟨h0, h1, he, hB⟩
  have hql := quote_len ((bs s).take i.toNat)
  have htl : ((bs s).take i.toNat).length ≤ s.size := by rw [List.length_take]; omega
  refine cwd (fun hi => ?_) fun hi => ?_
  · obtain ⟨c, hc⟩ := Eng.byte_at h0 hi
    have hc' : (bs s)[i.toNat]? = some c := hc
    have hts : quote ((bs s).take (i.toNat + 1)) = quote ((bs s).take i.toNat) ++ quoteB c := by
      rw [List.take_add_one, hc', quote_append]; simp [quote]
    have hcl := c.toNat_lt
    have step : ∀ w3, Bld w3 w.heap.size b (quote ((bs s).take i.toNat) ++ quoteB c) → Ext w w3 → (0 ≤ IntKind.i64.wrap (i + 1) ∧ IntKind.i64.wrap (i + 1) ≤ s.size ∧ Ext w w3 ∧ Bld w3 w.heap.size b (quote ((bs s).take (IntKind.i64.wrap (i + 1)).toNat))) ∧ (s.size - IntKind.i64.wrap (i + 1)).toNat < (s.size - i).toNat := fun w3 h3 h4 => by
      rw [wrap_i64 (by omega) (by omega), show (i + 1).toNat = i.toNat + 1 by omega, hts]
      exact ⟨⟨by omega, by omega, h4, h3⟩, by omega⟩
    refine ⟨h0, c, hc, (plain_ok c w2).mono fun e w3 hr => ?_⟩
    obtain ⟨rfl, rfl⟩ := hr
    refine ⟨_, rfl, cwb (fun hp => ?_) fun hp => cwd (fun h32 => ?_) fun h32 => ?_⟩
    · refine (writeByte_ok w.heap.size b _ c w3 hB (by omega) he.size).mono fun e w4 hr => ?_
      obtain ⟨rfl, hB4, he4⟩ := hr
      have hq : quoteB c = [c] := by simp [quoteB, hp]
      exact ⟨_, rfl, step w4 (by rw [hq]; exact hB4) (Below.trans he he4)⟩
    · refine (writeByte_ok w.heap.size b _ 43 w3 hB (by omega) he.size).mono fun e w4 hr => ?_
      obtain ⟨rfl, hB4, he4⟩ := hr
      have h32' : c = 32 := UInt8.toNat_inj.1 (by rw [show (32 : UInt8).toNat = 32 from rfl]; omega)
      have hq : quoteB c = [43] := by rw [quoteB, if_neg (by rw [hp]; simp), if_pos h32']
      exact ⟨_, rfl, step w4 (by rw [hq]; exact hB4) (Below.trans he he4)⟩
    · have h32' : ¬ c = 32 := fun e => h32 (by rw [e]; rfl)
      have hq : quoteB c = [37, hexS (c.toNat / 16), hexS (c.toNat % 16)] := by rw [quoteB, if_neg (by rw [hp]; simp), if_neg h32']
      have e1 : Int.fdiv (c.toNat : Int) (2 ^ 4) = ((c.toNat / 16 : Nat) : Int) := fdiv_two c.toNat 4
      have e2 : bitv .and .u8 (c.toNat : Int) 15 = ((c.toNat % 16 : Nat) : Int) := by
        rw [show (15 : Int) = ((15 : Nat) : Int) from rfl, bitv_and_u8 c.toNat 15 (by omega) (by omega), show (15 : Nat) = 2 ^ 4 - 1 from rfl, and_mask]
      have e3 : (IntKind.u8.wrap (((c.toNat / 16 : Nat) : Int) + 1)) = ((c.toNat / 16 + 1 : Nat) : Int) := by rw [wrap_u8 (by omega) (by omega)]; rfl
      have e4 : (IntKind.u8.wrap (((c.toNat % 16 : Nat) : Int) + 1)) = ((c.toNat % 16 + 1 : Nat) : Int) := by rw [wrap_u8 (by omega) (by omega)]; rfl
      rw [e1, e2, e3, e4]
      simp only [Int.toNat_natCast]
      have s1 : ∀ n, n < 16 → ((⟨#[48, 49, 50, 51, 52, 53, 54, 55, 56, 57, 65, 66, 67, 68, 69, 70]⟩ : ByteArray).extract n (n + 1)) = mk [hexS n] := fun n hn => bs_inj (hexS_at n hn)
      rw [s1 _ (show c.toNat / 16 < 16 by omega), s1 _ (show c.toNat % 16 < 16 by omega)]
      have s2 : ((⟨#[37]⟩ : ByteArray) ++ mk [hexS (c.toNat / 16)]) ++ mk [hexS (c.toNat % 16)] = mk [37, hexS (c.toNat / 16), hexS (c.toNat % 16)] := by
        rw [show (⟨#[37]⟩ : ByteArray) = mk [37] from rfl, mk_append, mk_append]; rfl
      have s3 : ((⟨#[37]⟩ : ByteArray) ++ mk [hexS (c.toNat / 16)]) = mk [37, hexS (c.toNat / 16)] := by
        rw [show (⟨#[37]⟩ : ByteArray) = mk [37] from rfl, mk_append]; rfl
      rw [s2, s3]
      refine ⟨fun _ => True, trivial, by omega, by omega, by omega, by omega, by omega, ?_, ?_, by omega, by omega, by omega, ?_, ?_, ?_⟩
      · show c.toNat / 16 + 1 ≤ 16; omega
      · rw [mk_size]; show 1 + 1 ≤ 9223372036854775807; omega
      · show c.toNat % 16 + 1 ≤ 16; omega
      · rw [mk_size, mk_size]; show 2 + 1 ≤ 9223372036854775807; omega
      · have hB3 : Bld w3.drew w.heap.size b (quote ((bs s).take i.toNat)) := hB
        refine (writeString_ok w.heap.size b _ (mk [37, hexS (c.toNat / 16), hexS (c.toNat % 16)]) w3.drew hB3 (by rw [mk_size]; simp; omega) he.size).mono fun e w4 hr => ?_
        obtain ⟨rfl, hB4, he4⟩ := hr
        exact ⟨_, _, rfl, step w4 (by rw [hq]; exact hB4) (Below.trans he.drew he4)⟩
  · have hall : (bs s).take i.toNat = bs s := List.take_of_length_le (by omega)
    rw [hall] at hB
    refine (Tryz.Builder_String_any w.heap.size b (quote (bs s)) w2 hB he.size).mono fun e w3 hr => ?_
    obtain ⟨rfl, he3⟩ := hr
    exact ⟨_, rfl, rfl, Below.trans he he3⟩

end Go.Proofs.YtbbcofdibkgalaaGreatDoor
