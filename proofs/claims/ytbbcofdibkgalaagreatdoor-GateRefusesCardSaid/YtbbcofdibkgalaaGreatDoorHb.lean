/- Helpers: what appends one value; blocks beside what grows. -/
import Derived.Test.YtbbcofdibkgalaaGreatDoorWb
import Derived.Test.YtbbcofdibkgalaaGreatDoorM
import Derived.Test.YtbbcofdibkgalaaGreatDoorQu
set_option linter.unusedVariables false
set_option linter.unusedSimpArgs false
namespace Go.Eng
open Go.RowKit (Below)
variable {P : Program}

theorem grown_alloc (w : World) (o : Obj) (row : Option Nat) : w.grownBy (w.alloc o) row :=
  ⟨rfl, rfl, rfl, by simp, fun k hk _ => Ext.block ((Ext.refl w).alloc o) hk⟩
theorem grown_trans {a b c : World} {row : Option Nat} (h : a.grownBy b row) (k : b.grownBy c row) : a.grownBy c row :=
  ⟨k.os.trans h.os, k.tape.trans h.tape, k.output.trans h.output, Nat.le_trans h.size k.size, fun j hj hne => (k.block j (Nat.lt_of_lt_of_le hj h.size) hne).trans (h.block j hj hne)⟩
theorem Blk.grown {w w' : World} {b : Nat} {cs : List Value} {row : Option Nat} (h : Blk w b cs) (hg : w.grownBy w' row) (hne : row ≠ some b) : Blk w' b cs := by
  have hl := h.lt
  obtain ⟨t, h⟩ := h
  exact ⟨t, (hg.block b hl (fun e => hne e.symm)).trans h⟩
/-- an own slice's block is none of the old ones -/
theorem Own.ne {w : World} {base e size : Nat} {p : Option Addr} {n c : Nat} {xs : List Value} (h : Own w base e size p n c xs) {b : Nat} (hb : b < base) : (Value.slice p n c).ownBlock ≠ some b := by
  intro e; have := (h.lt b e).1; omega
theorem Own.app1 {t e : Nat} (hT : ElT P t e 1) {w : World} {p : Option Addr} {n c : Nat} {xs : List Value} {base : Nat} (h : Own w base e 1 p n c xs) (hb : base ≤ w.heap.size) {v : Value} (hv : v.oneCell' = true) (hn : n < 999999999999) (u : Nat) :
    ∀ (b : Nat) (w3 : World), b = w.heap.size → w3 = w.alloc (.cells #[v] u) →
      ∃ (p' : Option Addr) (n' c' : Nat) (w4 : World), (Builtin.append_ #[t, t] t #[.slice p n c, .slice (some ⟨b, 0, none⟩) 1 1]).run P w3 = .ok (.slice p' n' c') w4 ∧
        n' = n + 1 ∧ Own w4 base e 1 p' n' c' (xs ++ [v]) ∧ w.grownBy w4 ((Value.slice p n c).ownBlock) := by
  rintro b w3 rfl rfl
  have ho : Own (w.alloc (.cells #[v] u)) base e 1 p n c xs := h.ext ((Ext.refl w).alloc _)
  have hs : SlC (w.alloc (.cells #[v] u)) (some ⟨w.heap.size, 0, none⟩) 1 [v] := by
    refine ⟨rfl, fun j x hj => nilW_mk ?_⟩
    have hB : Blk (w.alloc (.cells #[v] u)) w.heap.size [v] := Blk.new w [v] u
    rw [Nat.zero_add]; exact hB.cell hj
  obtain ⟨p', c', w', hr, ho', hg, _⟩ := own_append_slc hT t ho (by simp; omega) (k := 1) hs (by simp) (by simpa using hv) (by omega)
  exact ⟨p', n + 1, c', w', hr, rfl, ho', grown_trans (grown_alloc w _ _) hg⟩
theorem Ext.grown' {a w w' : World} (h : Ext a w) {p : Option Addr} {e size n c base : Nat} {xs : List Value} (ho : Own w base e size p n c xs) (hb : a.heap.size ≤ base) (hg : w.grownBy w' ((Value.slice p n c).ownBlock)) : Ext a w' :=
  Below.grown h hg h.size fun k hk => by have := (ho.lt k hk).1; omega
theorem grown_size {w w' : World} {row : Option Nat} (h : w.grownBy w' row) : w.heap.size ≤ w'.heap.size := h.size

/-- bytes as values -/
def bvs (l : List UInt8) : List Value := l.map bv
theorem bvs_append (a b : List UInt8) : bvs (a ++ b) = bvs a ++ bvs b := by simp [bvs]
theorem bvs_len (l : List UInt8) : (bvs l).length = l.length := by simp [bvs]
theorem bv_one (c : UInt8) : (bv c).oneCell' = true := rfl
theorem bytesAt_slc {w : World} {p : Option Addr} {n : Nat} {l : List UInt8} (h : SlC w p n (bvs l)) : BytesAt w p n (mk l) := by
  have hl : l.length = n := by rw [← h.1, bvs_len]
  refine ⟨by rw [mk_size, hl], fun j hj => ?_⟩
  have hjl : j < l.length := by omega
  have := h.2 j (bv l[j]) (by simp [bvs, hjl])
  obtain ⟨b, o, rfl, hc⟩ := nilW_def this
  refine nilW_mk ?_
  rw [hc]
  have e : (mk l).data.toList = l := rfl
  rw [e]
  simp [bv, List.getD, hjl]
theorem slc_bytesAt {w : World} {p : Option Addr} {n : Nat} {s : ByteArray} (h : BytesAt w p n s) : SlC w p n (bvs (bs s)) := by
  refine ⟨by rw [bvs_len, bs_len]; exact h.1, fun j v hj => ?_⟩
  have hj' : j < (bs s).length := by
    rcases Nat.lt_or_ge j (bs s).length with h1 | h1
    · exact h1
    · rw [List.getElem?_eq_none (by rw [bvs_len]; exact h1)] at hj; cases hj
  obtain ⟨b, o, rfl, hc⟩ := nilW_def (h.2 j (by rw [← h.1, ← bs_len]; exact hj'))
  refine nilW_mk ?_
  rw [hc]
  simp only [bvs, List.getElem?_map, List.getElem?_eq_getElem hj', Option.map_some, Option.some.injEq] at hj
  rw [← hj]
  have : s.data.toList.getD j 0 = (bs s)[j] := by
    show (bs s).getD j 0 = (bs s)[j]
    rw [List.getD_eq_getElem?_getD, List.getElem?_eq_getElem hj']; rfl
  rw [this]; rfl
theorem bytesAt_eq {w : World} {p : Option Addr} {n : Nat} {s : ByteArray} {l : List UInt8} (h : BytesAt w p n s) (hs : SlC w p n (bvs l)) : s = mk l := by
  have h2 := slc_bytesAt h
  have : bvs (bs s) = bvs l := by
    apply List.ext_getElem?
    intro j
    have hl1 : (bvs (bs s)).length = n := h2.1
    have hl2 : (bvs l).length = n := hs.1
    rcases Nat.lt_or_ge j n with hj | hj
    · obtain ⟨b, o, hp, hc⟩ := nilW_def (h2.2 j _ (List.getElem?_eq_getElem (by omega)))
      obtain ⟨b', o', hp', hc'⟩ := nilW_def (hs.2 j _ (List.getElem?_eq_getElem (by omega)))
      rw [hp] at hp'; cases hp'
      rw [hc] at hc'
      rw [List.getElem?_eq_getElem (by omega), List.getElem?_eq_getElem (by omega)]
      exact hc'
    · rw [List.getElem?_eq_none (by omega), List.getElem?_eq_none (by omega)]
  have key : ∀ a b : List UInt8, bvs a = bvs b → a = b := by
    intro a
    induction a with
    | nil => intro b hb; cases b with
      | nil => rfl
      | cons y b => simp [bvs] at hb
    | cons x a ih =>
      intro b hb
      cases b with
      | nil => simp [bvs] at hb
      | cons y b =>
        simp only [bvs, List.map_cons, List.cons.injEq, bv, Value.int.injEq, true_and] at hb
        have e : x = y := UInt8.toNat_inj.1 (by omega)
        rw [ih b hb.2, e]
  exact bs_inj (key _ _ this)

/-- a number of 2^n, min'ed -/
theorem fdiv_two (a k : Nat) : Int.fdiv (a : Int) (2 ^ k) = ((a / 2 ^ k : Nat) : Int) := by
  have : ((2 : Int) ^ k) = ((2 ^ k : Nat) : Int) := by simp
  rw [this, Int.fdiv_eq_ediv_of_nonneg _ (Int.natCast_nonneg _)]
  exact (Int.natCast_ediv _ _).symm
theorem mul_two (a k : Nat) : (a : Int) * 2 ^ k = ((a * 2 ^ k : Nat) : Int) := by simp
theorem ofInt_nat (n : Nat) (a : Nat) : BitVec.ofInt n (a : Int) = BitVec.ofNat n a := by simp
theorem bitv_or_nat {a b : Nat} (ha : a < 9223372036854775808) (hb : b < 9223372036854775808) : bitv .or .i64 (a : Int) (b : Int) = ((a ||| b : Nat) : Int) := by
  show IntKind.i64.wrap ((BitVec.ofInt 64 (a : Int) ||| BitVec.ofInt 64 (b : Int)).toNat : Int) = _
  rw [ofInt_nat, ofInt_nat, BitVec.toNat_or, BitVec.toNat_ofNat, BitVec.toNat_ofNat, Nat.mod_eq_of_lt (by omega), Nat.mod_eq_of_lt (by omega)]
  have : a ||| b < 2 ^ 63 := Nat.or_lt_two_pow (by omega) (by omega)
  exact wrap_i64 (by omega) (by omega)
theorem bitv_and_nat {a b : Nat} (ha : a < 9223372036854775808) (hb : b < 9223372036854775808) : bitv .and .i64 (a : Int) (b : Int) = ((a &&& b : Nat) : Int) := by
  show IntKind.i64.wrap ((BitVec.ofInt 64 (a : Int) &&& BitVec.ofInt 64 (b : Int)).toNat : Int) = _
  rw [ofInt_nat, ofInt_nat, BitVec.toNat_and, BitVec.toNat_ofNat, BitVec.toNat_ofNat, Nat.mod_eq_of_lt (by omega), Nat.mod_eq_of_lt (by omega)]
  have : a &&& b ≤ a := Nat.and_le_left
  exact wrap_i64 (by omega) (by omega)
theorem or_low {a k b : Nat} (hb : b < 2 ^ k) : a * 2 ^ k ||| b = a * 2 ^ k + b := by
  rw [Nat.mul_comm, Nat.two_pow_add_eq_or_of_lt hb]
theorem and_mask (a k : Nat) : a &&& (2 ^ k - 1) = a % 2 ^ k := Nat.and_two_pow_sub_one_eq_mod a k

end Go.Eng
namespace Go.Proofs.YtbbcofdibkgalaaGreatDoor
open Go.Eng
theorem elB : ElT prg 23 5 1 := ⟨by kernel_rfl, Tryz.t5, .int .u8 0, 1, by kernel_rfl, by kernel_rfl, by kernel_rfl, by kernel_rfl, by kernel_rfl, by omega, by omega⟩
end Go.Proofs.YtbbcofdibkgalaaGreatDoor
