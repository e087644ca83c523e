/- Contracts: octet's signs. -/
import Derived.Test.YtbbcofdibkgalaaGreatDoorHb
import Derived.Test.YtbbcofdibkgalaaGreatDoorPa
import Derived.Test.YtbbcofdibkgalaaGreatDoorQa
import Derived.Test.YtbbcofdibkgalaaGreatDoorW5
import Derived.Test.YtbbcofdibkgalaaGreatDoorW7
import Derived.Test.YtbbcofdibkgalaaGreatDoorW8
set_option linter.unusedVariables false
set_option linter.unusedSimpArgs false
namespace Go.Proofs.YtbbcofdibkgalaaGreatDoor
open Go.Eng

theorem sixes_ok (sg : ByteArray) (hsg : (bs sg).length = 64) (p : Option Addr) (n c : Nat) (hn : n ≤ 100000000000) (l : List UInt8) (w : World) (h : SlC w p n (bvs l)) :
    Calls prg 92 #[.string sg, .slice p n c] w fun e w' => ∃ q m d, e = .returned (.slice q m d) ∧ Own w' w.heap.size 5 1 q m d (bvs (enc (bs sg) l)) ∧ Ext w w' := by
  have hl : l.length = n := by rw [← h.1, bvs_len]
  refine f92_wp sg p n c w _ ⟨
    fun s ns cs held bits t w1 => 0 ≤ t ∧ t ≤ n ∧ Ext w w1 ∧ ∃ (o : List UInt8) (pend : List Bool), Own w1 w.heap.size 5 1 s ns cs (bvs o) ∧ held = (num pend : Int) ∧ bits = (pend.length : Int) ∧ pend.length < 6 ∧
      enc (bs sg) l = o ++ (six (pend ++ bitsB (l.drop t.toNat))).map (fun k => (bs sg).getD k 0) ∧ o.length * 6 + pend.length = 8 * t.toNat,
    fun _ _ _ _ _ t _ => (n - t).toNat, ⟨by omega, by omega, Ext.refl w, [], [], Own.nil .., rfl, rfl, by simp, by simp [enc], by simp⟩, ?_⟩
  rintro s ns cs held bits t fr w1 ⟨h0, h1, he, o, pend, ho, rfl, rfl, hp, henc, hcnt⟩
  refine cwd (fun ht => ?_) fun ht => ?_
  · obtain ⟨x, b, of, hx, rfl, hc⟩ := (h.ext he).atF (f := bv) h0 ht
    have hd := drop_at hx
    have hpl := num_lt pend
    have hple : 2 ^ pend.length ≤ 2 ^ 6 := Nat.pow_le_pow_right (by omega) (by omega)
    have hxl := x.toNat_lt
    have hor : bitv .or .i64 (IntKind.i64.wrap ((num pend : Int) * 2 ^ 8)) (IntKind.i64.wrap (x.toNat : Int)) = (num (pend ++ bitsN 8 x.toNat) : Int) := by
      rw [mul_two, wrap_i64 (by omega) (by omega), wrap_i64 (by omega) (by omega), bitv_or_nat (by omega) (by omega), or_low (by omega), num_append, num_bitsN, bitsN_len, Nat.mod_eq_of_lt (a := x.toNat) (by omega)]
    refine ⟨h0, ht, (x.toNat : Int), by rw [Nat.mul_one]; exact hc, by omega, ?_⟩
    rw [hor, wrap_i64 (n := (pend.length : Int) + 8) (by omega) (by omega)]
    refine ⟨fun s1 ns1 cs1 held1 bits1 w2 => Ext w w2 ∧ ∃ (o : List UInt8) (pend : List Bool), Own w2 w.heap.size 5 1 s1 ns1 cs1 (bvs o) ∧ held1 = (num pend : Int) ∧ bits1 = (pend.length : Int) ∧ pend.length < 14 ∧
      enc (bs sg) l = o ++ (six (pend ++ bitsB (l.drop (t.toNat + 1)))).map (fun k => (bs sg).getD k 0) ∧ o.length * 6 + pend.length = 8 * (t.toNat + 1),
      fun _ _ _ _ bits1 _ => bits1.toNat, ⟨he, o, pend ++ bitsN 8 x.toNat, ho, rfl, by rw [List.length_append, bitsN_len]; rfl, by rw [List.length_append, bitsN_len]; omega, ?_, by rw [List.length_append, bitsN_len]; omega⟩, ?_⟩
    · rw [henc, hd, bitsB_cons, List.append_assoc]
    rintro s1 ns1 cs1 held1 bits1 fr1 w2 ⟨he2, o2, p2, ho2, rfl, rfl, hp2, henc2, hcnt2⟩
    refine cwd (fun hb => ?_) fun hb => ?_
    · rw [wrap_i64 (n := t + 1) (by omega) (by omega)]
      exact ⟨⟨by omega, by omega, he2, o2, p2, ho2, rfl, rfl, by omega, by rw [show (t + 1).toNat = t.toNat + 1 by omega]; exact henc2, by omega⟩, by dsimp only; omega⟩
    · have h6 : (p2.take 6).length = 6 := by rw [List.length_take]; omega
      have hr : (p2.drop 6).length = p2.length - 6 := by rw [List.length_drop]
      have hsp : p2 = p2.take 6 ++ p2.drop 6 := (List.take_append_drop 6 p2).symm
      have hk : ((p2.length : Int) - 6) = ((p2.drop 6).length : Int) := by rw [hr]; omega
      have hmin : min ((p2.drop 6).length : Int).toNat 64 = (p2.drop 6).length := by rw [hr]; omega
      have hdiv : num p2 / 2 ^ (p2.drop 6).length = num (p2.take 6) := by
        have := num_div (p2.take 6) (p2.drop 6)
        rwa [List.take_append_drop] at this
      have hmod : num p2 % 2 ^ (p2.drop 6).length = num (p2.drop 6) := by
        have := num_mod (p2.take 6) (p2.drop 6)
        rwa [List.take_append_drop] at this
      have hlt := num_lt (p2.take 6)
      rw [h6] at hlt
      have h2lt := num_lt p2
      have h2le : 2 ^ p2.length ≤ 2 ^ 14 := Nat.pow_le_pow_right (by omega) (by omega)
      have hkle : 2 ^ (p2.drop 6).length ≤ 2 ^ 14 := Nat.pow_le_pow_right (by omega) (by omega)
      have hkpos : 0 < 2 ^ (p2.drop 6).length := Nat.two_pow_pos _
      rw [wrap_i64 (n := (p2.length : Int) - 6) (by omega) (by omega), hk, hmin, fdiv_two, hdiv]
      refine ⟨by omega, by omega, _, look_at hsg (n := num (p2.take 6)) hlt, ?_⟩
      have hlo : ns1 = o2.length := by have := ho2.len; rw [bvs_len] at this; omega
      rintro b_1 w3 hb1 hw3
      obtain ⟨s2, ns2, cs2, w4, hrun, hns, ho4, hg4⟩ := ho2.app1 elB he2.size (v := bv ((bs sg).getD (num (p2.take 6)) 0)) rfl (by omega) 5 b_1 w3 hb1 hw3
      refine ⟨s2, ns2, cs2, w4, hrun, by omega, ?_⟩
      have hmask : bitv .and .i64 (num p2 : Int) (IntKind.i64.wrap ((IntKind.i64.wrap ((1 : Int) * 2 ^ (p2.drop 6).length)) - 1)) = (num (p2.drop 6) : Int) := by
        rw [Int.one_mul]
        have e : (2 : Int) ^ (p2.drop 6).length = ((2 ^ (p2.drop 6).length : Nat) : Int) := by simp
        rw [e, wrap_i64 (n := ((2 ^ (p2.drop 6).length : Nat) : Int)) (by omega) (by omega), wrap_i64 (by omega) (by omega)]
        have e2 : ((2 ^ (p2.drop 6).length : Nat) : Int) - 1 = ((2 ^ (p2.drop 6).length - 1 : Nat) : Int) := by omega
        rw [e2, bitv_and_nat (by omega) (by omega), and_mask, hmod]
      rw [hmask]
      refine ⟨⟨Ext.grown' he2 ho2 (Nat.le_refl _) hg4, o2 ++ [(bs sg).getD (num (p2.take 6)) 0], p2.drop 6, by rw [bvs_append]; exact ho4, rfl, rfl, by omega, ?_, by rw [List.length_append, hr]; simp; omega⟩, by dsimp only; omega⟩
      conv at henc2 => rhs; rw [hsp, List.append_assoc, six_cons h6]
      rw [henc2]; simp
  · have hnil : l.drop t.toNat = [] := List.drop_eq_nil_of_le (by omega)
    rw [hnil, bitsB_nil, List.append_nil] at henc
    refine cwd (fun hb => ?_) fun hb => ?_
    · have hk : ((6 : Int) - (pend.length : Int)) = ((6 - pend.length : Nat) : Int) := by omega
      have hpl := num_lt pend
      have hmul : num pend * 2 ^ (6 - pend.length) < 64 := by
        have : num pend * 2 ^ (6 - pend.length) < 2 ^ pend.length * 2 ^ (6 - pend.length) := Nat.mul_lt_mul_of_pos_right hpl (Nat.two_pow_pos _)
        rw [← Nat.pow_add, show pend.length + (6 - pend.length) = 6 by omega] at this
        exact this
      have hmin : min ((6 - pend.length : Nat) : Int).toNat 64 = 6 - pend.length := by omega
      rw [wrap_i64 (n := (6 : Int) - (pend.length : Int)) (by omega) (by omega), hk, hmin, mul_two, wrap_i64 (by omega) (by omega)]
      refine ⟨by omega, by omega, _, look_at hsg (n := num pend * 2 ^ (6 - pend.length)) hmul, ?_⟩
      have hlo : ns = o.length := by have := ho.len; rw [bvs_len] at this; omega
      rintro b_2 w5 hb2 hw5
      obtain ⟨s2, ns2, cs2, w4, hrun, hns, ho4, hg4⟩ := ho.app1 elB he.size (v := bv ((bs sg).getD (num pend * 2 ^ (6 - pend.length)) 0)) rfl (by omega) 5 b_2 w5 hb2 hw5
      refine ⟨s2, ns2, cs2, w4, hrun, s2, ns2, cs2, rfl, ?_, Ext.grown' he ho (Nat.le_refl _) hg4⟩
      rw [henc, six_short (by omega) hp, List.map_singleton, bvs_append]
      exact ho4
    · have : pend = [] := List.eq_nil_of_length_eq_zero (by omega)
      subst this
      rw [six, List.map_nil, List.append_nil] at henc
      refine ⟨s, ns, cs, rfl, by rw [henc]; exact ho, he⟩

end Go.Proofs.YtbbcofdibkgalaaGreatDoor
