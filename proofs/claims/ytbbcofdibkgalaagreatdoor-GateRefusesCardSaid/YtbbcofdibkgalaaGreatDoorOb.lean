/- Contracts: octet's Basic, and signs read back. -/
import Derived.Test.YtbbcofdibkgalaaGreatDoorOa
set_option linter.unusedVariables false
set_option linter.unusedSimpArgs false
namespace Go.Proofs.YtbbcofdibkgalaaGreatDoor
open Go.Eng

theorem fill4_more {o : List UInt8} (h : o.length % 4 ≠ 0) : fill4 (o ++ [61]) = fill4 o := by
  simp only [fill4, List.length_append, List.length_cons, List.length_nil, List.append_assoc]
  congr 1
  have : (4 - o.length % 4) % 4 = (4 - (o.length + (0 + 1)) % 4) % 4 + 1 := by omega
  rw [this, List.replicate_succ]; rfl
theorem fill4_done {o : List UInt8} (h : o.length % 4 = 0) : fill4 o = o := by
  simp only [fill4, h]; simp
theorem enc_len_le (sg b : List UInt8) : (enc sg b).length ≤ 2 * b.length + 1 := by
  have := (six_len (bitsB b)).1
  rw [bitsB_len] at this
  simp only [enc, List.length_map]
  omega
def sgB : List UInt8 := [65, 66, 67, 68, 69, 70, 71, 72, 73, 74, 75, 76, 77, 78, 79, 80, 81, 82, 83, 84, 85, 86, 87, 88, 89, 90, 97, 98, 99, 100, 101, 102, 103, 104, 105, 106, 107, 108, 109, 110, 111, 112, 113, 114, 115, 116, 117, 118, 119, 120, 121, 122, 48, 49, 50, 51, 52, 53, 54, 55, 56, 57, 43, 47]
def sgW : List UInt8 := [65, 66, 67, 68, 69, 70, 71, 72, 73, 74, 75, 76, 77, 78, 79, 80, 81, 82, 83, 84, 85, 86, 87, 88, 89, 90, 97, 98, 99, 100, 101, 102, 103, 104, 105, 106, 107, 108, 109, 110, 111, 112, 113, 114, 115, 116, 117, 118, 119, 120, 121, 122, 48, 49, 50, 51, 52, 53, 54, 55, 56, 57, 45, 95]
theorem sgB_ok : Signs sgB := ⟨rfl, by decide⟩
theorem sgW_ok : Signs sgW := ⟨rfl, by decide⟩
def basic (l : List UInt8) : List UInt8 := fill4 (enc sgB l)
theorem basic_ok (p : Option Addr) (n c : Nat) (hn : n ≤ 100000000000) (l : List UInt8) (w : World) (h : SlC w p n (bvs l)) :
    Calls prg 46 #[.slice p n c] w (Ret w (.string (mk (basic l)))) := by
  have hl : l.length = n := by rw [← h.1, bvs_len]
  refine f46_wp p n c w _ ((sixes_ok _ rfl p n c hn l w h).mono fun e w1 he => ?_)
  obtain ⟨q, m, d, rfl, ho, he⟩ := he
  have ho : Own w1 w.heap.size 5 1 q m d (bvs (enc sgB l)) := ho
  refine ⟨q, m, d, rfl, fun s ns cs w2 => Ext w w2 ∧ ∃ o, Own w2 w.heap.size 5 1 s ns cs (bvs o) ∧ fill4 o = basic l ∧ o.length ≤ 2 * n + 5 ∧ (4 - o.length % 4) % 4 + o.length ≤ 2 * n + 5,
    fun _ ns _ _ => (4 - ns % 4) % 4, ⟨he, _, ho, rfl, ?_, ?_⟩, ?_⟩
  · have := enc_len_le sgB l; omega
  · have := enc_len_le sgB l; omega
  rintro s ns cs fr w2 ⟨he2, o, ho2, hf, hlen, hlen2⟩
  have hlo : ns = o.length := by have := ho2.len; rw [bvs_len] at this; omega
  refine ⟨by omega, cwd (fun ht => ?_) fun ht => ?_⟩
  · have hmod : o.length % 4 ≠ 0 := fun e => ht (by rw [hlo, Int.tmod_eq_emod_of_nonneg (by omega)]; omega)
    rintro b_1 w3 hb1 hw3
    obtain ⟨s2, ns2, cs2, w4, hrun, hns, ho4, hg4⟩ := ho2.app1 elB he2.size (v := bv 61) rfl (by omega) 5 b_1 w3 hb1 hw3
    refine ⟨s2, ns2, cs2, w4, hrun, ⟨Ext.grown' he2 ho2 (Nat.le_refl _) hg4, o ++ [61], by rw [bvs_append]; exact ho4, by rw [fill4_more hmod, hf], ?_, ?_⟩, ?_⟩
    · simp; omega
    · simp; omega
    · dsimp only; omega
  · have hmod : o.length % 4 = 0 := by
      have := Classical.byContradiction ht
      rw [hlo, Int.tmod_eq_emod_of_nonneg (by omega)] at this; omega
    rw [← hf, fill4_done hmod]
    exact ⟨_, bytesAt_slc ho2.slc, rfl, he2⟩

theorem placeIn_val (c : UInt8) : ∀ (l : List UInt8) (i : Int), placeIn c l i = if c ∈ l then i + (sgVal l c : Int) else -1
  | [], i => by simp [placeIn]
  | a :: r, i => by
    rw [placeIn]
    by_cases h : a = c
    · subst h; simp [sgVal, List.findIdx_cons]
    · rw [if_neg h, placeIn_val c r (i + 1)]
      have hb : (a == c) = false := by simpa using h
      have hv : sgVal (a :: r) c = sgVal r c + 1 := by simp only [sgVal, List.findIdx_cons, hb, cond_false]
      simp only [List.mem_cons, Ne.symm h, false_or, hv]
      split
      · push_cast; omega
      · rfl

/-- the answer of what reads signs back -/
def DecR (sg : List UInt8) (s : List UInt8) (base : Nat) (w' : World) (q : Option Addr) (m d : Nat) (k : Int) : Prop :=
  (k = 0 ∧ ∃ o, Own w' base 5 1 q m d (bvs o) ∧ enc sg o = s) ∨ (k = 3 ∧ q = none ∧ m = 0 ∧ d = 0 ∧ ∀ o, enc sg o ≠ s)
theorem take_snoc {α : Type} {l : List α} {i : Nat} {c : α} (h : l[i]? = some c) : l.take (i + 1) = l.take i ++ [c] := by
  rw [List.take_add_one, h]; rfl
theorem vals_snoc (sg a : List UInt8) (c : UInt8) : vals sg (a ++ [c]) = vals sg a ++ [sgVal sg c] := by simp [vals]
theorem unsixes_ok (sg : ByteArray) (hsg : Signs (bs sg)) (s : ByteArray) (hs : s.size ≤ 100000000000) (w : World) :
    Calls prg 119 #[.string sg, .string s] w fun e w' => ∃ q m d k, e = .returned (.tuple #[.slice q m d, .int .i64 k]) ∧ DecR (bs sg) (bs s) w.heap.size w' q m d k ∧ Ext w w' := by
  have hlen := bs_len s
  refine f119_wp sg s w _ ⟨by omega, cwd (fun ht => ?_) fun ht => ?_⟩
  · refine ⟨none, 0, 0, 3, rfl, .inr ⟨rfl, rfl, rfl, rfl, fun o e => ?_⟩, Ext.refl w⟩
    have := enc_len (bs sg) o
    rw [e, hlen] at this
    rw [Int.tmod_eq_emod_of_nonneg (by omega)] at ht
    omega
  have h4 : (bs s).length % 4 ≠ 1 := fun e => ht (by rw [Int.tmod_eq_emod_of_nonneg (by omega)]; omega)
  refine ⟨fun b_ nb cb held bits i w1 => 0 ≤ i ∧ i ≤ s.size ∧ Ext w w1 ∧ (∀ c ∈ (bs s).take i.toNat, c ∈ bs sg) ∧ ∃ (o : List UInt8) (pend : List Bool), Own w1 w.heap.size 5 1 b_ nb cb (bvs o) ∧ held = (num pend : Int) ∧ bits = (pend.length : Int) ∧ pend.length < 8 ∧
      bits6 (vals (bs sg) ((bs s).take i.toNat)) = bitsB o ++ pend ∧ o.length * 8 + pend.length = 6 * i.toNat, fun _ _ _ _ _ i _ => (s.size - i).toNat,
    ⟨by omega, by omega, Ext.refl w, by simp, [], [], Own.nil .., rfl, rfl, by simp, rfl, by simp⟩, ?_⟩
  rintro b_ nb cb held bits i fr w1 ⟨h0, h1, he, hmem, o, pend, ho, rfl, rfl, hp, hbits, hcnt⟩
  refine cwd (fun hi => ?_) fun hi => ?_
  · obtain ⟨c, hc⟩ := byte_at h0 hi
    have hc' : (bs s)[i.toNat]? = some c := hc
    have hts := take_snoc hc'
    refine ⟨h0, c, hc, (place_ok sg (by have := bs_len sg; have := hsg.len; omega) c w1).mono fun e w2 hr => ?_⟩
    obtain ⟨rfl, rfl⟩ := hr
    have hpv : placeIn c sg.data.toList 0 = if c ∈ bs sg then (0 : Int) + (sgVal (bs sg) c : Int) else -1 := placeIn_val c (bs sg) 0
    refine ⟨_, rfl, cwd (fun hv => ?_) fun hv => ?_⟩
    · refine ⟨none, 0, 0, 3, rfl, .inr ⟨rfl, rfl, rfl, rfl, fun o e => ?_⟩, he⟩
      have hin : c ∈ bs sg := enc_mem hsg o c (by rw [e]; exact List.mem_of_getElem? hc')
      rw [hpv, if_pos hin] at hv
      omega
    · have hin : c ∈ bs sg := Classical.byContradiction fun hn => hv (by rw [hpv, if_neg hn]; omega)
      rw [if_pos hin, Int.zero_add] at hpv
      rw [hpv]
      have hval : sgVal (bs sg) c < 64 := by have := (val_mem hin).1; rw [hsg.len] at this; exact this
      have hpl := num_lt pend
      have hple : 2 ^ pend.length ≤ 2 ^ 7 := Nat.pow_le_pow_right (by omega) (by omega)
      have hor : bitv .or .i64 (IntKind.i64.wrap ((num pend : Int) * 2 ^ 6)) (sgVal (bs sg) c : Int) = (num (pend ++ bitsN 6 (sgVal (bs sg) c)) : Int) := by
        rw [mul_two, wrap_i64 (by omega) (by omega), bitv_or_nat (by omega) (by omega), or_low (by omega), num_append, num_bitsN, bitsN_len, Nat.mod_eq_of_lt (a := sgVal (bs sg) c) (by omega)]
      have hmem2 : ∀ x ∈ (bs s).take (i + 1).toNat, x ∈ bs sg := by
        rw [show (i + 1).toNat = i.toNat + 1 by omega, hts]
        intro x hx
        rcases List.mem_append.1 hx with hx | hx
        · exact hmem x hx
        · rw [List.mem_singleton] at hx; rw [hx]; exact hin
      have hbits2 : bits6 (vals (bs sg) ((bs s).take (i + 1).toNat)) = bitsB o ++ (pend ++ bitsN 6 (sgVal (bs sg) c)) := by
        rw [show (i + 1).toNat = i.toNat + 1 by omega, hts, vals_snoc, bits6_append, hbits, List.append_assoc]
        simp [bits6]
      obtain ⟨p2, hp2⟩ : ∃ p2, p2 = pend ++ bitsN 6 (sgVal (bs sg) c) := ⟨_, rfl⟩
      have hp2l : p2.length = pend.length + 6 := by rw [hp2, List.length_append, bitsN_len]
      rw [hor, ← hp2, wrap_i64 (n := (pend.length : Int) + 6) (by omega) (by omega), wrap_i64 (n := i + 1) (by omega) (by omega)]
      rw [← hp2] at hbits2
      refine ⟨by omega, cwd (fun hb => ?_) fun hb => ?_⟩
      · have h8 : (p2.take 8).length = 8 := by rw [List.length_take]; omega
        have hr : (p2.drop 8).length = p2.length - 8 := by rw [List.length_drop]
        have hk : ((pend.length : Int) + 6 - 8) = ((p2.drop 8).length : Int) := by rw [hr]; omega
        have hmin : min ((p2.drop 8).length : Int).toNat 64 = (p2.drop 8).length := by rw [hr]; omega
        have hdiv : num p2 / 2 ^ (p2.drop 8).length = num (p2.take 8) := by
          have := num_div (p2.take 8) (p2.drop 8)
          rwa [List.take_append_drop] at this
        have hmod : num p2 % 2 ^ (p2.drop 8).length = num (p2.drop 8) := by
          have := num_mod (p2.take 8) (p2.drop 8)
          rwa [List.take_append_drop] at this
        have hlt := num_lt (p2.take 8)
        rw [h8] at hlt
        have h2lt := num_lt p2
        have h2le : 2 ^ p2.length ≤ 2 ^ 14 := Nat.pow_le_pow_right (by omega) (by omega)
        have hkle : 2 ^ (p2.drop 8).length ≤ 2 ^ 14 := Nat.pow_le_pow_right (by omega) (by omega)
        have hkpos : 0 < 2 ^ (p2.drop 8).length := Nat.two_pow_pos _
        rw [wrap_i64 (n := (pend.length : Int) + 6 - 8) (by omega) (by omega), hk, hmin, fdiv_two, hdiv, wrap_u8 (by omega) (by omega)]
        have hbyte : (Value.int .u8 (num (p2.take 8) : Int)) = bv (UInt8.ofNat (num (p2.take 8))) := by
          rw [bv, UInt8.toNat_ofNat', Nat.mod_eq_of_lt (by omega)]
        rw [show (Value.int .u8 (num (p2.take 8) : Int)) = bv (UInt8.ofNat (num (p2.take 8))) from hbyte]
        refine ⟨by omega, fun b_1 w3 hb1 hw3 => ?_⟩
        have hlo : nb = o.length := by have := ho.len; rw [bvs_len] at this; omega
        obtain ⟨s2, ns2, cs2, w4, hrun, hns, ho4, hg4⟩ := ho.app1 elB he.size (bv_one (UInt8.ofNat (num (p2.take 8)))) (by omega) 5 b_1 w3 hb1 hw3
        have hmask : bitv .and .i64 (num p2 : Int) (IntKind.i64.wrap ((IntKind.i64.wrap ((1 : Int) * 2 ^ (p2.drop 8).length)) - 1)) = (num (p2.drop 8) : Int) := by
          rw [Int.one_mul]
          have e : (2 : Int) ^ (p2.drop 8).length = ((2 ^ (p2.drop 8).length : Nat) : Int) := by simp
          rw [e, wrap_i64 (n := ((2 ^ (p2.drop 8).length : Nat) : Int)) (by omega) (by omega), wrap_i64 (by omega) (by omega)]
          have e2 : ((2 ^ (p2.drop 8).length : Nat) : Int) - 1 = ((2 ^ (p2.drop 8).length - 1 : Nat) : Int) := by omega
          rw [e2, bitv_and_nat (by omega) (by omega), and_mask, hmod]
        rw [hmask]
        refine ⟨s2, ns2, cs2, w4, hrun, by omega, ⟨by omega, by omega, Ext.grown' he ho (Nat.le_refl _) hg4, hmem2, o ++ [UInt8.ofNat (num (p2.take 8))], p2.drop 8, by rw [bvs_append]; exact ho4, rfl, rfl, by omega, ?_, by rw [List.length_append, hr]; simp; omega⟩, by dsimp only; omega⟩
        have : bitsB [UInt8.ofNat (num (p2.take 8))] = p2.take 8 := by
          have hn := bitsN_num (p2.take 8)
          rw [h8] at hn
          rw [bitsB_cons, bitsB_nil, List.append_nil, UInt8.toNat_ofNat', Nat.mod_eq_of_lt (by omega)]
          exact hn
        rw [hbits2, bitsB_append, List.append_assoc, this, List.take_append_drop]
      · exact ⟨⟨by omega, by omega, he, hmem2, o, p2, ho, rfl, by omega, by omega, hbits2, by omega⟩, by dsimp only; omega⟩
  · have hall : (bs s).take i.toNat = bs s := List.take_of_length_le (by omega)
    rw [hall] at hmem hbits
    obtain ⟨_, hiff⟩ := enc_of_left hsg hmem h4 hp hbits
    refine cwd (fun hh => ?_) fun hh => ?_
    · refine ⟨none, 0, 0, 3, rfl, .inr ⟨rfl, rfl, rfl, rfl, fun o' e => hh ?_⟩, he⟩
      have : o' = o := by
        have h1 := (enc_of_left hsg hmem h4 hp hbits).1
        rw [h1, ← e, dec_enc hsg]
      subst this
      rw [hiff.2 e]; rfl
    · have h0 : num pend = 0 := by have := Classical.byContradiction hh; omega
      exact ⟨b_, nb, cb, 0, rfl, .inl ⟨rfl, o, ho, hiff.1 h0⟩, he⟩

end Go.Proofs.YtbbcofdibkgalaaGreatDoor
