/- Contracts: octet's Unbasic, Web, Unweb. -/
import Derived.Test.YtbbcofdibkgalaaGreatDoorOb
set_option linter.unusedVariables false
set_option linter.unusedSimpArgs false
namespace Go.Proofs.YtbbcofdibkgalaaGreatDoor
open Go.Eng

theorem fill4_iff {sg e s : List UInt8} {n : Nat} (h61 : (61 : UInt8) ∉ sg) (he : ∀ c ∈ e, c ∈ sg) (he4 : e.length % 4 ≠ 1) (hs4 : s.length % 4 = 0) (hn : n ≤ s.length) (h2 : s.length ≤ n + 2)
    (htail : s.drop n = List.replicate (s.length - n) 61) (hex : n = 0 ∨ n + 2 = s.length ∨ s[n - 1]? ≠ some 61) : fill4 e = s ↔ e = s.take n := by
  have hsn : s.take n ++ List.replicate (s.length - n) 61 = s := by rw [← htail, List.take_append_drop]
  constructor
  · intro h
    have hl := congrArg List.length h
    simp only [fill4, List.length_append, List.length_replicate] at hl
    have hlen : e.length = n := by
      rcases Nat.lt_trichotomy e.length n with h1 | h1 | h1
      · exfalso
        rcases hex with h3 | h3 | h3
        · omega
        · omega
        · apply h3
          rw [← h, fill4, List.getElem?_append_right (by omega), List.getElem?_replicate, if_pos (by omega)]
      · exact h1
      · exfalso
        have hm : e[n]? = some 61 := by
          have : s[n]? = some 61 := by
            have h5 : (s.drop n)[0]? = some 61 := by rw [htail, List.getElem?_replicate, if_pos (by omega)]
            simpa using h5
          rw [← h, fill4, List.getElem?_append_left h1] at this
          exact this
        exact h61 (he _ (List.mem_of_getElem? hm))
    rw [← h, fill4, List.take_append_of_le_length (by omega), List.take_of_length_le (by omega)]
  · intro h
    have hl : e.length = n := by rw [h, List.length_take]; omega
    rw [fill4, hl, h]
    have : (4 - n % 4) % 4 = s.length - n := by omega
    rw [this, hsn]

/-- the answer of what reads a text back, by the way that it is written -/
def DecI (en : List UInt8 → List UInt8) (s : List UInt8) (base : Nat) (w' : World) (q : Option Addr) (m d : Nat) (k : Int) : Prop :=
  (k = 0 ∧ ∃ o, Own w' base 5 1 q m d (bvs o) ∧ en o = s) ∨ (k = 3 ∧ q = none ∧ m = 0 ∧ d = 0 ∧ ∀ o, en o ≠ s)
theorem basic_inj {a b : List UInt8} (h : basic a = basic b) : a = b :=
  enc_inj sgB_ok (fill4_inj (sg := sgB) (by decide) (enc_mem sgB_ok a) (enc_mem sgB_ok b) h)
theorem unbasic_ok (s : ByteArray) (hs : s.size ≤ 100000000000) (w : World) :
    Calls prg 85 #[.string s] w fun e w' => ∃ q m d k, e = .returned (.tuple #[.slice q m d, .int .i64 k]) ∧ DecI basic (bs s) w.heap.size w' q m d k ∧ Ext w w' := by
  have hlen := bs_len s
  refine f85_wp s w _ ⟨by omega, cwd (fun ht => ?_) fun ht => ?_⟩
  · refine ⟨none, 0, 0, 3, rfl, .inr ⟨rfl, rfl, rfl, rfl, fun o e => ?_⟩, Ext.refl w⟩
    have h4 : (basic o).length % 4 = 0 := by simp only [basic, fill4, List.length_append, List.length_replicate]; omega
    rw [e, hlen] at h4
    rw [Int.tmod_eq_emod_of_nonneg (by omega)] at ht
    omega
  have h4 : (bs s).length % 4 = 0 := by
    have := Classical.byContradiction ht
    rw [Int.tmod_eq_emod_of_nonneg (by omega)] at this
    omega
  refine ⟨fun n w1 => w1 = w ∧ 0 ≤ n ∧ n ≤ s.size ∧ (s.size : Int) ≤ n + 2 ∧ (bs s).drop n.toNat = List.replicate ((bs s).length - n.toNat) 61, fun n _ => n.toNat,
    ⟨rfl, by omega, by omega, by omega, by rw [List.drop_eq_nil_of_le (by omega), show (bs s).length - (s.size : Int).toNat = 0 by omega]; rfl⟩, ?_⟩
  rintro n fr w1 ⟨rfl, h0, h1, h2, htail⟩
  have fin : (n.toNat = 0 ∨ n.toNat + 2 = (bs s).length ∨ (bs s)[n.toNat - 1]? ≠ some 61) → Calls prg 119 #[.string ⟨#[65, 66, 67, 68, 69, 70, 71, 72, 73, 74, 75, 76, 77, 78, 79, 80, 81, 82, 83, 84, 85, 86, 87, 88, 89, 90, 97, 98, 99, 100, 101, 102, 103, 104, 105, 106, 107, 108, 109, 110, 111, 112, 113, 114, 115, 116, 117, 118, 119, 120, 121, 122, 48, 49, 50, 51, 52, 53, 54, 55, 56, 57, 43, 47]⟩, .string (s.extract 0 n.toNat)] w1 fun e w2 => ∃ (r : Option Addr) (nr cr : Nat), ∃ (r1 : Int), e = .returned (.tuple #[.slice r nr cr, .int .i64 r1]) ∧
      ∃ q m d k, Ending.returned (.tuple #[.slice r nr cr, .int .i64 r1]) = .returned (.tuple #[.slice q m d, .int .i64 k]) ∧ DecI basic (bs s) w1.heap.size w2 q m d k ∧ Ext w1 w2 := fun hex => by
    have hex2 : bs (s.extract 0 n.toNat) = (bs s).take n.toNat := by rw [bs_extract]; simp
    refine (unsixes_ok (mk sgB) sgB_ok (s.extract 0 n.toNat) (by rw [← bs_len, hex2, List.length_take]; omega) w1).mono fun e w2 he => ?_
    obtain ⟨q, m, d, k, rfl, hd, he⟩ := he
    refine ⟨q, m, d, k, rfl, q, m, d, k, rfl, ?_, he⟩
    have hd : DecR sgB ((bs s).take n.toNat) w1.heap.size w2 q m d k := by rw [← hex2]; exact hd
    have iff : ∀ o, basic o = bs s ↔ enc sgB o = (bs s).take n.toNat := fun o =>
      fill4_iff (sg := sgB) (by decide) (enc_mem sgB_ok o) (enc_len sgB o) h4 (by omega) (by omega) htail hex
    rcases hd with ⟨rfl, o, ho, heo⟩ | ⟨rfl, rfl, rfl, rfl, hno⟩
    · exact .inl ⟨rfl, o, ho, (iff o).2 heo⟩
    · exact .inr ⟨rfl, rfl, rfl, rfl, fun o e => hno o ((iff o).1 e)⟩
  refine cwd (fun hp => ?_) fun hp => ⟨h0, by omega, by omega, fin (.inl (by omega))⟩
  refine cwd (fun hq => ?_) fun hq => ⟨h0, by omega, by omega, fin (.inr (.inl ?_))⟩
  · rw [wrap_i64 (n := n - 1) (by omega) (by omega)]
    obtain ⟨c, hc⟩ := byte_at (s := s) (i := n - 1) (by omega) (by omega)
    have hc' : (bs s)[(n - 1).toNat]? = some c := hc
    refine ⟨by omega, c, hc, cwd (fun hr => ?_) fun hr => ⟨h0, by omega, by omega, fin (.inr (.inr ?_))⟩⟩
    · rw [wrap_i64 (n := (s.size : Int) - 2) (by omega) (by omega)] at hq
      refine ⟨⟨rfl, by omega, by omega, by omega, ?_⟩, by dsimp only; omega⟩
      rw [drop_at hc', show (n - 1).toNat + 1 = n.toNat by omega, htail, show c = 61 from UInt8.toNat_inj.1 (by rw [show (61 : UInt8).toNat = 61 from rfl]; omega)]
      rw [show (bs s).length - (n - 1).toNat = (bs s).length - n.toNat + 1 by omega, List.replicate_succ]
    · rw [show n.toNat - 1 = (n - 1).toNat by omega, hc']
      intro e
      apply hr
      cases e; rfl
  · rw [wrap_i64 (n := (s.size : Int) - 2) (by omega) (by omega)] at hq
    omega

theorem web_ok (p : Option Addr) (n c : Nat) (hn : n ≤ 100000000000) (l : List UInt8) (w : World) (h : SlC w p n (bvs l)) :
    Calls prg 125 #[.slice p n c] w (Ret w (.string (mk (enc sgW l)))) := by
  refine f125_wp p n c w _ ((sixes_ok _ rfl p n c hn l w h).mono fun e w1 he => ?_)
  obtain ⟨q, m, d, rfl, ho, he⟩ := he
  have ho : Own w1 w.heap.size 5 1 q m d (bvs (enc sgW l)) := ho
  exact ⟨q, m, d, rfl, _, bytesAt_slc ho.slc, rfl, he⟩
theorem unweb_ok (s : ByteArray) (hs : s.size ≤ 100000000000) (w : World) :
    Calls prg 138 #[.string s] w fun e w' => ∃ q m d k, e = .returned (.tuple #[.slice q m d, .int .i64 k]) ∧ DecI (enc sgW) (bs s) w.heap.size w' q m d k ∧ Ext w w' := by
  refine f138_wp s w _ ((unsixes_ok (mk sgW) sgW_ok s hs w).mono fun e w1 he => ?_)
  obtain ⟨q, m, d, k, rfl, hd, he⟩ := he
  exact ⟨q, m, d, k, rfl, q, m, d, k, rfl, hd, he⟩

end Go.Proofs.YtbbcofdibkgalaaGreatDoor
