/- Contracts: sets of words. -/
import Derived.Test.YtbbcofdibkgalaaGreatDoorIt
import Derived.Test.YtbbcofdibkgalaaGreatDoorGw
import Derived.Test.YtbbcofdibkgalaaGreatDoorFb
import Derived.Test.YtbbcofdibkgalaaGreatDoorOb
import Derived.Test.YtbbcofdibkgalaaGreatDoorPc
import Derived.Test.YtbbcofdibkgalaaGreatDoorW6
import Derived.Test.YtbbcofdibkgalaaGreatDoorW7
import Derived.Test.YtbbcofdibkgalaaGreatDoorW8
import Derived.Sort.OwnSorted
set_option linter.unusedVariables false
set_option linter.unusedSimpArgs false
namespace Go.Proofs.YtbbcofdibkgalaaGreatDoor
open Go.Eng
open Go.RowKit (Below)
open Go.Sort

instance : LawfulBEq ByteArray where
  eq_of_beq {a b} h := by rw [ba_beq] at h; exact of_decide_eq_true h
  rfl {a} := by rw [ba_beq]; simp

theorem strs_map (l : List ByteArray) : l.map Value.string = (l.map bs).map encStr := by
  rw [List.map_map]; rfl
theorem le_of_not {a b : List UInt8} : a ≤ b ↔ ¬ b < a := Iff.rfl
theorem merge_rising (l : List ByteArray) (hn : l.Nodup) : ∃ l' : List ByteArray, ((l.map bs).mergeSort fun x y => decide (x ≤ y)) = l'.map bs ∧ Rising l' ∧ (∀ x, x ∈ l' ↔ x ∈ l) ∧ l'.length = l.length := by
  have hp : ((l.map bs).mergeSort fun x y => decide (x ≤ y)).Perm (l.map bs) := List.mergeSort_perm ..
  have hs : ((l.map bs).mergeSort fun x y => decide (x ≤ y)).Pairwise fun x y => decide (x ≤ y) = true := List.pairwise_mergeSort (fun a b c h1 h2 => by
      rw [decide_eq_true_iff] at *
      intro h
      rcases llt_total a b with g | g | g
      · rcases llt_total b c with k | k | k
        · exact llt_asymm (llt_trans g k) h
        · subst k; exact llt_asymm g h
        · exact h2 k
      · subst g; exact h2 h
      · exact h1 g) (fun a b => by
      rw [Bool.or_eq_true, decide_eq_true_iff, decide_eq_true_iff]
      rcases llt_total a b with g | g | g
      · exact .inl (llt_asymm g)
      · subst g; exact .inl (llt_irrefl a)
      · exact .inr (llt_asymm g)) _
  obtain ⟨r, hr⟩ : ∃ r, r = (l.map bs).mergeSort fun x y => decide (x ≤ y) := ⟨_, rfl⟩
  rw [← hr] at hp hs ⊢
  have e : r = (r.map mk).map bs := by
    rw [List.map_map]
    have : (bs ∘ mk) = id := rfl
    rw [this, List.map_id]
  have hm : ∀ x, x ∈ r.map mk ↔ x ∈ l := fun x => by
    rw [List.mem_map]
    constructor
    · rintro ⟨y, hy, rfl⟩
      obtain ⟨z, hz, rfl⟩ := List.mem_map.1 (hp.mem_iff.1 hy)
      rw [mk_bs]; exact hz
    · intro hx
      exact ⟨bs x, hp.mem_iff.2 (List.mem_map.2 ⟨x, hx, rfl⟩), mk_bs x⟩
  refine ⟨r.map mk, e, ?_, hm, by rw [List.length_map, hp.length_eq, List.length_map]⟩
  have nd : r.Nodup := hp.nodup_iff.2 (List.Pairwise.map bs (fun a b h e => h (bs_inj e)) hn)
  rw [Rising, List.pairwise_map]
  have := List.Pairwise.and hs nd
  refine this.imp fun {a b} h => ?_
  rw [bs_mk, bs_mk]
  rcases llt_total a b with g | g | g
  · exact g
  · exact absurd g h.2
  · exact absurd g (by simpa using h.1)

theorem sortS_ok (p : Option Addr) (n c : Nat) (hn : n ≤ 1000000000000) (l : List ByteArray) (hd : l.Nodup) (base : Nat) (w : World) (h : Own w base 9 1 p n c (l.map .string)) :
    Calls prg 130 #[.slice p n c] w fun e w' => e = .returned (.tuple #[]) ∧ ∃ l', Own w' base 9 1 p n c (l'.map .string) ∧ Rising l' ∧ (∀ x, x ∈ l' ↔ x ∈ l) ∧ w.grownBy w' ((Value.slice p n c).ownBlock) := by
  have hlen : l.length = n := by have := h.len; simpa using this
  rcases h.2 with ⟨hv, rfl⟩ | ⟨g, cap, cur, hv, hb, hg, h1, h2, h3, h4⟩
  · have : l = [] := List.eq_nil_of_length_eq_zero hlen
    subst this
    refine (Tryz.slices_Sort_string_none p c w).mono fun e w' he => ?_
    obtain ⟨rfl, rfl⟩ := he
    exact ⟨rfl, [], h, List.Pairwise.nil, by simp, ⟨rfl, rfl, rfl, Nat.le_refl _, fun _ _ _ => rfl⟩⟩
  · cases hv
    obtain ⟨l', e1, e2, e3, e4⟩ := merge_rising l hd
    have hH : Holds encStr w g 0 (l.map bs).toArray := holds_of_block hg (by rw [List.length_map, hlen, ← strs_map]; simpa using h4)
    have := Tryz.slices_Sort_string g 0 c (l.map bs) w hH (Array.getElem?_eq_some_iff.1 hg).1 (by rw [List.length_map]; omega)
    rw [List.length_map, hlen] at this
    refine this.mono fun e w' he => ?_
    obtain ⟨rfl, k, os, rfl⟩ := he
    rw [e1]
    refine ⟨rfl, l', ?_, e2, e3, grownBy_sorted _⟩
    have := ownsRow_sorted (w := w) (base := base) (g := g) (cap := c) (n := k) (e := 9) (os := os) (cur := cur) (ss := l.map bs) (ts := l'.map bs) (by simp [e4]) hb hg (by simpa [hlen] using h1) h2 h3
    rw [List.length_map, hlen, ← strs_map] at this
    exact this

theorem setUnd : prg.underlying 53 = some (.map 9 4) := by kernel_rfl
theorem strUnd : prg.underlying 9 = some .string := by kernel_rfl
/-- the words of a list, as a map -/
def WMap (es : Array MapEntry) (l : List ByteArray) : Prop := ∀ k, findE k es.toList = if memS k l && isWord k then some (Value.bool true) else none
theorem memS_take {l : List ByteArray} {j : Nat} {s k : ByteArray} : memS k (l.take j ++ [s]) = (memS k (l.take j) || decide (k = s)) := by simp [memS]
theorem mw {k : ByteArray} {l : List ByteArray} : (memS k l && isWord k) = true ↔ k ∈ l ∧ isWord k = true := by rw [Bool.and_eq_true, memS_iff]
theorem gathered_ok (b o c : Nat) (p : Option Addr) (n c' : Nat) (hn : n ≤ 1000000000000) (l : List ByteArray) (w : World) (hc : w.cell? ⟨b, o, none⟩ = some (.slice p n c')) (h : SlC w p n (l.map .string)) (hsz : ∀ s ∈ l, s.size < 9223372036854775807) :
    Calls prg 129 #[.slice (some ⟨b, o, none⟩) 1 c] w fun e w' => ∃ m es, e = .returned (.map (some m)) ∧ w.heap.size ≤ m ∧ Eng.MapAt w' m es ∧ WMap es l ∧ Ext w w' := by
  refine f129_wp (some ⟨b, o, none⟩) 1 c w _ ?_
  rintro m w1 rfl rfl
  have E1 : Ext w (w.alloc (.map #[] 0)) := (Ext.refl w).alloc _
  have M1 := MapAt.new w
  refine ⟨fun i W => (i = 0 ∧ W = w.alloc (.map #[] 0)) ∨ (i = 1 ∧ ∃ es, Eng.MapAt W w.heap.size es ∧ WMap es l ∧ Ext w W), fun i _ => (1 - i).toNat, .inl ⟨rfl, rfl⟩, ?_⟩
  rintro i fr w2 hI
  refine cwd (fun hi => ?_) fun hi => ?_
  · obtain ⟨rfl, rfl⟩ : i = 0 ∧ w2 = w.alloc (.map #[] 0) := by
      rcases hI with h | ⟨rfl, _⟩
      · exact h
      · omega
    have hc2 := Ext.cell E1 hc
    refine ⟨by omega, hi, nilW_mk ⟨p, n, c', by simpa using hc2, ?_⟩⟩
    refine ⟨fun j W => 0 ≤ j ∧ j ≤ n ∧ Ext w W ∧ ∃ es, Eng.MapAt W w.heap.size es ∧ WMap es (l.take j.toNat), fun j _ => (n - j).toNat, ⟨by omega, by omega, E1, #[], M1, by intro k; simp [findE, memS]⟩, ?_⟩
    rintro j fr1 w3 ⟨j0, j1, E3, es, M3, hes⟩
    refine cwd (fun hj => ?_) fun hj => ?_
    · obtain ⟨s, b1, o1, hs, rfl, hcs⟩ := (h.ext E3).atF j0 hj
      refine ⟨j0, hj, nilW_mk ⟨s, by rw [Nat.mul_one]; exact hcs, ?_⟩⟩
      refine (isWord_ok s (hsz s (List.mem_of_getElem? hs)) w3).mono fun e w4 he => ?_
      obtain ⟨rfl, rfl⟩ := he
      have ht := take_snoc hs
      refine ⟨_, rfl, cwb (fun hw => ?_) fun hw => ?_⟩
      · obtain ⟨w5, es', hr, M5, hf, hk, hg⟩ := run_update_str setUnd strUnd M3 s (.bool true)
        rw [wrap_i64 (by omega) (by omega)]
        refine ⟨w5, hr, ⟨by omega, by omega, Ext.grownB E3 (Nat.le_refl _) hg, es', M5, ?_⟩, by dsimp only; omega⟩
        intro k
        rw [hf k, hes k, show (j + 1).toNat = j.toNat + 1 by omega, ht]
        by_cases hks : k = s
        · subst hks; simp [hw, memS_take]
        · simp [hks, memS_take]
      · rw [wrap_i64 (by omega) (by omega)]
        refine ⟨⟨by omega, by omega, E3, es, M3, ?_⟩, by dsimp only; omega⟩
        intro k
        rw [hes k, show (j + 1).toNat = j.toNat + 1 by omega, ht]
        by_cases hks : k = s
        · subst hks; simp [hw, memS_take]
        · simp [hks, memS_take]
    · rw [wrap_i64 (by omega) (by omega)]
      refine ⟨.inr ⟨rfl, es, M3, ?_, E3⟩, by dsimp only; omega⟩
      rw [List.take_of_length_le (by rw [h.len]; omega)] at hes
      exact hes
  · rcases hI with ⟨rfl, _⟩ | ⟨rfl, es, hM, hW, hE⟩
    · omega
    · exact ⟨w.heap.size, es, rfl, Nat.le_refl _, hM, hW, hE⟩

/-- the words of a list, rising -/
def words (l : List ByteArray) : List ByteArray := setW isWord l
theorem nodup_len_le {ks l : List ByteArray} (hn : ks.Nodup) (h : ∀ x ∈ ks, x ∈ l) : ks.length ≤ l.length := by
  induction ks generalizing l with
  | nil => simp
  | cons a r ih =>
    have h' := List.nodup_cons.1 hn
    have ha := h a (by simp)
    have := ih (l := l.erase a) h'.2 fun x hx => by
      have hne : x ≠ a := fun e => h'.1 (by rw [← e]; exact hx)
      exact (List.mem_erase_of_ne hne).2 (h x (by simp [hx]))
    rw [List.length_erase_of_mem ha] at this
    have := List.length_pos_of_mem ha
    simp only [List.length_cons]; omega
theorem both_ok (b o c : Nat) (p : Option Addr) (n c' : Nat) (hn : n ≤ 1000000000) (l : List ByteArray) (w : World) (hc : w.cell? ⟨b, o, none⟩ = some (.slice p n c')) (h : SlC w p n (l.map .string)) (hsz : ∀ s ∈ l, s.size < 9223372036854775807) :
    Calls prg 100 #[.slice (some ⟨b, o, none⟩) 1 c] w fun e w' => ∃ q d, e = .returned (.slice q (words l).length d) ∧ Own w' w.heap.size 9 1 q (words l).length d ((words l).map .string) ∧ Ext w w' := by
  refine f100_wp (some ⟨b, o, none⟩) 1 c w _ ?_
  refine (gathered_ok b o c p n c' (by omega) l w hc h hsz).mono fun e w1 he => ?_
  obtain ⟨m, es, rfl, hm, M1, hW, E1⟩ := he
  obtain ⟨w2, hr, I2, hg2, hz2⟩ := ItS.new M1 (P := prg) setUnd
  have hll := h.len
  have hsub : ∀ {W r ks}, ItS W r m es ks → ∀ x ∈ ks, x ∈ l ∧ isWord x = true := by
    intro W r ks hI x hx
    obtain ⟨e, he, hk⟩ := hI.sub x hx
    have h1 := hW x
    have h2 : findE x es.toList ≠ none := fun h0 => findE_none.1 h0 e he hk
    by_cases hc : (memS x l && isWord x) = true
    · exact mw.1 hc
    · rw [if_neg hc] at h1; exact absurd h1 h2
  have hklen : ∀ {W r ks}, ItS W r m es ks → ks.length ≤ n := fun hI => by
    have := nodup_len_le hI.nd fun x hx => (hsub hI x hx).1
    omega
  have E2 : Ext w w2 := ⟨hg2.os.trans E1.os, hg2.tape.trans E1.tape, hg2.output.trans E1.output, Nat.le_trans E1.size hg2.size, fun k hk => (hg2.block k (by have := E1.size; omega) (by simp)).trans (Ext.block E1 hk)⟩
  refine ⟨some m, rfl, .pointer (some ⟨w1.heap.size, 0, none⟩), w2, hr, fun q k d W => ∃ ks, ItS W w1.heap.size m es ks ∧ Own W w.heap.size 9 1 q k d (ks.map .string) ∧ Ext w W,
    fun q k d W => n - k, ⟨[], I2, Own.nil .., E2⟩, ?_⟩
  rintro q k d fr w3 ⟨ks, I3, O3, E3⟩
  have hk : ks.length = k := by have := O3.len; simpa using this
  have hne : ∀ x, x = w1.heap.size ∨ x = m → w.heap.size ≤ x := by
    rintro x (rfl | rfl)
    · exact E1.size
    · exact hm
  rcases its_next (P := prg) I3 0 with ⟨hall, hr3⟩ | ⟨key, v, w6, hnot, hfind, hr3, hent, I6, hg6, _⟩
  · left
    refine ⟨w3, hr3, ?_⟩
    have hkn := hklen I3
    refine (sortS_ok q k d (by omega) ks I3.nd w.heap.size w3 O3).mono fun e w5 he => ?_
    obtain ⟨rfl, l', O5, hR, hmem, hg5⟩ := he
    have : l' = words l := setW_eq hR fun x => by
      rw [hmem]
      constructor
      · exact hsub I3 x
      · intro hx
        refine hall x ?_
        rw [hW x, if_pos (mw.2 hx)]; rfl
    subst this
    have hlen : (words l).length = k := by have := O5.len; simpa using this
    rw [hlen]
    exact ⟨rfl, q, d, rfl, O5, Ext.grown' E3 O3 (Nat.le_refl _) hg5⟩
  · right
    have hv : v = .bool true := by
      rw [hW key] at hfind
      split at hfind
      · exact (Option.some.inj hfind).symm
      · cases hfind
    subst hv
    refine ⟨_, _, w6, hr3, key, true, hent, ?_⟩
    -- the iterator's block is no row
    have hr' : (Value.slice q k d).ownBlock ≠ some w1.heap.size := by
      intro e
      obtain ⟨since, seen, c0, ck, x1, _⟩ := I3.it
      rcases O3.2 with ⟨hv, _⟩ | ⟨g, cap, cur, hv, _, hb, _⟩
      · cases hv; simp [Value.ownBlock] at e
      · cases hv
        have : g = w1.heap.size := by simpa [Value.ownBlock] using e
        subst this
        rw [x1] at hb; cases hb
    have hm' : (Value.slice q k d).ownBlock ≠ some m := by
      intro e
      obtain ⟨since, seen, c0, ck, _, x1, _⟩ := I3.it
      rcases O3.2 with ⟨hv, _⟩ | ⟨g, cap, cur, hv, _, hb, _⟩
      · cases hv; simp [Value.ownBlock] at e
      · cases hv
        have : g = m := by simpa [Value.ownBlock] using e
        subst this
        rw [x1] at hb; cases hb
    have O6 : Own w6 w.heap.size 9 1 q k d (ks.map .string) := O3.kept hg6 (by
      cases hv : (Value.slice q k d).ownBlock with
      | none => exact .inl rfl
      | some x => right; intro e; exact hr' (by rw [hv, ← e]))
    have E6 : Ext w w6 := Ext.grownB E3 E1.size hg6
    have hkn := hklen I6
    rw [List.length_append, List.length_singleton] at hkn
    rintro b1 w7 hb1 hw7
    obtain ⟨p', n', d', w8, hr8, hn', O8, hg8⟩ := Own.app1 elS O6 (by have := E6.size; omega) (v := .string key) rfl (by omega) 9 b1 w7 hb1 hw7
    refine ⟨p', n', d', w8, hr8, ⟨ks ++ [key], I6.grown hg8 hr' hm', by rw [List.map_append]; exact O8, Ext.grown' E6 O6 (Nat.le_refl _) hg8⟩, by dsimp only; omega⟩

end Go.Proofs.YtbbcofdibkgalaaGreatDoor
