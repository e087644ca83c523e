/- Contracts: scope's Parse. -/
import Derived.Test.YtbbcofdibkgalaaGreatDoorGb
import Derived.Test.YtbbcofdibkgalaaGreatDoorW9
import Derived.Lib.CountLaws
set_option linter.unusedVariables false
set_option linter.unusedSimpArgs false
namespace Go.Proofs.YtbbcofdibkgalaaGreatDoor
open Go.Eng
open Go.RowKit (Below)

theorem pieces_e (c : UInt8) (l : List UInt8) : pieces c l = if (cutB c l).2.2 then (cutB c l).1 :: pieces c (cutB c l).2.1 else [(cutB c l).1] := by rw [pieces]
theorem split_pieces (c : UInt8) : ∀ (n : Nat) (s : ByteArray), s.size ≤ n → Lib.splitB ⟨#[c]⟩ 0 (Lib.countB s ⟨#[c]⟩) s = (pieces c (bs s)).map mk
  | n, s, hn => by
    have hix : Lib.indexB s ⟨#[c]⟩ = Lib.index (bs s) [c] := rfl
    rw [pieces_e]
    rcases libIndex c (bs s) with ⟨h1, h2⟩ | ⟨i, h1, h2, h3, h4⟩
    · rw [Lib.countB_miss s _ (hix.trans h1), Lib.splitB_zero, h2, (cutB_no c (bs s) h2).1]
      simp [mk_bs]
    · have hy := cutB_yes c (bs s) h2
      have hl := congrArg List.length hy
      have hb := bs_len s
      simp only [List.length_append, List.length_cons] at hl
      cases n with
      | zero => omega
      | succ n =>
        rw [Lib.countB_hit s ⟨#[c]⟩ i (Nat.le_refl 1) (hix.trans h1), Nat.add_comm, Lib.splitB_hit _ _ _ _ i (hix.trans h1), h2]
        have e1 : s.extract 0 (i + 0) = mk (cutB c (bs s)).1 := by
          apply bs_inj; rw [bs_extract, bs_mk, h3]; simp
        have e2 : s.extract (i + (⟨#[c]⟩ : ByteArray).size) s.size = mk (cutB c (bs s)).2.1 := by
          apply bs_inj
          have : (⟨#[c]⟩ : ByteArray).size = 1 := rfl
          rw [bs_extract, bs_mk, h4, this, List.take_of_length_le]
          rw [List.length_drop, hb]; omega
        rw [e1, e2, split_pieces c n (mk (cutB c (bs s)).2.1) (by rw [mk_size]; omega), bs_mk]
        simp

/-- the words of a text, rising; an error -/
def scopeP (s : List UInt8) : List ByteArray × Int :=
  if s.length > 16384 then ([], 2) else if s = [] then ([], 0) else
    if ((pieces 32 s).map mk).any (fun x => !isWord x) then ([], 3) else
      if (words ((pieces 32 s).map mk)).length > 32 then ([], 2) else (words ((pieces 32 s).map mk), 0)
theorem fn141 : fk.contains 141 = true := by decide +kernel
theorem notWord_ok (p : Option Addr) (n c : Nat) (hn : n < 9223372036854775807) (l : List ByteArray) (hl : ∀ s ∈ l, s.size < 9223372036854775807) (w : World) (h : SlC w p n (l.map .string)) :
    Calls prg 140 #[.slice p n c, .func (.func 141) #[] #[]] w (RetP w (.bool (l.any fun x => !isWord x))) := by
  refine f140_wp p n c _ w _ ?_
  refine f168_wp p n c _ w _ ⟨fun i W => 0 ≤ i ∧ i ≤ n ∧ W = w ∧ l.any (fun x => !isWord x) = (l.drop i.toNat).any (fun x => !isWord x), fun i _ => (n - i).toNat, ⟨by omega, by omega, rfl, rfl⟩, ?_⟩
  rintro i fr w1 ⟨i0, i1, rfl, hA⟩
  refine cwd (fun hi => ?_) fun hi => ?_
  · obtain ⟨x, b, o, hx, rfl, hc⟩ := h.atF i0 hi
    rw [drop_at hx, List.any_cons] at hA
    refine ⟨i0, hi, nilW_mk ⟨x, by rw [Nat.mul_one]; exact hc, ?_⟩⟩
    simp only [fnW, fn141, cond_true]
    refine f141_wp x w1 _ ((isWord_ok x (hl x (List.mem_of_getElem? hx)) w1).mono fun e w2 he => ?_)
    obtain ⟨rfl, rfl⟩ := he
    refine ⟨_, rfl, _, rfl, cwb (fun g => ⟨_, rfl, retb ?_⟩) fun g => ?_⟩
    · rw [hA, g, decide_eq_true i0]; rfl
    · rw [g, Bool.false_or] at hA
      rw [wrap_i64 (by omega) (by omega)]
      exact ⟨⟨by omega, by omega, rfl, by rw [hA, show (i + 1).toNat = i.toNat + 1 by omega]⟩, by omega⟩
  · rw [List.drop_eq_nil_of_le (by rw [h.len]; omega)] at hA
    exact ⟨_, rfl, retb (by rw [hA]; rfl)⟩
theorem pieces_len (c : UInt8) : ∀ (n : Nat) (s : List UInt8), s.length ≤ n → (pieces c s).length ≤ s.length + 1 ∧ ∀ x ∈ pieces c s, x.length ≤ s.length
  | n, s, hn => by
    have hcl := cutB_len c s
    rw [pieces_e]
    cases h : (cutB c s).2.2 with
    | false => simp; omega
    | true =>
      have hy := congrArg List.length (cutB_yes c s h)
      simp only [List.length_append, List.length_cons] at hy
      cases n with
      | zero => omega
      | succ n =>
        have ih := pieces_len c n (cutB c s).2.1 (by omega)
        simp only [if_true, List.length_cons, List.mem_cons]
        refine ⟨by omega, ?_⟩
        rintro x (rfl | hx)
        · omega
        · have := ih.2 x hx; omega
theorem scopeParse_ok (s : ByteArray) (hs : s.size ≤ 1000000000) (w : World) (hg : GW w) :
    Calls prg 105 #[.string s] w fun e w' => ∃ q n d, e = .returned (.tuple #[.slice q n d, .int .i64 (scopeP (bs s)).2]) ∧ SlC w' q n ((scopeP (bs s)).1.map .string) ∧ Ext w w' ∧ Far w q := by
  have hlen := bs_len s
  obtain ⟨m, hm⟩ := hg.ml
  refine f105_wp s w _ (cwd (fun g => ⟨none, 0, 0, ?_⟩) fun g => cwd (fun g1 => ⟨none, 0, 0, ?_⟩) fun g1 => ?_)
  · have : scopeP (bs s) = ([], 2) := by rw [scopeP, if_pos (by omega)]
    rw [this]; exact ⟨rfl, SlC.nil .., Ext.refl w, Far.none w⟩
  · have : scopeP (bs s) = ([], 0) := by rw [scopeP, if_neg (by omega), if_pos (by rw [g1]; rfl)]
    rw [this]; exact ⟨rfl, SlC.nil .., Ext.refl w, Far.none w⟩
  have hne : bs s ≠ [] := fun h => g1 (bs_inj (h.trans rfl))
  have hP : scopeP (bs s) = if ((pieces 32 (bs s)).map mk).any (fun x => !isWord x) then ([], 3) else
      if (words ((pieces 32 (bs s)).map mk)).length > 32 then ([], 2) else (words ((pieces 32 (bs s)).map mk), 0) := by
    rw [scopeP, if_neg (by omega), if_neg hne]
  have hpl := pieces_len 32 _ (bs s) (Nat.le_refl _)
  refine (Tryz.strings_Split s ⟨#[32]⟩ m w (by omega) hm (by decide)).mono fun e w1 he => ?_
  obtain ⟨rfl, hw1⟩ := he
  rw [split_pieces 32 _ s (Nat.le_refl _)] at hw1
  have hcnt : Lib.countB s ⟨#[32]⟩ + 1 = ((pieces 32 (bs s)).map mk).length := by
    rw [← split_pieces 32 _ s (Nat.le_refl _), Lib.splitB_all _ (by decide) 0 _ s rfl]
  rw [hcnt]
  obtain ⟨ps, hps⟩ : ∃ ps, ps = (pieces 32 (bs s)).map mk := ⟨_, rfl⟩
  have hpsl : ps.length ≤ s.size + 1 := by rw [hps, List.length_map]; omega
  have hpss : ∀ x ∈ ps, x.size < 9223372036854775807 := by
    intro x hx
    rw [hps] at hx
    obtain ⟨y, hy, rfl⟩ := List.mem_map.1 hx
    have := hpl.2 y hy
    rw [mk_size]; omega
  rw [← hps] at hP hw1 ⊢
  have E1 : Ext w w1 := by rw [hw1]; exact (Ext.refl w).alloc _
  have B1 : Blk w1 w.heap.size (ps.map .string) := by rw [hw1]; exact Blk.new w _ _
  have S1 : SlC w1 (some ⟨w.heap.size, 0, none⟩) ps.length (ps.map .string) := ⟨by simp, fun j v hj => nilW_mk (by rw [Nat.zero_add]; exact B1.cell hj)⟩
  refine ⟨_, _, _, rfl, (notWord_ok _ ps.length _ (by omega) ps hpss w1 S1).mono fun e w2 he => ?_⟩
  obtain ⟨rfl, rfl⟩ := he
  refine ⟨_, rfl, cwb (fun g2 => ⟨none, 0, 0, ?_⟩) fun g2 => ?_⟩
  · rw [hP, if_pos g2]; exact ⟨rfl, SlC.nil .., E1, Far.none w⟩
  intro b w3 hb hw3
  have E3 : Ext w2 w3 := by rw [hw3]; exact (Ext.refl w2).alloc _
  have B3 : Blk w3 b [.slice (some ⟨w.heap.size, 0, none⟩) ps.length ps.length] := by rw [hb, hw3]; exact Blk.new w2 _ _
  refine (both_ok b 0 1 _ ps.length _ (by omega) ps w3 (B3.cell rfl) (S1.ext E3) hpss).mono fun e w4 he => ?_
  obtain ⟨q, d, rfl, o, e4⟩ := he
  have E4 := (E1.trans E3).trans e4
  refine ⟨q, _, d, rfl, cwd (fun g3 => ⟨none, 0, 0, ?_⟩) fun g3 => ⟨q, (words ps).length, d, ?_⟩⟩
  · rw [hP, if_neg (by rw [g2]; simp), if_pos (by omega)]; exact ⟨rfl, SlC.nil .., E4, Far.none w⟩
  · rw [hP, if_neg (by rw [g2]; simp), if_neg (by omega)]; exact ⟨rfl, o.slc, E4, Far.own o (E1.trans E3).size⟩

end Go.Proofs.YtbbcofdibkgalaaGreatDoor
