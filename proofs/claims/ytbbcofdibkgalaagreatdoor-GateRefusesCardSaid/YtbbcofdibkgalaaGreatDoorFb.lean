/- Contracts: field's Unquote. -/
import Derived.Test.YtbbcofdibkgalaaGreatDoorFa
import Derived.Test.YtbbcofdibkgalaaGreatDoorW6
set_option linter.unusedVariables false
set_option linter.unusedSimpArgs false
namespace Go.Proofs.YtbbcofdibkgalaaGreatDoor
open Go.Eng
open Go.RowKit (Below)

theorem hexV_eq (c : Nat) : hexVal c = hexV c := rfl
theorem Own.setOther' {w : World} {base e size : Nat} {p : Option Addr} {n c : Nat} {xs : List Value} (h : Own w base e size p n c xs) {b : Nat} (hb : b < base) {w' : World} (hg : w.grownBy w' (some b)) : Own w' base e size p n c xs := by
  refine h.kept hg ?_
  cases hv : (Value.slice p n c).ownBlock with
  | none => exact .inl rfl
  | some k => have := (h.lt k hv).1; right; intro e; cases e; omega
theorem Ext.grownB {a w w' : World} (h : Ext a w) {b : Nat} (hb : a.heap.size ≤ b) (hg : w.grownBy w' (some b)) : Ext a w' :=
  Below.grown h hg h.size fun k hk => by cases hk; exact hb
theorem grownBy_refl (w : World) (row : Option Nat) : w.grownBy w row := ⟨rfl, rfl, rfl, Nat.le_refl _, fun _ _ _ => rfl⟩
/-- what the inner function reads -/
def nextR (l : List UInt8) (x : Nat) : Int × Nat := match l[x]? with | some c => (hexV c.toNat, x + 1) | none => (-1, x)
theorem next_ok (b1 b0 : Nat) (w : World) (x : Nat) (s : ByteArray) (hs : s.size ≤ 100000000000) (hx : x ≤ s.size) (h1 : Blk w b1 [.int .i64 x]) (h0 : Blk w b0 [.string s]) (hne : b0 ≠ b1) :
    Calls prg 108 #[.pointer (some ⟨b1, 0, none⟩), .pointer (some ⟨b0, 0, none⟩)] w fun e w' => e = .returned (.int .i64 (nextR (bs s) x).1) ∧ Blk w' b1 [.int .i64 (nextR (bs s) x).2] ∧ Blk w' b0 [.string s] ∧ w.grownBy w' (some b1) := by
  refine f108_wp b1 0 b0 0 w _ ⟨x, h1.cell rfl, s, h0.cell rfl, cwd (fun h => ?_) fun h => ?_⟩
  · have : (bs s)[x]? = none := List.getElem?_eq_none (by rw [bs_len]; omega)
    rw [nextR, this]
    exact ⟨rfl, h1, h0, grownBy_refl _ _⟩
  · refine ⟨x, h1.cell rfl, h1.sto (by simp) (by simp [Value.oneCell']), ?_⟩
    rintro w1 rfl
    have B1 := h1.set 0 [.int .i64 (IntKind.i64.wrap ((x : Int) + 1))]
    have B0 := h0.setOther hne 0 [.int .i64 (IntKind.i64.wrap ((x : Int) + 1))]
    simp only [setL, List.set] at B1
    have hg := grownBy_setCells w b1 0 [.int .i64 (IntKind.i64.wrap ((x : Int) + 1))]
    have e1 : IntKind.i64.wrap ((x : Int) + 1) = ((x + 1 : Nat) : Int) := by rw [wrap_i64 (by omega) (by omega)]; rfl
    have e2 : IntKind.i64.wrap (((x + 1 : Nat) : Int) - 1) = (x : Int) := by rw [wrap_i64 (by omega) (by omega)]; omega
    obtain ⟨c, hc⟩ := Eng.byte_at (s := s) (i := (x : Int)) (by omega) (by omega)
    have hc' : (bs s)[x]? = some c := hc
    refine ⟨s, B0.cell rfl, _, B1.cell rfl, ?_⟩
    rw [e1] at B1 B0 hg ⊢
    rw [e2]
    refine ⟨by omega, c, hc, (hexVal_ok c.toNat _).mono fun e w2 he => ?_⟩
    obtain ⟨rfl, rfl⟩ := he
    rw [nextR, hc']
    exact ⟨_, rfl, rfl, B1, B0, hg⟩

def unqP (l : List UInt8) : ByteArray × Int := match unq l with | some o => (mk o, 0) | none => (⟨#[]⟩, 3)
theorem unqP_none {l : List UInt8} (h : unq l = none) : unqP l = (⟨#[]⟩, 3) := by rw [unqP, h]
theorem unqP_some {l o : List UInt8} (h : unq l = some o) : unqP l = (mk o, 0) := by rw [unqP, h]
theorem unquote_ok (s : ByteArray) (hs : s.size ≤ 10000000000) (w : World) : Calls prg 72 #[.string s] w (Ret w (.tuple #[.string (unqP (bs s)).1, .int .i64 (unqP (bs s)).2])) := by
  have hlen := bs_len s
  refine f72_wp s w _ ?_
  rintro b0 w1 hb0 hw1 b1 w2 hb1 hw2
  have E1 : Ext w w1 := by rw [hw1]; exact (Ext.refl w).alloc _
  have E2 : Ext w1 w2 := by rw [hw2]; exact (Ext.refl w1).alloc _
  have B0 : Blk w1 b0 [.string s] := by rw [hb0, hw1]; exact Blk.new w _ _
  have B1 : Blk w2 b1 [.int .i64 0] := by rw [hb1, hw2]; exact Blk.new w1 _ _
  have z1 : w1.heap.size = w.heap.size + 1 := by rw [hw1]; simp
  have z2 : w2.heap.size = w.heap.size + 2 := by rw [hw2]; simp [z1]
  have hb0' : b0 = w.heap.size := hb0
  have hb1' : b1 = w.heap.size + 1 := by omega
  have hne : b0 ≠ b1 := by omega
  refine ⟨B1.sto (by simp) (by simp [Value.oneCell']), ?_⟩
  rintro w3 rfl
  have B1' := B1.set 0 [.int .i64 0]
  simp only [setL, List.set] at B1'
  have B0' := (B0.ext E2).setOther hne 0 [.int .i64 0]
  have E3 : Ext w (w2.setCells b1 0 [.int .i64 0]) := (E1.trans E2).setCells (by omega) _
  have z3 : (w2.setCells b1 0 [.int .i64 0]).heap.size = w.heap.size + 2 := by rw [(setCells_heap b1 _ 0 w2).1, z2]
  refine ⟨fun b_2 nb cb w4 => ∃ x : Nat, x ≤ s.size ∧ Blk w4 b1 [.int .i64 (x : Int)] ∧ Blk w4 b0 [.string s] ∧ Ext w w4 ∧ w.heap.size + 2 ≤ w4.heap.size ∧ ∃ o, Own w4 (w.heap.size + 2) 5 1 b_2 nb cb (bvs o) ∧ unq (bs s) = (unq ((bs s).drop x)).map (o ++ ·) ∧ o.length ≤ x,
    fun _ _ _ w4 => match w4.cell? ⟨b1, 0, none⟩ with | some (.int _ x) => (s.size - x).toNat | _ => 0, ⟨0, by omega, B1', B0', E3, by omega, [], Own.nil .., by simp, by simp⟩, ?_⟩
  rintro p n c fr w4 ⟨x, hx, C1, C0, he, hz, o, ho, hu, hol⟩
  have hno : n = o.length := by have := ho.len; rw [bvs_len] at this; omega
  refine ⟨x, C1.cell rfl, s, C0.cell rfl, cwd (fun hi => ?_) fun hi => ?_⟩
  · obtain ⟨ch, hc⟩ := Eng.byte_at (s := s) (i := (x : Int)) (by omega) (by omega)
    have hc' : (bs s)[x]? = some ch := hc
    have hd := drop_at hc'
    refine ⟨s, C0.cell rfl, x, C1.cell rfl, by omega, ch, hc, x, C1.cell rfl, C1.sto (by simp) (by simp [Value.oneCell']), ?_⟩
    rintro w5 rfl
    have e1 : IntKind.i64.wrap ((x : Int) + 1) = ((x + 1 : Nat) : Int) := by rw [wrap_i64 (by omega) (by omega)]; rfl
    rw [e1]
    have D1 := C1.set 0 [.int .i64 ((x + 1 : Nat) : Int)]
    simp only [setL, List.set] at D1
    have D0 := C0.setOther hne 0 [.int .i64 ((x + 1 : Nat) : Int)]
    have hg := grownBy_setCells w4 b1 0 [.int .i64 ((x + 1 : Nat) : Int)]
    have Do := Own.setOther' ho (b := b1) (by omega) hg
    have De := Ext.grownB he (b := b1) (by omega) hg
    have Dz := hg.size
    obtain ⟨w5, hw5⟩ : ∃ w5, w5 = w4.setCells b1 0 [.int .i64 ((x + 1 : Nat) : Int)] := ⟨_, rfl⟩
    rw [← hw5] at D1 D0 Do De Dz ⊢
    have mea : (match w4.cell? ⟨b1, 0, none⟩ with | some (.int _ x) => (s.size - x).toNat | _ => 0) = s.size - x := by rw [C1.cell rfl]; simp only; omega
    -- a byte goes to the result
    have push : ∀ (w6 : World) (y : Nat) (v : UInt8), x < y → y ≤ s.size → Blk w6 b1 [.int .i64 (y : Int)] → Blk w6 b0 [.string s] → Ext w w6 → w.heap.size + 2 ≤ w6.heap.size → Own w6 (w.heap.size + 2) 5 1 p n c (bvs o) →
        unq ((bs s).drop x) = (unq ((bs s).drop y)).map (v :: ·) → ∀ (b_3 : Nat) (w7 : World), b_3 = w6.heap.size → w7 = w6.alloc (.cells #[.int .u8 (v.toNat : Int)] 5) →
        ∃ (b_4 : Option Addr) (nb1 cb1 : Nat) (w8 : World), (Builtin.append_ #[23, 23] 23 #[.slice p n c, .slice (some ⟨b_3, 0, none⟩) 1 1]).run prg w7 = .ok (.slice b_4 nb1 cb1) w8 ∧
          ((∃ x : Nat, x ≤ s.size ∧ Blk w8 b1 [.int .i64 (x : Int)] ∧ Blk w8 b0 [.string s] ∧ Ext w w8 ∧ w.heap.size + 2 ≤ w8.heap.size ∧ ∃ o, Own w8 (w.heap.size + 2) 5 1 b_4 nb1 cb1 (bvs o) ∧ unq (bs s) = (unq ((bs s).drop x)).map (o ++ ·) ∧ o.length ≤ x) ∧
            (match w8.cell? ⟨b1, 0, none⟩ with | some (.int _ x) => (s.size - x).toNat | _ => 0) < (match w4.cell? ⟨b1, 0, none⟩ with | some (.int _ x) => (s.size - x).toNat | _ => 0)) := by
      intro w6 y v hxy hy F1 F0 Fe Fz Fo hun b_3 w7 h3 h7
      obtain ⟨q, m, d, w8, hrun, hm, ho8, hg8⟩ := Fo.app1 elB (by omega) (bv_one v) (by omega) 5 b_3 w7 h3 h7
      have G1 := F1.grown hg8 (Fo.ne (by omega))
      have G0 := F0.grown hg8 (Fo.ne (by omega))
      have hz8 := grown_size hg8
      refine ⟨q, m, d, w8, hrun, ⟨y, hy, G1, G0, Ext.grown' Fe Fo (by omega) hg8, by omega, o ++ [v], by rw [bvs_append]; exact ho8, ?_, by rw [List.length_append]; simp; omega⟩, ?_⟩
      · rw [hu, hun]; cases unq ((bs s).drop y) <;> simp
      · rw [mea, G1.cell rfl]; simp only; omega
    have hd1 : (bs s).drop x = ch :: (bs s).drop (x + 1) := hd
    refine ⟨fun t w6 => t = decide (ch.toNat < 33 ∨ ch.toNat > 126) ∧ w6 = w5, cwd (fun h => ⟨(decide_eq_true (by omega)).symm, rfl⟩) fun h => ⟨decide_eq_decide.2 (by omega), rfl⟩, ?_⟩
    rintro t fr1 w6 ⟨rfl, rfl⟩
    refine cwd (fun hbad => ?_) fun hbad => cwd (fun h43 => ?_) fun h43 => cwd (fun h37 => ?_) fun h37 => ?_
    · have hn : unq (bs s) = none := by rw [hu, hd1, unq_bad hbad]; rfl
      rw [unqP_none hn]
      exact ⟨rfl, De⟩
    · have hch : ch = 43 := UInt8.toNat_inj.1 (by rw [show (43 : UInt8).toNat = 43 from rfl]; omega)
      exact push w6 (x + 1) 32 (by omega) (by omega) D1 D0 De (by omega) Do (by rw [hd1, hch, unq_plus])
    · have hch : ch = 37 := UInt8.toNat_inj.1 (by rw [show (37 : UInt8).toNat = 37 from rfl]; omega)
      refine (next_ok b1 b0 w6 (x + 1) s (by omega) (by omega) D1 D0 hne).mono fun e w9 hr => ?_
      obtain ⟨rfl, F1, F0, hg9⟩ := hr
      have hy : (nextR (bs s) (x + 1)).2 ≤ s.size := by
        unfold nextR
        split
        · rename_i cc hcc
          have := (List.getElem?_eq_some_iff.1 hcc).1
          simp only; omega
        · simp only; omega
      refine ⟨_, rfl, (next_ok b1 b0 w9 (nextR (bs s) (x + 1)).2 s (by omega) hy F1 F0 hne).mono fun e w10 hr => ?_⟩
      obtain ⟨rfl, H1, H0, hg10⟩ := hr
      have He := Ext.grownB (Ext.grownB De (b := b1) (by omega) hg9) (b := b1) (by omega) hg10
      have Ho := Own.setOther' (Own.setOther' Do (b := b1) (by omega) hg9) (b := b1) (by omega) hg10
      have hz9 := grown_size hg9
      have hz10 := grown_size hg10
      have bad : unq (bs s) = none → Ret w (.tuple #[.string (unqP (bs s)).1, .int .i64 (unqP (bs s)).2]) (.returned (.tuple #[.string ⟨#[]⟩, .int .i64 3])) w10 := fun hn => by
        rw [unqP_none hn]; exact ⟨rfl, He⟩
      refine ⟨_, rfl, ?_⟩
      cases ha : (bs s)[x + 1]? with
      | none =>
        have hsh : ((bs s).drop (x + 1)).length < 2 := by rw [List.length_drop]; have := List.getElem?_eq_none_iff.1 ha; omega
        have hn : unq (bs s) = none := by rw [hu, hd1, hch, unq_short hsh]; rfl
        have e1 : (nextR (bs s) (x + 1)).1 = -1 := by rw [nextR, ha]
        rw [e1]
        exact cyes (by omega) (bad hn)
      | some a =>
        have e1 : nextR (bs s) (x + 1) = (hexV a.toNat, x + 2) := by rw [nextR, ha]
        rw [e1]
        have hda := drop_at ha
        cases hb : (bs s)[x + 2]? with
        | none =>
          have hsh : ((bs s).drop (x + 1)).length < 2 := by rw [List.length_drop]; have := List.getElem?_eq_none_iff.1 hb; omega
          have hn : unq (bs s) = none := by rw [hu, hd1, hch, unq_short hsh]; rfl
          have e2 : (nextR (bs s) (x + 2)).1 = -1 := by rw [nextR, hb]
          rw [e2]
          exact cwd (fun _ => bad hn) fun _ => cyes (by omega) (bad hn)
        | some bb =>
          have hxl := (List.getElem?_eq_some_iff.1 hb).1
          have e2 : nextR (bs s) (x + 2) = (hexV bb.toNat, x + 3) := by rw [nextR, hb]
          rw [e1] at H1
          simp only at H1
          rw [e2] at H1 ⊢
          have hdb := drop_at hb
          have hux : unq ((bs s).drop x) = if hexV a.toNat < 0 ∨ hexV bb.toNat < 0 then none else (unq ((bs s).drop (x + 3))).map (UInt8.ofNat (16 * (hexV a.toNat).toNat + (hexV bb.toNat).toNat) :: ·) := by
            rw [hd1, hda, hdb, hch, unq_hex]
          have ga := hexV_ge a.toNat
          have gb := hexV_ge bb.toNat
          refine cwd (fun h1 => ?_) fun h1 => cwd (fun h2 => ?_) fun h2 => ⟨by omega, ?_⟩
          · exact bad (by rw [hu, hux, if_pos (.inl h1)]; rfl)
          · exact bad (by rw [hu, hux, if_pos (.inr h2)]; rfl)
          · rw [if_neg (by omega)] at hux
            have hv : (Value.int .u8 (IntKind.u8.wrap (bitv .or .i64 (IntKind.i64.wrap (hexV a.toNat * 2 ^ 4)) (hexV bb.toNat)))) = .int .u8 ((UInt8.ofNat (16 * (hexV a.toNat).toNat + (hexV bb.toNat).toNat)).toNat : Int) := by
              obtain ⟨ka, hka⟩ : ∃ ka : Nat, hexV a.toNat = (ka : Int) := ⟨(hexV a.toNat).toNat, by omega⟩
              obtain ⟨kb, hkb⟩ : ∃ kb : Nat, hexV bb.toNat = (kb : Int) := ⟨(hexV bb.toNat).toNat, by omega⟩
              rw [hka, hkb, mul_two, wrap_i64 (by omega) (by omega), bitv_or_nat (by omega) (by omega), or_low (by omega), wrap_u8 (by omega) (by omega), UInt8.toNat_ofNat', Int.toNat_natCast, Int.toNat_natCast]
              congr 2; omega
            rw [hv]
            exact push w10 (x + 3) _ (by omega) (by omega) H1 H0 He (by omega) Ho hux
    · have hn43 : ch ≠ 43 := fun e => h43 (by rw [e]; rfl)
      have hn37 : ch ≠ 37 := fun e => h37 (by rw [e]; rfl)
      exact push w6 (x + 1) ch (by omega) (by omega) D1 D0 De (by omega) Do (by rw [hd1, unq_self hbad hn43 hn37])
  · have hnil : (bs s).drop x = [] := List.drop_eq_nil_of_le (by omega)
    rw [hnil, unq_nil] at hu
    have hu' : unq (bs s) = some o := by rw [hu]; simp
    rw [unqP_some hu']
    exact ⟨_, bytesAt_slc ho.slc, rfl, he⟩

end Go.Proofs.YtbbcofdibkgalaaGreatDoor
