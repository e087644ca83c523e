/- Contracts: roll's right. -/
import Derived.Test.YtbbcofdibkgalaaGreatDoorGb
import Derived.Test.YtbbcofdibkgalaaGreatDoorPe
import Derived.Test.YtbbcofdibkgalaaGreatDoorFa
set_option linter.unusedVariables false
set_option linter.unusedSimpArgs false
namespace Go.Proofs.YtbbcofdibkgalaaGreatDoor
open Go.Eng
open Go.RowKit (Below)

/-- a client -/
structure Cl where
  id : ByteArray
  sec : ByteArray
  pub : Bool
  red : List ByteArray
  sco : List ByteArray
  gra : List ByteArray
def ClV (w : World) (c : Cl) (vs : List Value) : Prop := ∃ p1 n1 c1 p2 n2 c2 p3 n3 c3, vs = [.string c.id, .string c.sec, .bool c.pub, .slice p1 n1 c1, .slice p2 n2 c2, .slice p3 n3 c3] ∧
  SlC w p1 n1 (c.red.map .string) ∧ SlC w p2 n2 (c.sco.map .string) ∧ SlC w p3 n3 (c.gra.map .string)
theorem ClV.ext {w w' : World} {c : Cl} {vs : List Value} (h : ClV w c vs) (he : Ext w w') : ClV w' c vs := by
  obtain ⟨p1, n1, c1, p2, n2, c2, p3, n3, c3, rfl, h1, h2, h3⟩ := h
  exact ⟨p1, n1, c1, p2, n2, c2, p3, n3, c3, rfl, h1.ext he, h2.ext he, h3.ext he⟩
/-- of no unheard size -/
structure ClB (c : Cl) : Prop where
  red : c.red.length ≤ 1000000000
  sco : c.sco.length ≤ 1000000000
  gra : c.gra.length ≤ 1000000000
  scs : ∀ s ∈ c.sco, s.size < 9223372036854775807
  sec : c.sec.size < 9223372036854775807

def gCode : ByteArray := ⟨#[97, 117, 116, 104, 111, 114, 105, 122, 97, 116, 105, 111, 110, 95, 99, 111, 100, 101]⟩
def gCred : ByteArray := ⟨#[99, 108, 105, 101, 110, 116, 95, 99, 114, 101, 100, 101, 110, 116, 105, 97, 108, 115]⟩
def gRefr : ByteArray := ⟨#[114, 101, 102, 114, 101, 115, 104, 95, 116, 111, 107, 101, 110]⟩
def isGrant (g : ByteArray) : Bool := decide (g = gCode) || (decide (g = gCred) || decide (g = gRefr))
def redOk (all : List ByteArray) : List ByteArray → Int → Bool
  | [], _ => true
  | u :: r, i => printedB u 128 && (!decide (35 ∈ bs u) && (decide (findS u all 0 = i) && redOk all r (i + 1)))
def graOk (pub : Bool) : List ByteArray → ByteArray → Bool
  | [], _ => true
  | g :: r, last => !(Op.bytesLess g.data.toList last.data.toList || decide (g = last)) && (isGrant g && (!(pub && decide (g = gCred)) && graOk pub r g))
def rightT (c : Cl) : Bool := graOk c.pub c.gra ⟨#[]⟩ && (decide (words c.sco = c.sco) && decide ((joined (words c.sco)).length ≤ 128))
/-- may a client be? -/
def rightC (c : Cl) : Bool := printedB c.id 64 && ((if c.pub then decide (c.sec = ⟨#[]⟩) else printedB c.sec 128) && (decide (c.red.length ≤ 4) && (decide (c.sco.length ≤ 32) && (redOk c.red c.red 0 && rightT c))))

theorem rightC_ok (c : Cl) (hb : ClB c) (vs : List Value) (w : World) (h : ClV w c vs) :
    Calls prg 22 #[.agg vs.toArray] w (Ret w (.bool (rightC c))) := by
  obtain ⟨p1, n1, c1, p2, n2, c2, p3, n3, c3, rfl, h1, h2, h3⟩ := h
  have l1 := h1.len
  have l2 := h2.len
  have l3 := h3.len
  have b1 := hb.red
  have b2 := hb.sco
  have b3 := hb.gra
  have b2' : n2 ≤ 1000000000 := by omega
  refine f22_wp c.id c.sec c.pub p1 n1 c1 p2 n2 c2 p3 n3 c3 w _ ?_
  intro b w1 hbe hw1
  have E1 : Ext w w1 := by rw [hw1]; exact (Ext.refl w).alloc _
  have B : Blk w1 b [.string c.id, .string c.sec, .bool c.pub, .slice p1 n1 c1, .slice p2 n2 c2, .slice p3 n3 c3] := by rw [hbe, hw1]; exact Blk.new w _ _
  have H1 := h1.ext E1
  have H2 := h2.ext E1
  have H3 := h3.ext E1
  clear hw1
  refine ⟨fun W => Ext w1 W ∧ rightC c = (redOk c.red c.red 0 && rightT c), ?_, ?_⟩
  · refine ⟨c.id, B.cell rfl, (printed_ok c.id 64 w1).mono fun e w2 he => ?_⟩
    obtain ⟨rfl, e2⟩ := he
    have E2 := E1.trans e2
    have B2 := B.ext e2
    refine ⟨_, rfl, cwb (fun g => retE E2 ?_) fun g => ?_⟩
    · have g' : printedB c.id 64 = false := by simpa using g
      rw [rightC, g']; rfl
    have g1 : printedB c.id 64 = true := by simpa using g
    refine ⟨c.pub, B2.cell rfl, cwb (fun gp => ?_) fun gp => ?_⟩
    · refine ⟨c.sec, B2.cell rfl, cwd (fun g => retE E2 ?_) fun g => ?_⟩
      · rw [rightC, gp, if_pos rfl, decide_eq_false g]; simp
      · have g2 : c.sec = ⟨#[]⟩ := Classical.byContradiction g
        refine ⟨c.pub, B2.cell rfl, cwb (fun g => ?_) fun _ => ?_⟩
        · rw [gp] at g; cases g
        refine ⟨p1, n1, c1, B2.cell rfl, cwd (fun g => retE E2 ?_) fun g3 => ⟨p2, n2, c2, B2.cell rfl, cwd (fun g => retE E2 ?_) fun g4 => ⟨e2, ?_⟩⟩⟩
        · rw [rightC, decide_eq_false (show ¬ c.red.length ≤ 4 by omega)]; simp
        · rw [rightC, decide_eq_false (show ¬ c.sco.length ≤ 32 by omega)]; simp
        · rw [rightC, g1, gp, if_pos rfl, decide_eq_true g2, decide_eq_true (show c.red.length ≤ 4 by omega), decide_eq_true (show c.sco.length ≤ 32 by omega)]; rfl
    · refine ⟨c.pub, B2.cell rfl, cwb (fun _ => ?_) fun g => ?_⟩
      rotate_left
      · rw [gp] at g; cases g
      refine ⟨c.sec, B2.cell rfl, (printed_ok c.sec 128 w2).mono fun e w3 he => ?_⟩
      obtain ⟨rfl, e3⟩ := he
      have E3 := E2.trans e3
      have B3 := B2.ext e3
      refine ⟨_, rfl, cwb (fun g => retE E3 ?_) fun g => ?_⟩
      · have g' : printedB c.sec 128 = false := by simpa using g
        rw [rightC, gp, g']; simp
      have g2 : printedB c.sec 128 = true := by simpa using g
      refine ⟨p1, n1, c1, B3.cell rfl, cwd (fun g => retE E3 ?_) fun g3 => ⟨p2, n2, c2, B3.cell rfl, cwd (fun g => retE E3 ?_) fun g4 => ⟨e2.trans e3, ?_⟩⟩⟩
      · rw [rightC, decide_eq_false (show ¬ c.red.length ≤ 4 by omega)]; simp
      · rw [rightC, decide_eq_false (show ¬ c.sco.length ≤ 32 by omega)]; simp
      · rw [rightC, g1, gp, g2, decide_eq_true (show c.red.length ≤ 4 by omega), decide_eq_true (show c.sco.length ≤ 32 by omega)]; rfl
  · rintro fr w5 ⟨e5, hC⟩
    refine ⟨p1, n1, c1, (B.ext e5).cell rfl, fun i W => 0 ≤ i ∧ i ≤ n1 ∧ Ext w1 W ∧ rightC c = (redOk c.red (c.red.drop i.toNat) i && rightT c), fun i _ => (n1 - i).toNat, ⟨by omega, by omega, e5, hC⟩, ?_⟩
    rintro i fr1 w6 ⟨i0, i1, e6, hC⟩
    have E6 := E1.trans e6
    refine cwd (fun hi => ?_) fun hi => ?_
    · obtain ⟨u, bk, of, hu, rfl, hcu⟩ := (H1.ext e6).atF i0 hi
      rw [drop_at hu, redOk] at hC
      refine ⟨i0, hi, nilW_mk ⟨u, by rw [Nat.mul_one]; exact hcu, (printed_ok u 128 w6).mono fun e w7 he => ?_⟩⟩
      obtain ⟨rfl, e7⟩ := he
      refine ⟨_, rfl, cwb (fun g => retE (E6.trans e7) ?_) fun g => ?_⟩
      · have g' : printedB u 128 = false := by simpa using g
        rw [hC, g']; rfl
      have g1 : printedB u 128 = true := by simpa using g
      refine (Tryz.strings_Contains_one u 35 w7).mono fun e w8 he => ?_
      obtain ⟨rfl, rfl⟩ := he
      have hid : decide (0 ≤ Lib.indexByte u.data.toList 35) = decide ((35 : UInt8) ∈ bs u) := idx_some 35 (bs u)
      rw [hid]
      refine ⟨_, rfl, cwd (fun g => retE (E6.trans e7) ?_) fun g2 => ?_⟩
      · rw [hC, decide_eq_true g]; simp
      refine ⟨_, n1, c1, ((B.ext e6).ext e7).cell rfl, (indexS_ok _ n1 c1 (by omega) c.red u w8 ((H1.ext e6).ext e7)).mono fun e w9 he => ?_⟩
      obtain ⟨rfl, rfl⟩ := he
      refine ⟨_, rfl, cwd (fun g => retE (E6.trans e7) ?_) fun g3 => ?_⟩
      · rw [hC, decide_eq_false g]; simp
      rw [wrap_i64 (by omega) (by omega)]
      refine ⟨⟨by omega, by omega, e6.trans e7, ?_⟩, by dsimp only; omega⟩
      rw [hC, g1, decide_eq_false g2, decide_eq_true (Classical.byContradiction g3), show (i + 1).toNat = i.toNat + 1 by omega]; rfl
    · rw [List.drop_eq_nil_of_le (by omega), redOk, Bool.true_and, rightT] at hC
      refine ⟨p3, n3, c3, (B.ext e6).cell rfl, fun last j W => 0 ≤ j ∧ j ≤ n3 ∧ Ext w1 W ∧ rightC c = (graOk c.pub (c.gra.drop j.toNat) last && (decide (words c.sco = c.sco) && decide ((joined (words c.sco)).length ≤ 128))), fun _ j _ => (n3 - j).toNat, ⟨by omega, by omega, e6, hC⟩, ?_⟩
      rintro last j fr2 w10 ⟨j0, j1, e10, hC⟩
      have E10 := E1.trans e10
      refine cwd (fun hj => ?_) fun hj => ?_
      · obtain ⟨g, bk, of, hg, rfl, hcg⟩ := (H3.ext e10).atF j0 hj
        rw [drop_at hg, graOk] at hC
        refine ⟨j0, hj, nilW_mk ⟨g, by rw [Nat.mul_one]; exact hcg, cwb (fun g1 => retE E10 ?_) fun g1 => ?_⟩⟩
        · rw [hC, g1]; rfl
        rw [g1] at hC
        -- what is left for a grant that is one
        have tail : isGrant g = true → ∃ x, w10.cell? ⟨b, 2, none⟩ = some (.bool x) ∧ cond x (cond (decide (g = gCred)) (Ret w (.bool (rightC c)) (.returned (.bool false)) w10)
            ((0 ≤ IntKind.i64.wrap (j + 1) ∧ IntKind.i64.wrap (j + 1) ≤ n3 ∧ Ext w1 w10 ∧ rightC c = (graOk c.pub (c.gra.drop (IntKind.i64.wrap (j + 1)).toNat) g && (decide (words c.sco = c.sco) && decide ((joined (words c.sco)).length ≤ 128)))) ∧ (n3 - IntKind.i64.wrap (j + 1)).toNat < (n3 - j).toNat))
            ((0 ≤ IntKind.i64.wrap (j + 1) ∧ IntKind.i64.wrap (j + 1) ≤ n3 ∧ Ext w1 w10 ∧ rightC c = (graOk c.pub (c.gra.drop (IntKind.i64.wrap (j + 1)).toNat) g && (decide (words c.sco = c.sco) && decide ((joined (words c.sco)).length ≤ 128)))) ∧ (n3 - IntKind.i64.wrap (j + 1)).toNat < (n3 - j).toNat) := fun his => by
          rw [wrap_i64 (by omega) (by omega)]
          rw [his] at hC
          have fin : (c.pub && decide (g = gCred)) = false → (0 ≤ j + 1 ∧ j + 1 ≤ n3 ∧ Ext w1 w10 ∧ rightC c = (graOk c.pub (c.gra.drop (j + 1).toNat) g && (decide (words c.sco = c.sco) && decide ((joined (words c.sco)).length ≤ 128)))) ∧ (n3 - (j + 1)).toNat < (n3 - j).toNat := fun hf => by
            refine ⟨⟨by omega, by omega, e10, ?_⟩, by omega⟩
            rw [hC, hf, show (j + 1).toNat = j.toNat + 1 by omega]; rfl
          refine ⟨c.pub, (B.ext e10).cell rfl, cwb (fun gp => cwd (fun g2 => retE E10 ?_) fun g2 => ?_) fun gp => ?_⟩
          · rw [hC, gp, decide_eq_true g2]; rfl
          · exact fin (by rw [gp, decide_eq_false g2]; rfl)
          · exact fin (by rw [gp]; rfl)
        refine cwd (fun n1 => cwd (fun n2 => cwd (fun n3' => retE E10 ?_) fun n3' => ?_) fun n2 => ?_) fun n1' => ?_
        · have : isGrant g = false := by
            show (decide (g = gCode) || (decide (g = gCred) || decide (g = gRefr))) = false
            rw [decide_eq_false (show ¬ g = gCode from n1), decide_eq_false (show ¬ g = gCred from n2), decide_eq_false (show ¬ g = gRefr from n3')]; rfl
          rw [hC, this]; rfl
        · exact tail (by rw [isGrant, decide_eq_true (show g = gRefr from Classical.byContradiction n3')]; simp)
        · exact tail (by rw [isGrant, decide_eq_true (show g = gCred from Classical.byContradiction n2)]; simp)
        · exact tail (by rw [isGrant, decide_eq_true (show g = gCode from Classical.byContradiction n1')]; simp)
      · rw [List.drop_eq_nil_of_le (by omega), graOk, Bool.true_and] at hC
        refine ⟨fun W => Ext w1 W, e10.drew, p2, n2, c2, fun W hW => (B.ext hW).cell rfl, p2, n2, c2, fun W hW => (B.ext hW).cell rfl, ?_⟩
        refine (set_ok p2 n2 c2 b2' c.sco _ (H2.ext e10.drew) hb.scs).mono fun e w13 he => ?_
        obtain ⟨q, d, rfl, hq, e13, _⟩ := he
        have e13' := e10.drew.trans e13
        refine ⟨q, _, d, rfl, e13', (equalS_ok q p2 _ n2 d c2 (by have := words_len c.sco; omega) (words c.sco) c.sco w13 hq (H2.ext e13')).mono fun e w14 he => ?_⟩
        obtain ⟨rfl, e14⟩ := he
        have e14' := e13'.trans e14
        refine ⟨_, rfl, e14', cwd (fun g1 => ?_) fun g1 => retE (E1.trans e14') ?_⟩
        · refine ⟨p2, n2, c2, fun W hW => (B.ext hW).cell rfl, (print_ok p2 n2 c2 b2' c.sco w14 (H2.ext e14') hb.scs).mono fun e w16 he => ?_⟩
          obtain ⟨rfl, e16⟩ := he
          refine ⟨_, rfl, e14'.trans e16, retE (E1.trans (e14'.trans e16)) ?_⟩
          rw [hC, decide_eq_true g1, Bool.true_and, mk_size]
          exact decide_eq_decide.2 (by omega)
        · rw [hC, decide_eq_false g1]; rfl

end Go.Proofs.YtbbcofdibkgalaaGreatDoor
