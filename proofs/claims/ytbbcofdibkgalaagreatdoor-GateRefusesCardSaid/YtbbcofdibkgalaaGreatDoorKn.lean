/- Contracts: the law's examples; the reasons of every path. -/
import Derived.Test.YtbbcofdibkgalaaGreatDoorGp
set_option linter.unusedVariables false
set_option linter.unusedSimpArgs false
namespace Go.Proofs.YtbbcofdibkgalaaGreatDoor
open Go.Eng
open Go.RowKit (Below)

theorem parse_one {l : List UInt8} {x : Pr} (h38 : cutB 38 l = (l, [], false)) (hne : l ≠ []) (hlen : l.length ≤ 16384) (hp : pairOf l = some x) : parse l = ([x], 0) := by
  rw [parse, if_neg (by omega), pieces_e, h38]
  simp only [Bool.false_eq_true, if_false]
  rw [parseGo_cons, if_neg hne, if_neg (by simp), hp]
  exact parseGo_nil _
theorem parse_nil : parse [] = ([], 0) := by
  rw [parse, if_neg (by simp), pieces_e]
  show parseGo [] [[]] = _
  rw [parseGo_cons, if_pos rfl, parseGo_nil]
def theCl : Cl := ⟨mk [97], mk [115], false, [], [], [gCred]⟩
theorem clb1 : ClB theCl := ⟨by simp [theCl], by simp [theCl], by simp [theCl], by simp [theCl], by simp [theCl, ByteArray.size, mk]⟩
theorem clb1' : ∀ x ∈ [theCl], ClB x := by
  intro x hx
  have : x = theCl := by simpa using hx
  subst this; exact clb1
theorem roll1 : rollOk [theCl] = true := by decide +kernel
def theHdr : ByteArray := mk (headerS [97] [115])
theorem shown1 : shownR (bs theHdr) = some (mk [97], mk [115]) := by
  have h1 : Lib.hasPrefix (headerS [97] [115]) basicSp = true := by decide +kernel
  have h2 : Lib.trimPrefix (headerS [97] [115]) basicSp = basic (quote [97] ++ [58] ++ quote [115]) := by
    rw [Lib.trimPrefix, h1]; rfl
  rw [theHdr, bs_mk, shownR, h1, if_pos rfl, h2, unbasicO_some rfl]
  decide +kernel
theorem auth1 {form : List Pr} (h1 : (getP nCid form).2 = 0) (h2 : (getP nSec form).2 = 0) : authR [theCl] theHdr form = (mk [97], 0) := by
  have hne : theHdr ≠ ⟨#[]⟩ := by decide +kernel
  rw [authR, if_neg (by omega), if_pos hne, shown1]
  have h3 : (findC (mk [97]) [theCl]).isSome = true ∧ (getC (mk [97]) [theCl]).pub = false ∧ (getC (mk [97]) [theCl]).sec = mk [115] := by decide +kernel
  simp only []
  rw [if_pos h3, if_neg (by omega)]
theorem auth0 {form : List Pr} (h1 : (getP nCid form).2 = 0) (h2 : (getP nSec form).2 = 0) : authR [theCl] ⟨#[]⟩ form = (⟨#[]⟩, 2) := by
  rw [authR, if_neg (by rw [h1, h2]; simp), if_neg (by simp), if_pos (.inl h1)]
def frmX : List Pr := [(nToken, mk [120])]
def frmP : List Pr := [(nGrant, mk [112, 97, 115, 115, 119, 111, 114, 100])]
def frmC : List Pr := [(nGrant, gCred)]
def bodX : ByteArray := ⟨#[116, 111, 107, 101, 110, 61, 120]⟩
def bodP : ByteArray := ⟨#[103, 114, 97, 110, 116, 95, 116, 121, 112, 101, 61, 112, 97, 115, 115, 119, 111, 114, 100]⟩
def bodC : ByteArray := ⟨#[103, 114, 97, 110, 116, 95, 116, 121, 112, 101, 61, 99, 108, 105, 101, 110, 116, 95, 99, 114, 101, 100, 101, 110, 116, 105, 97, 108, 115]⟩
theorem parX : parse (bs bodX) = (frmX, 0) := parse_one (by decide +kernel) (by decide +kernel) (by decide +kernel) (by decide +kernel)
theorem parP : parse (bs bodP) = (frmP, 0) := parse_one (by decide +kernel) (by decide +kernel) (by decide +kernel) (by decide +kernel)
theorem parC : parse (bs bodC) = (frmC, 0) := parse_one (by decide +kernel) (by decide +kernel) (by decide +kernel) (by decide +kernel)
theorem par0 : parse (bs ⟨#[]⟩) = ([], 0) := parse_nil
theorem peek1 : peekX [120] = none := by decide +kernel
theorem peek0 : peekX [] = none := by decide +kernel
theorem planR_ok {path : ByteArray} {body : List UInt8} {form : List Pr} {r : Cmd × Int} (hn : namesOf path ≠ []) (hp : parse body = (form, 0)) (ht : twice (namesOf path) form = false) :
    planR path (mk [102]) 0 body r = if r.2 ≠ 0 then (cmd0, r.2) else (r.1, 0) := by
  have h1 : tokRight 1 (mk [102]) 0 = true := by decide +kernel
  rw [planR, if_neg, if_neg]
  · rw [hp, ht]; simp
  · rw [hp, h1]
    rintro (h | h | h | h | h)
    · exact hn h
    · exact h rfl
    · cases h
    · omega
    · omega
theorem plan1 (b m : Nat) (w : World) (hg : GW w) (hR : RollB w b m [theCl]) : Calls prg 11 #[.pointer (some ⟨b, 0, none⟩), .slice none 0 0, .string (mk [102]), .int .i64 0, .agg #[.string pRevoke, .string theHdr, .string bodX, .string ⟨#[]⟩]] w (CmdR w (cmd0, 0)) := by
  have := plan_ok b m [theCl] none 0 0 [] (mk [102]) 0 pRevoke theHdr bodX ⟨#[]⟩ clb1' (by decide +kernel) (by decide +kernel) (by decide +kernel) (by decide +kernel) w hg hR (SlC.nil ..) (.inr (.inr (.inl rfl))) (cmd0, 0) ?_
  · rw [planR_ok (by decide +kernel) parX (by decide +kernel)] at this; exact this
  · intro x fp nf cf hd
    rw [show fnOf pRevoke = 26 by decide +kernel]
    rw [parX] at hd ⊢
    have hO : OpenOk [] (getP nToken frmX).1 := open_none [] _ (by decide +kernel) (by decide +kernel)
    have := revoke_ok x _ hd hO
    have e : revokeP ⟨pRevoke, theHdr, bodX, ⟨#[]⟩, b, m, [theCl], none, 0, 0, [], mk [102], 0, fp, nf, cf, frmX⟩ = (cmd0, 0) := by
      have ho : openX [] (bs (getP nToken frmX).1) = (none, 3) := by rw [openX, show peekX (bs (getP nToken frmX).1) = none by decide +kernel]
      simp only [revokeP, openedP, RD.get, ho, auth1 (form := frmX) (by decide +kernel) (by decide +kernel)]
      rfl
    rw [e] at this; exact this
theorem plan2 (b m : Nat) (w : World) (hg : GW w) (hR : RollB w b m [theCl]) : Calls prg 11 #[.pointer (some ⟨b, 0, none⟩), .slice none 0 0, .string (mk [102]), .int .i64 0, .agg #[.string pRevoke, .string theHdr, .string ⟨#[]⟩, .string ⟨#[]⟩]] w (CmdR w (cmd0, 1)) := by
  have := plan_ok b m [theCl] none 0 0 [] (mk [102]) 0 pRevoke theHdr ⟨#[]⟩ ⟨#[]⟩ clb1' (by decide +kernel) (by decide +kernel) (by decide +kernel) (by decide +kernel) w hg hR (SlC.nil ..) (.inr (.inr (.inl rfl))) (cmd0, 1) ?_
  · rw [planR_ok (by decide +kernel) par0 (by decide +kernel)] at this; exact this
  · intro x fp nf cf hd
    rw [show fnOf pRevoke = 26 by decide +kernel]
    rw [par0] at hd ⊢
    have hO : OpenOk [] (getP nToken []).1 := open_none [] _ (by decide +kernel) (by decide +kernel)
    have := revoke_ok x _ hd hO
    have e : revokeP ⟨pRevoke, theHdr, ⟨#[]⟩, ⟨#[]⟩, b, m, [theCl], none, 0, 0, [], mk [102], 0, fp, nf, cf, []⟩ = (cmd0, 1) := by
      have ho : openX [] (bs (getP nToken []).1) = (none, 3) := by rw [openX, show peekX (bs (getP nToken []).1) = none by decide +kernel]
      simp only [revokeP, openedP, RD.get, ho, auth1 (form := []) (by decide +kernel) (by decide +kernel)]
      rfl
    rw [e] at this; exact this
theorem plan3 (b m : Nat) (w : World) (hg : GW w) (hR : RollB w b m [theCl]) : Calls prg 11 #[.pointer (some ⟨b, 0, none⟩), .slice none 0 0, .string (mk [102]), .int .i64 0, .agg #[.string pRevoke, .string ⟨#[]⟩, .string bodX, .string ⟨#[]⟩]] w (CmdR w (cmd0, 2)) := by
  have := plan_ok b m [theCl] none 0 0 [] (mk [102]) 0 pRevoke ⟨#[]⟩ bodX ⟨#[]⟩ clb1' (by decide +kernel) (by decide +kernel) (by decide +kernel) (by decide +kernel) w hg hR (SlC.nil ..) (.inr (.inr (.inl rfl))) (cmd0, 2) ?_
  · rw [planR_ok (by decide +kernel) parX (by decide +kernel)] at this; exact this
  · intro x fp nf cf hd
    rw [show fnOf pRevoke = 26 by decide +kernel]
    rw [parX] at hd ⊢
    have hO : OpenOk [] (getP nToken frmX).1 := open_none [] _ (by decide +kernel) (by decide +kernel)
    have := revoke_ok x _ hd hO
    have e : revokeP ⟨pRevoke, ⟨#[]⟩, bodX, ⟨#[]⟩, b, m, [theCl], none, 0, 0, [], mk [102], 0, fp, nf, cf, frmX⟩ = (cmd0, 2) := by
      have ho : openX [] (bs (getP nToken frmX).1) = (none, 3) := by rw [openX, show peekX (bs (getP nToken frmX).1) = none by decide +kernel]
      simp only [revokeP, openedP, RD.get, ho, auth0 (form := frmX) (by decide +kernel) (by decide +kernel)]
      rfl
    rw [e] at this; exact this
theorem plan4 (b m : Nat) (w : World) (hg : GW w) (hR : RollB w b m [theCl]) : Calls prg 11 #[.pointer (some ⟨b, 0, none⟩), .slice none 0 0, .string (mk [102]), .int .i64 0, .agg #[.string pToken, .string theHdr, .string bodP, .string ⟨#[]⟩]] w (CmdR w (cmd0, 5)) := by
  have := plan_ok b m [theCl] none 0 0 [] (mk [102]) 0 pToken theHdr bodP ⟨#[]⟩ clb1' (by decide +kernel) (by decide +kernel) (by decide +kernel) (by decide +kernel) w hg hR (SlC.nil ..) (.inr (.inl rfl)) (cmd0, 5) ?_
  · rw [planR_ok (by decide +kernel) parP (by decide +kernel)] at this; exact this
  · intro x fp nf cf hd
    rw [show fnOf pToken = 25 by decide +kernel]
    rw [parP] at hd ⊢
    have := token_cred x _ hd (by show (getP nGrant frmP).1 ≠ gCode; decide +kernel) (by show (getP nGrant frmP).1 ≠ gRefr; decide +kernel)
    have hW : tokenW ⟨pToken, theHdr, bodP, ⟨#[]⟩, b, m, [theCl], none, 0, 0, [], mk [102], 0, fp, nf, cf, frmP⟩ = 5 := by
      simp only [tokenW, RD.get, auth1 (form := frmP) (by decide +kernel) (by decide +kernel)]
      kernel_rfl
    have e : tokenP ⟨pToken, theHdr, bodP, ⟨#[]⟩, b, m, [theCl], none, 0, 0, [], mk [102], 0, fp, nf, cf, frmP⟩ = (cmd0, 5) := by
      rw [tokenP, hW, if_pos (by decide)]
    rw [e] at this; exact this
def cmd4 : Cmd := ⟨4, mk [102], 0, 0, mk [97], ⟨#[]⟩, [], ⟨#[]⟩, ⟨#[]⟩, ⟨#[]⟩, ⟨#[]⟩, false, 0⟩
theorem plan5 (b m : Nat) (w : World) (hg : GW w) (hR : RollB w b m [theCl]) : Calls prg 11 #[.pointer (some ⟨b, 0, none⟩), .slice none 0 0, .string (mk [102]), .int .i64 0, .agg #[.string pToken, .string theHdr, .string bodC, .string ⟨#[]⟩]] w (CmdR w (cmd4, 0)) := by
  have := plan_ok b m [theCl] none 0 0 [] (mk [102]) 0 pToken theHdr bodC ⟨#[]⟩ clb1' (by decide +kernel) (by decide +kernel) (by decide +kernel) (by decide +kernel) w hg hR (SlC.nil ..) (.inr (.inl rfl)) (cmd4, 0) ?_
  · rw [planR_ok (by decide +kernel) parC (by decide +kernel)] at this; exact this
  · intro x fp nf cf hd
    rw [show fnOf pToken = 25 by decide +kernel]
    rw [parC] at hd ⊢
    have hn1 : (getP nGrant frmC).1 ≠ gCode := by decide +kernel
    have hn2 : (getP nGrant frmC).1 ≠ gRefr := by decide +kernel
    have := token_cred x _ hd hn1 hn2
    have hW : tokenW ⟨pToken, theHdr, bodC, ⟨#[]⟩, b, m, [theCl], none, 0, 0, [], mk [102], 0, fp, nf, cf, frmC⟩ = 0 := by
      simp only [tokenW, RD.get, auth1 (form := frmC) (by decide +kernel) (by decide +kernel)]
      kernel_rfl
    have hG : givenP [theCl] (mk [97]) (bs (getP nScope frmC).1) = ([], 0) := by decide +kernel
    have e : tokenP ⟨pToken, theHdr, bodC, ⟨#[]⟩, b, m, [theCl], none, 0, 0, [], mk [102], 0, fp, nf, cf, frmC⟩ = (cmd4, 0) := by
      rw [tokenP, hW, if_neg (by decide)]
      simp only [RD.get, auth1 (form := frmC) (by decide +kernel) (by decide +kernel)]
      rw [if_neg hn1, if_neg hn2, hG]; rfl
    rw [e] at this; exact this

theorem known_ok (w : World) (hg : GW w) : Calls prg 8 #[] w (Ret w (.bool true)) := by
  refine f8_wp w _ ?_
  intro b0 w1 hb0 hw1 b1 w2 hb1 hw2
  have E1 : Ext w w1 := by rw [hw1]; exact (Ext.refl w).alloc _
  have E2 : Ext w1 w2 := by rw [hw2]; exact (Ext.refl w1).alloc _
  have A1 : Blk w1 b0 [.string gCred] := by rw [hb0, hw1]; exact Blk.new w _ _
  have B2 : Blk w2 b1 [.string (mk [97]), .string (mk [115]), .bool false, .slice none 0 0, .slice none 0 0, .slice (some ⟨b0, 0, none⟩) 1 1] := by rw [hb1, hw2]; exact Blk.new w1 _ _
  have A2 := A1.ext E2
  have X2 := E1.trans E2
  have hS : SlCl w2 (some ⟨b1, 0, none⟩) 1 [theCl] := by
    refine ⟨rfl, fun j c hj => nilW_mk ?_⟩
    have hj0 : j = 0 := by
      rcases Nat.eq_zero_or_pos j with h | h
      · exact h
      · rw [List.getElem?_eq_none (by simp; omega)] at hj; cases hj
    subst hj0
    have : c = theCl := by simpa using hj.symm
    subst this
    refine ⟨_, ⟨none, 0, 0, none, 0, 0, some ⟨b0, 0, none⟩, 1, 1, rfl, SlC.nil .., SlC.nil .., ?_⟩, B2.all⟩
    exact blk_strs (l := [gCred]) A2
  refine (new_ok _ 1 1 [theCl] clb1' w2 hS (by omega)).mono fun e w3 he => ?_
  obtain ⟨e3, hN⟩ := he
  rcases hN with ⟨h, _⟩ | ⟨-, b, m, rfl, R3⟩
  · rw [roll1] at h; cases h
  have X3 := X2.trans e3
  refine ⟨_, _, rfl, (header_ok (mk [97]) (mk [115]) (by decide +kernel) (by decide +kernel) w3).mono fun e w4 he => ?_⟩
  obtain ⟨rfl, e4⟩ := he
  have X4 := X3.trans e4
  refine ⟨_, rfl, (plan1 b m w4 (hg.ext X4) (R3.ext e4)).mono fun e w5 he => ?_⟩
  obtain ⟨q5, n5, k5, rfl, _, e5, _⟩ := he
  refine ⟨_, _, _, _, _, _, _, _, _, _, _, _, _, _, _, _, rfl, ?_⟩
  intro b2 w6 hb2 hw6
  have E6 : Ext w5 w6 := by rw [hw6]; exact (Ext.refl w5).alloc _
  have C6 : Blk w6 b2 zCmd := by rw [hb2, hw6]; exact Blk.new w5 _ _
  refine cmd_sto C6 cmd0 q5 n5 k5 fun w7 C7 hE7 _ => ?_
  have E7 : Ext w5 w7 := hE7 w5 E6 (by omega)
  have Y7 : Ext w4 w7 := e5.trans E7
  have X7 := X4.trans Y7
  refine (plan2 b m w7 (hg.ext X7) ((R3.ext e4).ext Y7)).mono fun e w8 he => ?_
  obtain ⟨q8, n8, k8, rfl, _, e8, _⟩ := he
  refine ⟨_, _, _, _, _, _, _, _, _, _, _, _, _, _, _, _, rfl, ?_⟩
  intro b3 w9 hb3 hw9
  have E9 : Ext w8 w9 := by rw [hw9]; exact (Ext.refl w8).alloc _
  have D9 : Blk w9 b3 zCmd := by rw [hb3, hw9]; exact Blk.new w8 _ _
  refine cmd_sto D9 cmd0 q8 n8 k8 fun w10 _ hE10 _ => ?_
  have Y10 : Ext w7 w10 := e8.trans (hE10 w8 E9 (by omega))
  have X10 := X7.trans Y10
  refine (plan3 b m w10 (hg.ext X10) (((R3.ext e4).ext Y7).ext Y10)).mono fun e w11 he => ?_
  obtain ⟨q11, n11, k11, rfl, _, e11, _⟩ := he
  refine ⟨_, _, _, _, _, _, _, _, _, _, _, _, _, _, _, _, rfl, ?_⟩
  intro b4 w12 hb4 hw12
  have E12 : Ext w11 w12 := by rw [hw12]; exact (Ext.refl w11).alloc _
  have D12 : Blk w12 b4 zCmd := by rw [hb4, hw12]; exact Blk.new w11 _ _
  refine cmd_sto D12 cmd0 q11 n11 k11 fun w13 _ hE13 _ => ?_
  have Y13 : Ext w10 w13 := e11.trans (hE13 w11 E12 (by omega))
  have X13 := X10.trans Y13
  refine (plan4 b m w13 (hg.ext X13) ((((R3.ext e4).ext Y7).ext Y10).ext Y13)).mono fun e w14 he => ?_
  obtain ⟨q14, n14, k14, rfl, _, e14, _⟩ := he
  refine ⟨_, _, _, _, _, _, _, _, _, _, _, _, _, _, _, _, rfl, ?_⟩
  intro b5 w15 hb5 hw15
  have E15 : Ext w14 w15 := by rw [hw15]; exact (Ext.refl w14).alloc _
  have D15 : Blk w15 b5 zCmd := by rw [hb5, hw15]; exact Blk.new w14 _ _
  refine cmd_sto D15 cmd0 q14 n14 k14 fun w16 _ hE16 _ => ?_
  have Y16 : Ext w13 w16 := e14.trans (hE16 w14 E15 (by omega))
  have X16 := X13.trans Y16
  refine (plan5 b m w16 (hg.ext X16) (((((R3.ext e4).ext Y7).ext Y10).ext Y13).ext Y16)).mono fun e w17 he => ?_
  obtain ⟨q17, n17, k17, rfl, _, e17, _⟩ := he
  refine ⟨_, _, _, _, _, _, _, _, _, _, _, _, _, _, _, _, rfl, ?_⟩
  intro b6 w18 hb6 hw18
  have E18 : Ext w17 w18 := by rw [hw18]; exact (Ext.refl w17).alloc _
  have D18 : Blk w18 b6 zCmd := by rw [hb6, hw18]; exact Blk.new w17 _ _
  refine cmd_sto D18 cmd4 q17 n17 k17 fun w19 D19 hE19 _ => ?_
  have E19 : Ext w17 w19 := hE19 w17 E18 (by omega)
  have C19 := ((((C7.ext Y10).ext Y13).ext Y16).ext e17).ext E19
  have X19 := (X16.trans e17).trans E19
  refine ⟨_, C19.cell rfl, cyes rfl (cyes rfl (cyes rfl (cyes rfl (cyes rfl ⟨_, D19.cell rfl, cyes rfl ⟨_, D19.cell rfl, cyes rfl ⟨rfl, X19⟩⟩⟩))))⟩

/-- the reasons of a path -/
def whys (p : ByteArray) : List Int := if p = pAuth then [1, 2, 4, 6, 7, 8] else if p = pToken then [1, 2, 3, 4, 5, 6, 7] else if p = pRevoke then [1, 2, 7] else if p = pLook then [1, 2, 7] else [1]
theorem refuses_ok (path : ByteArray) (w : World) : Calls prg 18 #[.string path] w fun e w' => ∃ p c, e = .returned (.slice p (whys path).length c) ∧ SlC w' p (whys path).length ((whys path).map (.int .i64)) ∧ Ext w w' := by
  have go : ∀ (l : List Int) (n : Nat) (t : TypeId), n = l.length → whys path = l → ∀ (b : Nat) (w1 : World), b = w.heap.size → w1 = w.alloc (.cells (l.map (Value.int .i64)).toArray t) →
      ∃ p c, Ending.returned (.slice (some ⟨b, 0, none⟩) n n) = .returned (.slice p (whys path).length c) ∧ SlC w1 p (whys path).length ((whys path).map (.int .i64)) ∧ Ext w w1 := by
    rintro l n t rfl h b w1 rfl rfl
    rw [h]
    exact ⟨_, _, rfl, blk_ints (Blk.new w _ _), (Ext.refl w).alloc _⟩
  refine f18_wp path w _ (cwd (fun g => go [1, 2, 4, 6, 7, 8] 6 _ rfl ?_) fun g1 => cwd (fun g => go [1, 2, 3, 4, 5, 6, 7] 7 _ rfl ?_) fun g2 => cwd (fun g => cwd (fun g' => go [1, 2, 7] 3 _ rfl ?_) fun g' => absurd g g') fun g3 => cwd (fun g => go [1, 2, 7] 3 _ rfl ?_) fun g4 => go [1] 1 _ rfl ?_)
  · rw [whys, if_pos (show path = pAuth from g)]
  · rw [whys, if_neg (show ¬ path = pAuth from g1), if_pos (show path = pToken from g)]
  · rw [whys, if_neg (show ¬ path = pAuth from g1), if_neg (show ¬ path = pToken from g2), if_pos (show path = pRevoke from g)]
  · rw [whys, if_neg (show ¬ path = pAuth from g1), if_neg (show ¬ path = pToken from g2), if_neg (show ¬ path = pRevoke from g3), if_pos (show path = pLook from g)]
  · rw [whys, if_neg (show ¬ path = pAuth from g1), if_neg (show ¬ path = pToken from g2), if_neg (show ¬ path = pRevoke from g3), if_neg (show ¬ path = pLook from g4)]
theorem refusesR_ok (path : ByteArray) (w : World) : Calls prg 19 #[.string path] w fun e w' => ∃ p c, e = .returned (.slice p (whys path).length c) ∧ SlC w' p (whys path).length ((whys path).map (.int .i64)) ∧ Ext w w' := by
  have go : ∀ (l : List Int) (n : Nat) (t : TypeId), n = l.length → whys path = l → ∀ (b : Nat) (w1 : World), b = w.heap.size → w1 = w.alloc (.cells (l.map (Value.int .i64)).toArray t) →
      ∃ p c, Ending.returned (.slice (some ⟨b, 0, none⟩) n n) = .returned (.slice p (whys path).length c) ∧ SlC w1 p (whys path).length ((whys path).map (.int .i64)) ∧ Ext w w1 := by
    rintro l n t rfl h b w1 rfl rfl
    rw [h]
    exact ⟨_, _, rfl, blk_ints (Blk.new w _ _), (Ext.refl w).alloc _⟩
  refine f19_wp path w _ (cwd (fun g => go [1, 2, 4, 6, 7, 8] 6 _ rfl ?_) fun g1 => cwd (fun g => go [1, 2, 3, 4, 5, 6, 7] 7 _ rfl ?_) fun g2 => cwd (fun g => go [1, 2, 7] 3 _ rfl ?_) fun g3 => cwd (fun g => go [1, 2, 7] 3 _ rfl ?_) fun g4 => go [1] 1 _ rfl ?_)
  · rw [whys, if_pos (show path = pAuth from g)]
  · rw [whys, if_neg (show ¬ path = pAuth from g1), if_pos (show path = pToken from g)]
  · rw [whys, if_neg (show ¬ path = pAuth from g1), if_neg (show ¬ path = pToken from g2), if_pos (show path = pRevoke from g)]
  · rw [whys, if_neg (show ¬ path = pAuth from g1), if_neg (show ¬ path = pToken from g2), if_neg (show ¬ path = pRevoke from g3), if_pos (show path = pLook from g)]
  · rw [whys, if_neg (show ¬ path = pAuth from g1), if_neg (show ¬ path = pToken from g2), if_neg (show ¬ path = pRevoke from g3), if_neg (show ¬ path = pLook from g4)]
theorem whys_len (p : ByteArray) : (whys p).length ≤ 7 := by
  rw [whys]; repeat' split
  all_goals simp
/-- the law -/
theorem gateRefuses_ok (path : ByteArray) (w : World) (hg : GW w) : Calls prg 6 #[.string path] w (Ret w (.bool true)) := by
  have hl := whys_len path
  refine f6_wp path w _ ((refuses_ok path w).mono fun e w1 he => ?_)
  obtain ⟨p, c, rfl, hp, e1⟩ := he
  refine ⟨_, _, _, rfl, (refusesR_ok path w1).mono fun e w2 he => ?_⟩
  obtain ⟨q, d, rfl, hq, e2⟩ := he
  have X2 := e1.trans e2
  have hp2 := hp.ext e2
  refine ⟨_, _, _, rfl, fun W => Ext w2 W, (known_ok w2 (hg.ext X2)).mono fun e w3 he => ?_, ?_⟩
  · obtain ⟨rfl, e3⟩ := he
    exact ⟨_, rfl, cwb (fun h => by cases h) fun _ => cno (by simp) e3⟩
  rintro fr w4 e4
  refine ⟨fun i W => 0 ≤ i ∧ i ≤ (whys path).length ∧ Ext w2 W, fun i _ => ((whys path).length - i).toNat, ⟨by omega, by omega, e4⟩, ?_⟩
  rintro i fr1 w5 ⟨i0, i1, e5⟩
  refine cwd (fun hi => ?_) fun hi => ⟨rfl, X2.trans e5⟩
  obtain ⟨x, b, o, hx, rfl, hc⟩ := (hp2.ext e5).atF i0 hi
  obtain ⟨y, b', o', hy, rfl, hc'⟩ := (hq.ext e5).atF i0 hi
  have hxy : x = y := by rw [hx] at hy; exact Option.some.inj hy
  refine ⟨fun W => Ext w5 W, (Ext.refl w5).drew, i0, hi, nilW_mk ⟨x, fun W hW => by rw [Nat.mul_one]; exact Ext.cell hW hc, i0, hi, nilW_mk ⟨y, fun W hW => by rw [Nat.mul_one]; exact Ext.cell hW hc', cno (fun h => h hxy) ?_⟩⟩⟩
  rw [wrap_i64 (by omega) (by omega)]
  exact ⟨⟨by omega, by omega, e5.drew⟩, by dsimp only; omega⟩

end Go.Proofs.YtbbcofdibkgalaaGreatDoor
