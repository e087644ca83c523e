/- Contracts: gate's revoke, look, token. -/
import Derived.Test.YtbbcofdibkgalaaGreatDoorGo
set_option linter.unusedVariables false
set_option linter.unusedSimpArgs false
namespace Go.Proofs.YtbbcofdibkgalaaGreatDoor
open Go.Eng
open Go.RowKit (Below)

theorem open_none (sec : List UInt8) (s : ByteArray) (hs : s.size ≤ 1000000000) (hp : peekX (bs s) = none) : OpenOk sec s := by
  intro p n c w hg hsl
  have ho : openX sec (bs s) = (none, 3) := by rw [openX, hp]
  rw [ho]
  refine f16_wp p n c s w _ ?_
  intro b w1 hb hw1
  have E1 : Ext w w1 := by rw [hw1]; exact (Ext.refl w).alloc _
  have B1 : Blk w1 b zTok := by rw [hb, hw1]; exact Blk.new w _ _
  refine (peek_ok s hs w1 (hg.ext E1)).mono fun e w2 he => ?_
  obtain ⟨rfl, e2⟩ := he
  rw [hp]
  refine ⟨_, _, _, _, rfl, ?_⟩
  intro b1 w3 hb1 hw3
  have E3 : Ext w2 w3 := by rw [hw3]; exact (Ext.refl w2).alloc _
  have B3 : Blk w3 b1 zTok := by rw [hb1, hw3]; exact Blk.new w2 _ _
  refine ⟨B3.sto (by simp) (by simp [Value.oneCell']), ?_⟩
  intro w4 hw4
  have E4 : Ext w2 w4 := by rw [hw4]; exact E3.setCells (by omega) _
  have B4 := (B1.ext e2).ext E4
  refine cwd (fun _ => ?_) fun h => absurd (by decide) h
  refine ⟨B4.sto (by simp) (by simp [Value.oneCell']), ?_⟩
  intro w5 hw5
  have B5 := B4.set 0 zTok
  simp only [zTok, setL, List.set] at B5
  rw [← hw5] at B5
  exact ⟨_, _, _, B5.all, rfl, by rw [hw5]; exact ((E1.trans e2).trans E4).setCells (by omega) _⟩

/-- a command is laid down -/
theorem cmd_sto {w : World} {b : Nat} (hB : Blk w b zCmd) (c : Cmd) (q : Option Addr) (n k : Nat) {K : World → Prop} (h : ∀ w2, Blk w2 b (cmdL c q n k) → (∀ a, Ext a w → a.heap.size ≤ b → Ext a w2) → w.grownBy w2 (some b) → K w2) :
    Sto w b 0 (cmdL c q n k) ∧ ∀ w2, w2 = w.setCells b 0 (cmdL c q n k) → K w2 := by
  refine ⟨hB.sto (by simp) (by simp [Value.oneCell']), ?_⟩
  intro w2 hw2
  have B2 := hB.set 0 (cmdL c q n k)
  simp only [zCmd, cmdL, setL, List.set] at B2
  rw [hw2]
  exact h _ B2 (fun a ha hb => ha.setCells hb _) (grownBy_setCells _ _ _ _)

noncomputable def revokeP (d : RD) : Cmd × Int :=
  if (openedP d).2.1.2 = 0 then (⟨5, (tokOf (openedP d).2.1.1).2.1, (tokOf (openedP d).2.1.1).2.2, (tokOf (openedP d).2.1.1).1, (openedP d).1, ⟨#[]⟩, [], ⟨#[]⟩, ⟨#[]⟩, ⟨#[]⟩, ⟨#[]⟩, false, 0⟩, (openedP d).2.2) else (cmd0, (openedP d).2.2)
/-- what plans, by its function -/
def PlanFn (f : Nat) (x : Nat) (d : RD) (r : Cmd × Int) : Prop := ∀ w, RdAt w x d → Calls prg f #[.pointer (some ⟨x, 0, none⟩)] w (CmdR w r)
theorem revoke_ok (x : Nat) (d : RD) (hd : RdOk d) (hO : OpenOk d.sec (d.get nToken)) : PlanFn 26 x d (revokeP d) := by
  intro w h
  refine f26_wp (some ⟨x, 0, none⟩) w _ ?_
  intro b w1 hb hw1
  have E1 : Ext w w1 := by rw [hw1]; exact (Ext.refl w).alloc _
  have B1 : Blk w1 b zCmd := by rw [hb, hw1]; exact Blk.new w _ _
  refine (opened_ok x d hd hO w1 (h.ext E1)).mono fun e w2 he => ?_
  obtain ⟨rfl, e2⟩ := he
  rw [tokV_of]
  refine ⟨_, _, _, _, _, _, rfl, ?_⟩
  intro b1 w3 hb1 hw3
  have E3 : Ext w2 w3 := by rw [hw3]; exact (Ext.refl w2).alloc _
  have B3 : Blk w3 b1 zTok := by rw [hb1, hw3]; exact Blk.new w2 _ _
  refine ⟨B3.sto (by simp) (by simp [Value.oneCell']), ?_⟩
  intro w4 hw4
  have B4 := B3.set 0 [.int .i64 (tokOf (openedP d).2.1.1).1, .string (tokOf (openedP d).2.1.1).2.1, .int .i64 (tokOf (openedP d).2.1.1).2.2]
  simp only [zTok, setL, List.set] at B4
  rw [← hw4] at B4
  have E4 : Ext w2 w4 := by rw [hw4]; exact E3.setCells (by omega) _
  have C4 := (B1.ext e2).ext E4
  have X4 := (E1.trans e2).trans E4
  refine cwb (fun g => ?_) fun g => ?_
  · have g' : ¬ (openedP d).2.1.2 = 0 := by simpa using g
    have hr : revokeP d = (cmd0, (openedP d).2.2) := by rw [revokeP, if_neg g']
    refine cmd_sto C4 cmd0 none 0 0 fun w5 B5 hE _ => ⟨_, _, _, _, _, _, _, _, _, _, _, _, _, _, _, B5.all, ?_⟩
    rw [hr]; exact ⟨none, 0, 0, rfl, SlC.nil .., hE w X4 (by omega), Far.none w⟩
  · have g' : (openedP d).2.1.2 = 0 := by simpa using g
    have hr : revokeP d = (⟨5, (tokOf (openedP d).2.1.1).2.1, (tokOf (openedP d).2.1.1).2.2, (tokOf (openedP d).2.1.1).1, (openedP d).1, ⟨#[]⟩, [], ⟨#[]⟩, ⟨#[]⟩, ⟨#[]⟩, ⟨#[]⟩, false, 0⟩, (openedP d).2.2) := by rw [revokeP, if_pos g']
    refine ⟨_, B4.cell rfl, _, B4.cell rfl, _, B4.cell rfl, cmd_sto C4 ⟨5, (tokOf (openedP d).2.1.1).2.1, (tokOf (openedP d).2.1.1).2.2, (tokOf (openedP d).2.1.1).1, (openedP d).1, ⟨#[]⟩, [], ⟨#[]⟩, ⟨#[]⟩, ⟨#[]⟩, ⟨#[]⟩, false, 0⟩ none 0 0 fun w5 B5 hE _ => ⟨_, _, _, _, _, _, _, _, _, _, _, _, _, _, _, B5.all, ?_⟩⟩
    rw [hr]; exact ⟨none, 0, 0, rfl, SlC.nil .., hE w X4 (by omega), Far.none w⟩

/-! ### token -/
def nGrant : ByteArray := ⟨#[103, 114, 97, 110, 116, 95, 116, 121, 112, 101]⟩
def nCode : ByteArray := ⟨#[99, 111, 100, 101]⟩
def nRedir : ByteArray := ⟨#[114, 101, 100, 105, 114, 101, 99, 116, 95, 117, 114, 105]⟩
def nVerif : ByteArray := ⟨#[99, 111, 100, 101, 95, 118, 101, 114, 105, 102, 105, 101, 114]⟩
def nRefr : ByteArray := ⟨#[114, 101, 102, 114, 101, 115, 104, 95, 116, 111, 107, 101, 110]⟩
noncomputable def tokenW (d : RD) : Int :=
  firstOf [(authR d.l d.header d.form).2, iff0 (decide (d.get nGrant ≠ ⟨#[]⟩)) 1, iff0 (isGrant (d.get nGrant)) 5, iff0 (memS (d.get nGrant) (getC (authR d.l d.header d.form).1 d.l).gra) 4]
noncomputable def tokenP (d : RD) : Cmd × Int :=
  if tokenW d ≠ 0 then (cmd0, tokenW d)
  else if d.get nGrant = gCode then
    (⟨2, (tokOf (openX d.sec (bs (d.get nCode))).1).2.1, 0, 0, (authR d.l d.header d.form).1, ⟨#[]⟩, [], d.get nRedir, ⟨#[]⟩, ⟨#[]⟩, d.get nVerif, memS gRefr (getC (authR d.l d.header d.form).1 d.l).gra, 0⟩,
      firstOf [iff0 (decide (d.get nCode ≠ ⟨#[]⟩)) 1, iff0 (decide ((openX d.sec (bs (d.get nCode))).2 = 0 ∧ (tokOf (openX d.sec (bs (d.get nCode))).1).1 = 1 ∧ (tokOf (openX d.sec (bs (d.get nCode))).1).2.2 = 0 ∧ (d.get nRedir).size ≤ 128 ∧ (d.get nVerif).size ≤ 128)) 3])
  else if d.get nGrant = gRefr then
    (⟨3, (tokOf (openX d.sec (bs (d.get nRefr))).1).2.1, (tokOf (openX d.sec (bs (d.get nRefr))).1).2.2, 0, (authR d.l d.header d.form).1, ⟨#[]⟩, (scopeP (bs (d.get nScope))).1, ⟨#[]⟩, ⟨#[]⟩, ⟨#[]⟩, ⟨#[]⟩, false, 0⟩,
      firstOf [iff0 (decide (d.get nRefr ≠ ⟨#[]⟩)) 1, iff0 (decide ((openX d.sec (bs (d.get nRefr))).2 = 0 ∧ (tokOf (openX d.sec (bs (d.get nRefr))).1).1 = 3)) 3, iff0 (decide ((scopeP (bs (d.get nScope))).2 = 0)) 6, iff0 (decide ((joined (words (scopeP (bs (d.get nScope))).1)).length ≤ 128)) 6])
  else (⟨4, d.family, 0, 0, (authR d.l d.header d.form).1, ⟨#[]⟩, (givenP d.l (authR d.l d.header d.form).1 (bs (d.get nScope))).1, ⟨#[]⟩, ⟨#[]⟩, ⟨#[]⟩, ⟨#[]⟩, false, 0⟩, (givenP d.l (authR d.l d.header d.form).1 (bs (d.get nScope))).2)
theorem first4_ok (a b c e : Int) (t : TypeId) (w : World) {R : Ending → World → Prop} (h : ∀ w1, Ext w w1 → R (.returned (.int .i64 (firstOf [a, b, c, e]))) w1) :
    ∀ (k : Nat) (w1 : World), k = w.heap.size → w1 = w.alloc (.cells #[.int .i64 a, .int .i64 b, .int .i64 c, .int .i64 e] t) → Calls prg 65 #[.slice (some ⟨k, 0, none⟩) 4 4] w1 R := by
  intro k w1 hk hw1
  have B : Blk w1 k ([a, b, c, e].map (.int .i64)) := by rw [hk, hw1]; exact Blk.new w _ _
  refine (first_ok _ 4 4 (by omega) [a, b, c, e] w1 (blk_ints B)).mono fun e w2 he => ?_
  obtain ⟨rfl, rfl⟩ := he
  exact h _ (by rw [hw1]; exact (Ext.refl w).alloc _)
theorem token_cred (x : Nat) (d : RD) (hd : RdOk d) (h1 : d.get nGrant ≠ gCode) (h2 : d.get nGrant ≠ gRefr) : PlanFn 25 x d (tokenP d) := by
  intro w h
  obtain ⟨id, hid⟩ : ∃ id, id = (authR d.l d.header d.form).1 := ⟨_, rfl⟩
  have hT : tokenP d = if tokenW d ≠ 0 then (cmd0, tokenW d) else (⟨4, d.family, 0, 0, id, ⟨#[]⟩, (givenP d.l id (bs (d.get nScope))).1, ⟨#[]⟩, ⟨#[]⟩, ⟨#[]⟩, ⟨#[]⟩, false, 0⟩, (givenP d.l id (bs (d.get nScope))).2) := by
    rw [tokenP, if_neg h1, if_neg h2, ← hid]
  have hW : tokenW d = firstOf [(authR d.l d.header d.form).2, iff0 (decide (d.get nGrant ≠ ⟨#[]⟩)) 1, iff0 (isGrant (d.get nGrant)) 5, iff0 (memS (d.get nGrant) (getC id d.l).gra) 4] := by rw [tokenW, ← hid]
  refine f25_wp (some ⟨x, 0, none⟩) w _ ?_
  intro b w1 hb hw1
  have E1 : Ext w w1 := by rw [hw1]; exact (Ext.refl w).alloc _
  have B1 : Blk w1 b zCmd := by rw [hb, hw1]; exact Blk.new w _ _
  have H1 := h.ext E1.drew
  have D : ∀ W, Ext w1 W → RdAt W x d := fun W hW => h.ext (E1.trans hW)
  refine ⟨fun W => Ext w1 W, (Ext.refl w1).drew, nilW_mk ⟨_, fun W hW => (D W hW).blk.cell rfl, nilW_mk ⟨_, fun W hW => (D W hW).blk.cell rfl, nilW_mk ⟨_, _, _, fun W hW => (D W hW).blk.cell rfl, ?_⟩⟩⟩⟩
  refine (auth_ok d.b d.m d.l hd.cl d.header hd.hd d.fp d.nf d.cf hd.nf d.form hd.vs w1.drew H1.gw H1.roll H1.form).mono fun e w5 he => ?_
  obtain ⟨rfl, e5⟩ := he
  have Z5 : Ext w1 w5 := (Ext.refl w1).drew.trans e5
  rw [← hid]
  refine ⟨_, _, rfl, (gget_ok x d hd nGrant w5 (D w5 Z5)).mono fun e w6 he => ?_⟩
  obtain ⟨rfl, rfl⟩ := he
  refine ⟨_, rfl, fun t W => W = w6 ∧ t = isGrant (d.get nGrant), ?_, ?_⟩
  · refine cwd (fun g => ⟨rfl, ?_⟩) fun g => cwd (fun g' => ⟨rfl, ?_⟩) fun g' => ⟨rfl, ?_⟩
    · rw [isGrant, decide_eq_true (show d.get nGrant = gCode from g)]; rfl
    · rw [isGrant, decide_eq_true (show d.get nGrant = gCred from g')]; simp
    · rw [isGrant, decide_eq_false (show ¬ d.get nGrant = gCode from g), decide_eq_false (show ¬ d.get nGrant = gCred from g')]; rfl
  rintro kn fr w7 ⟨rfl, rfl⟩
  refine ⟨fun W => Ext w1 W, Z5.drew, nilW_mk ⟨_, fun W hW => (D W hW).blk.cell rfl, ?_⟩⟩
  refine (unless_ok _ 1 w7.drew).mono fun e w9 he => ?_
  obtain ⟨rfl, rfl⟩ := he
  refine ⟨_, rfl, Z5.drew, (unless_ok _ 5 _).mono fun e w10 he => ?_⟩
  obtain ⟨rfl, rfl⟩ := he
  refine ⟨_, rfl, Z5.drew, (may_ok d.b d.m d.l hd.cl id (d.get nGrant) _ (D _ Z5.drew).roll).mono fun e w11 he => ?_⟩
  obtain ⟨rfl, e11⟩ := he
  have Z11 := Z5.drew.trans e11
  refine ⟨_, rfl, (unless_ok _ 4 w11).mono fun e w12 he => ?_⟩
  obtain ⟨rfl, rfl⟩ := he
  refine ⟨_, rfl, Z11, ?_⟩
  intro b1 w13 hb1 hw13
  have Z13 : Ext w1 w13 := by rw [hw13]; exact Z11.alloc _
  refine ⟨Z13, first4_ok _ _ _ _ 36 w12 (R := _) (fun w14 e14 => ?_) b1 w13 hb1 hw13⟩
  have Z14 := Z11.trans e14
  refine ⟨_, rfl, Z14, ?_⟩
  have B14 := B1.ext Z14
  have X14 := E1.trans Z14
  refine cwd (fun g => ?_) fun g => ?_
  · have hr : tokenP d = (cmd0, tokenW d) := by rw [hT, if_pos (by rw [hW]; exact g)]
    refine cmd_sto B14 cmd0 none 0 0 fun w5 B5 hE _ => ⟨_, _, _, _, _, _, _, _, _, _, _, _, _, _, _, B5.all, ?_⟩
    rw [hr, hW]; exact ⟨none, 0, 0, rfl, SlC.nil .., hE w X14 (by omega), Far.none w⟩
  have hr : tokenP d = _ := hT.trans (if_neg (by rw [hW]; exact g))
  refine cno (show ¬ d.get nGrant = gCode from h1) (cno (show ¬ d.get nGrant = gRefr from h2) ?_)
  refine (given_ok x d hd id w14 (D w14 Z14)).mono fun e w87 he => ?_
  obtain ⟨q, n, c, rfl, hq, e87, far⟩ := he
  have Z87 := Z14.trans e87
  refine ⟨q, n, c, _, rfl, nilW_mk ⟨_, (D w87 Z87).blk.cell rfl, cmd_sto (B14.ext e87) ⟨4, d.family, 0, 0, id, ⟨#[]⟩, [], ⟨#[]⟩, ⟨#[]⟩, ⟨#[]⟩, ⟨#[]⟩, false, 0⟩ q n c fun w88 B88 hE hG => ⟨_, _, _, _, _, _, _, _, _, _, _, _, _, _, _, B88.all, ?_⟩⟩⟩
  rw [hr]
  exact ⟨q, n, c, rfl, SlC.setFar hq hG (fun a ha => by have := far a ha; have := B14.lt; omega), hE w (E1.trans Z87) (by omega), far.trans X14⟩

end Go.Proofs.YtbbcofdibkgalaaGreatDoor
