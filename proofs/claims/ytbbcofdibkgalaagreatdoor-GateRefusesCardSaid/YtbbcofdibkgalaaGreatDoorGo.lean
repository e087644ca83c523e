/- Contracts: gate's reader. -/
import Derived.Test.YtbbcofdibkgalaaGreatDoorRd
import Derived.Test.YtbbcofdibkgalaaGreatDoorSp
import Derived.Test.YtbbcofdibkgalaaGreatDoorQs
import Derived.Test.YtbbcofdibkgalaaGreatDoorPl
import Derived.Test.YtbbcofdibkgalaaGreatDoorW3
import Derived.Test.YtbbcofdibkgalaaGreatDoorW6
set_option linter.unusedVariables false
set_option linter.unusedSimpArgs false
namespace Go.Proofs.YtbbcofdibkgalaaGreatDoor
open Go.Eng
open Go.RowKit (Below)

/-! ### a token's text, opened -/
def tagS (sec h : List UInt8) : List UInt8 := enc sgW ((hmac sec h).take 12)
def openX (sec s : List UInt8) : Option (Int × ByteArray × Int) × Int :=
  match peekX s with
  | none => (none, 3)
  | some (k, f, n) => if headL k (bs f) n ++ tagS sec (headL k (bs f) n) = s then (some (k, f, n), 0) else (none, 5)
/-- what is known of Open at a text -/
def OpenOk (sec : List UInt8) (s : ByteArray) : Prop := ∀ (p : Option Addr) (n c : Nat) (w : World), GW w → SlC w p n (bvs sec) →
  Calls prg 16 #[.slice p n c, .string s] w (Ret w (.tuple #[tokV (openX sec (bs s)).1, .int .i64 (openX sec (bs s)).2]))

/-! ### who reads a request -/
structure RD where
  path : ByteArray
  header : ByteArray
  body : ByteArray
  user : ByteArray
  b : Nat
  m : Nat
  l : List Cl
  sp : Option Addr
  ns : Nat
  cs : Nat
  sec : List UInt8
  family : ByteArray
  edge : Int
  fp : Option Addr
  nf : Nat
  cf : Nat
  form : List Pr
abbrev RD.cells (d : RD) : List Value := [.string d.path, .string d.header, .string d.body, .string d.user, .pointer (some ⟨d.b, 0, none⟩), .slice d.sp d.ns d.cs, .string d.family, .int .i64 d.edge, .slice d.fp d.nf d.cf]
structure RdAt (w : World) (x : Nat) (d : RD) : Prop where
  blk : Blk w x d.cells
  roll : RollB w d.b d.m d.l
  sec : SlC w d.sp d.ns (bvs d.sec)
  form : SlP w d.fp d.nf d.form
  gw : GW w
structure RdOk (d : RD) : Prop where
  cl : ∀ x ∈ d.l, ClB x
  hd : d.header.size ≤ 1000000000
  nf : d.nf ≤ 1000000000
  vs : ∀ x ∈ d.form, x.2.size ≤ 1000000000
  us : d.user.size ≤ 1000000000
theorem RdAt.ext {w w' : World} {x : Nat} {d : RD} (h : RdAt w x d) (he : Ext w w') : RdAt w' x d := ⟨h.blk.ext he, h.roll.ext he, h.sec.ext he, h.form.ext he, h.gw.ext he⟩
def RD.get (d : RD) (name : ByteArray) : ByteArray := (getP name d.form).1
theorem getP_size {form : List Pr} (h : ∀ x ∈ form, x.2.size ≤ 1000000000) (name : ByteArray) : (getP name form).1.size ≤ 1000000000 := by
  induction form with
  | nil => simp [getP, ByteArray.size]
  | cons x r ih =>
    rw [getP]
    split
    · exact h x (by simp)
    · exact ih fun y hy => h y (by simp [hy])
theorem gget_ok (x : Nat) (d : RD) (hd : RdOk d) (name : ByteArray) (w : World) (h : RdAt w x d) :
    Calls prg 60 #[.pointer (some ⟨x, 0, none⟩), .string name] w (RetP w (.string (d.get name))) := by
  have hnf := hd.nf
  refine f60_wp (some ⟨x, 0, none⟩) name w _ (nilW_mk ⟨_, _, _, h.blk.cell rfl, (get_ok d.fp d.nf d.cf (by omega) d.form name w h.form).mono fun e w1 he => ?_⟩)
  obtain ⟨rfl, rfl⟩ := he
  exact ⟨_, _, rfl, rfl, rfl⟩

/-- numbers in a block of their own -/
theorem blk_ints {w : World} {b : Nat} {l : List Int} (h : Blk w b (l.map (.int .i64))) : SlC w (some ⟨b, 0, none⟩) l.length (l.map (.int .i64)) :=
  ⟨by simp, fun j v hj => nilW_mk (by rw [Nat.zero_add]; exact h.cell hj)⟩
theorem first2_ok (a b : Int) (t : TypeId) (w : World) {R : Ending → World → Prop} (h : ∀ w1, Ext w w1 → R (.returned (.int .i64 (firstOf [a, b]))) w1) :
    ∀ (k : Nat) (w1 : World), k = w.heap.size → w1 = w.alloc (.cells #[.int .i64 a, .int .i64 b] t) → Calls prg 65 #[.slice (some ⟨k, 0, none⟩) 2 2] w1 R := by
  intro k w1 hk hw1
  have B : Blk w1 k ([a, b].map (.int .i64)) := by rw [hk, hw1]; exact Blk.new w _ _
  refine (first_ok _ 2 2 (by omega) [a, b] w1 (blk_ints B)).mono fun e w2 he => ?_
  obtain ⟨rfl, rfl⟩ := he
  exact h _ (by rw [hw1]; exact (Ext.refl w).alloc _)

def nScope : ByteArray := ⟨#[115, 99, 111, 112, 101]⟩
def nToken : ByteArray := ⟨#[116, 111, 107, 101, 110]⟩
def iff0 (b : Bool) (n : Int) : Int := if b then 0 else n
/-- the scope that is asked for -/
theorem gscope_ok (x : Nat) (d : RD) (hd : RdOk d) (w : World) (h : RdAt w x d) :
    Calls prg 68 #[.pointer (some ⟨x, 0, none⟩)] w fun e w' => ∃ q n c, e = .returned (.tuple #[.slice q n c, .int .i64 (iff0 (decide ((scopeP (bs (d.get nScope))).2 = 0)) 6)]) ∧ SlC w' q n ((scopeP (bs (d.get nScope))).1.map .string) ∧ Ext w w' ∧ Far w q := by
  refine f68_wp (some ⟨x, 0, none⟩) w _ ((gget_ok x d hd nScope w h).mono fun e w1 he => ?_)
  obtain ⟨rfl, rfl⟩ := he
  refine ⟨_, rfl, (scopeParse_ok (d.get nScope) (getP_size hd.vs _) w1 h.gw).mono fun e w2 he => ?_⟩
  obtain ⟨q, n, c, rfl, hq, e2, far⟩ := he
  refine ⟨q, n, c, _, rfl, (unless_ok _ 6 w2).mono fun e w3 he => ?_⟩
  obtain ⟨rfl, rfl⟩ := he
  exact ⟨_, rfl, q, n, c, rfl, hq, e2, far⟩
theorem scopeP_b (s : List UInt8) : ∀ x ∈ (scopeP s).1, x.size ≤ 64 := by
  rw [scopeP]
  repeat' split
  all_goals first
    | exact words_size
    | (intro x hx; cases hx)
theorem scopeP_len (s : List UInt8) : (scopeP s).1.length ≤ 32 := by
  rw [scopeP]
  repeat' split
  all_goals first
    | simp; done
    | (dsimp only; omega)
/-- the scope that a client is given -/
def givenP (l : List Cl) (id : ByteArray) (asked : List UInt8) : List ByteArray × Int :=
  ((scopeB (findC id l) (scopeP asked).1).1, firstOf [iff0 (decide ((scopeP asked).2 = 0)) 6, iff0 (scopeB (findC id l) (scopeP asked).1).2 6])
theorem given_ok (x : Nat) (d : RD) (hd : RdOk d) (id : ByteArray) (w : World) (h : RdAt w x d) :
    Calls prg 63 #[.pointer (some ⟨x, 0, none⟩), .string id] w fun e w' => ∃ q n c, e = .returned (.tuple #[.slice q n c, .int .i64 (givenP d.l id (bs (d.get nScope))).2]) ∧ SlC w' q n ((givenP d.l id (bs (d.get nScope))).1.map .string) ∧ Ext w w' ∧ Far w q := by
  refine f63_wp (some ⟨x, 0, none⟩) id w _ ((gscope_ok x d hd w h).mono fun e w1 he => ?_)
  obtain ⟨q, n, c, rfl, hq, e1, _⟩ := he
  have h1 := h.ext e1
  have hl := scopeP_len (bs (d.get nScope))
  have hn : n ≤ 1000000000 := by have := hq.len; omega
  refine ⟨q, n, c, _, rfl, nilW_mk ⟨_, h1.blk.cell rfl, (rscope_ok d.b d.m d.l hd.cl id q n c _ hn (fun s hs => by have := scopeP_b _ s hs; omega) w1 h1.roll hq).mono fun e w2 he => ?_⟩⟩
  obtain ⟨q2, n2, c2, rfl, hq2, e2, far⟩ := he
  refine ⟨q2, n2, c2, _, rfl, (unless_ok _ 6 w2).mono fun e w3 he => ?_⟩
  obtain ⟨rfl, rfl⟩ := he
  refine ⟨_, rfl, first2_ok _ _ _ w3 fun w5 e5 => ⟨_, rfl, q2, n2, c2, rfl, hq2.ext e5, (e1.trans e2).trans e5, far.trans e1⟩⟩

abbrev zTok : List Value := [.int .i64 0, .string ⟨#[]⟩, .int .i64 0]
/-! ### commands -/
structure Cmd where
  kind : Int
  fam : ByteArray
  ser : Int
  tok : Int
  client : ByteArray
  user : ByteArray
  scope : List ByteArray
  redir : ByteArray
  chal : ByteArray
  meth : ByteArray
  verif : ByteArray
  refr : Bool
  edge : Int
def cmd0 : Cmd := ⟨0, ⟨#[]⟩, 0, 0, ⟨#[]⟩, ⟨#[]⟩, [], ⟨#[]⟩, ⟨#[]⟩, ⟨#[]⟩, ⟨#[]⟩, false, 0⟩
abbrev cmdL (c : Cmd) (q : Option Addr) (n k : Nat) : List Value := [.int .i64 c.kind, .string c.fam, .int .i64 c.ser, .int .i64 c.tok, .string c.client, .string c.user, .slice q n k, .string c.redir, .string c.chal, .string c.meth, .string c.verif, .bool c.refr, .int .i64 c.edge]
/-- the answer of what plans -/
def CmdR (w : World) (r : Cmd × Int) : Ending → World → Prop := fun e w' => ∃ q n k, e = .returned (.tuple #[.agg (cmdL r.1 q n k).toArray, .int .i64 r.2]) ∧ SlC w' q n (r.1.scope.map .string) ∧ Ext w w' ∧ Far w q
abbrev zCmd : List Value := [.int .i64 0, .string ⟨#[]⟩, .int .i64 0, .int .i64 0, .string ⟨#[]⟩, .string ⟨#[]⟩, .slice none 0 0, .string ⟨#[]⟩, .string ⟨#[]⟩, .string ⟨#[]⟩, .string ⟨#[]⟩, .bool false, .int .i64 0]

def tokOf (o : Option (Int × ByteArray × Int)) : Int × ByteArray × Int := o.getD (0, ⟨#[]⟩, 0)
theorem tokV_of (o : Option (Int × ByteArray × Int)) : tokV o = .agg #[.int .i64 (tokOf o).1, .string (tokOf o).2.1, .int .i64 (tokOf o).2.2] := by
  cases o with
  | none => rfl
  | some x => obtain ⟨k, f, n⟩ := x; rfl
/-- who asks, and the token -/
noncomputable def openedP (d : RD) : ByteArray × (Option (Int × ByteArray × Int) × Int) × Int :=
  ((authR d.l d.header d.form).1, openX d.sec (bs (d.get nToken)), firstOf [(authR d.l d.header d.form).2, iff0 (decide (d.get nToken ≠ ⟨#[]⟩)) 1])
theorem opened_ok (x : Nat) (d : RD) (hd : RdOk d) (hO : OpenOk d.sec (d.get nToken)) (w : World) (h : RdAt w x d) :
    Calls prg 69 #[.pointer (some ⟨x, 0, none⟩)] w
      (Ret w (.tuple #[.string (openedP d).1, tokV (openedP d).2.1.1, .bool (decide ((openedP d).2.1.2 = 0)), .int .i64 (openedP d).2.2])) := by
  refine f69_wp (some ⟨x, 0, none⟩) w _ ?_
  intro b w1 hb hw1
  have E1 : Ext w w1 := by rw [hw1]; exact (Ext.refl w).alloc _
  have B1 : Blk w1 b zTok := by rw [hb, hw1]; exact Blk.new w _ _
  have H1 := h.ext E1.drew
  have D : ∀ W, Ext w1.drew W → RdAt W x d := fun W hW => H1.ext hW
  refine ⟨fun W => Ext w1.drew W, Ext.refl _, nilW_mk ⟨_, fun W hW => (D W hW).blk.cell rfl, nilW_mk ⟨_, fun W hW => (D W hW).blk.cell rfl, nilW_mk ⟨_, _, _, fun W hW => (D W hW).blk.cell rfl, ?_⟩⟩⟩⟩
  refine (auth_ok d.b d.m d.l hd.cl d.header hd.hd d.fp d.nf d.cf hd.nf d.form hd.vs w1.drew H1.gw H1.roll H1.form).mono fun e w5 he => ?_
  obtain ⟨rfl, e5⟩ := he
  refine ⟨_, _, rfl, (gget_ok x d hd nToken w5 (D w5 e5)).mono fun e w6 he => ?_⟩
  obtain ⟨rfl, rfl⟩ := he
  refine ⟨_, rfl, nilW_mk ⟨_, _, _, (D w6 e5).blk.cell rfl, (hO d.sp d.ns d.cs w6 (D w6 e5).gw (D w6 e5).sec).mono fun e w7 he => ?_⟩⟩
  obtain ⟨rfl, e7⟩ := he
  rw [tokV_of]
  refine ⟨_, _, _, _, rfl, ?_⟩
  intro b1 w8 hb1 hw8
  have E8 : Ext w7 w8 := by rw [hw8]; exact (Ext.refl w7).alloc _
  have B8 : Blk w8 b1 zTok := by rw [hb1, hw8]; exact Blk.new w7 _ _
  refine ⟨B8.sto (by simp) (by simp [Value.oneCell']), ?_⟩
  intro w9 hw9
  have B9 := B8.set 0 [.int .i64 (tokOf (openX d.sec (bs (d.get nToken))).1).1, .string (tokOf (openX d.sec (bs (d.get nToken))).1).2.1, .int .i64 (tokOf (openX d.sec (bs (d.get nToken))).1).2.2]
  simp only [zTok, setL, List.set] at B9
  rw [← hw9] at B9
  have E9 : Ext w7 w9 := by rw [hw9]; exact E8.setCells (by omega) _
  have E19 : Ext w1 w9 := ((Ext.refl w1).drew.trans (e5.trans e7)).trans E9
  refine ⟨fun W => Ext w9 W, (Ext.refl w9).drew, _, _, _, fun W hW => (B9.ext hW).all, (unless_ok _ 1 w9.drew).mono fun e w11 he => ?_⟩
  obtain ⟨rfl, rfl⟩ := he
  refine ⟨_, rfl, (Ext.refl w9).drew, ?_⟩
  intro b2 w12 hb2 hw12
  have E12 : Ext w9 w12 := by rw [hw12]; exact ((Ext.refl w9).drew).alloc _
  refine ⟨E12, first2_ok _ _ 36 w9.drew (R := _) (fun w13 e13 => ?_) b2 w12 hb2 hw12⟩
  have E13 : Ext w9 w13 := (Ext.refl w9).drew.trans e13
  have B13 := B1.ext (E19.trans E13)
  refine ⟨_, rfl, E13, B13.sto (by simp) (by simp [Value.oneCell']), ?_⟩
  intro w14 hw14
  have B14 := B13.set 0 [.int .i64 (tokOf (openX d.sec (bs (d.get nToken))).1).1, .string (tokOf (openX d.sec (bs (d.get nToken))).1).2.1, .int .i64 (tokOf (openX d.sec (bs (d.get nToken))).1).2.2]
  simp only [zTok, setL, List.set] at B14
  rw [← hw14] at B14
  refine ⟨_, _, _, B14.all, ?_, by rw [hw14]; exact (E1.trans (E19.trans E13)).setCells (by omega) _⟩
  simp only [openedP, tokV_of]
  rfl

end Go.Proofs.YtbbcofdibkgalaaGreatDoor
