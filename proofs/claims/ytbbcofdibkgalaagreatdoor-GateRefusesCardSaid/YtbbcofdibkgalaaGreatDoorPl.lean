/- Contracts: seal's part, head, Peek. -/
import Derived.Test.YtbbcofdibkgalaaGreatDoorPk
import Derived.Test.YtbbcofdibkgalaaGreatDoorGw
import Derived.Test.YtbbcofdibkgalaaGreatDoorFb
import Derived.Test.YtbbcofdibkgalaaGreatDoorWI
import Derived.Test.YtbbcofdibkgalaaGreatDoorW7
import Derived.Test.YtbbcofdibkgalaaGreatDoorPd
set_option linter.unusedVariables false
set_option linter.unusedSimpArgs false
namespace Go.Proofs.YtbbcofdibkgalaaGreatDoor
open Go.Eng
open Go.RowKit (Below)

/-! ### numerals -/
theorem dig_all (u : Nat) : ∀ c ∈ Lib.decDigits u, 48 ≤ c.toNat ∧ c.toNat ≤ 57 := by
  induction u using Nat.strongRecOn with
  | ind u ih =>
    intro c hc
    rw [Lib.decDigits] at hc
    split at hc
    · have : c = UInt8.ofNat (48 + u) := by simpa using hc
      subst this
      have : (UInt8.ofNat (48 + u)).toNat = 48 + u := by simp; omega
      omega
    · rcases List.mem_append.1 hc with h | h
      · exact ih (u / 10) (by omega) c h
      · have : c = UInt8.ofNat (48 + u % 10) := by simpa using h
        subst this
        have : (UInt8.ofNat (48 + u % 10)).toNat = 48 + u % 10 := by simp; omega
        omega
theorem dig_ne (u : Nat) : Lib.decDigits u ≠ [] := by
  rw [Lib.decDigits]; split <;> simp
theorem dig_len (u : Nat) : ∀ k, u < 10 ^ (k + 1) → (Lib.decDigits u).length ≤ k + 1 := by
  induction u using Nat.strongRecOn with
  | ind u ih =>
    intro k hk
    rw [Lib.decDigits]
    split
    · simp
    · cases k with
      | zero => omega
      | succ k =>
        have := ih (u / 10) (by omega) k (by rw [Nat.pow_succ] at hk; omega)
        rw [List.length_append]; simp; omega
theorem parse_dig (u : Nat) (hu : u < 1000000000000000000) : ∀ r, Lib.parseUint10 0 (Lib.decDigits u ++ r) = Lib.parseUint10 u r := by
  induction u using Nat.strongRecOn with
  | ind u ih =>
    intro r
    rw [Lib.decDigits]
    split
    · rename_i h
      have : (UInt8.ofNat (48 + u)).toNat = 48 + u := by simp; omega
      rw [List.singleton_append, Lib.parseUint10, this, if_pos (by omega), if_neg (by omega), if_neg (by omega)]
      congr 1; omega
    · rename_i h
      have : (UInt8.ofNat (48 + u % 10)).toNat = 48 + u % 10 := by simp; omega
      rw [List.append_assoc, ih (u / 10) (by omega) (by omega), List.singleton_append, Lib.parseUint10, this, if_pos (by omega), if_neg (by omega), if_neg (by omega)]
      congr 1; omega
theorem atoi_dig (u : Nat) (hu : u < 1000000000000000000) : Lib.atoiAll (Lib.decDigits u) = .ok (u : Int) := by
  have hall := dig_all u
  have hne := dig_ne u
  have hp := parse_dig u hu []
  rw [List.append_nil, Lib.parseUint10] at hp
  cases hd : Lib.decDigits u with
  | nil => exact absurd hd hne
  | cons c r =>
    rw [hd] at hp
    have hc := hall c (by rw [hd]; simp)
    rw [Lib.atoiAll]
    simp only [if_neg (show ¬ (c.toNat = 43 ∨ c.toNat = 45) by omega), Lib.parseMag, if_neg (List.cons_ne_nil c r), hp]
    rw [if_neg (by omega), if_neg (by omega), if_neg (by omega)]

theorem grow_ext (w : World) (k : Nat) (os : Array Obj) : Ext w (Sort.grow (w.drewN k) os) :=
  ⟨rfl, rfl, rfl, by show w.heap.size ≤ (w.heap ++ os).size; rw [Array.size_append]; omega, fun _ hj => Sort.heap_grow_old (w.drewN k) os hj⟩
theorem itoa_ok (n : Int) (h0 : 0 ≤ n) (h1 : n ≤ 1099511627776) (w : World) (hg : GW w) : Calls prg 123 #[.int .i64 n] w (Ret w (.string (mk (Lib.itoa n)))) := by
  refine (Tryz.strconv_Itoa n (by omega) (by omega) w hg.tab).mono fun e w' he => ?_
  obtain ⟨rfl, k, os, rfl⟩ := he
  exact ⟨rfl, grow_ext w k os⟩
theorem atoi_ok (s : ByteArray) (hs : s.size ≤ 1000000000) (w : World) (hg : GW w) : Calls prg 89 #[.string s] w fun e w' => ∃ n v, e = .returned (.tuple #[.int .i64 n, v]) ∧ Ext w w' ∧
    ((v = .nilIface ∧ Lib.atoiAll (bs s) = .ok n) ∨ ((∃ N, v = .iface 200 (.pointer (some ⟨N, 0, none⟩))) ∧ ∀ m, Lib.atoiAll (bs s) ≠ .ok m)) := by
  match h : Lib.atoiAll (bs s) with
  | .ok v =>
    refine (Tryz.strconv_Atoi_ok s (by omega) v h w).mono fun e w' he => ?_
    obtain ⟨rfl, he⟩ := he
    refine ⟨v, .nilIface, rfl, ?_, .inl ⟨rfl, rfl⟩⟩
    rcases he with rfl | ⟨t, rfl⟩
    · exact Ext.refl w'
    · exact Lib.bytesWorld_below w _ t
  | .syntax =>
    obtain ⟨tp, p, hv⟩ := hg.es
    refine (Tryz.strconv_Atoi_syntax_var s (by omega) h tp p w hv).mono fun e w' he => ?_
    obtain ⟨N, rfl, _, _, hb⟩ := he
    exact ⟨_, _, rfl, hb, .inr ⟨⟨N, rfl⟩, fun m => by simp⟩⟩
  | .range =>
    obtain ⟨tp, p, hv⟩ := hg.er
    refine (Tryz.strconv_Atoi_range_var s (by omega) h tp p w hv).mono fun e w' he => ?_
    obtain ⟨N, rfl, _, _, hb⟩ := he
    exact ⟨_, _, rfl, hb, .inr ⟨⟨N, rfl⟩, fun m => by simp⟩⟩

/-- what stands ahead of a tag -/
def lettersL : List UInt8 := [63, 99, 97, 114]
def headL (k : Int) (f : List UInt8) (n : Int) : List UInt8 := (lettersL.drop k.toNat).take 1 ++ [46] ++ f ++ [46] ++ Lib.itoa n ++ [46]
theorem head_ok (k : Int) (f : ByteArray) (n : Int) (k0 : 1 ≤ k) (k1 : k ≤ 3) (hf : f.size ≤ 32) (h0 : 0 ≤ n) (h1 : n ≤ 1099511627776) (w : World) (hg : GW w) :
    Calls prg 90 #[.agg #[.int .i64 k, .string f, .int .i64 n]] w (Ret w (.string (mk (headL k (bs f) n)))) := by
  refine f90_wp k f n w _ ?_
  intro b w1 hb hw1
  have E1 : Ext w w1 := by rw [hw1]; exact (Ext.refl w).alloc _
  have B1 : Blk w1 b [.int .i64 k, .string f, .int .i64 n] := by rw [hb, hw1]; exact Blk.new w _ _
  refine ⟨fun W => Ext w1 W, (Ext.refl w1).drew, k, fun W hW => (B1.ext hW).cell rfl, k, fun W hW => (B1.ext hW).cell rfl, ?_⟩
  rw [wrap_i64 (by omega) (by omega)]
  have hlen : (Lib.itoa n).length ≤ 13 := by
    rw [Lib.itoa, if_neg (by omega)]
    exact dig_len _ 12 (by omega)
  have hx : (⟨#[63, 99, 97, 114]⟩ : ByteArray).extract k.toNat (k + 1).toNat = mk ((lettersL.drop k.toNat).take 1) := by
    apply bs_inj
    rw [bs_extract, bs_mk, show (k + 1).toNat - k.toNat = 1 by omega]; rfl
  have hxl : ((lettersL.drop k.toNat).take 1).length ≤ 1 := by rw [List.length_take]; omega
  rw [hx]
  have hp : (⟨#[46]⟩ : ByteArray) = mk [46] := rfl
  simp only [hp, ByteArray.size_append, mk_size]
  refine ⟨by omega, by omega, by omega, by show _ ≤ 4; omega, by simp; omega, f, fun W hW => (B1.ext hW).cell rfl, by simp; omega, by simp; omega, n, fun W hW => (B1.ext hW).cell rfl, ?_⟩
  refine (itoa_ok n h0 h1 w1.drew (hg.ext E1.drew)).mono fun e w6 he => ?_
  obtain ⟨rfl, e6⟩ := he
  refine ⟨_, rfl, (Ext.refl w1).drew.trans e6, by rw [mk_size]; simp; omega, by rw [mk_size]; simp; omega, ?_, E1.drew.trans e6⟩
  congr 2

/-- what stands ahead of the next point -/
def spoiltE : PanicEntry := { v := .iface 138 (.agg #[]), recovered := false }
theorem part_ok (b : Nat) (s : List UInt8) (hs : s.length ≤ 1000000000) (w : World) (hg : GW w) (h : Blk w b [.string (mk s)]) :
    Calls prg 87 #[.pointer (some ⟨b, 0, none⟩)] w fun e w' =>
      ((cutB 46 s).2.2 = true ∧ e = .returned (.string (mk (cutB 46 s).1)) ∧ Blk w' b [.string (mk (cutB 46 s).2.1)] ∧ w.grownBy w' (some b)) ∨ ((cutB 46 s).2.2 = false ∧ e = .panicked [spoiltE] ∧ w.grownBy w' (some b)) := by
  refine f87_wpI b 0 w _ ⟨mk s, h.cell rfl, (cut_ok (mk s) 46 (by rw [mk_size]; omega) w hg).mono fun e w2 he => ?_⟩
  obtain ⟨rfl, n, rfl⟩ := he
  rw [bs_mk]
  have gd : w.grownBy (w.drewN n) (some b) := ⟨rfl, rfl, rfl, Nat.le_refl _, fun _ _ _ => rfl⟩
  have B2 : Blk (w.drewN n) b [.string (mk s)] := h
  refine ⟨_, _, _, rfl, cwb (fun g => ⟨by kernel_rfl, rfl, .inr ⟨by simpa using g, rfl, gd⟩⟩) fun g => ⟨B2.sto (by simp) (by simp [Value.oneCell']), ?_⟩⟩
  intro w3 hw3
  refine ⟨rfl, .inl ⟨by simpa using g, rfl, ?_, ?_⟩⟩
  · rw [hw3]; exact B2.set 0 [.string (mk (cutB 46 s).2.1)]
  · rw [hw3]; exact grown_trans gd (grownBy_setCells _ _ _ _)

/-- the token of a text -/
def peekX (s : List UInt8) : Option (Int × ByteArray × Int) :=
  if (cutB 46 s).2.2 then
    if (cutB 46 (cutB 46 s).2.1).2.2 then
      if (cutB 46 (cutB 46 (cutB 46 s).2.1).2.1).2.2 then
        match Lib.atoiAll (cutB 46 (cutB 46 (cutB 46 s).2.1).2.1).1 with
        | .ok n =>
          if (cutB 46 s).1.length = 1 ∧ tokRight (Lib.index lettersL (cutB 46 s).1) (mk (cutB 46 (cutB 46 s).2.1).1) n = true ∧
              headL (Lib.index lettersL (cutB 46 s).1) (cutB 46 (cutB 46 s).2.1).1 n ++ (cutB 46 (cutB 46 (cutB 46 s).2.1).2.1).2.1 = s ∧
              (cutB 46 (cutB 46 (cutB 46 s).2.1).2.1).2.1.length = 16 ∧ (cutB 46 (cutB 46 (cutB 46 s).2.1).2.1).2.1.all (fun c => famByte c.toNat) = true
          then some (Lib.index lettersL (cutB 46 s).1, mk (cutB 46 (cutB 46 s).2.1).1, n) else none
        | _ => none
      else none
    else none
  else none
def tokV : Option (Int × ByteArray × Int) → Value
  | some (k, f, n) => .agg #[.int .i64 k, .string f, .int .i64 n]
  | none => .agg #[.int .i64 0, .string ⟨#[]⟩, .int .i64 0]
def peekV (o : Option (Int × ByteArray × Int)) : Value := .tuple #[tokV o, .int .i64 (if o.isSome then 0 else 3)]

theorem tokR {k : Int} {f : ByteArray} {n : Int} (h : tokRight k f n = true) : 1 ≤ k ∧ k ≤ 3 ∧ f.size ≤ 32 ∧ 0 ≤ n ∧ n ≤ 1099511627776 := by
  simp only [tokRight, Bool.and_eq_true, decide_eq_true_iff] at h
  exact ⟨h.2.1, h.2.2.1, h.2.2.2.2.1, h.2.2.2.2.2.1, h.2.2.2.2.2.2⟩
/-- how the body of Peek ends -/
def PeekK (w : World) (s : List UInt8) (o : Option (List PanicEntry)) (vs : List Value) (ds : List Deferred) (W : World) : Prop :=
  vs = [.pointer (some ⟨w.heap.size + 1, 0, none⟩), .pointer (some ⟨w.heap.size + 2, 0, none⟩)] ∧
  ds = [{ target := .fn (.func 86) #[.pointer (some ⟨w.heap.size + 1, 0, none⟩), .pointer (some ⟨w.heap.size + 2, 0, none⟩)], args := #[] }] ∧ Ext w W ∧
  match o with
  | some ch => ch = [spoiltE] ∧ peekX s = none ∧ (∃ x1 x2 x3, Blk W (w.heap.size + 1) [x1, x2, x3]) ∧ ∃ x4, Blk W (w.heap.size + 2) [x4]
  | none => ∃ k f n, peekX s = some (k, f, n) ∧ Blk W (w.heap.size + 1) [.int .i64 k, .string f, .int .i64 n] ∧ Blk W (w.heap.size + 2) [.int .i64 0]
theorem conc : prg.concrete 138 = true := by kernel_rfl
theorem body44 : Tryz.f44.body = some (Tryz.f44.body.getD .skip) := by kernel_rfl
theorem res44 : Tryz.f44.results = #[.cell 2 47, .cell 3 30] := by kernel_rfl
theorem peekEnd {a : Act} {f : Fr} {ds : List Deferred} (hr : Rep ds 64 a f) {w' : World} {b1 b2 : Nat} (h2 : f 2 = .pointer (some ⟨b1, 0, none⟩)) (h3 : f 3 = .pointer (some ⟨b2, 0, none⟩))
    {k n e : Int} {fm : ByteArray} (B2 : Blk w' b1 [.int .i64 k, .string fm, .int .i64 n]) (B3 : Blk w' b2 [.int .i64 e]) :
    (results Tryz.f44 a.tmps).run prg w' = .ok (.tuple #[.agg #[.int .i64 k, .string fm, .int .i64 n], .int .i64 e]) w' := by
  have key : resW TbI f w' Tryz.f44.results.toList (fun v => v = .tuple #[.agg #[.int .i64 k, .string fm, .int .i64 n], .int .i64 e]) := by
    rw [res44]
    simp only [resW, resV, h2, h3]
    exact ⟨k, fm, n, B2.all, e, B3.cell rfl, rfl⟩
  obtain ⟨v, hv, rfl⟩ := resW_run tabOkI hr key
  exact hv
theorem fn86 : FnOk prg 86 := by
  have := fokOk_of (P := prg) (fs := [86]) (nx := []) (by kernel_rfl)
  exact this.1 _ (by decide)
theorem inv86 (a b : Value) (W : World) : (invoke (.fn (.func 86) #[a, b]) #[]).run prg W = .ok (.enter 86 #[a, b]) W := by
  simp only [invoke]
  exact callFunc_run fn86 _ W
theorem errUnd : prg.underlying 144 = some (.interface #[("Error", 155)]) := by kernel_rfl
theorem eqG {t : TypeId} {o : Operand} {c : Value} : eqGuard .eql t o (.const c) .nilIface .nilIface = pure () := by cases o <;> rfl
theorem eqG' {t : TypeId} {o : Operand} {c : Value} : eqGuard .neq t o (.const c) .nilIface .nilIface = pure () := by cases o <;> rfl
theorem eqErr_nil (w : World) : (Op.equal 144 .nilIface .nilIface).run prg w = .ok true w := by
  simp only [Op.equal, Op.maxDepth]
  unfold Op.equalIn
  simp [run_underlying errUnd]
theorem eqErr_iface (N : Nat) (w : World) : (Op.equal 144 (.iface 200 (.pointer (some ⟨N, 0, none⟩))) .nilIface).run prg w = .ok false w := by
  simp only [Op.equal, Op.maxDepth]
  unfold Op.equalIn
  simp [run_underlying errUnd]
theorem peek_ok (s : ByteArray) (hs : s.size ≤ 1000000000) (w : World) (hg : GW w) :
    Calls prg 44 #[.string s] w (Ret w (peekV (peekX (bs s)))) := by
  have hlen := bs_len s
  refine callsIn_wide.1 (callsIn_of_wp_marks (F := Fence.wide) (n := 0) Tryz.func44 body44 trivial ?_)
  have nt : Tryz.f44.ntmps = 64 := by kernel_rfl
  have rep0 : Rep [] Tryz.f44.ntmps { tmps := #[Value.string s] ++ Array.replicate (Tryz.f44.ntmps - (#[Value.string s] : Array Value).size) undef, defers := [] } (arg0 [.string s]) := by
    exact rep_arg0 (fn := Tryz.f44) (args := [.string s]) (by rw [nt]; simp)
  have ok := f44_ok
  rw [okI, body44] at ok
  simp only [Bool.and_eq_true, Option.getD_some] at ok
  refine wpIn_mono (fi_sound (m := 0) tabOkI (fokOkI []) open_wide _ _ _ _ _ w _ _ ok.1.1.1 ok.1.1.2 ok.1.2 (f44_fi s w (PeekK w (bs s)) ?_) rep0) fun e a1 W1 hq => ?_
  · intro b0 w1 hb0 hw1 b1 w2 hb1 hw2 b2 w3 hb2 hw3
    have E1 : Ext w w1 := by rw [hw1]; exact (Ext.refl w).alloc _
    have E2 : Ext w1 w2 := by rw [hw2]; exact (Ext.refl w1).alloc _
    have E3 : Ext w2 w3 := by rw [hw3]; exact (Ext.refl w2).alloc _
    have z1 : w1.heap.size = w.heap.size + 1 := by rw [hw1]; simp
    have z2 : w2.heap.size = w.heap.size + 2 := by rw [hw2]; simp [z1]
    have B0 : Blk w1 b0 [.string s] := by rw [hb0, hw1]; exact Blk.new w _ _
    have B1 : Blk w2 b1 [.int .i64 0, .string ⟨#[]⟩, .int .i64 0] := by rw [hb1, hw2]; exact Blk.new w1 _ _
    have B2 : Blk w3 b2 [.int .i64 0] := by rw [hb2, hw3]; exact Blk.new w2 _ _
    have y0 : b0 = w.heap.size := hb0
    have y1 : b1 = w.heap.size + 1 := by omega
    have y2 : b2 = w.heap.size + 2 := by omega
    have X3 : Ext w w3 := (E1.trans E2).trans E3
    have A3 : Blk w3 b0 [.string (mk (bs s))] := (B0.ext E2).ext E3
    have C3 : Blk w3 b1 [.int .i64 0, .string ⟨#[]⟩, .int .i64 0] := B1.ext E3
    have fail : ∀ (ch : List PanicEntry) (W : World) (x1 x2 x3 x4 : Value), ch = [spoiltE] → Ext w W → peekX (bs s) = none → Blk W b1 [x1, x2, x3] → Blk W b2 [x4] →
        PeekK w (bs s) (some ch) [.pointer (some ⟨b1, 0, none⟩), .pointer (some ⟨b2, 0, none⟩)] [{ target := .fn (.func 86) #[.pointer (some ⟨b1, 0, none⟩), .pointer (some ⟨b2, 0, none⟩)], args := #[] }] W := by
      rintro ch W x1 x2 x3 x4 rfl hE hp h1 h2
      rw [y1, y2] at *
      exact ⟨rfl, rfl, hE, rfl, hp, ⟨x1, x2, x3, h1⟩, x4, h2⟩
    obtain ⟨mx, hmx⟩ := hg.ml
    have cl1 := cutB_len 46 (bs s)
    have cl2 := cutB_len 46 (cutB 46 (bs s)).2.1
    have cl3 := cutB_len 46 (cutB 46 (cutB 46 (bs s)).2.1).2.1
    refine ⟨s, A3.cell rfl, (part_ok b0 (bs s) (by omega) w3 (hg.ext X3) A3).mono fun e w4 he => ?_⟩
    rcases he with ⟨p1, rfl, A4, g4⟩ | ⟨p1, rfl, g4⟩
    rotate_left
    · exact .inr ⟨_, rfl, fail _ w4 _ _ _ _ rfl (Ext.grownB X3 (by omega) g4) (by rw [peekX, p1]; rfl) (C3.grown g4 (fun e => by have := Option.some.inj e; omega)) (B2.grown g4 (fun e => by have := Option.some.inj e; omega))⟩
    have X4 : Ext w w4 := Ext.grownB X3 (by omega) g4
    have C4 := C3.grown g4 (fun e => by have := Option.some.inj e; omega)
    have D4 := B2.grown g4 (fun e => by have := Option.some.inj e; omega)
    refine .inl ⟨_, rfl, (Tryz.strings_Index ⟨#[63, 99, 97, 114]⟩ (mk (cutB 46 (bs s)).1) mx w4 (by show 4 < _; omega) (Ext.cell X4 hmx)).mono fun e w6 he => ?_⟩
    obtain ⟨rfl, rfl⟩ := he
    have hix : Lib.index (⟨#[63, 99, 97, 114]⟩ : ByteArray).data.toList (mk (cutB 46 (bs s)).1).data.toList = Lib.index lettersL (cutB 46 (bs s)).1 := rfl
    rw [hix]
    refine ⟨_, rfl, (part_ok b0 (cutB 46 (bs s)).2.1 (by omega) w6 (hg.ext X4) A4).mono fun e w7 he => ?_⟩
    rcases he with ⟨p2, rfl, A7, g7⟩ | ⟨p2, rfl, g7⟩
    rotate_left
    · exact .inr ⟨_, rfl, fail _ w7 _ _ _ _ rfl (Ext.grownB X4 (by omega) g7) (by rw [peekX, p1, if_pos rfl, p2]; rfl) (C4.grown g7 (fun e => by have := Option.some.inj e; omega)) (D4.grown g7 (fun e => by have := Option.some.inj e; omega))⟩
    have X7 : Ext w w7 := Ext.grownB X4 (by omega) g7
    have C7 := C4.grown g7 (fun e => by have := Option.some.inj e; omega)
    have D7 := D4.grown g7 (fun e => by have := Option.some.inj e; omega)
    refine .inl ⟨_, rfl, C7.sto (by simp) (by simp [Value.oneCell']), ?_⟩
    intro w8 hw8
    have C8 := C7.set 0 [.int .i64 (Lib.index lettersL (cutB 46 (bs s)).1), .string (mk (cutB 46 (cutB 46 (bs s)).2.1).1), .int .i64 0]
    simp only [setL, List.set] at C8
    have A8 := A7.setOther (b := b1) (by omega) 0 [.int .i64 (Lib.index lettersL (cutB 46 (bs s)).1), .string (mk (cutB 46 (cutB 46 (bs s)).2.1).1), .int .i64 0]
    have D8 := D7.setOther (b := b1) (by omega) 0 [.int .i64 (Lib.index lettersL (cutB 46 (bs s)).1), .string (mk (cutB 46 (cutB 46 (bs s)).2.1).1), .int .i64 0]
    rw [← hw8] at C8 A8 D8
    have X8 : Ext w w8 := by rw [hw8]; exact X7.setCells (by omega) _
    refine (part_ok b0 (cutB 46 (cutB 46 (bs s)).2.1).2.1 (by omega) w8 (hg.ext X8) A8).mono fun e w9 he => ?_
    rcases he with ⟨p3, rfl, A9, g9⟩ | ⟨p3, rfl, g9⟩
    rotate_left
    · exact .inr ⟨_, rfl, fail _ w9 _ _ _ _ rfl (Ext.grownB X8 (by omega) g9) (by rw [peekX, p1, if_pos rfl, p2, if_pos rfl, p3]; rfl) (C8.grown g9 (fun e => by have := Option.some.inj e; omega)) (D8.grown g9 (fun e => by have := Option.some.inj e; omega))⟩
    have X9 : Ext w w9 := Ext.grownB X8 (by omega) g9
    have C9 := C8.grown g9 (fun e => by have := Option.some.inj e; omega)
    have D9 := D8.grown g9 (fun e => by have := Option.some.inj e; omega)
    refine .inl ⟨_, rfl, (atoi_ok (mk (cutB 46 (cutB 46 (cutB 46 (bs s)).2.1).2.1).1) (by rw [mk_size]; omega) w9 (hg.ext X9)).mono fun e w11 he => ?_⟩
    obtain ⟨n, v, rfl, e11, hv⟩ := he
    rw [bs_mk] at hv
    have X11 := X9.trans e11
    have C11 := C9.ext e11
    have D11 := D9.ext e11
    have A11 := A9.ext e11
    refine ⟨_, _, rfl, C11.sto (by simp) (by simp [Value.oneCell']), ?_⟩
    intro w12 hw12
    have C12 := C11.set 2 [.int .i64 n]
    simp only [setL, List.set] at C12
    have A12 := A11.setOther (b := b1) (by omega) 2 [.int .i64 n]
    have D12 := D11.setOther (b := b1) (by omega) 2 [.int .i64 n]
    rw [← hw12] at C12 A12 D12
    have X12 : Ext w w12 := by rw [hw12]; exact X11.setCells (by omega) _
    -- what is still to be asked
    have hpx : peekX (bs s) = match Lib.atoiAll (cutB 46 (cutB 46 (cutB 46 (bs s)).2.1).2.1).1 with
        | .ok n =>
          if (cutB 46 (bs s)).1.length = 1 ∧ tokRight (Lib.index lettersL (cutB 46 (bs s)).1) (mk (cutB 46 (cutB 46 (bs s)).2.1).1) n = true ∧
              headL (Lib.index lettersL (cutB 46 (bs s)).1) (cutB 46 (cutB 46 (bs s)).2.1).1 n ++ (cutB 46 (cutB 46 (cutB 46 (bs s)).2.1).2.1).2.1 = bs s ∧
              (cutB 46 (cutB 46 (cutB 46 (bs s)).2.1).2.1).2.1.length = 16 ∧ (cutB 46 (cutB 46 (cutB 46 (bs s)).2.1).2.1).2.1.all (fun c => famByte c.toNat) = true
          then some (Lib.index lettersL (cutB 46 (bs s)).1, mk (cutB 46 (cutB 46 (bs s)).2.1).1, n) else none
        | _ => none := by rw [peekX, p1, if_pos rfl, p2, if_pos rfl, p3, if_pos rfl]
    obtain ⟨k, hk⟩ : ∃ k, k = Lib.index lettersL (cutB 46 (bs s)).1 := ⟨_, rfl⟩
    obtain ⟨fm, hfm⟩ : ∃ fm, fm = (cutB 46 (cutB 46 (bs s)).2.1).1 := ⟨_, rfl⟩
    obtain ⟨tl, htl⟩ : ∃ tl, tl = (cutB 46 (cutB 46 (cutB 46 (bs s)).2.1).2.1).2.1 := ⟨_, rfl⟩
    rw [← hk, ← hfm] at C12
    rw [← htl] at A12
    rw [← hk, ← hfm, ← htl] at hpx
    have tll : tl.length ≤ 1000000000 := by rw [htl]; omega
    have fml : fm.length ≤ 1000000000 := by rw [hfm]; omega
    have none_of : (∀ m, Lib.atoiAll (cutB 46 (cutB 46 (cutB 46 (bs s)).2.1).2.1).1 = .ok m → m = n → ¬ ((cutB 46 (bs s)).1.length = 1 ∧ tokRight k (mk fm) m = true ∧ headL k fm m ++ tl = bs s ∧ tl.length = 16 ∧ tl.all (fun c => famByte c.toNat) = true)) → peekX (bs s) = none := by
      intro h
      rw [hpx]
      rcases hv with ⟨_, ha⟩ | ⟨_, ha⟩
      · rw [ha]; exact if_neg (h n ha rfl)
      · match hb : Lib.atoiAll (cutB 46 (cutB 46 (cutB 46 (bs s)).2.1).2.1).1 with
        | .ok m => exact absurd hb (ha m)
        | .syntax => rfl
        | .range => rfl
    refine ⟨fun W => Ext w12 W, (Ext.refl w12).drew, cwd (fun q1 => ⟨conc, fail _ _ _ _ _ _ rfl X12.drew (none_of fun m _ _ h => q1 (by rw [mk_size]; omega)) C12.drew D12.drew⟩) fun q1 => ?_⟩
    have q1' : (cutB 46 (bs s)).1.length = 1 := by
      have := Classical.byContradiction q1
      rw [mk_size] at this; omega
    rcases hv with ⟨rfl, ha⟩ | ⟨⟨N, rfl⟩, ha⟩
    rotate_left
    · refine ⟨false, fun W _ => ⟨fun o => ⟨rfl, rfl⟩, eqErr_iface N W⟩, cwb (fun _ => ⟨conc, fail _ _ _ _ _ _ rfl X12.drew (none_of fun m hm _ => absurd hm (ha m)) C12.drew D12.drew⟩) fun h => by cases h⟩
    refine ⟨true, fun W _ => ⟨fun o => ⟨by rw [eqG]; rfl, by rw [eqG']; rfl⟩, eqErr_nil W⟩, cwb (fun h => by cases h) fun _ => ?_⟩
    refine ⟨_, _, _, fun W hW => (C12.ext hW).all, (right_ok k (mk fm) n (by rw [mk_size]; omega) w12.drew).mono fun e w16 he => ?_⟩
    obtain ⟨rfl, e16⟩ := he
    have X16 := X12.drew.trans e16
    have Z16 : Ext w12 w16 := (Ext.refl w12).drew.trans e16
    refine ⟨_, rfl, Z16, cwb (fun q2 => ⟨conc, fail _ _ _ _ _ _ rfl X16 (none_of fun m _ hm h => ?_) (C12.ext Z16) (D12.ext Z16)⟩) fun q2 => ?_⟩
    · rw [hm] at h; rw [h.2.1] at q2; cases q2
    have q2' : tokRight k (mk fm) n = true := by simpa using q2
    have tr := tokR q2'
    refine ⟨_, _, _, fun W hW => (C12.ext hW).all, _, fun W hW => (A12.ext hW).cell rfl, (head_ok k (mk fm) n tr.1 tr.2.1 tr.2.2.1 tr.2.2.2.1 tr.2.2.2.2 w16 (hg.ext X16)).mono fun e w20 he => ?_⟩
    obtain ⟨rfl, e20⟩ := he
    rw [bs_mk]
    have X20 := X16.trans e20
    have Z20 : Ext w12 w20 := Z16.trans e20
    have hhl : (headL k fm n).length ≤ 200 := by
      have : (Lib.itoa n).length ≤ 13 := by rw [Lib.itoa, if_neg (by omega)]; exact dig_len _ 12 (by omega)
      have h1 : ((lettersL.drop k.toNat).take 1).length ≤ 1 := by rw [List.length_take]; omega
      have h2 := tr.2.2.1
      rw [mk_size] at h2
      simp only [headL, List.length_append, List.length_cons, List.length_nil]; omega
    refine ⟨_, rfl, Z20, by rw [mk_size, mk_size]; omega, ?_⟩
    rw [mk_append]
    refine cwd (fun q3 => ⟨conc, fail _ _ _ _ _ _ rfl X20 (none_of fun m _ hm h => ?_) (C12.ext Z20) (D12.ext Z20)⟩) fun q3 => ?_
    · rw [hm] at h
      exact q3 (by rw [h.2.2.1, mk_bs])
    have q3' : headL k fm n ++ tl = bs s := by
      have := Classical.byContradiction q3
      rw [← this, bs_mk]
    refine ⟨_, fun W hW => (A12.ext hW).cell rfl, cwd (fun q4 => ⟨conc, fail _ _ _ _ _ _ rfl X20 (none_of fun m _ hm h => ?_) (C12.ext Z20) (D12.ext Z20)⟩) fun q4 => ?_⟩
    · exact q4 (by rw [mk_size]; omega)
    have q4' : tl.length = 16 := by
      have := Classical.byContradiction q4
      rw [mk_size] at this; omega
    refine ⟨fun i W => 0 ≤ i ∧ i ≤ tl.length ∧ Ext w12 W ∧ tl.all (fun c => famByte c.toNat) = (tl.drop i.toNat).all (fun c => famByte c.toNat), fun i _ => (tl.length - i).toNat, ⟨by omega, by omega, Z20, rfl⟩, ?_⟩
    rintro i fr w22 ⟨i0, i1, Z22, hA⟩
    have X22 := X12.trans Z22
    refine ⟨_, (A12.ext Z22).cell rfl, cwd (fun hi => ?_) fun hi => ?_⟩
    · rw [mk_size] at hi
      have hil : i.toNat < tl.length := by omega
      have hc : tl[i.toNat]? = some tl[i.toNat] := List.getElem?_eq_getElem hil
      rw [drop_at hc, List.all_cons] at hA
      refine ⟨_, (A12.ext Z22).cell rfl, i0, tl[i.toNat], hc, (sign_ok tl[i.toNat].toNat w22).mono fun e w24 he => ?_⟩
      obtain ⟨rfl, rfl⟩ := he
      refine ⟨_, rfl, cwb (fun q5 => ⟨conc, fail _ _ _ _ _ _ rfl X22 (none_of fun m _ hm h => ?_) (C12.ext Z22) (D12.ext Z22)⟩) fun q5 => ⟨rfl, ?_⟩⟩
      · rw [hA] at h
        have : famByte tl[i.toNat].toNat = false := by simpa using q5
        rw [this] at h; simp at h
      · have : famByte tl[i.toNat].toNat = true := by simpa using q5
        rw [this, Bool.true_and] at hA
        rw [wrap_i64 (by omega) (by omega)]
        exact ⟨⟨by omega, by omega, Z22, by rw [hA, show (i + 1).toNat = i.toNat + 1 by omega]⟩, by dsimp only; omega⟩
    · rw [mk_size] at hi
      rw [List.drop_eq_nil_of_le (by omega), List.all_nil] at hA
      have C22 := C12.ext Z22
      have D22 := D12.ext Z22
      refine ⟨_, _, _, C22.all, C22.sto (by simp) (by simp [Value.oneCell']), ?_⟩
      intro w25 hw25
      have C25 := C22.set 0 [.int .i64 k, .string (mk fm), .int .i64 n]
      simp only [setL, List.set] at C25
      have D25 := D22.setOther (b := b1) (by omega) 0 [.int .i64 k, .string (mk fm), .int .i64 n]
      rw [← hw25] at C25 D25
      refine ⟨D25.sto (by simp) (by simp [Value.oneCell']), ?_⟩
      intro w26 hw26
      have D26 := D25.set 0 [.int .i64 0]
      simp only [setL, List.set] at D26
      have C26 := C25.setOther (b := b2) (by omega) 0 [.int .i64 0]
      rw [← hw26] at C26 D26
      have X26 : Ext w w26 := by rw [hw26, hw25]; exact (X22.setCells (by omega) _).setCells (by omega) _
      have hsome : peekX (bs s) = some (k, mk fm, n) := by
        rw [hpx, ha]; exact if_pos ⟨q1', q2', q3', q4', hA⟩
      rw [y1, y2] at *
      exact ⟨rfl, rfl, X26, k, mk fm, n, hsome, C26, D26⟩
  · rw [nt] at hq
    have done : ∀ (f1 : Fr) (ds : List Deferred) (a1 : Act) (W1 : World), Rep ds 64 a1 f1 → [f1 2, f1 3] = [.pointer (some ⟨w.heap.size + 1, 0, none⟩), .pointer (some ⟨w.heap.size + 2, 0, none⟩)] →
        ds = [{ target := .fn (.func 86) #[.pointer (some ⟨w.heap.size + 1, 0, none⟩), .pointer (some ⟨w.heap.size + 2, 0, none⟩)], args := #[] }] → Ext w W1 → ∀ k f n, peekX (bs s) = some (k, f, n) →
        Blk W1 (w.heap.size + 1) [.int .i64 k, .string f, .int .i64 n] → Blk W1 (w.heap.size + 2) [.int .i64 0] → LeavesInM Fence.wide 0 prg Tryz.f44 a1.tmps (Ret w (peekV (peekX (bs s)))) a1.defers .returning W1 := by
      intro f1 ds a1 W1 r1 hv hd hE k f n hp B1 B2
      have f2 : f1 2 = .pointer (some ⟨w.heap.size + 1, 0, none⟩) := by simpa using congrArg (fun l => l.getD 0 undef) hv
      have f3 : f1 3 = .pointer (some ⟨w.heap.size + 2, 0, none⟩) := by simpa using congrArg (fun l => l.getD 1 undef) hv
      rw [r1.1, hd]
      refine ⟨by simp, .inr ⟨(by intro h; cases h), _, _, 86, #[.pointer (some ⟨w.heap.size + 1, 0, none⟩), .pointer (some ⟨w.heap.size + 2, 0, none⟩)], rfl, inv86 _ _ _, fun _ _ => trivial, ?_⟩⟩
      refine (peekD_idle (w.heap.size + 1) (w.heap.size + 2) W1).mono ?_
      rintro e u' w' ⟨rfl, rfl, rfl⟩
      simp only [settle]
      have hend := peekEnd r1 f2 f3 B1 B2
      simp only [LeavesInM, LeavesIn]
      refine ⟨_, hend, ?_, hE⟩
      rw [hp]; rfl
    cases e with
    | exit id => obtain ⟨_, _, _, _, h⟩ := hq; exact h.elim
    | goto l => exact hq.elim
    | outgrown => exact hq.elim
    | normal =>
      obtain ⟨f1, ds, r1, k1, hv, hd, hE, k, f, n, hp, B1, B2⟩ := hq
      exact done f1 ds a1 W1 r1 hv hd hE k f n hp B1 B2
    | ret =>
      obtain ⟨f1, ds, r1, k1, hv, hd, hE, k, f, n, hp, B1, B2⟩ := hq
      exact done f1 ds a1 W1 r1 hv hd hE k f n hp B1 B2
    | panic ch =>
      obtain ⟨f1, ds, r1, hv, hd, hE, hch, hp, ⟨x1, x2, x3, B1⟩, x4, B2⟩ := hq
      subst hch
      have f2 : f1 2 = .pointer (some ⟨w.heap.size + 1, 0, none⟩) := by simpa using congrArg (fun l => l.getD 0 undef) hv
      have f3 : f1 3 = .pointer (some ⟨w.heap.size + 2, 0, none⟩) := by simpa using congrArg (fun l => l.getD 1 undef) hv
      show LeavesInM _ _ _ _ _ _ a1.defers (.panicking [spoiltE]) W1
      rw [r1.1, hd]
      refine ⟨by simp, .inr ⟨(by intro h; cases h), _, _, 86, #[.pointer (some ⟨w.heap.size + 1, 0, none⟩), .pointer (some ⟨w.heap.size + 2, 0, none⟩)], rfl, inv86 _ _ _, fun _ _ => trivial, ?_⟩⟩
      refine (peekD_panic (w.heap.size + 1) (w.heap.size + 2) (by omega) W1 x1 x2 x3 x4 B1 B2).mono ?_
      rintro e u' w' ⟨rfl, rfl, hw'⟩
      have E1 : Ext w (W1.alloc (.cells #[] 138)) := hE.alloc _
      have C1 := (B1.alloc (.cells #[] 138)).set 0 [.int .i64 0, .string ⟨#[]⟩, .int .i64 0]
      simp only [setL, List.set] at C1
      have C2 := C1.setOther (b := w.heap.size + 2) (by omega) 0 [.int .i64 3]
      have D2 := ((B2.alloc (.cells #[] 138)).setOther (b := w.heap.size + 1) (by omega) 0 [.int .i64 0, .string ⟨#[]⟩, .int .i64 0]).set 0 [.int .i64 3]
      simp only [setL, List.set] at D2
      rw [← hw'] at C2 D2
      have E2 : Ext w w' := by rw [hw']; exact (E1.setCells (by omega) _).setCells (by omega) _
      simp only [settle]
      have hend := peekEnd r1 f2 f3 C2 D2
      simp only [LeavesInM, LeavesIn]
      refine ⟨_, hend, ?_, E2⟩
      rw [hp]; rfl

end Go.Proofs.YtbbcofdibkgalaaGreatDoor
