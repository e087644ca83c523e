import Derived.Test.YtbbcofdibkgalaaGreatDoorEngR
import Derived.Test.YtbbcofdibkgalaaGreatDoorWb
set_option linter.unusedVariables false
set_option maxRecDepth 100000
set_option maxHeartbeats 4000000
namespace Go.Proofs.YtbbcofdibkgalaaGreatDoor
open Go.Eng
def cL : Code → Code | .seq a _ => a | .cond _ a _ => a | .block _ a => a | .loop a => a | .scope a => a | .rangeFunc _ _ a _ => a | c => c
def cR : Code → Code | .seq _ b => b | .cond _ _ b => b | .rangeFunc _ _ _ b => b | c => c
noncomputable def TbI : Tab := [
  (3, ⟨.sc (.int .i64), Tryz.t3.desc, (.int .i64 0), 1⟩),
  (4, ⟨.sc (.bool), Tryz.t4.desc, (.bool false), 1⟩),
  (9, ⟨.sc (.str), Tryz.t9.desc, (.string ⟨#[]⟩), 1⟩),
  (30, ⟨.sc (.int .i64), Tryz.t3.desc, (.int .i64 0), 1⟩),
  (47, ⟨.agg [.int .i64, .str, .int .i64], Tryz.t46.desc, (.agg #[(.int .i64 0), (.string ⟨#[]⟩), (.int .i64 0)]), 3⟩),
  (51, ⟨.sc (.slice), Tryz.t51.desc, (.slice none 0 0), 1⟩),
  (56, ⟨.agg [.str, .str], Tryz.t55.desc, (.agg #[(.string ⟨#[]⟩), (.string ⟨#[]⟩)]), 2⟩),
  (62, ⟨.sc (.any), Tryz.t62.desc, .nilFunc, 1⟩),
  (93, ⟨.tup [(false, [.str]), (false, [.str]), (false, [.bool])], Tryz.t93.desc, (.tuple #[(.string ⟨#[]⟩), (.string ⟨#[]⟩), (.bool false)]), 1⟩),
  (98, ⟨.tup [(false, [.str]), (false, [.int .i64])], Tryz.t98.desc, (.tuple #[(.string ⟨#[]⟩), (.int .i64 0)]), 1⟩),
  (121, ⟨.sc (.any), Tryz.t120.desc, .nilFunc, 1⟩),
  (138, ⟨.agg [], Tryz.t137.desc, (.agg #[]), 0⟩),
  (141, ⟨.sc (.ptr), Tryz.t141.desc, (.pointer none), 1⟩),
  (144, ⟨.sc (.any), Tryz.t143.desc, .nilIface, 1⟩),
  (145, ⟨.tup [(false, [.int .i64]), (false, [.any])], Tryz.t145.desc, (.tuple #[(.int .i64 0), .nilIface]), 1⟩)]
theorem tabOkI : TabOk prg TbI := tabOk_of (by kernel_rfl) (by kernel_rfl)
def fkI : List Nat := [29, 70, 71, 72, 73, 87, 88, 89, 90]
theorem fokOkI (nx : List (Nat × List (Bool × List LK))) : FokOk prg ⟨fkI, nx⟩ := fokOk_of (by kernel_rfl)
/-- signet/seal.part -/
theorem f87_wpI (bs : Nat) (os : Nat) (w : World) (R : Ending → World → Prop) (hyp :
 ∃ (x : ByteArray), w.cell? ⟨bs, os, none⟩ = some (.string x) ∧
 Calls prg 71 #[.string x, .string ⟨#[46]⟩] w fun e w2 => ∃ (r : ByteArray), ∃ (r1 : ByteArray), ∃ (r2 : Bool), e = .returned (.tuple #[.string r, .string r1, .bool r2]) ∧
 cond (!r2) (
 prg.concrete 138 = true ∧ ([] : List Deferred) = [] ∧ R (.panicked [{ v := .iface 138 (.agg #[]), recovered := false }]) w2) (
 Sto w2 bs os [.string r1] ∧ ∀ w3, w3 = w2.setCells bs os [.string r1] →
 ([] : List Deferred) = [] ∧ R (.returned (.string r)) w3)) :
    Calls prg 87 #[.pointer (some ⟨bs, os, none⟩)] w R :=
  callsI_mk (fok := ⟨fkI, []⟩) .nil [.pointer (some ⟨bs, os, none⟩)] w R tabOkI (fokOkI _) [87] Tryz.func87 (by kernel_rfl) _ (by kernel_rfl) hyp

/-- signet/seal.Peek -/
theorem f44_fi (s : ByteArray) (w : World) (KX : Option (List PanicEntry) → List Value → List Deferred → World → Prop) (hyp :
 ∀ (b_ : Nat) (w1 : World), b_ = w.heap.size → w1 = w.alloc (.cells #[.string s] 9) →
 ∀ (b_1 : Nat) (w2 : World), b_1 = w1.heap.size → w2 = w1.alloc (.cells #[.int .i64 0, .string ⟨#[]⟩, .int .i64 0] 47) →
 ∀ (b_2 : Nat) (w3 : World), b_2 = w2.heap.size → w3 = w2.alloc (.cells #[.int .i64 0] 30) →
 ∃ (all : ByteArray), w3.cell? ⟨b_, 0, none⟩ = some (.string all) ∧
 Calls prg 87 #[.pointer (some ⟨b_, 0, none⟩)] w3 fun e w4 => (∃ (kind : ByteArray), e = .returned (.string kind) ∧
 Calls prg 88 #[.string ⟨#[63, 99, 97, 114]⟩, .string kind] w4 fun e w6 => ∃ (r : Int), e = .returned (.int .i64 r) ∧
 Calls prg 87 #[.pointer (some ⟨b_, 0, none⟩)] w6 fun e w7 => (∃ (r1 : ByteArray), e = .returned (.string r1) ∧
 Sto w7 b_1 0 [.int .i64 r, .string r1, .int .i64 0] ∧ ∀ w8, w8 = w7.setCells b_1 0 [.int .i64 r, .string r1, .int .i64 0] →
 Calls prg 87 #[.pointer (some ⟨b_, 0, none⟩)] w8 fun e w9 => (∃ (r2 : ByteArray), e = .returned (.string r2) ∧
 Calls prg 89 #[.string r2] w9 fun e w11 => ∃ (r3 : Int), ∃ (r4 : Value), e = .returned (.tuple #[.int .i64 r3, r4]) ∧
 Sto w11 b_1 2 [.int .i64 r3] ∧ ∀ w12, w12 = w11.setCells b_1 2 [.int .i64 r3] →
 ∃ (Drw1 : World → Prop), Drw1 w12.drew ∧
 cond (decide ((kind.size : Int) ≠ (1 : Int))) (
 prg.concrete 138 = true ∧ KX (some ([{ v := .iface 138 (.agg #[]), recovered := false }])) [.pointer (some ⟨b_1, 0, none⟩), .pointer (some ⟨b_2, 0, none⟩)] [{ target := .fn (.func 86) #[.pointer (some ⟨b_1, 0, none⟩), .pointer (some ⟨b_2, 0, none⟩)], args := #[] }] w12.drew) (
 ∃ eq : Bool, (∀ w13 : World, Drw1 w13 → EqC prg 144 r4 w13 eq) ∧ cond (!eq) (
 prg.concrete 138 = true ∧ KX (some ([{ v := .iface 138 (.agg #[]), recovered := false }])) [.pointer (some ⟨b_1, 0, none⟩), .pointer (some ⟨b_2, 0, none⟩)] [{ target := .fn (.func 86) #[.pointer (some ⟨b_1, 0, none⟩), .pointer (some ⟨b_2, 0, none⟩)], args := #[] }] w12.drew) (
 ∃ (Kind : Int) (Family : ByteArray) (Serial : Int), (∀ w14 : World, Drw1 w14 → w14.rangeAt b_1 0 [.int .i64 Kind, .string Family, .int .i64 Serial]) ∧
 Calls prg 29 #[.agg #[.int .i64 Kind, .string Family, .int .i64 Serial]] w12.drew fun e w16 => ∃ (r5 : Bool), e = .returned (.bool r5) ∧
 Drw1 w16 ∧ cond (!r5) (
 prg.concrete 138 = true ∧ KX (some ([{ v := .iface 138 (.agg #[]), recovered := false }])) [.pointer (some ⟨b_1, 0, none⟩), .pointer (some ⟨b_2, 0, none⟩)] [{ target := .fn (.func 86) #[.pointer (some ⟨b_1, 0, none⟩), .pointer (some ⟨b_2, 0, none⟩)], args := #[] }] w16) (
 ∃ (Kind1 : Int) (Family1 : ByteArray) (Serial1 : Int), (∀ w17 : World, Drw1 w17 → w17.rangeAt b_1 0 [.int .i64 Kind1, .string Family1, .int .i64 Serial1]) ∧
 ∃ (x : ByteArray), (∀ w18 : World, Drw1 w18 → w18.cell? ⟨b_, 0, none⟩ = some (.string x)) ∧
 Calls prg 90 #[.agg #[.int .i64 Kind1, .string Family1, .int .i64 Serial1]] w16 fun e w20 => ∃ (r6 : ByteArray), e = .returned (.string r6) ∧
 Drw1 w20 ∧ r6.size + x.size ≤ 9223372036854775807 ∧ cond (decide ((r6 ++ x) ≠ all)) (
 prg.concrete 138 = true ∧ KX (some ([{ v := .iface 138 (.agg #[]), recovered := false }])) [.pointer (some ⟨b_1, 0, none⟩), .pointer (some ⟨b_2, 0, none⟩)] [{ target := .fn (.func 86) #[.pointer (some ⟨b_1, 0, none⟩), .pointer (some ⟨b_2, 0, none⟩)], args := #[] }] w20) (
 ∃ (x1 : ByteArray), (∀ w21 : World, Drw1 w21 → w21.cell? ⟨b_, 0, none⟩ = some (.string x1)) ∧
 cond (decide ((x1.size : Int) ≠ (16 : Int))) (
 prg.concrete 138 = true ∧ KX (some ([{ v := .iface 138 (.agg #[]), recovered := false }])) [.pointer (some ⟨b_1, 0, none⟩), .pointer (some ⟨b_2, 0, none⟩)] [{ target := .fn (.func 86) #[.pointer (some ⟨b_1, 0, none⟩), .pointer (some ⟨b_2, 0, none⟩)], args := #[] }] w20) (
 ∃ (Inv1 : Int → World → Prop) (Mea1 : Int → World → Nat), Inv1 0 w20 ∧ ∀ (i : Int) (fr : Nat → Value) (w22 : World), 
 Inv1 i w22 →
 ∃ (x2 : ByteArray), w22.cell? ⟨b_, 0, none⟩ = some (.string x2) ∧
 cond (decide (i < (x2.size : Int))) (
 ∃ (x3 : ByteArray), w22.cell? ⟨b_, 0, none⟩ = some (.string x3) ∧
 0 ≤ i ∧ ∃ c : UInt8, x3.data.toList[i.toNat]? = some c ∧
 Calls prg 73 #[.int .u8 (c.toNat : Int)] w22 fun e w24 => ∃ (r7 : Bool), e = .returned (.bool r7) ∧
 cond (!r7) (
 prg.concrete 138 = true ∧ KX (some ([{ v := .iface 138 (.agg #[]), recovered := false }])) [.pointer (some ⟨b_1, 0, none⟩), .pointer (some ⟨b_2, 0, none⟩)] [{ target := .fn (.func 86) #[.pointer (some ⟨b_1, 0, none⟩), .pointer (some ⟨b_2, 0, none⟩)], args := #[] }] w24) (
 (([{ target := .fn (.func 86) #[.pointer (some ⟨b_1, 0, none⟩), .pointer (some ⟨b_2, 0, none⟩)], args := #[] }] : List Deferred) = [{ target := .fn (.func 86) #[.pointer (some ⟨b_1, 0, none⟩), .pointer (some ⟨b_2, 0, none⟩)], args := #[] }] ∧ Inv1 (IntKind.i64.wrap (i + (1 : Int))) w24 ∧ Mea1 (IntKind.i64.wrap (i + (1 : Int))) w24 < Mea1 i w22))) (
 ∃ (Kind2 : Int) (Family2 : ByteArray) (Serial2 : Int), w22.rangeAt b_1 0 [.int .i64 Kind2, .string Family2, .int .i64 Serial2] ∧
 Sto w22 b_1 0 [.int .i64 Kind2, .string Family2, .int .i64 Serial2] ∧ ∀ w25, w25 = w22.setCells b_1 0 [.int .i64 Kind2, .string Family2, .int .i64 Serial2] →
 Sto w25 b_2 0 [.int .i64 0] ∧ ∀ w26, w26 = w25.setCells b_2 0 [.int .i64 0] →
 KX none [.pointer (some ⟨b_1, 0, none⟩), .pointer (some ⟨b_2, 0, none⟩)] [{ target := .fn (.func 86) #[.pointer (some ⟨b_1, 0, none⟩), .pointer (some ⟨b_2, 0, none⟩)], args := #[] }] w26))))))) ∨ ∃ ch2, e = .panicked ch2 ∧ KX (some ch2) [.pointer (some ⟨b_1, 0, none⟩), .pointer (some ⟨b_2, 0, none⟩)] [{ target := .fn (.func 86) #[.pointer (some ⟨b_1, 0, none⟩), .pointer (some ⟨b_2, 0, none⟩)], args := #[] }] w9) ∨ ∃ ch1, e = .panicked ch1 ∧ KX (some ch1) [.pointer (some ⟨b_1, 0, none⟩), .pointer (some ⟨b_2, 0, none⟩)] [{ target := .fn (.func 86) #[.pointer (some ⟨b_1, 0, none⟩), .pointer (some ⟨b_2, 0, none⟩)], args := #[] }] w7) ∨ ∃ ch, e = .panicked ch ∧ KX (some ch) [.pointer (some ⟨b_1, 0, none⟩), .pointer (some ⟨b_2, 0, none⟩)] [{ target := .fn (.func 86) #[.pointer (some ⟨b_1, 0, none⟩), .pointer (some ⟨b_2, 0, none⟩)], args := #[] }] w4) :
    FI Fence.wide 0 prg TbI ⟨fkI, []⟩ [87] (Tryz.f44.body.getD .skip) (.node .nil (.node .nil (.node .nil (.node .nil (.node .nil (.node .nil (.node .nil (.node (.node (.draw (.op 0 (.op 1 (.op 2 (.op 3 (.op 4 (.op 5 (.op 6 (.op 7 (.op 8 (.op 9 (.op 10 (.op 11 (.op 12 (.op 13 (.op 15 (.op 17 (.op 14 (.op 16 (.op 18 (.op 19 (.op 20 (.op 21 (.op 22 (.op 23 (.op 24 .done)))))))))))))))))))))))))) .nil) (.node (.node .nil (.loop [(8, .int .i64)] [50, 51, 52, 53, 54, 55, 56, 57, 58, 59, 60, 61, 62] .nil)) .nil))))))))) (arg0 [.string s]) [] w (fun e f ds w => match e with | .normal => KX none [f 2, f 3] ds w | .ret => KX none [f 2, f 3] ds w | _ => False) (fun ch f ds w => KX (some ch) [f 2, f 3] ds w) :=
  Eq.mp (by kernel_rfl) hyp
theorem f44_ok : okI TbI Tryz.f44 (.node .nil (.node .nil (.node .nil (.node .nil (.node .nil (.node .nil (.node .nil (.node (.node (.draw (.op 0 (.op 1 (.op 2 (.op 3 (.op 4 (.op 5 (.op 6 (.op 7 (.op 8 (.op 9 (.op 10 (.op 11 (.op 12 (.op 13 (.op 15 (.op 17 (.op 14 (.op 16 (.op 18 (.op 19 (.op 20 (.op 21 (.op 22 (.op 23 (.op 24 .done)))))))))))))))))))))))))) .nil) (.node (.node .nil (.loop [(8, .int .i64)] [50, 51, 52, 53, 54, 55, 56, 57, 58, 59, 60, 61, 62] .nil)) .nil))))))))) 1 = true := by kernel_rfl

/-- signet/field.pieces$1 -/
theorem f106_wpI (l : Nat) (bfv0 : Nat) (ofv0 : Nat) (w : World) (R : Ending → World → Prop) (hyp :
 ∃ (Inv1 : Bool → World → Prop) (Mea1 : Bool → World → Nat), Inv1 true w ∧ ∀ (more : Bool) (fr : Nat → Value) (w1 : World), 
 Inv1 more w1 →
 cond more (
 ∃ (x : ByteArray), w1.cell? ⟨bfv0, ofv0, none⟩ = some (.string x) ∧
 Calls prg 71 #[.string x, .string ⟨#[38]⟩] w1 fun e w3 => ∃ (r : ByteArray), ∃ (r1 : ByteArray), ∃ (r2 : Bool), e = .returned (.tuple #[.string r, .string r1, .bool r2]) ∧
 Sto w3 bfv0 ofv0 [.string r1] ∧ ∀ w4, w4 = w3.setCells bfv0 ofv0 [.string r1] →
 cond (decide (r ≠ ⟨#[]⟩)) (
 YieldAt Fence.wide 0 prg l #[.string r] w4 fun e w5 => ∃ more1 : Bool, e = .returned (.bool more1) ∧
 cond (!more1) (
 ([] : List Deferred) = [] ∧ R (.returned (.tuple #[])) w5) (
 (([] : List Deferred) = [] ∧ Inv1 r2 w5 ∧ Mea1 r2 w5 < Mea1 more w1))) (
 (([] : List Deferred) = [] ∧ Inv1 r2 w4 ∧ Mea1 r2 w4 < Mea1 more w1))) (
 ([] : List Deferred) = [] ∧ R (.returned (.tuple #[])) w1)) :
    Calls prg 106 #[.func (.yield l) #[] #[], .pointer (some ⟨bfv0, ofv0, none⟩)] w R :=
  callsI_mk (fok := ⟨fkI, []⟩) (.node .nil (.loop [(3, .bool)] [4, 5, 6, 7, 8, 9, 10, 11, 12, 13, 14, 15, 16, 17, 18, 19] .nil)) [.func (.yield l) #[] #[], .pointer (some ⟨bfv0, ofv0, none⟩)] w R tabOkI (fokOkI _) [87] Tryz.func106 (by kernel_rfl) _ (by kernel_rfl) hyp

/-- a piece of signet/field.Parse -/
theorem pA_fi (ds : List Deferred) (fr : Fr) (w : World) (KX : Ex → List Value → World → Prop) (hyp :
 ∀ (b_ : Nat) (w1 : World), b_ = w.heap.size → w1 = w.alloc (.cells #[.slice none 0 0] 51) →
 ∀ (b_1 : Nat) (w2 : World), b_1 = w1.heap.size → w2 = w1.alloc (.cells #[.int .i64 0] 30) →
 ds = ds ∧ KX .normal [.pointer (some ⟨b_, 0, none⟩), .pointer (some ⟨b_1, 0, none⟩)] w2) :
    FI Fence.wide 0 prg TbI ⟨fkI, []⟩ [87] (cL (Tryz.f28.body.getD .skip)) .nil fr ds w (fun e f ds' w => ds' = ds ∧ KX e [f 2, f 3] w) (fun _ _ _ _ => False) :=
  Eq.mp (by kernel_rfl) hyp
theorem pA_ok : (codeOk Tryz.f28.ntmps (cL (Tryz.f28.body.getD .skip)) && noDef (cL (Tryz.f28.body.getD .skip)) && anOk TbI (cL (Tryz.f28.body.getD .skip)) .nil) = true := by kernel_rfl

/-- a piece of signet/field.Parse -/
theorem pB_fi (ds : List Deferred) (fr : Fr) (s : ByteArray) (bp2 : Nat) (op2 : Nat) (bp3 : Nat) (op3 : Nat) (w : World) (KX : Ex → List Value → World → Prop) (hyp :
 cond (decide ((s.size : Int) > (16384 : Int))) (
 Sto w bp2 op2 [.slice none 0 0] ∧ ∀ w1, w1 = w.setCells bp2 op2 [.slice none 0 0] →
 Sto w1 bp3 op3 [.int .i64 2] ∧ ∀ w2, w2 = w1.setCells bp3 op3 [.int .i64 2] →
 ds = ds ∧ KX .ret [] w2) (
 ds = ds ∧ KX .normal [] w)) :
    FI Fence.wide 0 prg TbI ⟨fkI, []⟩ [87] (cL (cR (Tryz.f28.body.getD .skip))) .nil (upd (upd (upd fr 0 (.string s)) 2 (.pointer (some ⟨bp2, op2, none⟩))) 3 (.pointer (some ⟨bp3, op3, none⟩))) ds w (fun e f ds' w => ds' = ds ∧ KX e [] w) (fun _ _ _ _ => False) :=
  Eq.mp (by kernel_rfl) hyp
theorem pB_ok : (codeOk Tryz.f28.ntmps (cL (cR (Tryz.f28.body.getD .skip))) && noDef (cL (cR (Tryz.f28.body.getD .skip))) && anOk TbI (cL (cR (Tryz.f28.body.getD .skip))) .nil) = true := by kernel_rfl

/-- a piece of signet/field.Parse -/
theorem pC_fi (ds : List Deferred) (fr : Fr) (w : World) (KX : Ex → List Value → World → Prop) (hyp :
 ∀ (b_ : Nat) (w1 : World), b_ = w.heap.size → w1 = w.alloc (.cells #[.slice none 0 0] 51) →
 ds = ds ∧ KX .normal [.pointer (some ⟨b_, 0, none⟩)] w1) :
    FI Fence.wide 0 prg TbI ⟨fkI, []⟩ [87] (cL (cR (cR (Tryz.f28.body.getD .skip)))) .nil fr ds w (fun e f ds' w => ds' = ds ∧ KX e [f 4] w) (fun _ _ _ _ => False) :=
  Eq.mp (by kernel_rfl) hyp
theorem pC_ok : (codeOk Tryz.f28.ntmps (cL (cR (cR (Tryz.f28.body.getD .skip)))) && noDef (cL (cR (cR (Tryz.f28.body.getD .skip)))) && anOk TbI (cL (cR (cR (Tryz.f28.body.getD .skip)))) .nil) = true := by kernel_rfl

/-- a piece of signet/field.Parse -/
theorem pD_fi (ds : List Deferred) (fr : Fr) (s : ByteArray) (w : World) (KX : Ex → List Value → World → Prop) (hyp :
 Calls prg 70 #[.string s] w fun e w2 => ∃ (r : Value), e = .returned r ∧
 ds = ds ∧ KX .normal [r] w2) :
    FI Fence.wide 0 prg TbI ⟨fkI, []⟩ [87] (cL (cL (cR (cR (cR (Tryz.f28.body.getD .skip)))))) .nil (upd fr 0 (.string s)) ds w (fun e f ds' w => ds' = ds ∧ KX e [f 17] w) (fun _ _ _ _ => False) :=
  Eq.mp (by kernel_rfl) hyp
theorem pD_ok : (codeOk Tryz.f28.ntmps (cL (cL (cR (cR (cR (Tryz.f28.body.getD .skip)))))) && noDef (cL (cL (cR (cR (cR (Tryz.f28.body.getD .skip)))))) && anOk TbI (cL (cL (cR (cR (cR (Tryz.f28.body.getD .skip)))))) .nil) = true := by kernel_rfl

/-- a piece of signet/field.Parse -/
theorem pE_fi (ds : List Deferred) (l : Nat) (fr : Fr) (bp2 : Nat) (op2 : Nat) (bp3 : Nat) (op3 : Nat) (bp4 : Nat) (op4 : Nat) (p : ByteArray) (w : World) (KX : Ex → List Value → World → Prop) (hyp :
 ∃ (x : Option Addr) (nx cx : Nat), w.cell? ⟨bp4, op4, none⟩ = some (.slice x nx cx) ∧
 cond (decide ((nx : Int) = (64 : Int))) (
 Sto w bp2 op2 [.slice none 0 0] ∧ ∀ w1, w1 = w.setCells bp2 op2 [.slice none 0 0] →
 Sto w1 bp3 op3 [.int .i64 2] ∧ ∀ w2, w2 = w1.setCells bp3 op3 [.int .i64 2] →
 ds = ds ∧ KX .ret [] w2) (
 Calls prg 71 #[.string p, .string ⟨#[61]⟩] w fun e w4 => ∃ (r : ByteArray), ∃ (r1 : ByteArray), ∃ (r2 : Bool), e = .returned (.tuple #[.string r, .string r1, .bool r2]) ∧
 Calls prg 72 #[.string r] w4 fun e w6 => ∃ (r3 : ByteArray), ∃ (r4 : Int), e = .returned (.tuple #[.string r3, .int .i64 r4]) ∧
 Calls prg 72 #[.string r1] w6 fun e w8 => ∃ (r5 : ByteArray), ∃ (r6 : Int), e = .returned (.tuple #[.string r5, .int .i64 r6]) ∧
 cond (decide (r4 ≠ (0 : Int))) (
 Sto w8 bp2 op2 [.slice none 0 0] ∧ ∀ w9, w9 = w8.setCells bp2 op2 [.slice none 0 0] →
 Sto w9 bp3 op3 [.int .i64 3] ∧ ∀ w10, w10 = w9.setCells bp3 op3 [.int .i64 3] →
 ds = ds ∧ KX .ret [] w10) (
 cond (decide (r6 ≠ (0 : Int))) (
 Sto w8 bp2 op2 [.slice none 0 0] ∧ ∀ w11, w11 = w8.setCells bp2 op2 [.slice none 0 0] →
 Sto w11 bp3 op3 [.int .i64 3] ∧ ∀ w12, w12 = w11.setCells bp3 op3 [.int .i64 3] →
 ds = ds ∧ KX .ret [] w12) (
 ∃ (x1 : Option Addr) (nx1 cx1 : Nat), w8.cell? ⟨bp4, op4, none⟩ = some (.slice x1 nx1 cx1) ∧
 ∀ (b_ : Nat) (w13 : World), b_ = w8.heap.size → w13 = w8.alloc (.cells #[.string r3, .string r5] 56) →
 ∃ (l : Option Addr) (nl cl : Nat) (w14 : World), (Builtin.append_ #[51, 51] 51 #[.slice x1 nx1 cx1, .slice (some ⟨b_, 0, none⟩) 1 1]).run prg w13 = .ok (.slice l nl cl) w14 ∧
 Sto w14 bp4 op4 [.slice l nl cl] ∧ ∀ w15, w15 = w14.setCells bp4 op4 [.slice l nl cl] →
 ds = ds ∧ KX .normal [] w15)))) :
    FI (Fence.wide.inRound l) 0 prg TbI ⟨fkI, []⟩ [87] (cR (cL (cR (cL (cR (cR (cR (Tryz.f28.body.getD .skip)))))))) .nil (upd (upd (upd (upd fr 2 (.pointer (some ⟨bp2, op2, none⟩))) 3 (.pointer (some ⟨bp3, op3, none⟩))) 4 (.pointer (some ⟨bp4, op4, none⟩))) 5 (.string p)) ds w (fun e f ds' w => ds' = ds ∧ KX e [] w) (fun _ _ _ _ => False) :=
  Eq.mp (by kernel_rfl) hyp
theorem pE_ok : (codeOk Tryz.f28.ntmps (cR (cL (cR (cL (cR (cR (cR (Tryz.f28.body.getD .skip)))))))) && noDef (cR (cL (cR (cL (cR (cR (cR (Tryz.f28.body.getD .skip)))))))) && anOk TbI (cR (cL (cR (cL (cR (cR (cR (Tryz.f28.body.getD .skip)))))))) .nil) = true := by kernel_rfl

/-- a piece of signet/field.Parse -/
theorem pS_fi (ds : List Deferred) (l : Nat) (fr : Fr) (p : ByteArray) (w : World) (KX : Ex → List Value → World → Prop) (hyp :
 ds = ds ∧ KX .normal [.string p] w) :
    FI (Fence.wide.inRound l) 0 prg TbI ⟨fkI, []⟩ [87] (cL (cL (cR (cL (cR (cR (cR (Tryz.f28.body.getD .skip)))))))) .nil (upd fr 18 (.string p)) ds w (fun e f ds' w => ds' = ds ∧ KX e [f 5] w) (fun _ _ _ _ => False) :=
  Eq.mp (by kernel_rfl) hyp
theorem pS_ok : (codeOk Tryz.f28.ntmps (cL (cL (cR (cL (cR (cR (cR (Tryz.f28.body.getD .skip)))))))) && noDef (cL (cL (cR (cL (cR (cR (cR (Tryz.f28.body.getD .skip)))))))) && anOk TbI (cL (cL (cR (cL (cR (cR (cR (Tryz.f28.body.getD .skip)))))))) .nil) = true := by kernel_rfl

/-- a piece of signet/field.Parse -/
theorem pF_fi (ds : List Deferred) (fr : Fr) (bp2 : Nat) (op2 : Nat) (bp3 : Nat) (op3 : Nat) (bp4 : Nat) (op4 : Nat) (w : World) (KX : Ex → List Value → World → Prop) (hyp :
 ∃ (x : Option Addr) (nx cx : Nat), w.cell? ⟨bp4, op4, none⟩ = some (.slice x nx cx) ∧
 Sto w bp2 op2 [.slice x nx cx] ∧ ∀ w1, w1 = w.setCells bp2 op2 [.slice x nx cx] →
 Sto w1 bp3 op3 [.int .i64 0] ∧ ∀ w2, w2 = w1.setCells bp3 op3 [.int .i64 0] →
 ds = ds ∧ KX .ret [] w2) :
    FI Fence.wide 0 prg TbI ⟨fkI, []⟩ [87] (cR (cR (cR (cR (Tryz.f28.body.getD .skip))))) .nil (upd (upd (upd fr 2 (.pointer (some ⟨bp2, op2, none⟩))) 3 (.pointer (some ⟨bp3, op3, none⟩))) 4 (.pointer (some ⟨bp4, op4, none⟩))) ds w (fun e f ds' w => ds' = ds ∧ KX e [] w) (fun _ _ _ _ => False) :=
  Eq.mp (by kernel_rfl) hyp
theorem pF_ok : (codeOk Tryz.f28.ntmps (cR (cR (cR (cR (Tryz.f28.body.getD .skip))))) && noDef (cR (cR (cR (cR (Tryz.f28.body.getD .skip))))) && anOk TbI (cR (cR (cR (cR (Tryz.f28.body.getD .skip))))) .nil) = true := by kernel_rfl

end Go.Proofs.YtbbcofdibkgalaaGreatDoor
