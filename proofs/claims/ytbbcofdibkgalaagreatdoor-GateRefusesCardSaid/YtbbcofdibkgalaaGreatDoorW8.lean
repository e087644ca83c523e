import Derived.Test.YtbbcofdibkgalaaGreatDoorWb
set_option linter.unusedVariables false
set_option maxRecDepth 100000
set_option maxHeartbeats 4000000
namespace Go.Proofs.YtbbcofdibkgalaaGreatDoor
open Go.Eng
/-- signet/signetref07.Verifier -/
theorem f112_wp (s : ByteArray) (w : World) (R : Ending → World → Prop) (hyp :
 ∃ (Cut1 : World → Prop), (
 cond (decide ((s.size : Int) < (43 : Int))) (
 R (.returned (.bool false)) w) (
 cond (decide ((s.size : Int) > (128 : Int))) (
 R (.returned (.bool false)) w) (
 Cut1 w))) ∧
 ∀ (fr : Nat → Value) (w1 : World), Cut1 w1 →
 ∃ (Inv1 : Int → World → Prop) (Mea1 : Int → World → Nat), Inv1 0 w1 ∧ ∀ (i : Int) (fr1 : Nat → Value) (w2 : World), 
 Inv1 i w2 →
 cond (decide (i < (s.size : Int))) (
 0 ≤ i ∧ ∃ c : UInt8, s.data.toList[i.toNat]? = some c ∧
 ∃ (Cut2 : Bool → World → Prop), (
 cond (decide ((c.toNat : Int) > (64 : Int))) (
 cond (decide ((c.toNat : Int) < (91 : Int))) (
 Cut2 true w2) (
 cond (decide ((c.toNat : Int) > (96 : Int))) (
 Cut2 (decide ((c.toNat : Int) < (123 : Int))) w2) (
 Cut2 false w2))) (
 cond (decide ((c.toNat : Int) > (96 : Int))) (
 Cut2 (decide ((c.toNat : Int) < (123 : Int))) w2) (
 Cut2 false w2))) ∧
 ∀ (letter : Bool) (fr2 : Nat → Value) (w3 : World), Cut2 letter w3 →
 ∃ (Cut3 : Bool → World → Prop), (
 cond (decide ((c.toNat : Int) > (47 : Int))) (
 Cut3 (decide ((c.toNat : Int) < (58 : Int))) w3) (
 Cut3 false w3)) ∧
 ∀ (digit : Bool) (fr3 : Nat → Value) (w4 : World), Cut3 digit w4 →
 cond (!letter) (
 cond (!digit) (
 cond (decide ((c.toNat : Int) ≠ (45 : Int))) (
 cond (decide ((c.toNat : Int) ≠ (46 : Int))) (
 cond (decide ((c.toNat : Int) ≠ (95 : Int))) (
 cond (decide ((c.toNat : Int) ≠ (126 : Int))) (
 R (.returned (.bool false)) w4) (
 (Inv1 (IntKind.i64.wrap (i + (1 : Int))) w4 ∧ Mea1 (IntKind.i64.wrap (i + (1 : Int))) w4 < Mea1 i w2))) (
 (Inv1 (IntKind.i64.wrap (i + (1 : Int))) w4 ∧ Mea1 (IntKind.i64.wrap (i + (1 : Int))) w4 < Mea1 i w2))) (
 (Inv1 (IntKind.i64.wrap (i + (1 : Int))) w4 ∧ Mea1 (IntKind.i64.wrap (i + (1 : Int))) w4 < Mea1 i w2))) (
 (Inv1 (IntKind.i64.wrap (i + (1 : Int))) w4 ∧ Mea1 (IntKind.i64.wrap (i + (1 : Int))) w4 < Mea1 i w2))) (
 (Inv1 (IntKind.i64.wrap (i + (1 : Int))) w4 ∧ Mea1 (IntKind.i64.wrap (i + (1 : Int))) w4 < Mea1 i w2))) (
 (Inv1 (IntKind.i64.wrap (i + (1 : Int))) w4 ∧ Mea1 (IntKind.i64.wrap (i + (1 : Int))) w4 < Mea1 i w2))) (
 R (.returned (.bool true)) w2)) :
    Calls prg 112 #[.string s] w R :=
  calls_mk (.node .nil (.cut [] [2, 7, 8, 9, 10, 11, 12, 13, 14] .nil (.node (.node .nil (.loop [(3, .int .i64)] [2, 4, 5, 6, 15, 16, 17, 18, 19, 20, 21, 22, 23, 24, 25, 26, 27, 28, 29, 30, 31, 32, 33, 34, 35, 36, 37, 38, 39, 40, 41, 42, 43, 44, 45, 46, 47, 48, 49, 50, 51, 52, 53, 54, 55, 56, 57, 58, 59, 60, 61, 62, 63, 64, 65] (.node .nil (.node (.node .nil (.cut [(5, .bool)] [24, 25, 26, 27, 28, 29, 30, 31, 32, 33, 34, 35, 36, 37] .nil (.cut [(6, .bool)] [38, 39, 40, 41, 42, 43] .nil .nil))) .nil)))) .nil))) [.string s] w R tabOk (fokOk []) Tryz.func112 (by kernel_rfl) _ (by kernel_rfl) hyp

/-- signet/signetref01.Unweb -/
theorem f113_wp (s : ByteArray) (w : World) (R : Ending → World → Prop) (hyp :
 Calls prg 145 #[.string s, .bool true] w fun e w1 => ∃ (b_ : Option Addr) (nb cb : Nat), e = .returned (.slice b_ nb cb) ∧
 Calls prg 117 #[.slice b_ nb cb] w1 fun e w2 => ∃ (r : ByteArray), e = .returned (.string r) ∧
 cond (decide (r ≠ s)) (
 R (.returned (.tuple #[.slice none 0 0, .int .i64 3])) w2) (
 R (.returned (.tuple #[.slice b_ nb cb, .int .i64 0])) w2)) :
    Calls prg 113 #[.string s] w R :=
  calls_mk .nil [.string s] w R tabOk (fokOk []) Tryz.func113 (by kernel_rfl) _ (by kernel_rfl) hyp

/-- signet/signetref01.Unbasic -/
theorem f114_wp (s : ByteArray) (w : World) (R : Ending → World → Prop) (hyp :
 ∃ (Inv1 : Int → World → Prop) (Mea1 : Int → World → Nat), Inv1 0 w ∧ ∀ (k : Int) (fr : Nat → Value) (w1 : World), 
 Inv1 k w1 →
 ∃ (Cut1 : World → Prop), (
 cond (decide (k < (3 : Int))) (
 cond (decide (k ≤ (s.size : Int))) (
 Cut1 w1) (
 R (.returned (.tuple #[.slice none 0 0, .int .i64 3])) w1)) (
 R (.returned (.tuple #[.slice none 0 0, .int .i64 3])) w1)) ∧
 ∀ (fr1 : Nat → Value) (w2 : World), Cut1 w2 →
 0 ≤ (IntKind.i64.wrap ((s.size : Int) - k)) ∧ 0 ≤ (IntKind.i64.wrap ((s.size : Int) - k)).toNat ∧ (IntKind.i64.wrap ((s.size : Int) - k)).toNat ≤ s.size ∧
 Calls prg 145 #[.string (s.extract 0 ((IntKind.i64.wrap ((s.size : Int) - k)).toNat)), .bool false] w2 fun e w3 => ∃ (b_ : Option Addr) (nb cb : Nat), e = .returned (.slice b_ nb cb) ∧
 Calls prg 146 #[.slice b_ nb cb] w3 fun e w4 => ∃ (r : ByteArray), e = .returned (.string r) ∧
 cond (decide (r = s)) (
 R (.returned (.tuple #[.slice b_ nb cb, .int .i64 0])) w4) (
 (Inv1 (IntKind.i64.wrap (k + (1 : Int))) w4 ∧ Mea1 (IntKind.i64.wrap (k + (1 : Int))) w4 < Mea1 k w1))) :
    Calls prg 114 #[.string s] w R :=
  calls_mk (.node .nil (.node (.node .nil (.loop [(4, .int .i64)] [2, 3, 5, 6, 7, 8, 9, 10, 11, 12, 13, 14, 15, 16, 17, 18, 19, 20, 21, 22, 23, 24, 25, 26, 27] (.cut [] [6, 7, 8, 9, 10, 11, 12, 13] .nil .nil))) .nil)) [.string s] w R tabOk (fokOk []) Tryz.func114 (by kernel_rfl) _ (by kernel_rfl) hyp

/-- signet/signetref16.Head -/
theorem f115_wp (t_Kind : Int) (t_Family : ByteArray) (t_Serial : Int) (w : World) (R : Ending → World → Prop) (hyp :
 ∀ (b_ : Nat) (w1 : World), b_ = w.heap.size → w1 = w.alloc (.cells #[.int .i64 t_Kind, .string t_Family, .int .i64 t_Serial] 47) →
 ∃ (Cut1 : ByteArray → World → Prop), (
 ∃ (x : Int), w1.cell? ⟨b_, 0, none⟩ = some (.int .i64 x) ∧
 cond (decide (x = (2 : Int))) (
 Cut1 ⟨#[97, 46]⟩ w1) (
 Cut1 ⟨#[99, 46]⟩ w1)) ∧
 ∀ (kind : ByteArray) (fr : Nat → Value) (w2 : World), Cut1 kind w2 →
 ∃ (x1 : Int), w2.cell? ⟨b_, 0, none⟩ = some (.int .i64 x1) ∧
 cond (decide (x1 = (3 : Int))) (
 ∃ (Drw1 : World → Prop), Drw1 w2.drew ∧
 ∃ (x2 : ByteArray), (∀ w3 : World, Drw1 w3 → w3.cell? ⟨b_, 1, none⟩ = some (.string x2)) ∧
 (⟨#[114, 46]⟩ : ByteArray).size + x2.size ≤ 9223372036854775807 ∧ ((⟨#[114, 46]⟩ : ByteArray) ++ x2).size + (⟨#[46]⟩ : ByteArray).size ≤ 9223372036854775807 ∧ ∃ (x3 : Int), (∀ w4 : World, Drw1 w4 → w4.cell? ⟨b_, 2, none⟩ = some (.int .i64 x3)) ∧
 Calls prg 147 #[.int .i64 x3] w2.drew fun e w5 => ∃ (r : ByteArray), e = .returned (.string r) ∧
 Drw1 w5 ∧ (((⟨#[114, 46]⟩ : ByteArray) ++ x2) ++ (⟨#[46]⟩ : ByteArray)).size + r.size ≤ 9223372036854775807 ∧ ((((⟨#[114, 46]⟩ : ByteArray) ++ x2) ++ (⟨#[46]⟩ : ByteArray)) ++ r).size + (⟨#[46]⟩ : ByteArray).size ≤ 9223372036854775807 ∧ R (.returned (.string (((((⟨#[114, 46]⟩ : ByteArray) ++ x2) ++ (⟨#[46]⟩ : ByteArray)) ++ r) ++ (⟨#[46]⟩ : ByteArray)))) w5) (
 ∃ (Drw2 : World → Prop), Drw2 w2.drew ∧
 ∃ (x4 : ByteArray), (∀ w6 : World, Drw2 w6 → w6.cell? ⟨b_, 1, none⟩ = some (.string x4)) ∧
 kind.size + x4.size ≤ 9223372036854775807 ∧ (kind ++ x4).size + (⟨#[46]⟩ : ByteArray).size ≤ 9223372036854775807 ∧ ∃ (x5 : Int), (∀ w7 : World, Drw2 w7 → w7.cell? ⟨b_, 2, none⟩ = some (.int .i64 x5)) ∧
 Calls prg 147 #[.int .i64 x5] w2.drew fun e w8 => ∃ (r1 : ByteArray), e = .returned (.string r1) ∧
 Drw2 w8 ∧ ((kind ++ x4) ++ (⟨#[46]⟩ : ByteArray)).size + r1.size ≤ 9223372036854775807 ∧ (((kind ++ x4) ++ (⟨#[46]⟩ : ByteArray)) ++ r1).size + (⟨#[46]⟩ : ByteArray).size ≤ 9223372036854775807 ∧ R (.returned (.string ((((kind ++ x4) ++ (⟨#[46]⟩ : ByteArray)) ++ r1) ++ (⟨#[46]⟩ : ByteArray)))) w8)) :
    Calls prg 115 #[.agg #[.int .i64 t_Kind, .string t_Family, .int .i64 t_Serial]] w R :=
  calls_mk (.node .nil (.node .nil (.cut [(3, .str)] [4, 5, 6] .nil (.node .nil (.node (.draw (.op 0 (.op 1 (.op 2 (.op 3 (.op 4 (.op 5 (.op 6 (.op 7 (.op 8 (.op 9 (.op 10 .done)))))))))))) .nil))))) [.agg #[.int .i64 t_Kind, .string t_Family, .int .i64 t_Serial]] w R tabOk (fokOk []) Tryz.func115 (by kernel_rfl) _ (by kernel_rfl) hyp

/-- signet/signetref03.Mac -/
theorem f116_wp (key : Option Addr) (nkey : Nat) (ckey : Nat) (b_ : Option Addr) (nb : Nat) (cb : Nat) (w : World) (R : Ending → World → Prop) (hyp :
 ∀ (b_1 : Nat) (w1 : World), b_1 = w.heap.size → w1 = w.alloc (.cells #[.int .u8 0, .int .u8 0, .int .u8 0, .int .u8 0, .int .u8 0, .int .u8 0, .int .u8 0, .int .u8 0, .int .u8 0, .int .u8 0, .int .u8 0, .int .u8 0, .int .u8 0, .int .u8 0, .int .u8 0, .int .u8 0, .int .u8 0, .int .u8 0, .int .u8 0, .int .u8 0, .int .u8 0, .int .u8 0, .int .u8 0, .int .u8 0, .int .u8 0, .int .u8 0, .int .u8 0, .int .u8 0, .int .u8 0, .int .u8 0, .int .u8 0, .int .u8 0] 175) →
 ∀ (b_2 : Nat) (w2 : World), b_2 = w1.heap.size → w2 = w1.alloc (.cells #[] 5) →
 ∃ (long : Option Addr) (nlong clong : Nat) (w3 : World), (Builtin.append_ #[23, 23] 23 #[.slice (some ⟨b_2, 0, none⟩) 0 0, .slice key nkey ckey]).run prg w2 = .ok (.slice long nlong clong) w3 ∧
 ∃ (Cut1 : Option Addr → Nat → Nat → World → Prop), (
 cond (decide ((nkey : Int) > (64 : Int))) (
 Calls prg 148 #[.slice key nkey ckey] w3 fun e w4 => ∃ (r : List Value), r.length = 32 ∧ e = .returned (.agg (ex r 32).toArray) ∧
 ∀ (b_3 : Nat) (w5 : World), b_3 = w4.heap.size → w5 = w4.alloc (.cells #[.int .u8 0, .int .u8 0, .int .u8 0, .int .u8 0, .int .u8 0, .int .u8 0, .int .u8 0, .int .u8 0, .int .u8 0, .int .u8 0, .int .u8 0, .int .u8 0, .int .u8 0, .int .u8 0, .int .u8 0, .int .u8 0, .int .u8 0, .int .u8 0, .int .u8 0, .int .u8 0, .int .u8 0, .int .u8 0, .int .u8 0, .int .u8 0, .int .u8 0, .int .u8 0, .int .u8 0, .int .u8 0, .int .u8 0, .int .u8 0, .int .u8 0, .int .u8 0] 175) →
 Sto w5 b_3 0 (ex r 32) ∧ ∀ w6, w6 = w5.setCells b_3 0 (ex r 32) →
 ∀ (b_4 : Nat) (w7 : World), b_4 = w6.heap.size → w7 = w6.alloc (.cells #[] 5) →
 0 ≤ 32 ∧ 32 ≤ 32 ∧ ∀ q : Option Addr, (0 < 32 → q = some ⟨b_3, 0 + 0 * 1, none⟩) → (0 = 0 → q = (some ⟨b_3, 0, none⟩)) →
 ∃ (long1 : Option Addr) (nlong1 clong1 : Nat) (w8 : World), (Builtin.append_ #[23, 23] 23 #[.slice (some ⟨b_4, 0, none⟩) 0 0, .slice q 32 32]).run prg w7 = .ok (.slice long1 nlong1 clong1) w8 ∧
 Cut1 long1 nlong1 clong1 w8) (
 Cut1 long nlong clong w3)) ∧
 ∀ (long2 : Option Addr) (nlong2 clong2 : Nat) (fr : Nat → Value) (w9 : World), Cut1 long2 nlong2 clong2 w9 →
 ∃ (Inv1 : Option Addr → Nat → Nat → World → Prop) (Mea1 : Option Addr → Nat → Nat → World → Nat), Inv1 long2 nlong2 clong2 w9 ∧ ∀ (long3 : Option Addr) (nlong3 clong3 : Nat) (fr1 : Nat → Value) (w10 : World), 
 Inv1 long3 nlong3 clong3 w10 →
 cond (decide ((nlong3 : Int) < (64 : Int))) (
 ∀ (b_5 : Nat) (w11 : World), b_5 = w10.heap.size → w11 = w10.alloc (.cells #[.int .u8 0] 5) →
 ∃ (long4 : Option Addr) (nlong4 clong4 : Nat) (w12 : World), (Builtin.append_ #[23, 23] 23 #[.slice long3 nlong3 clong3, .slice (some ⟨b_5, 0, none⟩) 1 1]).run prg w11 = .ok (.slice long4 nlong4 clong4) w12 ∧
 (Inv1 long4 nlong4 clong4 w12 ∧ Mea1 long4 nlong4 clong4 w12 < Mea1 long3 nlong3 clong3 w10)) (
 ∃ (Inv2 : Option Addr → Nat → Nat → Option Addr → Nat → Nat → Int → World → Prop) (Mea2 : Option Addr → Nat → Nat → Option Addr → Nat → Nat → Int → World → Nat), Inv2 none 0 0 none 0 0 0 w10 ∧ ∀ (inner : Option Addr) (ninner cinner : Nat) (outer : Option Addr) (nouter couter : Nat) (i : Int) (fr2 : Nat → Value) (w13 : World), 
 Inv2 inner ninner cinner outer nouter couter i w13 →
 cond (decide (i < (64 : Int))) (
 0 ≤ i ∧ i < (nlong3 : Int) ∧ nilW long3 fun bk of =>
 ∃ (x : Int), w13.cell? ⟨bk, of + i.toNat * 1, none⟩ = some (.int .u8 x) ∧
 ∀ (b_6 : Nat) (w14 : World), b_6 = w13.heap.size → w14 = w13.alloc (.cells #[.int .u8 (bitv .xor .u8 x 54)] 5) →
 ∃ (inner1 : Option Addr) (ninner1 cinner1 : Nat) (w15 : World), (Builtin.append_ #[23, 23] 23 #[.slice inner ninner cinner, .slice (some ⟨b_6, 0, none⟩) 1 1]).run prg w14 = .ok (.slice inner1 ninner1 cinner1) w15 ∧
 0 ≤ i ∧ i < (nlong3 : Int) ∧ nilW long3 fun bk1 of1 =>
 ∃ (x1 : Int), w15.cell? ⟨bk1, of1 + i.toNat * 1, none⟩ = some (.int .u8 x1) ∧
 ∀ (b_7 : Nat) (w16 : World), b_7 = w15.heap.size → w16 = w15.alloc (.cells #[.int .u8 (bitv .xor .u8 x1 92)] 5) →
 ∃ (outer1 : Option Addr) (nouter1 couter1 : Nat) (w17 : World), (Builtin.append_ #[23, 23] 23 #[.slice outer nouter couter, .slice (some ⟨b_7, 0, none⟩) 1 1]).run prg w16 = .ok (.slice outer1 nouter1 couter1) w17 ∧
 (Inv2 inner1 ninner1 cinner1 outer1 nouter1 couter1 (IntKind.i64.wrap (i + (1 : Int))) w17 ∧ Mea2 inner1 ninner1 cinner1 outer1 nouter1 couter1 (IntKind.i64.wrap (i + (1 : Int))) w17 < Mea2 inner ninner cinner outer nouter couter i w13)) (
 ∃ (l : Option Addr) (nl cl : Nat) (w18 : World), (Builtin.append_ #[23, 23] 23 #[.slice inner ninner cinner, .slice b_ nb cb]).run prg w13 = .ok (.slice l nl cl) w18 ∧
 Calls prg 148 #[.slice l nl cl] w18 fun e w19 => ∃ (r1 : List Value), r1.length = 32 ∧ e = .returned (.agg (ex r1 32).toArray) ∧
 ∀ (b_8 : Nat) (w20 : World), b_8 = w19.heap.size → w20 = w19.alloc (.cells #[.int .u8 0, .int .u8 0, .int .u8 0, .int .u8 0, .int .u8 0, .int .u8 0, .int .u8 0, .int .u8 0, .int .u8 0, .int .u8 0, .int .u8 0, .int .u8 0, .int .u8 0, .int .u8 0, .int .u8 0, .int .u8 0, .int .u8 0, .int .u8 0, .int .u8 0, .int .u8 0, .int .u8 0, .int .u8 0, .int .u8 0, .int .u8 0, .int .u8 0, .int .u8 0, .int .u8 0, .int .u8 0, .int .u8 0, .int .u8 0, .int .u8 0, .int .u8 0] 175) →
 Sto w20 b_8 0 (ex r1 32) ∧ ∀ w21, w21 = w20.setCells b_8 0 (ex r1 32) →
 0 ≤ 32 ∧ 32 ≤ 32 ∧ ∀ q1 : Option Addr, (0 < 32 → q1 = some ⟨b_8, 0 + 0 * 1, none⟩) → (0 = 0 → q1 = (some ⟨b_8, 0, none⟩)) →
 ∃ (l1 : Option Addr) (nl1 cl1 : Nat) (w22 : World), (Builtin.append_ #[23, 23] 23 #[.slice outer nouter couter, .slice q1 32 32]).run prg w21 = .ok (.slice l1 nl1 cl1) w22 ∧
 Calls prg 148 #[.slice l1 nl1 cl1] w22 fun e w23 => ∃ (r2 : List Value), r2.length = 32 ∧ e = .returned (.agg (ex r2 32).toArray) ∧
 Sto w23 b_1 0 (ex r2 32) ∧ ∀ w24, w24 = w23.setCells b_1 0 (ex r2 32) →
 ∃ res : List Value, res.length = 32 ∧ w24.rangeAt b_1 0 res ∧
 R (.returned (.agg (ex res 32).toArray)) w24))) :
    Calls prg 116 #[.slice key nkey ckey, .slice b_ nb cb] w R :=
  calls_mk (.node .nil (.node .nil (.cut [(5, .slice)] [6, 14, 15, 16, 17, 18, 19, 20, 21] .nil (.node (.loop [(5, .slice)] [22, 23, 24, 25, 26, 27] .nil) (.node .nil (.node .nil (.node (.node .nil (.loop [(7, .slice), (8, .slice), (9, .int .i64)] [28, 29, 30, 31, 32, 33, 34, 35, 36, 37, 38, 39, 40, 41, 42, 43, 44, 45, 46, 47] .nil)) .nil))))))) [.slice key nkey ckey, .slice b_ nb cb] w R tabOk (fokOk []) Tryz.func116 (by kernel_rfl) _ (by kernel_rfl) hyp

/-- signet/signetref01.Web -/
theorem f117_wp (b_ : Option Addr) (nb : Nat) (cb : Nat) (w : World) (R : Ending → World → Prop) (hyp :
 Calls prg 149 #[.slice b_ nb cb, .bool true] w fun e w1 => ∃ (r : ByteArray), e = .returned (.string r) ∧
 R (.returned (.string r)) w1) :
    Calls prg 117 #[.slice b_ nb cb] w R :=
  calls_mk .nil [.slice b_ nb cb] w R tabOk (fokOk []) Tryz.func117 (by kernel_rfl) _ (by kernel_rfl) hyp

/-- internal/stringslite.CutPrefix -/
theorem f118_wp (s : ByteArray) (prefix_ : ByteArray) (w : World) (R : Ending → World → Prop) (hyp :
 Calls prg 150 #[.string s, .string prefix_] w fun e w1 => ∃ (r : Bool), e = .returned (.bool r) ∧
 cond (!r) (
 R (.returned (.tuple #[.string s, .bool false])) w1) (
 0 ≤ (prefix_.size : Int) ∧ (prefix_.size : Int).toNat ≤ s.size ∧ s.size ≤ s.size ∧
 R (.returned (.tuple #[.string (s.extract ((prefix_.size : Int).toNat) s.size), .bool true])) w1)) :
    Calls prg 118 #[.string s, .string prefix_] w R :=
  calls_mk .nil [.string s, .string prefix_] w R tabOk (fokOk []) Tryz.func118 (by kernel_rfl) _ (by kernel_rfl) hyp

/-- signet/octet.unsixes -/
theorem f119_wp (signs : ByteArray) (s : ByteArray) (w : World) (R : Ending → World → Prop) (hyp :
 (4 : Int) ≠ 0 ∧ cond (decide ((Int.tmod (s.size : Int) 4) = (1 : Int))) (
 R (.returned (.tuple #[.slice none 0 0, .int .i64 3])) w) (
 ∃ (Inv1 : Option Addr → Nat → Nat → Int → Int → Int → World → Prop) (Mea1 : Option Addr → Nat → Nat → Int → Int → Int → World → Nat), Inv1 none 0 0 0 0 0 w ∧ ∀ (b_ : Option Addr) (nb cb : Nat) (held bits i : Int) (fr : Nat → Value) (w1 : World), 
 Inv1 b_ nb cb held bits i w1 →
 cond (decide (i < (s.size : Int))) (
 0 ≤ i ∧ ∃ c : UInt8, s.data.toList[i.toNat]? = some c ∧
 Calls prg 151 #[.string signs, .int .u8 (c.toNat : Int)] w1 fun e w2 => ∃ (v : Int), e = .returned (.int .i64 v) ∧
 cond (decide (v < (0 : Int))) (
 R (.returned (.tuple #[.slice none 0 0, .int .i64 3])) w2) (
 0 ≤ (6 : Int) ∧ cond (decide ((IntKind.i64.wrap (bits + (6 : Int))) ≥ (8 : Int))) (
 0 ≤ (IntKind.i64.wrap ((IntKind.i64.wrap (bits + (6 : Int))) - (8 : Int))) ∧ ∀ (b_1 : Nat) (w3 : World), b_1 = w2.heap.size → w3 = w2.alloc (.cells #[.int .u8 (IntKind.u8.wrap (Int.fdiv (bitv .or .i64 (IntKind.i64.wrap (held * 2 ^ 6)) v) (2 ^ (min (IntKind.i64.wrap ((IntKind.i64.wrap (bits + (6 : Int))) - (8 : Int))).toNat 64))))] 5) →
 ∃ (b_2 : Option Addr) (nb1 cb1 : Nat) (w4 : World), (Builtin.append_ #[23, 23] 23 #[.slice b_ nb cb, .slice (some ⟨b_1, 0, none⟩) 1 1]).run prg w3 = .ok (.slice b_2 nb1 cb1) w4 ∧
 0 ≤ (IntKind.i64.wrap ((IntKind.i64.wrap (bits + (6 : Int))) - (8 : Int))) ∧ (Inv1 b_2 nb1 cb1 (bitv .and .i64 (bitv .or .i64 (IntKind.i64.wrap (held * 2 ^ 6)) v) (IntKind.i64.wrap ((IntKind.i64.wrap ((1 : Int) * 2 ^ (min (IntKind.i64.wrap ((IntKind.i64.wrap (bits + (6 : Int))) - (8 : Int))).toNat 64))) - (1 : Int)))) (IntKind.i64.wrap ((IntKind.i64.wrap (bits + (6 : Int))) - (8 : Int))) (IntKind.i64.wrap (i + (1 : Int))) w4 ∧ Mea1 b_2 nb1 cb1 (bitv .and .i64 (bitv .or .i64 (IntKind.i64.wrap (held * 2 ^ 6)) v) (IntKind.i64.wrap ((IntKind.i64.wrap ((1 : Int) * 2 ^ (min (IntKind.i64.wrap ((IntKind.i64.wrap (bits + (6 : Int))) - (8 : Int))).toNat 64))) - (1 : Int)))) (IntKind.i64.wrap ((IntKind.i64.wrap (bits + (6 : Int))) - (8 : Int))) (IntKind.i64.wrap (i + (1 : Int))) w4 < Mea1 b_ nb cb held bits i w1)) (
 (Inv1 b_ nb cb (bitv .or .i64 (IntKind.i64.wrap (held * 2 ^ 6)) v) (IntKind.i64.wrap (bits + (6 : Int))) (IntKind.i64.wrap (i + (1 : Int))) w2 ∧ Mea1 b_ nb cb (bitv .or .i64 (IntKind.i64.wrap (held * 2 ^ 6)) v) (IntKind.i64.wrap (bits + (6 : Int))) (IntKind.i64.wrap (i + (1 : Int))) w2 < Mea1 b_ nb cb held bits i w1)))) (
 cond (decide (held ≠ (0 : Int))) (
 R (.returned (.tuple #[.slice none 0 0, .int .i64 3])) w1) (
 R (.returned (.tuple #[.slice b_ nb cb, .int .i64 0])) w1)))) :
    Calls prg 119 #[.string signs, .string s] w R :=
  calls_mk (.node .nil (.node .nil (.node .nil (.node .nil (.node (.node .nil (.loop [(6, .slice), (7, .int .i64), (8, .int .i64), (9, .int .i64)] [4, 5, 10, 15, 16, 17, 18, 19, 20, 21, 22, 23, 24, 25, 26, 27, 28, 29, 30, 31, 32, 33, 34, 35, 36, 37, 38, 39, 40, 41, 42, 43, 44, 45, 46, 47, 48, 49] .nil)) .nil))))) [.string signs, .string s] w R tabOk (fokOk []) Tryz.func119 (by kernel_rfl) _ (by kernel_rfl) hyp

/-- internal/strconv.Atoi -/
theorem f121_wp (s : ByteArray) (w : World) (R : Ending → World → Prop) (hyp :
 ∃ (Cut1 : Bool → World → Prop), (
 cond (decide ((0 : Int) < (s.size : Int))) (
 Cut1 (decide ((s.size : Int) < (19 : Int))) w) (
 Cut1 false w)) ∧
 ∀ (t30 : Bool) (fr : Nat → Value) (w1 : World), Cut1 t30 w1 →
 cond t30 (
 ∃ (Cut2 : ByteArray → World → Prop), (
 0 ≤ (0 : Int) ∧ ∃ c : UInt8, s.data.toList[Int.toNat 0]? = some c ∧
 cond (decide ((c.toNat : Int) = (45 : Int))) (
 0 ≤ (1 : Int) ∧ 1 ≤ s.size ∧ s.size ≤ s.size ∧
 cond (decide (((s.extract 1 s.size).size : Int) < (1 : Int))) (
 prg.concrete 197 = true ∧ R (.returned (.tuple #[.int .i64 0, .iface 197 (.int .i64 2)])) w1) (
 Cut2 (s.extract 1 s.size) w1)) (
 0 ≤ (0 : Int) ∧ ∃ c1 : UInt8, s.data.toList[Int.toNat 0]? = some c1 ∧
 cond (decide ((c1.toNat : Int) = (43 : Int))) (
 0 ≤ (1 : Int) ∧ 1 ≤ s.size ∧ s.size ≤ s.size ∧
 cond (decide (((s.extract 1 s.size).size : Int) < (1 : Int))) (
 prg.concrete 197 = true ∧ R (.returned (.tuple #[.int .i64 0, .iface 197 (.int .i64 2)])) w1) (
 Cut2 (s.extract 1 s.size) w1)) (
 Cut2 s w1))) ∧
 ∀ (s1 : ByteArray) (fr1 : Nat → Value) (w2 : World), Cut2 s1 w2 →
 ∀ (b_ cp : Nat) (w3 : World), b_ = w2.heap.size → cp = grownCap w2 s1.size 0 5 → w3 = Lib.bytesWorld w2 5 s1 →
 ∃ (Inv1 : Int → Int → World → Prop) (Mea1 : Int → Int → World → Nat), Inv1 0 0 w3 ∧ ∀ (n t49 : Int) (fr2 : Nat → Value) (w4 : World), 
 Inv1 n t49 w4 →
 cond (decide (t49 < (s1.size : Int))) (
 0 ≤ t49 ∧ t49 < (s1.size : Int) ∧ 
 ∃ (ch : Int), w4.cell? ⟨b_, 0 + t49.toNat * 1, none⟩ = some (.int .u8 ch) ∧
 cond (decide ((IntKind.u8.wrap (ch - (48 : Int))) > (9 : Int))) (
 prg.concrete 197 = true ∧ R (.returned (.tuple #[.int .i64 0, .iface 197 (.int .i64 2)])) w4) (
 (Inv1 (IntKind.i64.wrap ((IntKind.i64.wrap (n * (10 : Int))) + (IntKind.i64.wrap (IntKind.u8.wrap (ch - (48 : Int)))))) (IntKind.i64.wrap (t49 + (1 : Int))) w4 ∧ Mea1 (IntKind.i64.wrap ((IntKind.i64.wrap (n * (10 : Int))) + (IntKind.i64.wrap (IntKind.u8.wrap (ch - (48 : Int)))))) (IntKind.i64.wrap (t49 + (1 : Int))) w4 < Mea1 n t49 w4))) (
 0 ≤ (0 : Int) ∧ ∃ c2 : UInt8, s.data.toList[Int.toNat 0]? = some c2 ∧
 cond (decide ((c2.toNat : Int) = (45 : Int))) (
 R (.returned (.tuple #[.int .i64 (IntKind.i64.wrap (0 - n)), .nilIface])) w4) (
 R (.returned (.tuple #[.int .i64 n, .nilIface])) w4))) (
 Calls prg 156 #[.string s, .int .i64 10, .int .i64 0] w1 fun e w5 => ∃ (r : Int), ∃ (r1 : Value), e = .returned (.tuple #[.int .i64 r, r1]) ∧
 R (.returned (.tuple #[.int .i64 r, r1])) w5)) :
    Calls prg 121 #[.string s] w R :=
  calls_mk (.node .nil (.node .nil (.node (.cut [(30, .bool)] [13, 14, 15, 16, 17, 18, 19, 20, 21, 22, 23, 24, 25, 26, 27, 28, 29] .nil (.node (.node .nil (.cut [(0, .str)] [2, 3, 32, 33, 34, 35, 36, 37, 38, 39, 40, 41, 42, 43, 44, 45] .nil (.node .nil (.node (.node .nil (.loop [(6, .int .i64), (49, .int .i64)] [2, 3, 8, 50, 51, 52, 53, 54, 55, 56, 57, 58, 59, 60, 61, 62, 63] .nil)) .nil)))) .nil)) .nil))) [.string s] w R tabOk (fokOk []) Tryz.func121 (by kernel_rfl) _ (by kernel_rfl) hyp

/-- strconv.Itoa -/
theorem f123_wp (i : Int) (w : World) (R : Ending → World → Prop) (hyp :
 Calls prg 161 #[.int .i64 i] w fun e w1 => ∃ (r : ByteArray), e = .returned (.string r) ∧
 R (.returned (.string r)) w1) :
    Calls prg 123 #[.int .i64 i] w R :=
  calls_mk .nil [.int .i64 i] w R tabOk (fokOk []) Tryz.func123 (by kernel_rfl) _ (by kernel_rfl) hyp

/-- signet/sha.Mac -/
theorem f124_wp (key : Option Addr) (nkey : Nat) (ckey : Nat) (parts : Option Addr) (nparts : Nat) (cparts : Nat) (w : World) (R : Ending → World → Prop) (hyp :
 ∀ (b_ : Nat) (w1 : World), b_ = w.heap.size → w1 = w.alloc (.cells #[.int .u8 0, .int .u8 0, .int .u8 0, .int .u8 0, .int .u8 0, .int .u8 0, .int .u8 0, .int .u8 0, .int .u8 0, .int .u8 0, .int .u8 0, .int .u8 0, .int .u8 0, .int .u8 0, .int .u8 0, .int .u8 0, .int .u8 0, .int .u8 0, .int .u8 0, .int .u8 0, .int .u8 0, .int .u8 0, .int .u8 0, .int .u8 0, .int .u8 0, .int .u8 0, .int .u8 0, .int .u8 0, .int .u8 0, .int .u8 0, .int .u8 0, .int .u8 0] 180) →
 ∃ (Cut1 : Option Addr → Nat → Nat → World → Prop), (
 cond (decide ((nkey : Int) > (64 : Int))) (
 Calls prg 136 #[.slice key nkey ckey] w1 fun e w2 => ∃ (r : List Value), r.length = 32 ∧ e = .returned (.agg (ex r 32).toArray) ∧
 ∀ (b_1 : Nat) (w3 : World), b_1 = w2.heap.size → w3 = w2.alloc (.cells #[.int .u8 0, .int .u8 0, .int .u8 0, .int .u8 0, .int .u8 0, .int .u8 0, .int .u8 0, .int .u8 0, .int .u8 0, .int .u8 0, .int .u8 0, .int .u8 0, .int .u8 0, .int .u8 0, .int .u8 0, .int .u8 0, .int .u8 0, .int .u8 0, .int .u8 0, .int .u8 0, .int .u8 0, .int .u8 0, .int .u8 0, .int .u8 0, .int .u8 0, .int .u8 0, .int .u8 0, .int .u8 0, .int .u8 0, .int .u8 0, .int .u8 0, .int .u8 0] 180) →
 Sto w3 b_1 0 (ex r 32) ∧ ∀ w4, w4 = w3.setCells b_1 0 (ex r 32) →
 0 ≤ 32 ∧ 32 ≤ 32 ∧ ∀ q : Option Addr, (0 < 32 → q = some ⟨b_1, 0 + 0 * 1, none⟩) → (0 = 0 → q = (some ⟨b_1, 0, none⟩)) →
 Cut1 q 32 32 w4) (
 Cut1 key nkey ckey w1)) ∧
 ∀ (key1 : Option Addr) (nkey1 ckey1 : Nat) (fr : Nat → Value) (w5 : World), Cut1 key1 nkey1 ckey1 w5 →
 ∀ (b_2 : Nat) (w6 : World), b_2 = w5.heap.size → w6 = w5.alloc (.cells #[.int .u8 0, .int .u8 0, .int .u8 0, .int .u8 0, .int .u8 0, .int .u8 0, .int .u8 0, .int .u8 0, .int .u8 0, .int .u8 0, .int .u8 0, .int .u8 0, .int .u8 0, .int .u8 0, .int .u8 0, .int .u8 0, .int .u8 0, .int .u8 0, .int .u8 0, .int .u8 0, .int .u8 0, .int .u8 0, .int .u8 0, .int .u8 0, .int .u8 0, .int .u8 0, .int .u8 0, .int .u8 0, .int .u8 0, .int .u8 0, .int .u8 0, .int .u8 0, .int .u8 0, .int .u8 0, .int .u8 0, .int .u8 0, .int .u8 0, .int .u8 0, .int .u8 0, .int .u8 0, .int .u8 0, .int .u8 0, .int .u8 0, .int .u8 0, .int .u8 0, .int .u8 0, .int .u8 0, .int .u8 0, .int .u8 0, .int .u8 0, .int .u8 0, .int .u8 0, .int .u8 0, .int .u8 0, .int .u8 0, .int .u8 0, .int .u8 0, .int .u8 0, .int .u8 0, .int .u8 0, .int .u8 0, .int .u8 0, .int .u8 0, .int .u8 0] 204) →
 ∀ (b_3 : Nat) (w7 : World), b_3 = w6.heap.size → w7 = w6.alloc (.cells #[.int .u8 0, .int .u8 0, .int .u8 0, .int .u8 0, .int .u8 0, .int .u8 0, .int .u8 0, .int .u8 0, .int .u8 0, .int .u8 0, .int .u8 0, .int .u8 0, .int .u8 0, .int .u8 0, .int .u8 0, .int .u8 0, .int .u8 0, .int .u8 0, .int .u8 0, .int .u8 0, .int .u8 0, .int .u8 0, .int .u8 0, .int .u8 0, .int .u8 0, .int .u8 0, .int .u8 0, .int .u8 0, .int .u8 0, .int .u8 0, .int .u8 0, .int .u8 0, .int .u8 0, .int .u8 0, .int .u8 0, .int .u8 0, .int .u8 0, .int .u8 0, .int .u8 0, .int .u8 0, .int .u8 0, .int .u8 0, .int .u8 0, .int .u8 0, .int .u8 0, .int .u8 0, .int .u8 0, .int .u8 0, .int .u8 0, .int .u8 0, .int .u8 0, .int .u8 0, .int .u8 0, .int .u8 0, .int .u8 0, .int .u8 0, .int .u8 0, .int .u8 0, .int .u8 0, .int .u8 0, .int .u8 0, .int .u8 0, .int .u8 0, .int .u8 0] 204) →
 0 ≤ 64 ∧ 64 ≤ 64 ∧ ∀ q1 : Option Addr, (0 < 64 → q1 = some ⟨b_2, 0 + 0 * 1, none⟩) → (0 = 0 → q1 = (some ⟨b_2, 0, none⟩)) →
 ∃ (nc : Int) (w8 : World), (Builtin.copy_ #[23, 23] 3 #[.slice q1 64 64, .slice key1 nkey1 ckey1]).run prg w7 = .ok (.int .i64 nc) w8 ∧
 0 ≤ 64 ∧ 64 ≤ 64 ∧ ∀ q2 : Option Addr, (0 < 64 → q2 = some ⟨b_3, 0 + 0 * 1, none⟩) → (0 = 0 → q2 = (some ⟨b_3, 0, none⟩)) →
 ∃ (nc1 : Int) (w9 : World), (Builtin.copy_ #[23, 23] 3 #[.slice q2 64 64, .slice key1 nkey1 ckey1]).run prg w8 = .ok (.int .i64 nc1) w9 ∧
 ∃ (Inv1 : Int → World → Prop) (Mea1 : Int → World → Nat), Inv1 0 w9 ∧ ∀ (t22 : Int) (fr1 : Nat → Value) (w10 : World), 
 Inv1 t22 w10 →
 cond (decide (t22 < (64 : Int))) (
 0 ≤ t22 ∧ t22 < (64 : Int) ∧
 ∃ (x : Int), w10.cell? ⟨b_2, 0 + t22.toNat * 1, none⟩ = some (.int .u8 x) ∧
 0 ≤ t22 ∧ t22 < (64 : Int) ∧
 Sto w10 b_2 (0 + t22.toNat * 1) [.int .u8 (bitv .xor .u8 x 54)] ∧ ∀ w11, w11 = w10.setCells b_2 (0 + t22.toNat * 1) [.int .u8 (bitv .xor .u8 x 54)] →
 0 ≤ t22 ∧ t22 < (64 : Int) ∧
 ∃ (x1 : Int), w11.cell? ⟨b_3, 0 + t22.toNat * 1, none⟩ = some (.int .u8 x1) ∧
 0 ≤ t22 ∧ t22 < (64 : Int) ∧
 Sto w11 b_3 (0 + t22.toNat * 1) [.int .u8 (bitv .xor .u8 x1 92)] ∧ ∀ w12, w12 = w11.setCells b_3 (0 + t22.toNat * 1) [.int .u8 (bitv .xor .u8 x1 92)] →
 (Inv1 (IntKind.i64.wrap (t22 + (1 : Int))) w12 ∧ Mea1 (IntKind.i64.wrap (t22 + (1 : Int))) w12 < Mea1 t22 w10)) (
 0 ≤ 64 ∧ 64 ≤ 64 ∧ ∀ q3 : Option Addr, (0 < 64 → q3 = some ⟨b_2, 0 + 0 * 1, none⟩) → (0 = 0 → q3 = (some ⟨b_2, 0, none⟩)) →
 ∀ (b_4 : Nat) (w13 : World), b_4 = w10.heap.size → w13 = w10.alloc (.cells #[.slice q3 64 64] 23) →
 ∃ (l : Option Addr) (nl cl : Nat) (w14 : World), (Builtin.append_ #[203, 203] 203 #[.slice (some ⟨b_4, 0, none⟩) 1 1, .slice parts nparts cparts]).run prg w13 = .ok (.slice l nl cl) w14 ∧
 Calls prg 162 #[.slice l nl cl] w14 fun e w15 => ∃ (r1 : List Value), r1.length = 32 ∧ e = .returned (.agg (ex r1 32).toArray) ∧
 ∀ (b_5 : Nat) (w16 : World), b_5 = w15.heap.size → w16 = w15.alloc (.cells #[.int .u8 0, .int .u8 0, .int .u8 0, .int .u8 0, .int .u8 0, .int .u8 0, .int .u8 0, .int .u8 0, .int .u8 0, .int .u8 0, .int .u8 0, .int .u8 0, .int .u8 0, .int .u8 0, .int .u8 0, .int .u8 0, .int .u8 0, .int .u8 0, .int .u8 0, .int .u8 0, .int .u8 0, .int .u8 0, .int .u8 0, .int .u8 0, .int .u8 0, .int .u8 0, .int .u8 0, .int .u8 0, .int .u8 0, .int .u8 0, .int .u8 0, .int .u8 0] 180) →
 Sto w16 b_5 0 (ex r1 32) ∧ ∀ w17, w17 = w16.setCells b_5 0 (ex r1 32) →
 ∃ (Drw1 : World → Prop), Drw1 w17.drew ∧
 0 ≤ 64 ∧ 64 ≤ 64 ∧ ∀ q4 : Option Addr, (0 < 64 → q4 = some ⟨b_3, 0 + 0 * 1, none⟩) → (0 = 0 → q4 = (some ⟨b_3, 0, none⟩)) →
 0 ≤ 32 ∧ 32 ≤ 32 ∧ ∀ q5 : Option Addr, (0 < 32 → q5 = some ⟨b_5, 0 + 0 * 1, none⟩) → (0 = 0 → q5 = (some ⟨b_5, 0, none⟩)) →
 ∀ (b_6 : Nat) (w18 : World), b_6 = w17.drew.heap.size → w18 = w17.drew.alloc (.cells #[.slice q4 64 64, .slice q5 32 32] 23) →
 Calls prg 162 #[.slice (some ⟨b_6, 0, none⟩) 2 2] w18 fun e w19 => ∃ (r2 : List Value), r2.length = 32 ∧ e = .returned (.agg (ex r2 32).toArray) ∧
 Sto w19 b_ 0 (ex r2 32) ∧ ∀ w20, w20 = w19.setCells b_ 0 (ex r2 32) →
 ∃ res : List Value, res.length = 32 ∧ w20.rangeAt b_ 0 res ∧
 R (.returned (.agg (ex res 32).toArray)) w20)) :
    Calls prg 124 #[.slice key nkey ckey, .slice parts nparts cparts] w R :=
  calls_mk (.node .nil (.cut [(0, .slice)] [5, 10, 11, 12, 13, 14, 15] .nil (.node .nil (.node .nil (.node .nil (.node (.node .nil (.loop [(22, .int .i64)] [8, 23, 24, 25, 26, 27, 28, 29, 30, 31, 32, 33, 34, 35] .nil)) (.node .nil (.node (.draw (.op 0 (.op 1 (.op 2 (.op 3 (.op 4 .done)))))) .nil)))))))) [.slice key nkey ckey, .slice parts nparts cparts] w R tabOk (fokOk []) Tryz.func124 (by kernel_rfl) _ (by kernel_rfl) hyp

/-- signet/octet.Web -/
theorem f125_wp (b_ : Option Addr) (nb : Nat) (cb : Nat) (w : World) (R : Ending → World → Prop) (hyp :
 Calls prg 92 #[.string ⟨#[65, 66, 67, 68, 69, 70, 71, 72, 73, 74, 75, 76, 77, 78, 79, 80, 81, 82, 83, 84, 85, 86, 87, 88, 89, 90, 97, 98, 99, 100, 101, 102, 103, 104, 105, 106, 107, 108, 109, 110, 111, 112, 113, 114, 115, 116, 117, 118, 119, 120, 121, 122, 48, 49, 50, 51, 52, 53, 54, 55, 56, 57, 45, 95]⟩, .slice b_ nb cb] w fun e w1 => ∃ (r : Option Addr) (nr cr : Nat), e = .returned (.slice r nr cr) ∧
 ∃ s : ByteArray, BytesAt w1 r nr s ∧
 R (.returned (.string s)) w1) :
    Calls prg 125 #[.slice b_ nb cb] w R :=
  calls_mk .nil [.slice b_ nb cb] w R tabOk (fokOk []) Tryz.func125 (by kernel_rfl) _ (by kernel_rfl) hyp

/-- strings.IndexByte -/
theorem f126_wp (s : ByteArray) (c : Int) (w : World) (R : Ending → World → Prop) (hyp :
 Calls prg 152 #[.string s, .int .u8 c] w fun e w1 => ∃ (r : Int), e = .returned (.int .i64 r) ∧
 R (.returned (.int .i64 r)) w1) :
    Calls prg 126 #[.string s, .int .u8 c] w R :=
  calls_mk .nil [.string s, .int .u8 c] w R tabOk (fokOk []) Tryz.func126 (by kernel_rfl) _ (by kernel_rfl) hyp

/-- strings.indexFunc -/
theorem f128_wp (s : ByteArray) (f : Value) (truth : Bool) (w : World) (R : Ending → World → Prop) (hyp :
 ∃ it w1, (Instr.range 9 (.string s)).run prg w = .ok it w1 ∧
 ∃ (Inv1 : World → Prop) (Mea1 : World → Nat), Inv1 w1 ∧ ∀ (fr : Nat → Value) (w2 : World), 
 Inv1 w2 →
 (∃ w3, (Instr.next it true 0).run prg w2 = .ok (.tuple #[.bool false]) w3 ∧
 R (.returned (.int .i64 (-1))) w3) ∨ (
 ∃ (ix : Int), ∃ (rn : Int), ∃ w4, (Instr.next it true 0).run prg w2 = .ok (.tuple #[.bool true, .int .i64 ix, .int .i32 rn]) w4 ∧
 fnW f fun fn fa fc => bif fk.contains fn then Calls prg fn ((fa ++ ([.int .i32 rn] : List Value)) ++ fc).toArray w4 fun e w5 => ∃ (r : Bool), e = .returned (.bool r) ∧
 cond (r == truth) (
 R (.returned (.int .i64 ix)) w5) (
 (Inv1 w5 ∧ Mea1 w5 < Mea1 w2)) else False)) :
    Calls prg 128 #[.string s, f, .bool truth] w R :=
  calls_mk (.node .nil (.node (.node .nil (.loop [] [6, 7, 8, 11, 12, 13, 14, 15, 16, 17, 18, 19, 20] .nil)) .nil)) [.string s, f, .bool truth] w R tabOk (fokOk []) Tryz.func128 (by kernel_rfl) _ (by kernel_rfl) hyp

/-- signet/scope.gathered -/
theorem f129_wp (lists : Option Addr) (nlists : Nat) (clists : Nat) (w : World) (R : Ending → World → Prop) (hyp :
 ∀ (b_ : Nat) (w1 : World), b_ = w.heap.size → w1 = w.alloc (.map #[] 0) →
 ∃ (Inv1 : Int → World → Prop) (Mea1 : Int → World → Nat), Inv1 0 w1 ∧ ∀ (t11 : Int) (fr : Nat → Value) (w2 : World), 
 Inv1 t11 w2 →
 cond (decide (t11 < (nlists : Int))) (
 0 ≤ t11 ∧ t11 < (nlists : Int) ∧ nilW lists fun bk of =>
 ∃ (l : Option Addr) (nl cl : Nat), w2.cell? ⟨bk, of + t11.toNat * 1, none⟩ = some (.slice l nl cl) ∧
 ∃ (Inv2 : Int → World → Prop) (Mea2 : Int → World → Nat), Inv2 0 w2 ∧ ∀ (t17 : Int) (fr1 : Nat → Value) (w3 : World), 
 Inv2 t17 w3 →
 cond (decide (t17 < (nl : Int))) (
 0 ≤ t17 ∧ t17 < (nl : Int) ∧ nilW l fun bk1 of1 =>
 ∃ (s : ByteArray), w3.cell? ⟨bk1, of1 + t17.toNat * 1, none⟩ = some (.string s) ∧
 Calls prg 142 #[.string s] w3 fun e w4 => ∃ (r : Bool), e = .returned (.bool r) ∧
 cond r (
 ∃ w5, (Instr.mapUpdate 53 (.map (some b_)) (.string s) (.bool true)).run prg w4 = .ok () w5 ∧
 (Inv2 (IntKind.i64.wrap (t17 + (1 : Int))) w5 ∧ Mea2 (IntKind.i64.wrap (t17 + (1 : Int))) w5 < Mea2 t17 w3)) (
 (Inv2 (IntKind.i64.wrap (t17 + (1 : Int))) w4 ∧ Mea2 (IntKind.i64.wrap (t17 + (1 : Int))) w4 < Mea2 t17 w3))) (
 (Inv1 (IntKind.i64.wrap (t11 + (1 : Int))) w3 ∧ Mea1 (IntKind.i64.wrap (t11 + (1 : Int))) w3 < Mea1 t11 w2))) (
 R (.returned (.map (some b_))) w2)) :
    Calls prg 129 #[.slice lists nlists clists] w R :=
  calls_mk (.node .nil (.node .nil (.node (.node .nil (.loop [(11, .int .i64)] [5, 7, 12, 13, 14, 15, 16, 17, 18, 19, 20, 21, 22, 23, 24, 25, 26] (.node .nil (.node .nil (.node (.node .nil (.node .nil (.loop [(17, .int .i64)] [7, 18, 19, 20, 21, 22, 23, 24, 25] .nil))) .nil))))) .nil))) [.slice lists nlists clists] w R tabOk (fokOk []) Tryz.func129 (by kernel_rfl) _ (by kernel_rfl) hyp

/-- slices.Sort[[]string,string] -/
theorem f130_wp (x : Option Addr) (nx : Nat) (cx : Nat) (w : World) (R : Ending → World → Prop) (hyp :
 Calls prg 165 #[.int .u64 (IntKind.u64.wrap (nx : Int))] w fun e w1 => ∃ (r : Int), e = .returned (.int .i64 r) ∧
 Calls prg 164 #[.slice x nx cx, .int .i64 0, .int .i64 (nx : Int), .int .i64 r] w1 fun e w2 => e = .returned (.tuple #[]) ∧
 R (.returned (.tuple #[])) w2) :
    Calls prg 130 #[.slice x nx cx] w R :=
  calls_mk .nil [.slice x nx cx] w R tabOk (fokOk []) Tryz.func130 (by kernel_rfl) _ (by kernel_rfl) hyp

/-- (*strings.Builder).Grow -/
theorem f131_wp (b_ : Option Addr) (n : Int) (w : World) (R : Ending → World → Prop) (hyp :
 Calls prg 127 #[.pointer b_] w fun e w1 => e = .returned (.tuple #[]) ∧
 ∃ (Cut1 : World → Prop), (
 cond (decide (n < (0 : Int))) (
 prg.concrete 9 = true ∧ False) (
 Cut1 w1)) ∧
 ∀ (fr : Nat → Value) (w2 : World), Cut1 w2 →
 ∃ (Drw1 : World → Prop), Drw1 w2.drew ∧
 nilW b_ fun bk of =>
 ∃ (x : Option Addr) (nx cx : Nat), (∀ w3 : World, Drw1 w3 → w3.cell? ⟨bk, of + 1, none⟩ = some (.slice x nx cx)) ∧
 nilW b_ fun bk1 of1 =>
 ∃ (x1 : Option Addr) (nx1 cx1 : Nat), (∀ w4 : World, Drw1 w4 → w4.cell? ⟨bk1, of1 + 1, none⟩ = some (.slice x1 nx1 cx1)) ∧
 cond (decide ((IntKind.i64.wrap ((cx : Int) - (nx1 : Int))) < n)) (
 Calls prg 166 #[.pointer b_, .int .i64 n] w2.drew fun e w5 => e = .returned (.tuple #[]) ∧
 R (.returned (.tuple #[])) w5) (
 R (.returned (.tuple #[])) w2.drew)) :
    Calls prg 131 #[.pointer b_, .int .i64 n] w R :=
  calls_mk (.node .nil (.cut [] [6, 7, 8] .nil (.node (.draw (.op 0 (.op 1 (.op 2 (.op 3 (.op 4 (.op 5 (.op 6 (.op 7 (.op 8 (.op 9 (.op 10 (.op 11 (.op 12 .done)))))))))))))) .nil))) [.pointer b_, .int .i64 n] w R tabOk (fokOk []) Tryz.func131 (by kernel_rfl) _ (by kernel_rfl) hyp

/-- signet/scope.Within -/
theorem f132_wp (a : Option Addr) (na : Nat) (ca : Nat) (b_ : Option Addr) (nb : Nat) (cb : Nat) (w : World) (R : Ending → World → Prop) (hyp :
 ∀ (b_1 : Nat) (w1 : World), b_1 = w.heap.size → w1 = w.alloc (.cells #[.slice b_ nb cb] 33) →
 Calls prg 129 #[.slice (some ⟨b_1, 0, none⟩) 1 1] w1 fun e w2 => ∃ (m : Option Nat), e = .returned (.map m) ∧
 ∀ (b_2 : Nat) (w3 : World), b_2 = w2.heap.size → w3 = w2.alloc (.cells #[.slice a na ca] 33) →
 Calls prg 129 #[.slice (some ⟨b_2, 0, none⟩) 1 1] w3 fun e w4 => ∃ (r : Option Nat), e = .returned (.map r) ∧
 ∃ it w5, (Instr.range 53 (.map r)).run prg w4 = .ok it w5 ∧
 ∃ (Inv1 : World → Prop) (Mea1 : World → Nat), Inv1 w5 ∧ ∀ (fr : Nat → Value) (w6 : World), 
 Inv1 w6 →
 (∃ w7, (Instr.next it false 0).run prg w6 = .ok (.tuple #[.bool false]) w7 ∧
 R (.returned (.bool true)) w7) ∨ (
 ∃ (key : Value), ∃ (val : Value), ∃ w8, (Instr.next it false 0).run prg w6 = .ok (.tuple #[.bool true, key, val]) w8 ∧
 ∃ (key1 : ByteArray), ∃ (val1 : Bool), (Instr.entry it).run prg w8 = .ok (.tuple #[.string key1, .bool val1]) w8 ∧
 ∃ (v : Bool), (Instr.lookup 53 (.map m) (.string key1) false).run prg w8 = .ok (.bool v) w8 ∧
 cond (!v) (
 R (.returned (.bool false)) w8) (
 (Inv1 w8 ∧ Mea1 w8 < Mea1 w6)))) :
    Calls prg 132 #[.slice a na ca, .slice b_ nb cb] w R :=
  calls_mk (.node .nil (.node .nil (.node (.node .nil (.loop [] [4, 6, 14, 15, 16, 17, 18, 19, 20, 21] .nil)) .nil))) [.slice a na ca, .slice b_ nb cb] w R tabOk (fokOk [(16, [(false, [.str]), (false, [.bool])])]) Tryz.func132 (by kernel_rfl) _ (by kernel_rfl) hyp

/-- signet/pkce.find$1 -/
theorem f133_wp (v : ByteArray) (w : World) (R : Ending → World → Prop) (hyp :
 R (.returned (.string v)) w) :
    Calls prg 133 #[.string v] w R :=
  calls_mk .nil [.string v] w R tabOk (fokOk []) Tryz.func133 (by kernel_rfl) _ (by kernel_rfl) hyp

/-- signet/pkce.IsVerifier -/
theorem f134_wp (s : ByteArray) (w : World) (R : Ending → World → Prop) (hyp :
 ∃ (Inv1 : Int → World → Prop) (Mea1 : Int → World → Nat), Inv1 0 w ∧ ∀ (i : Int) (fr : Nat → Value) (w1 : World), 
 Inv1 i w1 →
 cond (decide (i < (s.size : Int))) (
 0 ≤ i ∧ ∃ c : UInt8, s.data.toList[i.toNat]? = some c ∧
 cond (decide ((c.toNat : Int) < (97 : Int))) (
 cond (decide ((c.toNat : Int) < (65 : Int))) (
 cond (decide ((c.toNat : Int) < (48 : Int))) (
 Calls prg 126 #[.string ⟨#[45, 46, 95, 126]⟩, .int .u8 (c.toNat : Int)] w1 fun e w2 => ∃ (r : Int), e = .returned (.int .i64 r) ∧
 cond (decide (r < (0 : Int))) (
 R (.returned (.bool false)) w2) (
 (Inv1 (IntKind.i64.wrap (i + (1 : Int))) w2 ∧ Mea1 (IntKind.i64.wrap (i + (1 : Int))) w2 < Mea1 i w1))) (
 cond (decide ((c.toNat : Int) > (57 : Int))) (
 Calls prg 126 #[.string ⟨#[45, 46, 95, 126]⟩, .int .u8 (c.toNat : Int)] w1 fun e w3 => ∃ (r1 : Int), e = .returned (.int .i64 r1) ∧
 cond (decide (r1 < (0 : Int))) (
 R (.returned (.bool false)) w3) (
 (Inv1 (IntKind.i64.wrap (i + (1 : Int))) w3 ∧ Mea1 (IntKind.i64.wrap (i + (1 : Int))) w3 < Mea1 i w1))) (
 (Inv1 (IntKind.i64.wrap (i + (1 : Int))) w1 ∧ Mea1 (IntKind.i64.wrap (i + (1 : Int))) w1 < Mea1 i w1)))) (
 cond (decide ((c.toNat : Int) > (90 : Int))) (
 cond (decide ((c.toNat : Int) < (48 : Int))) (
 Calls prg 126 #[.string ⟨#[45, 46, 95, 126]⟩, .int .u8 (c.toNat : Int)] w1 fun e w4 => ∃ (r2 : Int), e = .returned (.int .i64 r2) ∧
 cond (decide (r2 < (0 : Int))) (
 R (.returned (.bool false)) w4) (
 (Inv1 (IntKind.i64.wrap (i + (1 : Int))) w4 ∧ Mea1 (IntKind.i64.wrap (i + (1 : Int))) w4 < Mea1 i w1))) (
 cond (decide ((c.toNat : Int) > (57 : Int))) (
 Calls prg 126 #[.string ⟨#[45, 46, 95, 126]⟩, .int .u8 (c.toNat : Int)] w1 fun e w5 => ∃ (r3 : Int), e = .returned (.int .i64 r3) ∧
 cond (decide (r3 < (0 : Int))) (
 R (.returned (.bool false)) w5) (
 (Inv1 (IntKind.i64.wrap (i + (1 : Int))) w5 ∧ Mea1 (IntKind.i64.wrap (i + (1 : Int))) w5 < Mea1 i w1))) (
 (Inv1 (IntKind.i64.wrap (i + (1 : Int))) w1 ∧ Mea1 (IntKind.i64.wrap (i + (1 : Int))) w1 < Mea1 i w1)))) (
 (Inv1 (IntKind.i64.wrap (i + (1 : Int))) w1 ∧ Mea1 (IntKind.i64.wrap (i + (1 : Int))) w1 < Mea1 i w1)))) (
 cond (decide ((c.toNat : Int) > (122 : Int))) (
 cond (decide ((c.toNat : Int) < (65 : Int))) (
 cond (decide ((c.toNat : Int) < (48 : Int))) (
 Calls prg 126 #[.string ⟨#[45, 46, 95, 126]⟩, .int .u8 (c.toNat : Int)] w1 fun e w6 => ∃ (r4 : Int), e = .returned (.int .i64 r4) ∧
 cond (decide (r4 < (0 : Int))) (
 R (.returned (.bool false)) w6) (
 (Inv1 (IntKind.i64.wrap (i + (1 : Int))) w6 ∧ Mea1 (IntKind.i64.wrap (i + (1 : Int))) w6 < Mea1 i w1))) (
 cond (decide ((c.toNat : Int) > (57 : Int))) (
 Calls prg 126 #[.string ⟨#[45, 46, 95, 126]⟩, .int .u8 (c.toNat : Int)] w1 fun e w7 => ∃ (r5 : Int), e = .returned (.int .i64 r5) ∧
 cond (decide (r5 < (0 : Int))) (
 R (.returned (.bool false)) w7) (
 (Inv1 (IntKind.i64.wrap (i + (1 : Int))) w7 ∧ Mea1 (IntKind.i64.wrap (i + (1 : Int))) w7 < Mea1 i w1))) (
 (Inv1 (IntKind.i64.wrap (i + (1 : Int))) w1 ∧ Mea1 (IntKind.i64.wrap (i + (1 : Int))) w1 < Mea1 i w1)))) (
 cond (decide ((c.toNat : Int) > (90 : Int))) (
 cond (decide ((c.toNat : Int) < (48 : Int))) (
 Calls prg 126 #[.string ⟨#[45, 46, 95, 126]⟩, .int .u8 (c.toNat : Int)] w1 fun e w8 => ∃ (r6 : Int), e = .returned (.int .i64 r6) ∧
 cond (decide (r6 < (0 : Int))) (
 R (.returned (.bool false)) w8) (
 (Inv1 (IntKind.i64.wrap (i + (1 : Int))) w8 ∧ Mea1 (IntKind.i64.wrap (i + (1 : Int))) w8 < Mea1 i w1))) (
 cond (decide ((c.toNat : Int) > (57 : Int))) (
 Calls prg 126 #[.string ⟨#[45, 46, 95, 126]⟩, .int .u8 (c.toNat : Int)] w1 fun e w9 => ∃ (r7 : Int), e = .returned (.int .i64 r7) ∧
 cond (decide (r7 < (0 : Int))) (
 R (.returned (.bool false)) w9) (
 (Inv1 (IntKind.i64.wrap (i + (1 : Int))) w9 ∧ Mea1 (IntKind.i64.wrap (i + (1 : Int))) w9 < Mea1 i w1))) (
 (Inv1 (IntKind.i64.wrap (i + (1 : Int))) w1 ∧ Mea1 (IntKind.i64.wrap (i + (1 : Int))) w1 < Mea1 i w1)))) (
 (Inv1 (IntKind.i64.wrap (i + (1 : Int))) w1 ∧ Mea1 (IntKind.i64.wrap (i + (1 : Int))) w1 < Mea1 i w1)))) (
 (Inv1 (IntKind.i64.wrap (i + (1 : Int))) w1 ∧ Mea1 (IntKind.i64.wrap (i + (1 : Int))) w1 < Mea1 i w1)))) (
 cond (decide ((s.size : Int) ≥ (43 : Int))) (
 R (.returned (.bool (decide ((s.size : Int) ≤ (128 : Int))))) w1) (
 R (.returned (.bool false)) w1))) :
    Calls prg 134 #[.string s] w R :=
  calls_mk (.node .nil (.node (.node .nil (.loop [(3, .int .i64)] [2, 4, 5, 6, 7, 8, 9, 10, 11, 12, 13, 14, 15, 16, 17, 18, 19, 20, 21, 22, 23, 24, 25, 26, 27, 28, 29, 30, 31, 32, 33, 34, 35, 36, 37, 38, 39, 40] .nil)) .nil)) [.string s] w R tabOk (fokOk []) Tryz.func134 (by kernel_rfl) _ (by kernel_rfl) hyp

/-- signet/pkce.find$2 -/
theorem f135_wp (v : ByteArray) (w : World) (R : Ending → World → Prop) (hyp :
 ∀ (b_ cp : Nat) (w1 : World), b_ = w.heap.size → cp = grownCap w v.size 0 5 → w1 = Lib.bytesWorld w 5 v →
 Calls prg 136 #[.slice (some ⟨b_, 0, none⟩) v.size cp] w1 fun e w2 => ∃ (r : List Value), r.length = 32 ∧ e = .returned (.agg (ex r 32).toArray) ∧
 ∀ (b_1 : Nat) (w3 : World), b_1 = w2.heap.size → w3 = w2.alloc (.cells #[.int .u8 0, .int .u8 0, .int .u8 0, .int .u8 0, .int .u8 0, .int .u8 0, .int .u8 0, .int .u8 0, .int .u8 0, .int .u8 0, .int .u8 0, .int .u8 0, .int .u8 0, .int .u8 0, .int .u8 0, .int .u8 0, .int .u8 0, .int .u8 0, .int .u8 0, .int .u8 0, .int .u8 0, .int .u8 0, .int .u8 0, .int .u8 0, .int .u8 0, .int .u8 0, .int .u8 0, .int .u8 0, .int .u8 0, .int .u8 0, .int .u8 0, .int .u8 0] 180) →
 Sto w3 b_1 0 (ex r 32) ∧ ∀ w4, w4 = w3.setCells b_1 0 (ex r 32) →
 0 ≤ 32 ∧ 32 ≤ 32 ∧ ∀ q : Option Addr, (0 < 32 → q = some ⟨b_1, 0 + 0 * 1, none⟩) → (0 = 0 → q = (some ⟨b_1, 0, none⟩)) →
 Calls prg 125 #[.slice q 32 32] w4 fun e w5 => ∃ (r1 : ByteArray), e = .returned (.string r1) ∧
 R (.returned (.string r1)) w5) :
    Calls prg 135 #[.string v] w R :=
  calls_mk .nil [.string v] w R tabOk (fokOk []) Tryz.func135 (by kernel_rfl) _ (by kernel_rfl) hyp

/-- signet/sha.Sum -/
theorem f136_wp (b_ : Option Addr) (nb : Nat) (cb : Nat) (w : World) (R : Ending → World → Prop) (hyp :
 ∀ (b_1 : Nat) (w1 : World), b_1 = w.heap.size → w1 = w.alloc (.cells #[.int .u8 0, .int .u8 0, .int .u8 0, .int .u8 0, .int .u8 0, .int .u8 0, .int .u8 0, .int .u8 0, .int .u8 0, .int .u8 0, .int .u8 0, .int .u8 0, .int .u8 0, .int .u8 0, .int .u8 0, .int .u8 0, .int .u8 0, .int .u8 0, .int .u8 0, .int .u8 0, .int .u8 0, .int .u8 0, .int .u8 0, .int .u8 0, .int .u8 0, .int .u8 0, .int .u8 0, .int .u8 0, .int .u8 0, .int .u8 0, .int .u8 0, .int .u8 0] 180) →
 ∀ (b_2 : Nat) (w2 : World), b_2 = w1.heap.size → w2 = w1.alloc (.cells #[.slice b_ nb cb] 23) →
 Calls prg 162 #[.slice (some ⟨b_2, 0, none⟩) 1 1] w2 fun e w3 => ∃ (r : List Value), r.length = 32 ∧ e = .returned (.agg (ex r 32).toArray) ∧
 Sto w3 b_1 0 (ex r 32) ∧ ∀ w4, w4 = w3.setCells b_1 0 (ex r 32) →
 ∃ res : List Value, res.length = 32 ∧ w4.rangeAt b_1 0 res ∧
 R (.returned (.agg (ex res 32).toArray)) w4) :
    Calls prg 136 #[.slice b_ nb cb] w R :=
  calls_mk .nil [.slice b_ nb cb] w R tabOk (fokOk []) Tryz.func136 (by kernel_rfl) _ (by kernel_rfl) hyp

/-- signet/pkce.find$3 -/
theorem f137_wp (c : ByteArray) (w : World) (R : Ending → World → Prop) (hyp :
 Calls prg 138 #[.string c] w fun e w1 => ∃ (r : Option Addr) (nr cr : Nat), ∃ (r1 : Int), e = .returned (.tuple #[.slice r nr cr, .int .i64 r1]) ∧
 cond (decide (r1 = (0 : Int))) (
 R (.returned (.bool (decide ((nr : Int) = (32 : Int))))) w1) (
 R (.returned (.bool false)) w1)) :
    Calls prg 137 #[.string c] w R :=
  calls_mk .nil [.string c] w R tabOk (fokOk []) Tryz.func137 (by kernel_rfl) _ (by kernel_rfl) hyp

/-- signet/octet.Unweb -/
theorem f138_wp (s : ByteArray) (w : World) (R : Ending → World → Prop) (hyp :
 Calls prg 119 #[.string ⟨#[65, 66, 67, 68, 69, 70, 71, 72, 73, 74, 75, 76, 77, 78, 79, 80, 81, 82, 83, 84, 85, 86, 87, 88, 89, 90, 97, 98, 99, 100, 101, 102, 103, 104, 105, 106, 107, 108, 109, 110, 111, 112, 113, 114, 115, 116, 117, 118, 119, 120, 121, 122, 48, 49, 50, 51, 52, 53, 54, 55, 56, 57, 45, 95]⟩, .string s] w fun e w1 => ∃ (r : Option Addr) (nr cr : Nat), ∃ (r1 : Int), e = .returned (.tuple #[.slice r nr cr, .int .i64 r1]) ∧
 R (.returned (.tuple #[.slice r nr cr, .int .i64 r1])) w1) :
    Calls prg 138 #[.string s] w R :=
  calls_mk .nil [.string s] w R tabOk (fokOk []) Tryz.func138 (by kernel_rfl) _ (by kernel_rfl) hyp

/-- strings.Split -/
theorem f139_wp (s : ByteArray) (sep : ByteArray) (w : World) (R : Ending → World → Prop) (hyp :
 Calls prg 167 #[.string s, .string sep, .int .i64 0, .int .i64 (-1)] w fun e w1 => ∃ (r : Option Addr) (nr cr : Nat), e = .returned (.slice r nr cr) ∧
 R (.returned (.slice r nr cr)) w1) :
    Calls prg 139 #[.string s, .string sep] w R :=
  calls_mk .nil [.string s, .string sep] w R tabOk (fokOk []) Tryz.func139 (by kernel_rfl) _ (by kernel_rfl) hyp

/-- slices.ContainsFunc[[]string,string] -/
theorem f140_wp (s : Option Addr) (ns : Nat) (cs : Nat) (f : Value) (w : World) (R : Ending → World → Prop) (hyp :
 Calls prg 168 #[.slice s ns cs, f] w fun e w1 => ∃ (r : Int), e = .returned (.int .i64 r) ∧
 R (.returned (.bool (decide (r ≥ (0 : Int))))) w1) :
    Calls prg 140 #[.slice s ns cs, f] w R :=
  calls_mk .nil [.slice s ns cs, f] w R tabOk (fokOk []) Tryz.func140 (by kernel_rfl) _ (by kernel_rfl) hyp

/-- signet/scope.Parse$1 -/
theorem f141_wp (w1 : ByteArray) (w : World) (R : Ending → World → Prop) (hyp :
 Calls prg 142 #[.string w1] w fun e w2 => ∃ (r : Bool), e = .returned (.bool r) ∧
 R (.returned (.bool (!r))) w2) :
    Calls prg 141 #[.string w1] w R :=
  calls_mk .nil [.string w1] w R tabOk (fokOk []) Tryz.func141 (by kernel_rfl) _ (by kernel_rfl) hyp

/-- signet/scope.IsWord -/
theorem f142_wp (s : ByteArray) (w : World) (R : Ending → World → Prop) (hyp :
 ∃ (Inv1 : Int → World → Prop) (Mea1 : Int → World → Nat), Inv1 0 w ∧ ∀ (i : Int) (fr : Nat → Value) (w1 : World), 
 Inv1 i w1 →
 cond (decide (i < (s.size : Int))) (
 0 ≤ i ∧ ∃ c : UInt8, s.data.toList[i.toNat]? = some c ∧
 cond (decide ((c.toNat : Int) < (33 : Int))) (
 R (.returned (.bool false)) w1) (
 cond (decide ((c.toNat : Int) = (34 : Int))) (
 R (.returned (.bool false)) w1) (
 cond (decide ((c.toNat : Int) = (92 : Int))) (
 R (.returned (.bool false)) w1) (
 cond (decide ((c.toNat : Int) > (126 : Int))) (
 R (.returned (.bool false)) w1) (
 (Inv1 (IntKind.i64.wrap (i + (1 : Int))) w1 ∧ Mea1 (IntKind.i64.wrap (i + (1 : Int))) w1 < Mea1 i w1)))))) (
 cond (decide ((s.size : Int) ≥ (1 : Int))) (
 R (.returned (.bool (decide ((s.size : Int) ≤ (64 : Int))))) w1) (
 R (.returned (.bool false)) w1))) :
    Calls prg 142 #[.string s] w R :=
  calls_mk (.node .nil (.node (.node .nil (.loop [(3, .int .i64)] [2, 4, 5, 6, 7, 8, 9, 10, 11, 12, 13, 14, 15, 16, 17, 18, 19, 20, 21, 22, 23, 24, 25, 26, 27] .nil)) .nil)) [.string s] w R tabOk (fokOk []) Tryz.func142 (by kernel_rfl) _ (by kernel_rfl) hyp

/-- signet/signetref04.worth -/
theorem f143_wp (c : Int) (w : World) (R : Ending → World → Prop) (hyp :
 ∃ (Inv1 : Int → World → Prop) (Mea1 : Int → World → Nat), Inv1 0 w ∧ ∀ (n : Int) (fr : Nat → Value) (w1 : World), 
 Inv1 n w1 →
 cond (decide (n < (16 : Int))) (
 Calls prg 169 #[.int .i64 n] w1 fun e w2 => ∃ (r : Int), e = .returned (.int .u8 r) ∧
 cond (decide (r = c)) (
 R (.returned (.int .i64 n)) w2) (
 cond (decide (n > (9 : Int))) (
 cond (decide ((IntKind.u8.wrap (IntKind.i64.wrap ((87 : Int) + n))) = c)) (
 R (.returned (.int .i64 n)) w2) (
 (Inv1 (IntKind.i64.wrap (n + (1 : Int))) w2 ∧ Mea1 (IntKind.i64.wrap (n + (1 : Int))) w2 < Mea1 n w1))) (
 (Inv1 (IntKind.i64.wrap (n + (1 : Int))) w2 ∧ Mea1 (IntKind.i64.wrap (n + (1 : Int))) w2 < Mea1 n w1)))) (
 R (.returned (.int .i64 16)) w1)) :
    Calls prg 143 #[.int .u8 c] w R :=
  calls_mk (.node .nil (.node (.node .nil (.loop [(3, .int .i64)] [2, 4, 5, 6, 7, 8, 9, 10, 11, 12, 13, 14, 15, 16, 17, 18, 19, 20, 21, 22, 23] .nil)) .nil)) [.int .u8 c] w R tabOk (fokOk []) Tryz.func143 (by kernel_rfl) _ (by kernel_rfl) hyp

/-- signet/signetref06.Within -/
theorem f144_wp (a : Option Addr) (na : Nat) (ca : Nat) (b_ : Option Addr) (nb : Nat) (cb : Nat) (w : World) (R : Ending → World → Prop) (hyp :
 ∃ (Inv1 : Int → World → Prop) (Mea1 : Int → World → Nat), Inv1 0 w ∧ ∀ (i : Int) (fr : Nat → Value) (w1 : World), 
 Inv1 i w1 →
 cond (decide (i < (na : Int))) (
 0 ≤ i ∧ i < (na : Int) ∧ nilW a fun bk of =>
 ∃ (x : ByteArray), w1.cell? ⟨bk, of + i.toNat * 1, none⟩ = some (.string x) ∧
 Calls prg 97 #[.string x] w1 fun e w2 => ∃ (r : Bool), e = .returned (.bool r) ∧
 cond r (
 0 ≤ i ∧ i < (na : Int) ∧ nilW a fun bk1 of1 =>
 ∃ (x1 : ByteArray), w2.cell? ⟨bk1, of1 + i.toNat * 1, none⟩ = some (.string x1) ∧
 Calls prg 50 #[.slice b_ nb cb, .string x1] w2 fun e w3 => ∃ (r1 : Bool), e = .returned (.bool r1) ∧
 cond (!r1) (
 R (.returned (.bool false)) w3) (
 (Inv1 (IntKind.i64.wrap (i + (1 : Int))) w3 ∧ Mea1 (IntKind.i64.wrap (i + (1 : Int))) w3 < Mea1 i w1))) (
 (Inv1 (IntKind.i64.wrap (i + (1 : Int))) w2 ∧ Mea1 (IntKind.i64.wrap (i + (1 : Int))) w2 < Mea1 i w1))) (
 R (.returned (.bool true)) w1)) :
    Calls prg 144 #[.slice a na ca, .slice b_ nb cb] w R :=
  calls_mk (.node .nil (.node (.node .nil (.loop [(5, .int .i64)] [4, 6, 7, 8, 9, 10, 11, 12, 13, 14, 15, 16, 17, 18, 19, 20, 21, 22, 23, 24, 25] .nil)) .nil)) [.slice a na ca, .slice b_ nb cb] w R tabOk (fokOk []) Tryz.func144 (by kernel_rfl) _ (by kernel_rfl) hyp

/-- signet/signetref01.unsixes -/
theorem f145_wp (s : ByteArray) (web : Bool) (w : World) (R : Ending → World → Prop) (hyp :
 ∃ (Inv1 : Option Addr → Nat → Nat → Int → World → Prop) (Mea1 : Option Addr → Nat → Nat → Int → World → Nat), Inv1 none 0 0 0 w ∧ ∀ (l : Option Addr) (nl cl : Nat) (i : Int) (fr : Nat → Value) (w1 : World), 
 Inv1 l nl cl i w1 →
 cond (decide (i < (s.size : Int))) (
 ∃ (Inv2 : Int → Int → World → Prop) (Mea2 : Int → Int → World → Nat), Inv2 0 0 w1 ∧ ∀ (v n : Int) (fr1 : Nat → Value) (w2 : World), 
 Inv2 v n w2 →
 cond (decide (n < (64 : Int))) (
 ∃ (Drw1 : World → Prop), Drw1 w2.drew ∧
 0 ≤ i ∧ ∃ c : UInt8, s.data.toList[i.toNat]? = some c ∧
 Calls prg 170 #[.int .i64 n, .bool web] w2.drew fun e w3 => ∃ (r : Int), e = .returned (.int .u8 r) ∧
 cond (decide (r = (c.toNat : Int))) (
 (Inv2 n (IntKind.i64.wrap (n + (1 : Int))) w3 ∧ Mea2 n (IntKind.i64.wrap (n + (1 : Int))) w3 < Mea2 v n w2)) (
 (Inv2 v (IntKind.i64.wrap (n + (1 : Int))) w3 ∧ Mea2 v (IntKind.i64.wrap (n + (1 : Int))) w3 < Mea2 v n w2))) (
 ∃ (Inv3 : Option Addr → Nat → Nat → Int → World → Prop) (Mea3 : Option Addr → Nat → Nat → Int → World → Nat), Inv3 l nl cl 32 w2 ∧ ∀ (l1 : Option Addr) (nl1 cl1 : Nat) (w4 : Int) (fr2 : Nat → Value) (w5 : World), 
 Inv3 l1 nl1 cl1 w4 w5 →
 cond (decide (w4 > (0 : Int))) (
 w4 ≠ 0 ∧ (2 : Int) ≠ 0 ∧ ∀ (b_ : Nat) (w6 : World), b_ = w5.heap.size → w6 = w5.alloc (.cells #[.bool (decide ((Int.tmod (IntKind.i64.wrap (Int.tdiv v w4)) 2) = (1 : Int)))] 4) →
 ∃ (l2 : Option Addr) (nl2 cl2 : Nat) (w7 : World), (Builtin.append_ #[213, 213] 213 #[.slice l1 nl1 cl1, .slice (some ⟨b_, 0, none⟩) 1 1]).run prg w6 = .ok (.slice l2 nl2 cl2) w7 ∧
 (2 : Int) ≠ 0 ∧ (Inv3 l2 nl2 cl2 (IntKind.i64.wrap (Int.tdiv w4 2)) w7 ∧ Mea3 l2 nl2 cl2 (IntKind.i64.wrap (Int.tdiv w4 2)) w7 < Mea3 l1 nl1 cl1 w4 w5)) (
 (Inv1 l1 nl1 cl1 (IntKind.i64.wrap (i + (1 : Int))) w5 ∧ Mea1 l1 nl1 cl1 (IntKind.i64.wrap (i + (1 : Int))) w5 < Mea1 l nl cl i w1)))) (
 ∃ (Inv4 : Option Addr → Nat → Nat → Int → World → Prop) (Mea4 : Option Addr → Nat → Nat → Int → World → Nat), Inv4 none 0 0 0 w1 ∧ ∀ (b_1 : Option Addr) (nb cb : Nat) (i1 : Int) (fr3 : Nat → Value) (w8 : World), 
 Inv4 b_1 nb cb i1 w8 →
 cond (decide ((IntKind.i64.wrap (i1 + (8 : Int))) ≤ (nl : Int))) (
 0 ≤ i1 ∧ 0 ≤ (IntKind.i64.wrap (i1 + (8 : Int))) ∧ i1.toNat ≤ (IntKind.i64.wrap (i1 + (8 : Int))).toNat ∧ (IntKind.i64.wrap (i1 + (8 : Int))).toNat ≤ cl ∧ ∀ q : Option Addr, (0 < i1.toNat → i1.toNat < cl → q = shiftP l (i1.toNat * 1)) → (i1.toNat = 0 → q = l) →
 Calls prg 171 #[.slice q ((IntKind.i64.wrap (i1 + (8 : Int))).toNat - i1.toNat) (cl - i1.toNat)] w8 fun e w9 => ∃ (r1 : Int), e = .returned (.int .i64 r1) ∧
 ∀ (b_2 : Nat) (w10 : World), b_2 = w9.heap.size → w10 = w9.alloc (.cells #[.int .u8 (IntKind.u8.wrap r1)] 5) →
 ∃ (b_3 : Option Addr) (nb1 cb1 : Nat) (w11 : World), (Builtin.append_ #[23, 23] 23 #[.slice b_1 nb cb, .slice (some ⟨b_2, 0, none⟩) 1 1]).run prg w10 = .ok (.slice b_3 nb1 cb1) w11 ∧
 (Inv4 b_3 nb1 cb1 (IntKind.i64.wrap (i1 + (8 : Int))) w11 ∧ Mea4 b_3 nb1 cb1 (IntKind.i64.wrap (i1 + (8 : Int))) w11 < Mea4 b_1 nb cb i1 w8)) (
 R (.returned (.slice b_1 nb cb)) w8))) :
    Calls prg 145 #[.string s, .bool web] w R :=
  calls_mk (.node .nil (.node .nil (.node (.node .nil (.loop [(5, .slice), (6, .int .i64)] [7, 8, 9, 12, 13, 14, 15, 16, 17, 18, 19, 20, 21, 22, 23, 24, 25, 26, 27, 28, 29, 30, 31, 32, 33, 34, 35, 36, 37, 38, 39, 40, 41] (.node .nil (.node (.node .nil (.node (.node .nil (.loop [(7, .int .i64), (8, .int .i64)] [18, 19, 20, 21, 22, 23, 24, 25, 26, 27, 28, 29] (.node .nil (.node (.node (.draw (.op 0 (.op 1 (.op 3 (.op 4 (.op 5 (.op 2 (.op 6 .done)))))))) .nil) .nil)))) (.node .nil (.loop [(5, .slice), (9, .int .i64)] [30, 31, 32, 33, 34, 35, 36, 37, 38, 39, 40, 41] .nil)))) .nil)))) (.node .nil (.node (.node .nil (.loop [(10, .slice), (11, .int .i64)] [42, 43, 44, 45, 46, 47, 48, 49, 50, 51, 52, 53, 54, 55, 56, 57, 58] .nil)) .nil))))) [.string s, .bool web] w R tabOk (fokOk []) Tryz.func145 (by kernel_rfl) _ (by kernel_rfl) hyp

/-- signet/signetref01.Basic -/
theorem f146_wp (b_ : Option Addr) (nb : Nat) (cb : Nat) (w : World) (R : Ending → World → Prop) (hyp :
 Calls prg 149 #[.slice b_ nb cb, .bool false] w fun e w1 => ∃ (s : ByteArray), e = .returned (.string s) ∧
 ∃ (Inv1 : ByteArray → World → Prop) (Mea1 : ByteArray → World → Nat), Inv1 s w1 ∧ ∀ (s1 : ByteArray) (fr : Nat → Value) (w2 : World), 
 Inv1 s1 w2 →
 (4 : Int) ≠ 0 ∧ cond (decide ((Int.tmod (s1.size : Int) 4) ≠ (0 : Int))) (
 s1.size + (⟨#[61]⟩ : ByteArray).size ≤ 9223372036854775807 ∧ (Inv1 (s1 ++ (⟨#[61]⟩ : ByteArray)) w2 ∧ Mea1 (s1 ++ (⟨#[61]⟩ : ByteArray)) w2 < Mea1 s1 w2)) (
 R (.returned (.string s1)) w2)) :
    Calls prg 146 #[.slice b_ nb cb] w R :=
  calls_mk (.node .nil (.node .nil (.node (.loop [(3, .str)] [6, 7, 8, 9, 10, 11] .nil) .nil))) [.slice b_ nb cb] w R tabOk (fokOk []) Tryz.func146 (by kernel_rfl) _ (by kernel_rfl) hyp

end Go.Proofs.YtbbcofdibkgalaaGreatDoor
