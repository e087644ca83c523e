import Derived.Test.YtbbcofdibkgalaaGreatDoorWb
set_option linter.unusedVariables false
set_option maxRecDepth 100000
set_option maxHeartbeats 4000000
namespace Go.Proofs.YtbbcofdibkgalaaGreatDoor
open Go.Eng
/-- signet/signetref16.Peek -/
theorem f82_wp (s : ByteArray) (w : World) (R : Ending → World → Prop) (hyp :
 ∀ (b_ : Nat) (w1 : World), b_ = w.heap.size → w1 = w.alloc (.cells #[.int .i64 0, .string ⟨#[]⟩, .int .i64 0] 47) →
 ∃ (Inv1 : Option Addr → Nat → Nat → Int → World → Prop) (Mea1 : Option Addr → Nat → Nat → Int → World → Nat), Inv1 none 0 0 0 w1 ∧ ∀ (points : Option Addr) (npoints cpoints : Nat) (i : Int) (fr : Nat → Value) (w2 : World), 
 Inv1 points npoints cpoints i w2 →
 cond (decide (i < (s.size : Int))) (
 0 ≤ i ∧ ∃ c : UInt8, s.data.toList[i.toNat]? = some c ∧
 cond (decide ((c.toNat : Int) = (46 : Int))) (
 ∀ (b_1 : Nat) (w3 : World), b_1 = w2.heap.size → w3 = w2.alloc (.cells #[.int .i64 i] 3) →
 ∃ (points1 : Option Addr) (npoints1 cpoints1 : Nat) (w4 : World), (Builtin.append_ #[52, 52] 52 #[.slice points npoints cpoints, .slice (some ⟨b_1, 0, none⟩) 1 1]).run prg w3 = .ok (.slice points1 npoints1 cpoints1) w4 ∧
 (Inv1 points1 npoints1 cpoints1 (IntKind.i64.wrap (i + (1 : Int))) w4 ∧ Mea1 points1 npoints1 cpoints1 (IntKind.i64.wrap (i + (1 : Int))) w4 < Mea1 points npoints cpoints i w2)) (
 (Inv1 points npoints cpoints (IntKind.i64.wrap (i + (1 : Int))) w2 ∧ Mea1 points npoints cpoints (IntKind.i64.wrap (i + (1 : Int))) w2 < Mea1 points npoints cpoints i w2))) (
 ∃ (Cut1 : World → Prop), (
 cond (decide ((npoints : Int) ≠ (3 : Int))) (
 Sto w2 b_ 0 [.int .i64 0, .string ⟨#[]⟩, .int .i64 0] ∧ ∀ w5, w5 = w2.setCells b_ 0 [.int .i64 0, .string ⟨#[]⟩, .int .i64 0] →
 ∃ (Kind : Int) (Family : ByteArray) (Serial : Int), w5.rangeAt b_ 0 [.int .i64 Kind, .string Family, .int .i64 Serial] ∧
 R (.returned (.tuple #[.agg #[.int .i64 Kind, .string Family, .int .i64 Serial], .int .i64 3])) w5) (
 0 ≤ (0 : Int) ∧ 0 < (npoints : Int) ∧ nilW points fun bk of =>
 ∃ (x : Int), w2.cell? ⟨bk, of, none⟩ = some (.int .i64 x) ∧
 cond (decide (x ≠ (1 : Int))) (
 Sto w2 b_ 0 [.int .i64 0, .string ⟨#[]⟩, .int .i64 0] ∧ ∀ w6, w6 = w2.setCells b_ 0 [.int .i64 0, .string ⟨#[]⟩, .int .i64 0] →
 ∃ (Kind1 : Int) (Family1 : ByteArray) (Serial1 : Int), w6.rangeAt b_ 0 [.int .i64 Kind1, .string Family1, .int .i64 Serial1] ∧
 R (.returned (.tuple #[.agg #[.int .i64 Kind1, .string Family1, .int .i64 Serial1], .int .i64 3])) w6) (
 0 ≤ (2 : Int) ∧ 2 < (npoints : Int) ∧ nilW points fun bk1 of1 =>
 ∃ (x1 : Int), w2.cell? ⟨bk1, of1 + 2, none⟩ = some (.int .i64 x1) ∧
 cond (decide ((s.size : Int) ≠ (IntKind.i64.wrap (x1 + (17 : Int))))) (
 Sto w2 b_ 0 [.int .i64 0, .string ⟨#[]⟩, .int .i64 0] ∧ ∀ w7, w7 = w2.setCells b_ 0 [.int .i64 0, .string ⟨#[]⟩, .int .i64 0] →
 ∃ (Kind2 : Int) (Family2 : ByteArray) (Serial2 : Int), w7.rangeAt b_ 0 [.int .i64 Kind2, .string Family2, .int .i64 Serial2] ∧
 R (.returned (.tuple #[.agg #[.int .i64 Kind2, .string Family2, .int .i64 Serial2], .int .i64 3])) w7) (
 Cut1 w2)))) ∧
 ∀ (fr1 : Nat → Value) (w8 : World), Cut1 w8 →
 0 ≤ (2 : Int) ∧ 2 < (npoints : Int) ∧ nilW points fun bk2 of2 =>
 ∃ (x2 : Int), w8.cell? ⟨bk2, of2 + 2, none⟩ = some (.int .i64 x2) ∧
 ∃ (Inv2 : Int → World → Prop) (Mea2 : Int → World → Nat), Inv2 (IntKind.i64.wrap (x2 + (1 : Int))) w8 ∧ ∀ (i1 : Int) (fr2 : Nat → Value) (w9 : World), 
 Inv2 i1 w9 →
 cond (decide (i1 < (s.size : Int))) (
 0 ≤ i1 ∧ ∃ c1 : UInt8, s.data.toList[i1.toNat]? = some c1 ∧
 Calls prg 75 #[.int .u8 (c1.toNat : Int)] w9 fun e w10 => ∃ (r : Bool), e = .returned (.bool r) ∧
 cond (!r) (
 Sto w10 b_ 0 [.int .i64 0, .string ⟨#[]⟩, .int .i64 0] ∧ ∀ w11, w11 = w10.setCells b_ 0 [.int .i64 0, .string ⟨#[]⟩, .int .i64 0] →
 ∃ (Kind3 : Int) (Family3 : ByteArray) (Serial3 : Int), w11.rangeAt b_ 0 [.int .i64 Kind3, .string Family3, .int .i64 Serial3] ∧
 R (.returned (.tuple #[.agg #[.int .i64 Kind3, .string Family3, .int .i64 Serial3], .int .i64 3])) w11) (
 (Inv2 (IntKind.i64.wrap (i1 + (1 : Int))) w10 ∧ Mea2 (IntKind.i64.wrap (i1 + (1 : Int))) w10 < Mea2 i1 w9))) (
 0 ≤ (1 : Int) ∧ 1 < (npoints : Int) ∧ nilW points fun bk3 of3 =>
 ∃ (x3 : Int), w9.cell? ⟨bk3, of3 + 1, none⟩ = some (.int .i64 x3) ∧
 0 ≤ (2 : Int) ∧ 0 ≤ x3 ∧ 2 ≤ x3.toNat ∧ x3.toNat ≤ s.size ∧
 ∀ (b_2 : Nat) (w12 : World), b_2 = w9.heap.size → w12 = w9.alloc (.cells #[.int .i64 0, .string ⟨#[]⟩, .int .i64 0] 47) →
 Sto w12 b_2 0 [.int .i64 0, .string (s.extract 2 x3.toNat), .int .i64 0] ∧ ∀ w13, w13 = w12.setCells b_2 0 [.int .i64 0, .string (s.extract 2 x3.toNat), .int .i64 0] →
 ∃ (Inv3 : Int → World → Prop) (Mea3 : Int → World → Nat), Inv3 1 w13 ∧ ∀ (k : Int) (fr3 : Nat → Value) (w14 : World), 
 Inv3 k w14 →
 cond (decide (k < (4 : Int))) (
 ∃ (Drw1 : World → Prop), Drw1 w14.drew ∧
 0 ≤ (0 : Int) ∧ ∃ c2 : UInt8, s.data.toList[Int.toNat 0]? = some c2 ∧
 0 ≤ k ∧ ∃ c3 : UInt8, (⟨#[63, 99, 97, 114]⟩ : ByteArray).data.toList[k.toNat]? = some c3 ∧
 cond (decide ((c2.toNat : Int) = (c3.toNat : Int))) (
 Sto w14.drew b_2 0 [.int .i64 k] ∧ ∀ w15, w15 = w14.drew.setCells b_2 0 [.int .i64 k] →
 (Inv3 (IntKind.i64.wrap (k + (1 : Int))) w15 ∧ Mea3 (IntKind.i64.wrap (k + (1 : Int))) w15 < Mea3 k w14)) (
 (Inv3 (IntKind.i64.wrap (k + (1 : Int))) w14.drew ∧ Mea3 (IntKind.i64.wrap (k + (1 : Int))) w14.drew < Mea3 k w14))) (
 ∃ (Cut2 : World → Prop), (
 0 ≤ (1 : Int) ∧ 1 < (npoints : Int) ∧ nilW points fun bk4 of4 =>
 ∃ (x4 : Int), w14.cell? ⟨bk4, of4 + 1, none⟩ = some (.int .i64 x4) ∧
 ∃ (Inv4 : Int → World → Prop) (Mea4 : Int → World → Nat), Inv4 (IntKind.i64.wrap (x4 + (1 : Int))) w14 ∧ ∀ (i2 : Int) (fr4 : Nat → Value) (w16 : World), 
 Inv4 i2 w16 →
 ∃ (Cut3 : World → Prop), (
 0 ≤ (2 : Int) ∧ 2 < (npoints : Int) ∧ nilW points fun bk5 of5 =>
 ∃ (x5 : Int), w16.cell? ⟨bk5, of5 + 2, none⟩ = some (.int .i64 x5) ∧
 cond (decide (i2 < x5)) (
 0 ≤ (1 : Int) ∧ 1 < (npoints : Int) ∧ nilW points fun bk6 of6 =>
 ∃ (x6 : Int), w16.cell? ⟨bk6, of6 + 1, none⟩ = some (.int .i64 x6) ∧
 cond (decide (i2 < (IntKind.i64.wrap (x6 + (15 : Int))))) (
 Cut3 w16) (
 Cut2 w16)) (
 Cut2 w16)) ∧
 ∀ (fr5 : Nat → Value) (w17 : World), Cut3 w17 →
 0 ≤ i2 ∧ ∃ c4 : UInt8, s.data.toList[i2.toNat]? = some c4 ∧
 cond (decide ((c4.toNat : Int) < (48 : Int))) (
 Sto w17 b_ 0 [.int .i64 0, .string ⟨#[]⟩, .int .i64 0] ∧ ∀ w18, w18 = w17.setCells b_ 0 [.int .i64 0, .string ⟨#[]⟩, .int .i64 0] →
 ∃ (Kind4 : Int) (Family4 : ByteArray) (Serial4 : Int), w18.rangeAt b_ 0 [.int .i64 Kind4, .string Family4, .int .i64 Serial4] ∧
 R (.returned (.tuple #[.agg #[.int .i64 Kind4, .string Family4, .int .i64 Serial4], .int .i64 3])) w18) (
 0 ≤ i2 ∧ ∃ c5 : UInt8, s.data.toList[i2.toNat]? = some c5 ∧
 cond (decide ((c5.toNat : Int) > (57 : Int))) (
 Sto w17 b_ 0 [.int .i64 0, .string ⟨#[]⟩, .int .i64 0] ∧ ∀ w19, w19 = w17.setCells b_ 0 [.int .i64 0, .string ⟨#[]⟩, .int .i64 0] →
 ∃ (Kind5 : Int) (Family5 : ByteArray) (Serial5 : Int), w19.rangeAt b_ 0 [.int .i64 Kind5, .string Family5, .int .i64 Serial5] ∧
 R (.returned (.tuple #[.agg #[.int .i64 Kind5, .string Family5, .int .i64 Serial5], .int .i64 3])) w19) (
 ∃ (Drw2 : World → Prop), Drw2 w17.drew ∧
 ∃ (x7 : Int), (∀ w20 : World, Drw2 w20 → w20.cell? ⟨b_2, 2, none⟩ = some (.int .i64 x7)) ∧
 0 ≤ i2 ∧ ∃ c6 : UInt8, s.data.toList[i2.toNat]? = some c6 ∧
 Sto w17.drew b_2 2 [.int .i64 (IntKind.i64.wrap ((IntKind.i64.wrap ((10 : Int) * x7)) + (IntKind.i64.wrap (IntKind.u8.wrap ((c6.toNat : Int) - (48 : Int))))))] ∧ ∀ w21, w21 = w17.drew.setCells b_2 2 [.int .i64 (IntKind.i64.wrap ((IntKind.i64.wrap ((10 : Int) * x7)) + (IntKind.i64.wrap (IntKind.u8.wrap ((c6.toNat : Int) - (48 : Int))))))] →
 (Inv4 (IntKind.i64.wrap (i2 + (1 : Int))) w21 ∧ Mea4 (IntKind.i64.wrap (i2 + (1 : Int))) w21 < Mea4 i2 w16)))) ∧
 ∀ (fr6 : Nat → Value) (w22 : World), Cut2 w22 →
 ∃ (Drw3 : World → Prop), Drw3 w22.drew ∧
 ∃ (Kind6 : Int) (Family6 : ByteArray) (Serial6 : Int), (∀ w23 : World, Drw3 w23 → w23.rangeAt b_2 0 [.int .i64 Kind6, .string Family6, .int .i64 Serial6]) ∧
 Calls prg 32 #[.agg #[.int .i64 Kind6, .string Family6, .int .i64 Serial6]] w22.drew fun e w24 => ∃ (r1 : Bool), e = .returned (.bool r1) ∧
 Drw3 w24 ∧ cond (!r1) (
 Sto w24 b_ 0 [.int .i64 0, .string ⟨#[]⟩, .int .i64 0] ∧ ∀ w25, w25 = w24.setCells b_ 0 [.int .i64 0, .string ⟨#[]⟩, .int .i64 0] →
 ∃ (Kind7 : Int) (Family7 : ByteArray) (Serial7 : Int), w25.rangeAt b_ 0 [.int .i64 Kind7, .string Family7, .int .i64 Serial7] ∧
 R (.returned (.tuple #[.agg #[.int .i64 Kind7, .string Family7, .int .i64 Serial7], .int .i64 3])) w25) (
 ∃ (Kind8 : Int) (Family8 : ByteArray) (Serial8 : Int), (∀ w26 : World, Drw3 w26 → w26.rangeAt b_2 0 [.int .i64 Kind8, .string Family8, .int .i64 Serial8]) ∧
 0 ≤ (2 : Int) ∧ 2 < (npoints : Int) ∧ nilW points fun bk7 of7 =>
 ∃ (x8 : Int), (∀ w27 : World, Drw3 w27 → w27.cell? ⟨bk7, of7 + 2, none⟩ = some (.int .i64 x8)) ∧
 0 ≤ (IntKind.i64.wrap (x8 + (1 : Int))) ∧ 0 ≤ (IntKind.i64.wrap (x8 + (1 : Int))).toNat ∧ (IntKind.i64.wrap (x8 + (1 : Int))).toNat ≤ s.size ∧
 Calls prg 115 #[.agg #[.int .i64 Kind8, .string Family8, .int .i64 Serial8]] w24 fun e w28 => ∃ (r2 : ByteArray), e = .returned (.string r2) ∧
 Drw3 w28 ∧ cond (decide (r2 ≠ (s.extract 0 ((IntKind.i64.wrap (x8 + (1 : Int))).toNat)))) (
 Sto w28 b_ 0 [.int .i64 0, .string ⟨#[]⟩, .int .i64 0] ∧ ∀ w29, w29 = w28.setCells b_ 0 [.int .i64 0, .string ⟨#[]⟩, .int .i64 0] →
 ∃ (Kind9 : Int) (Family9 : ByteArray) (Serial9 : Int), w29.rangeAt b_ 0 [.int .i64 Kind9, .string Family9, .int .i64 Serial9] ∧
 R (.returned (.tuple #[.agg #[.int .i64 Kind9, .string Family9, .int .i64 Serial9], .int .i64 3])) w29) (
 ∃ (Kind10 : Int) (Family10 : ByteArray) (Serial10 : Int), w28.rangeAt b_2 0 [.int .i64 Kind10, .string Family10, .int .i64 Serial10] ∧
 Sto w28 b_ 0 [.int .i64 Kind10, .string Family10, .int .i64 Serial10] ∧ ∀ w30, w30 = w28.setCells b_ 0 [.int .i64 Kind10, .string Family10, .int .i64 Serial10] →
 ∃ (Kind11 : Int) (Family11 : ByteArray) (Serial11 : Int), w30.rangeAt b_ 0 [.int .i64 Kind11, .string Family11, .int .i64 Serial11] ∧
 R (.returned (.tuple #[.agg #[.int .i64 Kind11, .string Family11, .int .i64 Serial11], .int .i64 0])) w30)))))) :
    Calls prg 82 #[.string s] w R :=
  calls_mk (.node .nil (.node .nil (.node (.node .nil (.loop [(4, .slice), (5, .int .i64)] [10, 11, 12, 13, 14, 15, 16, 17, 18, 19, 20, 21, 22, 23] .nil)) (.cut [] [3, 24, 25, 26, 27, 28, 29, 30, 31, 32, 33, 34, 35, 36, 37, 38, 39, 40, 41, 42] .nil (.node (.node .nil (.loop [(6, .int .i64)] [3, 47, 48, 49, 50, 51, 52, 53, 54, 55, 56, 57, 58] .nil)) (.node .nil (.node (.node .nil (.loop [(8, .int .i64)] [65, 66, 67, 68, 69, 70, 71, 72, 73, 74, 75] (.node .nil (.node (.node (.draw (.op 0 (.op 1 (.op 2 (.op 3 (.op 4 .done)))))) .nil) .nil)))) (.cut [] [3, 9, 76, 77, 78, 79, 80, 81, 82, 83, 84, 85, 86, 87, 88, 89, 90, 91, 92, 93, 94, 95, 96, 97, 98, 99, 100, 101, 102, 103, 104, 105, 106, 107, 108, 109, 110, 111, 112, 113, 114, 115] (.node .nil (.loop [(9, .int .i64)] [3, 80, 81, 82, 83, 84, 85, 86, 87, 88, 89, 90, 91, 92, 93, 94, 95, 96, 97, 98, 99, 100, 101, 102, 103, 104, 105, 106, 107, 108, 109, 110, 111, 112, 113, 114, 115] (.cut [] [80, 81, 82, 83, 84, 85, 86, 87, 88, 89, 90, 91, 92] .nil (.node (.node .nil (.draw (.op 0 (.op 1 (.op 2 (.op 3 (.op 4 (.op 5 (.op 6 (.op 7 (.op 8 (.op 9 (.op 10 .done))))))))))))) .nil)))) (.node (.node (.draw (.op 0 (.op 1 (.op 2 (.op 3 (.op 4 (.op 6 (.op 7 (.op 8 (.op 9 (.op 10 (.op 11 (.op 5 (.op 12 (.op 13 .done))))))))))))))) .nil) .nil))))))))) [.string s] w R tabOk (fokOk []) Tryz.func82 (by kernel_rfl) _ (by kernel_rfl) hyp

/-- signet/signetref16.Make -/
theorem f83_wp (secret : Option Addr) (nsecret : Nat) (csecret : Nat) (t_Kind : Int) (t_Family : ByteArray) (t_Serial : Int) (w : World) (R : Ending → World → Prop) (hyp :
 ∀ (b_ : Nat) (w1 : World), b_ = w.heap.size → w1 = w.alloc (.cells #[.int .i64 t_Kind, .string t_Family, .int .i64 t_Serial] 47) →
 ∃ (Kind : Int) (Family : ByteArray) (Serial : Int), w1.rangeAt b_ 0 [.int .i64 Kind, .string Family, .int .i64 Serial] ∧
 Calls prg 32 #[.agg #[.int .i64 Kind, .string Family, .int .i64 Serial]] w1 fun e w2 => ∃ (r : Bool), e = .returned (.bool r) ∧
 cond (!r) (
 R (.returned (.tuple #[.string ⟨#[]⟩, .int .i64 1])) w2) (
 ∃ (Kind1 : Int) (Family1 : ByteArray) (Serial1 : Int), w2.rangeAt b_ 0 [.int .i64 Kind1, .string Family1, .int .i64 Serial1] ∧
 Calls prg 115 #[.agg #[.int .i64 Kind1, .string Family1, .int .i64 Serial1]] w2 fun e w3 => ∃ (h : ByteArray), e = .returned (.string h) ∧
 ∀ (b_1 cp : Nat) (w4 : World), b_1 = w3.heap.size → cp = grownCap w3 h.size 0 5 → w4 = Lib.bytesWorld w3 5 h →
 Calls prg 116 #[.slice secret nsecret csecret, .slice (some ⟨b_1, 0, none⟩) h.size cp] w4 fun e w5 => ∃ (r1 : List Value), r1.length = 32 ∧ e = .returned (.agg (ex r1 32).toArray) ∧
 ∀ (b_2 : Nat) (w6 : World), b_2 = w5.heap.size → w6 = w5.alloc (.cells #[.int .u8 0, .int .u8 0, .int .u8 0, .int .u8 0, .int .u8 0, .int .u8 0, .int .u8 0, .int .u8 0, .int .u8 0, .int .u8 0, .int .u8 0, .int .u8 0, .int .u8 0, .int .u8 0, .int .u8 0, .int .u8 0, .int .u8 0, .int .u8 0, .int .u8 0, .int .u8 0, .int .u8 0, .int .u8 0, .int .u8 0, .int .u8 0, .int .u8 0, .int .u8 0, .int .u8 0, .int .u8 0, .int .u8 0, .int .u8 0, .int .u8 0, .int .u8 0] 175) →
 Sto w6 b_2 0 (ex r1 32) ∧ ∀ w7, w7 = w6.setCells b_2 0 (ex r1 32) →
 0 ≤ (12 : Int) ∧ 0 ≤ 12 ∧ 12 ≤ 32 ∧ ∀ q : Option Addr, (0 < 32 → q = some ⟨b_2, 0 + 0 * 1, none⟩) → (0 = 0 → q = (some ⟨b_2, 0, none⟩)) →
 Calls prg 117 #[.slice q 12 32] w7 fun e w8 => ∃ (r2 : ByteArray), e = .returned (.string r2) ∧
 h.size + r2.size ≤ 9223372036854775807 ∧ R (.returned (.tuple #[.string (h ++ r2), .int .i64 0])) w8)) :
    Calls prg 83 #[.slice secret nsecret csecret, .agg #[.int .i64 t_Kind, .string t_Family, .int .i64 t_Serial]] w R :=
  calls_mk .nil [.slice secret nsecret csecret, .agg #[.int .i64 t_Kind, .string t_Family, .int .i64 t_Serial]] w R tabOk (fokOk []) Tryz.func83 (by kernel_rfl) _ (by kernel_rfl) hyp

/-- strings.CutPrefix -/
theorem f84_wp (s : ByteArray) (prefix_ : ByteArray) (w : World) (R : Ending → World → Prop) (hyp :
 Calls prg 118 #[.string s, .string prefix_] w fun e w1 => ∃ (r : ByteArray), ∃ (r1 : Bool), e = .returned (.tuple #[.string r, .bool r1]) ∧
 R (.returned (.tuple #[.string r, .bool r1])) w1) :
    Calls prg 84 #[.string s, .string prefix_] w R :=
  calls_mk .nil [.string s, .string prefix_] w R tabOk (fokOk []) Tryz.func84 (by kernel_rfl) _ (by kernel_rfl) hyp

/-- signet/octet.Unbasic -/
theorem f85_wp (s : ByteArray) (w : World) (R : Ending → World → Prop) (hyp :
 (4 : Int) ≠ 0 ∧ cond (decide ((Int.tmod (s.size : Int) 4) ≠ (0 : Int))) (
 R (.returned (.tuple #[.slice none 0 0, .int .i64 3])) w) (
 ∃ (Inv1 : Int → World → Prop) (Mea1 : Int → World → Nat), Inv1 (s.size : Int) w ∧ ∀ (n : Int) (fr : Nat → Value) (w1 : World), 
 Inv1 n w1 →
 cond (decide (n > (0 : Int))) (
 cond (decide (n > (IntKind.i64.wrap ((s.size : Int) - (2 : Int))))) (
 0 ≤ (IntKind.i64.wrap (n - (1 : Int))) ∧ ∃ c : UInt8, s.data.toList[(IntKind.i64.wrap (n - (1 : Int))).toNat]? = some c ∧
 cond (decide ((c.toNat : Int) = (61 : Int))) (
 (Inv1 (IntKind.i64.wrap (n - (1 : Int))) w1 ∧ Mea1 (IntKind.i64.wrap (n - (1 : Int))) w1 < Mea1 n w1)) (
 0 ≤ n ∧ 0 ≤ n.toNat ∧ n.toNat ≤ s.size ∧
 Calls prg 119 #[.string ⟨#[65, 66, 67, 68, 69, 70, 71, 72, 73, 74, 75, 76, 77, 78, 79, 80, 81, 82, 83, 84, 85, 86, 87, 88, 89, 90, 97, 98, 99, 100, 101, 102, 103, 104, 105, 106, 107, 108, 109, 110, 111, 112, 113, 114, 115, 116, 117, 118, 119, 120, 121, 122, 48, 49, 50, 51, 52, 53, 54, 55, 56, 57, 43, 47]⟩, .string (s.extract 0 n.toNat)] w1 fun e w2 => ∃ (r : Option Addr) (nr cr : Nat), ∃ (r1 : Int), e = .returned (.tuple #[.slice r nr cr, .int .i64 r1]) ∧
 R (.returned (.tuple #[.slice r nr cr, .int .i64 r1])) w2)) (
 0 ≤ n ∧ 0 ≤ n.toNat ∧ n.toNat ≤ s.size ∧
 Calls prg 119 #[.string ⟨#[65, 66, 67, 68, 69, 70, 71, 72, 73, 74, 75, 76, 77, 78, 79, 80, 81, 82, 83, 84, 85, 86, 87, 88, 89, 90, 97, 98, 99, 100, 101, 102, 103, 104, 105, 106, 107, 108, 109, 110, 111, 112, 113, 114, 115, 116, 117, 118, 119, 120, 121, 122, 48, 49, 50, 51, 52, 53, 54, 55, 56, 57, 43, 47]⟩, .string (s.extract 0 n.toNat)] w1 fun e w3 => ∃ (r2 : Option Addr) (nr1 cr1 : Nat), ∃ (r3 : Int), e = .returned (.tuple #[.slice r2 nr1 cr1, .int .i64 r3]) ∧
 R (.returned (.tuple #[.slice r2 nr1 cr1, .int .i64 r3])) w3)) (
 0 ≤ n ∧ 0 ≤ n.toNat ∧ n.toNat ≤ s.size ∧
 Calls prg 119 #[.string ⟨#[65, 66, 67, 68, 69, 70, 71, 72, 73, 74, 75, 76, 77, 78, 79, 80, 81, 82, 83, 84, 85, 86, 87, 88, 89, 90, 97, 98, 99, 100, 101, 102, 103, 104, 105, 106, 107, 108, 109, 110, 111, 112, 113, 114, 115, 116, 117, 118, 119, 120, 121, 122, 48, 49, 50, 51, 52, 53, 54, 55, 56, 57, 43, 47]⟩, .string (s.extract 0 n.toNat)] w1 fun e w4 => ∃ (r4 : Option Addr) (nr2 cr2 : Nat), ∃ (r5 : Int), e = .returned (.tuple #[.slice r4 nr2 cr2, .int .i64 r5]) ∧
 R (.returned (.tuple #[.slice r4 nr2 cr2, .int .i64 r5])) w4))) :
    Calls prg 85 #[.string s] w R :=
  calls_mk (.node .nil (.node .nil (.node .nil (.node (.loop [(4, .int .i64)] [11, 12, 13, 14, 15, 16, 17, 18, 19, 20, 21, 22, 23, 24, 25, 26, 27, 28] .nil) .nil)))) [.string s] w R tabOk (fokOk []) Tryz.func85 (by kernel_rfl) _ (by kernel_rfl) hyp

/-- signet/seal.part -/
theorem f87_wp (s : Option Addr) (w : World) (R : Ending → World → Prop) (hyp :
 nilW s fun bk of =>
 ∃ (x : ByteArray), w.cell? ⟨bk, of, none⟩ = some (.string x) ∧
 Calls prg 71 #[.string x, .string ⟨#[46]⟩] w fun e w1 => ∃ (r : ByteArray), ∃ (r1 : ByteArray), ∃ (r2 : Bool), e = .returned (.tuple #[.string r, .string r1, .bool r2]) ∧
 cond (!r2) (
 prg.concrete 138 = true ∧ False) (
 nilW s fun bk1 of1 =>
 Sto w1 bk1 of1 [.string r1] ∧ ∀ w2, w2 = w1.setCells bk1 of1 [.string r1] →
 R (.returned (.string r)) w2)) :
    Calls prg 87 #[.pointer s] w R :=
  calls_mk .nil [.pointer s] w R tabOk (fokOk []) Tryz.func87 (by kernel_rfl) _ (by kernel_rfl) hyp

/-- strings.Index -/
theorem f88_wp (s : ByteArray) (substr : ByteArray) (w : World) (R : Ending → World → Prop) (hyp :
 Calls prg 120 #[.string s, .string substr] w fun e w1 => ∃ (r : Int), e = .returned (.int .i64 r) ∧
 R (.returned (.int .i64 r)) w1) :
    Calls prg 88 #[.string s, .string substr] w R :=
  calls_mk .nil [.string s, .string substr] w R tabOk (fokOk []) Tryz.func88 (by kernel_rfl) _ (by kernel_rfl) hyp

/-- signet/seal.head -/
theorem f90_wp (t_Kind : Int) (t_Family : ByteArray) (t_Serial : Int) (w : World) (R : Ending → World → Prop) (hyp :
 ∀ (b_ : Nat) (w1 : World), b_ = w.heap.size → w1 = w.alloc (.cells #[.int .i64 t_Kind, .string t_Family, .int .i64 t_Serial] 47) →
 ∃ (Drw1 : World → Prop), Drw1 w1.drew ∧
 ∃ (x : Int), (∀ w2 : World, Drw1 w2 → w2.cell? ⟨b_, 0, none⟩ = some (.int .i64 x)) ∧
 ∃ (x1 : Int), (∀ w3 : World, Drw1 w3 → w3.cell? ⟨b_, 0, none⟩ = some (.int .i64 x1)) ∧
 0 ≤ x ∧ 0 ≤ (IntKind.i64.wrap (x1 + (1 : Int))) ∧ x.toNat ≤ (IntKind.i64.wrap (x1 + (1 : Int))).toNat ∧ (IntKind.i64.wrap (x1 + (1 : Int))).toNat ≤ (⟨#[63, 99, 97, 114]⟩ : ByteArray).size ∧
 ((⟨#[63, 99, 97, 114]⟩ : ByteArray).extract x.toNat ((IntKind.i64.wrap (x1 + (1 : Int))).toNat)).size + (⟨#[46]⟩ : ByteArray).size ≤ 9223372036854775807 ∧ ∃ (x2 : ByteArray), (∀ w4 : World, Drw1 w4 → w4.cell? ⟨b_, 1, none⟩ = some (.string x2)) ∧
 (((⟨#[63, 99, 97, 114]⟩ : ByteArray).extract x.toNat ((IntKind.i64.wrap (x1 + (1 : Int))).toNat)) ++ (⟨#[46]⟩ : ByteArray)).size + x2.size ≤ 9223372036854775807 ∧ ((((⟨#[63, 99, 97, 114]⟩ : ByteArray).extract x.toNat ((IntKind.i64.wrap (x1 + (1 : Int))).toNat)) ++ (⟨#[46]⟩ : ByteArray)) ++ x2).size + (⟨#[46]⟩ : ByteArray).size ≤ 9223372036854775807 ∧ ∃ (x3 : Int), (∀ w5 : World, Drw1 w5 → w5.cell? ⟨b_, 2, none⟩ = some (.int .i64 x3)) ∧
 Calls prg 123 #[.int .i64 x3] w1.drew fun e w6 => ∃ (r : ByteArray), e = .returned (.string r) ∧
 Drw1 w6 ∧ (((((⟨#[63, 99, 97, 114]⟩ : ByteArray).extract x.toNat ((IntKind.i64.wrap (x1 + (1 : Int))).toNat)) ++ (⟨#[46]⟩ : ByteArray)) ++ x2) ++ (⟨#[46]⟩ : ByteArray)).size + r.size ≤ 9223372036854775807 ∧ ((((((⟨#[63, 99, 97, 114]⟩ : ByteArray).extract x.toNat ((IntKind.i64.wrap (x1 + (1 : Int))).toNat)) ++ (⟨#[46]⟩ : ByteArray)) ++ x2) ++ (⟨#[46]⟩ : ByteArray)) ++ r).size + (⟨#[46]⟩ : ByteArray).size ≤ 9223372036854775807 ∧ R (.returned (.string (((((((⟨#[63, 99, 97, 114]⟩ : ByteArray).extract x.toNat ((IntKind.i64.wrap (x1 + (1 : Int))).toNat)) ++ (⟨#[46]⟩ : ByteArray)) ++ x2) ++ (⟨#[46]⟩ : ByteArray)) ++ r) ++ (⟨#[46]⟩ : ByteArray)))) w6) :
    Calls prg 90 #[.agg #[.int .i64 t_Kind, .string t_Family, .int .i64 t_Serial]] w R :=
  calls_mk (.node .nil (.node (.draw (.op 0 (.op 1 (.op 2 (.op 3 (.op 4 (.op 5 (.op 6 (.op 7 (.op 8 (.op 9 (.op 10 (.op 11 (.op 12 (.op 13 (.op 14 (.op 15 (.op 16 .done)))))))))))))))))) .nil)) [.agg #[.int .i64 t_Kind, .string t_Family, .int .i64 t_Serial]] w R tabOk (fokOk []) Tryz.func90 (by kernel_rfl) _ (by kernel_rfl) hyp

/-- signet/seal.tag -/
theorem f91_wp (secret : Option Addr) (nsecret : Nat) (csecret : Nat) (head : ByteArray) (w : World) (R : Ending → World → Prop) (hyp :
 ∀ (b_ cp : Nat) (w1 : World), b_ = w.heap.size → cp = grownCap w head.size 0 5 → w1 = Lib.bytesWorld w 5 head →
 ∀ (b_1 : Nat) (w2 : World), b_1 = w1.heap.size → w2 = w1.alloc (.cells #[.slice (some ⟨b_, 0, none⟩) head.size cp] 23) →
 Calls prg 124 #[.slice secret nsecret csecret, .slice (some ⟨b_1, 0, none⟩) 1 1] w2 fun e w3 => ∃ (r : List Value), r.length = 32 ∧ e = .returned (.agg (ex r 32).toArray) ∧
 ∀ (b_2 : Nat) (w4 : World), b_2 = w3.heap.size → w4 = w3.alloc (.cells #[.int .u8 0, .int .u8 0, .int .u8 0, .int .u8 0, .int .u8 0, .int .u8 0, .int .u8 0, .int .u8 0, .int .u8 0, .int .u8 0, .int .u8 0, .int .u8 0, .int .u8 0, .int .u8 0, .int .u8 0, .int .u8 0, .int .u8 0, .int .u8 0, .int .u8 0, .int .u8 0, .int .u8 0, .int .u8 0, .int .u8 0, .int .u8 0, .int .u8 0, .int .u8 0, .int .u8 0, .int .u8 0, .int .u8 0, .int .u8 0, .int .u8 0, .int .u8 0] 180) →
 Sto w4 b_2 0 (ex r 32) ∧ ∀ w5, w5 = w4.setCells b_2 0 (ex r 32) →
 0 ≤ (12 : Int) ∧ 0 ≤ 12 ∧ 12 ≤ 32 ∧ ∀ q : Option Addr, (0 < 32 → q = some ⟨b_2, 0 + 0 * 1, none⟩) → (0 = 0 → q = (some ⟨b_2, 0, none⟩)) →
 Calls prg 125 #[.slice q 12 32] w5 fun e w6 => ∃ (r1 : ByteArray), e = .returned (.string r1) ∧
 R (.returned (.string r1)) w6) :
    Calls prg 91 #[.slice secret nsecret csecret, .string head] w R :=
  calls_mk .nil [.slice secret nsecret csecret, .string head] w R tabOk (fokOk []) Tryz.func91 (by kernel_rfl) _ (by kernel_rfl) hyp

/-- signet/octet.sixes -/
theorem f92_wp (signs : ByteArray) (b_ : Option Addr) (nb : Nat) (cb : Nat) (w : World) (R : Ending → World → Prop) (hyp :
 ∃ (Inv1 : Option Addr → Nat → Nat → Int → Int → Int → World → Prop) (Mea1 : Option Addr → Nat → Nat → Int → Int → Int → World → Nat), Inv1 none 0 0 0 0 0 w ∧ ∀ (s : Option Addr) (ns cs : Nat) (held bits t12 : Int) (fr : Nat → Value) (w1 : World), 
 Inv1 s ns cs held bits t12 w1 →
 cond (decide (t12 < (nb : Int))) (
 0 ≤ t12 ∧ t12 < (nb : Int) ∧ nilW b_ fun bk of =>
 ∃ (x : Int), w1.cell? ⟨bk, of + t12.toNat * 1, none⟩ = some (.int .u8 x) ∧
 0 ≤ (8 : Int) ∧ ∃ (Inv2 : Option Addr → Nat → Nat → Int → Int → World → Prop) (Mea2 : Option Addr → Nat → Nat → Int → Int → World → Nat), Inv2 s ns cs (bitv .or .i64 (IntKind.i64.wrap (held * 2 ^ 8)) (IntKind.i64.wrap x)) (IntKind.i64.wrap (bits + (8 : Int))) w1 ∧ ∀ (s1 : Option Addr) (ns1 cs1 : Nat) (held1 bits1 : Int) (fr1 : Nat → Value) (w2 : World), 
 Inv2 s1 ns1 cs1 held1 bits1 w2 →
 cond (decide (bits1 < (6 : Int))) (
 (Inv1 s1 ns1 cs1 held1 bits1 (IntKind.i64.wrap (t12 + (1 : Int))) w2 ∧ Mea1 s1 ns1 cs1 held1 bits1 (IntKind.i64.wrap (t12 + (1 : Int))) w2 < Mea1 s ns cs held bits t12 w1)) (
 0 ≤ (IntKind.i64.wrap (bits1 - (6 : Int))) ∧ 0 ≤ (Int.fdiv held1 (2 ^ (min (IntKind.i64.wrap (bits1 - (6 : Int))).toNat 64))) ∧ ∃ c : UInt8, signs.data.toList[(Int.fdiv held1 (2 ^ (min (IntKind.i64.wrap (bits1 - (6 : Int))).toNat 64))).toNat]? = some c ∧
 ∀ (b_1 : Nat) (w3 : World), b_1 = w2.heap.size → w3 = w2.alloc (.cells #[.int .u8 (c.toNat : Int)] 5) →
 ∃ (s2 : Option Addr) (ns2 cs2 : Nat) (w4 : World), (Builtin.append_ #[23, 23] 23 #[.slice s1 ns1 cs1, .slice (some ⟨b_1, 0, none⟩) 1 1]).run prg w3 = .ok (.slice s2 ns2 cs2) w4 ∧
 0 ≤ (IntKind.i64.wrap (bits1 - (6 : Int))) ∧ (Inv2 s2 ns2 cs2 (bitv .and .i64 held1 (IntKind.i64.wrap ((IntKind.i64.wrap ((1 : Int) * 2 ^ (min (IntKind.i64.wrap (bits1 - (6 : Int))).toNat 64))) - (1 : Int)))) (IntKind.i64.wrap (bits1 - (6 : Int))) w4 ∧ Mea2 s2 ns2 cs2 (bitv .and .i64 held1 (IntKind.i64.wrap ((IntKind.i64.wrap ((1 : Int) * 2 ^ (min (IntKind.i64.wrap (bits1 - (6 : Int))).toNat 64))) - (1 : Int)))) (IntKind.i64.wrap (bits1 - (6 : Int))) w4 < Mea2 s1 ns1 cs1 held1 bits1 w2))) (
 cond (decide (bits > (0 : Int))) (
 0 ≤ (IntKind.i64.wrap ((6 : Int) - bits)) ∧ 0 ≤ (IntKind.i64.wrap (held * 2 ^ (min (IntKind.i64.wrap ((6 : Int) - bits)).toNat 64))) ∧ ∃ c1 : UInt8, signs.data.toList[(IntKind.i64.wrap (held * 2 ^ (min (IntKind.i64.wrap ((6 : Int) - bits)).toNat 64))).toNat]? = some c1 ∧
 ∀ (b_2 : Nat) (w5 : World), b_2 = w1.heap.size → w5 = w1.alloc (.cells #[.int .u8 (c1.toNat : Int)] 5) →
 ∃ (s3 : Option Addr) (ns3 cs3 : Nat) (w6 : World), (Builtin.append_ #[23, 23] 23 #[.slice s ns cs, .slice (some ⟨b_2, 0, none⟩) 1 1]).run prg w5 = .ok (.slice s3 ns3 cs3) w6 ∧
 R (.returned (.slice s3 ns3 cs3)) w6) (
 R (.returned (.slice s ns cs)) w1))) :
    Calls prg 92 #[.string signs, .slice b_ nb cb] w R :=
  calls_mk (.node .nil (.node .nil (.node .nil (.node (.node .nil (.loop [(5, .slice), (6, .int .i64), (7, .int .i64), (12, .int .i64)] [9, 13, 14, 15, 16, 17, 18, 19, 20, 21, 22, 23, 24, 25, 26, 27, 28, 29, 30, 31, 32, 33, 34, 35, 36, 37, 38, 39, 40] (.node .nil (.node .nil (.node (.node .nil (.node .nil (.node .nil (.loop [(5, .slice), (6, .int .i64), (7, .int .i64)] [23, 24, 25, 26, 27, 28, 29, 30, 31, 32, 33, 34, 35, 36, 37, 38, 39] .nil)))) .nil))))) .nil)))) [.string signs, .slice b_ nb cb] w R tabOk (fokOk []) Tryz.func92 (by kernel_rfl) _ (by kernel_rfl) hyp

/-- signet/field.plain -/
theorem f93_wp (c : Int) (w : World) (R : Ending → World → Prop) (hyp :
 cond (decide (c ≥ (65 : Int))) (
 cond (decide (c ≤ (90 : Int))) (
 R (.returned (.bool true)) w) (
 cond (decide (c ≥ (97 : Int))) (
 cond (decide (c ≤ (122 : Int))) (
 R (.returned (.bool true)) w) (
 cond (decide (c ≥ (48 : Int))) (
 cond (decide (c ≤ (57 : Int))) (
 R (.returned (.bool true)) w) (
 Calls prg 126 #[.string ⟨#[42, 45, 46, 95]⟩, .int .u8 c] w fun e w1 => ∃ (r : Int), e = .returned (.int .i64 r) ∧
 R (.returned (.bool (decide (r ≥ (0 : Int))))) w1)) (
 Calls prg 126 #[.string ⟨#[42, 45, 46, 95]⟩, .int .u8 c] w fun e w2 => ∃ (r1 : Int), e = .returned (.int .i64 r1) ∧
 R (.returned (.bool (decide (r1 ≥ (0 : Int))))) w2))) (
 cond (decide (c ≥ (48 : Int))) (
 cond (decide (c ≤ (57 : Int))) (
 R (.returned (.bool true)) w) (
 Calls prg 126 #[.string ⟨#[42, 45, 46, 95]⟩, .int .u8 c] w fun e w3 => ∃ (r2 : Int), e = .returned (.int .i64 r2) ∧
 R (.returned (.bool (decide (r2 ≥ (0 : Int))))) w3)) (
 Calls prg 126 #[.string ⟨#[42, 45, 46, 95]⟩, .int .u8 c] w fun e w4 => ∃ (r3 : Int), e = .returned (.int .i64 r3) ∧
 R (.returned (.bool (decide (r3 ≥ (0 : Int))))) w4)))) (
 cond (decide (c ≥ (97 : Int))) (
 cond (decide (c ≤ (122 : Int))) (
 R (.returned (.bool true)) w) (
 cond (decide (c ≥ (48 : Int))) (
 cond (decide (c ≤ (57 : Int))) (
 R (.returned (.bool true)) w) (
 Calls prg 126 #[.string ⟨#[42, 45, 46, 95]⟩, .int .u8 c] w fun e w5 => ∃ (r4 : Int), e = .returned (.int .i64 r4) ∧
 R (.returned (.bool (decide (r4 ≥ (0 : Int))))) w5)) (
 Calls prg 126 #[.string ⟨#[42, 45, 46, 95]⟩, .int .u8 c] w fun e w6 => ∃ (r5 : Int), e = .returned (.int .i64 r5) ∧
 R (.returned (.bool (decide (r5 ≥ (0 : Int))))) w6))) (
 cond (decide (c ≥ (48 : Int))) (
 cond (decide (c ≤ (57 : Int))) (
 R (.returned (.bool true)) w) (
 Calls prg 126 #[.string ⟨#[42, 45, 46, 95]⟩, .int .u8 c] w fun e w7 => ∃ (r6 : Int), e = .returned (.int .i64 r6) ∧
 R (.returned (.bool (decide (r6 ≥ (0 : Int))))) w7)) (
 Calls prg 126 #[.string ⟨#[42, 45, 46, 95]⟩, .int .u8 c] w fun e w8 => ∃ (r7 : Int), e = .returned (.int .i64 r7) ∧
 R (.returned (.bool (decide (r7 ≥ (0 : Int))))) w8)))) :
    Calls prg 93 #[.int .u8 c] w R :=
  calls_mk .nil [.int .u8 c] w R tabOk (fokOk []) Tryz.func93 (by kernel_rfl) _ (by kernel_rfl) hyp

/-- (*strings.Builder).WriteByte -/
theorem f94_wp (b_ : Option Addr) (c : Int) (w : World) (R : Ending → World → Prop) (hyp :
 Calls prg 127 #[.pointer b_] w fun e w1 => e = .returned (.tuple #[]) ∧
 nilW b_ fun bk of =>
 ∃ (x : Option Addr) (nx cx : Nat), w1.cell? ⟨bk, of + 1, none⟩ = some (.slice x nx cx) ∧
 ∀ (b_1 : Nat) (w2 : World), b_1 = w1.heap.size → w2 = w1.alloc (.cells #[.int .u8 c] 5) →
 ∃ (l : Option Addr) (nl cl : Nat) (w3 : World), (Builtin.append_ #[23, 23] 23 #[.slice x nx cx, .slice (some ⟨b_1, 0, none⟩) 1 1]).run prg w2 = .ok (.slice l nl cl) w3 ∧
 nilW b_ fun bk1 of1 =>
 Sto w3 bk1 (of1 + 1) [.slice l nl cl] ∧ ∀ w4, w4 = w3.setCells bk1 (of1 + 1) [.slice l nl cl] →
 R (.returned .nilIface) w4) :
    Calls prg 94 #[.pointer b_, .int .u8 c] w R :=
  calls_mk .nil [.pointer b_, .int .u8 c] w R tabOk (fokOk []) Tryz.func94 (by kernel_rfl) _ (by kernel_rfl) hyp

/-- (*strings.Builder).WriteString -/
theorem f95_wp (b_ : Option Addr) (s : ByteArray) (w : World) (R : Ending → World → Prop) (hyp :
 Calls prg 127 #[.pointer b_] w fun e w1 => e = .returned (.tuple #[]) ∧
 nilW b_ fun bk of =>
 ∃ (x : Option Addr) (nx cx : Nat), w1.cell? ⟨bk, of + 1, none⟩ = some (.slice x nx cx) ∧
 ∃ (l : Option Addr) (nl cl : Nat) (w2 : World), (Builtin.append_ #[23, 9] 23 #[.slice x nx cx, .string s]).run prg w1 = .ok (.slice l nl cl) w2 ∧
 nilW b_ fun bk1 of1 =>
 Sto w2 bk1 (of1 + 1) [.slice l nl cl] ∧ ∀ w3, w3 = w2.setCells bk1 (of1 + 1) [.slice l nl cl] →
 R (.returned (.tuple #[.int .i64 (s.size : Int), .nilIface])) w3) :
    Calls prg 95 #[.pointer b_, .string s] w R :=
  calls_mk .nil [.pointer b_, .string s] w R tabOk (fokOk []) Tryz.func95 (by kernel_rfl) _ (by kernel_rfl) hyp

/-- signet/signetref06.Word -/
theorem f97_wp (s : ByteArray) (w : World) (R : Ending → World → Prop) (hyp :
 ∃ (Cut1 : World → Prop), (
 cond (decide ((s.size : Int) < (1 : Int))) (
 R (.returned (.bool false)) w) (
 cond (decide ((s.size : Int) > (64 : Int))) (
 R (.returned (.bool false)) w) (
 Cut1 w))) ∧
 ∀ (fr : Nat → Value) (w1 : World), Cut1 w1 →
 ∃ (Inv1 : Int → World → Prop) (Mea1 : Int → World → Nat), Inv1 0 w1 ∧ ∀ (i : Int) (fr1 : Nat → Value) (w2 : World), 
 Inv1 i w2 →
 cond (decide (i < (s.size : Int))) (
 0 ≤ i ∧ ∃ c : UInt8, s.data.toList[i.toNat]? = some c ∧
 cond (decide ((c.toNat : Int) ≠ (33 : Int))) (
 cond (decide ((c.toNat : Int) < (35 : Int))) (
 cond (decide ((c.toNat : Int) < (93 : Int))) (
 R (.returned (.bool false)) w2) (
 cond (decide ((c.toNat : Int) > (126 : Int))) (
 R (.returned (.bool false)) w2) (
 (Inv1 (IntKind.i64.wrap (i + (1 : Int))) w2 ∧ Mea1 (IntKind.i64.wrap (i + (1 : Int))) w2 < Mea1 i w2)))) (
 cond (decide ((c.toNat : Int) > (91 : Int))) (
 cond (decide ((c.toNat : Int) < (93 : Int))) (
 R (.returned (.bool false)) w2) (
 cond (decide ((c.toNat : Int) > (126 : Int))) (
 R (.returned (.bool false)) w2) (
 (Inv1 (IntKind.i64.wrap (i + (1 : Int))) w2 ∧ Mea1 (IntKind.i64.wrap (i + (1 : Int))) w2 < Mea1 i w2)))) (
 (Inv1 (IntKind.i64.wrap (i + (1 : Int))) w2 ∧ Mea1 (IntKind.i64.wrap (i + (1 : Int))) w2 < Mea1 i w2)))) (
 (Inv1 (IntKind.i64.wrap (i + (1 : Int))) w2 ∧ Mea1 (IntKind.i64.wrap (i + (1 : Int))) w2 < Mea1 i w2))) (
 R (.returned (.bool true)) w2)) :
    Calls prg 97 #[.string s] w R :=
  calls_mk (.node .nil (.cut [] [2, 5, 6, 7, 8, 9, 10, 11, 12] .nil (.node (.node .nil (.loop [(3, .int .i64)] [2, 4, 13, 14, 15, 16, 17, 18, 19, 20, 21, 22, 23, 24, 25, 26, 27, 28, 29, 30, 31, 32, 33, 34, 35, 36, 37, 38, 39] .nil)) .nil))) [.string s] w R tabOk (fokOk []) Tryz.func97 (by kernel_rfl) _ (by kernel_rfl) hyp

/-- strings.IndexFunc -/
theorem f98_wp (s : ByteArray) (f : Value) (w : World) (R : Ending → World → Prop) (hyp :
 Calls prg 128 #[.string s, f, .bool true] w fun e w1 => ∃ (r : Int), e = .returned (.int .i64 r) ∧
 R (.returned (.int .i64 r)) w1) :
    Calls prg 98 #[.string s, f] w R :=
  calls_mk .nil [.string s, f] w R tabOk (fokOk []) Tryz.func98 (by kernel_rfl) _ (by kernel_rfl) hyp

/-- signet/roll.printed$1 -/
theorem f99_wp (c : Int) (w : World) (R : Ending → World → Prop) (hyp :
 cond (decide (c < (33 : Int))) (
 R (.returned (.bool true)) w) (
 R (.returned (.bool (decide (c > (126 : Int))))) w)) :
    Calls prg 99 #[.int .i32 c] w R :=
  calls_mk .nil [.int .i32 c] w R tabOk (fokOk []) Tryz.func99 (by kernel_rfl) _ (by kernel_rfl) hyp

/-- signet/scope.Both -/
theorem f100_wp (lists : Option Addr) (nlists : Nat) (clists : Nat) (w : World) (R : Ending → World → Prop) (hyp :
 Calls prg 129 #[.slice lists nlists clists] w fun e w1 => ∃ (r : Option Nat), e = .returned (.map r) ∧
 ∃ it w2, (Instr.range 53 (.map r)).run prg w1 = .ok it w2 ∧
 ∃ (Inv1 : Option Addr → Nat → Nat → World → Prop) (Mea1 : Option Addr → Nat → Nat → World → Nat), Inv1 none 0 0 w2 ∧ ∀ (l : Option Addr) (nl cl : Nat) (fr : Nat → Value) (w3 : World), 
 Inv1 l nl cl w3 →
 (∃ w4, (Instr.next it false 0).run prg w3 = .ok (.tuple #[.bool false]) w4 ∧
 Calls prg 130 #[.slice l nl cl] w4 fun e w5 => e = .returned (.tuple #[]) ∧
 R (.returned (.slice l nl cl)) w5) ∨ (
 ∃ (key : Value), ∃ (val : Value), ∃ w6, (Instr.next it false 0).run prg w3 = .ok (.tuple #[.bool true, key, val]) w6 ∧
 ∃ (key1 : ByteArray), ∃ (val1 : Bool), (Instr.entry it).run prg w6 = .ok (.tuple #[.string key1, .bool val1]) w6 ∧
 ∀ (b_ : Nat) (w7 : World), b_ = w6.heap.size → w7 = w6.alloc (.cells #[.string key1] 9) →
 ∃ (l1 : Option Addr) (nl1 cl1 : Nat) (w8 : World), (Builtin.append_ #[33, 33] 33 #[.slice l nl cl, .slice (some ⟨b_, 0, none⟩) 1 1]).run prg w7 = .ok (.slice l1 nl1 cl1) w8 ∧
 (Inv1 l1 nl1 cl1 w8 ∧ Mea1 l1 nl1 cl1 w8 < Mea1 l nl cl w3))) :
    Calls prg 100 #[.slice lists nlists clists] w R :=
  calls_mk (.node .nil (.node .nil (.node (.node .nil (.loop [(3, .slice)] [4, 8, 9, 10, 11, 12, 13, 14, 15] .nil)) .nil))) [.slice lists nlists clists] w R tabOk (fokOk [(10, [(false, [.str]), (false, [.bool])])]) Tryz.func100 (by kernel_rfl) _ (by kernel_rfl) hyp

/-- strings.Join -/
theorem f101_wp (elems : Option Addr) (nelems : Nat) (celems : Nat) (sep : ByteArray) (w : World) (R : Ending → World → Prop) (hyp :
 cond (decide ((nelems : Int) = (0 : Int))) (
 R (.returned (.string ⟨#[]⟩)) w) (
 cond (decide ((nelems : Int) = (1 : Int))) (
 0 ≤ (0 : Int) ∧ 0 < (nelems : Int) ∧ nilW elems fun bk of =>
 ∃ (x : ByteArray), w.cell? ⟨bk, of, none⟩ = some (.string x) ∧
 R (.returned (.string x)) w) (
 ∃ (Cut1 : Int → World → Prop), (
 cond (decide ((sep.size : Int) > (0 : Int))) (
 (IntKind.i64.wrap ((nelems : Int) - (1 : Int))) ≠ 0 ∧ cond (decide ((sep.size : Int) ≥ (IntKind.i64.wrap (Int.tdiv 9223372036854775807 (IntKind.i64.wrap ((nelems : Int) - (1 : Int))))))) (
 prg.concrete 9 = true ∧ False) (
 Cut1 (IntKind.i64.wrap ((0 : Int) + (IntKind.i64.wrap ((sep.size : Int) * (IntKind.i64.wrap ((nelems : Int) - (1 : Int))))))) w)) (
 Cut1 0 w)) ∧
 ∀ (n : Int) (fr : Nat → Value) (w1 : World), Cut1 n w1 →
 ∃ (Inv1 : Int → Int → World → Prop) (Mea1 : Int → Int → World → Nat), Inv1 n 0 w1 ∧ ∀ (n1 t41 : Int) (fr1 : Nat → Value) (w2 : World), 
 Inv1 n1 t41 w2 →
 cond (decide (t41 < (nelems : Int))) (
 0 ≤ t41 ∧ t41 < (nelems : Int) ∧ nilW elems fun bk1 of1 =>
 ∃ (elem : ByteArray), w2.cell? ⟨bk1, of1 + t41.toNat * 1, none⟩ = some (.string elem) ∧
 cond (decide ((elem.size : Int) > (IntKind.i64.wrap ((9223372036854775807 : Int) - n1)))) (
 prg.concrete 9 = true ∧ False) (
 (Inv1 (IntKind.i64.wrap (n1 + (elem.size : Int))) (IntKind.i64.wrap (t41 + (1 : Int))) w2 ∧ Mea1 (IntKind.i64.wrap (n1 + (elem.size : Int))) (IntKind.i64.wrap (t41 + (1 : Int))) w2 < Mea1 n1 t41 w2))) (
 ∀ (b_ : Nat) (w3 : World), b_ = w2.heap.size → w3 = w2.alloc (.cells #[.pointer none, .slice none 0 0] 152) →
 Calls prg 131 #[.pointer (some ⟨b_, 0, none⟩), .int .i64 n1] w3 fun e w4 => e = .returned (.tuple #[]) ∧
 0 ≤ (0 : Int) ∧ 0 < (nelems : Int) ∧ nilW elems fun bk2 of2 =>
 ∃ (x1 : ByteArray), w4.cell? ⟨bk2, of2, none⟩ = some (.string x1) ∧
 Calls prg 95 #[.pointer (some ⟨b_, 0, none⟩), .string x1] w4 fun e w5 => ∃ (r : Int), ∃ (r1 : Value), e = .returned (.tuple #[.int .i64 r, r1]) ∧
 0 ≤ (1 : Int) ∧ 1 ≤ nelems ∧ nelems ≤ celems ∧ ∀ q : Option Addr, (0 < 1 → 1 < celems → q = shiftP elems (1 * 1)) → (1 = 0 → q = elems) →
 ∃ (Inv2 : Int → World → Prop) (Mea2 : Int → World → Nat), Inv2 0 w5 ∧ ∀ (t65 : Int) (fr2 : Nat → Value) (w6 : World), 
 Inv2 t65 w6 →
 cond (decide (t65 < (((nelems - 1) : Nat) : Int))) (
 0 ≤ t65 ∧ t65 < (((nelems - 1) : Nat) : Int) ∧ nilW q fun bk3 of3 =>
 ∃ (s : ByteArray), w6.cell? ⟨bk3, of3 + t65.toNat * 1, none⟩ = some (.string s) ∧
 Calls prg 95 #[.pointer (some ⟨b_, 0, none⟩), .string sep] w6 fun e w7 => ∃ (r2 : Int), ∃ (r3 : Value), e = .returned (.tuple #[.int .i64 r2, r3]) ∧
 Calls prg 95 #[.pointer (some ⟨b_, 0, none⟩), .string s] w7 fun e w8 => ∃ (r4 : Int), ∃ (r5 : Value), e = .returned (.tuple #[.int .i64 r4, r5]) ∧
 (Inv2 (IntKind.i64.wrap (t65 + (1 : Int))) w8 ∧ Mea2 (IntKind.i64.wrap (t65 + (1 : Int))) w8 < Mea2 t65 w6)) (
 Calls prg 96 #[.pointer (some ⟨b_, 0, none⟩)] w6 fun e w9 => ∃ (r6 : ByteArray), e = .returned (.string r6) ∧
 R (.returned (.string r6)) w9))))) :
    Calls prg 101 #[.slice elems nelems celems, .string sep] w R :=
  calls_mk (.node .nil (.node .nil (.node .nil (.cut [(5, .int .i64)] [20, 21, 22, 23, 24, 25, 26, 27, 28, 29, 30, 31, 32, 33, 34, 35, 36, 37, 38] .nil (.node (.node .nil (.loop [(5, .int .i64), (41, .int .i64)] [7, 42, 43, 44, 45, 46, 47, 48, 49, 50, 51, 52, 53, 54, 55] .nil)) (.node .nil (.node .nil (.node .nil (.node (.node .nil (.loop [(65, .int .i64)] [10, 66, 67, 68, 69, 70, 71, 72, 73] .nil)) .nil))))))))) [.slice elems nelems celems, .string sep] w R tabOk (fokOk []) Tryz.func101 (by kernel_rfl) _ (by kernel_rfl) hyp

/-- slices.Contains[[]string,string] -/
theorem f102_wp (s : Option Addr) (ns : Nat) (cs : Nat) (v : ByteArray) (w : World) (R : Ending → World → Prop) (hyp :
 Calls prg 55 #[.slice s ns cs, .string v] w fun e w1 => ∃ (r : Int), e = .returned (.int .i64 r) ∧
 R (.returned (.bool (decide (r ≥ (0 : Int))))) w1) :
    Calls prg 102 #[.slice s ns cs, .string v] w R :=
  calls_mk .nil [.slice s ns cs, .string v] w R tabOk (fokOk []) Tryz.func102 (by kernel_rfl) _ (by kernel_rfl) hyp

/-- (*signet/roll.Roll).Scope -/
theorem f103_wp (r : Option Addr) (id : ByteArray) (asked : Option Addr) (nasked : Nat) (casked : Nat) (w : World) (R : Ending → World → Prop) (hyp :
 Calls prg 42 #[.pointer r, .string id] w fun e w1 => ∃ (r1 r2 : ByteArray) (r3 : Bool) (r4 : Option Addr) (nr cr : Nat) (r5 : Option Addr) (nr1 cr1 : Nat) (r6 : Option Addr) (nr2 cr2 : Nat), ∃ (r7 : Bool), e = .returned (.tuple #[.agg #[.string r1, .string r2, .bool r3, .slice r4 nr cr, .slice r5 nr1 cr1, .slice r6 nr2 cr2], .bool r7]) ∧
 ∀ (b_ : Nat) (w2 : World), b_ = w1.heap.size → w2 = w1.alloc (.cells #[.string ⟨#[]⟩, .string ⟨#[]⟩, .bool false, .slice none 0 0, .slice none 0 0, .slice none 0 0] 71) →
 Sto w2 b_ 0 [.string r1, .string r2, .bool r3, .slice r4 nr cr, .slice r5 nr1 cr1, .slice r6 nr2 cr2] ∧ ∀ w3, w3 = w2.setCells b_ 0 [.string r1, .string r2, .bool r3, .slice r4 nr cr, .slice r5 nr1 cr1, .slice r6 nr2 cr2] →
 Calls prg 57 #[.slice asked nasked casked] w3 fun e w4 => ∃ (set_ : Option Addr) (nset cset : Nat), e = .returned (.slice set_ nset cset) ∧
 ∃ (Cut1 : Bool → World → Prop), (
 cond (!r7) (
 Cut1 true w4) (
 ∃ (x : Option Addr) (nx cx : Nat), w4.cell? ⟨b_, 4, none⟩ = some (.slice x nx cx) ∧
 Calls prg 132 #[.slice set_ nset cset, .slice x nx cx] w4 fun e w5 => ∃ (r8 : Bool), e = .returned (.bool r8) ∧
 Cut1 (!r8) w5)) ∧
 ∀ (t19 : Bool) (fr : Nat → Value) (w6 : World), Cut1 t19 w6 →
 cond t19 (
 R (.returned (.tuple #[.slice none 0 0, .bool false])) w6) (
 cond (decide ((nset : Int) = (0 : Int))) (
 ∃ (x1 : Option Addr) (nx1 cx1 : Nat), w6.cell? ⟨b_, 4, none⟩ = some (.slice x1 nx1 cx1) ∧
 Calls prg 59 #[.slice x1 nx1 cx1] w6 fun e w7 => ∃ (r9 : Option Addr) (nr3 cr3 : Nat), e = .returned (.slice r9 nr3 cr3) ∧
 R (.returned (.tuple #[.slice r9 nr3 cr3, .bool true])) w7) (
 R (.returned (.tuple #[.slice set_ nset cset, .bool true])) w6))) :
    Calls prg 103 #[.pointer r, .string id, .slice asked nasked casked] w R :=
  calls_mk (.node .nil (.node .nil (.node .nil (.node (.cut [(19, .bool)] [20, 21, 22, 23, 24, 25, 26, 27, 28, 29] .nil .nil) .nil)))) [.pointer r, .string id, .slice asked nasked casked] w R tabOk (fokOk []) Tryz.func103 (by kernel_rfl) _ (by kernel_rfl) hyp

/-- signet/pkce.find -/
theorem f104_wp (name : ByteArray) (w : World) (R : Ending → World → Prop) (hyp :
 ∀ (b_ : Nat) (w1 : World), b_ = w.heap.size → w1 = w.alloc (.cells #[.string ⟨#[]⟩, .nilFunc, .nilFunc] 163) →
 ∀ (b_1 : Nat) (w2 : World), b_1 = w1.heap.size → w2 = w1.alloc (.cells #[.string ⟨#[112, 108, 97, 105, 110]⟩, .func (.func 133) #[] #[], .func (.func 134) #[] #[], .string ⟨#[83, 50, 53, 54]⟩, .func (.func 135) #[] #[], .func (.func 137) #[] #[]] 163) →
 ∃ (Inv1 : Int → World → Prop) (Mea1 : Int → World → Nat), Inv1 0 w2 ∧ ∀ (t10 : Int) (fr : Nat → Value) (w3 : World), 
 Inv1 t10 w3 →
 cond (decide (t10 < (2 : Int))) (
 0 ≤ t10 ∧ t10 < (2 : Int) ∧ 
 ∃ (name1 : ByteArray) (of may : Value), w3.rangeAt b_1 (0 + t10.toNat * 3) [.string name1, of, may] ∧
 ∀ (b_2 : Nat) (w4 : World), b_2 = w3.heap.size → w4 = w3.alloc (.cells #[.string ⟨#[]⟩, .nilFunc, .nilFunc] 163) →
 Sto w4 b_2 0 [.string name1, of, may] ∧ ∀ w5, w5 = w4.setCells b_2 0 [.string name1, of, may] →
 ∃ (x : ByteArray), w5.cell? ⟨b_2, 0, none⟩ = some (.string x) ∧
 cond (decide (x = name)) (
 ∃ (name2 : ByteArray) (of1 may1 : Value), w5.rangeAt b_2 0 [.string name2, of1, may1] ∧
 Sto w5 b_ 0 [.string name2, of1, may1] ∧ ∀ w6, w6 = w5.setCells b_ 0 [.string name2, of1, may1] →
 ∃ (name3 : ByteArray) (of2 may2 : Value), w6.rangeAt b_ 0 [.string name3, of2, may2] ∧
 R (.returned (.tuple #[.agg #[.string name3, of2, may2], .bool true])) w6) (
 (Inv1 (IntKind.i64.wrap (t10 + (1 : Int))) w5 ∧ Mea1 (IntKind.i64.wrap (t10 + (1 : Int))) w5 < Mea1 t10 w3))) (
 Sto w3 b_ 0 [.string ⟨#[]⟩, .nilFunc, .nilFunc] ∧ ∀ w7, w7 = w3.setCells b_ 0 [.string ⟨#[]⟩, .nilFunc, .nilFunc] →
 ∃ (name4 : ByteArray) (of3 may3 : Value), w7.rangeAt b_ 0 [.string name4, of3, may3] ∧
 R (.returned (.tuple #[.agg #[.string name4, of3, may3], .bool false])) w7)) :
    Calls prg 104 #[.string name] w R :=
  calls_mk (.node .nil (.node (.node .nil (.loop [(10, .int .i64)] [3, 5, 11, 12, 13, 14, 15, 16, 17, 18, 19] .nil)) .nil)) [.string name] w R tabOk (fokOk []) Tryz.func104 (by kernel_rfl) _ (by kernel_rfl) hyp

/-- signet/scope.Parse -/
theorem f105_wp (s : ByteArray) (w : World) (R : Ending → World → Prop) (hyp :
 cond (decide ((s.size : Int) > (16384 : Int))) (
 R (.returned (.tuple #[.slice none 0 0, .int .i64 2])) w) (
 cond (decide (s = ⟨#[]⟩)) (
 R (.returned (.tuple #[.slice none 0 0, .int .i64 0])) w) (
 Calls prg 139 #[.string s, .string ⟨#[32]⟩] w fun e w1 => ∃ (l : Option Addr) (nl cl : Nat), e = .returned (.slice l nl cl) ∧
 Calls prg 140 #[.slice l nl cl, .func (.func 141) #[] #[]] w1 fun e w2 => ∃ (r : Bool), e = .returned (.bool r) ∧
 cond r (
 R (.returned (.tuple #[.slice none 0 0, .int .i64 3])) w2) (
 ∀ (b_ : Nat) (w3 : World), b_ = w2.heap.size → w3 = w2.alloc (.cells #[.slice l nl cl] 33) →
 Calls prg 100 #[.slice (some ⟨b_, 0, none⟩) 1 1] w3 fun e w4 => ∃ (l1 : Option Addr) (nl1 cl1 : Nat), e = .returned (.slice l1 nl1 cl1) ∧
 cond (decide ((nl1 : Int) > (32 : Int))) (
 R (.returned (.tuple #[.slice none 0 0, .int .i64 2])) w4) (
 R (.returned (.tuple #[.slice l1 nl1 cl1, .int .i64 0])) w4))))) :
    Calls prg 105 #[.string s] w R :=
  calls_mk .nil [.string s] w R tabOk (fokOk []) Tryz.func105 (by kernel_rfl) _ (by kernel_rfl) hyp

/-- signet/field.pieces$1 -/
theorem f106_wp (yield : Value) (bfv0 : Nat) (ofv0 : Nat) (w : World) (R : Ending → World → Prop) (hyp :
 ∃ (Inv1 : Bool → World → Prop) (Mea1 : Bool → World → Nat), Inv1 true w ∧ ∀ (more : Bool) (fr : Nat → Value) (w1 : World), 
 Inv1 more w1 →
 cond more (
 ∃ (x : ByteArray), w1.cell? ⟨bfv0, ofv0, none⟩ = some (.string x) ∧
 Calls prg 71 #[.string x, .string ⟨#[38]⟩] w1 fun e w2 => ∃ (r : ByteArray), ∃ (r1 : ByteArray), ∃ (r2 : Bool), e = .returned (.tuple #[.string r, .string r1, .bool r2]) ∧
 Sto w2 bfv0 ofv0 [.string r1] ∧ ∀ w3, w3 = w2.setCells bfv0 ofv0 [.string r1] →
 cond (decide (r ≠ ⟨#[]⟩)) (
 fnW yield fun fn fa fc => bif fk.contains fn then Calls prg fn ((fa ++ ([.string r] : List Value)) ++ fc).toArray w3 fun e w4 => ∃ (r3 : Bool), e = .returned (.bool r3) ∧
 cond (!r3) (
 R (.returned (.tuple #[])) w4) (
 (Inv1 r2 w4 ∧ Mea1 r2 w4 < Mea1 more w1)) else False) (
 (Inv1 r2 w3 ∧ Mea1 r2 w3 < Mea1 more w1))) (
 R (.returned (.tuple #[])) w1)) :
    Calls prg 106 #[yield, .pointer (some ⟨bfv0, ofv0, none⟩)] w R :=
  calls_mk (.node .nil (.loop [(3, .bool)] [4, 5, 6, 7, 8, 9, 10, 11, 12, 13, 14, 15, 16, 17, 18, 19] .nil)) [yield, .pointer (some ⟨bfv0, ofv0, none⟩)] w R tabOk (fokOk []) Tryz.func106 (by kernel_rfl) _ (by kernel_rfl) hyp

/-- internal/stringslite.Cut -/
theorem f107_wp (s : ByteArray) (sep : ByteArray) (w : World) (R : Ending → World → Prop) (hyp :
 Calls prg 120 #[.string s, .string sep] w fun e w1 => ∃ (i : Int), e = .returned (.int .i64 i) ∧
 cond (decide (i ≥ (0 : Int))) (
 ∃ (Drw1 : World → Prop), Drw1 w1.drew ∧
 0 ≤ i ∧ 0 ≤ i.toNat ∧ i.toNat ≤ s.size ∧
 0 ≤ (IntKind.i64.wrap (i + (sep.size : Int))) ∧ (IntKind.i64.wrap (i + (sep.size : Int))).toNat ≤ s.size ∧ s.size ≤ s.size ∧
 R (.returned (.tuple #[.string (s.extract 0 i.toNat), .string (s.extract ((IntKind.i64.wrap (i + (sep.size : Int))).toNat) s.size), .bool true])) w1.drew) (
 R (.returned (.tuple #[.string s, .string ⟨#[]⟩, .bool false])) w1)) :
    Calls prg 107 #[.string s, .string sep] w R :=
  calls_mk (.node .nil (.node (.node .nil (.node .nil (.node (.node (.draw (.op 0 (.op 1 (.op 2 (.op 3 (.op 4 (.op 5 (.op 6 (.op 7 (.op 8 (.op 9 (.op 10 (.op 11 .done))))))))))))) .nil) .nil))) .nil)) [.string s, .string sep] w R tabOk (fokOk []) Tryz.func107 (by kernel_rfl) _ (by kernel_rfl) hyp

/-- signet/field.Unquote$1 -/
theorem f108_wp (bfv0 : Nat) (ofv0 : Nat) (bfv1 : Nat) (ofv1 : Nat) (w : World) (R : Ending → World → Prop) (hyp :
 ∃ (x : Int), w.cell? ⟨bfv0, ofv0, none⟩ = some (.int .i64 x) ∧
 ∃ (x1 : ByteArray), w.cell? ⟨bfv1, ofv1, none⟩ = some (.string x1) ∧
 cond (decide (x ≥ (x1.size : Int))) (
 R (.returned (.int .i64 (-1))) w) (
 ∃ (x2 : Int), w.cell? ⟨bfv0, ofv0, none⟩ = some (.int .i64 x2) ∧
 Sto w bfv0 ofv0 [.int .i64 (IntKind.i64.wrap (x2 + (1 : Int)))] ∧ ∀ w1, w1 = w.setCells bfv0 ofv0 [.int .i64 (IntKind.i64.wrap (x2 + (1 : Int)))] →
 ∃ (x3 : ByteArray), w1.cell? ⟨bfv1, ofv1, none⟩ = some (.string x3) ∧
 ∃ (x4 : Int), w1.cell? ⟨bfv0, ofv0, none⟩ = some (.int .i64 x4) ∧
 0 ≤ (IntKind.i64.wrap (x4 - (1 : Int))) ∧ ∃ c : UInt8, x3.data.toList[(IntKind.i64.wrap (x4 - (1 : Int))).toNat]? = some c ∧
 Calls prg 109 #[.int .u8 (c.toNat : Int)] w1 fun e w2 => ∃ (r : Int), e = .returned (.int .i64 r) ∧
 R (.returned (.int .i64 r)) w2)) :
    Calls prg 108 #[.pointer (some ⟨bfv0, ofv0, none⟩), .pointer (some ⟨bfv1, ofv1, none⟩)] w R :=
  calls_mk .nil [.pointer (some ⟨bfv0, ofv0, none⟩), .pointer (some ⟨bfv1, ofv1, none⟩)] w R tabOk (fokOk []) Tryz.func108 (by kernel_rfl) _ (by kernel_rfl) hyp

/-- signet/field.worth -/
theorem f109_wp (c : Int) (w : World) (R : Ending → World → Prop) (hyp :
 ∃ (Cut1 : Bool → World → Prop), (
 cond (decide (c ≥ (48 : Int))) (
 Cut1 (decide (c ≤ (57 : Int))) w) (
 Cut1 false w)) ∧
 ∀ (t3 : Bool) (fr : Nat → Value) (w1 : World), Cut1 t3 w1 →
 cond t3 (
 R (.returned (.int .i64 (IntKind.i64.wrap (IntKind.u8.wrap (c - (48 : Int)))))) w1) (
 ∃ (Cut2 : Bool → World → Prop), (
 cond (decide (c ≥ (65 : Int))) (
 Cut2 (decide (c ≤ (70 : Int))) w1) (
 Cut2 false w1)) ∧
 ∀ (t13 : Bool) (fr1 : Nat → Value) (w2 : World), Cut2 t13 w2 →
 cond t13 (
 R (.returned (.int .i64 (IntKind.i64.wrap ((IntKind.i64.wrap (IntKind.u8.wrap (c - (65 : Int)))) + (10 : Int))))) w2) (
 cond (decide (c ≥ (97 : Int))) (
 cond (decide (c ≤ (102 : Int))) (
 R (.returned (.int .i64 (IntKind.i64.wrap ((IntKind.i64.wrap (IntKind.u8.wrap (c - (97 : Int)))) + (10 : Int))))) w2) (
 R (.returned (.int .i64 (-1))) w2)) (
 R (.returned (.int .i64 (-1))) w2)))) :
    Calls prg 109 #[.int .u8 c] w R :=
  calls_mk (.node .nil (.node (.cut [(3, .bool)] [4, 5, 6, 7, 8, 9] .nil (.node .nil (.cut [(13, .bool)] [14, 15, 16, 17, 18, 19] .nil .nil))) .nil)) [.int .u8 c] w R tabOk (fokOk []) Tryz.func109 (by kernel_rfl) _ (by kernel_rfl) hyp

/-- signet/signetref04.Unquote -/
theorem f110_wp (s : ByteArray) (w : World) (R : Ending → World → Prop) (hyp :
 ∃ (Inv1 : Option Addr → Nat → Nat → Int → World → Prop) (Mea1 : Option Addr → Nat → Nat → Int → World → Nat), Inv1 none 0 0 0 w ∧ ∀ (b_ : Option Addr) (nb cb : Nat) (i : Int) (fr : Nat → Value) (w1 : World), 
 Inv1 b_ nb cb i w1 →
 cond (decide (i < (s.size : Int))) (
 0 ≤ i ∧ ∃ c : UInt8, s.data.toList[i.toNat]? = some c ∧
 ∃ (Cut1 : World → Prop), (
 cond (decide ((c.toNat : Int) < (33 : Int))) (
 R (.returned (.tuple #[.string ⟨#[]⟩, .int .i64 3])) w1) (
 cond (decide ((c.toNat : Int) > (126 : Int))) (
 R (.returned (.tuple #[.string ⟨#[]⟩, .int .i64 3])) w1) (
 Cut1 w1))) ∧
 ∀ (fr1 : Nat → Value) (w2 : World), Cut1 w2 →
 cond (decide ((c.toNat : Int) = (37 : Int))) (
 ∃ (Cut2 : World → Prop), (
 cond (decide ((IntKind.i64.wrap (i + (2 : Int))) ≥ (s.size : Int))) (
 R (.returned (.tuple #[.string ⟨#[]⟩, .int .i64 3])) w2) (
 0 ≤ (IntKind.i64.wrap (i + (1 : Int))) ∧ ∃ c1 : UInt8, s.data.toList[(IntKind.i64.wrap (i + (1 : Int))).toNat]? = some c1 ∧
 Calls prg 143 #[.int .u8 (c1.toNat : Int)] w2 fun e w3 => ∃ (r : Int), e = .returned (.int .i64 r) ∧
 cond (decide (r > (15 : Int))) (
 R (.returned (.tuple #[.string ⟨#[]⟩, .int .i64 3])) w3) (
 0 ≤ (IntKind.i64.wrap (i + (2 : Int))) ∧ ∃ c2 : UInt8, s.data.toList[(IntKind.i64.wrap (i + (2 : Int))).toNat]? = some c2 ∧
 Calls prg 143 #[.int .u8 (c2.toNat : Int)] w3 fun e w4 => ∃ (r1 : Int), e = .returned (.int .i64 r1) ∧
 cond (decide (r1 > (15 : Int))) (
 R (.returned (.tuple #[.string ⟨#[]⟩, .int .i64 3])) w4) (
 Cut2 w4)))) ∧
 ∀ (fr2 : Nat → Value) (w5 : World), Cut2 w5 →
 ∃ (Drw1 : World → Prop), Drw1 w5.drew ∧
 0 ≤ (IntKind.i64.wrap (i + (1 : Int))) ∧ ∃ c3 : UInt8, s.data.toList[(IntKind.i64.wrap (i + (1 : Int))).toNat]? = some c3 ∧
 0 ≤ (IntKind.i64.wrap (i + (2 : Int))) ∧ ∃ c4 : UInt8, s.data.toList[(IntKind.i64.wrap (i + (2 : Int))).toNat]? = some c4 ∧
 Calls prg 143 #[.int .u8 (c3.toNat : Int)] w5.drew fun e w6 => ∃ (r2 : Int), e = .returned (.int .i64 r2) ∧
 Calls prg 143 #[.int .u8 (c4.toNat : Int)] w6 fun e w7 => ∃ (r3 : Int), e = .returned (.int .i64 r3) ∧
 ∀ (b_1 : Nat) (w8 : World), b_1 = w7.heap.size → w8 = w7.alloc (.cells #[.int .u8 (IntKind.u8.wrap (IntKind.i64.wrap ((IntKind.i64.wrap ((16 : Int) * r2)) + r3)))] 5) →
 ∃ (b_2 : Option Addr) (nb1 cb1 : Nat) (w9 : World), (Builtin.append_ #[23, 23] 23 #[.slice b_ nb cb, .slice (some ⟨b_1, 0, none⟩) 1 1]).run prg w8 = .ok (.slice b_2 nb1 cb1) w9 ∧
 (Inv1 b_2 nb1 cb1 (IntKind.i64.wrap ((IntKind.i64.wrap (i + (2 : Int))) + (1 : Int))) w9 ∧ Mea1 b_2 nb1 cb1 (IntKind.i64.wrap ((IntKind.i64.wrap (i + (2 : Int))) + (1 : Int))) w9 < Mea1 b_ nb cb i w1)) (
 cond (decide ((c.toNat : Int) = (43 : Int))) (
 ∀ (b_3 : Nat) (w10 : World), b_3 = w2.heap.size → w10 = w2.alloc (.cells #[.int .u8 32] 5) →
 ∃ (b_4 : Option Addr) (nb2 cb2 : Nat) (w11 : World), (Builtin.append_ #[23, 23] 23 #[.slice b_ nb cb, .slice (some ⟨b_3, 0, none⟩) 1 1]).run prg w10 = .ok (.slice b_4 nb2 cb2) w11 ∧
 (Inv1 b_4 nb2 cb2 (IntKind.i64.wrap (i + (1 : Int))) w11 ∧ Mea1 b_4 nb2 cb2 (IntKind.i64.wrap (i + (1 : Int))) w11 < Mea1 b_ nb cb i w1)) (
 ∀ (b_5 : Nat) (w12 : World), b_5 = w2.heap.size → w12 = w2.alloc (.cells #[.int .u8 (c.toNat : Int)] 5) →
 ∃ (b_6 : Option Addr) (nb3 cb3 : Nat) (w13 : World), (Builtin.append_ #[23, 23] 23 #[.slice b_ nb cb, .slice (some ⟨b_5, 0, none⟩) 1 1]).run prg w12 = .ok (.slice b_6 nb3 cb3) w13 ∧
 (Inv1 b_6 nb3 cb3 (IntKind.i64.wrap (i + (1 : Int))) w13 ∧ Mea1 b_6 nb3 cb3 (IntKind.i64.wrap (i + (1 : Int))) w13 < Mea1 b_ nb cb i w1)))) (
 ∃ s1 : ByteArray, BytesAt w1 b_ nb s1 ∧
 R (.returned (.tuple #[.string s1, .int .i64 0])) w1)) :
    Calls prg 110 #[.string s] w R :=
  calls_mk (.node .nil (.node .nil (.node (.node .nil (.loop [(4, .slice), (5, .int .i64)] [2, 3, 6, 7, 8, 9, 10, 11, 12, 13, 14, 15, 16, 17, 18, 19, 20, 21, 22, 23, 24, 25, 26, 27, 28, 29, 30, 31, 32, 33, 34, 35, 36, 37, 38, 39, 40, 41, 42, 43, 44, 45, 46, 47, 48, 49, 50, 51, 52, 53, 54, 55, 56, 57, 58, 59, 60, 61, 62, 63, 64, 65] (.node .nil (.node (.node .nil (.cut [] [2, 3, 16, 17, 18, 19, 20, 21] .nil (.node (.node .nil (.node (.cut [] [2, 3, 24, 25, 26, 27, 28, 29, 30, 31, 32, 33, 34, 35, 36, 37, 38, 39, 40, 41, 42, 43, 44] .nil (.node (.draw (.op 0 (.op 1 (.op 2 (.op 3 (.op 6 (.op 7 (.op 8 (.op 9 (.op 4 (.op 5 (.op 10 (.op 11 (.op 12 (.op 13 .done))))))))))))))) .nil)) .nil)) .nil))) .nil)))) .nil))) [.string s] w R tabOk (fokOk []) Tryz.func110 (by kernel_rfl) _ (by kernel_rfl) hyp

/-- signet/signetref15.Scope -/
theorem f111_wp (l : Option Addr) (nl : Nat) (cl : Nat) (id : ByteArray) (asked : Option Addr) (nasked : Nat) (casked : Nat) (w : World) (R : Ending → World → Prop) (hyp :
 Calls prg 76 #[.slice l nl cl, .string id] w fun e w1 => ∃ (r r1 : ByteArray) (r2 : Bool) (r3 : Option Addr) (nr cr : Nat) (r4 : Option Addr) (nr1 cr1 : Nat) (r5 : Option Addr) (nr2 cr2 : Nat), ∃ (r6 : Bool), e = .returned (.tuple #[.agg #[.string r, .string r1, .bool r2, .slice r3 nr cr, .slice r4 nr1 cr1, .slice r5 nr2 cr2], .bool r6]) ∧
 ∀ (b_ : Nat) (w2 : World), b_ = w1.heap.size → w2 = w1.alloc (.cells #[.string ⟨#[]⟩, .string ⟨#[]⟩, .bool false, .slice none 0 0, .slice none 0 0, .slice none 0 0] 64) →
 Sto w2 b_ 0 [.string r, .string r1, .bool r2, .slice r3 nr cr, .slice r4 nr1 cr1, .slice r5 nr2 cr2] ∧ ∀ w3, w3 = w2.setCells b_ 0 [.string r, .string r1, .bool r2, .slice r3 nr cr, .slice r4 nr1 cr1, .slice r5 nr2 cr2] →
 Calls prg 51 #[.slice asked nasked casked] w3 fun e w4 => ∃ (set_ : Option Addr) (nset cset : Nat), e = .returned (.slice set_ nset cset) ∧
 cond (!r6) (
 R (.returned (.tuple #[.slice none 0 0, .bool false])) w4) (
 ∃ (x : Option Addr) (nx cx : Nat), w4.cell? ⟨b_, 4, none⟩ = some (.slice x nx cx) ∧
 Calls prg 144 #[.slice set_ nset cset, .slice x nx cx] w4 fun e w5 => ∃ (r7 : Bool), e = .returned (.bool r7) ∧
 cond (!r7) (
 R (.returned (.tuple #[.slice none 0 0, .bool false])) w5) (
 cond (decide ((nset : Int) = (0 : Int))) (
 ∃ (x1 : Option Addr) (nx1 cx1 : Nat), w5.cell? ⟨b_, 4, none⟩ = some (.slice x1 nx1 cx1) ∧
 R (.returned (.tuple #[.slice x1 nx1 cx1, .bool true])) w5) (
 R (.returned (.tuple #[.slice set_ nset cset, .bool true])) w5)))) :
    Calls prg 111 #[.slice l nl cl, .string id, .slice asked nasked casked] w R :=
  calls_mk .nil [.slice l nl cl, .string id, .slice asked nasked casked] w R tabOk (fokOk []) Tryz.func111 (by kernel_rfl) _ (by kernel_rfl) hyp

end Go.Proofs.YtbbcofdibkgalaaGreatDoor
