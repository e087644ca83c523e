import Derived.Test.YtbbcofdibkgalaaGreatDoorWb
set_option linter.unusedVariables false
set_option maxRecDepth 100000
set_option maxHeartbeats 4000000
namespace Go.Proofs.YtbbcofdibkgalaaGreatDoor
open Go.Eng
/-- (*signet/roll.Roll).Auth -/
theorem f15_wp (r : Option Addr) (header : ByteArray) (form : Option Addr) (nform : Nat) (cform : Nat) (w : World) (R : Ending → World → Prop) (hyp :
 Calls prg 30 #[.slice form nform cform, .string ⟨#[99, 108, 105, 101, 110, 116, 95, 105, 100]⟩] w fun e w1 => ∃ (r1 : ByteArray), ∃ (r2 : Int), e = .returned (.tuple #[.string r1, .int .i64 r2]) ∧
 Calls prg 30 #[.slice form nform cform, .string ⟨#[99, 108, 105, 101, 110, 116, 95, 115, 101, 99, 114, 101, 116]⟩] w1 fun e w2 => ∃ (r3 : ByteArray), ∃ (r4 : Int), e = .returned (.tuple #[.string r3, .int .i64 r4]) ∧
 ∃ (Cut1 : World → Prop), (
 cond (decide (r2 > (1 : Int))) (
 R (.returned (.tuple #[.string ⟨#[]⟩, .int .i64 1])) w2) (
 cond (decide (r4 > (1 : Int))) (
 R (.returned (.tuple #[.string ⟨#[]⟩, .int .i64 1])) w2) (
 cond (decide (header ≠ ⟨#[]⟩)) (
 cond (decide (r4 > (0 : Int))) (
 R (.returned (.tuple #[.string ⟨#[]⟩, .int .i64 1])) w2) (
 Cut1 w2)) (
 Cut1 w2)))) ∧
 ∀ (fr : Nat → Value) (w3 : World), Cut1 w3 →
 cond (decide (header ≠ ⟨#[]⟩)) (
 Calls prg 41 #[.string header] w3 fun e w4 => ∃ (r5 : ByteArray), ∃ (r6 : ByteArray), ∃ (r7 : Bool), e = .returned (.tuple #[.string r5, .string r6, .bool r7]) ∧
 Calls prg 42 #[.pointer r, .string r5] w4 fun e w5 => ∃ (r8 r9 : ByteArray) (r10 : Bool) (r11 : Option Addr) (nr cr : Nat) (r12 : Option Addr) (nr1 cr1 : Nat) (r13 : Option Addr) (nr2 cr2 : Nat), ∃ (r14 : Bool), e = .returned (.tuple #[.agg #[.string r8, .string r9, .bool r10, .slice r11 nr cr, .slice r12 nr1 cr1, .slice r13 nr2 cr2], .bool r14]) ∧
 ∀ (b_ : Nat) (w6 : World), b_ = w5.heap.size → w6 = w5.alloc (.cells #[.string ⟨#[]⟩, .string ⟨#[]⟩, .bool false, .slice none 0 0, .slice none 0 0, .slice none 0 0] 71) →
 Sto w6 b_ 0 [.string r8, .string r9, .bool r10, .slice r11 nr cr, .slice r12 nr1 cr1, .slice r13 nr2 cr2] ∧ ∀ w7, w7 = w6.setCells b_ 0 [.string r8, .string r9, .bool r10, .slice r11 nr cr, .slice r12 nr1 cr1, .slice r13 nr2 cr2] →
 ∃ (Cut2 : Bool → World → Prop), (
 cond (!r7) (
 Cut2 true w7) (
 cond (!r14) (
 Cut2 true w7) (
 ∃ (x : Bool), w7.cell? ⟨b_, 2, none⟩ = some (.bool x) ∧
 cond x (
 Cut2 true w7) (
 ∃ (x1 : ByteArray), w7.cell? ⟨b_, 1, none⟩ = some (.string x1) ∧
 ∀ (b_1 cp : Nat) (w8 : World), b_1 = w7.heap.size → cp = grownCap w7 x1.size 0 5 → w8 = Lib.bytesWorld w7 5 x1 →
 ∀ (b_2 cp1 : Nat) (w9 : World), b_2 = w8.heap.size → cp1 = grownCap w8 r6.size 0 5 → w9 = Lib.bytesWorld w8 5 r6 →
 Calls prg 43 #[.slice (some ⟨b_1, 0, none⟩) x1.size cp, .slice (some ⟨b_2, 0, none⟩) r6.size cp1] w9 fun e w10 => ∃ (r15 : Bool), e = .returned (.bool r15) ∧
 Cut2 (!r15) w10)))) ∧
 ∀ (t57 : Bool) (fr1 : Nat → Value) (w11 : World), Cut2 t57 w11 →
 cond t57 (
 R (.returned (.tuple #[.string ⟨#[]⟩, .int .i64 2])) w11) (
 cond (decide (r2 > (0 : Int))) (
 cond (decide (r1 ≠ r5)) (
 R (.returned (.tuple #[.string ⟨#[]⟩, .int .i64 1])) w11) (
 R (.returned (.tuple #[.string r5, .int .i64 0])) w11)) (
 R (.returned (.tuple #[.string r5, .int .i64 0])) w11))) (
 Calls prg 42 #[.pointer r, .string r1] w3 fun e w12 => ∃ (r16 r17 : ByteArray) (r18 : Bool) (r19 : Option Addr) (nr3 cr3 : Nat) (r20 : Option Addr) (nr4 cr4 : Nat) (r21 : Option Addr) (nr5 cr5 : Nat), ∃ (r22 : Bool), e = .returned (.tuple #[.agg #[.string r16, .string r17, .bool r18, .slice r19 nr3 cr3, .slice r20 nr4 cr4, .slice r21 nr5 cr5], .bool r22]) ∧
 ∀ (b_3 : Nat) (w13 : World), b_3 = w12.heap.size → w13 = w12.alloc (.cells #[.string ⟨#[]⟩, .string ⟨#[]⟩, .bool false, .slice none 0 0, .slice none 0 0, .slice none 0 0] 71) →
 Sto w13 b_3 0 [.string r16, .string r17, .bool r18, .slice r19 nr3 cr3, .slice r20 nr4 cr4, .slice r21 nr5 cr5] ∧ ∀ w14, w14 = w13.setCells b_3 0 [.string r16, .string r17, .bool r18, .slice r19 nr3 cr3, .slice r20 nr4 cr4, .slice r21 nr5 cr5] →
 cond (decide (r2 = (0 : Int))) (
 R (.returned (.tuple #[.string ⟨#[]⟩, .int .i64 2])) w14) (
 cond (!r22) (
 R (.returned (.tuple #[.string ⟨#[]⟩, .int .i64 2])) w14) (
 ∃ (x2 : Bool), w14.cell? ⟨b_3, 2, none⟩ = some (.bool x2) ∧
 cond (!(x2 == (decide (r4 = (0 : Int))))) (
 R (.returned (.tuple #[.string ⟨#[]⟩, .int .i64 2])) w14) (
 ∃ (x3 : ByteArray), w14.cell? ⟨b_3, 1, none⟩ = some (.string x3) ∧
 ∀ (b_4 cp2 : Nat) (w15 : World), b_4 = w14.heap.size → cp2 = grownCap w14 x3.size 0 5 → w15 = Lib.bytesWorld w14 5 x3 →
 ∀ (b_5 cp3 : Nat) (w16 : World), b_5 = w15.heap.size → cp3 = grownCap w15 r3.size 0 5 → w16 = Lib.bytesWorld w15 5 r3 →
 Calls prg 43 #[.slice (some ⟨b_4, 0, none⟩) x3.size cp2, .slice (some ⟨b_5, 0, none⟩) r3.size cp3] w16 fun e w17 => ∃ (r23 : Bool), e = .returned (.bool r23) ∧
 cond (!r23) (
 R (.returned (.tuple #[.string ⟨#[]⟩, .int .i64 2])) w17) (
 R (.returned (.tuple #[.string r1, .int .i64 0])) w17)))))) :
    Calls prg 15 #[.pointer r, .string header, .slice form nform cform] w R :=
  calls_mk (.node .nil (.node .nil (.node .nil (.cut [] [6, 7, 29, 30, 31, 32, 33, 34, 35, 36, 37, 38, 39, 40, 41, 42] .nil (.node (.node .nil (.node (.node .nil (.node .nil (.node (.cut [(57, .bool)] [58, 59, 60, 61, 62, 63, 64, 65, 66, 67, 68, 69, 70, 71, 72, 73, 74, 75, 76, 77, 78] .nil .nil) .nil))) .nil)) .nil))))) [.pointer r, .string header, .slice form nform cform] w R tabOk (fokOk []) Tryz.func15 (by kernel_rfl) _ (by kernel_rfl) hyp

/-- signet/seal.Open -/
theorem f16_wp (secret : Option Addr) (nsecret : Nat) (csecret : Nat) (s : ByteArray) (w : World) (R : Ending → World → Prop) (hyp :
 ∀ (b_ : Nat) (w1 : World), b_ = w.heap.size → w1 = w.alloc (.cells #[.int .i64 0, .string ⟨#[]⟩, .int .i64 0] 47) →
 Calls prg 44 #[.string s] w1 fun e w2 => ∃ (r : Int) (r1 : ByteArray) (r2 : Int), ∃ (r3 : Int), e = .returned (.tuple #[.agg #[.int .i64 r, .string r1, .int .i64 r2], .int .i64 r3]) ∧
 ∀ (b_1 : Nat) (w3 : World), b_1 = w2.heap.size → w3 = w2.alloc (.cells #[.int .i64 0, .string ⟨#[]⟩, .int .i64 0] 47) →
 Sto w3 b_1 0 [.int .i64 r, .string r1, .int .i64 r2] ∧ ∀ w4, w4 = w3.setCells b_1 0 [.int .i64 r, .string r1, .int .i64 r2] →
 cond (decide (r3 ≠ (0 : Int))) (
 Sto w4 b_ 0 [.int .i64 0, .string ⟨#[]⟩, .int .i64 0] ∧ ∀ w5, w5 = w4.setCells b_ 0 [.int .i64 0, .string ⟨#[]⟩, .int .i64 0] →
 ∃ (Kind : Int) (Family : ByteArray) (Serial : Int), w5.rangeAt b_ 0 [.int .i64 Kind, .string Family, .int .i64 Serial] ∧
 R (.returned (.tuple #[.agg #[.int .i64 Kind, .string Family, .int .i64 Serial], .int .i64 r3])) w5) (
 ∃ (Kind1 : Int) (Family1 : ByteArray) (Serial1 : Int), w4.rangeAt b_1 0 [.int .i64 Kind1, .string Family1, .int .i64 Serial1] ∧
 Calls prg 45 #[.slice secret nsecret csecret, .agg #[.int .i64 Kind1, .string Family1, .int .i64 Serial1]] w4 fun e w6 => ∃ (r4 : ByteArray), ∃ (r5 : Int), e = .returned (.tuple #[.string r4, .int .i64 r5]) ∧
 ∀ (b_2 cp : Nat) (w7 : World), b_2 = w6.heap.size → cp = grownCap w6 r4.size 0 5 → w7 = Lib.bytesWorld w6 5 r4 →
 ∀ (b_3 cp1 : Nat) (w8 : World), b_3 = w7.heap.size → cp1 = grownCap w7 s.size 0 5 → w8 = Lib.bytesWorld w7 5 s →
 Calls prg 43 #[.slice (some ⟨b_2, 0, none⟩) r4.size cp, .slice (some ⟨b_3, 0, none⟩) s.size cp1] w8 fun e w9 => ∃ (r6 : Bool), e = .returned (.bool r6) ∧
 cond (!r6) (
 Sto w9 b_ 0 [.int .i64 0, .string ⟨#[]⟩, .int .i64 0] ∧ ∀ w10, w10 = w9.setCells b_ 0 [.int .i64 0, .string ⟨#[]⟩, .int .i64 0] →
 ∃ (Kind2 : Int) (Family2 : ByteArray) (Serial2 : Int), w10.rangeAt b_ 0 [.int .i64 Kind2, .string Family2, .int .i64 Serial2] ∧
 R (.returned (.tuple #[.agg #[.int .i64 Kind2, .string Family2, .int .i64 Serial2], .int .i64 5])) w10) (
 ∃ (Kind3 : Int) (Family3 : ByteArray) (Serial3 : Int), w9.rangeAt b_1 0 [.int .i64 Kind3, .string Family3, .int .i64 Serial3] ∧
 Sto w9 b_ 0 [.int .i64 Kind3, .string Family3, .int .i64 Serial3] ∧ ∀ w11, w11 = w9.setCells b_ 0 [.int .i64 Kind3, .string Family3, .int .i64 Serial3] →
 ∃ (Kind4 : Int) (Family4 : ByteArray) (Serial4 : Int), w11.rangeAt b_ 0 [.int .i64 Kind4, .string Family4, .int .i64 Serial4] ∧
 R (.returned (.tuple #[.agg #[.int .i64 Kind4, .string Family4, .int .i64 Serial4], .int .i64 0])) w11))) :
    Calls prg 16 #[.slice secret nsecret csecret, .string s] w R :=
  calls_mk .nil [.slice secret nsecret csecret, .string s] w R tabOk (fokOk []) Tryz.func16 (by kernel_rfl) _ (by kernel_rfl) hyp

/-- signet/signetref19.Names -/
theorem f17_wp (path : ByteArray) (w : World) (R : Ending → World → Prop) (hyp :
 cond (decide (path = ⟨#[47, 97, 117, 116, 104, 111, 114, 105, 122, 101]⟩)) (
 ∀ (b_ : Nat) (w1 : World), b_ = w.heap.size → w1 = w.alloc (.cells #[.string ⟨#[114, 101, 115, 112, 111, 110, 115, 101, 95, 116, 121, 112, 101]⟩, .string ⟨#[99, 108, 105, 101, 110, 116, 95, 105, 100]⟩, .string ⟨#[114, 101, 100, 105, 114, 101, 99, 116, 95, 117, 114, 105]⟩, .string ⟨#[115, 99, 111, 112, 101]⟩, .string ⟨#[99, 111, 100, 101, 95, 99, 104, 97, 108, 108, 101, 110, 103, 101]⟩, .string ⟨#[99, 111, 100, 101, 95, 99, 104, 97, 108, 108, 101, 110, 103, 101, 95, 109, 101, 116, 104, 111, 100]⟩] 9) →
 R (.returned (.slice (some ⟨b_, 0, none⟩) 6 6)) w1) (
 cond (decide (path = ⟨#[47, 116, 111, 107, 101, 110]⟩)) (
 ∀ (b_1 : Nat) (w2 : World), b_1 = w.heap.size → w2 = w.alloc (.cells #[.string ⟨#[103, 114, 97, 110, 116, 95, 116, 121, 112, 101]⟩, .string ⟨#[99, 111, 100, 101]⟩, .string ⟨#[114, 101, 100, 105, 114, 101, 99, 116, 95, 117, 114, 105]⟩, .string ⟨#[99, 111, 100, 101, 95, 118, 101, 114, 105, 102, 105, 101, 114]⟩, .string ⟨#[114, 101, 102, 114, 101, 115, 104, 95, 116, 111, 107, 101, 110]⟩, .string ⟨#[115, 99, 111, 112, 101]⟩] 9) →
 R (.returned (.slice (some ⟨b_1, 0, none⟩) 6 6)) w2) (
 cond (decide (path = ⟨#[47, 114, 101, 118, 111, 107, 101]⟩)) (
 ∀ (b_2 : Nat) (w3 : World), b_2 = w.heap.size → w3 = w.alloc (.cells #[.string ⟨#[116, 111, 107, 101, 110]⟩, .string ⟨#[116, 111, 107, 101, 110, 95, 116, 121, 112, 101, 95, 104, 105, 110, 116]⟩] 9) →
 R (.returned (.slice (some ⟨b_2, 0, none⟩) 2 2)) w3) (
 cond (decide (path = ⟨#[47, 105, 110, 116, 114, 111, 115, 112, 101, 99, 116]⟩)) (
 ∀ (b_3 : Nat) (w4 : World), b_3 = w.heap.size → w4 = w.alloc (.cells #[.string ⟨#[116, 111, 107, 101, 110]⟩, .string ⟨#[116, 111, 107, 101, 110, 95, 116, 121, 112, 101, 95, 104, 105, 110, 116]⟩] 9) →
 R (.returned (.slice (some ⟨b_3, 0, none⟩) 2 2)) w4) (
 R (.returned (.slice none 0 0)) w))))) :
    Calls prg 17 #[.string path] w R :=
  calls_mk .nil [.string path] w R tabOk (fokOk []) Tryz.func17 (by kernel_rfl) _ (by kernel_rfl) hyp

/-- signet/gate.Refuses -/
theorem f18_wp (path : ByteArray) (w : World) (R : Ending → World → Prop) (hyp :
 cond (decide (path = ⟨#[47, 97, 117, 116, 104, 111, 114, 105, 122, 101]⟩)) (
 ∀ (b_ : Nat) (w1 : World), b_ = w.heap.size → w1 = w.alloc (.cells #[.int .i64 1, .int .i64 2, .int .i64 4, .int .i64 6, .int .i64 7, .int .i64 8] 36) →
 R (.returned (.slice (some ⟨b_, 0, none⟩) 6 6)) w1) (
 cond (decide (path = ⟨#[47, 116, 111, 107, 101, 110]⟩)) (
 ∀ (b_1 : Nat) (w2 : World), b_1 = w.heap.size → w2 = w.alloc (.cells #[.int .i64 1, .int .i64 2, .int .i64 3, .int .i64 4, .int .i64 5, .int .i64 6, .int .i64 7] 36) →
 R (.returned (.slice (some ⟨b_1, 0, none⟩) 7 7)) w2) (
 cond (decide (path = ⟨#[47, 114, 101, 118, 111, 107, 101]⟩)) (
 cond (decide (path = ⟨#[47, 114, 101, 118, 111, 107, 101]⟩)) (
 ∀ (b_2 : Nat) (w3 : World), b_2 = w.heap.size → w3 = w.alloc (.cells #[.int .i64 1, .int .i64 2, .int .i64 7] 36) →
 R (.returned (.slice (some ⟨b_2, 0, none⟩) 3 3)) w3) (
 ∀ (b_3 : Nat) (w4 : World), b_3 = w.heap.size → w4 = w.alloc (.cells #[.int .i64 1] 36) →
 R (.returned (.slice (some ⟨b_3, 0, none⟩) 1 1)) w4)) (
 cond (decide (path = ⟨#[47, 105, 110, 116, 114, 111, 115, 112, 101, 99, 116]⟩)) (
 ∀ (b_4 : Nat) (w5 : World), b_4 = w.heap.size → w5 = w.alloc (.cells #[.int .i64 1, .int .i64 2, .int .i64 7] 36) →
 R (.returned (.slice (some ⟨b_4, 0, none⟩) 3 3)) w5) (
 ∀ (b_5 : Nat) (w6 : World), b_5 = w.heap.size → w6 = w.alloc (.cells #[.int .i64 1] 36) →
 R (.returned (.slice (some ⟨b_5, 0, none⟩) 1 1)) w6))))) :
    Calls prg 18 #[.string path] w R :=
  calls_mk .nil [.string path] w R tabOk (fokOk []) Tryz.func18 (by kernel_rfl) _ (by kernel_rfl) hyp

/-- signet/signetref19.Refuses -/
theorem f19_wp (path : ByteArray) (w : World) (R : Ending → World → Prop) (hyp :
 cond (decide (path = ⟨#[47, 97, 117, 116, 104, 111, 114, 105, 122, 101]⟩)) (
 ∀ (b_ : Nat) (w1 : World), b_ = w.heap.size → w1 = w.alloc (.cells #[.int .i64 1, .int .i64 2, .int .i64 4, .int .i64 6, .int .i64 7, .int .i64 8] 3) →
 R (.returned (.slice (some ⟨b_, 0, none⟩) 6 6)) w1) (
 cond (decide (path = ⟨#[47, 116, 111, 107, 101, 110]⟩)) (
 ∀ (b_1 : Nat) (w2 : World), b_1 = w.heap.size → w2 = w.alloc (.cells #[.int .i64 1, .int .i64 2, .int .i64 3, .int .i64 4, .int .i64 5, .int .i64 6, .int .i64 7] 3) →
 R (.returned (.slice (some ⟨b_1, 0, none⟩) 7 7)) w2) (
 cond (decide (path = ⟨#[47, 114, 101, 118, 111, 107, 101]⟩)) (
 ∀ (b_2 : Nat) (w3 : World), b_2 = w.heap.size → w3 = w.alloc (.cells #[.int .i64 1, .int .i64 2, .int .i64 7] 3) →
 R (.returned (.slice (some ⟨b_2, 0, none⟩) 3 3)) w3) (
 cond (decide (path = ⟨#[47, 105, 110, 116, 114, 111, 115, 112, 101, 99, 116]⟩)) (
 ∀ (b_3 : Nat) (w4 : World), b_3 = w.heap.size → w4 = w.alloc (.cells #[.int .i64 1, .int .i64 2, .int .i64 7] 3) →
 R (.returned (.slice (some ⟨b_3, 0, none⟩) 3 3)) w4) (
 ∀ (b_4 : Nat) (w5 : World), b_4 = w.heap.size → w5 = w.alloc (.cells #[.int .i64 1] 3) →
 R (.returned (.slice (some ⟨b_4, 0, none⟩) 1 1)) w5))))) :
    Calls prg 19 #[.string path] w R :=
  calls_mk .nil [.string path] w R tabOk (fokOk []) Tryz.func19 (by kernel_rfl) _ (by kernel_rfl) hyp

/-- signet/roll.Header -/
theorem f20_wp (id : ByteArray) (secret : ByteArray) (w : World) (R : Ending → World → Prop) (hyp :
 Calls prg 47 #[.string id] w fun e w1 => ∃ (r : ByteArray), e = .returned (.string r) ∧
 r.size + (⟨#[58]⟩ : ByteArray).size ≤ 9223372036854775807 ∧ Calls prg 47 #[.string secret] w1 fun e w2 => ∃ (r1 : ByteArray), e = .returned (.string r1) ∧
 (r ++ (⟨#[58]⟩ : ByteArray)).size + r1.size ≤ 9223372036854775807 ∧ ∀ (b_ cp : Nat) (w3 : World), b_ = w2.heap.size → cp = grownCap w2 ((r ++ (⟨#[58]⟩ : ByteArray)) ++ r1).size 0 5 → w3 = Lib.bytesWorld w2 5 ((r ++ (⟨#[58]⟩ : ByteArray)) ++ r1) →
 Calls prg 46 #[.slice (some ⟨b_, 0, none⟩) ((r ++ (⟨#[58]⟩ : ByteArray)) ++ r1).size cp] w3 fun e w4 => ∃ (r2 : ByteArray), e = .returned (.string r2) ∧
 (⟨#[66, 97, 115, 105, 99, 32]⟩ : ByteArray).size + r2.size ≤ 9223372036854775807 ∧ R (.returned (.string ((⟨#[66, 97, 115, 105, 99, 32]⟩ : ByteArray) ++ r2))) w4) :
    Calls prg 20 #[.string id, .string secret] w R :=
  calls_mk .nil [.string id, .string secret] w R tabOk (fokOk []) Tryz.func20 (by kernel_rfl) _ (by kernel_rfl) hyp

/-- signet/signetref15.Right -/
theorem f21_wp (c_Id : ByteArray) (c_Secret : ByteArray) (c_Public : Bool) (c_Redirects : Option Addr) (nc_Redirects : Nat) (cc_Redirects : Nat) (c_Scopes : Option Addr) (nc_Scopes : Nat) (cc_Scopes : Nat) (c_Grants : Option Addr) (nc_Grants : Nat) (cc_Grants : Nat) (w : World) (R : Ending → World → Prop) (hyp :
 ∀ (b_ : Nat) (w1 : World), b_ = w.heap.size → w1 = w.alloc (.cells #[.string c_Id, .string c_Secret, .bool c_Public, .slice c_Redirects nc_Redirects cc_Redirects, .slice c_Scopes nc_Scopes cc_Scopes, .slice c_Grants nc_Grants cc_Grants] 64) →
 ∃ (Cut1 : World → Prop), (
 ∃ (x : ByteArray), w1.cell? ⟨b_, 0, none⟩ = some (.string x) ∧
 Calls prg 48 #[.string x, .int .i64 64] w1 fun e w2 => ∃ (r : Bool), e = .returned (.bool r) ∧
 cond (!r) (
 R (.returned (.bool false)) w2) (
 ∃ (x1 : Option Addr) (nx cx : Nat), w2.cell? ⟨b_, 3, none⟩ = some (.slice x1 nx cx) ∧
 cond (decide ((nx : Int) > (4 : Int))) (
 R (.returned (.bool false)) w2) (
 ∃ (x2 : Option Addr) (nx1 cx1 : Nat), w2.cell? ⟨b_, 4, none⟩ = some (.slice x2 nx1 cx1) ∧
 cond (decide ((nx1 : Int) > (32 : Int))) (
 R (.returned (.bool false)) w2) (
 ∃ (x3 : Option Addr) (nx2 cx2 : Nat), w2.cell? ⟨b_, 5, none⟩ = some (.slice x3 nx2 cx2) ∧
 cond (decide ((nx2 : Int) > (3 : Int))) (
 R (.returned (.bool false)) w2) (
 Cut1 w2))))) ∧
 ∀ (fr : Nat → Value) (w3 : World), Cut1 w3 →
 ∃ (Cut2 : World → Prop), (
 ∃ (x4 : Bool), w3.cell? ⟨b_, 2, none⟩ = some (.bool x4) ∧
 ∃ (x5 : ByteArray), w3.cell? ⟨b_, 1, none⟩ = some (.string x5) ∧
 cond (!(x4 == (decide (x5 = ⟨#[]⟩)))) (
 R (.returned (.bool false)) w3) (
 ∃ (x6 : Bool), w3.cell? ⟨b_, 2, none⟩ = some (.bool x6) ∧
 cond (!x6) (
 ∃ (x7 : ByteArray), w3.cell? ⟨b_, 1, none⟩ = some (.string x7) ∧
 Calls prg 48 #[.string x7, .int .i64 128] w3 fun e w4 => ∃ (r1 : Bool), e = .returned (.bool r1) ∧
 cond (!r1) (
 R (.returned (.bool false)) w4) (
 Cut2 w4)) (
 Cut2 w3))) ∧
 ∀ (fr1 : Nat → Value) (w5 : World), Cut2 w5 →
 ∃ (Inv1 : Int → World → Prop) (Mea1 : Int → World → Nat), Inv1 0 w5 ∧ ∀ (i : Int) (fr2 : Nat → Value) (w6 : World), 
 Inv1 i w6 →
 ∃ (x8 : Option Addr) (nx3 cx3 : Nat), w6.cell? ⟨b_, 3, none⟩ = some (.slice x8 nx3 cx3) ∧
 cond (decide (i < (nx3 : Int))) (
 ∃ (Drw1 : World → Prop), Drw1 w6.drew ∧
 ∃ (x9 : Option Addr) (nx4 cx4 : Nat), (∀ w7 : World, Drw1 w7 → w7.cell? ⟨b_, 3, none⟩ = some (.slice x9 nx4 cx4)) ∧
 0 ≤ i ∧ i < (nx4 : Int) ∧ nilW x9 fun bk of =>
 ∃ (x10 : ByteArray), (∀ w8 : World, Drw1 w8 → w8.cell? ⟨bk, of + i.toNat * 1, none⟩ = some (.string x10)) ∧
 Calls prg 48 #[.string x10, .int .i64 128] w6.drew fun e w9 => ∃ (r2 : Bool), e = .returned (.bool r2) ∧
 Drw1 w9 ∧ cond (!r2) (
 R (.returned (.bool false)) w9) (
 ∃ (x11 : Option Addr) (nx5 cx5 : Nat), (∀ w10 : World, Drw1 w10 → w10.cell? ⟨b_, 3, none⟩ = some (.slice x11 nx5 cx5)) ∧
 0 ≤ i ∧ i < (nx5 : Int) ∧ nilW x11 fun bk1 of1 =>
 ∃ (x12 : ByteArray), (∀ w11 : World, Drw1 w11 → w11.cell? ⟨bk1, of1 + i.toNat * 1, none⟩ = some (.string x12)) ∧
 Calls prg 49 #[.string x12] w9 fun e w12 => ∃ (r3 : Bool), e = .returned (.bool r3) ∧
 Drw1 w12 ∧ cond r3 (
 R (.returned (.bool false)) w12) (
 ∃ (x13 : Option Addr) (nx6 cx6 : Nat), (∀ w13 : World, Drw1 w13 → w13.cell? ⟨b_, 3, none⟩ = some (.slice x13 nx6 cx6)) ∧
 0 ≤ i ∧ 0 ≤ i.toNat ∧ i.toNat ≤ cx6 ∧ ∀ q : Option Addr, (0 < 0 → 0 < cx6 → q = shiftP x13 (0 * 1)) → (0 = 0 → q = x13) →
 ∃ (x14 : Option Addr) (nx7 cx7 : Nat), (∀ w14 : World, Drw1 w14 → w14.cell? ⟨b_, 3, none⟩ = some (.slice x14 nx7 cx7)) ∧
 0 ≤ i ∧ i < (nx7 : Int) ∧ nilW x14 fun bk2 of2 =>
 ∃ (x15 : ByteArray), (∀ w15 : World, Drw1 w15 → w15.cell? ⟨bk2, of2 + i.toNat * 1, none⟩ = some (.string x15)) ∧
 Calls prg 50 #[.slice q i.toNat cx6, .string x15] w12 fun e w16 => ∃ (r4 : Bool), e = .returned (.bool r4) ∧
 Drw1 w16 ∧ cond r4 (
 R (.returned (.bool false)) w16) (
 (Inv1 (IntKind.i64.wrap (i + (1 : Int))) w16 ∧ Mea1 (IntKind.i64.wrap (i + (1 : Int))) w16 < Mea1 i w6))))) (
 ∀ (b_1 : Nat) (w17 : World), b_1 = w6.heap.size → w17 = w6.alloc (.cells #[.string ⟨#[97, 117, 116, 104, 111, 114, 105, 122, 97, 116, 105, 111, 110, 95, 99, 111, 100, 101]⟩, .string ⟨#[99, 108, 105, 101, 110, 116, 95, 99, 114, 101, 100, 101, 110, 116, 105, 97, 108, 115]⟩, .string ⟨#[114, 101, 102, 114, 101, 115, 104, 95, 116, 111, 107, 101, 110]⟩] 9) →
 ∃ (Inv2 : Int → World → Prop) (Mea2 : Int → World → Nat), Inv2 0 w17 ∧ ∀ (i1 : Int) (fr3 : Nat → Value) (w18 : World), 
 Inv2 i1 w18 →
 ∃ (x16 : Option Addr) (nx8 cx8 : Nat), w18.cell? ⟨b_, 5, none⟩ = some (.slice x16 nx8 cx8) ∧
 cond (decide (i1 < (nx8 : Int))) (
 ∃ (Drw2 : World → Prop), Drw2 w18.drew ∧
 ∃ (x17 : Option Addr) (nx9 cx9 : Nat), (∀ w19 : World, Drw2 w19 → w19.cell? ⟨b_, 5, none⟩ = some (.slice x17 nx9 cx9)) ∧
 0 ≤ i1 ∧ i1 < (nx9 : Int) ∧ nilW x17 fun bk3 of3 =>
 ∃ (x18 : ByteArray), (∀ w20 : World, Drw2 w20 → w20.cell? ⟨bk3, of3 + i1.toNat * 1, none⟩ = some (.string x18)) ∧
 Calls prg 50 #[.slice (some ⟨b_1, 0, none⟩) 3 3, .string x18] w18.drew fun e w21 => ∃ (r5 : Bool), e = .returned (.bool r5) ∧
 Drw2 w21 ∧ cond (!r5) (
 R (.returned (.bool false)) w21) (
 cond (decide (i1 > (0 : Int))) (
 ∃ (x19 : Option Addr) (nx10 cx10 : Nat), (∀ w22 : World, Drw2 w22 → w22.cell? ⟨b_, 5, none⟩ = some (.slice x19 nx10 cx10)) ∧
 0 ≤ (IntKind.i64.wrap (i1 - (1 : Int))) ∧ (IntKind.i64.wrap (i1 - (1 : Int))) < (nx10 : Int) ∧ nilW x19 fun bk4 of4 =>
 ∃ (x20 : ByteArray), (∀ w23 : World, Drw2 w23 → w23.cell? ⟨bk4, of4 + (IntKind.i64.wrap (i1 - (1 : Int))).toNat * 1, none⟩ = some (.string x20)) ∧
 ∃ (x21 : Option Addr) (nx11 cx11 : Nat), (∀ w24 : World, Drw2 w24 → w24.cell? ⟨b_, 5, none⟩ = some (.slice x21 nx11 cx11)) ∧
 0 ≤ i1 ∧ i1 < (nx11 : Int) ∧ nilW x21 fun bk5 of5 =>
 ∃ (x22 : ByteArray), (∀ w25 : World, Drw2 w25 → w25.cell? ⟨bk5, of5 + i1.toNat * 1, none⟩ = some (.string x22)) ∧
 cond (!(Op.bytesLess x20.data.toList x22.data.toList)) (
 R (.returned (.bool false)) w21) (
 ∃ (x23 : Bool), (∀ w26 : World, Drw2 w26 → w26.cell? ⟨b_, 2, none⟩ = some (.bool x23)) ∧
 cond x23 (
 ∃ (x24 : Option Addr) (nx12 cx12 : Nat), (∀ w27 : World, Drw2 w27 → w27.cell? ⟨b_, 5, none⟩ = some (.slice x24 nx12 cx12)) ∧
 0 ≤ i1 ∧ i1 < (nx12 : Int) ∧ nilW x24 fun bk6 of6 =>
 ∃ (x25 : ByteArray), (∀ w28 : World, Drw2 w28 → w28.cell? ⟨bk6, of6 + i1.toNat * 1, none⟩ = some (.string x25)) ∧
 0 ≤ (1 : Int) ∧ 1 < (3 : Int) ∧ 
 ∃ (x26 : ByteArray), (∀ w29 : World, Drw2 w29 → w29.cell? ⟨b_1, 1, none⟩ = some (.string x26)) ∧
 cond (decide (x25 = x26)) (
 R (.returned (.bool false)) w21) (
 (Inv2 (IntKind.i64.wrap (i1 + (1 : Int))) w21 ∧ Mea2 (IntKind.i64.wrap (i1 + (1 : Int))) w21 < Mea2 i1 w18))) (
 (Inv2 (IntKind.i64.wrap (i1 + (1 : Int))) w21 ∧ Mea2 (IntKind.i64.wrap (i1 + (1 : Int))) w21 < Mea2 i1 w18)))) (
 ∃ (x27 : Bool), (∀ w30 : World, Drw2 w30 → w30.cell? ⟨b_, 2, none⟩ = some (.bool x27)) ∧
 cond x27 (
 ∃ (x28 : Option Addr) (nx13 cx13 : Nat), (∀ w31 : World, Drw2 w31 → w31.cell? ⟨b_, 5, none⟩ = some (.slice x28 nx13 cx13)) ∧
 0 ≤ i1 ∧ i1 < (nx13 : Int) ∧ nilW x28 fun bk7 of7 =>
 ∃ (x29 : ByteArray), (∀ w32 : World, Drw2 w32 → w32.cell? ⟨bk7, of7 + i1.toNat * 1, none⟩ = some (.string x29)) ∧
 0 ≤ (1 : Int) ∧ 1 < (3 : Int) ∧ 
 ∃ (x30 : ByteArray), (∀ w33 : World, Drw2 w33 → w33.cell? ⟨b_1, 1, none⟩ = some (.string x30)) ∧
 cond (decide (x29 = x30)) (
 R (.returned (.bool false)) w21) (
 (Inv2 (IntKind.i64.wrap (i1 + (1 : Int))) w21 ∧ Mea2 (IntKind.i64.wrap (i1 + (1 : Int))) w21 < Mea2 i1 w18))) (
 (Inv2 (IntKind.i64.wrap (i1 + (1 : Int))) w21 ∧ Mea2 (IntKind.i64.wrap (i1 + (1 : Int))) w21 < Mea2 i1 w18))))) (
 ∃ (Drw3 : World → Prop), Drw3 w18.drew ∧
 ∃ (x31 : Option Addr) (nx14 cx14 : Nat), (∀ w34 : World, Drw3 w34 → w34.cell? ⟨b_, 4, none⟩ = some (.slice x31 nx14 cx14)) ∧
 ∃ (x32 : Option Addr) (nx15 cx15 : Nat), (∀ w35 : World, Drw3 w35 → w35.cell? ⟨b_, 4, none⟩ = some (.slice x32 nx15 cx15)) ∧
 Calls prg 51 #[.slice x31 nx14 cx14] w18.drew fun e w36 => ∃ (r6 : Option Addr) (nr cr : Nat), e = .returned (.slice r6 nr cr) ∧
 Drw3 w36 ∧ Calls prg 40 #[.slice r6 nr cr, .slice x32 nx15 cx15] w36 fun e w37 => ∃ (r7 : Bool), e = .returned (.bool r7) ∧
 Drw3 w37 ∧ cond r7 (
 ∃ (x33 : Option Addr) (nx16 cx16 : Nat), (∀ w38 : World, Drw3 w38 → w38.cell? ⟨b_, 4, none⟩ = some (.slice x33 nx16 cx16)) ∧
 Calls prg 52 #[.slice x33 nx16 cx16] w37 fun e w39 => ∃ (r8 : ByteArray), e = .returned (.string r8) ∧
 Drw3 w39 ∧ R (.returned (.bool (decide ((r8.size : Int) ≤ (128 : Int))))) w39) (
 R (.returned (.bool false)) w37)))) :
    Calls prg 21 #[.agg #[.string c_Id, .string c_Secret, .bool c_Public, .slice c_Redirects nc_Redirects cc_Redirects, .slice c_Scopes nc_Scopes cc_Scopes, .slice c_Grants nc_Grants cc_Grants]] w R :=
  calls_mk (.node .nil (.cut [] [2, 6, 7, 8, 9, 10, 11, 12, 13, 14, 15, 16, 17, 18, 19, 20, 21, 22, 23, 24, 25, 26, 27] .nil (.cut [] [2, 28, 29, 30, 31, 32, 33, 34, 35, 36, 37, 38, 39, 40, 41, 42, 43, 44] .nil (.node (.node .nil (.loop [(3, .int .i64)] [2, 45, 46, 47, 48, 49, 50, 51, 52, 53, 54, 55, 56, 57, 58, 59, 60, 61, 62, 63, 64, 65, 66, 67, 68, 69, 70, 71, 72, 73, 74, 75, 76, 77, 78] (.node .nil (.node (.node (.draw (.op 0 (.op 1 (.op 2 (.op 3 (.op 4 (.op 5 (.op 6 (.op 7 (.op 8 (.op 9 (.op 10 (.op 11 (.op 12 (.op 13 (.op 14 (.op 15 (.op 16 (.op 17 (.op 18 (.op 19 (.op 20 (.op 21 (.op 22 (.op 23 (.op 24 (.op 25 (.op 26 .done)))))))))))))))))))))))))))) .nil) .nil)))) (.node .nil (.node (.node .nil (.loop [(5, .int .i64)] [2, 80, 81, 82, 83, 84, 85, 86, 87, 88, 89, 90, 91, 92, 93, 94, 95, 96, 97, 98, 99, 100, 101, 102, 103, 104, 105, 106, 107, 108, 109, 110, 111, 112, 113, 114, 115, 116, 117, 118, 119, 120, 121, 122, 123, 124, 125, 126, 127] (.node .nil (.node (.node (.draw (.op 0 (.op 1 (.op 2 (.op 3 (.op 4 (.op 5 (.op 6 (.op 7 (.op 8 (.op 9 (.op 10 (.op 11 (.op 12 (.op 13 (.op 14 (.op 15 (.op 16 (.op 17 (.op 18 (.op 19 (.op 20 (.op 21 (.op 22 (.op 23 (.op 24 (.op 25 (.op 26 (.op 27 (.op 28 (.op 29 (.op 30 (.op 31 (.op 32 (.op 33 (.op 34 (.op 35 (.op 36 (.op 37 (.op 38 (.op 39 (.op 40 .done)))))))))))))))))))))))))))))))))))))))))) .nil) .nil)))) (.node (.draw (.op 0 (.op 1 (.op 3 (.op 4 (.op 2 (.op 5 (.op 6 (.op 7 (.op 8 (.op 9 (.op 10 (.op 11 (.op 12 (.op 13 .done))))))))))))))) .nil))))))) [.agg #[.string c_Id, .string c_Secret, .bool c_Public, .slice c_Redirects nc_Redirects cc_Redirects, .slice c_Scopes nc_Scopes cc_Scopes, .slice c_Grants nc_Grants cc_Grants]] w R tabOk (fokOk []) Tryz.func21 (by kernel_rfl) _ (by kernel_rfl) hyp

/-- (signet/roll.client).right -/
theorem f22_wp (c_Client_Id : ByteArray) (c_Client_Secret : ByteArray) (c_Client_Public : Bool) (c_Client_Redirects : Option Addr) (nc_Client_Redirects : Nat) (cc_Client_Redirects : Nat) (c_Client_Scopes : Option Addr) (nc_Client_Scopes : Nat) (cc_Client_Scopes : Nat) (c_Client_Grants : Option Addr) (nc_Client_Grants : Nat) (cc_Client_Grants : Nat) (w : World) (R : Ending → World → Prop) (hyp :
 ∀ (b_ : Nat) (w1 : World), b_ = w.heap.size → w1 = w.alloc (.cells #[.string c_Client_Id, .string c_Client_Secret, .bool c_Client_Public, .slice c_Client_Redirects nc_Client_Redirects cc_Client_Redirects, .slice c_Client_Scopes nc_Client_Scopes cc_Client_Scopes, .slice c_Client_Grants nc_Client_Grants cc_Client_Grants] 71) →
 ∃ (Cut1 : World → Prop), (
 ∃ (x : ByteArray), w1.cell? ⟨b_, 0, none⟩ = some (.string x) ∧
 Calls prg 53 #[.string x, .int .i64 64] w1 fun e w2 => ∃ (r : Bool), e = .returned (.bool r) ∧
 cond (!r) (
 R (.returned (.bool false)) w2) (
 ∃ (x1 : Bool), w2.cell? ⟨b_, 2, none⟩ = some (.bool x1) ∧
 cond x1 (
 ∃ (x2 : ByteArray), w2.cell? ⟨b_, 1, none⟩ = some (.string x2) ∧
 cond (decide (x2 ≠ ⟨#[]⟩)) (
 R (.returned (.bool false)) w2) (
 ∃ (x3 : Bool), w2.cell? ⟨b_, 2, none⟩ = some (.bool x3) ∧
 cond (!x3) (
 ∃ (x4 : ByteArray), w2.cell? ⟨b_, 1, none⟩ = some (.string x4) ∧
 Calls prg 53 #[.string x4, .int .i64 128] w2 fun e w3 => ∃ (r1 : Bool), e = .returned (.bool r1) ∧
 cond (!r1) (
 R (.returned (.bool false)) w3) (
 ∃ (x5 : Option Addr) (nx cx : Nat), w3.cell? ⟨b_, 3, none⟩ = some (.slice x5 nx cx) ∧
 cond (decide ((nx : Int) > (4 : Int))) (
 R (.returned (.bool false)) w3) (
 ∃ (x6 : Option Addr) (nx1 cx1 : Nat), w3.cell? ⟨b_, 4, none⟩ = some (.slice x6 nx1 cx1) ∧
 cond (decide ((nx1 : Int) > (32 : Int))) (
 R (.returned (.bool false)) w3) (
 Cut1 w3)))) (
 ∃ (x7 : Option Addr) (nx2 cx2 : Nat), w2.cell? ⟨b_, 3, none⟩ = some (.slice x7 nx2 cx2) ∧
 cond (decide ((nx2 : Int) > (4 : Int))) (
 R (.returned (.bool false)) w2) (
 ∃ (x8 : Option Addr) (nx3 cx3 : Nat), w2.cell? ⟨b_, 4, none⟩ = some (.slice x8 nx3 cx3) ∧
 cond (decide ((nx3 : Int) > (32 : Int))) (
 R (.returned (.bool false)) w2) (
 Cut1 w2))))) (
 ∃ (x9 : Bool), w2.cell? ⟨b_, 2, none⟩ = some (.bool x9) ∧
 cond (!x9) (
 ∃ (x10 : ByteArray), w2.cell? ⟨b_, 1, none⟩ = some (.string x10) ∧
 Calls prg 53 #[.string x10, .int .i64 128] w2 fun e w4 => ∃ (r2 : Bool), e = .returned (.bool r2) ∧
 cond (!r2) (
 R (.returned (.bool false)) w4) (
 ∃ (x11 : Option Addr) (nx4 cx4 : Nat), w4.cell? ⟨b_, 3, none⟩ = some (.slice x11 nx4 cx4) ∧
 cond (decide ((nx4 : Int) > (4 : Int))) (
 R (.returned (.bool false)) w4) (
 ∃ (x12 : Option Addr) (nx5 cx5 : Nat), w4.cell? ⟨b_, 4, none⟩ = some (.slice x12 nx5 cx5) ∧
 cond (decide ((nx5 : Int) > (32 : Int))) (
 R (.returned (.bool false)) w4) (
 Cut1 w4)))) (
 ∃ (x13 : Option Addr) (nx6 cx6 : Nat), w2.cell? ⟨b_, 3, none⟩ = some (.slice x13 nx6 cx6) ∧
 cond (decide ((nx6 : Int) > (4 : Int))) (
 R (.returned (.bool false)) w2) (
 ∃ (x14 : Option Addr) (nx7 cx7 : Nat), w2.cell? ⟨b_, 4, none⟩ = some (.slice x14 nx7 cx7) ∧
 cond (decide ((nx7 : Int) > (32 : Int))) (
 R (.returned (.bool false)) w2) (
 Cut1 w2)))))) ∧
 ∀ (fr : Nat → Value) (w5 : World), Cut1 w5 →
 ∃ (x15 : Option Addr) (nx8 cx8 : Nat), w5.cell? ⟨b_, 3, none⟩ = some (.slice x15 nx8 cx8) ∧
 ∃ (Inv1 : Int → World → Prop) (Mea1 : Int → World → Nat), Inv1 0 w5 ∧ ∀ (t55 : Int) (fr1 : Nat → Value) (w6 : World), 
 Inv1 t55 w6 →
 cond (decide (t55 < (nx8 : Int))) (
 0 ≤ t55 ∧ t55 < (nx8 : Int) ∧ nilW x15 fun bk of =>
 ∃ (u : ByteArray), w6.cell? ⟨bk, of + t55.toNat * 1, none⟩ = some (.string u) ∧
 Calls prg 53 #[.string u, .int .i64 128] w6 fun e w7 => ∃ (r3 : Bool), e = .returned (.bool r3) ∧
 cond (!r3) (
 R (.returned (.bool false)) w7) (
 Calls prg 54 #[.string u, .string ⟨#[35]⟩] w7 fun e w8 => ∃ (r4 : Bool), e = .returned (.bool r4) ∧
 cond r4 (
 R (.returned (.bool false)) w8) (
 ∃ (x16 : Option Addr) (nx9 cx9 : Nat), w8.cell? ⟨b_, 3, none⟩ = some (.slice x16 nx9 cx9) ∧
 Calls prg 55 #[.slice x16 nx9 cx9, .string u] w8 fun e w9 => ∃ (r5 : Int), e = .returned (.int .i64 r5) ∧
 cond (decide (r5 ≠ t55)) (
 R (.returned (.bool false)) w9) (
 (Inv1 (IntKind.i64.wrap (t55 + (1 : Int))) w9 ∧ Mea1 (IntKind.i64.wrap (t55 + (1 : Int))) w9 < Mea1 t55 w6))))) (
 ∃ (x17 : Option Addr) (nx10 cx10 : Nat), w6.cell? ⟨b_, 5, none⟩ = some (.slice x17 nx10 cx10) ∧
 ∃ (Inv2 : ByteArray → Int → World → Prop) (Mea2 : ByteArray → Int → World → Nat), Inv2 ⟨#[]⟩ 0 w6 ∧ ∀ (last : ByteArray) (t81 : Int) (fr2 : Nat → Value) (w10 : World), 
 Inv2 last t81 w10 →
 cond (decide (t81 < (nx10 : Int))) (
 0 ≤ t81 ∧ t81 < (nx10 : Int) ∧ nilW x17 fun bk1 of1 =>
 ∃ (g_ : ByteArray), w10.cell? ⟨bk1, of1 + t81.toNat * 1, none⟩ = some (.string g_) ∧
 cond ((Op.bytesLess g_.data.toList last.data.toList) || decide (g_ = last)) (
 R (.returned (.bool false)) w10) (
 cond (decide (g_ ≠ ⟨#[97, 117, 116, 104, 111, 114, 105, 122, 97, 116, 105, 111, 110, 95, 99, 111, 100, 101]⟩)) (
 cond (decide (g_ ≠ ⟨#[99, 108, 105, 101, 110, 116, 95, 99, 114, 101, 100, 101, 110, 116, 105, 97, 108, 115]⟩)) (
 cond (decide (g_ ≠ ⟨#[114, 101, 102, 114, 101, 115, 104, 95, 116, 111, 107, 101, 110]⟩)) (
 R (.returned (.bool false)) w10) (
 ∃ (x18 : Bool), w10.cell? ⟨b_, 2, none⟩ = some (.bool x18) ∧
 cond x18 (
 cond (decide (g_ = ⟨#[99, 108, 105, 101, 110, 116, 95, 99, 114, 101, 100, 101, 110, 116, 105, 97, 108, 115]⟩)) (
 R (.returned (.bool false)) w10) (
 (Inv2 g_ (IntKind.i64.wrap (t81 + (1 : Int))) w10 ∧ Mea2 g_ (IntKind.i64.wrap (t81 + (1 : Int))) w10 < Mea2 last t81 w10))) (
 (Inv2 g_ (IntKind.i64.wrap (t81 + (1 : Int))) w10 ∧ Mea2 g_ (IntKind.i64.wrap (t81 + (1 : Int))) w10 < Mea2 last t81 w10)))) (
 ∃ (x19 : Bool), w10.cell? ⟨b_, 2, none⟩ = some (.bool x19) ∧
 cond x19 (
 cond (decide (g_ = ⟨#[99, 108, 105, 101, 110, 116, 95, 99, 114, 101, 100, 101, 110, 116, 105, 97, 108, 115]⟩)) (
 R (.returned (.bool false)) w10) (
 (Inv2 g_ (IntKind.i64.wrap (t81 + (1 : Int))) w10 ∧ Mea2 g_ (IntKind.i64.wrap (t81 + (1 : Int))) w10 < Mea2 last t81 w10))) (
 (Inv2 g_ (IntKind.i64.wrap (t81 + (1 : Int))) w10 ∧ Mea2 g_ (IntKind.i64.wrap (t81 + (1 : Int))) w10 < Mea2 last t81 w10)))) (
 ∃ (x20 : Bool), w10.cell? ⟨b_, 2, none⟩ = some (.bool x20) ∧
 cond x20 (
 cond (decide (g_ = ⟨#[99, 108, 105, 101, 110, 116, 95, 99, 114, 101, 100, 101, 110, 116, 105, 97, 108, 115]⟩)) (
 R (.returned (.bool false)) w10) (
 (Inv2 g_ (IntKind.i64.wrap (t81 + (1 : Int))) w10 ∧ Mea2 g_ (IntKind.i64.wrap (t81 + (1 : Int))) w10 < Mea2 last t81 w10))) (
 (Inv2 g_ (IntKind.i64.wrap (t81 + (1 : Int))) w10 ∧ Mea2 g_ (IntKind.i64.wrap (t81 + (1 : Int))) w10 < Mea2 last t81 w10))))) (
 ∃ (Drw1 : World → Prop), Drw1 w10.drew ∧
 ∃ (x21 : Option Addr) (nx11 cx11 : Nat), (∀ w11 : World, Drw1 w11 → w11.cell? ⟨b_, 4, none⟩ = some (.slice x21 nx11 cx11)) ∧
 ∃ (x22 : Option Addr) (nx12 cx12 : Nat), (∀ w12 : World, Drw1 w12 → w12.cell? ⟨b_, 4, none⟩ = some (.slice x22 nx12 cx12)) ∧
 Calls prg 57 #[.slice x21 nx11 cx11] w10.drew fun e w13 => ∃ (r6 : Option Addr) (nr cr : Nat), e = .returned (.slice r6 nr cr) ∧
 Drw1 w13 ∧ Calls prg 56 #[.slice r6 nr cr, .slice x22 nx12 cx12] w13 fun e w14 => ∃ (r7 : Bool), e = .returned (.bool r7) ∧
 Drw1 w14 ∧ cond r7 (
 ∃ (x23 : Option Addr) (nx13 cx13 : Nat), (∀ w15 : World, Drw1 w15 → w15.cell? ⟨b_, 4, none⟩ = some (.slice x23 nx13 cx13)) ∧
 Calls prg 58 #[.slice x23 nx13 cx13] w14 fun e w16 => ∃ (r8 : ByteArray), e = .returned (.string r8) ∧
 Drw1 w16 ∧ R (.returned (.bool (decide ((r8.size : Int) ≤ (128 : Int))))) w16) (
 R (.returned (.bool false)) w14)))) :
    Calls prg 22 #[.agg #[.string c_Client_Id, .string c_Client_Secret, .bool c_Client_Public, .slice c_Client_Redirects nc_Client_Redirects cc_Client_Redirects, .slice c_Client_Scopes nc_Client_Scopes cc_Client_Scopes, .slice c_Client_Grants nc_Client_Grants cc_Client_Grants]] w R :=
  calls_mk (.node .nil (.cut [] [2, 8, 9, 10, 11, 12, 13, 14, 15, 16, 17, 18, 19, 20, 21, 22, 23, 24, 25, 26, 27, 28, 29, 30, 31, 32, 33, 34, 35, 36, 37, 38, 39, 40, 41, 42, 43, 44, 45, 46, 47, 48, 49, 50] .nil (.node (.node .nil (.loop [(55, .int .i64)] [2, 3, 4, 56, 57, 58, 59, 60, 61, 62, 63, 64, 65, 66, 67, 68, 69, 70, 71, 72, 73, 74, 75, 76] .nil)) (.node .nil (.node (.node .nil (.loop [(5, .str), (81, .int .i64)] [2, 7, 82, 83, 84, 85, 86, 87, 88, 89, 90, 91, 92, 93, 94, 95, 96, 97, 98, 99, 100, 101, 102, 103, 104, 105, 106, 107, 108, 109, 110] .nil)) (.node (.draw (.op 0 (.op 1 (.op 2 (.op 4 (.op 5 (.op 6 (.op 3 (.op 7 (.op 8 (.op 9 (.op 10 (.op 11 (.op 12 (.op 13 (.op 14 (.op 15 (.op 16 .done)))))))))))))))))) .nil)))))) [.agg #[.string c_Client_Id, .string c_Client_Secret, .bool c_Client_Public, .slice c_Client_Redirects nc_Client_Redirects cc_Client_Redirects, .slice c_Client_Scopes nc_Client_Scopes cc_Client_Scopes, .slice c_Client_Grants nc_Client_Grants cc_Client_Grants]] w R tabOk (fokOk []) Tryz.func22 (by kernel_rfl) _ (by kernel_rfl) hyp

/-- (signet/roll.client).own -/
theorem f23_wp (c_Client_Id : ByteArray) (c_Client_Secret : ByteArray) (c_Client_Public : Bool) (c_Client_Redirects : Option Addr) (nc_Client_Redirects : Nat) (cc_Client_Redirects : Nat) (c_Client_Scopes : Option Addr) (nc_Client_Scopes : Nat) (cc_Client_Scopes : Nat) (c_Client_Grants : Option Addr) (nc_Client_Grants : Nat) (cc_Client_Grants : Nat) (w : World) (R : Ending → World → Prop) (hyp :
 ∀ (b_ : Nat) (w1 : World), b_ = w.heap.size → w1 = w.alloc (.cells #[.string c_Client_Id, .string c_Client_Secret, .bool c_Client_Public, .slice c_Client_Redirects nc_Client_Redirects cc_Client_Redirects, .slice c_Client_Scopes nc_Client_Scopes cc_Client_Scopes, .slice c_Client_Grants nc_Client_Grants cc_Client_Grants] 71) →
 ∀ (b_1 : Nat) (w2 : World), b_1 = w1.heap.size → w2 = w1.alloc (.cells #[.string ⟨#[]⟩, .string ⟨#[]⟩, .bool false, .slice none 0 0, .slice none 0 0, .slice none 0 0] 71) →
 ∃ (Drw1 : World → Prop), Drw1 w2.drew ∧
 ∃ (x : Option Addr) (nx cx : Nat), (∀ w3 : World, Drw1 w3 → w3.cell? ⟨b_, 3, none⟩ = some (.slice x nx cx)) ∧
 ∃ (x1 : Option Addr) (nx1 cx1 : Nat), (∀ w4 : World, Drw1 w4 → w4.cell? ⟨b_, 4, none⟩ = some (.slice x1 nx1 cx1)) ∧
 ∃ (x2 : Option Addr) (nx2 cx2 : Nat), (∀ w5 : World, Drw1 w5 → w5.cell? ⟨b_, 5, none⟩ = some (.slice x2 nx2 cx2)) ∧
 Calls prg 59 #[.slice x nx cx] w2.drew fun e w6 => ∃ (r : Option Addr) (nr cr : Nat), e = .returned (.slice r nr cr) ∧
 Drw1 w6 ∧ Calls prg 59 #[.slice x1 nx1 cx1] w6 fun e w7 => ∃ (r1 : Option Addr) (nr1 cr1 : Nat), e = .returned (.slice r1 nr1 cr1) ∧
 Drw1 w7 ∧ Calls prg 59 #[.slice x2 nx2 cx2] w7 fun e w8 => ∃ (r2 : Option Addr) (nr2 cr2 : Nat), e = .returned (.slice r2 nr2 cr2) ∧
 Drw1 w8 ∧ Sto w8 b_ 3 [.slice r nr cr] ∧ ∀ w9, w9 = w8.setCells b_ 3 [.slice r nr cr] →
 Sto w9 b_ 4 [.slice r1 nr1 cr1] ∧ ∀ w10, w10 = w9.setCells b_ 4 [.slice r1 nr1 cr1] →
 Sto w10 b_ 5 [.slice r2 nr2 cr2] ∧ ∀ w11, w11 = w10.setCells b_ 5 [.slice r2 nr2 cr2] →
 ∃ (Client_Id Client_Secret : ByteArray) (Client_Public : Bool) (Client_Redirects : Option Addr) (nClient_Redirects cClient_Redirects : Nat) (Client_Scopes : Option Addr) (nClient_Scopes cClient_Scopes : Nat) (Client_Grants : Option Addr) (nClient_Grants cClient_Grants : Nat), w11.rangeAt b_ 0 [.string Client_Id, .string Client_Secret, .bool Client_Public, .slice Client_Redirects nClient_Redirects cClient_Redirects, .slice Client_Scopes nClient_Scopes cClient_Scopes, .slice Client_Grants nClient_Grants cClient_Grants] ∧
 Sto w11 b_1 0 [.string Client_Id, .string Client_Secret, .bool Client_Public, .slice Client_Redirects nClient_Redirects cClient_Redirects, .slice Client_Scopes nClient_Scopes cClient_Scopes, .slice Client_Grants nClient_Grants cClient_Grants] ∧ ∀ w12, w12 = w11.setCells b_1 0 [.string Client_Id, .string Client_Secret, .bool Client_Public, .slice Client_Redirects nClient_Redirects cClient_Redirects, .slice Client_Scopes nClient_Scopes cClient_Scopes, .slice Client_Grants nClient_Grants cClient_Grants] →
 ∃ (Client_Id1 Client_Secret1 : ByteArray) (Client_Public1 : Bool) (Client_Redirects1 : Option Addr) (nClient_Redirects1 cClient_Redirects1 : Nat) (Client_Scopes1 : Option Addr) (nClient_Scopes1 cClient_Scopes1 : Nat) (Client_Grants1 : Option Addr) (nClient_Grants1 cClient_Grants1 : Nat), w12.rangeAt b_1 0 [.string Client_Id1, .string Client_Secret1, .bool Client_Public1, .slice Client_Redirects1 nClient_Redirects1 cClient_Redirects1, .slice Client_Scopes1 nClient_Scopes1 cClient_Scopes1, .slice Client_Grants1 nClient_Grants1 cClient_Grants1] ∧
 R (.returned (.agg #[.string Client_Id1, .string Client_Secret1, .bool Client_Public1, .slice Client_Redirects1 nClient_Redirects1 cClient_Redirects1, .slice Client_Scopes1 nClient_Scopes1 cClient_Scopes1, .slice Client_Grants1 nClient_Grants1 cClient_Grants1])) w12) :
    Calls prg 23 #[.agg #[.string c_Client_Id, .string c_Client_Secret, .bool c_Client_Public, .slice c_Client_Redirects nc_Client_Redirects cc_Client_Redirects, .slice c_Client_Scopes nc_Client_Scopes cc_Client_Scopes, .slice c_Client_Grants nc_Client_Grants cc_Client_Grants]] w R :=
  calls_mk (.node .nil (.node (.draw (.op 0 (.op 1 (.op 2 (.op 4 (.op 5 (.op 6 (.op 8 (.op 9 (.op 10 (.op 3 (.op 12 (.op 13 (.op 7 (.op 11 (.op 14 (.op 15 (.op 16 (.op 17 (.op 18 (.op 19 (.op 20 .done)))))))))))))))))))))) .nil)) [.agg #[.string c_Client_Id, .string c_Client_Secret, .bool c_Client_Public, .slice c_Client_Redirects nc_Client_Redirects cc_Client_Redirects, .slice c_Client_Scopes nc_Client_Scopes cc_Client_Scopes, .slice c_Client_Grants nc_Client_Grants cc_Client_Grants]] w R tabOk (fokOk []) Tryz.func23 (by kernel_rfl) _ (by kernel_rfl) hyp

/-- (*signet/gate.reader).authorize -/
theorem f24_wp (x : Option Addr) (w : World) (R : Ending → World → Prop) (hyp :
 ∀ (b_ : Nat) (w1 : World), b_ = w.heap.size → w1 = w.alloc (.cells #[.int .i64 0, .string ⟨#[]⟩, .int .i64 0, .int .i64 0, .string ⟨#[]⟩, .string ⟨#[]⟩, .slice none 0 0, .string ⟨#[]⟩, .string ⟨#[]⟩, .string ⟨#[]⟩, .string ⟨#[]⟩, .bool false, .int .i64 0] 35) →
 Calls prg 60 #[.pointer x, .string ⟨#[99, 108, 105, 101, 110, 116, 95, 105, 100]⟩] w1 fun e w2 => ∃ (id : ByteArray), e = .returned (.string id) ∧
 Calls prg 60 #[.pointer x, .string ⟨#[114, 101, 100, 105, 114, 101, 99, 116, 95, 117, 114, 105]⟩] w2 fun e w3 => ∃ (uri : ByteArray), e = .returned (.string uri) ∧
 Calls prg 60 #[.pointer x, .string ⟨#[114, 101, 115, 112, 111, 110, 115, 101, 95, 116, 121, 112, 101]⟩] w3 fun e w4 => ∃ (kind : ByteArray), e = .returned (.string kind) ∧
 nilW x fun bk of =>
 ∃ (x1 : Option Addr), w4.cell? ⟨bk, of + 4, none⟩ = some (.pointer x1) ∧
 Calls prg 61 #[.pointer x1, .string id] w4 fun e w5 => ∃ (r r1 : ByteArray) (r2 : Bool) (r3 : Option Addr) (nr cr : Nat) (r4 : Option Addr) (nr1 cr1 : Nat) (r5 : Option Addr) (nr2 cr2 : Nat), ∃ (r6 : Bool), e = .returned (.tuple #[.agg #[.string r, .string r1, .bool r2, .slice r3 nr cr, .slice r4 nr1 cr1, .slice r5 nr2 cr2], .bool r6]) ∧
 ∀ (b_1 : Nat) (w6 : World), b_1 = w5.heap.size → w6 = w5.alloc (.cells #[.string ⟨#[]⟩, .string ⟨#[]⟩, .bool false, .slice none 0 0, .slice none 0 0, .slice none 0 0] 64) →
 Sto w6 b_1 0 [.string r, .string r1, .bool r2, .slice r3 nr cr, .slice r4 nr1 cr1, .slice r5 nr2 cr2] ∧ ∀ w7, w7 = w6.setCells b_1 0 [.string r, .string r1, .bool r2, .slice r3 nr cr, .slice r4 nr1 cr1, .slice r5 nr2 cr2] →
 nilW x fun bk1 of1 =>
 ∃ (x2 : Option Addr), w7.cell? ⟨bk1, of1 + 4, none⟩ = some (.pointer x2) ∧
 Calls prg 62 #[.pointer x2, .string id, .string uri] w7 fun e w8 => ∃ (r7 : ByteArray), ∃ (r8 : Bool), e = .returned (.tuple #[.string r7, .bool r8]) ∧
 Calls prg 63 #[.pointer x, .string id] w8 fun e w9 => ∃ (r9 : Option Addr) (nr3 cr3 : Nat), ∃ (r10 : Int), e = .returned (.tuple #[.slice r9 nr3 cr3, .int .i64 r10]) ∧
 Calls prg 60 #[.pointer x, .string ⟨#[99, 111, 100, 101, 95, 99, 104, 97, 108, 108, 101, 110, 103, 101]⟩] w9 fun e w10 => ∃ (challenge : ByteArray), e = .returned (.string challenge) ∧
 Calls prg 60 #[.pointer x, .string ⟨#[99, 111, 100, 101, 95, 99, 104, 97, 108, 108, 101, 110, 103, 101, 95, 109, 101, 116, 104, 111, 100]⟩] w10 fun e w11 => ∃ (method : ByteArray), e = .returned (.string method) ∧
 ∃ (Cut1 : Bool → World → Prop), (
 cond (decide (method = ⟨#[]⟩)) (
 ∃ (x3 : Bool), w11.cell? ⟨b_1, 2, none⟩ = some (.bool x3) ∧
 Cut1 (!x3) w11) (
 Cut1 false w11)) ∧
 ∀ (fine : Bool) (fr : Nat → Value) (w12 : World), Cut1 fine w12 →
 ∃ (Cut2 : ByteArray → Bool → World → Prop), (
 cond (decide (challenge ≠ ⟨#[]⟩)) (
 cond (decide (method = ⟨#[]⟩)) (
 Calls prg 64 #[.string challenge, .string ⟨#[112, 108, 97, 105, 110]⟩] w12 fun e w13 => ∃ (fine1 : Bool), e = .returned (.bool fine1) ∧
 Cut2 ⟨#[112, 108, 97, 105, 110]⟩ fine1 w13) (
 Calls prg 64 #[.string challenge, .string method] w12 fun e w14 => ∃ (fine2 : Bool), e = .returned (.bool fine2) ∧
 Cut2 method fine2 w14)) (
 Cut2 method fine w12)) ∧
 ∀ (method1 : ByteArray) (fine3 : Bool) (fr1 : Nat → Value) (w15 : World), Cut2 method1 fine3 w15 →
 ∃ (Cut3 : Int → World → Prop), (
 ∃ (Drw1 : World → Prop), Drw1 w15.drew ∧
 nilW x fun bk2 of2 =>
 ∃ (x4 : Option Addr), (∀ w16 : World, Drw1 w16 → w16.cell? ⟨bk2, of2 + 4, none⟩ = some (.pointer x4)) ∧
 Calls prg 66 #[.bool (decide (id ≠ ⟨#[]⟩)), .int .i64 1] w15.drew fun e w17 => ∃ (r11 : Int), e = .returned (.int .i64 r11) ∧
 Drw1 w17 ∧ Calls prg 66 #[.bool r6, .int .i64 2] w17 fun e w18 => ∃ (r12 : Int), e = .returned (.int .i64 r12) ∧
 Drw1 w18 ∧ cond r8 (
 Calls prg 66 #[.bool (decide (kind ≠ ⟨#[]⟩)), .int .i64 1] w18 fun e w19 => ∃ (r13 : Int), e = .returned (.int .i64 r13) ∧
 Drw1 w19 ∧ Calls prg 66 #[.bool (decide (kind = ⟨#[99, 111, 100, 101]⟩)), .int .i64 8] w19 fun e w20 => ∃ (r14 : Int), e = .returned (.int .i64 r14) ∧
 Drw1 w20 ∧ Calls prg 67 #[.pointer x4, .string id, .string ⟨#[97, 117, 116, 104, 111, 114, 105, 122, 97, 116, 105, 111, 110, 95, 99, 111, 100, 101]⟩] w20 fun e w21 => ∃ (r15 : Bool), e = .returned (.bool r15) ∧
 Drw1 w21 ∧ Calls prg 66 #[.bool r15, .int .i64 4] w21 fun e w22 => ∃ (r16 : Int), e = .returned (.int .i64 r16) ∧
 Drw1 w22 ∧ cond fine3 (
 nilW x fun bk3 of3 =>
 ∃ (x5 : ByteArray), (∀ w23 : World, Drw1 w23 → w23.cell? ⟨bk3, of3 + 3, none⟩ = some (.string x5)) ∧
 cond (decide (x5 ≠ ⟨#[]⟩)) (
 nilW x fun bk4 of4 =>
 ∃ (x6 : ByteArray), (∀ w24 : World, Drw1 w24 → w24.cell? ⟨bk4, of4 + 3, none⟩ = some (.string x6)) ∧
 Calls prg 66 #[.bool (decide ((x6.size : Int) ≤ (128 : Int))), .int .i64 1] w22 fun e w25 => ∃ (r17 : Int), e = .returned (.int .i64 r17) ∧
 Drw1 w25 ∧ ∀ (b_2 : Nat) (w26 : World), b_2 = w25.heap.size → w26 = w25.alloc (.cells #[.int .i64 r11, .int .i64 r12, .int .i64 r13, .int .i64 r14, .int .i64 r16, .int .i64 r10, .int .i64 r17] 36) →
 Drw1 w26 ∧ Calls prg 65 #[.slice (some ⟨b_2, 0, none⟩) 7 7] w26 fun e w27 => ∃ (w28 : Int), e = .returned (.int .i64 w28) ∧
 Drw1 w27 ∧ Cut3 w28 w27) (
 Calls prg 66 #[.bool false, .int .i64 1] w22 fun e w29 => ∃ (r18 : Int), e = .returned (.int .i64 r18) ∧
 Drw1 w29 ∧ ∀ (b_3 : Nat) (w30 : World), b_3 = w29.heap.size → w30 = w29.alloc (.cells #[.int .i64 r11, .int .i64 r12, .int .i64 r13, .int .i64 r14, .int .i64 r16, .int .i64 r10, .int .i64 r18] 36) →
 Drw1 w30 ∧ Calls prg 65 #[.slice (some ⟨b_3, 0, none⟩) 7 7] w30 fun e w31 => ∃ (w32 : Int), e = .returned (.int .i64 w32) ∧
 Drw1 w31 ∧ Cut3 w32 w31)) (
 Calls prg 66 #[.bool false, .int .i64 1] w22 fun e w33 => ∃ (r19 : Int), e = .returned (.int .i64 r19) ∧
 Drw1 w33 ∧ ∀ (b_4 : Nat) (w34 : World), b_4 = w33.heap.size → w34 = w33.alloc (.cells #[.int .i64 r11, .int .i64 r12, .int .i64 r13, .int .i64 r14, .int .i64 r16, .int .i64 r10, .int .i64 r19] 36) →
 Drw1 w34 ∧ Calls prg 65 #[.slice (some ⟨b_4, 0, none⟩) 7 7] w34 fun e w35 => ∃ (w36 : Int), e = .returned (.int .i64 w36) ∧
 Drw1 w35 ∧ Cut3 w36 w35)) (
 Calls prg 66 #[.bool false, .int .i64 1] w18 fun e w37 => ∃ (r20 : Int), e = .returned (.int .i64 r20) ∧
 Drw1 w37 ∧ Calls prg 66 #[.bool (decide (kind = ⟨#[99, 111, 100, 101]⟩)), .int .i64 8] w37 fun e w38 => ∃ (r21 : Int), e = .returned (.int .i64 r21) ∧
 Drw1 w38 ∧ Calls prg 67 #[.pointer x4, .string id, .string ⟨#[97, 117, 116, 104, 111, 114, 105, 122, 97, 116, 105, 111, 110, 95, 99, 111, 100, 101]⟩] w38 fun e w39 => ∃ (r22 : Bool), e = .returned (.bool r22) ∧
 Drw1 w39 ∧ Calls prg 66 #[.bool r22, .int .i64 4] w39 fun e w40 => ∃ (r23 : Int), e = .returned (.int .i64 r23) ∧
 Drw1 w40 ∧ cond fine3 (
 nilW x fun bk5 of5 =>
 ∃ (x7 : ByteArray), (∀ w41 : World, Drw1 w41 → w41.cell? ⟨bk5, of5 + 3, none⟩ = some (.string x7)) ∧
 cond (decide (x7 ≠ ⟨#[]⟩)) (
 nilW x fun bk6 of6 =>
 ∃ (x8 : ByteArray), (∀ w42 : World, Drw1 w42 → w42.cell? ⟨bk6, of6 + 3, none⟩ = some (.string x8)) ∧
 Calls prg 66 #[.bool (decide ((x8.size : Int) ≤ (128 : Int))), .int .i64 1] w40 fun e w43 => ∃ (r24 : Int), e = .returned (.int .i64 r24) ∧
 Drw1 w43 ∧ ∀ (b_5 : Nat) (w44 : World), b_5 = w43.heap.size → w44 = w43.alloc (.cells #[.int .i64 r11, .int .i64 r12, .int .i64 r20, .int .i64 r21, .int .i64 r23, .int .i64 r10, .int .i64 r24] 36) →
 Drw1 w44 ∧ Calls prg 65 #[.slice (some ⟨b_5, 0, none⟩) 7 7] w44 fun e w45 => ∃ (w46 : Int), e = .returned (.int .i64 w46) ∧
 Drw1 w45 ∧ Cut3 w46 w45) (
 Calls prg 66 #[.bool false, .int .i64 1] w40 fun e w47 => ∃ (r25 : Int), e = .returned (.int .i64 r25) ∧
 Drw1 w47 ∧ ∀ (b_6 : Nat) (w48 : World), b_6 = w47.heap.size → w48 = w47.alloc (.cells #[.int .i64 r11, .int .i64 r12, .int .i64 r20, .int .i64 r21, .int .i64 r23, .int .i64 r10, .int .i64 r25] 36) →
 Drw1 w48 ∧ Calls prg 65 #[.slice (some ⟨b_6, 0, none⟩) 7 7] w48 fun e w49 => ∃ (w50 : Int), e = .returned (.int .i64 w50) ∧
 Drw1 w49 ∧ Cut3 w50 w49)) (
 Calls prg 66 #[.bool false, .int .i64 1] w40 fun e w51 => ∃ (r26 : Int), e = .returned (.int .i64 r26) ∧
 Drw1 w51 ∧ ∀ (b_7 : Nat) (w52 : World), b_7 = w51.heap.size → w52 = w51.alloc (.cells #[.int .i64 r11, .int .i64 r12, .int .i64 r20, .int .i64 r21, .int .i64 r23, .int .i64 r10, .int .i64 r26] 36) →
 Drw1 w52 ∧ Calls prg 65 #[.slice (some ⟨b_7, 0, none⟩) 7 7] w52 fun e w53 => ∃ (w54 : Int), e = .returned (.int .i64 w54) ∧
 Drw1 w53 ∧ Cut3 w54 w53))) ∧
 ∀ (w55 : Int) (fr2 : Nat → Value) (w56 : World), Cut3 w55 w56 →
 ∃ (Drw2 : World → Prop), Drw2 w56.drew ∧
 nilW x fun bk7 of7 =>
 ∃ (x9 : ByteArray), (∀ w57 : World, Drw2 w57 → w57.cell? ⟨bk7, of7 + 6, none⟩ = some (.string x9)) ∧
 nilW x fun bk8 of8 =>
 ∃ (x10 : ByteArray), (∀ w58 : World, Drw2 w58 → w58.cell? ⟨bk8, of8 + 3, none⟩ = some (.string x10)) ∧
 Sto w56.drew b_ 0 [.int .i64 1, .string x9, .int .i64 0, .int .i64 0, .string id, .string x10, .slice r9 nr3 cr3, .string uri, .string challenge, .string method1, .string ⟨#[]⟩, .bool false, .int .i64 0] ∧ ∀ w59, w59 = w56.drew.setCells b_ 0 [.int .i64 1, .string x9, .int .i64 0, .int .i64 0, .string id, .string x10, .slice r9 nr3 cr3, .string uri, .string challenge, .string method1, .string ⟨#[]⟩, .bool false, .int .i64 0] →
 ∃ (Kind : Int) (Family : ByteArray) (Serial Token : Int) (Client User : ByteArray) (Scope : Option Addr) (nScope cScope : Nat) (Redirect Challenge Method Verifier : ByteArray) (Refresh : Bool) (Edge : Int), w59.rangeAt b_ 0 [.int .i64 Kind, .string Family, .int .i64 Serial, .int .i64 Token, .string Client, .string User, .slice Scope nScope cScope, .string Redirect, .string Challenge, .string Method, .string Verifier, .bool Refresh, .int .i64 Edge] ∧
 R (.returned (.tuple #[.agg #[.int .i64 Kind, .string Family, .int .i64 Serial, .int .i64 Token, .string Client, .string User, .slice Scope nScope cScope, .string Redirect, .string Challenge, .string Method, .string Verifier, .bool Refresh, .int .i64 Edge], .int .i64 w55])) w59) :
    Calls prg 24 #[.pointer x] w R :=
  calls_mk (.node .nil (.node .nil (.node .nil (.node .nil (.node .nil (.node .nil (.cut [(15, .bool)] [51, 52, 53, 54, 55, 56, 57] .nil (.cut [(14, .str), (15, .bool)] [58, 59, 60, 61, 62, 63, 64] .nil (.cut [(12, .int .i64)] [65, 66, 67, 68, 69, 70, 71, 72, 73, 74, 75, 76, 77, 78, 79, 80, 81, 82, 83, 84, 85, 86, 87, 88, 89, 90, 91, 92, 93, 94, 95, 96, 97, 98, 99, 100, 101, 102, 103, 104, 105, 106, 107] (.draw (.op 0 (.op 1 (.op 3 (.op 5 (.op 11 (.op 12 (.op 14 (.op 15 (.op 16 (.op 17 (.op 18 (.op 21 (.op 22 (.op 2 (.op 4 (.op 6 (.op 7 (.op 8 (.op 9 (.op 10 (.op 13 (.op 19 (.op 20 (.op 23 (.op 24 (.op 25 (.op 26 (.op 27 (.op 28 (.op 29 (.op 30 (.op 31 (.op 32 (.op 33 (.op 34 (.op 35 (.op 36 (.op 37 (.op 38 (.op 39 (.op 40 (.op 41 (.op 42 (.op 43 .done))))))))))))))))))))))))))))))))))))))))))))) (.node (.draw (.op 0 (.op 1 (.op 2 (.op 3 (.op 4 (.op 5 (.op 6 (.op 7 (.op 8 (.op 9 (.op 10 (.op 11 (.op 12 (.op 13 (.op 14 (.op 15 (.op 16 (.op 17 .done))))))))))))))))))) .nil)))))))))) [.pointer x] w R tabOk (fokOk []) Tryz.func24 (by kernel_rfl) _ (by kernel_rfl) hyp

end Go.Proofs.YtbbcofdibkgalaaGreatDoor
