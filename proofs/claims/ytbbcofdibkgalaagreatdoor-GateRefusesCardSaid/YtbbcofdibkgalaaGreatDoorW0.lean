import Derived.Test.YtbbcofdibkgalaaGreatDoorWb
set_option linter.unusedVariables false
set_option maxRecDepth 100000
set_option maxHeartbeats 4000000
namespace Go.Proofs.YtbbcofdibkgalaaGreatDoor
open Go.Eng
/-- signet/signetlaw19.GatePlans -/
theorem f3_wp (l : Option Addr) (nl : Nat) (cl : Nat) (secret : Option Addr) (nsecret : Nat) (csecret : Nat) (family : ByteArray) (edge : Int) (q_Path : ByteArray) (q_Header : ByteArray) (q_Body : ByteArray) (q_User : ByteArray) (w : World) (R : Ending → World → Prop) (hyp :
 ∀ (b_ : Nat) (w1 : World), b_ = w.heap.size → w1 = w.alloc (.cells #[.string q_Path, .string q_Header, .string q_Body, .string q_User] 25) →
 Calls prg 7 #[.slice l nl cl] w1 fun e w2 => ∃ (l1 : Option Addr) (nl1 cl1 : Nat), e = .returned (.slice l1 nl1 cl1) ∧
 ∃ (Cut1 : World → Prop), (
 Calls prg 8 #[] w2 fun e w3 => ∃ (r : Bool), e = .returned (.bool r) ∧
 cond (!r) (
 Calls prg 8 #[] w3 fun e w4 => ∃ (r1 : Bool), e = .returned (.bool r1) ∧
 R (.returned (.bool r1)) w4) (
 Calls prg 9 #[.slice l1 nl1 cl1] w3 fun e w5 => ∃ (r2 : Bool), e = .returned (.bool r2) ∧
 cond (!r2) (
 Calls prg 8 #[] w5 fun e w6 => ∃ (r3 : Bool), e = .returned (.bool r3) ∧
 R (.returned (.bool r3)) w6) (
 Cut1 w5))) ∧
 ∀ (fr : Nat → Value) (w7 : World), Cut1 w7 →
 Calls prg 10 #[.slice l1 nl1 cl1] w7 fun e w8 => ∃ (r4 : Option Addr), ∃ (r5 : Int), e = .returned (.tuple #[.pointer r4, .int .i64 r5]) ∧
 ∃ (Path Header Body User : ByteArray), w8.rangeAt b_ 0 [.string Path, .string Header, .string Body, .string User] ∧
 Calls prg 11 #[.pointer r4, .slice secret nsecret csecret, .string family, .int .i64 edge, .agg #[.string Path, .string Header, .string Body, .string User]] w8 fun e w9 => ∃ (r6 : Int) (r7 : ByteArray) (r8 r9 : Int) (r10 r11 : ByteArray) (r12 : Option Addr) (nr cr : Nat) (r13 r14 r15 r16 : ByteArray) (r17 : Bool) (r18 : Int), ∃ (r19 : Int), e = .returned (.tuple #[.agg #[.int .i64 r6, .string r7, .int .i64 r8, .int .i64 r9, .string r10, .string r11, .slice r12 nr cr, .string r13, .string r14, .string r15, .string r16, .bool r17, .int .i64 r18], .int .i64 r19]) ∧
 ∀ (b_1 : Nat) (w10 : World), b_1 = w9.heap.size → w10 = w9.alloc (.cells #[.int .i64 0, .string ⟨#[]⟩, .int .i64 0, .int .i64 0, .string ⟨#[]⟩, .string ⟨#[]⟩, .slice none 0 0, .string ⟨#[]⟩, .string ⟨#[]⟩, .string ⟨#[]⟩, .string ⟨#[]⟩, .bool false, .int .i64 0] 35) →
 Sto w10 b_1 0 [.int .i64 r6, .string r7, .int .i64 r8, .int .i64 r9, .string r10, .string r11, .slice r12 nr cr, .string r13, .string r14, .string r15, .string r16, .bool r17, .int .i64 r18] ∧ ∀ w11, w11 = w10.setCells b_1 0 [.int .i64 r6, .string r7, .int .i64 r8, .int .i64 r9, .string r10, .string r11, .slice r12 nr cr, .string r13, .string r14, .string r15, .string r16, .bool r17, .int .i64 r18] →
 ∃ (Path1 Header1 Body1 User1 : ByteArray), w11.rangeAt b_ 0 [.string Path1, .string Header1, .string Body1, .string User1] ∧
 Calls prg 12 #[.slice l1 nl1 cl1, .slice secret nsecret csecret, .string family, .int .i64 edge, .agg #[.string Path1, .string Header1, .string Body1, .string User1]] w11 fun e w12 => ∃ (r20 : Int) (r21 : ByteArray) (r22 r23 : Int) (r24 r25 : ByteArray) (r26 : Option Addr) (nr1 cr1 : Nat) (r27 r28 r29 r30 : ByteArray) (r31 : Bool) (r32 : Int), ∃ (r33 : Int), e = .returned (.tuple #[.agg #[.int .i64 r20, .string r21, .int .i64 r22, .int .i64 r23, .string r24, .string r25, .slice r26 nr1 cr1, .string r27, .string r28, .string r29, .string r30, .bool r31, .int .i64 r32], .int .i64 r33]) ∧
 ∀ (b_2 : Nat) (w13 : World), b_2 = w12.heap.size → w13 = w12.alloc (.cells #[.int .i64 0, .string ⟨#[]⟩, .int .i64 0, .int .i64 0, .string ⟨#[]⟩, .string ⟨#[]⟩, .slice none 0 0, .string ⟨#[]⟩, .string ⟨#[]⟩, .string ⟨#[]⟩, .string ⟨#[]⟩, .bool false, .int .i64 0] 35) →
 Sto w13 b_2 0 [.int .i64 r20, .string r21, .int .i64 r22, .int .i64 r23, .string r24, .string r25, .slice r26 nr1 cr1, .string r27, .string r28, .string r29, .string r30, .bool r31, .int .i64 r32] ∧ ∀ w14, w14 = w13.setCells b_2 0 [.int .i64 r20, .string r21, .int .i64 r22, .int .i64 r23, .string r24, .string r25, .slice r26 nr1 cr1, .string r27, .string r28, .string r29, .string r30, .bool r31, .int .i64 r32] →
 ∃ (Kind : Int) (Family : ByteArray) (Serial Token : Int) (Client User2 : ByteArray) (Scope : Option Addr) (nScope cScope : Nat) (Redirect Challenge Method Verifier : ByteArray) (Refresh : Bool) (Edge : Int), w14.rangeAt b_1 0 [.int .i64 Kind, .string Family, .int .i64 Serial, .int .i64 Token, .string Client, .string User2, .slice Scope nScope cScope, .string Redirect, .string Challenge, .string Method, .string Verifier, .bool Refresh, .int .i64 Edge] ∧
 ∃ (Kind1 : Int) (Family1 : ByteArray) (Serial1 Token1 : Int) (Client1 User3 : ByteArray) (Scope1 : Option Addr) (nScope1 cScope1 : Nat) (Redirect1 Challenge1 Method1 Verifier1 : ByteArray) (Refresh1 : Bool) (Edge1 : Int), w14.rangeAt b_2 0 [.int .i64 Kind1, .string Family1, .int .i64 Serial1, .int .i64 Token1, .string Client1, .string User3, .slice Scope1 nScope1 cScope1, .string Redirect1, .string Challenge1, .string Method1, .string Verifier1, .bool Refresh1, .int .i64 Edge1] ∧
 Calls prg 13 #[.agg #[.int .i64 Kind, .string Family, .int .i64 Serial, .int .i64 Token, .string Client, .string User2, .slice Scope nScope cScope, .string Redirect, .string Challenge, .string Method, .string Verifier, .bool Refresh, .int .i64 Edge], .agg #[.int .i64 Kind1, .string Family1, .int .i64 Serial1, .int .i64 Token1, .string Client1, .string User3, .slice Scope1 nScope1 cScope1, .string Redirect1, .string Challenge1, .string Method1, .string Verifier1, .bool Refresh1, .int .i64 Edge1]] w14 fun e w15 => ∃ (r34 : Bool), e = .returned (.bool r34) ∧
 cond r34 (
 R (.returned (.bool (decide (r19 = r33)))) w15) (
 R (.returned (.bool false)) w15)) :
    Calls prg 3 #[.slice l nl cl, .slice secret nsecret csecret, .string family, .int .i64 edge, .agg #[.string q_Path, .string q_Header, .string q_Body, .string q_User]] w R :=
  calls_mk (.node .nil (.node .nil (.cut [] [10, 19, 20, 21, 22, 23, 24, 25, 26] .nil .nil))) [.slice l nl cl, .slice secret nsecret csecret, .string family, .int .i64 edge, .agg #[.string q_Path, .string q_Header, .string q_Body, .string q_User]] w R tabOk (fokOk []) Tryz.func3 (by kernel_rfl) _ (by kernel_rfl) hyp

/-- signet/signetlaw19.GateUnknown -/
theorem f4_wp (l : Option Addr) (nl : Nat) (cl : Nat) (secret : Option Addr) (nsecret : Nat) (csecret : Nat) (path : ByteArray) (header : ByteArray) (token : ByteArray) (w : World) (R : Ending → World → Prop) (hyp :
 Calls prg 7 #[.slice l nl cl] w fun e w1 => ∃ (l1 : Option Addr) (nl1 cl1 : Nat), e = .returned (.slice l1 nl1 cl1) ∧
 ∃ (Cut1 : World → Prop), (
 Calls prg 8 #[] w1 fun e w2 => ∃ (r : Bool), e = .returned (.bool r) ∧
 cond (!r) (
 Calls prg 8 #[] w2 fun e w3 => ∃ (r1 : Bool), e = .returned (.bool r1) ∧
 R (.returned (.bool r1)) w3) (
 Calls prg 9 #[.slice l1 nl1 cl1] w2 fun e w4 => ∃ (r2 : Bool), e = .returned (.bool r2) ∧
 cond (!r2) (
 Calls prg 8 #[] w4 fun e w5 => ∃ (r3 : Bool), e = .returned (.bool r3) ∧
 R (.returned (.bool r3)) w5) (
 cond (decide ((token.size : Int) > (3000 : Int))) (
 Calls prg 8 #[] w4 fun e w6 => ∃ (r4 : Bool), e = .returned (.bool r4) ∧
 R (.returned (.bool r4)) w6) (
 Cut1 w4)))) ∧
 ∀ (fr : Nat → Value) (w7 : World), Cut1 w7 →
 Calls prg 10 #[.slice l1 nl1 cl1] w7 fun e w8 => ∃ (r5 : Option Addr), ∃ (r6 : Int), e = .returned (.tuple #[.pointer r5, .int .i64 r6]) ∧
 Calls prg 14 #[.string token] w8 fun e w9 => ∃ (r7 : ByteArray), e = .returned (.string r7) ∧
 (⟨#[116, 111, 107, 101, 110, 61]⟩ : ByteArray).size + r7.size ≤ 9223372036854775807 ∧ ∀ (b_ : Nat) (w10 : World), b_ = w9.heap.size → w10 = w9.alloc (.cells #[.string ⟨#[]⟩, .string ⟨#[]⟩, .string ⟨#[]⟩, .string ⟨#[]⟩] 25) →
 Sto w10 b_ 0 [.string path, .string header, .string ((⟨#[116, 111, 107, 101, 110, 61]⟩ : ByteArray) ++ r7), .string ⟨#[]⟩] ∧ ∀ w11, w11 = w10.setCells b_ 0 [.string path, .string header, .string ((⟨#[116, 111, 107, 101, 110, 61]⟩ : ByteArray) ++ r7), .string ⟨#[]⟩] →
 ∃ (Path Header Body User : ByteArray), w11.rangeAt b_ 0 [.string Path, .string Header, .string Body, .string User] ∧
 Calls prg 11 #[.pointer r5, .slice secret nsecret csecret, .string ⟨#[102]⟩, .int .i64 0, .agg #[.string Path, .string Header, .string Body, .string User]] w11 fun e w12 => ∃ (r8 : Int) (r9 : ByteArray) (r10 r11 : Int) (r12 r13 : ByteArray) (r14 : Option Addr) (nr cr : Nat) (r15 r16 r17 r18 : ByteArray) (r19 : Bool) (r20 : Int), ∃ (r21 : Int), e = .returned (.tuple #[.agg #[.int .i64 r8, .string r9, .int .i64 r10, .int .i64 r11, .string r12, .string r13, .slice r14 nr cr, .string r15, .string r16, .string r17, .string r18, .bool r19, .int .i64 r20], .int .i64 r21]) ∧
 ∀ (b_1 : Nat) (w13 : World), b_1 = w12.heap.size → w13 = w12.alloc (.cells #[.int .i64 0, .string ⟨#[]⟩, .int .i64 0, .int .i64 0, .string ⟨#[]⟩, .string ⟨#[]⟩, .slice none 0 0, .string ⟨#[]⟩, .string ⟨#[]⟩, .string ⟨#[]⟩, .string ⟨#[]⟩, .bool false, .int .i64 0] 35) →
 Sto w13 b_1 0 [.int .i64 r8, .string r9, .int .i64 r10, .int .i64 r11, .string r12, .string r13, .slice r14 nr cr, .string r15, .string r16, .string r17, .string r18, .bool r19, .int .i64 r20] ∧ ∀ w14, w14 = w13.setCells b_1 0 [.int .i64 r8, .string r9, .int .i64 r10, .int .i64 r11, .string r12, .string r13, .slice r14 nr cr, .string r15, .string r16, .string r17, .string r18, .bool r19, .int .i64 r20] →
 Calls prg 15 #[.pointer r5, .string header, .slice none 0 0] w14 fun e w15 => ∃ (r22 : ByteArray), ∃ (r23 : Int), e = .returned (.tuple #[.string r22, .int .i64 r23]) ∧
 Calls prg 16 #[.slice secret nsecret csecret, .string token] w15 fun e w16 => ∃ (r24 : Int) (r25 : ByteArray) (r26 : Int), ∃ (r27 : Int), e = .returned (.tuple #[.agg #[.int .i64 r24, .string r25, .int .i64 r26], .int .i64 r27]) ∧
 ∀ (b_2 : Nat) (w17 : World), b_2 = w16.heap.size → w17 = w16.alloc (.cells #[.int .i64 0, .string ⟨#[]⟩, .int .i64 0] 47) →
 Sto w17 b_2 0 [.int .i64 r24, .string r25, .int .i64 r26] ∧ ∀ w18, w18 = w17.setCells b_2 0 [.int .i64 r24, .string r25, .int .i64 r26] →
 ∃ (Cut2 : World → Prop), (
 cond (decide (path ≠ ⟨#[47, 114, 101, 118, 111, 107, 101]⟩)) (
 cond (decide (path ≠ ⟨#[47, 105, 110, 116, 114, 111, 115, 112, 101, 99, 116]⟩)) (
 cond (decide (path = ⟨#[47, 97, 117, 116, 104, 111, 114, 105, 122, 101]⟩)) (
 R (.returned (.bool true)) w18) (
 R (.returned (.bool (decide (r21 ≠ (0 : Int))))) w18)) (
 Cut2 w18)) (
 Cut2 w18)) ∧
 ∀ (fr1 : Nat → Value) (w19 : World), Cut2 w19 →
 ∃ (Cut3 : World → Prop), (
 cond (decide (header = ⟨#[]⟩)) (
 cond (decide (r21 ≠ (0 : Int))) (
 ∃ (x : Int), w19.cell? ⟨b_1, 0, none⟩ = some (.int .i64 x) ∧
 R (.returned (.bool (decide (x = (0 : Int))))) w19) (
 R (.returned (.bool false)) w19)) (
 cond (decide (r23 ≠ (0 : Int))) (
 cond (decide (r21 ≠ (0 : Int))) (
 ∃ (x1 : Int), w19.cell? ⟨b_1, 0, none⟩ = some (.int .i64 x1) ∧
 R (.returned (.bool (decide (x1 = (0 : Int))))) w19) (
 R (.returned (.bool false)) w19)) (
 Cut3 w19))) ∧
 ∀ (fr2 : Nat → Value) (w20 : World), Cut3 w20 →
 cond (decide (token = ⟨#[]⟩)) (
 R (.returned (.bool (decide (r21 = (1 : Int))))) w20) (
 cond (decide (r27 ≠ (0 : Int))) (
 cond (decide (r21 = (0 : Int))) (
 ∃ (Kind : Int) (Family : ByteArray) (Serial Token : Int) (Client User1 : ByteArray) (Scope : Option Addr) (nScope cScope : Nat) (Redirect Challenge Method Verifier : ByteArray) (Refresh : Bool) (Edge : Int), w20.rangeAt b_1 0 [.int .i64 Kind, .string Family, .int .i64 Serial, .int .i64 Token, .string Client, .string User1, .slice Scope nScope cScope, .string Redirect, .string Challenge, .string Method, .string Verifier, .bool Refresh, .int .i64 Edge] ∧
 Calls prg 13 #[.agg #[.int .i64 Kind, .string Family, .int .i64 Serial, .int .i64 Token, .string Client, .string User1, .slice Scope nScope cScope, .string Redirect, .string Challenge, .string Method, .string Verifier, .bool Refresh, .int .i64 Edge], .agg #[.int .i64 0, .string ⟨#[]⟩, .int .i64 0, .int .i64 0, .string ⟨#[]⟩, .string ⟨#[]⟩, .slice none 0 0, .string ⟨#[]⟩, .string ⟨#[]⟩, .string ⟨#[]⟩, .string ⟨#[]⟩, .bool false, .int .i64 0]] w20 fun e w21 => ∃ (r28 : Bool), e = .returned (.bool r28) ∧
 R (.returned (.bool r28)) w21) (
 R (.returned (.bool false)) w20)) (
 cond (decide (r21 = (0 : Int))) (
 cond (decide (path = ⟨#[47, 105, 110, 116, 114, 111, 115, 112, 101, 99, 116]⟩)) (
 ∃ (x2 : Int), w20.cell? ⟨b_2, 0, none⟩ = some (.int .i64 x2) ∧
 cond (decide (x2 = (1 : Int))) (
 ∃ (x3 : Int), w20.cell? ⟨b_1, 0, none⟩ = some (.int .i64 x3) ∧
 cond (decide (x3 = (0 : Int))) (
 R (.returned (.bool true)) w20) (
 ∃ (x4 : ByteArray), w20.cell? ⟨b_1, 1, none⟩ = some (.string x4) ∧
 ∃ (x5 : ByteArray), w20.cell? ⟨b_2, 1, none⟩ = some (.string x5) ∧
 cond (decide (x4 = x5)) (
 ∃ (x6 : Int), w20.cell? ⟨b_1, 2, none⟩ = some (.int .i64 x6) ∧
 ∃ (x7 : Int), w20.cell? ⟨b_2, 2, none⟩ = some (.int .i64 x7) ∧
 cond (decide (x6 = x7)) (
 ∃ (x8 : Int), w20.cell? ⟨b_1, 3, none⟩ = some (.int .i64 x8) ∧
 ∃ (x9 : Int), w20.cell? ⟨b_2, 0, none⟩ = some (.int .i64 x9) ∧
 R (.returned (.bool (decide (x8 = x9)))) w20) (
 R (.returned (.bool false)) w20)) (
 R (.returned (.bool false)) w20))) (
 ∃ (x10 : ByteArray), w20.cell? ⟨b_1, 1, none⟩ = some (.string x10) ∧
 ∃ (x11 : ByteArray), w20.cell? ⟨b_2, 1, none⟩ = some (.string x11) ∧
 cond (decide (x10 = x11)) (
 ∃ (x12 : Int), w20.cell? ⟨b_1, 2, none⟩ = some (.int .i64 x12) ∧
 ∃ (x13 : Int), w20.cell? ⟨b_2, 2, none⟩ = some (.int .i64 x13) ∧
 cond (decide (x12 = x13)) (
 ∃ (x14 : Int), w20.cell? ⟨b_1, 3, none⟩ = some (.int .i64 x14) ∧
 ∃ (x15 : Int), w20.cell? ⟨b_2, 0, none⟩ = some (.int .i64 x15) ∧
 R (.returned (.bool (decide (x14 = x15)))) w20) (
 R (.returned (.bool false)) w20)) (
 R (.returned (.bool false)) w20))) (
 ∃ (x16 : ByteArray), w20.cell? ⟨b_1, 1, none⟩ = some (.string x16) ∧
 ∃ (x17 : ByteArray), w20.cell? ⟨b_2, 1, none⟩ = some (.string x17) ∧
 cond (decide (x16 = x17)) (
 ∃ (x18 : Int), w20.cell? ⟨b_1, 2, none⟩ = some (.int .i64 x18) ∧
 ∃ (x19 : Int), w20.cell? ⟨b_2, 2, none⟩ = some (.int .i64 x19) ∧
 cond (decide (x18 = x19)) (
 ∃ (x20 : Int), w20.cell? ⟨b_1, 3, none⟩ = some (.int .i64 x20) ∧
 ∃ (x21 : Int), w20.cell? ⟨b_2, 0, none⟩ = some (.int .i64 x21) ∧
 R (.returned (.bool (decide (x20 = x21)))) w20) (
 R (.returned (.bool false)) w20)) (
 R (.returned (.bool false)) w20))) (
 R (.returned (.bool false)) w20)))) :
    Calls prg 4 #[.slice l nl cl, .slice secret nsecret csecret, .string path, .string header, .string token] w R :=
  calls_mk (.node .nil (.node .nil (.cut [] [10, 22, 23, 24, 25, 26, 27, 28, 29, 30, 31, 32, 33, 34] .nil (.node .nil (.node .nil (.node .nil (.node .nil (.node .nil (.cut [] [10, 65, 66, 67, 68, 69, 70, 71, 72, 73, 74, 75, 76] .nil (.cut [] [10, 77, 78, 79, 80, 81, 82, 83, 84, 85, 86, 87, 88, 89] .nil .nil)))))))))) [.slice l nl cl, .slice secret nsecret csecret, .string path, .string header, .string token] w R tabOk (fokOk []) Tryz.func4 (by kernel_rfl) _ (by kernel_rfl) hyp

/-- signet/signetlaw19.GateOrder -/
theorem f5_wp (l : Option Addr) (nl : Nat) (cl : Nat) (secret : Option Addr) (nsecret : Nat) (csecret : Nat) (q_Path : ByteArray) (q_Header : ByteArray) (q_Body : ByteArray) (q_User : ByteArray) (form : Option Addr) (nform : Nat) (cform : Nat) (order : Option Addr) (norder : Nat) (corder : Nat) (more : ByteArray) (w : World) (R : Ending → World → Prop) (hyp :
 ∀ (b_ : Nat) (w1 : World), b_ = w.heap.size → w1 = w.alloc (.cells #[.string q_Path, .string q_Header, .string q_Body, .string q_User] 25) →
 Calls prg 7 #[.slice l nl cl] w1 fun e w2 => ∃ (l1 : Option Addr) (nl1 cl1 : Nat), e = .returned (.slice l1 nl1 cl1) ∧
 ∃ (Cut1 : World → Prop), (
 Calls prg 8 #[] w2 fun e w3 => ∃ (r : Bool), e = .returned (.bool r) ∧
 cond (!r) (
 Calls prg 8 #[] w3 fun e w4 => ∃ (r1 : Bool), e = .returned (.bool r1) ∧
 R (.returned (.bool r1)) w4) (
 Calls prg 9 #[.slice l1 nl1 cl1] w3 fun e w5 => ∃ (r2 : Bool), e = .returned (.bool r2) ∧
 cond (!r2) (
 Calls prg 8 #[] w5 fun e w6 => ∃ (r3 : Bool), e = .returned (.bool r3) ∧
 R (.returned (.bool r3)) w6) (
 cond (decide ((nform : Int) > (20 : Int))) (
 Calls prg 8 #[] w5 fun e w7 => ∃ (r4 : Bool), e = .returned (.bool r4) ∧
 R (.returned (.bool r4)) w7) (
 cond (decide ((more.size : Int) > (100 : Int))) (
 Calls prg 8 #[] w5 fun e w8 => ∃ (r5 : Bool), e = .returned (.bool r5) ∧
 R (.returned (.bool r5)) w8) (
 Cut1 w5))))) ∧
 ∀ (fr : Nat → Value) (w9 : World), Cut1 w9 →
 ∀ (b_1 : Nat) (w10 : World), b_1 = w9.heap.size → w10 = w9.alloc (.map #[] 0) →
 ∃ w11, (Instr.mapUpdate 53 (.map (some b_1)) (.string ⟨#[99, 108, 105, 101, 110, 116, 95, 105, 100]⟩) (.bool true)).run prg w10 = .ok () w11 ∧
 ∃ w12, (Instr.mapUpdate 53 (.map (some b_1)) (.string ⟨#[99, 108, 105, 101, 110, 116, 95, 115, 101, 99, 114, 101, 116]⟩) (.bool true)).run prg w11 = .ok () w12 ∧
 ∃ (x : ByteArray), w12.cell? ⟨b_, 0, none⟩ = some (.string x) ∧
 Calls prg 17 #[.string x] w12 fun e w13 => ∃ (own : Option Addr) (nown cown : Nat), e = .returned (.slice own nown cown) ∧
 ∃ (Inv1 : Int → World → Prop) (Mea1 : Int → World → Nat), Inv1 0 w13 ∧ ∀ (i : Int) (fr1 : Nat → Value) (w14 : World), 
 Inv1 i w14 →
 cond (decide (i < (nown : Int))) (
 0 ≤ i ∧ i < (nown : Int) ∧ nilW own fun bk of =>
 ∃ (x1 : ByteArray), w14.cell? ⟨bk, of + i.toNat * 1, none⟩ = some (.string x1) ∧
 ∃ w15, (Instr.mapUpdate 53 (.map (some b_1)) (.string x1) (.bool true)).run prg w14 = .ok () w15 ∧
 (Inv1 (IntKind.i64.wrap (i + (1 : Int))) w15 ∧ Mea1 (IntKind.i64.wrap (i + (1 : Int))) w15 < Mea1 i w14)) (
 ∃ (Inv2 : ByteArray → Int → World → Prop) (Mea2 : ByteArray → Int → World → Nat), Inv2 ⟨#[]⟩ 0 w14 ∧ ∀ (a : ByteArray) (i1 : Int) (fr2 : Nat → Value) (w16 : World), 
 Inv2 a i1 w16 →
 cond (decide (i1 < (nform : Int))) (
 ∃ (Drw1 : World → Prop), Drw1 w16.drew ∧
 0 ≤ i1 ∧ i1 < (nform : Int) ∧ nilW form fun bk1 of1 =>
 ∃ (x2 : ByteArray), (∀ w17 : World, Drw1 w17 → w17.cell? ⟨bk1, of1 + i1.toNat * 2, none⟩ = some (.string x2)) ∧
 0 ≤ i1 ∧ i1 < (nform : Int) ∧ nilW form fun bk2 of2 =>
 ∃ (x3 : ByteArray), (∀ w18 : World, Drw1 w18 → w18.cell? ⟨bk2, of2 + i1.toNat * 2 + 1, none⟩ = some (.string x3)) ∧
 cond (decide ((IntKind.i64.wrap ((x2.size : Int) + (x3.size : Int))) > (300 : Int))) (
 R (.returned (.bool true)) w16.drew) (
 ∃ (Drw2 : World → Prop), Drw2 w16.drew.drew ∧
 0 ≤ i1 ∧ i1 < (nform : Int) ∧ nilW form fun bk3 of3 =>
 ∃ (x4 : ByteArray), (∀ w19 : World, Drw2 w19 → w19.cell? ⟨bk3, of3 + i1.toNat * 2, none⟩ = some (.string x4)) ∧
 0 ≤ i1 ∧ i1 < (nform : Int) ∧ nilW form fun bk4 of4 =>
 ∃ (x5 : ByteArray), (∀ w20 : World, Drw2 w20 → w20.cell? ⟨bk4, of4 + i1.toNat * 2 + 1, none⟩ = some (.string x5)) ∧
 Calls prg 14 #[.string x4] w16.drew.drew fun e w21 => ∃ (r6 : ByteArray), e = .returned (.string r6) ∧
 Drw2 w21 ∧ a.size + r6.size ≤ 9223372036854775807 ∧ (a ++ r6).size + (⟨#[61]⟩ : ByteArray).size ≤ 9223372036854775807 ∧ Calls prg 14 #[.string x5] w21 fun e w22 => ∃ (r7 : ByteArray), e = .returned (.string r7) ∧
 Drw2 w22 ∧ ((a ++ r6) ++ (⟨#[61]⟩ : ByteArray)).size + r7.size ≤ 9223372036854775807 ∧ (((a ++ r6) ++ (⟨#[61]⟩ : ByteArray)) ++ r7).size + (⟨#[38]⟩ : ByteArray).size ≤ 9223372036854775807 ∧ ∃ (Inv3 : Int → World → Prop) (Mea3 : Int → World → Nat), Inv3 0 w22 ∧ ∀ (k : Int) (fr3 : Nat → Value) (w23 : World), 
 Inv3 k w23 →
 cond (decide (k < i1)) (
 ∃ (Drw3 : World → Prop), Drw3 w23.drew ∧
 0 ≤ k ∧ k < (nform : Int) ∧ nilW form fun bk5 of5 =>
 ∃ (x6 : ByteArray), (∀ w24 : World, Drw3 w24 → w24.cell? ⟨bk5, of5 + k.toNat * 2, none⟩ = some (.string x6)) ∧
 0 ≤ i1 ∧ i1 < (nform : Int) ∧ nilW form fun bk6 of6 =>
 ∃ (x7 : ByteArray), (∀ w25 : World, Drw3 w25 → w25.cell? ⟨bk6, of6 + i1.toNat * 2, none⟩ = some (.string x7)) ∧
 cond (decide (x6 = x7)) (
 R (.returned (.bool true)) w23.drew) (
 (Inv3 (IntKind.i64.wrap (k + (1 : Int))) w23.drew ∧ Mea3 (IntKind.i64.wrap (k + (1 : Int))) w23.drew < Mea3 k w23))) (
 (Inv2 ((((a ++ r6) ++ (⟨#[61]⟩ : ByteArray)) ++ r7) ++ (⟨#[38]⟩ : ByteArray)) (IntKind.i64.wrap (i1 + (1 : Int))) w23 ∧ Mea2 ((((a ++ r6) ++ (⟨#[61]⟩ : ByteArray)) ++ r7) ++ (⟨#[38]⟩ : ByteArray)) (IntKind.i64.wrap (i1 + (1 : Int))) w23 < Mea2 a i1 w16)))) (
 cond (decide ((a.size : Int) > (16000 : Int))) (
 R (.returned (.bool true)) w16) (
 ∀ (b_2 : Nat) (w26 : World), b_2 = w16.heap.size → w26 = w16.alloc (.cells #[] 56) →
 ∃ (turned : Option Addr) (nturned cturned : Nat) (w27 : World), (Builtin.append_ #[51, 51] 51 #[.slice (some ⟨b_2, 0, none⟩) 0 0, .slice form nform cform]).run prg w26 = .ok (.slice turned nturned cturned) w27 ∧
 ∃ (Cut2 : World → Prop), (
 ∃ (Inv4 : Int → World → Prop) (Mea4 : Int → World → Nat), Inv4 0 w27 ∧ ∀ (i2 : Int) (fr4 : Nat → Value) (w28 : World), 
 Inv4 i2 w28 →
 ∃ (Cut3 : World → Prop), (
 cond (decide (i2 < (norder : Int))) (
 cond (decide (i2 < (nturned : Int))) (
 Cut3 w28) (
 Cut2 w28)) (
 Cut2 w28)) ∧
 ∀ (fr5 : Nat → Value) (w29 : World), Cut3 w29 →
 0 ≤ i2 ∧ i2 < (norder : Int) ∧ nilW order fun bk7 of7 =>
 ∃ (x8 : Int), w29.cell? ⟨bk7, of7 + i2.toNat * 1, none⟩ = some (.int .i64 x8) ∧
 (IntKind.u64.wrap (nturned : Int)) ≠ 0 ∧ 0 ≤ i2 ∧ i2 < (nturned : Int) ∧ nilW turned fun bk8 of8 =>
 ∃ (Name Value : ByteArray), w29.rangeAt bk8 (of8 + i2.toNat * 2) [.string Name, .string Value] ∧
 ∀ (b_3 : Nat) (w30 : World), b_3 = w29.heap.size → w30 = w29.alloc (.cells #[.string ⟨#[]⟩, .string ⟨#[]⟩] 56) →
 Sto w30 b_3 0 [.string Name, .string Value] ∧ ∀ w31, w31 = w30.setCells b_3 0 [.string Name, .string Value] →
 0 ≤ (IntKind.i64.wrap (Int.tmod (IntKind.u64.wrap x8) (IntKind.u64.wrap (nturned : Int)))) ∧ (IntKind.i64.wrap (Int.tmod (IntKind.u64.wrap x8) (IntKind.u64.wrap (nturned : Int)))) < (nturned : Int) ∧ nilW turned fun bk9 of9 =>
 ∃ (Name1 Value1 : ByteArray), w31.rangeAt bk9 (of9 + (IntKind.i64.wrap (Int.tmod (IntKind.u64.wrap x8) (IntKind.u64.wrap (nturned : Int)))).toNat * 2) [.string Name1, .string Value1] ∧
 0 ≤ i2 ∧ i2 < (nturned : Int) ∧ nilW turned fun bk10 of10 =>
 Sto w31 bk10 (of10 + i2.toNat * 2) [.string Name1, .string Value1] ∧ ∀ w32, w32 = w31.setCells bk10 (of10 + i2.toNat * 2) [.string Name1, .string Value1] →
 ∃ (Name2 Value2 : ByteArray), w32.rangeAt b_3 0 [.string Name2, .string Value2] ∧
 0 ≤ (IntKind.i64.wrap (Int.tmod (IntKind.u64.wrap x8) (IntKind.u64.wrap (nturned : Int)))) ∧ (IntKind.i64.wrap (Int.tmod (IntKind.u64.wrap x8) (IntKind.u64.wrap (nturned : Int)))) < (nturned : Int) ∧ nilW turned fun bk11 of11 =>
 Sto w32 bk11 (of11 + (IntKind.i64.wrap (Int.tmod (IntKind.u64.wrap x8) (IntKind.u64.wrap (nturned : Int)))).toNat * 2) [.string Name2, .string Value2] ∧ ∀ w33, w33 = w32.setCells bk11 (of11 + (IntKind.i64.wrap (Int.tmod (IntKind.u64.wrap x8) (IntKind.u64.wrap (nturned : Int)))).toNat * 2) [.string Name2, .string Value2] →
 (Inv4 (IntKind.i64.wrap (i2 + (1 : Int))) w33 ∧ Mea4 (IntKind.i64.wrap (i2 + (1 : Int))) w33 < Mea4 i2 w28)) ∧
 ∀ (fr6 : Nat → Value) (w34 : World), Cut2 w34 →
 ∃ (Cut4 : ByteArray → World → Prop), (
 ∃ (v : Bool), (Instr.lookup 53 (.map (some b_1)) (.string more) false).run prg w34 = .ok (.bool v) w34 ∧
 cond (!v) (
 Calls prg 14 #[.string more] w34 fun e w35 => ∃ (r8 : ByteArray), e = .returned (.string r8) ∧
 r8.size + (⟨#[61, 49, 38]⟩ : ByteArray).size ≤ 9223372036854775807 ∧ Cut4 (r8 ++ (⟨#[61, 49, 38]⟩ : ByteArray)) w35) (
 Cut4 ⟨#[]⟩ w34)) ∧
 ∀ (b_4 : ByteArray) (fr7 : Nat → Value) (w36 : World), Cut4 b_4 w36 →
 ∃ (Inv5 : ByteArray → Int → World → Prop) (Mea5 : ByteArray → Int → World → Nat), Inv5 b_4 0 w36 ∧ ∀ (b_5 : ByteArray) (i3 : Int) (fr8 : Nat → Value) (w37 : World), 
 Inv5 b_5 i3 w37 →
 cond (decide (i3 < (nturned : Int))) (
 ∃ (Drw4 : World → Prop), Drw4 w37.drew ∧
 0 ≤ i3 ∧ i3 < (nturned : Int) ∧ nilW turned fun bk12 of12 =>
 ∃ (x9 : ByteArray), (∀ w38 : World, Drw4 w38 → w38.cell? ⟨bk12, of12 + i3.toNat * 2, none⟩ = some (.string x9)) ∧
 0 ≤ i3 ∧ i3 < (nturned : Int) ∧ nilW turned fun bk13 of13 =>
 ∃ (x10 : ByteArray), (∀ w39 : World, Drw4 w39 → w39.cell? ⟨bk13, of13 + i3.toNat * 2 + 1, none⟩ = some (.string x10)) ∧
 Calls prg 14 #[.string x9] w37.drew fun e w40 => ∃ (r9 : ByteArray), e = .returned (.string r9) ∧
 Drw4 w40 ∧ b_5.size + r9.size ≤ 9223372036854775807 ∧ (b_5 ++ r9).size + (⟨#[61]⟩ : ByteArray).size ≤ 9223372036854775807 ∧ Calls prg 14 #[.string x10] w40 fun e w41 => ∃ (r10 : ByteArray), e = .returned (.string r10) ∧
 Drw4 w41 ∧ ((b_5 ++ r9) ++ (⟨#[61]⟩ : ByteArray)).size + r10.size ≤ 9223372036854775807 ∧ (((b_5 ++ r9) ++ (⟨#[61]⟩ : ByteArray)) ++ r10).size + (⟨#[38]⟩ : ByteArray).size ≤ 9223372036854775807 ∧ (Inv5 ((((b_5 ++ r9) ++ (⟨#[61]⟩ : ByteArray)) ++ r10) ++ (⟨#[38]⟩ : ByteArray)) (IntKind.i64.wrap (i3 + (1 : Int))) w41 ∧ Mea5 ((((b_5 ++ r9) ++ (⟨#[61]⟩ : ByteArray)) ++ r10) ++ (⟨#[38]⟩ : ByteArray)) (IntKind.i64.wrap (i3 + (1 : Int))) w41 < Mea5 b_5 i3 w37)) (
 Calls prg 10 #[.slice l1 nl1 cl1] w37 fun e w42 => ∃ (r11 : Option Addr), ∃ (r12 : Int), e = .returned (.tuple #[.pointer r11, .int .i64 r12]) ∧
 Sto w42 b_ 2 [.string a] ∧ ∀ w43, w43 = w42.setCells b_ 2 [.string a] →
 ∃ (Path Header Body User : ByteArray), w43.rangeAt b_ 0 [.string Path, .string Header, .string Body, .string User] ∧
 Calls prg 11 #[.pointer r11, .slice secret nsecret csecret, .string ⟨#[102]⟩, .int .i64 0, .agg #[.string Path, .string Header, .string Body, .string User]] w43 fun e w44 => ∃ (r13 : Int) (r14 : ByteArray) (r15 r16 : Int) (r17 r18 : ByteArray) (r19 : Option Addr) (nr cr : Nat) (r20 r21 r22 r23 : ByteArray) (r24 : Bool) (r25 : Int), ∃ (r26 : Int), e = .returned (.tuple #[.agg #[.int .i64 r13, .string r14, .int .i64 r15, .int .i64 r16, .string r17, .string r18, .slice r19 nr cr, .string r20, .string r21, .string r22, .string r23, .bool r24, .int .i64 r25], .int .i64 r26]) ∧
 ∀ (b_6 : Nat) (w45 : World), b_6 = w44.heap.size → w45 = w44.alloc (.cells #[.int .i64 0, .string ⟨#[]⟩, .int .i64 0, .int .i64 0, .string ⟨#[]⟩, .string ⟨#[]⟩, .slice none 0 0, .string ⟨#[]⟩, .string ⟨#[]⟩, .string ⟨#[]⟩, .string ⟨#[]⟩, .bool false, .int .i64 0] 35) →
 Sto w45 b_6 0 [.int .i64 r13, .string r14, .int .i64 r15, .int .i64 r16, .string r17, .string r18, .slice r19 nr cr, .string r20, .string r21, .string r22, .string r23, .bool r24, .int .i64 r25] ∧ ∀ w46, w46 = w45.setCells b_6 0 [.int .i64 r13, .string r14, .int .i64 r15, .int .i64 r16, .string r17, .string r18, .slice r19 nr cr, .string r20, .string r21, .string r22, .string r23, .bool r24, .int .i64 r25] →
 Sto w46 b_ 2 [.string b_5] ∧ ∀ w47, w47 = w46.setCells b_ 2 [.string b_5] →
 ∃ (Path1 Header1 Body1 User1 : ByteArray), w47.rangeAt b_ 0 [.string Path1, .string Header1, .string Body1, .string User1] ∧
 Calls prg 11 #[.pointer r11, .slice secret nsecret csecret, .string ⟨#[102]⟩, .int .i64 0, .agg #[.string Path1, .string Header1, .string Body1, .string User1]] w47 fun e w48 => ∃ (r27 : Int) (r28 : ByteArray) (r29 r30 : Int) (r31 r32 : ByteArray) (r33 : Option Addr) (nr1 cr1 : Nat) (r34 r35 r36 r37 : ByteArray) (r38 : Bool) (r39 : Int), ∃ (r40 : Int), e = .returned (.tuple #[.agg #[.int .i64 r27, .string r28, .int .i64 r29, .int .i64 r30, .string r31, .string r32, .slice r33 nr1 cr1, .string r34, .string r35, .string r36, .string r37, .bool r38, .int .i64 r39], .int .i64 r40]) ∧
 ∀ (b_7 : Nat) (w49 : World), b_7 = w48.heap.size → w49 = w48.alloc (.cells #[.int .i64 0, .string ⟨#[]⟩, .int .i64 0, .int .i64 0, .string ⟨#[]⟩, .string ⟨#[]⟩, .slice none 0 0, .string ⟨#[]⟩, .string ⟨#[]⟩, .string ⟨#[]⟩, .string ⟨#[]⟩, .bool false, .int .i64 0] 35) →
 Sto w49 b_7 0 [.int .i64 r27, .string r28, .int .i64 r29, .int .i64 r30, .string r31, .string r32, .slice r33 nr1 cr1, .string r34, .string r35, .string r36, .string r37, .bool r38, .int .i64 r39] ∧ ∀ w50, w50 = w49.setCells b_7 0 [.int .i64 r27, .string r28, .int .i64 r29, .int .i64 r30, .string r31, .string r32, .slice r33 nr1 cr1, .string r34, .string r35, .string r36, .string r37, .bool r38, .int .i64 r39] →
 cond (decide (r26 = r40)) (
 ∃ (Kind : Int) (Family : ByteArray) (Serial Token : Int) (Client User2 : ByteArray) (Scope : Option Addr) (nScope cScope : Nat) (Redirect Challenge Method Verifier : ByteArray) (Refresh : Bool) (Edge : Int), w50.rangeAt b_6 0 [.int .i64 Kind, .string Family, .int .i64 Serial, .int .i64 Token, .string Client, .string User2, .slice Scope nScope cScope, .string Redirect, .string Challenge, .string Method, .string Verifier, .bool Refresh, .int .i64 Edge] ∧
 ∃ (Kind1 : Int) (Family1 : ByteArray) (Serial1 Token1 : Int) (Client1 User3 : ByteArray) (Scope1 : Option Addr) (nScope1 cScope1 : Nat) (Redirect1 Challenge1 Method1 Verifier1 : ByteArray) (Refresh1 : Bool) (Edge1 : Int), w50.rangeAt b_7 0 [.int .i64 Kind1, .string Family1, .int .i64 Serial1, .int .i64 Token1, .string Client1, .string User3, .slice Scope1 nScope1 cScope1, .string Redirect1, .string Challenge1, .string Method1, .string Verifier1, .bool Refresh1, .int .i64 Edge1] ∧
 Calls prg 13 #[.agg #[.int .i64 Kind, .string Family, .int .i64 Serial, .int .i64 Token, .string Client, .string User2, .slice Scope nScope cScope, .string Redirect, .string Challenge, .string Method, .string Verifier, .bool Refresh, .int .i64 Edge], .agg #[.int .i64 Kind1, .string Family1, .int .i64 Serial1, .int .i64 Token1, .string Client1, .string User3, .slice Scope1 nScope1 cScope1, .string Redirect1, .string Challenge1, .string Method1, .string Verifier1, .bool Refresh1, .int .i64 Edge1]] w50 fun e w51 => ∃ (r41 : Bool), e = .returned (.bool r41) ∧
 R (.returned (.bool r41)) w51) (
 R (.returned (.bool false)) w50)))))) :
    Calls prg 5 #[.slice l nl cl, .slice secret nsecret csecret, .agg #[.string q_Path, .string q_Header, .string q_Body, .string q_User], .slice form nform cform, .slice order norder corder, .string more] w R :=
  calls_mk (.node .nil (.node .nil (.cut [] [12, 33, 34, 35, 36, 37, 38, 39, 40, 41, 42, 43, 44, 45, 46, 47, 48, 49, 50] .nil (.node .nil (.node (.node .nil (.loop [(14, .int .i64)] [56, 57, 58, 59, 60, 61, 62, 63, 64, 65, 66] .nil)) (.node .nil (.node (.node .nil (.loop [(16, .str), (17, .int .i64)] [12, 18, 67, 68, 69, 70, 71, 72, 73, 74, 75, 76, 77, 78, 79, 80, 81, 82, 83, 84, 85, 86, 87, 88, 89, 90, 91, 92, 93, 94, 95, 96, 97, 98, 99, 100, 101, 102, 103, 104, 105, 106, 107, 108, 109, 110, 111, 112, 113, 114, 115, 116, 117, 118, 119] (.node .nil (.node (.node (.node (.draw (.op 0 (.op 1 (.op 2 (.op 3 (.op 4 (.op 5 (.op 6 (.op 7 (.op 8 (.op 9 (.op 10 (.op 11 (.op 12 (.op 13 .done))))))))))))))) .nil) (.node (.draw (.op 0 (.op 1 (.op 2 (.op 3 (.op 4 (.op 5 (.op 9 (.op 10 (.op 11 (.op 12 (.op 13 (.op 6 (.op 7 (.op 8 (.op 14 (.op 15 (.op 16 (.op 17 .done))))))))))))))))))) (.node .nil (.loop [(18, .int .i64)] [12, 104, 105, 106, 107, 108, 109, 110, 111, 112, 113, 114, 115, 116, 117, 118, 119] (.node .nil (.node (.node (.draw (.op 0 (.op 1 (.op 2 (.op 3 (.op 4 (.op 5 (.op 6 (.op 7 (.op 8 (.op 9 (.op 10 .done)))))))))))) .nil) .nil)))))) .nil)))) (.node .nil (.node .nil (.cut [] [20, 21, 22, 126, 127, 128, 129, 130, 131, 132, 133, 134, 135, 136, 137, 138, 139, 140, 141, 142, 143, 144, 145, 146, 147, 148, 149, 150, 151, 152, 153, 154, 155, 156, 157, 158, 159, 160, 161, 162] (.node .nil (.loop [(20, .int .i64)] [21, 22, 126, 127, 128, 129, 130, 131, 132, 133, 134, 135, 136, 137, 138, 139, 140, 141, 142, 143, 144, 145, 146, 147, 148, 149, 150, 151, 152, 153, 154, 155, 156, 157, 158, 159, 160, 161, 162] (.cut [] [126, 127, 128, 129, 130, 131, 132, 133, 134, 135] .nil .nil))) (.node .nil (.cut [(23, .str)] [163, 164, 165, 166, 167, 168, 169] .nil (.node (.node .nil (.loop [(23, .str), (24, .int .i64)] [170, 171, 172, 173, 174, 175, 176, 177, 178, 179, 180, 181, 182, 183, 184, 185, 186, 187, 188, 189, 190, 191, 192] (.node .nil (.node (.draw (.op 0 (.op 1 (.op 2 (.op 3 (.op 4 (.op 5 (.op 9 (.op 10 (.op 11 (.op 12 (.op 13 (.op 6 (.op 7 (.op 8 (.op 14 (.op 15 (.op 16 (.op 17 .done))))))))))))))))))) .nil)))) .nil))))))))))))) [.slice l nl cl, .slice secret nsecret csecret, .agg #[.string q_Path, .string q_Header, .string q_Body, .string q_User], .slice form nform cform, .slice order norder corder, .string more] w R tabOk (fokOk []) Tryz.func5 (by kernel_rfl) _ (by kernel_rfl) hyp

/-- signet/signetlaw19.GateRefuses -/
theorem f6_wp (path : ByteArray) (w : World) (R : Ending → World → Prop) (hyp :
 Calls prg 18 #[.string path] w fun e w1 => ∃ (a : Option Addr) (na ca : Nat), e = .returned (.slice a na ca) ∧
 Calls prg 19 #[.string path] w1 fun e w2 => ∃ (b_ : Option Addr) (nb cb : Nat), e = .returned (.slice b_ nb cb) ∧
 ∃ (Cut1 : World → Prop), (
 Calls prg 8 #[] w2 fun e w3 => ∃ (r : Bool), e = .returned (.bool r) ∧
 cond (!r) (
 R (.returned (.bool false)) w3) (
 cond (decide ((na : Int) ≠ (nb : Int))) (
 R (.returned (.bool false)) w3) (
 Cut1 w3))) ∧
 ∀ (fr : Nat → Value) (w4 : World), Cut1 w4 →
 ∃ (Inv1 : Int → World → Prop) (Mea1 : Int → World → Nat), Inv1 0 w4 ∧ ∀ (i : Int) (fr1 : Nat → Value) (w5 : World), 
 Inv1 i w5 →
 cond (decide (i < (na : Int))) (
 ∃ (Drw1 : World → Prop), Drw1 w5.drew ∧
 0 ≤ i ∧ i < (na : Int) ∧ nilW a fun bk of =>
 ∃ (x : Int), (∀ w6 : World, Drw1 w6 → w6.cell? ⟨bk, of + i.toNat * 1, none⟩ = some (.int .i64 x)) ∧
 0 ≤ i ∧ i < (nb : Int) ∧ nilW b_ fun bk1 of1 =>
 ∃ (x1 : Int), (∀ w7 : World, Drw1 w7 → w7.cell? ⟨bk1, of1 + i.toNat * 1, none⟩ = some (.int .i64 x1)) ∧
 cond (decide (x ≠ x1)) (
 R (.returned (.bool false)) w5.drew) (
 (Inv1 (IntKind.i64.wrap (i + (1 : Int))) w5.drew ∧ Mea1 (IntKind.i64.wrap (i + (1 : Int))) w5.drew < Mea1 i w5))) (
 R (.returned (.bool true)) w5)) :
    Calls prg 6 #[.string path] w R :=
  calls_mk (.node .nil (.node .nil (.cut [] [2, 10, 11, 12, 13, 14, 15, 16, 17, 18] .nil (.node (.node .nil (.loop [(5, .int .i64)] [2, 19, 20, 21, 22, 23, 24, 25, 26, 27, 28, 29, 30, 31, 32, 33] (.node .nil (.node (.node (.draw (.op 0 (.op 1 (.op 2 (.op 3 (.op 4 (.op 5 (.op 6 (.op 7 (.op 8 .done)))))))))) .nil) .nil)))) .nil)))) [.string path] w R tabOk (fokOk []) Tryz.func6 (by kernel_rfl) _ (by kernel_rfl) hyp

/-- signet/signetlaw19.few -/
theorem f7_wp (l : Option Addr) (nl : Nat) (cl : Nat) (w : World) (R : Ending → World → Prop) (hyp :
 cond (decide ((nl : Int) > (20 : Int))) (
 0 ≤ (20 : Int) ∧ 0 ≤ 20 ∧ 20 ≤ cl ∧ ∀ q : Option Addr, (0 < 0 → 0 < cl → q = shiftP l (0 * 6)) → (0 = 0 → q = l) →
 R (.returned (.slice q 20 cl)) w) (
 R (.returned (.slice l nl cl)) w)) :
    Calls prg 7 #[.slice l nl cl] w R :=
  calls_mk .nil [.slice l nl cl] w R tabOk (fokOk []) Tryz.func7 (by kernel_rfl) _ (by kernel_rfl) hyp

/-- signet/signetlaw19.known -/
theorem f8_wp  (w : World) (R : Ending → World → Prop) (hyp :
 ∀ (b_ : Nat) (w1 : World), b_ = w.heap.size → w1 = w.alloc (.cells #[.string ⟨#[99, 108, 105, 101, 110, 116, 95, 99, 114, 101, 100, 101, 110, 116, 105, 97, 108, 115]⟩] 9) →
 ∀ (b_1 : Nat) (w2 : World), b_1 = w1.heap.size → w2 = w1.alloc (.cells #[.string ⟨#[97]⟩, .string ⟨#[115]⟩, .bool false, .slice none 0 0, .slice none 0 0, .slice (some ⟨b_, 0, none⟩) 1 1] 64) →
 Calls prg 10 #[.slice (some ⟨b_1, 0, none⟩) 1 1] w2 fun e w3 => ∃ (r : Option Addr), ∃ (r1 : Int), e = .returned (.tuple #[.pointer r, .int .i64 r1]) ∧
 Calls prg 20 #[.string ⟨#[97]⟩, .string ⟨#[115]⟩] w3 fun e w4 => ∃ (h : ByteArray), e = .returned (.string h) ∧
 Calls prg 11 #[.pointer r, .slice none 0 0, .string ⟨#[102]⟩, .int .i64 0, .agg #[.string ⟨#[47, 114, 101, 118, 111, 107, 101]⟩, .string h, .string ⟨#[116, 111, 107, 101, 110, 61, 120]⟩, .string ⟨#[]⟩]] w4 fun e w5 => ∃ (r2 : Int) (r3 : ByteArray) (r4 r5 : Int) (r6 r7 : ByteArray) (r8 : Option Addr) (nr cr : Nat) (r9 r10 r11 r12 : ByteArray) (r13 : Bool) (r14 : Int), ∃ (r15 : Int), e = .returned (.tuple #[.agg #[.int .i64 r2, .string r3, .int .i64 r4, .int .i64 r5, .string r6, .string r7, .slice r8 nr cr, .string r9, .string r10, .string r11, .string r12, .bool r13, .int .i64 r14], .int .i64 r15]) ∧
 ∀ (b_2 : Nat) (w6 : World), b_2 = w5.heap.size → w6 = w5.alloc (.cells #[.int .i64 0, .string ⟨#[]⟩, .int .i64 0, .int .i64 0, .string ⟨#[]⟩, .string ⟨#[]⟩, .slice none 0 0, .string ⟨#[]⟩, .string ⟨#[]⟩, .string ⟨#[]⟩, .string ⟨#[]⟩, .bool false, .int .i64 0] 35) →
 Sto w6 b_2 0 [.int .i64 r2, .string r3, .int .i64 r4, .int .i64 r5, .string r6, .string r7, .slice r8 nr cr, .string r9, .string r10, .string r11, .string r12, .bool r13, .int .i64 r14] ∧ ∀ w7, w7 = w6.setCells b_2 0 [.int .i64 r2, .string r3, .int .i64 r4, .int .i64 r5, .string r6, .string r7, .slice r8 nr cr, .string r9, .string r10, .string r11, .string r12, .bool r13, .int .i64 r14] →
 Calls prg 11 #[.pointer r, .slice none 0 0, .string ⟨#[102]⟩, .int .i64 0, .agg #[.string ⟨#[47, 114, 101, 118, 111, 107, 101]⟩, .string h, .string ⟨#[]⟩, .string ⟨#[]⟩]] w7 fun e w8 => ∃ (r16 : Int) (r17 : ByteArray) (r18 r19 : Int) (r20 r21 : ByteArray) (r22 : Option Addr) (nr1 cr1 : Nat) (r23 r24 r25 r26 : ByteArray) (r27 : Bool) (r28 : Int), ∃ (r29 : Int), e = .returned (.tuple #[.agg #[.int .i64 r16, .string r17, .int .i64 r18, .int .i64 r19, .string r20, .string r21, .slice r22 nr1 cr1, .string r23, .string r24, .string r25, .string r26, .bool r27, .int .i64 r28], .int .i64 r29]) ∧
 ∀ (b_3 : Nat) (w9 : World), b_3 = w8.heap.size → w9 = w8.alloc (.cells #[.int .i64 0, .string ⟨#[]⟩, .int .i64 0, .int .i64 0, .string ⟨#[]⟩, .string ⟨#[]⟩, .slice none 0 0, .string ⟨#[]⟩, .string ⟨#[]⟩, .string ⟨#[]⟩, .string ⟨#[]⟩, .bool false, .int .i64 0] 35) →
 Sto w9 b_3 0 [.int .i64 r16, .string r17, .int .i64 r18, .int .i64 r19, .string r20, .string r21, .slice r22 nr1 cr1, .string r23, .string r24, .string r25, .string r26, .bool r27, .int .i64 r28] ∧ ∀ w10, w10 = w9.setCells b_3 0 [.int .i64 r16, .string r17, .int .i64 r18, .int .i64 r19, .string r20, .string r21, .slice r22 nr1 cr1, .string r23, .string r24, .string r25, .string r26, .bool r27, .int .i64 r28] →
 Calls prg 11 #[.pointer r, .slice none 0 0, .string ⟨#[102]⟩, .int .i64 0, .agg #[.string ⟨#[47, 114, 101, 118, 111, 107, 101]⟩, .string ⟨#[]⟩, .string ⟨#[116, 111, 107, 101, 110, 61, 120]⟩, .string ⟨#[]⟩]] w10 fun e w11 => ∃ (r30 : Int) (r31 : ByteArray) (r32 r33 : Int) (r34 r35 : ByteArray) (r36 : Option Addr) (nr2 cr2 : Nat) (r37 r38 r39 r40 : ByteArray) (r41 : Bool) (r42 : Int), ∃ (r43 : Int), e = .returned (.tuple #[.agg #[.int .i64 r30, .string r31, .int .i64 r32, .int .i64 r33, .string r34, .string r35, .slice r36 nr2 cr2, .string r37, .string r38, .string r39, .string r40, .bool r41, .int .i64 r42], .int .i64 r43]) ∧
 ∀ (b_4 : Nat) (w12 : World), b_4 = w11.heap.size → w12 = w11.alloc (.cells #[.int .i64 0, .string ⟨#[]⟩, .int .i64 0, .int .i64 0, .string ⟨#[]⟩, .string ⟨#[]⟩, .slice none 0 0, .string ⟨#[]⟩, .string ⟨#[]⟩, .string ⟨#[]⟩, .string ⟨#[]⟩, .bool false, .int .i64 0] 35) →
 Sto w12 b_4 0 [.int .i64 r30, .string r31, .int .i64 r32, .int .i64 r33, .string r34, .string r35, .slice r36 nr2 cr2, .string r37, .string r38, .string r39, .string r40, .bool r41, .int .i64 r42] ∧ ∀ w13, w13 = w12.setCells b_4 0 [.int .i64 r30, .string r31, .int .i64 r32, .int .i64 r33, .string r34, .string r35, .slice r36 nr2 cr2, .string r37, .string r38, .string r39, .string r40, .bool r41, .int .i64 r42] →
 Calls prg 11 #[.pointer r, .slice none 0 0, .string ⟨#[102]⟩, .int .i64 0, .agg #[.string ⟨#[47, 116, 111, 107, 101, 110]⟩, .string h, .string ⟨#[103, 114, 97, 110, 116, 95, 116, 121, 112, 101, 61, 112, 97, 115, 115, 119, 111, 114, 100]⟩, .string ⟨#[]⟩]] w13 fun e w14 => ∃ (r44 : Int) (r45 : ByteArray) (r46 r47 : Int) (r48 r49 : ByteArray) (r50 : Option Addr) (nr3 cr3 : Nat) (r51 r52 r53 r54 : ByteArray) (r55 : Bool) (r56 : Int), ∃ (r57 : Int), e = .returned (.tuple #[.agg #[.int .i64 r44, .string r45, .int .i64 r46, .int .i64 r47, .string r48, .string r49, .slice r50 nr3 cr3, .string r51, .string r52, .string r53, .string r54, .bool r55, .int .i64 r56], .int .i64 r57]) ∧
 ∀ (b_5 : Nat) (w15 : World), b_5 = w14.heap.size → w15 = w14.alloc (.cells #[.int .i64 0, .string ⟨#[]⟩, .int .i64 0, .int .i64 0, .string ⟨#[]⟩, .string ⟨#[]⟩, .slice none 0 0, .string ⟨#[]⟩, .string ⟨#[]⟩, .string ⟨#[]⟩, .string ⟨#[]⟩, .bool false, .int .i64 0] 35) →
 Sto w15 b_5 0 [.int .i64 r44, .string r45, .int .i64 r46, .int .i64 r47, .string r48, .string r49, .slice r50 nr3 cr3, .string r51, .string r52, .string r53, .string r54, .bool r55, .int .i64 r56] ∧ ∀ w16, w16 = w15.setCells b_5 0 [.int .i64 r44, .string r45, .int .i64 r46, .int .i64 r47, .string r48, .string r49, .slice r50 nr3 cr3, .string r51, .string r52, .string r53, .string r54, .bool r55, .int .i64 r56] →
 Calls prg 11 #[.pointer r, .slice none 0 0, .string ⟨#[102]⟩, .int .i64 0, .agg #[.string ⟨#[47, 116, 111, 107, 101, 110]⟩, .string h, .string ⟨#[103, 114, 97, 110, 116, 95, 116, 121, 112, 101, 61, 99, 108, 105, 101, 110, 116, 95, 99, 114, 101, 100, 101, 110, 116, 105, 97, 108, 115]⟩, .string ⟨#[]⟩]] w16 fun e w17 => ∃ (r58 : Int) (r59 : ByteArray) (r60 r61 : Int) (r62 r63 : ByteArray) (r64 : Option Addr) (nr4 cr4 : Nat) (r65 r66 r67 r68 : ByteArray) (r69 : Bool) (r70 : Int), ∃ (r71 : Int), e = .returned (.tuple #[.agg #[.int .i64 r58, .string r59, .int .i64 r60, .int .i64 r61, .string r62, .string r63, .slice r64 nr4 cr4, .string r65, .string r66, .string r67, .string r68, .bool r69, .int .i64 r70], .int .i64 r71]) ∧
 ∀ (b_6 : Nat) (w18 : World), b_6 = w17.heap.size → w18 = w17.alloc (.cells #[.int .i64 0, .string ⟨#[]⟩, .int .i64 0, .int .i64 0, .string ⟨#[]⟩, .string ⟨#[]⟩, .slice none 0 0, .string ⟨#[]⟩, .string ⟨#[]⟩, .string ⟨#[]⟩, .string ⟨#[]⟩, .bool false, .int .i64 0] 35) →
 Sto w18 b_6 0 [.int .i64 r58, .string r59, .int .i64 r60, .int .i64 r61, .string r62, .string r63, .slice r64 nr4 cr4, .string r65, .string r66, .string r67, .string r68, .bool r69, .int .i64 r70] ∧ ∀ w19, w19 = w18.setCells b_6 0 [.int .i64 r58, .string r59, .int .i64 r60, .int .i64 r61, .string r62, .string r63, .slice r64 nr4 cr4, .string r65, .string r66, .string r67, .string r68, .bool r69, .int .i64 r70] →
 ∃ (x : Int), w19.cell? ⟨b_2, 0, none⟩ = some (.int .i64 x) ∧
 cond (decide (x = (0 : Int))) (
 cond (decide (r15 = (0 : Int))) (
 cond (decide (r29 = (1 : Int))) (
 cond (decide (r43 = (2 : Int))) (
 cond (decide (r57 = (5 : Int))) (
 ∃ (x1 : Int), w19.cell? ⟨b_6, 0, none⟩ = some (.int .i64 x1) ∧
 cond (decide (x1 = (4 : Int))) (
 ∃ (x2 : ByteArray), w19.cell? ⟨b_6, 1, none⟩ = some (.string x2) ∧
 cond (decide (x2 = ⟨#[102]⟩)) (
 R (.returned (.bool (decide (r71 = (0 : Int))))) w19) (
 R (.returned (.bool false)) w19)) (
 R (.returned (.bool false)) w19)) (
 R (.returned (.bool false)) w19)) (
 R (.returned (.bool false)) w19)) (
 R (.returned (.bool false)) w19)) (
 R (.returned (.bool false)) w19)) (
 R (.returned (.bool false)) w19)) :
    Calls prg 8 #[] w R :=
  calls_mk .nil [] w R tabOk (fokOk []) Tryz.func8 (by kernel_rfl) _ (by kernel_rfl) hyp

/-- signet/signetref15.All -/
theorem f9_wp (l : Option Addr) (nl : Nat) (cl : Nat) (w : World) (R : Ending → World → Prop) (hyp :
 ∃ (Inv1 : Int → World → Prop) (Mea1 : Int → World → Nat), Inv1 0 w ∧ ∀ (i : Int) (fr : Nat → Value) (w1 : World), 
 Inv1 i w1 →
 cond (decide (i < (nl : Int))) (
 0 ≤ i ∧ i < (nl : Int) ∧ nilW l fun bk of =>
 ∃ (Id Secret : ByteArray) (Public : Bool) (Redirects : Option Addr) (nRedirects cRedirects : Nat) (Scopes : Option Addr) (nScopes cScopes : Nat) (Grants : Option Addr) (nGrants cGrants : Nat), w1.rangeAt bk (of + i.toNat * 6) [.string Id, .string Secret, .bool Public, .slice Redirects nRedirects cRedirects, .slice Scopes nScopes cScopes, .slice Grants nGrants cGrants] ∧
 Calls prg 21 #[.agg #[.string Id, .string Secret, .bool Public, .slice Redirects nRedirects cRedirects, .slice Scopes nScopes cScopes, .slice Grants nGrants cGrants]] w1 fun e w2 => ∃ (r : Bool), e = .returned (.bool r) ∧
 cond (!r) (
 R (.returned (.bool false)) w2) (
 ∃ (Inv2 : Int → World → Prop) (Mea2 : Int → World → Nat), Inv2 0 w2 ∧ ∀ (k : Int) (fr1 : Nat → Value) (w3 : World), 
 Inv2 k w3 →
 cond (decide (k < i)) (
 ∃ (Drw1 : World → Prop), Drw1 w3.drew ∧
 0 ≤ k ∧ k < (nl : Int) ∧ nilW l fun bk1 of1 =>
 ∃ (x : ByteArray), (∀ w4 : World, Drw1 w4 → w4.cell? ⟨bk1, of1 + k.toNat * 6, none⟩ = some (.string x)) ∧
 0 ≤ i ∧ i < (nl : Int) ∧ nilW l fun bk2 of2 =>
 ∃ (x1 : ByteArray), (∀ w5 : World, Drw1 w5 → w5.cell? ⟨bk2, of2 + i.toNat * 6, none⟩ = some (.string x1)) ∧
 cond (decide (x = x1)) (
 R (.returned (.bool false)) w3.drew) (
 (Inv2 (IntKind.i64.wrap (k + (1 : Int))) w3.drew ∧ Mea2 (IntKind.i64.wrap (k + (1 : Int))) w3.drew < Mea2 k w3))) (
 (Inv1 (IntKind.i64.wrap (i + (1 : Int))) w3 ∧ Mea1 (IntKind.i64.wrap (i + (1 : Int))) w3 < Mea1 i w1)))) (
 R (.returned (.bool (decide ((nl : Int) ≤ (64 : Int))))) w1)) :
    Calls prg 9 #[.slice l nl cl] w R :=
  calls_mk (.node .nil (.node (.node .nil (.loop [(3, .int .i64)] [2, 4, 5, 6, 7, 8, 9, 10, 11, 12, 13, 14, 15, 16, 17, 18, 19, 20, 21, 22, 23, 24, 25, 26, 27, 28, 29, 30, 31, 32] (.node .nil (.node (.node .nil (.node .nil (.loop [(4, .int .i64)] [2, 17, 18, 19, 20, 21, 22, 23, 24, 25, 26, 27, 28, 29, 30, 31, 32] (.node .nil (.node (.node (.draw (.op 0 (.op 1 (.op 2 (.op 3 (.op 4 (.op 5 (.op 6 (.op 7 (.op 8 (.op 9 (.op 10 .done)))))))))))) .nil) .nil))))) .nil)))) .nil)) [.slice l nl cl] w R tabOk (fokOk []) Tryz.func9 (by kernel_rfl) _ (by kernel_rfl) hyp

/-- signet/roll.New -/
theorem f10_wp (l : Option Addr) (nl : Nat) (cl : Nat) (w : World) (R : Ending → World → Prop) (hyp :
 cond (decide ((nl : Int) > (64 : Int))) (
 R (.returned (.tuple #[.pointer none, .int .i64 1])) w) (
 ∀ (b_ : Nat) (w1 : World), b_ = w.heap.size → w1 = w.alloc (.map #[] 0) →
 ∀ (b_1 : Nat) (w2 : World), b_1 = w1.heap.size → w2 = w1.alloc (.cells #[.map (some b_)] 69) →
 ∃ (Inv1 : Int → World → Prop) (Mea1 : Int → World → Nat), Inv1 0 w2 ∧ ∀ (t18 : Int) (fr : Nat → Value) (w3 : World), 
 Inv1 t18 w3 →
 cond (decide (t18 < (nl : Int))) (
 0 ≤ t18 ∧ t18 < (nl : Int) ∧ nilW l fun bk of =>
 ∃ (Id Secret : ByteArray) (Public : Bool) (Redirects : Option Addr) (nRedirects cRedirects : Nat) (Scopes : Option Addr) (nScopes cScopes : Nat) (Grants : Option Addr) (nGrants cGrants : Nat), w3.rangeAt bk (of + t18.toNat * 6) [.string Id, .string Secret, .bool Public, .slice Redirects nRedirects cRedirects, .slice Scopes nScopes cScopes, .slice Grants nGrants cGrants] ∧
 ∀ (b_2 : Nat) (w4 : World), b_2 = w3.heap.size → w4 = w3.alloc (.cells #[.string ⟨#[]⟩, .string ⟨#[]⟩, .bool false, .slice none 0 0, .slice none 0 0, .slice none 0 0] 64) →
 Sto w4 b_2 0 [.string Id, .string Secret, .bool Public, .slice Redirects nRedirects cRedirects, .slice Scopes nScopes cScopes, .slice Grants nGrants cGrants] ∧ ∀ w5, w5 = w4.setCells b_2 0 [.string Id, .string Secret, .bool Public, .slice Redirects nRedirects cRedirects, .slice Scopes nScopes cScopes, .slice Grants nGrants cGrants] →
 ∃ (Id1 Secret1 : ByteArray) (Public1 : Bool) (Redirects1 : Option Addr) (nRedirects1 cRedirects1 : Nat) (Scopes1 : Option Addr) (nScopes1 cScopes1 : Nat) (Grants1 : Option Addr) (nGrants1 cGrants1 : Nat), w5.rangeAt b_2 0 [.string Id1, .string Secret1, .bool Public1, .slice Redirects1 nRedirects1 cRedirects1, .slice Scopes1 nScopes1 cScopes1, .slice Grants1 nGrants1 cGrants1] ∧
 ∀ (b_3 : Nat) (w6 : World), b_3 = w5.heap.size → w6 = w5.alloc (.cells #[.string ⟨#[]⟩, .string ⟨#[]⟩, .bool false, .slice none 0 0, .slice none 0 0, .slice none 0 0] 71) →
 Sto w6 b_3 0 [.string Id1, .string Secret1, .bool Public1, .slice Redirects1 nRedirects1 cRedirects1, .slice Scopes1 nScopes1 cScopes1, .slice Grants1 nGrants1 cGrants1] ∧ ∀ w7, w7 = w6.setCells b_3 0 [.string Id1, .string Secret1, .bool Public1, .slice Redirects1 nRedirects1 cRedirects1, .slice Scopes1 nScopes1 cScopes1, .slice Grants1 nGrants1 cGrants1] →
 ∃ (Drw1 : World → Prop), Drw1 w7.drew ∧
 ∃ (x : Option Nat), (∀ w8 : World, Drw1 w8 → w8.cell? ⟨b_1, 0, none⟩ = some (.map x)) ∧
 ∃ (x1 : ByteArray), (∀ w9 : World, Drw1 w9 → w9.cell? ⟨b_3, 0, none⟩ = some (.string x1)) ∧
 ∃ (v v1 : ByteArray) (v2 : Bool) (v3 : Option Addr) (nv cv : Nat) (v4 : Option Addr) (nv1 cv1 : Nat) (v5 : Option Addr) (nv2 cv2 : Nat), ∃ (v6 : Bool), (∀ w10 : World, Drw1 w10 → (Instr.lookup 67 (.map x) (.string x1) true).run prg w10 = .ok (.tuple #[.agg #[.string v, .string v1, .bool v2, .slice v3 nv cv, .slice v4 nv1 cv1, .slice v5 nv2 cv2], .bool v6]) w10) ∧
 ∀ (b_4 : Nat) (w11 : World), b_4 = w7.drew.heap.size → w11 = w7.drew.alloc (.cells #[.string ⟨#[]⟩, .string ⟨#[]⟩, .bool false, .slice none 0 0, .slice none 0 0, .slice none 0 0] 71) →
 Drw1 w11 ∧ Sto w11 b_4 0 [.string v, .string v1, .bool v2, .slice v3 nv cv, .slice v4 nv1 cv1, .slice v5 nv2 cv2] ∧ ∀ w12, w12 = w11.setCells b_4 0 [.string v, .string v1, .bool v2, .slice v3 nv cv, .slice v4 nv1 cv1, .slice v5 nv2 cv2] →
 cond v6 (
 R (.returned (.tuple #[.pointer none, .int .i64 1])) w12) (
 ∃ (Client_Id Client_Secret : ByteArray) (Client_Public : Bool) (Client_Redirects : Option Addr) (nClient_Redirects cClient_Redirects : Nat) (Client_Scopes : Option Addr) (nClient_Scopes cClient_Scopes : Nat) (Client_Grants : Option Addr) (nClient_Grants cClient_Grants : Nat), w12.rangeAt b_3 0 [.string Client_Id, .string Client_Secret, .bool Client_Public, .slice Client_Redirects nClient_Redirects cClient_Redirects, .slice Client_Scopes nClient_Scopes cClient_Scopes, .slice Client_Grants nClient_Grants cClient_Grants] ∧
 Calls prg 22 #[.agg #[.string Client_Id, .string Client_Secret, .bool Client_Public, .slice Client_Redirects nClient_Redirects cClient_Redirects, .slice Client_Scopes nClient_Scopes cClient_Scopes, .slice Client_Grants nClient_Grants cClient_Grants]] w12 fun e w13 => ∃ (r : Bool), e = .returned (.bool r) ∧
 cond (!r) (
 R (.returned (.tuple #[.pointer none, .int .i64 1])) w13) (
 ∃ (Drw2 : World → Prop), Drw2 w13.drew ∧
 ∃ (x2 : Option Nat), (∀ w14 : World, Drw2 w14 → w14.cell? ⟨b_1, 0, none⟩ = some (.map x2)) ∧
 ∃ (x3 : ByteArray), (∀ w15 : World, Drw2 w15 → w15.cell? ⟨b_3, 0, none⟩ = some (.string x3)) ∧
 ∃ (Client_Id1 Client_Secret1 : ByteArray) (Client_Public1 : Bool) (Client_Redirects1 : Option Addr) (nClient_Redirects1 cClient_Redirects1 : Nat) (Client_Scopes1 : Option Addr) (nClient_Scopes1 cClient_Scopes1 : Nat) (Client_Grants1 : Option Addr) (nClient_Grants1 cClient_Grants1 : Nat), (∀ w16 : World, Drw2 w16 → w16.rangeAt b_3 0 [.string Client_Id1, .string Client_Secret1, .bool Client_Public1, .slice Client_Redirects1 nClient_Redirects1 cClient_Redirects1, .slice Client_Scopes1 nClient_Scopes1 cClient_Scopes1, .slice Client_Grants1 nClient_Grants1 cClient_Grants1]) ∧
 Calls prg 23 #[.agg #[.string Client_Id1, .string Client_Secret1, .bool Client_Public1, .slice Client_Redirects1 nClient_Redirects1 cClient_Redirects1, .slice Client_Scopes1 nClient_Scopes1 cClient_Scopes1, .slice Client_Grants1 nClient_Grants1 cClient_Grants1]] w13.drew fun e w17 => ∃ (Client_Id2 Client_Secret2 : ByteArray) (Client_Public2 : Bool) (Client_Redirects2 : Option Addr) (nClient_Redirects2 cClient_Redirects2 : Nat) (Client_Scopes2 : Option Addr) (nClient_Scopes2 cClient_Scopes2 : Nat) (Client_Grants2 : Option Addr) (nClient_Grants2 cClient_Grants2 : Nat), e = .returned (.agg #[.string Client_Id2, .string Client_Secret2, .bool Client_Public2, .slice Client_Redirects2 nClient_Redirects2 cClient_Redirects2, .slice Client_Scopes2 nClient_Scopes2 cClient_Scopes2, .slice Client_Grants2 nClient_Grants2 cClient_Grants2]) ∧
 Drw2 w17 ∧ ∃ w18, (Instr.mapUpdate 67 (.map x2) (.string x3) (.agg #[.string Client_Id2, .string Client_Secret2, .bool Client_Public2, .slice Client_Redirects2 nClient_Redirects2 cClient_Redirects2, .slice Client_Scopes2 nClient_Scopes2 cClient_Scopes2, .slice Client_Grants2 nClient_Grants2 cClient_Grants2])).run prg w17 = .ok () w18 ∧
 (Inv1 (IntKind.i64.wrap (t18 + (1 : Int))) w18 ∧ Mea1 (IntKind.i64.wrap (t18 + (1 : Int))) w18 < Mea1 t18 w3)))) (
 R (.returned (.tuple #[.pointer (some ⟨b_1, 0, none⟩), .int .i64 0])) w3))) :
    Calls prg 10 #[.slice l nl cl] w R :=
  calls_mk (.node .nil (.node .nil (.node .nil (.node (.node .nil (.loop [(18, .int .i64)] [2, 3, 6, 7, 8, 9, 19, 20, 21, 22, 23, 24, 25, 26, 27, 28, 29, 30, 31, 32, 33, 34, 35, 36, 37, 38, 39, 40, 41, 42, 43, 44, 45, 46, 47, 48, 49, 50] (.node .nil (.node .nil (.node (.node .nil (.node .nil (.node (.node (.draw (.op 0 (.op 1 (.op 2 (.op 3 (.op 4 (.op 5 (.op 6 (.op 7 (.op 8 (.op 9 (.op 10 (.op 11 (.op 12 (.op 13 .done))))))))))))))) .nil) (.draw (.op 0 (.op 1 (.op 2 (.op 3 (.op 4 (.op 5 (.op 6 (.op 7 (.op 8 (.op 9 .done)))))))))))))) .nil))))) .nil)))) [.slice l nl cl] w R tabOk (fokOk []) Tryz.func10 (by kernel_rfl) _ (by kernel_rfl) hyp

end Go.Proofs.YtbbcofdibkgalaaGreatDoor
