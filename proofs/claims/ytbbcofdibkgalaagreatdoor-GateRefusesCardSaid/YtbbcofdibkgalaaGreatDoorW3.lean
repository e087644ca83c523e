import Derived.Test.YtbbcofdibkgalaaGreatDoorWb
set_option linter.unusedVariables false
set_option maxRecDepth 100000
set_option maxHeartbeats 4000000
namespace Go.Proofs.YtbbcofdibkgalaaGreatDoor
open Go.Eng
/-- (*signet/gate.reader).token -/
theorem f25_wp (x : Option Addr) (w : World) (R : Ending → World → Prop) (hyp :
 ∀ (b_ : Nat) (w1 : World), b_ = w.heap.size → w1 = w.alloc (.cells #[.int .i64 0, .string ⟨#[]⟩, .int .i64 0, .int .i64 0, .string ⟨#[]⟩, .string ⟨#[]⟩, .slice none 0 0, .string ⟨#[]⟩, .string ⟨#[]⟩, .string ⟨#[]⟩, .string ⟨#[]⟩, .bool false, .int .i64 0] 35) →
 ∃ (Drw1 : World → Prop), Drw1 w1.drew ∧
 nilW x fun bk of =>
 ∃ (x1 : Option Addr), (∀ w2 : World, Drw1 w2 → w2.cell? ⟨bk, of + 4, none⟩ = some (.pointer x1)) ∧
 nilW x fun bk1 of1 =>
 ∃ (x2 : ByteArray), (∀ w3 : World, Drw1 w3 → w3.cell? ⟨bk1, of1 + 1, none⟩ = some (.string x2)) ∧
 nilW x fun bk2 of2 =>
 ∃ (x3 : Option Addr) (nx cx : Nat), (∀ w4 : World, Drw1 w4 → w4.cell? ⟨bk2, of2 + 8, none⟩ = some (.slice x3 nx cx)) ∧
 Calls prg 15 #[.pointer x1, .string x2, .slice x3 nx cx] w1.drew fun e w5 => ∃ (r : ByteArray), ∃ (r1 : Int), e = .returned (.tuple #[.string r, .int .i64 r1]) ∧
 Calls prg 60 #[.pointer x, .string ⟨#[103, 114, 97, 110, 116, 95, 116, 121, 112, 101]⟩] w5 fun e w6 => ∃ (grant : ByteArray), e = .returned (.string grant) ∧
 ∃ (Cut1 : Bool → World → Prop), (
 cond (decide (grant = ⟨#[97, 117, 116, 104, 111, 114, 105, 122, 97, 116, 105, 111, 110, 95, 99, 111, 100, 101]⟩)) (
 Cut1 true w6) (
 cond (decide (grant = ⟨#[99, 108, 105, 101, 110, 116, 95, 99, 114, 101, 100, 101, 110, 116, 105, 97, 108, 115]⟩)) (
 Cut1 true w6) (
 Cut1 (decide (grant = ⟨#[114, 101, 102, 114, 101, 115, 104, 95, 116, 111, 107, 101, 110]⟩)) w6))) ∧
 ∀ (known : Bool) (fr : Nat → Value) (w7 : World), Cut1 known w7 →
 ∃ (Drw2 : World → Prop), Drw2 w7.drew ∧
 nilW x fun bk3 of3 =>
 ∃ (x4 : Option Addr), (∀ w8 : World, Drw2 w8 → w8.cell? ⟨bk3, of3 + 4, none⟩ = some (.pointer x4)) ∧
 Calls prg 66 #[.bool (decide (grant ≠ ⟨#[]⟩)), .int .i64 1] w7.drew fun e w9 => ∃ (r2 : Int), e = .returned (.int .i64 r2) ∧
 Drw2 w9 ∧ Calls prg 66 #[.bool known, .int .i64 5] w9 fun e w10 => ∃ (r3 : Int), e = .returned (.int .i64 r3) ∧
 Drw2 w10 ∧ Calls prg 67 #[.pointer x4, .string r, .string grant] w10 fun e w11 => ∃ (r4 : Bool), e = .returned (.bool r4) ∧
 Calls prg 66 #[.bool r4, .int .i64 4] w11 fun e w12 => ∃ (r5 : Int), e = .returned (.int .i64 r5) ∧
 Drw2 w12 ∧ ∀ (b_1 : Nat) (w13 : World), b_1 = w12.heap.size → w13 = w12.alloc (.cells #[.int .i64 r1, .int .i64 r2, .int .i64 r3, .int .i64 r5] 36) →
 Drw2 w13 ∧ Calls prg 65 #[.slice (some ⟨b_1, 0, none⟩) 4 4] w13 fun e w14 => ∃ (w15 : Int), e = .returned (.int .i64 w15) ∧
 Drw2 w14 ∧ cond (decide (w15 ≠ (0 : Int))) (
 Sto w14 b_ 0 [.int .i64 0, .string ⟨#[]⟩, .int .i64 0, .int .i64 0, .string ⟨#[]⟩, .string ⟨#[]⟩, .slice none 0 0, .string ⟨#[]⟩, .string ⟨#[]⟩, .string ⟨#[]⟩, .string ⟨#[]⟩, .bool false, .int .i64 0] ∧ ∀ w16, w16 = w14.setCells b_ 0 [.int .i64 0, .string ⟨#[]⟩, .int .i64 0, .int .i64 0, .string ⟨#[]⟩, .string ⟨#[]⟩, .slice none 0 0, .string ⟨#[]⟩, .string ⟨#[]⟩, .string ⟨#[]⟩, .string ⟨#[]⟩, .bool false, .int .i64 0] →
 ∃ (Kind : Int) (Family : ByteArray) (Serial Token : Int) (Client User : ByteArray) (Scope : Option Addr) (nScope cScope : Nat) (Redirect Challenge Method Verifier : ByteArray) (Refresh : Bool) (Edge : Int), w16.rangeAt b_ 0 [.int .i64 Kind, .string Family, .int .i64 Serial, .int .i64 Token, .string Client, .string User, .slice Scope nScope cScope, .string Redirect, .string Challenge, .string Method, .string Verifier, .bool Refresh, .int .i64 Edge] ∧
 R (.returned (.tuple #[.agg #[.int .i64 Kind, .string Family, .int .i64 Serial, .int .i64 Token, .string Client, .string User, .slice Scope nScope cScope, .string Redirect, .string Challenge, .string Method, .string Verifier, .bool Refresh, .int .i64 Edge], .int .i64 w15])) w16) (
 cond (decide (grant = ⟨#[97, 117, 116, 104, 111, 114, 105, 122, 97, 116, 105, 111, 110, 95, 99, 111, 100, 101]⟩)) (
 ∃ (Cut2 : Nat → Nat → Int → World → Prop), (
 ∃ (Drw3 : World → Prop), Drw3 w14.drew ∧
 nilW x fun bk4 of4 =>
 ∃ (x5 : Option Addr) (nx1 cx1 : Nat), (∀ w17 : World, Drw3 w17 → w17.cell? ⟨bk4, of4 + 5, none⟩ = some (.slice x5 nx1 cx1)) ∧
 (
 Calls prg 60 #[.pointer x, .string ⟨#[99, 111, 100, 101]⟩] w14.drew fun e w18 => ∃ (r6 : ByteArray), e = .returned (.string r6) ∧
 Drw3 w18 ∧ (
 Calls prg 16 #[.slice x5 nx1 cx1, .string r6] w18 fun e w19 => ∃ (r7 : Int) (r8 : ByteArray) (r9 : Int), ∃ (r10 : Int), e = .returned (.tuple #[.agg #[.int .i64 r7, .string r8, .int .i64 r9], .int .i64 r10]) ∧
 ∀ (b_2 : Nat) (w20 : World), b_2 = w19.heap.size → w20 = w19.alloc (.cells #[.int .i64 0, .string ⟨#[]⟩, .int .i64 0] 47) →
 Drw3 w20 ∧ Sto w20 b_2 0 [.int .i64 r7, .string r8, .int .i64 r9] ∧ ∀ w21, w21 = w20.setCells b_2 0 [.int .i64 r7, .string r8, .int .i64 r9] →
 Cut2 b_2 0 r10 w21) ∧ (
 (
 ∀ (b_3 : Nat) (w22 : World), b_3 = w18.heap.size → w22 = w18.alloc (.cells #[.int .i64 0, .string ⟨#[]⟩, .int .i64 0] 47) →
 Drw3 w22 ∧ Calls prg 16 #[.slice x5 nx1 cx1, .string r6] w22 fun e w23 => ∃ (r11 : Int) (r12 : ByteArray) (r13 : Int), ∃ (r14 : Int), e = .returned (.tuple #[.agg #[.int .i64 r11, .string r12, .int .i64 r13], .int .i64 r14]) ∧
 Sto w23 b_3 0 [.int .i64 r11, .string r12, .int .i64 r13] ∧ ∀ w24, w24 = w23.setCells b_3 0 [.int .i64 r11, .string r12, .int .i64 r13] →
 Cut2 b_3 0 r14 w24) ∧ (
 True))) ∧ (
 (
 ∀ (b_4 : Nat) (w25 : World), b_4 = w14.drew.heap.size → w25 = w14.drew.alloc (.cells #[.int .i64 0, .string ⟨#[]⟩, .int .i64 0] 47) →
 Drw3 w25 ∧ Calls prg 60 #[.pointer x, .string ⟨#[99, 111, 100, 101]⟩] w25 fun e w26 => ∃ (r15 : ByteArray), e = .returned (.string r15) ∧
 Drw3 w26 ∧ Calls prg 16 #[.slice x5 nx1 cx1, .string r15] w26 fun e w27 => ∃ (r16 : Int) (r17 : ByteArray) (r18 : Int), ∃ (r19 : Int), e = .returned (.tuple #[.agg #[.int .i64 r16, .string r17, .int .i64 r18], .int .i64 r19]) ∧
 Sto w27 b_4 0 [.int .i64 r16, .string r17, .int .i64 r18] ∧ ∀ w28, w28 = w27.setCells b_4 0 [.int .i64 r16, .string r17, .int .i64 r18] →
 Cut2 b_4 0 r19 w28) ∧ (
 True))) ∧
 ∀ (bt ot : Nat) (e_ : Int) (fr1 : Nat → Value) (w29 : World), Cut2 bt ot e_ w29 →
 Calls prg 60 #[.pointer x, .string ⟨#[114, 101, 100, 105, 114, 101, 99, 116, 95, 117, 114, 105]⟩] w29 fun e w30 => ∃ (uri : ByteArray), e = .returned (.string uri) ∧
 Calls prg 60 #[.pointer x, .string ⟨#[99, 111, 100, 101, 95, 118, 101, 114, 105, 102, 105, 101, 114]⟩] w30 fun e w31 => ∃ (verifier : ByteArray), e = .returned (.string verifier) ∧
 ∃ (Cut3 : Bool → World → Prop), (
 cond (decide ((uri.size : Int) ≤ (128 : Int))) (
 Cut3 (decide ((verifier.size : Int) ≤ (128 : Int))) w31) (
 Cut3 false w31)) ∧
 ∀ (fits : Bool) (fr2 : Nat → Value) (w32 : World), Cut3 fits w32 →
 ∃ (Drw4 : World → Prop), Drw4 w32.drew ∧
 ∃ (x6 : ByteArray), (∀ w33 : World, Drw4 w33 → w33.cell? ⟨bt, ot + 1, none⟩ = some (.string x6)) ∧
 nilW x fun bk5 of5 =>
 ∃ (x7 : Option Addr), (∀ w34 : World, Drw4 w34 → w34.cell? ⟨bk5, of5 + 4, none⟩ = some (.pointer x7)) ∧
 Calls prg 67 #[.pointer x7, .string r, .string ⟨#[114, 101, 102, 114, 101, 115, 104, 95, 116, 111, 107, 101, 110]⟩] w32.drew fun e w35 => ∃ (r20 : Bool), e = .returned (.bool r20) ∧
 Drw4 w35 ∧ Calls prg 60 #[.pointer x, .string ⟨#[99, 111, 100, 101]⟩] w35 fun e w36 => ∃ (r21 : ByteArray), e = .returned (.string r21) ∧
 Drw4 w36 ∧ Calls prg 66 #[.bool (decide (r21 ≠ ⟨#[]⟩)), .int .i64 1] w36 fun e w37 => ∃ (r22 : Int), e = .returned (.int .i64 r22) ∧
 Drw4 w37 ∧ cond (decide (e_ = (0 : Int))) (
 ∃ (x8 : Int), (∀ w38 : World, Drw4 w38 → w38.cell? ⟨bt, ot, none⟩ = some (.int .i64 x8)) ∧
 cond (decide (x8 = (1 : Int))) (
 ∃ (x9 : Int), (∀ w39 : World, Drw4 w39 → w39.cell? ⟨bt, ot + 2, none⟩ = some (.int .i64 x9)) ∧
 cond (decide (x9 = (0 : Int))) (
 Calls prg 66 #[.bool fits, .int .i64 3] w37 fun e w40 => ∃ (r23 : Int), e = .returned (.int .i64 r23) ∧
 Drw4 w40 ∧ ∀ (b_5 : Nat) (w41 : World), b_5 = w40.heap.size → w41 = w40.alloc (.cells #[.int .i64 r22, .int .i64 r23] 36) →
 Drw4 w41 ∧ Calls prg 65 #[.slice (some ⟨b_5, 0, none⟩) 2 2] w41 fun e w42 => ∃ (r24 : Int), e = .returned (.int .i64 r24) ∧
 Drw4 w42 ∧ Sto w42 b_ 0 [.int .i64 2, .string x6, .int .i64 0, .int .i64 0, .string r, .string ⟨#[]⟩, .slice none 0 0, .string uri, .string ⟨#[]⟩, .string ⟨#[]⟩, .string verifier, .bool r20, .int .i64 0] ∧ ∀ w43, w43 = w42.setCells b_ 0 [.int .i64 2, .string x6, .int .i64 0, .int .i64 0, .string r, .string ⟨#[]⟩, .slice none 0 0, .string uri, .string ⟨#[]⟩, .string ⟨#[]⟩, .string verifier, .bool r20, .int .i64 0] →
 Drw4 w43 ∧ ∃ (Kind1 : Int) (Family1 : ByteArray) (Serial1 Token1 : Int) (Client1 User1 : ByteArray) (Scope1 : Option Addr) (nScope1 cScope1 : Nat) (Redirect1 Challenge1 Method1 Verifier1 : ByteArray) (Refresh1 : Bool) (Edge1 : Int), w43.rangeAt b_ 0 [.int .i64 Kind1, .string Family1, .int .i64 Serial1, .int .i64 Token1, .string Client1, .string User1, .slice Scope1 nScope1 cScope1, .string Redirect1, .string Challenge1, .string Method1, .string Verifier1, .bool Refresh1, .int .i64 Edge1] ∧
 R (.returned (.tuple #[.agg #[.int .i64 Kind1, .string Family1, .int .i64 Serial1, .int .i64 Token1, .string Client1, .string User1, .slice Scope1 nScope1 cScope1, .string Redirect1, .string Challenge1, .string Method1, .string Verifier1, .bool Refresh1, .int .i64 Edge1], .int .i64 r24])) w43) (
 Calls prg 66 #[.bool false, .int .i64 3] w37 fun e w44 => ∃ (r25 : Int), e = .returned (.int .i64 r25) ∧
 Drw4 w44 ∧ ∀ (b_6 : Nat) (w45 : World), b_6 = w44.heap.size → w45 = w44.alloc (.cells #[.int .i64 r22, .int .i64 r25] 36) →
 Drw4 w45 ∧ Calls prg 65 #[.slice (some ⟨b_6, 0, none⟩) 2 2] w45 fun e w46 => ∃ (r26 : Int), e = .returned (.int .i64 r26) ∧
 Drw4 w46 ∧ Sto w46 b_ 0 [.int .i64 2, .string x6, .int .i64 0, .int .i64 0, .string r, .string ⟨#[]⟩, .slice none 0 0, .string uri, .string ⟨#[]⟩, .string ⟨#[]⟩, .string verifier, .bool r20, .int .i64 0] ∧ ∀ w47, w47 = w46.setCells b_ 0 [.int .i64 2, .string x6, .int .i64 0, .int .i64 0, .string r, .string ⟨#[]⟩, .slice none 0 0, .string uri, .string ⟨#[]⟩, .string ⟨#[]⟩, .string verifier, .bool r20, .int .i64 0] →
 Drw4 w47 ∧ ∃ (Kind2 : Int) (Family2 : ByteArray) (Serial2 Token2 : Int) (Client2 User2 : ByteArray) (Scope2 : Option Addr) (nScope2 cScope2 : Nat) (Redirect2 Challenge2 Method2 Verifier2 : ByteArray) (Refresh2 : Bool) (Edge2 : Int), w47.rangeAt b_ 0 [.int .i64 Kind2, .string Family2, .int .i64 Serial2, .int .i64 Token2, .string Client2, .string User2, .slice Scope2 nScope2 cScope2, .string Redirect2, .string Challenge2, .string Method2, .string Verifier2, .bool Refresh2, .int .i64 Edge2] ∧
 R (.returned (.tuple #[.agg #[.int .i64 Kind2, .string Family2, .int .i64 Serial2, .int .i64 Token2, .string Client2, .string User2, .slice Scope2 nScope2 cScope2, .string Redirect2, .string Challenge2, .string Method2, .string Verifier2, .bool Refresh2, .int .i64 Edge2], .int .i64 r26])) w47)) (
 Calls prg 66 #[.bool false, .int .i64 3] w37 fun e w48 => ∃ (r27 : Int), e = .returned (.int .i64 r27) ∧
 Drw4 w48 ∧ ∀ (b_7 : Nat) (w49 : World), b_7 = w48.heap.size → w49 = w48.alloc (.cells #[.int .i64 r22, .int .i64 r27] 36) →
 Drw4 w49 ∧ Calls prg 65 #[.slice (some ⟨b_7, 0, none⟩) 2 2] w49 fun e w50 => ∃ (r28 : Int), e = .returned (.int .i64 r28) ∧
 Drw4 w50 ∧ Sto w50 b_ 0 [.int .i64 2, .string x6, .int .i64 0, .int .i64 0, .string r, .string ⟨#[]⟩, .slice none 0 0, .string uri, .string ⟨#[]⟩, .string ⟨#[]⟩, .string verifier, .bool r20, .int .i64 0] ∧ ∀ w51, w51 = w50.setCells b_ 0 [.int .i64 2, .string x6, .int .i64 0, .int .i64 0, .string r, .string ⟨#[]⟩, .slice none 0 0, .string uri, .string ⟨#[]⟩, .string ⟨#[]⟩, .string verifier, .bool r20, .int .i64 0] →
 Drw4 w51 ∧ ∃ (Kind3 : Int) (Family3 : ByteArray) (Serial3 Token3 : Int) (Client3 User3 : ByteArray) (Scope3 : Option Addr) (nScope3 cScope3 : Nat) (Redirect3 Challenge3 Method3 Verifier3 : ByteArray) (Refresh3 : Bool) (Edge3 : Int), w51.rangeAt b_ 0 [.int .i64 Kind3, .string Family3, .int .i64 Serial3, .int .i64 Token3, .string Client3, .string User3, .slice Scope3 nScope3 cScope3, .string Redirect3, .string Challenge3, .string Method3, .string Verifier3, .bool Refresh3, .int .i64 Edge3] ∧
 R (.returned (.tuple #[.agg #[.int .i64 Kind3, .string Family3, .int .i64 Serial3, .int .i64 Token3, .string Client3, .string User3, .slice Scope3 nScope3 cScope3, .string Redirect3, .string Challenge3, .string Method3, .string Verifier3, .bool Refresh3, .int .i64 Edge3], .int .i64 r28])) w51)) (
 Calls prg 66 #[.bool false, .int .i64 3] w37 fun e w52 => ∃ (r29 : Int), e = .returned (.int .i64 r29) ∧
 Drw4 w52 ∧ ∀ (b_8 : Nat) (w53 : World), b_8 = w52.heap.size → w53 = w52.alloc (.cells #[.int .i64 r22, .int .i64 r29] 36) →
 Drw4 w53 ∧ Calls prg 65 #[.slice (some ⟨b_8, 0, none⟩) 2 2] w53 fun e w54 => ∃ (r30 : Int), e = .returned (.int .i64 r30) ∧
 Drw4 w54 ∧ Sto w54 b_ 0 [.int .i64 2, .string x6, .int .i64 0, .int .i64 0, .string r, .string ⟨#[]⟩, .slice none 0 0, .string uri, .string ⟨#[]⟩, .string ⟨#[]⟩, .string verifier, .bool r20, .int .i64 0] ∧ ∀ w55, w55 = w54.setCells b_ 0 [.int .i64 2, .string x6, .int .i64 0, .int .i64 0, .string r, .string ⟨#[]⟩, .slice none 0 0, .string uri, .string ⟨#[]⟩, .string ⟨#[]⟩, .string verifier, .bool r20, .int .i64 0] →
 Drw4 w55 ∧ ∃ (Kind4 : Int) (Family4 : ByteArray) (Serial4 Token4 : Int) (Client4 User4 : ByteArray) (Scope4 : Option Addr) (nScope4 cScope4 : Nat) (Redirect4 Challenge4 Method4 Verifier4 : ByteArray) (Refresh4 : Bool) (Edge4 : Int), w55.rangeAt b_ 0 [.int .i64 Kind4, .string Family4, .int .i64 Serial4, .int .i64 Token4, .string Client4, .string User4, .slice Scope4 nScope4 cScope4, .string Redirect4, .string Challenge4, .string Method4, .string Verifier4, .bool Refresh4, .int .i64 Edge4] ∧
 R (.returned (.tuple #[.agg #[.int .i64 Kind4, .string Family4, .int .i64 Serial4, .int .i64 Token4, .string Client4, .string User4, .slice Scope4 nScope4 cScope4, .string Redirect4, .string Challenge4, .string Method4, .string Verifier4, .bool Refresh4, .int .i64 Edge4], .int .i64 r30])) w55)) (
 cond (decide (grant = ⟨#[114, 101, 102, 114, 101, 115, 104, 95, 116, 111, 107, 101, 110]⟩)) (
 ∃ (Cut4 : Nat → Nat → Int → World → Prop), (
 ∃ (Drw5 : World → Prop), Drw5 w14.drew ∧
 nilW x fun bk6 of6 =>
 ∃ (x10 : Option Addr) (nx2 cx2 : Nat), (∀ w56 : World, Drw5 w56 → w56.cell? ⟨bk6, of6 + 5, none⟩ = some (.slice x10 nx2 cx2)) ∧
 (
 Calls prg 60 #[.pointer x, .string ⟨#[114, 101, 102, 114, 101, 115, 104, 95, 116, 111, 107, 101, 110]⟩] w14.drew fun e w57 => ∃ (r31 : ByteArray), e = .returned (.string r31) ∧
 Drw5 w57 ∧ (
 Calls prg 16 #[.slice x10 nx2 cx2, .string r31] w57 fun e w58 => ∃ (r32 : Int) (r33 : ByteArray) (r34 : Int), ∃ (r35 : Int), e = .returned (.tuple #[.agg #[.int .i64 r32, .string r33, .int .i64 r34], .int .i64 r35]) ∧
 ∀ (b_9 : Nat) (w59 : World), b_9 = w58.heap.size → w59 = w58.alloc (.cells #[.int .i64 0, .string ⟨#[]⟩, .int .i64 0] 47) →
 Drw5 w59 ∧ Sto w59 b_9 0 [.int .i64 r32, .string r33, .int .i64 r34] ∧ ∀ w60, w60 = w59.setCells b_9 0 [.int .i64 r32, .string r33, .int .i64 r34] →
 Cut4 b_9 0 r35 w60) ∧ (
 (
 ∀ (b_10 : Nat) (w61 : World), b_10 = w57.heap.size → w61 = w57.alloc (.cells #[.int .i64 0, .string ⟨#[]⟩, .int .i64 0] 47) →
 Drw5 w61 ∧ Calls prg 16 #[.slice x10 nx2 cx2, .string r31] w61 fun e w62 => ∃ (r36 : Int) (r37 : ByteArray) (r38 : Int), ∃ (r39 : Int), e = .returned (.tuple #[.agg #[.int .i64 r36, .string r37, .int .i64 r38], .int .i64 r39]) ∧
 Sto w62 b_10 0 [.int .i64 r36, .string r37, .int .i64 r38] ∧ ∀ w63, w63 = w62.setCells b_10 0 [.int .i64 r36, .string r37, .int .i64 r38] →
 Cut4 b_10 0 r39 w63) ∧ (
 True))) ∧ (
 (
 ∀ (b_11 : Nat) (w64 : World), b_11 = w14.drew.heap.size → w64 = w14.drew.alloc (.cells #[.int .i64 0, .string ⟨#[]⟩, .int .i64 0] 47) →
 Drw5 w64 ∧ Calls prg 60 #[.pointer x, .string ⟨#[114, 101, 102, 114, 101, 115, 104, 95, 116, 111, 107, 101, 110]⟩] w64 fun e w65 => ∃ (r40 : ByteArray), e = .returned (.string r40) ∧
 Drw5 w65 ∧ Calls prg 16 #[.slice x10 nx2 cx2, .string r40] w65 fun e w66 => ∃ (r41 : Int) (r42 : ByteArray) (r43 : Int), ∃ (r44 : Int), e = .returned (.tuple #[.agg #[.int .i64 r41, .string r42, .int .i64 r43], .int .i64 r44]) ∧
 Sto w66 b_11 0 [.int .i64 r41, .string r42, .int .i64 r43] ∧ ∀ w67, w67 = w66.setCells b_11 0 [.int .i64 r41, .string r42, .int .i64 r43] →
 Cut4 b_11 0 r44 w67) ∧ (
 True))) ∧
 ∀ (bt1 ot1 : Nat) (e_1 : Int) (fr3 : Nat → Value) (w68 : World), Cut4 bt1 ot1 e_1 w68 →
 Calls prg 68 #[.pointer x] w68 fun e w69 => ∃ (r45 : Option Addr) (nr cr : Nat), ∃ (r46 : Int), e = .returned (.tuple #[.slice r45 nr cr, .int .i64 r46]) ∧
 ∃ (Drw6 : World → Prop), Drw6 w69.drew ∧
 ∃ (x11 : ByteArray), (∀ w70 : World, Drw6 w70 → w70.cell? ⟨bt1, ot1 + 1, none⟩ = some (.string x11)) ∧
 ∃ (x12 : Int), (∀ w71 : World, Drw6 w71 → w71.cell? ⟨bt1, ot1 + 2, none⟩ = some (.int .i64 x12)) ∧
 Calls prg 60 #[.pointer x, .string ⟨#[114, 101, 102, 114, 101, 115, 104, 95, 116, 111, 107, 101, 110]⟩] w69.drew fun e w72 => ∃ (r47 : ByteArray), e = .returned (.string r47) ∧
 Drw6 w72 ∧ Calls prg 66 #[.bool (decide (r47 ≠ ⟨#[]⟩)), .int .i64 1] w72 fun e w73 => ∃ (r48 : Int), e = .returned (.int .i64 r48) ∧
 Drw6 w73 ∧ cond (decide (e_1 = (0 : Int))) (
 ∃ (x13 : Int), (∀ w74 : World, Drw6 w74 → w74.cell? ⟨bt1, ot1, none⟩ = some (.int .i64 x13)) ∧
 Calls prg 66 #[.bool (decide (x13 = (3 : Int))), .int .i64 3] w73 fun e w75 => ∃ (r49 : Int), e = .returned (.int .i64 r49) ∧
 Drw6 w75 ∧ Calls prg 58 #[.slice r45 nr cr] w75 fun e w76 => ∃ (r50 : ByteArray), e = .returned (.string r50) ∧
 Drw6 w76 ∧ Calls prg 66 #[.bool (decide ((r50.size : Int) ≤ (128 : Int))), .int .i64 6] w76 fun e w77 => ∃ (r51 : Int), e = .returned (.int .i64 r51) ∧
 Drw6 w77 ∧ ∀ (b_12 : Nat) (w78 : World), b_12 = w77.heap.size → w78 = w77.alloc (.cells #[.int .i64 r48, .int .i64 r49, .int .i64 r46, .int .i64 r51] 36) →
 Drw6 w78 ∧ Calls prg 65 #[.slice (some ⟨b_12, 0, none⟩) 4 4] w78 fun e w79 => ∃ (r52 : Int), e = .returned (.int .i64 r52) ∧
 Drw6 w79 ∧ Sto w79 b_ 0 [.int .i64 3, .string x11, .int .i64 x12, .int .i64 0, .string r, .string ⟨#[]⟩, .slice r45 nr cr, .string ⟨#[]⟩, .string ⟨#[]⟩, .string ⟨#[]⟩, .string ⟨#[]⟩, .bool false, .int .i64 0] ∧ ∀ w80, w80 = w79.setCells b_ 0 [.int .i64 3, .string x11, .int .i64 x12, .int .i64 0, .string r, .string ⟨#[]⟩, .slice r45 nr cr, .string ⟨#[]⟩, .string ⟨#[]⟩, .string ⟨#[]⟩, .string ⟨#[]⟩, .bool false, .int .i64 0] →
 Drw6 w80 ∧ ∃ (Kind5 : Int) (Family5 : ByteArray) (Serial5 Token5 : Int) (Client5 User5 : ByteArray) (Scope5 : Option Addr) (nScope5 cScope5 : Nat) (Redirect5 Challenge5 Method5 Verifier5 : ByteArray) (Refresh5 : Bool) (Edge5 : Int), w80.rangeAt b_ 0 [.int .i64 Kind5, .string Family5, .int .i64 Serial5, .int .i64 Token5, .string Client5, .string User5, .slice Scope5 nScope5 cScope5, .string Redirect5, .string Challenge5, .string Method5, .string Verifier5, .bool Refresh5, .int .i64 Edge5] ∧
 R (.returned (.tuple #[.agg #[.int .i64 Kind5, .string Family5, .int .i64 Serial5, .int .i64 Token5, .string Client5, .string User5, .slice Scope5 nScope5 cScope5, .string Redirect5, .string Challenge5, .string Method5, .string Verifier5, .bool Refresh5, .int .i64 Edge5], .int .i64 r52])) w80) (
 Calls prg 66 #[.bool false, .int .i64 3] w73 fun e w81 => ∃ (r53 : Int), e = .returned (.int .i64 r53) ∧
 Drw6 w81 ∧ Calls prg 58 #[.slice r45 nr cr] w81 fun e w82 => ∃ (r54 : ByteArray), e = .returned (.string r54) ∧
 Drw6 w82 ∧ Calls prg 66 #[.bool (decide ((r54.size : Int) ≤ (128 : Int))), .int .i64 6] w82 fun e w83 => ∃ (r55 : Int), e = .returned (.int .i64 r55) ∧
 Drw6 w83 ∧ ∀ (b_13 : Nat) (w84 : World), b_13 = w83.heap.size → w84 = w83.alloc (.cells #[.int .i64 r48, .int .i64 r53, .int .i64 r46, .int .i64 r55] 36) →
 Drw6 w84 ∧ Calls prg 65 #[.slice (some ⟨b_13, 0, none⟩) 4 4] w84 fun e w85 => ∃ (r56 : Int), e = .returned (.int .i64 r56) ∧
 Drw6 w85 ∧ Sto w85 b_ 0 [.int .i64 3, .string x11, .int .i64 x12, .int .i64 0, .string r, .string ⟨#[]⟩, .slice r45 nr cr, .string ⟨#[]⟩, .string ⟨#[]⟩, .string ⟨#[]⟩, .string ⟨#[]⟩, .bool false, .int .i64 0] ∧ ∀ w86, w86 = w85.setCells b_ 0 [.int .i64 3, .string x11, .int .i64 x12, .int .i64 0, .string r, .string ⟨#[]⟩, .slice r45 nr cr, .string ⟨#[]⟩, .string ⟨#[]⟩, .string ⟨#[]⟩, .string ⟨#[]⟩, .bool false, .int .i64 0] →
 Drw6 w86 ∧ ∃ (Kind6 : Int) (Family6 : ByteArray) (Serial6 Token6 : Int) (Client6 User6 : ByteArray) (Scope6 : Option Addr) (nScope6 cScope6 : Nat) (Redirect6 Challenge6 Method6 Verifier6 : ByteArray) (Refresh6 : Bool) (Edge6 : Int), w86.rangeAt b_ 0 [.int .i64 Kind6, .string Family6, .int .i64 Serial6, .int .i64 Token6, .string Client6, .string User6, .slice Scope6 nScope6 cScope6, .string Redirect6, .string Challenge6, .string Method6, .string Verifier6, .bool Refresh6, .int .i64 Edge6] ∧
 R (.returned (.tuple #[.agg #[.int .i64 Kind6, .string Family6, .int .i64 Serial6, .int .i64 Token6, .string Client6, .string User6, .slice Scope6 nScope6 cScope6, .string Redirect6, .string Challenge6, .string Method6, .string Verifier6, .bool Refresh6, .int .i64 Edge6], .int .i64 r56])) w86)) (
 Calls prg 63 #[.pointer x, .string r] w14 fun e w87 => ∃ (r57 : Option Addr) (nr1 cr1 : Nat), ∃ (r58 : Int), e = .returned (.tuple #[.slice r57 nr1 cr1, .int .i64 r58]) ∧
 nilW x fun bk7 of7 =>
 ∃ (x14 : ByteArray), w87.cell? ⟨bk7, of7 + 6, none⟩ = some (.string x14) ∧
 Sto w87 b_ 0 [.int .i64 4, .string x14, .int .i64 0, .int .i64 0, .string r, .string ⟨#[]⟩, .slice r57 nr1 cr1, .string ⟨#[]⟩, .string ⟨#[]⟩, .string ⟨#[]⟩, .string ⟨#[]⟩, .bool false, .int .i64 0] ∧ ∀ w88, w88 = w87.setCells b_ 0 [.int .i64 4, .string x14, .int .i64 0, .int .i64 0, .string r, .string ⟨#[]⟩, .slice r57 nr1 cr1, .string ⟨#[]⟩, .string ⟨#[]⟩, .string ⟨#[]⟩, .string ⟨#[]⟩, .bool false, .int .i64 0] →
 ∃ (Kind7 : Int) (Family7 : ByteArray) (Serial7 Token7 : Int) (Client7 User7 : ByteArray) (Scope7 : Option Addr) (nScope7 cScope7 : Nat) (Redirect7 Challenge7 Method7 Verifier7 : ByteArray) (Refresh7 : Bool) (Edge7 : Int), w88.rangeAt b_ 0 [.int .i64 Kind7, .string Family7, .int .i64 Serial7, .int .i64 Token7, .string Client7, .string User7, .slice Scope7 nScope7 cScope7, .string Redirect7, .string Challenge7, .string Method7, .string Verifier7, .bool Refresh7, .int .i64 Edge7] ∧
 R (.returned (.tuple #[.agg #[.int .i64 Kind7, .string Family7, .int .i64 Serial7, .int .i64 Token7, .string Client7, .string User7, .slice Scope7 nScope7 cScope7, .string Redirect7, .string Challenge7, .string Method7, .string Verifier7, .bool Refresh7, .int .i64 Edge7], .int .i64 r58])) w88)))) :
    Calls prg 25 #[.pointer x] w R :=
  calls_mk (.node .nil (.node (.draw (.op 0 (.op 1 (.op 2 (.op 3 (.op 4 (.op 5 (.op 6 (.op 7 (.op 8 (.op 9 (.op 10 (.op 11 (.op 12 (.op 13 (.op 14 (.op 15 (.op 16 (.op 17 (.op 18 .done)))))))))))))))))))) (.node .nil (.cut [(7, .bool)] [37, 38, 39, 40, 41, 42, 43, 44, 45, 46] .nil (.node (.draw (.op 0 (.op 1 (.op 2 (.op 4 (.op 6 (.op 7 (.op 8 (.op 9 (.op 10 (.op 11 (.op 3 (.op 5 (.op 12 (.op 13 (.op 14 (.op 15 (.op 16 .done)))))))))))))))))) (.node .nil (.node (.node .nil (.node .nil (.node (.cut [(8, .pt), (9, .int .i64)] [70, 71, 72, 73, 74, 75, 76, 77, 78, 79] (.draw (.op 0 (.op 1 (.op 2 (.op 3 (.op 4 (.alt 5 (.alt 6 (.op 7 (.op 8 (.op 9 (.op 10 (.op 11 (.op 12 .done)))))) (.alt 10 (.op 6 (.op 7 (.op 8 (.op 9 (.op 11 (.op 12 .done)))))) .none)) (.alt 10 (.op 5 (.op 6 (.op 7 (.op 8 (.op 9 (.op 11 (.op 12 .done))))))) .none)))))))) (.node .nil (.cut [(12, .bool)] [84, 85, 86, 87, 88, 89, 90, 91] .nil (.node (.draw (.op 0 (.op 1 (.op 2 (.op 3 (.op 4 (.op 5 (.op 6 (.op 7 (.op 8 (.op 9 (.op 12 (.op 16 (.op 17 (.op 10 (.op 11 (.op 13 (.op 14 (.op 15 (.op 18 (.op 19 (.op 20 (.op 21 (.op 22 (.op 23 (.op 24 (.op 25 (.op 26 (.op 27 (.op 28 (.op 29 (.op 30 (.op 31 (.op 32 (.op 33 (.op 34 (.op 35 .done))))))))))))))))))))))))))))))))))))) .nil)))) (.node .nil (.node (.cut [(13, .pt), (14, .int .i64)] [128, 129, 130, 131, 132, 133, 134, 135, 136, 137] (.draw (.op 0 (.op 1 (.op 2 (.op 3 (.op 4 (.alt 5 (.alt 6 (.op 7 (.op 8 (.op 9 (.op 10 (.op 11 (.op 12 .done)))))) (.alt 10 (.op 6 (.op 7 (.op 8 (.op 9 (.op 11 (.op 12 .done)))))) .none)) (.alt 10 (.op 5 (.op 6 (.op 7 (.op 8 (.op 9 (.op 11 (.op 12 .done))))))) .none)))))))) (.node .nil (.node (.draw (.op 0 (.op 1 (.op 2 (.op 3 (.op 4 (.op 5 (.op 6 (.op 7 (.op 11 (.op 12 (.op 19 (.op 20 (.op 8 (.op 9 (.op 10 (.op 13 (.op 14 (.op 15 (.op 16 (.op 17 (.op 18 (.op 21 (.op 22 (.op 23 (.op 24 (.op 25 (.op 26 (.op 27 (.op 28 .done)))))))))))))))))))))))))))))) .nil))) .nil))))) .nil))))))) [.pointer x] w R tabOk (fokOk []) Tryz.func25 (by kernel_rfl) _ (by kernel_rfl) hyp

/-- (*signet/gate.reader).revoke -/
theorem f26_wp (x : Option Addr) (w : World) (R : Ending → World → Prop) (hyp :
 ∀ (b_ : Nat) (w1 : World), b_ = w.heap.size → w1 = w.alloc (.cells #[.int .i64 0, .string ⟨#[]⟩, .int .i64 0, .int .i64 0, .string ⟨#[]⟩, .string ⟨#[]⟩, .slice none 0 0, .string ⟨#[]⟩, .string ⟨#[]⟩, .string ⟨#[]⟩, .string ⟨#[]⟩, .bool false, .int .i64 0] 35) →
 Calls prg 69 #[.pointer x] w1 fun e w2 => ∃ (r : ByteArray), ∃ (r1 : Int) (r2 : ByteArray) (r3 : Int), ∃ (r4 : Bool), ∃ (r5 : Int), e = .returned (.tuple #[.string r, .agg #[.int .i64 r1, .string r2, .int .i64 r3], .bool r4, .int .i64 r5]) ∧
 ∀ (b_1 : Nat) (w3 : World), b_1 = w2.heap.size → w3 = w2.alloc (.cells #[.int .i64 0, .string ⟨#[]⟩, .int .i64 0] 47) →
 Sto w3 b_1 0 [.int .i64 r1, .string r2, .int .i64 r3] ∧ ∀ w4, w4 = w3.setCells b_1 0 [.int .i64 r1, .string r2, .int .i64 r3] →
 cond (!r4) (
 Sto w4 b_ 0 [.int .i64 0, .string ⟨#[]⟩, .int .i64 0, .int .i64 0, .string ⟨#[]⟩, .string ⟨#[]⟩, .slice none 0 0, .string ⟨#[]⟩, .string ⟨#[]⟩, .string ⟨#[]⟩, .string ⟨#[]⟩, .bool false, .int .i64 0] ∧ ∀ w5, w5 = w4.setCells b_ 0 [.int .i64 0, .string ⟨#[]⟩, .int .i64 0, .int .i64 0, .string ⟨#[]⟩, .string ⟨#[]⟩, .slice none 0 0, .string ⟨#[]⟩, .string ⟨#[]⟩, .string ⟨#[]⟩, .string ⟨#[]⟩, .bool false, .int .i64 0] →
 ∃ (Kind : Int) (Family : ByteArray) (Serial Token : Int) (Client User : ByteArray) (Scope : Option Addr) (nScope cScope : Nat) (Redirect Challenge Method Verifier : ByteArray) (Refresh : Bool) (Edge : Int), w5.rangeAt b_ 0 [.int .i64 Kind, .string Family, .int .i64 Serial, .int .i64 Token, .string Client, .string User, .slice Scope nScope cScope, .string Redirect, .string Challenge, .string Method, .string Verifier, .bool Refresh, .int .i64 Edge] ∧
 R (.returned (.tuple #[.agg #[.int .i64 Kind, .string Family, .int .i64 Serial, .int .i64 Token, .string Client, .string User, .slice Scope nScope cScope, .string Redirect, .string Challenge, .string Method, .string Verifier, .bool Refresh, .int .i64 Edge], .int .i64 r5])) w5) (
 ∃ (x1 : ByteArray), w4.cell? ⟨b_1, 1, none⟩ = some (.string x1) ∧
 ∃ (x2 : Int), w4.cell? ⟨b_1, 2, none⟩ = some (.int .i64 x2) ∧
 ∃ (x3 : Int), w4.cell? ⟨b_1, 0, none⟩ = some (.int .i64 x3) ∧
 Sto w4 b_ 0 [.int .i64 5, .string x1, .int .i64 x2, .int .i64 x3, .string r, .string ⟨#[]⟩, .slice none 0 0, .string ⟨#[]⟩, .string ⟨#[]⟩, .string ⟨#[]⟩, .string ⟨#[]⟩, .bool false, .int .i64 0] ∧ ∀ w6, w6 = w4.setCells b_ 0 [.int .i64 5, .string x1, .int .i64 x2, .int .i64 x3, .string r, .string ⟨#[]⟩, .slice none 0 0, .string ⟨#[]⟩, .string ⟨#[]⟩, .string ⟨#[]⟩, .string ⟨#[]⟩, .bool false, .int .i64 0] →
 ∃ (Kind1 : Int) (Family1 : ByteArray) (Serial1 Token1 : Int) (Client1 User1 : ByteArray) (Scope1 : Option Addr) (nScope1 cScope1 : Nat) (Redirect1 Challenge1 Method1 Verifier1 : ByteArray) (Refresh1 : Bool) (Edge1 : Int), w6.rangeAt b_ 0 [.int .i64 Kind1, .string Family1, .int .i64 Serial1, .int .i64 Token1, .string Client1, .string User1, .slice Scope1 nScope1 cScope1, .string Redirect1, .string Challenge1, .string Method1, .string Verifier1, .bool Refresh1, .int .i64 Edge1] ∧
 R (.returned (.tuple #[.agg #[.int .i64 Kind1, .string Family1, .int .i64 Serial1, .int .i64 Token1, .string Client1, .string User1, .slice Scope1 nScope1 cScope1, .string Redirect1, .string Challenge1, .string Method1, .string Verifier1, .bool Refresh1, .int .i64 Edge1], .int .i64 r5])) w6)) :
    Calls prg 26 #[.pointer x] w R :=
  calls_mk .nil [.pointer x] w R tabOk (fokOk []) Tryz.func26 (by kernel_rfl) _ (by kernel_rfl) hyp

/-- (*signet/gate.reader).look -/
theorem f27_wp (x : Option Addr) (w : World) (R : Ending → World → Prop) (hyp :
 ∀ (b_ : Nat) (w1 : World), b_ = w.heap.size → w1 = w.alloc (.cells #[.int .i64 0, .string ⟨#[]⟩, .int .i64 0, .int .i64 0, .string ⟨#[]⟩, .string ⟨#[]⟩, .slice none 0 0, .string ⟨#[]⟩, .string ⟨#[]⟩, .string ⟨#[]⟩, .string ⟨#[]⟩, .bool false, .int .i64 0] 35) →
 Calls prg 69 #[.pointer x] w1 fun e w2 => ∃ (r : ByteArray), ∃ (r1 : Int) (r2 : ByteArray) (r3 : Int), ∃ (r4 : Bool), ∃ (r5 : Int), e = .returned (.tuple #[.string r, .agg #[.int .i64 r1, .string r2, .int .i64 r3], .bool r4, .int .i64 r5]) ∧
 ∀ (b_1 : Nat) (w3 : World), b_1 = w2.heap.size → w3 = w2.alloc (.cells #[.int .i64 0, .string ⟨#[]⟩, .int .i64 0] 47) →
 Sto w3 b_1 0 [.int .i64 r1, .string r2, .int .i64 r3] ∧ ∀ w4, w4 = w3.setCells b_1 0 [.int .i64 r1, .string r2, .int .i64 r3] →
 ∃ (Cut1 : World → Prop), (
 cond (!r4) (
 Sto w4 b_ 0 [.int .i64 0, .string ⟨#[]⟩, .int .i64 0, .int .i64 0, .string ⟨#[]⟩, .string ⟨#[]⟩, .slice none 0 0, .string ⟨#[]⟩, .string ⟨#[]⟩, .string ⟨#[]⟩, .string ⟨#[]⟩, .bool false, .int .i64 0] ∧ ∀ w5, w5 = w4.setCells b_ 0 [.int .i64 0, .string ⟨#[]⟩, .int .i64 0, .int .i64 0, .string ⟨#[]⟩, .string ⟨#[]⟩, .slice none 0 0, .string ⟨#[]⟩, .string ⟨#[]⟩, .string ⟨#[]⟩, .string ⟨#[]⟩, .bool false, .int .i64 0] →
 ∃ (Kind : Int) (Family : ByteArray) (Serial Token : Int) (Client User : ByteArray) (Scope : Option Addr) (nScope cScope : Nat) (Redirect Challenge Method Verifier : ByteArray) (Refresh : Bool) (Edge : Int), w5.rangeAt b_ 0 [.int .i64 Kind, .string Family, .int .i64 Serial, .int .i64 Token, .string Client, .string User, .slice Scope nScope cScope, .string Redirect, .string Challenge, .string Method, .string Verifier, .bool Refresh, .int .i64 Edge] ∧
 R (.returned (.tuple #[.agg #[.int .i64 Kind, .string Family, .int .i64 Serial, .int .i64 Token, .string Client, .string User, .slice Scope nScope cScope, .string Redirect, .string Challenge, .string Method, .string Verifier, .bool Refresh, .int .i64 Edge], .int .i64 r5])) w5) (
 ∃ (x1 : Int), w4.cell? ⟨b_1, 0, none⟩ = some (.int .i64 x1) ∧
 cond (decide (x1 = (1 : Int))) (
 Sto w4 b_ 0 [.int .i64 0, .string ⟨#[]⟩, .int .i64 0, .int .i64 0, .string ⟨#[]⟩, .string ⟨#[]⟩, .slice none 0 0, .string ⟨#[]⟩, .string ⟨#[]⟩, .string ⟨#[]⟩, .string ⟨#[]⟩, .bool false, .int .i64 0] ∧ ∀ w6, w6 = w4.setCells b_ 0 [.int .i64 0, .string ⟨#[]⟩, .int .i64 0, .int .i64 0, .string ⟨#[]⟩, .string ⟨#[]⟩, .slice none 0 0, .string ⟨#[]⟩, .string ⟨#[]⟩, .string ⟨#[]⟩, .string ⟨#[]⟩, .bool false, .int .i64 0] →
 ∃ (Kind1 : Int) (Family1 : ByteArray) (Serial1 Token1 : Int) (Client1 User1 : ByteArray) (Scope1 : Option Addr) (nScope1 cScope1 : Nat) (Redirect1 Challenge1 Method1 Verifier1 : ByteArray) (Refresh1 : Bool) (Edge1 : Int), w6.rangeAt b_ 0 [.int .i64 Kind1, .string Family1, .int .i64 Serial1, .int .i64 Token1, .string Client1, .string User1, .slice Scope1 nScope1 cScope1, .string Redirect1, .string Challenge1, .string Method1, .string Verifier1, .bool Refresh1, .int .i64 Edge1] ∧
 R (.returned (.tuple #[.agg #[.int .i64 Kind1, .string Family1, .int .i64 Serial1, .int .i64 Token1, .string Client1, .string User1, .slice Scope1 nScope1 cScope1, .string Redirect1, .string Challenge1, .string Method1, .string Verifier1, .bool Refresh1, .int .i64 Edge1], .int .i64 r5])) w6) (
 Cut1 w4))) ∧
 ∀ (fr : Nat → Value) (w7 : World), Cut1 w7 →
 ∃ (Drw1 : World → Prop), Drw1 w7.drew ∧
 ∃ (x2 : ByteArray), (∀ w8 : World, Drw1 w8 → w8.cell? ⟨b_1, 1, none⟩ = some (.string x2)) ∧
 ∃ (x3 : Int), (∀ w9 : World, Drw1 w9 → w9.cell? ⟨b_1, 2, none⟩ = some (.int .i64 x3)) ∧
 ∃ (x4 : Int), (∀ w10 : World, Drw1 w10 → w10.cell? ⟨b_1, 0, none⟩ = some (.int .i64 x4)) ∧
 nilW x fun bk of =>
 ∃ (x5 : Int), (∀ w11 : World, Drw1 w11 → w11.cell? ⟨bk, of + 7, none⟩ = some (.int .i64 x5)) ∧
 Sto w7.drew b_ 0 [.int .i64 6, .string x2, .int .i64 x3, .int .i64 x4, .string ⟨#[]⟩, .string ⟨#[]⟩, .slice none 0 0, .string ⟨#[]⟩, .string ⟨#[]⟩, .string ⟨#[]⟩, .string ⟨#[]⟩, .bool false, .int .i64 x5] ∧ ∀ w12, w12 = w7.drew.setCells b_ 0 [.int .i64 6, .string x2, .int .i64 x3, .int .i64 x4, .string ⟨#[]⟩, .string ⟨#[]⟩, .slice none 0 0, .string ⟨#[]⟩, .string ⟨#[]⟩, .string ⟨#[]⟩, .string ⟨#[]⟩, .bool false, .int .i64 x5] →
 ∃ (Kind2 : Int) (Family2 : ByteArray) (Serial2 Token2 : Int) (Client2 User2 : ByteArray) (Scope2 : Option Addr) (nScope2 cScope2 : Nat) (Redirect2 Challenge2 Method2 Verifier2 : ByteArray) (Refresh2 : Bool) (Edge2 : Int), w12.rangeAt b_ 0 [.int .i64 Kind2, .string Family2, .int .i64 Serial2, .int .i64 Token2, .string Client2, .string User2, .slice Scope2 nScope2 cScope2, .string Redirect2, .string Challenge2, .string Method2, .string Verifier2, .bool Refresh2, .int .i64 Edge2] ∧
 R (.returned (.tuple #[.agg #[.int .i64 Kind2, .string Family2, .int .i64 Serial2, .int .i64 Token2, .string Client2, .string User2, .slice Scope2 nScope2 cScope2, .string Redirect2, .string Challenge2, .string Method2, .string Verifier2, .bool Refresh2, .int .i64 Edge2], .int .i64 r5])) w12) :
    Calls prg 27 #[.pointer x] w R :=
  calls_mk (.node .nil (.node .nil (.cut [] [3, 15, 16, 17, 18, 19, 20, 21, 22, 23] .nil (.node (.draw (.op 0 (.op 1 (.op 2 (.op 3 (.op 4 (.op 5 (.op 6 (.op 7 (.op 8 (.op 9 (.op 10 (.op 11 (.op 12 (.op 13 .done))))))))))))))) .nil)))) [.pointer x] w R tabOk (fokOk []) Tryz.func27 (by kernel_rfl) _ (by kernel_rfl) hyp

/-- signet/seal.Right -/
theorem f29_wp (t_Kind : Int) (t_Family : ByteArray) (t_Serial : Int) (w : World) (R : Ending → World → Prop) (hyp :
 ∀ (b_ : Nat) (w1 : World), b_ = w.heap.size → w1 = w.alloc (.cells #[.int .i64 t_Kind, .string t_Family, .int .i64 t_Serial] 47) →
 ∃ (Inv1 : Int → World → Prop) (Mea1 : Int → World → Nat), Inv1 0 w1 ∧ ∀ (i : Int) (fr : Nat → Value) (w2 : World), 
 Inv1 i w2 →
 ∃ (x : ByteArray), w2.cell? ⟨b_, 1, none⟩ = some (.string x) ∧
 cond (decide (i < (x.size : Int))) (
 ∃ (x1 : ByteArray), w2.cell? ⟨b_, 1, none⟩ = some (.string x1) ∧
 0 ≤ i ∧ ∃ c : UInt8, x1.data.toList[i.toNat]? = some c ∧
 Calls prg 73 #[.int .u8 (c.toNat : Int)] w2 fun e w3 => ∃ (r : Bool), e = .returned (.bool r) ∧
 cond (!r) (
 R (.returned (.bool false)) w3) (
 (Inv1 (IntKind.i64.wrap (i + (1 : Int))) w3 ∧ Mea1 (IntKind.i64.wrap (i + (1 : Int))) w3 < Mea1 i w2))) (
 ∃ (x2 : Int), w2.cell? ⟨b_, 0, none⟩ = some (.int .i64 x2) ∧
 cond (decide (x2 ≥ (1 : Int))) (
 ∃ (x3 : Int), w2.cell? ⟨b_, 0, none⟩ = some (.int .i64 x3) ∧
 cond (decide (x3 ≤ (3 : Int))) (
 ∃ (x4 : ByteArray), w2.cell? ⟨b_, 1, none⟩ = some (.string x4) ∧
 cond (decide ((x4.size : Int) ≥ (1 : Int))) (
 ∃ (x5 : ByteArray), w2.cell? ⟨b_, 1, none⟩ = some (.string x5) ∧
 cond (decide ((x5.size : Int) ≤ (32 : Int))) (
 ∃ (x6 : Int), w2.cell? ⟨b_, 2, none⟩ = some (.int .i64 x6) ∧
 cond (decide (x6 ≥ (0 : Int))) (
 ∃ (x7 : Int), w2.cell? ⟨b_, 2, none⟩ = some (.int .i64 x7) ∧
 R (.returned (.bool (decide (x7 ≤ (1099511627776 : Int))))) w2) (
 R (.returned (.bool false)) w2)) (
 R (.returned (.bool false)) w2)) (
 R (.returned (.bool false)) w2)) (
 R (.returned (.bool false)) w2)) (
 R (.returned (.bool false)) w2))) :
    Calls prg 29 #[.agg #[.int .i64 t_Kind, .string t_Family, .int .i64 t_Serial]] w R :=
  calls_mk (.node .nil (.node (.node .nil (.loop [(3, .int .i64)] [2, 4, 5, 6, 7, 8, 9, 10, 11, 12, 13, 14, 15, 16] .nil)) .nil)) [.agg #[.int .i64 t_Kind, .string t_Family, .int .i64 t_Serial]] w R tabOk (fokOk []) Tryz.func29 (by kernel_rfl) _ (by kernel_rfl) hyp

/-- signet/field.Get -/
theorem f30_wp (l : Option Addr) (nl : Nat) (cl : Nat) (name : ByteArray) (w : World) (R : Ending → World → Prop) (hyp :
 ∃ (Inv1 : ByteArray → Int → Int → World → Prop) (Mea1 : ByteArray → Int → Int → World → Nat), Inv1 ⟨#[]⟩ 0 (IntKind.i64.wrap ((nl : Int) - (1 : Int))) w ∧ ∀ (value : ByteArray) (n i : Int) (fr : Nat → Value) (w1 : World), 
 Inv1 value n i w1 →
 cond (decide (i ≥ (0 : Int))) (
 0 ≤ i ∧ i < (nl : Int) ∧ nilW l fun bk of =>
 ∃ (x : ByteArray), w1.cell? ⟨bk, of + i.toNat * 2, none⟩ = some (.string x) ∧
 cond (decide (x = name)) (
 0 ≤ i ∧ i < (nl : Int) ∧ nilW l fun bk1 of1 =>
 ∃ (value1 : ByteArray), w1.cell? ⟨bk1, of1 + i.toNat * 2 + 1, none⟩ = some (.string value1) ∧
 (Inv1 value1 (IntKind.i64.wrap (n + (1 : Int))) (IntKind.i64.wrap (i - (1 : Int))) w1 ∧ Mea1 value1 (IntKind.i64.wrap (n + (1 : Int))) (IntKind.i64.wrap (i - (1 : Int))) w1 < Mea1 value n i w1)) (
 (Inv1 value n (IntKind.i64.wrap (i - (1 : Int))) w1 ∧ Mea1 value n (IntKind.i64.wrap (i - (1 : Int))) w1 < Mea1 value n i w1))) (
 R (.returned (.tuple #[.string value, .int .i64 n])) w1)) :
    Calls prg 30 #[.slice l nl cl, .string name] w R :=
  calls_mk (.node .nil (.node .nil (.node (.node .nil (.loop [(6, .str), (7, .int .i64), (8, .int .i64)] [12, 13, 14, 15, 16, 17, 18, 19, 20, 21, 22, 23, 24, 25, 26, 27, 28, 29] .nil)) .nil))) [.slice l nl cl, .string name] w R tabOk (fokOk []) Tryz.func30 (by kernel_rfl) _ (by kernel_rfl) hyp

/-- signet/signetref04.Parse -/
theorem f31_wp (s : ByteArray) (w : World) (R : Ending → World → Prop) (hyp :
 cond (decide ((s.size : Int) > (16384 : Int))) (
 R (.returned (.tuple #[.slice none 0 0, .int .i64 2])) w) (
 ∃ (Inv1 : Option Addr → Nat → Nat → Int → Int → World → Prop) (Mea1 : Option Addr → Nat → Nat → Int → Int → World → Nat), Inv1 none 0 0 0 0 w ∧ ∀ (l : Option Addr) (nl cl : Nat) (from_ i : Int) (fr : Nat → Value) (w1 : World), 
 Inv1 l nl cl from_ i w1 →
 cond (decide (i ≤ (s.size : Int))) (
 ∃ (Cut1 : World → Prop), (
 cond (decide (i < (s.size : Int))) (
 0 ≤ i ∧ ∃ c : UInt8, s.data.toList[i.toNat]? = some c ∧
 cond (decide ((c.toNat : Int) ≠ (38 : Int))) (
 (Inv1 l nl cl from_ (IntKind.i64.wrap (i + (1 : Int))) w1 ∧ Mea1 l nl cl from_ (IntKind.i64.wrap (i + (1 : Int))) w1 < Mea1 l nl cl from_ i w1)) (
 Cut1 w1)) (
 Cut1 w1)) ∧
 ∀ (fr1 : Nat → Value) (w2 : World), Cut1 w2 →
 cond (decide (i > from_)) (
 cond (decide ((nl : Int) = (64 : Int))) (
 R (.returned (.tuple #[.slice none 0 0, .int .i64 2])) w2) (
 0 ≤ from_ ∧ 0 ≤ i ∧ from_.toNat ≤ i.toNat ∧ i.toNat ≤ s.size ∧
 Calls prg 74 #[.string (s.extract from_.toNat i.toNat)] w2 fun e w3 => ∃ (r r1 : ByteArray), ∃ (r2 : Int), e = .returned (.tuple #[.agg #[.string r, .string r1], .int .i64 r2]) ∧
 ∀ (b_ : Nat) (w4 : World), b_ = w3.heap.size → w4 = w3.alloc (.cells #[.string ⟨#[]⟩, .string ⟨#[]⟩] 56) →
 Sto w4 b_ 0 [.string r, .string r1] ∧ ∀ w5, w5 = w4.setCells b_ 0 [.string r, .string r1] →
 cond (decide (r2 ≠ (0 : Int))) (
 R (.returned (.tuple #[.slice none 0 0, .int .i64 r2])) w5) (
 ∃ (Name Value : ByteArray), w5.rangeAt b_ 0 [.string Name, .string Value] ∧
 ∀ (b_1 : Nat) (w6 : World), b_1 = w5.heap.size → w6 = w5.alloc (.cells #[.string Name, .string Value] 56) →
 ∃ (l1 : Option Addr) (nl1 cl1 : Nat) (w7 : World), (Builtin.append_ #[51, 51] 51 #[.slice l nl cl, .slice (some ⟨b_1, 0, none⟩) 1 1]).run prg w6 = .ok (.slice l1 nl1 cl1) w7 ∧
 (Inv1 l1 nl1 cl1 (IntKind.i64.wrap (i + (1 : Int))) (IntKind.i64.wrap (i + (1 : Int))) w7 ∧ Mea1 l1 nl1 cl1 (IntKind.i64.wrap (i + (1 : Int))) (IntKind.i64.wrap (i + (1 : Int))) w7 < Mea1 l nl cl from_ i w1)))) (
 (Inv1 l nl cl (IntKind.i64.wrap (i + (1 : Int))) (IntKind.i64.wrap (i + (1 : Int))) w2 ∧ Mea1 l nl cl (IntKind.i64.wrap (i + (1 : Int))) (IntKind.i64.wrap (i + (1 : Int))) w2 < Mea1 l nl cl from_ i w1))) (
 R (.returned (.tuple #[.slice l nl cl, .int .i64 0])) w1))) :
    Calls prg 31 #[.string s] w R :=
  calls_mk (.node .nil (.node .nil (.node .nil (.node .nil (.node (.node .nil (.loop [(4, .slice), (5, .int .i64), (6, .int .i64)] [2, 3, 7, 8, 12, 13, 14, 15, 16, 17, 18, 19, 20, 21, 22, 23, 24, 25, 26, 27, 28, 29, 30, 31, 32, 33, 34, 35, 36, 37, 38, 39, 40, 41, 42, 43, 44, 45, 46, 47, 48, 49, 50] (.node .nil (.node (.cut [] [18, 19, 20, 21, 22, 23, 24, 25, 26, 27] .nil .nil) .nil)))) .nil))))) [.string s] w R tabOk (fokOk []) Tryz.func31 (by kernel_rfl) _ (by kernel_rfl) hyp

/-- signet/signetref16.Right -/
theorem f32_wp (t_Kind : Int) (t_Family : ByteArray) (t_Serial : Int) (w : World) (R : Ending → World → Prop) (hyp :
 ∀ (b_ : Nat) (w1 : World), b_ = w.heap.size → w1 = w.alloc (.cells #[.int .i64 t_Kind, .string t_Family, .int .i64 t_Serial] 47) →
 ∃ (Cut1 : World → Prop), (
 ∃ (x : Int), w1.cell? ⟨b_, 0, none⟩ = some (.int .i64 x) ∧
 cond (decide (x < (1 : Int))) (
 R (.returned (.bool false)) w1) (
 ∃ (x1 : Int), w1.cell? ⟨b_, 0, none⟩ = some (.int .i64 x1) ∧
 cond (decide (x1 > (3 : Int))) (
 R (.returned (.bool false)) w1) (
 ∃ (x2 : ByteArray), w1.cell? ⟨b_, 1, none⟩ = some (.string x2) ∧
 cond (decide ((x2.size : Int) = (0 : Int))) (
 R (.returned (.bool false)) w1) (
 ∃ (x3 : ByteArray), w1.cell? ⟨b_, 1, none⟩ = some (.string x3) ∧
 cond (decide ((x3.size : Int) > (32 : Int))) (
 R (.returned (.bool false)) w1) (
 ∃ (x4 : Int), w1.cell? ⟨b_, 2, none⟩ = some (.int .i64 x4) ∧
 cond (decide (x4 < (0 : Int))) (
 R (.returned (.bool false)) w1) (
 ∃ (x5 : Int), w1.cell? ⟨b_, 2, none⟩ = some (.int .i64 x5) ∧
 cond (decide (x5 > (1099511627776 : Int))) (
 R (.returned (.bool false)) w1) (
 Cut1 w1))))))) ∧
 ∀ (fr : Nat → Value) (w2 : World), Cut1 w2 →
 ∃ (Inv1 : Int → World → Prop) (Mea1 : Int → World → Nat), Inv1 0 w2 ∧ ∀ (i : Int) (fr1 : Nat → Value) (w3 : World), 
 Inv1 i w3 →
 ∃ (x6 : ByteArray), w3.cell? ⟨b_, 1, none⟩ = some (.string x6) ∧
 cond (decide (i < (x6.size : Int))) (
 ∃ (x7 : ByteArray), w3.cell? ⟨b_, 1, none⟩ = some (.string x7) ∧
 0 ≤ i ∧ ∃ c : UInt8, x7.data.toList[i.toNat]? = some c ∧
 Calls prg 75 #[.int .u8 (c.toNat : Int)] w3 fun e w4 => ∃ (r : Bool), e = .returned (.bool r) ∧
 cond (!r) (
 R (.returned (.bool false)) w4) (
 (Inv1 (IntKind.i64.wrap (i + (1 : Int))) w4 ∧ Mea1 (IntKind.i64.wrap (i + (1 : Int))) w4 < Mea1 i w3))) (
 R (.returned (.bool true)) w3)) :
    Calls prg 32 #[.agg #[.int .i64 t_Kind, .string t_Family, .int .i64 t_Serial]] w R :=
  calls_mk (.node .nil (.cut [] [2, 4, 5, 6, 7, 8, 9, 10, 11, 12, 13, 14, 15, 16, 17, 18, 19, 20, 21, 22, 23, 24, 25, 26, 27, 28, 29, 30, 31, 32, 33] .nil (.node (.node .nil (.loop [(3, .int .i64)] [2, 34, 35, 36, 37, 38, 39, 40, 41, 42, 43, 44, 45, 46] .nil)) .nil))) [.agg #[.int .i64 t_Kind, .string t_Family, .int .i64 t_Serial]] w R tabOk (fokOk []) Tryz.func32 (by kernel_rfl) _ (by kernel_rfl) hyp

/-- signet/signetref19.None -/
theorem f33_wp  (w : World) (R : Ending → World → Prop) (hyp :
 ∀ (b_ : Nat) (w1 : World), b_ = w.heap.size → w1 = w.alloc (.cells #[.int .i64 0, .string ⟨#[]⟩, .int .i64 0, .int .i64 0, .string ⟨#[]⟩, .string ⟨#[]⟩, .slice none 0 0, .string ⟨#[]⟩, .string ⟨#[]⟩, .string ⟨#[]⟩, .string ⟨#[]⟩, .bool false, .int .i64 0] 35) →
 Sto w1 b_ 0 [.int .i64 0, .string ⟨#[]⟩, .int .i64 0, .int .i64 0, .string ⟨#[]⟩, .string ⟨#[]⟩, .slice none 0 0, .string ⟨#[]⟩, .string ⟨#[]⟩, .string ⟨#[]⟩, .string ⟨#[]⟩, .bool false, .int .i64 0] ∧ ∀ w2, w2 = w1.setCells b_ 0 [.int .i64 0, .string ⟨#[]⟩, .int .i64 0, .int .i64 0, .string ⟨#[]⟩, .string ⟨#[]⟩, .slice none 0 0, .string ⟨#[]⟩, .string ⟨#[]⟩, .string ⟨#[]⟩, .string ⟨#[]⟩, .bool false, .int .i64 0] →
 ∃ (Kind : Int) (Family : ByteArray) (Serial Token : Int) (Client User : ByteArray) (Scope : Option Addr) (nScope cScope : Nat) (Redirect Challenge Method Verifier : ByteArray) (Refresh : Bool) (Edge : Int), w2.rangeAt b_ 0 [.int .i64 Kind, .string Family, .int .i64 Serial, .int .i64 Token, .string Client, .string User, .slice Scope nScope cScope, .string Redirect, .string Challenge, .string Method, .string Verifier, .bool Refresh, .int .i64 Edge] ∧
 R (.returned (.agg #[.int .i64 Kind, .string Family, .int .i64 Serial, .int .i64 Token, .string Client, .string User, .slice Scope nScope cScope, .string Redirect, .string Challenge, .string Method, .string Verifier, .bool Refresh, .int .i64 Edge])) w2) :
    Calls prg 33 #[] w R :=
  calls_mk .nil [] w R tabOk (fokOk []) Tryz.func33 (by kernel_rfl) _ (by kernel_rfl) hyp

/-- signet/signetref04.Get -/
theorem f34_wp (l : Option Addr) (nl : Nat) (cl : Nat) (name : ByteArray) (w : World) (R : Ending → World → Prop) (hyp :
 ∃ (Inv1 : Int → ByteArray → Int → World → Prop) (Mea1 : Int → ByteArray → Int → World → Nat), Inv1 0 ⟨#[]⟩ 0 w ∧ ∀ (n : Int) (value : ByteArray) (i : Int) (fr : Nat → Value) (w1 : World), 
 Inv1 n value i w1 →
 cond (decide (i < (nl : Int))) (
 0 ≤ i ∧ i < (nl : Int) ∧ nilW l fun bk of =>
 ∃ (x : ByteArray), w1.cell? ⟨bk, of + i.toNat * 2, none⟩ = some (.string x) ∧
 cond (decide (x = name)) (
 cond (decide (n = (0 : Int))) (
 0 ≤ i ∧ i < (nl : Int) ∧ nilW l fun bk1 of1 =>
 ∃ (value1 : ByteArray), w1.cell? ⟨bk1, of1 + i.toNat * 2 + 1, none⟩ = some (.string value1) ∧
 (Inv1 (IntKind.i64.wrap (n + (1 : Int))) value1 (IntKind.i64.wrap (i + (1 : Int))) w1 ∧ Mea1 (IntKind.i64.wrap (n + (1 : Int))) value1 (IntKind.i64.wrap (i + (1 : Int))) w1 < Mea1 n value i w1)) (
 (Inv1 (IntKind.i64.wrap (n + (1 : Int))) value (IntKind.i64.wrap (i + (1 : Int))) w1 ∧ Mea1 (IntKind.i64.wrap (n + (1 : Int))) value (IntKind.i64.wrap (i + (1 : Int))) w1 < Mea1 n value i w1))) (
 (Inv1 n value (IntKind.i64.wrap (i + (1 : Int))) w1 ∧ Mea1 n value (IntKind.i64.wrap (i + (1 : Int))) w1 < Mea1 n value i w1))) (
 R (.returned (.tuple #[.string value, .int .i64 n])) w1)) :
    Calls prg 34 #[.slice l nl cl, .string name] w R :=
  calls_mk (.node .nil (.node .nil (.node .nil (.node (.node .nil (.loop [(6, .int .i64), (7, .str), (8, .int .i64)] [9, 10, 11, 12, 13, 14, 15, 16, 17, 18, 19, 20, 21, 22, 23, 24, 25, 26, 27, 28, 29, 30] .nil)) .nil)))) [.slice l nl cl, .string name] w R tabOk (fokOk []) Tryz.func34 (by kernel_rfl) _ (by kernel_rfl) hyp

end Go.Proofs.YtbbcofdibkgalaaGreatDoor
