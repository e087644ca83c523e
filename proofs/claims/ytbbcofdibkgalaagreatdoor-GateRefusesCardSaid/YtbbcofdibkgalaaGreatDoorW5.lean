import Derived.Test.YtbbcofdibkgalaaGreatDoorWb
set_option linter.unusedVariables false
set_option maxRecDepth 100000
set_option maxHeartbeats 4000000
namespace Go.Proofs.YtbbcofdibkgalaaGreatDoor
open Go.Eng
/-- signet/signetref19.token -/
theorem f37_wp (l : Option Addr) (nl : Nat) (cl : Nat) (secret : Option Addr) (nsecret : Nat) (csecret : Nat) (family : ByteArray) (id : ByteArray) (form : Option Addr) (nform : Nat) (cform : Nat) (w : World) (R : Ending → World → Prop) (hyp :
 ∀ (b_ : Nat) (w1 : World), b_ = w.heap.size → w1 = w.alloc (.cells #[.int .i64 0, .string ⟨#[]⟩, .int .i64 0, .int .i64 0, .string ⟨#[]⟩, .string ⟨#[]⟩, .slice none 0 0, .string ⟨#[]⟩, .string ⟨#[]⟩, .string ⟨#[]⟩, .string ⟨#[]⟩, .bool false, .int .i64 0] 35) →
 Calls prg 76 #[.slice l nl cl, .string id] w1 fun e w2 => ∃ (r r1 : ByteArray) (r2 : Bool) (r3 : Option Addr) (nr cr : Nat) (r4 : Option Addr) (nr1 cr1 : Nat) (r5 : Option Addr) (nr2 cr2 : Nat), ∃ (r6 : Bool), e = .returned (.tuple #[.agg #[.string r, .string r1, .bool r2, .slice r3 nr cr, .slice r4 nr1 cr1, .slice r5 nr2 cr2], .bool r6]) ∧
 ∀ (b_1 : Nat) (w3 : World), b_1 = w2.heap.size → w3 = w2.alloc (.cells #[.string ⟨#[]⟩, .string ⟨#[]⟩, .bool false, .slice none 0 0, .slice none 0 0, .slice none 0 0] 64) →
 Sto w3 b_1 0 [.string r, .string r1, .bool r2, .slice r3 nr cr, .slice r4 nr1 cr1, .slice r5 nr2 cr2] ∧ ∀ w4, w4 = w3.setCells b_1 0 [.string r, .string r1, .bool r2, .slice r3 nr cr, .slice r4 nr1 cr1, .slice r5 nr2 cr2] →
 Calls prg 38 #[.slice form nform cform, .string ⟨#[103, 114, 97, 110, 116, 95, 116, 121, 112, 101]⟩] w4 fun e w5 => ∃ (grant : ByteArray), e = .returned (.string grant) ∧
 cond (decide (grant = ⟨#[]⟩)) (
 Calls prg 33 #[] w5 fun e w6 => ∃ (Kind : Int) (Family : ByteArray) (Serial Token : Int) (Client User : ByteArray) (Scope : Option Addr) (nScope cScope : Nat) (Redirect Challenge Method Verifier : ByteArray) (Refresh : Bool) (Edge : Int), e = .returned (.agg #[.int .i64 Kind, .string Family, .int .i64 Serial, .int .i64 Token, .string Client, .string User, .slice Scope nScope cScope, .string Redirect, .string Challenge, .string Method, .string Verifier, .bool Refresh, .int .i64 Edge]) ∧
 Sto w6 b_ 0 [.int .i64 Kind, .string Family, .int .i64 Serial, .int .i64 Token, .string Client, .string User, .slice Scope nScope cScope, .string Redirect, .string Challenge, .string Method, .string Verifier, .bool Refresh, .int .i64 Edge] ∧ ∀ w7, w7 = w6.setCells b_ 0 [.int .i64 Kind, .string Family, .int .i64 Serial, .int .i64 Token, .string Client, .string User, .slice Scope nScope cScope, .string Redirect, .string Challenge, .string Method, .string Verifier, .bool Refresh, .int .i64 Edge] →
 ∃ (Kind1 : Int) (Family1 : ByteArray) (Serial1 Token1 : Int) (Client1 User1 : ByteArray) (Scope1 : Option Addr) (nScope1 cScope1 : Nat) (Redirect1 Challenge1 Method1 Verifier1 : ByteArray) (Refresh1 : Bool) (Edge1 : Int), w7.rangeAt b_ 0 [.int .i64 Kind1, .string Family1, .int .i64 Serial1, .int .i64 Token1, .string Client1, .string User1, .slice Scope1 nScope1 cScope1, .string Redirect1, .string Challenge1, .string Method1, .string Verifier1, .bool Refresh1, .int .i64 Edge1] ∧
 R (.returned (.tuple #[.agg #[.int .i64 Kind1, .string Family1, .int .i64 Serial1, .int .i64 Token1, .string Client1, .string User1, .slice Scope1 nScope1 cScope1, .string Redirect1, .string Challenge1, .string Method1, .string Verifier1, .bool Refresh1, .int .i64 Edge1], .int .i64 1])) w7) (
 ∃ (Cut1 : World → Prop), (
 cond (decide (grant ≠ ⟨#[97, 117, 116, 104, 111, 114, 105, 122, 97, 116, 105, 111, 110, 95, 99, 111, 100, 101]⟩)) (
 cond (decide (grant ≠ ⟨#[99, 108, 105, 101, 110, 116, 95, 99, 114, 101, 100, 101, 110, 116, 105, 97, 108, 115]⟩)) (
 cond (decide (grant ≠ ⟨#[114, 101, 102, 114, 101, 115, 104, 95, 116, 111, 107, 101, 110]⟩)) (
 Calls prg 33 #[] w5 fun e w8 => ∃ (Kind2 : Int) (Family2 : ByteArray) (Serial2 Token2 : Int) (Client2 User2 : ByteArray) (Scope2 : Option Addr) (nScope2 cScope2 : Nat) (Redirect2 Challenge2 Method2 Verifier2 : ByteArray) (Refresh2 : Bool) (Edge2 : Int), e = .returned (.agg #[.int .i64 Kind2, .string Family2, .int .i64 Serial2, .int .i64 Token2, .string Client2, .string User2, .slice Scope2 nScope2 cScope2, .string Redirect2, .string Challenge2, .string Method2, .string Verifier2, .bool Refresh2, .int .i64 Edge2]) ∧
 Sto w8 b_ 0 [.int .i64 Kind2, .string Family2, .int .i64 Serial2, .int .i64 Token2, .string Client2, .string User2, .slice Scope2 nScope2 cScope2, .string Redirect2, .string Challenge2, .string Method2, .string Verifier2, .bool Refresh2, .int .i64 Edge2] ∧ ∀ w9, w9 = w8.setCells b_ 0 [.int .i64 Kind2, .string Family2, .int .i64 Serial2, .int .i64 Token2, .string Client2, .string User2, .slice Scope2 nScope2 cScope2, .string Redirect2, .string Challenge2, .string Method2, .string Verifier2, .bool Refresh2, .int .i64 Edge2] →
 ∃ (Kind3 : Int) (Family3 : ByteArray) (Serial3 Token3 : Int) (Client3 User3 : ByteArray) (Scope3 : Option Addr) (nScope3 cScope3 : Nat) (Redirect3 Challenge3 Method3 Verifier3 : ByteArray) (Refresh3 : Bool) (Edge3 : Int), w9.rangeAt b_ 0 [.int .i64 Kind3, .string Family3, .int .i64 Serial3, .int .i64 Token3, .string Client3, .string User3, .slice Scope3 nScope3 cScope3, .string Redirect3, .string Challenge3, .string Method3, .string Verifier3, .bool Refresh3, .int .i64 Edge3] ∧
 R (.returned (.tuple #[.agg #[.int .i64 Kind3, .string Family3, .int .i64 Serial3, .int .i64 Token3, .string Client3, .string User3, .slice Scope3 nScope3 cScope3, .string Redirect3, .string Challenge3, .string Method3, .string Verifier3, .bool Refresh3, .int .i64 Edge3], .int .i64 5])) w9) (
 Cut1 w5)) (
 Cut1 w5)) (
 Cut1 w5)) ∧
 ∀ (fr : Nat → Value) (w10 : World), Cut1 w10 →
 ∃ (x : Option Addr) (nx cx : Nat), w10.cell? ⟨b_1, 5, none⟩ = some (.slice x nx cx) ∧
 Calls prg 50 #[.slice x nx cx, .string grant] w10 fun e w11 => ∃ (r7 : Bool), e = .returned (.bool r7) ∧
 cond (!r7) (
 Calls prg 33 #[] w11 fun e w12 => ∃ (Kind4 : Int) (Family4 : ByteArray) (Serial4 Token4 : Int) (Client4 User4 : ByteArray) (Scope4 : Option Addr) (nScope4 cScope4 : Nat) (Redirect4 Challenge4 Method4 Verifier4 : ByteArray) (Refresh4 : Bool) (Edge4 : Int), e = .returned (.agg #[.int .i64 Kind4, .string Family4, .int .i64 Serial4, .int .i64 Token4, .string Client4, .string User4, .slice Scope4 nScope4 cScope4, .string Redirect4, .string Challenge4, .string Method4, .string Verifier4, .bool Refresh4, .int .i64 Edge4]) ∧
 Sto w12 b_ 0 [.int .i64 Kind4, .string Family4, .int .i64 Serial4, .int .i64 Token4, .string Client4, .string User4, .slice Scope4 nScope4 cScope4, .string Redirect4, .string Challenge4, .string Method4, .string Verifier4, .bool Refresh4, .int .i64 Edge4] ∧ ∀ w13, w13 = w12.setCells b_ 0 [.int .i64 Kind4, .string Family4, .int .i64 Serial4, .int .i64 Token4, .string Client4, .string User4, .slice Scope4 nScope4 cScope4, .string Redirect4, .string Challenge4, .string Method4, .string Verifier4, .bool Refresh4, .int .i64 Edge4] →
 ∃ (Kind5 : Int) (Family5 : ByteArray) (Serial5 Token5 : Int) (Client5 User5 : ByteArray) (Scope5 : Option Addr) (nScope5 cScope5 : Nat) (Redirect5 Challenge5 Method5 Verifier5 : ByteArray) (Refresh5 : Bool) (Edge5 : Int), w13.rangeAt b_ 0 [.int .i64 Kind5, .string Family5, .int .i64 Serial5, .int .i64 Token5, .string Client5, .string User5, .slice Scope5 nScope5 cScope5, .string Redirect5, .string Challenge5, .string Method5, .string Verifier5, .bool Refresh5, .int .i64 Edge5] ∧
 R (.returned (.tuple #[.agg #[.int .i64 Kind5, .string Family5, .int .i64 Serial5, .int .i64 Token5, .string Client5, .string User5, .slice Scope5 nScope5 cScope5, .string Redirect5, .string Challenge5, .string Method5, .string Verifier5, .bool Refresh5, .int .i64 Edge5], .int .i64 4])) w13) (
 cond (decide (grant = ⟨#[97, 117, 116, 104, 111, 114, 105, 122, 97, 116, 105, 111, 110, 95, 99, 111, 100, 101]⟩)) (
 Calls prg 38 #[.slice form nform cform, .string ⟨#[99, 111, 100, 101]⟩] w11 fun e w14 => ∃ (s : ByteArray), e = .returned (.string s) ∧
 cond (decide (s = ⟨#[]⟩)) (
 Calls prg 33 #[] w14 fun e w15 => ∃ (Kind6 : Int) (Family6 : ByteArray) (Serial6 Token6 : Int) (Client6 User6 : ByteArray) (Scope6 : Option Addr) (nScope6 cScope6 : Nat) (Redirect6 Challenge6 Method6 Verifier6 : ByteArray) (Refresh6 : Bool) (Edge6 : Int), e = .returned (.agg #[.int .i64 Kind6, .string Family6, .int .i64 Serial6, .int .i64 Token6, .string Client6, .string User6, .slice Scope6 nScope6 cScope6, .string Redirect6, .string Challenge6, .string Method6, .string Verifier6, .bool Refresh6, .int .i64 Edge6]) ∧
 Sto w15 b_ 0 [.int .i64 Kind6, .string Family6, .int .i64 Serial6, .int .i64 Token6, .string Client6, .string User6, .slice Scope6 nScope6 cScope6, .string Redirect6, .string Challenge6, .string Method6, .string Verifier6, .bool Refresh6, .int .i64 Edge6] ∧ ∀ w16, w16 = w15.setCells b_ 0 [.int .i64 Kind6, .string Family6, .int .i64 Serial6, .int .i64 Token6, .string Client6, .string User6, .slice Scope6 nScope6 cScope6, .string Redirect6, .string Challenge6, .string Method6, .string Verifier6, .bool Refresh6, .int .i64 Edge6] →
 ∃ (Kind7 : Int) (Family7 : ByteArray) (Serial7 Token7 : Int) (Client7 User7 : ByteArray) (Scope7 : Option Addr) (nScope7 cScope7 : Nat) (Redirect7 Challenge7 Method7 Verifier7 : ByteArray) (Refresh7 : Bool) (Edge7 : Int), w16.rangeAt b_ 0 [.int .i64 Kind7, .string Family7, .int .i64 Serial7, .int .i64 Token7, .string Client7, .string User7, .slice Scope7 nScope7 cScope7, .string Redirect7, .string Challenge7, .string Method7, .string Verifier7, .bool Refresh7, .int .i64 Edge7] ∧
 R (.returned (.tuple #[.agg #[.int .i64 Kind7, .string Family7, .int .i64 Serial7, .int .i64 Token7, .string Client7, .string User7, .slice Scope7 nScope7 cScope7, .string Redirect7, .string Challenge7, .string Method7, .string Verifier7, .bool Refresh7, .int .i64 Edge7], .int .i64 1])) w16) (
 Calls prg 39 #[.slice secret nsecret csecret, .string s] w14 fun e w17 => ∃ (r8 : Int) (r9 : ByteArray) (r10 : Int), ∃ (r11 : Int), e = .returned (.tuple #[.agg #[.int .i64 r8, .string r9, .int .i64 r10], .int .i64 r11]) ∧
 ∀ (b_2 : Nat) (w18 : World), b_2 = w17.heap.size → w18 = w17.alloc (.cells #[.int .i64 0, .string ⟨#[]⟩, .int .i64 0] 47) →
 Sto w18 b_2 0 [.int .i64 r8, .string r9, .int .i64 r10] ∧ ∀ w19, w19 = w18.setCells b_2 0 [.int .i64 r8, .string r9, .int .i64 r10] →
 Calls prg 38 #[.slice form nform cform, .string ⟨#[114, 101, 100, 105, 114, 101, 99, 116, 95, 117, 114, 105]⟩] w19 fun e w20 => ∃ (uri : ByteArray), e = .returned (.string uri) ∧
 Calls prg 38 #[.slice form nform cform, .string ⟨#[99, 111, 100, 101, 95, 118, 101, 114, 105, 102, 105, 101, 114]⟩] w20 fun e w21 => ∃ (verifier : ByteArray), e = .returned (.string verifier) ∧
 cond (decide (r11 ≠ (0 : Int))) (
 Calls prg 33 #[] w21 fun e w22 => ∃ (Kind8 : Int) (Family8 : ByteArray) (Serial8 Token8 : Int) (Client8 User8 : ByteArray) (Scope8 : Option Addr) (nScope8 cScope8 : Nat) (Redirect8 Challenge8 Method8 Verifier8 : ByteArray) (Refresh8 : Bool) (Edge8 : Int), e = .returned (.agg #[.int .i64 Kind8, .string Family8, .int .i64 Serial8, .int .i64 Token8, .string Client8, .string User8, .slice Scope8 nScope8 cScope8, .string Redirect8, .string Challenge8, .string Method8, .string Verifier8, .bool Refresh8, .int .i64 Edge8]) ∧
 Sto w22 b_ 0 [.int .i64 Kind8, .string Family8, .int .i64 Serial8, .int .i64 Token8, .string Client8, .string User8, .slice Scope8 nScope8 cScope8, .string Redirect8, .string Challenge8, .string Method8, .string Verifier8, .bool Refresh8, .int .i64 Edge8] ∧ ∀ w23, w23 = w22.setCells b_ 0 [.int .i64 Kind8, .string Family8, .int .i64 Serial8, .int .i64 Token8, .string Client8, .string User8, .slice Scope8 nScope8 cScope8, .string Redirect8, .string Challenge8, .string Method8, .string Verifier8, .bool Refresh8, .int .i64 Edge8] →
 ∃ (Kind9 : Int) (Family9 : ByteArray) (Serial9 Token9 : Int) (Client9 User9 : ByteArray) (Scope9 : Option Addr) (nScope9 cScope9 : Nat) (Redirect9 Challenge9 Method9 Verifier9 : ByteArray) (Refresh9 : Bool) (Edge9 : Int), w23.rangeAt b_ 0 [.int .i64 Kind9, .string Family9, .int .i64 Serial9, .int .i64 Token9, .string Client9, .string User9, .slice Scope9 nScope9 cScope9, .string Redirect9, .string Challenge9, .string Method9, .string Verifier9, .bool Refresh9, .int .i64 Edge9] ∧
 R (.returned (.tuple #[.agg #[.int .i64 Kind9, .string Family9, .int .i64 Serial9, .int .i64 Token9, .string Client9, .string User9, .slice Scope9 nScope9 cScope9, .string Redirect9, .string Challenge9, .string Method9, .string Verifier9, .bool Refresh9, .int .i64 Edge9], .int .i64 3])) w23) (
 ∃ (x1 : Int), w21.cell? ⟨b_2, 0, none⟩ = some (.int .i64 x1) ∧
 cond (decide (x1 ≠ (1 : Int))) (
 Calls prg 33 #[] w21 fun e w24 => ∃ (Kind10 : Int) (Family10 : ByteArray) (Serial10 Token10 : Int) (Client10 User10 : ByteArray) (Scope10 : Option Addr) (nScope10 cScope10 : Nat) (Redirect10 Challenge10 Method10 Verifier10 : ByteArray) (Refresh10 : Bool) (Edge10 : Int), e = .returned (.agg #[.int .i64 Kind10, .string Family10, .int .i64 Serial10, .int .i64 Token10, .string Client10, .string User10, .slice Scope10 nScope10 cScope10, .string Redirect10, .string Challenge10, .string Method10, .string Verifier10, .bool Refresh10, .int .i64 Edge10]) ∧
 Sto w24 b_ 0 [.int .i64 Kind10, .string Family10, .int .i64 Serial10, .int .i64 Token10, .string Client10, .string User10, .slice Scope10 nScope10 cScope10, .string Redirect10, .string Challenge10, .string Method10, .string Verifier10, .bool Refresh10, .int .i64 Edge10] ∧ ∀ w25, w25 = w24.setCells b_ 0 [.int .i64 Kind10, .string Family10, .int .i64 Serial10, .int .i64 Token10, .string Client10, .string User10, .slice Scope10 nScope10 cScope10, .string Redirect10, .string Challenge10, .string Method10, .string Verifier10, .bool Refresh10, .int .i64 Edge10] →
 ∃ (Kind11 : Int) (Family11 : ByteArray) (Serial11 Token11 : Int) (Client11 User11 : ByteArray) (Scope11 : Option Addr) (nScope11 cScope11 : Nat) (Redirect11 Challenge11 Method11 Verifier11 : ByteArray) (Refresh11 : Bool) (Edge11 : Int), w25.rangeAt b_ 0 [.int .i64 Kind11, .string Family11, .int .i64 Serial11, .int .i64 Token11, .string Client11, .string User11, .slice Scope11 nScope11 cScope11, .string Redirect11, .string Challenge11, .string Method11, .string Verifier11, .bool Refresh11, .int .i64 Edge11] ∧
 R (.returned (.tuple #[.agg #[.int .i64 Kind11, .string Family11, .int .i64 Serial11, .int .i64 Token11, .string Client11, .string User11, .slice Scope11 nScope11 cScope11, .string Redirect11, .string Challenge11, .string Method11, .string Verifier11, .bool Refresh11, .int .i64 Edge11], .int .i64 3])) w25) (
 ∃ (x2 : Int), w21.cell? ⟨b_2, 2, none⟩ = some (.int .i64 x2) ∧
 cond (decide (x2 ≠ (0 : Int))) (
 Calls prg 33 #[] w21 fun e w26 => ∃ (Kind12 : Int) (Family12 : ByteArray) (Serial12 Token12 : Int) (Client12 User12 : ByteArray) (Scope12 : Option Addr) (nScope12 cScope12 : Nat) (Redirect12 Challenge12 Method12 Verifier12 : ByteArray) (Refresh12 : Bool) (Edge12 : Int), e = .returned (.agg #[.int .i64 Kind12, .string Family12, .int .i64 Serial12, .int .i64 Token12, .string Client12, .string User12, .slice Scope12 nScope12 cScope12, .string Redirect12, .string Challenge12, .string Method12, .string Verifier12, .bool Refresh12, .int .i64 Edge12]) ∧
 Sto w26 b_ 0 [.int .i64 Kind12, .string Family12, .int .i64 Serial12, .int .i64 Token12, .string Client12, .string User12, .slice Scope12 nScope12 cScope12, .string Redirect12, .string Challenge12, .string Method12, .string Verifier12, .bool Refresh12, .int .i64 Edge12] ∧ ∀ w27, w27 = w26.setCells b_ 0 [.int .i64 Kind12, .string Family12, .int .i64 Serial12, .int .i64 Token12, .string Client12, .string User12, .slice Scope12 nScope12 cScope12, .string Redirect12, .string Challenge12, .string Method12, .string Verifier12, .bool Refresh12, .int .i64 Edge12] →
 ∃ (Kind13 : Int) (Family13 : ByteArray) (Serial13 Token13 : Int) (Client13 User13 : ByteArray) (Scope13 : Option Addr) (nScope13 cScope13 : Nat) (Redirect13 Challenge13 Method13 Verifier13 : ByteArray) (Refresh13 : Bool) (Edge13 : Int), w27.rangeAt b_ 0 [.int .i64 Kind13, .string Family13, .int .i64 Serial13, .int .i64 Token13, .string Client13, .string User13, .slice Scope13 nScope13 cScope13, .string Redirect13, .string Challenge13, .string Method13, .string Verifier13, .bool Refresh13, .int .i64 Edge13] ∧
 R (.returned (.tuple #[.agg #[.int .i64 Kind13, .string Family13, .int .i64 Serial13, .int .i64 Token13, .string Client13, .string User13, .slice Scope13 nScope13 cScope13, .string Redirect13, .string Challenge13, .string Method13, .string Verifier13, .bool Refresh13, .int .i64 Edge13], .int .i64 3])) w27) (
 cond (decide ((uri.size : Int) > (128 : Int))) (
 Calls prg 33 #[] w21 fun e w28 => ∃ (Kind14 : Int) (Family14 : ByteArray) (Serial14 Token14 : Int) (Client14 User14 : ByteArray) (Scope14 : Option Addr) (nScope14 cScope14 : Nat) (Redirect14 Challenge14 Method14 Verifier14 : ByteArray) (Refresh14 : Bool) (Edge14 : Int), e = .returned (.agg #[.int .i64 Kind14, .string Family14, .int .i64 Serial14, .int .i64 Token14, .string Client14, .string User14, .slice Scope14 nScope14 cScope14, .string Redirect14, .string Challenge14, .string Method14, .string Verifier14, .bool Refresh14, .int .i64 Edge14]) ∧
 Sto w28 b_ 0 [.int .i64 Kind14, .string Family14, .int .i64 Serial14, .int .i64 Token14, .string Client14, .string User14, .slice Scope14 nScope14 cScope14, .string Redirect14, .string Challenge14, .string Method14, .string Verifier14, .bool Refresh14, .int .i64 Edge14] ∧ ∀ w29, w29 = w28.setCells b_ 0 [.int .i64 Kind14, .string Family14, .int .i64 Serial14, .int .i64 Token14, .string Client14, .string User14, .slice Scope14 nScope14 cScope14, .string Redirect14, .string Challenge14, .string Method14, .string Verifier14, .bool Refresh14, .int .i64 Edge14] →
 ∃ (Kind15 : Int) (Family15 : ByteArray) (Serial15 Token15 : Int) (Client15 User15 : ByteArray) (Scope15 : Option Addr) (nScope15 cScope15 : Nat) (Redirect15 Challenge15 Method15 Verifier15 : ByteArray) (Refresh15 : Bool) (Edge15 : Int), w29.rangeAt b_ 0 [.int .i64 Kind15, .string Family15, .int .i64 Serial15, .int .i64 Token15, .string Client15, .string User15, .slice Scope15 nScope15 cScope15, .string Redirect15, .string Challenge15, .string Method15, .string Verifier15, .bool Refresh15, .int .i64 Edge15] ∧
 R (.returned (.tuple #[.agg #[.int .i64 Kind15, .string Family15, .int .i64 Serial15, .int .i64 Token15, .string Client15, .string User15, .slice Scope15 nScope15 cScope15, .string Redirect15, .string Challenge15, .string Method15, .string Verifier15, .bool Refresh15, .int .i64 Edge15], .int .i64 3])) w29) (
 cond (decide ((verifier.size : Int) > (128 : Int))) (
 Calls prg 33 #[] w21 fun e w30 => ∃ (Kind16 : Int) (Family16 : ByteArray) (Serial16 Token16 : Int) (Client16 User16 : ByteArray) (Scope16 : Option Addr) (nScope16 cScope16 : Nat) (Redirect16 Challenge16 Method16 Verifier16 : ByteArray) (Refresh16 : Bool) (Edge16 : Int), e = .returned (.agg #[.int .i64 Kind16, .string Family16, .int .i64 Serial16, .int .i64 Token16, .string Client16, .string User16, .slice Scope16 nScope16 cScope16, .string Redirect16, .string Challenge16, .string Method16, .string Verifier16, .bool Refresh16, .int .i64 Edge16]) ∧
 Sto w30 b_ 0 [.int .i64 Kind16, .string Family16, .int .i64 Serial16, .int .i64 Token16, .string Client16, .string User16, .slice Scope16 nScope16 cScope16, .string Redirect16, .string Challenge16, .string Method16, .string Verifier16, .bool Refresh16, .int .i64 Edge16] ∧ ∀ w31, w31 = w30.setCells b_ 0 [.int .i64 Kind16, .string Family16, .int .i64 Serial16, .int .i64 Token16, .string Client16, .string User16, .slice Scope16 nScope16 cScope16, .string Redirect16, .string Challenge16, .string Method16, .string Verifier16, .bool Refresh16, .int .i64 Edge16] →
 ∃ (Kind17 : Int) (Family17 : ByteArray) (Serial17 Token17 : Int) (Client17 User17 : ByteArray) (Scope17 : Option Addr) (nScope17 cScope17 : Nat) (Redirect17 Challenge17 Method17 Verifier17 : ByteArray) (Refresh17 : Bool) (Edge17 : Int), w31.rangeAt b_ 0 [.int .i64 Kind17, .string Family17, .int .i64 Serial17, .int .i64 Token17, .string Client17, .string User17, .slice Scope17 nScope17 cScope17, .string Redirect17, .string Challenge17, .string Method17, .string Verifier17, .bool Refresh17, .int .i64 Edge17] ∧
 R (.returned (.tuple #[.agg #[.int .i64 Kind17, .string Family17, .int .i64 Serial17, .int .i64 Token17, .string Client17, .string User17, .slice Scope17 nScope17 cScope17, .string Redirect17, .string Challenge17, .string Method17, .string Verifier17, .bool Refresh17, .int .i64 Edge17], .int .i64 3])) w31) (
 ∃ (Drw1 : World → Prop), Drw1 w21.drew ∧
 ∃ (x3 : ByteArray), (∀ w32 : World, Drw1 w32 → w32.cell? ⟨b_2, 1, none⟩ = some (.string x3)) ∧
 ∃ (x4 : Option Addr) (nx1 cx1 : Nat), (∀ w33 : World, Drw1 w33 → w33.cell? ⟨b_1, 5, none⟩ = some (.slice x4 nx1 cx1)) ∧
 Calls prg 50 #[.slice x4 nx1 cx1, .string ⟨#[114, 101, 102, 114, 101, 115, 104, 95, 116, 111, 107, 101, 110]⟩] w21.drew fun e w34 => ∃ (r12 : Bool), e = .returned (.bool r12) ∧
 Drw1 w34 ∧ Sto w34 b_ 0 [.int .i64 2, .string x3, .int .i64 0, .int .i64 0, .string id, .string ⟨#[]⟩, .slice none 0 0, .string uri, .string ⟨#[]⟩, .string ⟨#[]⟩, .string verifier, .bool r12, .int .i64 0] ∧ ∀ w35, w35 = w34.setCells b_ 0 [.int .i64 2, .string x3, .int .i64 0, .int .i64 0, .string id, .string ⟨#[]⟩, .slice none 0 0, .string uri, .string ⟨#[]⟩, .string ⟨#[]⟩, .string verifier, .bool r12, .int .i64 0] →
 ∃ (Kind18 : Int) (Family18 : ByteArray) (Serial18 Token18 : Int) (Client18 User18 : ByteArray) (Scope18 : Option Addr) (nScope18 cScope18 : Nat) (Redirect18 Challenge18 Method18 Verifier18 : ByteArray) (Refresh18 : Bool) (Edge18 : Int), w35.rangeAt b_ 0 [.int .i64 Kind18, .string Family18, .int .i64 Serial18, .int .i64 Token18, .string Client18, .string User18, .slice Scope18 nScope18 cScope18, .string Redirect18, .string Challenge18, .string Method18, .string Verifier18, .bool Refresh18, .int .i64 Edge18] ∧
 R (.returned (.tuple #[.agg #[.int .i64 Kind18, .string Family18, .int .i64 Serial18, .int .i64 Token18, .string Client18, .string User18, .slice Scope18 nScope18 cScope18, .string Redirect18, .string Challenge18, .string Method18, .string Verifier18, .bool Refresh18, .int .i64 Edge18], .int .i64 0])) w35))))))) (
 cond (decide (grant = ⟨#[114, 101, 102, 114, 101, 115, 104, 95, 116, 111, 107, 101, 110]⟩)) (
 Calls prg 38 #[.slice form nform cform, .string ⟨#[114, 101, 102, 114, 101, 115, 104, 95, 116, 111, 107, 101, 110]⟩] w11 fun e w36 => ∃ (s1 : ByteArray), e = .returned (.string s1) ∧
 cond (decide (s1 = ⟨#[]⟩)) (
 Calls prg 33 #[] w36 fun e w37 => ∃ (Kind19 : Int) (Family19 : ByteArray) (Serial19 Token19 : Int) (Client19 User19 : ByteArray) (Scope19 : Option Addr) (nScope19 cScope19 : Nat) (Redirect19 Challenge19 Method19 Verifier19 : ByteArray) (Refresh19 : Bool) (Edge19 : Int), e = .returned (.agg #[.int .i64 Kind19, .string Family19, .int .i64 Serial19, .int .i64 Token19, .string Client19, .string User19, .slice Scope19 nScope19 cScope19, .string Redirect19, .string Challenge19, .string Method19, .string Verifier19, .bool Refresh19, .int .i64 Edge19]) ∧
 Sto w37 b_ 0 [.int .i64 Kind19, .string Family19, .int .i64 Serial19, .int .i64 Token19, .string Client19, .string User19, .slice Scope19 nScope19 cScope19, .string Redirect19, .string Challenge19, .string Method19, .string Verifier19, .bool Refresh19, .int .i64 Edge19] ∧ ∀ w38, w38 = w37.setCells b_ 0 [.int .i64 Kind19, .string Family19, .int .i64 Serial19, .int .i64 Token19, .string Client19, .string User19, .slice Scope19 nScope19 cScope19, .string Redirect19, .string Challenge19, .string Method19, .string Verifier19, .bool Refresh19, .int .i64 Edge19] →
 ∃ (Kind20 : Int) (Family20 : ByteArray) (Serial20 Token20 : Int) (Client20 User20 : ByteArray) (Scope20 : Option Addr) (nScope20 cScope20 : Nat) (Redirect20 Challenge20 Method20 Verifier20 : ByteArray) (Refresh20 : Bool) (Edge20 : Int), w38.rangeAt b_ 0 [.int .i64 Kind20, .string Family20, .int .i64 Serial20, .int .i64 Token20, .string Client20, .string User20, .slice Scope20 nScope20 cScope20, .string Redirect20, .string Challenge20, .string Method20, .string Verifier20, .bool Refresh20, .int .i64 Edge20] ∧
 R (.returned (.tuple #[.agg #[.int .i64 Kind20, .string Family20, .int .i64 Serial20, .int .i64 Token20, .string Client20, .string User20, .slice Scope20 nScope20 cScope20, .string Redirect20, .string Challenge20, .string Method20, .string Verifier20, .bool Refresh20, .int .i64 Edge20], .int .i64 1])) w38) (
 Calls prg 39 #[.slice secret nsecret csecret, .string s1] w36 fun e w39 => ∃ (r13 : Int) (r14 : ByteArray) (r15 : Int), ∃ (r16 : Int), e = .returned (.tuple #[.agg #[.int .i64 r13, .string r14, .int .i64 r15], .int .i64 r16]) ∧
 ∀ (b_3 : Nat) (w40 : World), b_3 = w39.heap.size → w40 = w39.alloc (.cells #[.int .i64 0, .string ⟨#[]⟩, .int .i64 0] 47) →
 Sto w40 b_3 0 [.int .i64 r13, .string r14, .int .i64 r15] ∧ ∀ w41, w41 = w40.setCells b_3 0 [.int .i64 r13, .string r14, .int .i64 r15] →
 ∃ (Cut2 : World → Prop), (
 cond (decide (r16 ≠ (0 : Int))) (
 Calls prg 33 #[] w41 fun e w42 => ∃ (Kind21 : Int) (Family21 : ByteArray) (Serial21 Token21 : Int) (Client21 User21 : ByteArray) (Scope21 : Option Addr) (nScope21 cScope21 : Nat) (Redirect21 Challenge21 Method21 Verifier21 : ByteArray) (Refresh21 : Bool) (Edge21 : Int), e = .returned (.agg #[.int .i64 Kind21, .string Family21, .int .i64 Serial21, .int .i64 Token21, .string Client21, .string User21, .slice Scope21 nScope21 cScope21, .string Redirect21, .string Challenge21, .string Method21, .string Verifier21, .bool Refresh21, .int .i64 Edge21]) ∧
 Sto w42 b_ 0 [.int .i64 Kind21, .string Family21, .int .i64 Serial21, .int .i64 Token21, .string Client21, .string User21, .slice Scope21 nScope21 cScope21, .string Redirect21, .string Challenge21, .string Method21, .string Verifier21, .bool Refresh21, .int .i64 Edge21] ∧ ∀ w43, w43 = w42.setCells b_ 0 [.int .i64 Kind21, .string Family21, .int .i64 Serial21, .int .i64 Token21, .string Client21, .string User21, .slice Scope21 nScope21 cScope21, .string Redirect21, .string Challenge21, .string Method21, .string Verifier21, .bool Refresh21, .int .i64 Edge21] →
 ∃ (Kind22 : Int) (Family22 : ByteArray) (Serial22 Token22 : Int) (Client22 User22 : ByteArray) (Scope22 : Option Addr) (nScope22 cScope22 : Nat) (Redirect22 Challenge22 Method22 Verifier22 : ByteArray) (Refresh22 : Bool) (Edge22 : Int), w43.rangeAt b_ 0 [.int .i64 Kind22, .string Family22, .int .i64 Serial22, .int .i64 Token22, .string Client22, .string User22, .slice Scope22 nScope22 cScope22, .string Redirect22, .string Challenge22, .string Method22, .string Verifier22, .bool Refresh22, .int .i64 Edge22] ∧
 R (.returned (.tuple #[.agg #[.int .i64 Kind22, .string Family22, .int .i64 Serial22, .int .i64 Token22, .string Client22, .string User22, .slice Scope22 nScope22 cScope22, .string Redirect22, .string Challenge22, .string Method22, .string Verifier22, .bool Refresh22, .int .i64 Edge22], .int .i64 3])) w43) (
 ∃ (x5 : Int), w41.cell? ⟨b_3, 0, none⟩ = some (.int .i64 x5) ∧
 cond (decide (x5 ≠ (3 : Int))) (
 Calls prg 33 #[] w41 fun e w44 => ∃ (Kind23 : Int) (Family23 : ByteArray) (Serial23 Token23 : Int) (Client23 User23 : ByteArray) (Scope23 : Option Addr) (nScope23 cScope23 : Nat) (Redirect23 Challenge23 Method23 Verifier23 : ByteArray) (Refresh23 : Bool) (Edge23 : Int), e = .returned (.agg #[.int .i64 Kind23, .string Family23, .int .i64 Serial23, .int .i64 Token23, .string Client23, .string User23, .slice Scope23 nScope23 cScope23, .string Redirect23, .string Challenge23, .string Method23, .string Verifier23, .bool Refresh23, .int .i64 Edge23]) ∧
 Sto w44 b_ 0 [.int .i64 Kind23, .string Family23, .int .i64 Serial23, .int .i64 Token23, .string Client23, .string User23, .slice Scope23 nScope23 cScope23, .string Redirect23, .string Challenge23, .string Method23, .string Verifier23, .bool Refresh23, .int .i64 Edge23] ∧ ∀ w45, w45 = w44.setCells b_ 0 [.int .i64 Kind23, .string Family23, .int .i64 Serial23, .int .i64 Token23, .string Client23, .string User23, .slice Scope23 nScope23 cScope23, .string Redirect23, .string Challenge23, .string Method23, .string Verifier23, .bool Refresh23, .int .i64 Edge23] →
 ∃ (Kind24 : Int) (Family24 : ByteArray) (Serial24 Token24 : Int) (Client24 User24 : ByteArray) (Scope24 : Option Addr) (nScope24 cScope24 : Nat) (Redirect24 Challenge24 Method24 Verifier24 : ByteArray) (Refresh24 : Bool) (Edge24 : Int), w45.rangeAt b_ 0 [.int .i64 Kind24, .string Family24, .int .i64 Serial24, .int .i64 Token24, .string Client24, .string User24, .slice Scope24 nScope24 cScope24, .string Redirect24, .string Challenge24, .string Method24, .string Verifier24, .bool Refresh24, .int .i64 Edge24] ∧
 R (.returned (.tuple #[.agg #[.int .i64 Kind24, .string Family24, .int .i64 Serial24, .int .i64 Token24, .string Client24, .string User24, .slice Scope24 nScope24 cScope24, .string Redirect24, .string Challenge24, .string Method24, .string Verifier24, .bool Refresh24, .int .i64 Edge24], .int .i64 3])) w45) (
 Cut2 w41))) ∧
 ∀ (fr1 : Nat → Value) (w46 : World), Cut2 w46 →
 Calls prg 38 #[.slice form nform cform, .string ⟨#[115, 99, 111, 112, 101]⟩] w46 fun e w47 => ∃ (r17 : ByteArray), e = .returned (.string r17) ∧
 Calls prg 81 #[.string r17] w47 fun e w48 => ∃ (r18 : Option Addr) (nr3 cr3 : Nat), ∃ (r19 : Int), e = .returned (.tuple #[.slice r18 nr3 cr3, .int .i64 r19]) ∧
 cond (decide (r19 ≠ (0 : Int))) (
 Calls prg 33 #[] w48 fun e w49 => ∃ (Kind25 : Int) (Family25 : ByteArray) (Serial25 Token25 : Int) (Client25 User25 : ByteArray) (Scope25 : Option Addr) (nScope25 cScope25 : Nat) (Redirect25 Challenge25 Method25 Verifier25 : ByteArray) (Refresh25 : Bool) (Edge25 : Int), e = .returned (.agg #[.int .i64 Kind25, .string Family25, .int .i64 Serial25, .int .i64 Token25, .string Client25, .string User25, .slice Scope25 nScope25 cScope25, .string Redirect25, .string Challenge25, .string Method25, .string Verifier25, .bool Refresh25, .int .i64 Edge25]) ∧
 Sto w49 b_ 0 [.int .i64 Kind25, .string Family25, .int .i64 Serial25, .int .i64 Token25, .string Client25, .string User25, .slice Scope25 nScope25 cScope25, .string Redirect25, .string Challenge25, .string Method25, .string Verifier25, .bool Refresh25, .int .i64 Edge25] ∧ ∀ w50, w50 = w49.setCells b_ 0 [.int .i64 Kind25, .string Family25, .int .i64 Serial25, .int .i64 Token25, .string Client25, .string User25, .slice Scope25 nScope25 cScope25, .string Redirect25, .string Challenge25, .string Method25, .string Verifier25, .bool Refresh25, .int .i64 Edge25] →
 ∃ (Kind26 : Int) (Family26 : ByteArray) (Serial26 Token26 : Int) (Client26 User26 : ByteArray) (Scope26 : Option Addr) (nScope26 cScope26 : Nat) (Redirect26 Challenge26 Method26 Verifier26 : ByteArray) (Refresh26 : Bool) (Edge26 : Int), w50.rangeAt b_ 0 [.int .i64 Kind26, .string Family26, .int .i64 Serial26, .int .i64 Token26, .string Client26, .string User26, .slice Scope26 nScope26 cScope26, .string Redirect26, .string Challenge26, .string Method26, .string Verifier26, .bool Refresh26, .int .i64 Edge26] ∧
 R (.returned (.tuple #[.agg #[.int .i64 Kind26, .string Family26, .int .i64 Serial26, .int .i64 Token26, .string Client26, .string User26, .slice Scope26 nScope26 cScope26, .string Redirect26, .string Challenge26, .string Method26, .string Verifier26, .bool Refresh26, .int .i64 Edge26], .int .i64 6])) w50) (
 Calls prg 52 #[.slice r18 nr3 cr3] w48 fun e w51 => ∃ (r20 : ByteArray), e = .returned (.string r20) ∧
 cond (decide ((r20.size : Int) > (128 : Int))) (
 Calls prg 33 #[] w51 fun e w52 => ∃ (Kind27 : Int) (Family27 : ByteArray) (Serial27 Token27 : Int) (Client27 User27 : ByteArray) (Scope27 : Option Addr) (nScope27 cScope27 : Nat) (Redirect27 Challenge27 Method27 Verifier27 : ByteArray) (Refresh27 : Bool) (Edge27 : Int), e = .returned (.agg #[.int .i64 Kind27, .string Family27, .int .i64 Serial27, .int .i64 Token27, .string Client27, .string User27, .slice Scope27 nScope27 cScope27, .string Redirect27, .string Challenge27, .string Method27, .string Verifier27, .bool Refresh27, .int .i64 Edge27]) ∧
 Sto w52 b_ 0 [.int .i64 Kind27, .string Family27, .int .i64 Serial27, .int .i64 Token27, .string Client27, .string User27, .slice Scope27 nScope27 cScope27, .string Redirect27, .string Challenge27, .string Method27, .string Verifier27, .bool Refresh27, .int .i64 Edge27] ∧ ∀ w53, w53 = w52.setCells b_ 0 [.int .i64 Kind27, .string Family27, .int .i64 Serial27, .int .i64 Token27, .string Client27, .string User27, .slice Scope27 nScope27 cScope27, .string Redirect27, .string Challenge27, .string Method27, .string Verifier27, .bool Refresh27, .int .i64 Edge27] →
 ∃ (Kind28 : Int) (Family28 : ByteArray) (Serial28 Token28 : Int) (Client28 User28 : ByteArray) (Scope28 : Option Addr) (nScope28 cScope28 : Nat) (Redirect28 Challenge28 Method28 Verifier28 : ByteArray) (Refresh28 : Bool) (Edge28 : Int), w53.rangeAt b_ 0 [.int .i64 Kind28, .string Family28, .int .i64 Serial28, .int .i64 Token28, .string Client28, .string User28, .slice Scope28 nScope28 cScope28, .string Redirect28, .string Challenge28, .string Method28, .string Verifier28, .bool Refresh28, .int .i64 Edge28] ∧
 R (.returned (.tuple #[.agg #[.int .i64 Kind28, .string Family28, .int .i64 Serial28, .int .i64 Token28, .string Client28, .string User28, .slice Scope28 nScope28 cScope28, .string Redirect28, .string Challenge28, .string Method28, .string Verifier28, .bool Refresh28, .int .i64 Edge28], .int .i64 6])) w53) (
 ∃ (x6 : ByteArray), w51.cell? ⟨b_3, 1, none⟩ = some (.string x6) ∧
 ∃ (x7 : Int), w51.cell? ⟨b_3, 2, none⟩ = some (.int .i64 x7) ∧
 Sto w51 b_ 0 [.int .i64 3, .string x6, .int .i64 x7, .int .i64 0, .string id, .string ⟨#[]⟩, .slice r18 nr3 cr3, .string ⟨#[]⟩, .string ⟨#[]⟩, .string ⟨#[]⟩, .string ⟨#[]⟩, .bool false, .int .i64 0] ∧ ∀ w54, w54 = w51.setCells b_ 0 [.int .i64 3, .string x6, .int .i64 x7, .int .i64 0, .string id, .string ⟨#[]⟩, .slice r18 nr3 cr3, .string ⟨#[]⟩, .string ⟨#[]⟩, .string ⟨#[]⟩, .string ⟨#[]⟩, .bool false, .int .i64 0] →
 ∃ (Kind29 : Int) (Family29 : ByteArray) (Serial29 Token29 : Int) (Client29 User29 : ByteArray) (Scope29 : Option Addr) (nScope29 cScope29 : Nat) (Redirect29 Challenge29 Method29 Verifier29 : ByteArray) (Refresh29 : Bool) (Edge29 : Int), w54.rangeAt b_ 0 [.int .i64 Kind29, .string Family29, .int .i64 Serial29, .int .i64 Token29, .string Client29, .string User29, .slice Scope29 nScope29 cScope29, .string Redirect29, .string Challenge29, .string Method29, .string Verifier29, .bool Refresh29, .int .i64 Edge29] ∧
 R (.returned (.tuple #[.agg #[.int .i64 Kind29, .string Family29, .int .i64 Serial29, .int .i64 Token29, .string Client29, .string User29, .slice Scope29 nScope29 cScope29, .string Redirect29, .string Challenge29, .string Method29, .string Verifier29, .bool Refresh29, .int .i64 Edge29], .int .i64 0])) w54)))) (
 Calls prg 78 #[.slice l nl cl, .string id, .slice form nform cform] w11 fun e w55 => ∃ (r21 : Option Addr) (nr4 cr4 : Nat), ∃ (r22 : Int), e = .returned (.tuple #[.slice r21 nr4 cr4, .int .i64 r22]) ∧
 cond (decide (r22 ≠ (0 : Int))) (
 Calls prg 33 #[] w55 fun e w56 => ∃ (Kind30 : Int) (Family30 : ByteArray) (Serial30 Token30 : Int) (Client30 User30 : ByteArray) (Scope30 : Option Addr) (nScope30 cScope30 : Nat) (Redirect30 Challenge30 Method30 Verifier30 : ByteArray) (Refresh30 : Bool) (Edge30 : Int), e = .returned (.agg #[.int .i64 Kind30, .string Family30, .int .i64 Serial30, .int .i64 Token30, .string Client30, .string User30, .slice Scope30 nScope30 cScope30, .string Redirect30, .string Challenge30, .string Method30, .string Verifier30, .bool Refresh30, .int .i64 Edge30]) ∧
 Sto w56 b_ 0 [.int .i64 Kind30, .string Family30, .int .i64 Serial30, .int .i64 Token30, .string Client30, .string User30, .slice Scope30 nScope30 cScope30, .string Redirect30, .string Challenge30, .string Method30, .string Verifier30, .bool Refresh30, .int .i64 Edge30] ∧ ∀ w57, w57 = w56.setCells b_ 0 [.int .i64 Kind30, .string Family30, .int .i64 Serial30, .int .i64 Token30, .string Client30, .string User30, .slice Scope30 nScope30 cScope30, .string Redirect30, .string Challenge30, .string Method30, .string Verifier30, .bool Refresh30, .int .i64 Edge30] →
 ∃ (Kind31 : Int) (Family31 : ByteArray) (Serial31 Token31 : Int) (Client31 User31 : ByteArray) (Scope31 : Option Addr) (nScope31 cScope31 : Nat) (Redirect31 Challenge31 Method31 Verifier31 : ByteArray) (Refresh31 : Bool) (Edge31 : Int), w57.rangeAt b_ 0 [.int .i64 Kind31, .string Family31, .int .i64 Serial31, .int .i64 Token31, .string Client31, .string User31, .slice Scope31 nScope31 cScope31, .string Redirect31, .string Challenge31, .string Method31, .string Verifier31, .bool Refresh31, .int .i64 Edge31] ∧
 R (.returned (.tuple #[.agg #[.int .i64 Kind31, .string Family31, .int .i64 Serial31, .int .i64 Token31, .string Client31, .string User31, .slice Scope31 nScope31 cScope31, .string Redirect31, .string Challenge31, .string Method31, .string Verifier31, .bool Refresh31, .int .i64 Edge31], .int .i64 r22])) w57) (
 Sto w55 b_ 0 [.int .i64 4, .string family, .int .i64 0, .int .i64 0, .string id, .string ⟨#[]⟩, .slice r21 nr4 cr4, .string ⟨#[]⟩, .string ⟨#[]⟩, .string ⟨#[]⟩, .string ⟨#[]⟩, .bool false, .int .i64 0] ∧ ∀ w58, w58 = w55.setCells b_ 0 [.int .i64 4, .string family, .int .i64 0, .int .i64 0, .string id, .string ⟨#[]⟩, .slice r21 nr4 cr4, .string ⟨#[]⟩, .string ⟨#[]⟩, .string ⟨#[]⟩, .string ⟨#[]⟩, .bool false, .int .i64 0] →
 ∃ (Kind32 : Int) (Family32 : ByteArray) (Serial32 Token32 : Int) (Client32 User32 : ByteArray) (Scope32 : Option Addr) (nScope32 cScope32 : Nat) (Redirect32 Challenge32 Method32 Verifier32 : ByteArray) (Refresh32 : Bool) (Edge32 : Int), w58.rangeAt b_ 0 [.int .i64 Kind32, .string Family32, .int .i64 Serial32, .int .i64 Token32, .string Client32, .string User32, .slice Scope32 nScope32 cScope32, .string Redirect32, .string Challenge32, .string Method32, .string Verifier32, .bool Refresh32, .int .i64 Edge32] ∧
 R (.returned (.tuple #[.agg #[.int .i64 Kind32, .string Family32, .int .i64 Serial32, .int .i64 Token32, .string Client32, .string User32, .slice Scope32 nScope32 cScope32, .string Redirect32, .string Challenge32, .string Method32, .string Verifier32, .bool Refresh32, .int .i64 Edge32], .int .i64 0])) w58)))))) :
    Calls prg 37 #[.slice l nl cl, .slice secret nsecret csecret, .string family, .string id, .slice form nform cform] w R :=
  calls_mk (.node .nil (.node .nil (.node .nil (.node .nil (.cut [] [11, 37, 38, 39, 40, 41, 42, 43, 44, 45, 46, 47] .nil (.node .nil (.node (.node .nil (.node (.node .nil (.node .nil (.node .nil (.node .nil (.node .nil (.node .nil (.node (.draw (.op 0 (.op 1 (.op 2 (.op 3 (.op 4 (.op 5 (.op 6 (.op 7 (.op 8 (.op 9 (.op 10 .done)))))))))))) .nil))))))) .nil)) (.node (.node .nil (.node (.node .nil (.node .nil (.node .nil (.cut [] [11, 116, 117, 118, 119, 120, 121, 122, 123] .nil .nil)))) .nil)) .nil)))))))) [.slice l nl cl, .slice secret nsecret csecret, .string family, .string id, .slice form nform cform] w R tabOk (fokOk []) Tryz.func37 (by kernel_rfl) _ (by kernel_rfl) hyp

/-- signet/signetref19.get -/
theorem f38_wp (form : Option Addr) (nform : Nat) (cform : Nat) (name : ByteArray) (w : World) (R : Ending → World → Prop) (hyp :
 Calls prg 34 #[.slice form nform cform, .string name] w fun e w1 => ∃ (r : ByteArray), ∃ (r1 : Int), e = .returned (.tuple #[.string r, .int .i64 r1]) ∧
 R (.returned (.string r)) w1) :
    Calls prg 38 #[.slice form nform cform, .string name] w R :=
  calls_mk .nil [.slice form nform cform, .string name] w R tabOk (fokOk []) Tryz.func38 (by kernel_rfl) _ (by kernel_rfl) hyp

/-- signet/signetref16.Open -/
theorem f39_wp (secret : Option Addr) (nsecret : Nat) (csecret : Nat) (s : ByteArray) (w : World) (R : Ending → World → Prop) (hyp :
 ∀ (b_ : Nat) (w1 : World), b_ = w.heap.size → w1 = w.alloc (.cells #[.int .i64 0, .string ⟨#[]⟩, .int .i64 0] 47) →
 Calls prg 82 #[.string s] w1 fun e w2 => ∃ (r : Int) (r1 : ByteArray) (r2 : Int), ∃ (r3 : Int), e = .returned (.tuple #[.agg #[.int .i64 r, .string r1, .int .i64 r2], .int .i64 r3]) ∧
 ∀ (b_1 : Nat) (w3 : World), b_1 = w2.heap.size → w3 = w2.alloc (.cells #[.int .i64 0, .string ⟨#[]⟩, .int .i64 0] 47) →
 Sto w3 b_1 0 [.int .i64 r, .string r1, .int .i64 r2] ∧ ∀ w4, w4 = w3.setCells b_1 0 [.int .i64 r, .string r1, .int .i64 r2] →
 cond (decide (r3 ≠ (0 : Int))) (
 Sto w4 b_ 0 [.int .i64 0, .string ⟨#[]⟩, .int .i64 0] ∧ ∀ w5, w5 = w4.setCells b_ 0 [.int .i64 0, .string ⟨#[]⟩, .int .i64 0] →
 ∃ (Kind : Int) (Family : ByteArray) (Serial : Int), w5.rangeAt b_ 0 [.int .i64 Kind, .string Family, .int .i64 Serial] ∧
 R (.returned (.tuple #[.agg #[.int .i64 Kind, .string Family, .int .i64 Serial], .int .i64 r3])) w5) (
 ∃ (Kind1 : Int) (Family1 : ByteArray) (Serial1 : Int), w4.rangeAt b_1 0 [.int .i64 Kind1, .string Family1, .int .i64 Serial1] ∧
 Calls prg 83 #[.slice secret nsecret csecret, .agg #[.int .i64 Kind1, .string Family1, .int .i64 Serial1]] w4 fun e w6 => ∃ (r4 : ByteArray), ∃ (r5 : Int), e = .returned (.tuple #[.string r4, .int .i64 r5]) ∧
 cond (decide (r4 ≠ s)) (
 Sto w6 b_ 0 [.int .i64 0, .string ⟨#[]⟩, .int .i64 0] ∧ ∀ w7, w7 = w6.setCells b_ 0 [.int .i64 0, .string ⟨#[]⟩, .int .i64 0] →
 ∃ (Kind2 : Int) (Family2 : ByteArray) (Serial2 : Int), w7.rangeAt b_ 0 [.int .i64 Kind2, .string Family2, .int .i64 Serial2] ∧
 R (.returned (.tuple #[.agg #[.int .i64 Kind2, .string Family2, .int .i64 Serial2], .int .i64 5])) w7) (
 ∃ (Kind3 : Int) (Family3 : ByteArray) (Serial3 : Int), w6.rangeAt b_1 0 [.int .i64 Kind3, .string Family3, .int .i64 Serial3] ∧
 Sto w6 b_ 0 [.int .i64 Kind3, .string Family3, .int .i64 Serial3] ∧ ∀ w8, w8 = w6.setCells b_ 0 [.int .i64 Kind3, .string Family3, .int .i64 Serial3] →
 ∃ (Kind4 : Int) (Family4 : ByteArray) (Serial4 : Int), w8.rangeAt b_ 0 [.int .i64 Kind4, .string Family4, .int .i64 Serial4] ∧
 R (.returned (.tuple #[.agg #[.int .i64 Kind4, .string Family4, .int .i64 Serial4], .int .i64 0])) w8))) :
    Calls prg 39 #[.slice secret nsecret csecret, .string s] w R :=
  calls_mk .nil [.slice secret nsecret csecret, .string s] w R tabOk (fokOk []) Tryz.func39 (by kernel_rfl) _ (by kernel_rfl) hyp

/-- signet/signetref06.Same -/
theorem f40_wp (a : Option Addr) (na : Nat) (ca : Nat) (b_ : Option Addr) (nb : Nat) (cb : Nat) (w : World) (R : Ending → World → Prop) (hyp :
 cond (decide ((na : Int) ≠ (nb : Int))) (
 R (.returned (.bool false)) w) (
 ∃ (Inv1 : Int → World → Prop) (Mea1 : Int → World → Nat), Inv1 0 w ∧ ∀ (i : Int) (fr : Nat → Value) (w1 : World), 
 Inv1 i w1 →
 cond (decide (i < (na : Int))) (
 ∃ (Drw1 : World → Prop), Drw1 w1.drew ∧
 0 ≤ i ∧ i < (na : Int) ∧ nilW a fun bk of =>
 ∃ (x : ByteArray), (∀ w2 : World, Drw1 w2 → w2.cell? ⟨bk, of + i.toNat * 1, none⟩ = some (.string x)) ∧
 0 ≤ i ∧ i < (nb : Int) ∧ nilW b_ fun bk1 of1 =>
 ∃ (x1 : ByteArray), (∀ w3 : World, Drw1 w3 → w3.cell? ⟨bk1, of1 + i.toNat * 1, none⟩ = some (.string x1)) ∧
 cond (decide (x ≠ x1)) (
 R (.returned (.bool false)) w1.drew) (
 (Inv1 (IntKind.i64.wrap (i + (1 : Int))) w1.drew ∧ Mea1 (IntKind.i64.wrap (i + (1 : Int))) w1.drew < Mea1 i w1))) (
 R (.returned (.bool true)) w1))) :
    Calls prg 40 #[.slice a na ca, .slice b_ nb cb] w R :=
  calls_mk (.node .nil (.node .nil (.node (.node .nil (.loop [(5, .int .i64)] [4, 11, 12, 13, 14, 15, 16, 17, 18, 19, 20, 21, 22, 23, 24, 25] (.node .nil (.node (.node (.draw (.op 0 (.op 1 (.op 2 (.op 3 (.op 4 (.op 5 (.op 6 (.op 7 (.op 8 .done)))))))))) .nil) .nil)))) .nil))) [.slice a na ca, .slice b_ nb cb] w R tabOk (fokOk []) Tryz.func40 (by kernel_rfl) _ (by kernel_rfl) hyp

/-- signet/roll.shown -/
theorem f41_wp (header : ByteArray) (w : World) (R : Ending → World → Prop) (hyp :
 Calls prg 84 #[.string header, .string ⟨#[66, 97, 115, 105, 99, 32]⟩] w fun e w1 => ∃ (r : ByteArray), ∃ (r1 : Bool), e = .returned (.tuple #[.string r, .bool r1]) ∧
 Calls prg 85 #[.string r] w1 fun e w2 => ∃ (r2 : Option Addr) (nr cr : Nat), ∃ (r3 : Int), e = .returned (.tuple #[.slice r2 nr cr, .int .i64 r3]) ∧
 ∃ s : ByteArray, BytesAt w2 r2 nr s ∧
 Calls prg 71 #[.string s, .string ⟨#[58]⟩] w2 fun e w3 => ∃ (r4 : ByteArray), ∃ (r5 : ByteArray), ∃ (r6 : Bool), e = .returned (.tuple #[.string r4, .string r5, .bool r6]) ∧
 Calls prg 72 #[.string r4] w3 fun e w4 => ∃ (r7 : ByteArray), ∃ (r8 : Int), e = .returned (.tuple #[.string r7, .int .i64 r8]) ∧
 Calls prg 72 #[.string r5] w4 fun e w5 => ∃ (r9 : ByteArray), ∃ (r10 : Int), e = .returned (.tuple #[.string r9, .int .i64 r10]) ∧
 cond r1 (
 cond r6 (
 cond (decide (r3 = (0 : Int))) (
 cond (decide (r8 = (0 : Int))) (
 R (.returned (.tuple #[.string r7, .string r9, .bool (decide (r10 = (0 : Int)))])) w5) (
 R (.returned (.tuple #[.string r7, .string r9, .bool false])) w5)) (
 R (.returned (.tuple #[.string r7, .string r9, .bool false])) w5)) (
 R (.returned (.tuple #[.string r7, .string r9, .bool false])) w5)) (
 R (.returned (.tuple #[.string r7, .string r9, .bool false])) w5)) :
    Calls prg 41 #[.string header] w R :=
  calls_mk .nil [.string header] w R tabOk (fokOk []) Tryz.func41 (by kernel_rfl) _ (by kernel_rfl) hyp

/-- (*signet/roll.Roll).get -/
theorem f42_wp (r : Option Addr) (id : ByteArray) (w : World) (R : Ending → World → Prop) (hyp :
 ∀ (b_ : Nat) (w1 : World), b_ = w.heap.size → w1 = w.alloc (.cells #[.string ⟨#[]⟩, .string ⟨#[]⟩, .bool false, .slice none 0 0, .slice none 0 0, .slice none 0 0] 71) →
 cond r.isNone (
 Sto w1 b_ 0 [.string ⟨#[]⟩, .string ⟨#[]⟩, .bool false, .slice none 0 0, .slice none 0 0, .slice none 0 0] ∧ ∀ w2, w2 = w1.setCells b_ 0 [.string ⟨#[]⟩, .string ⟨#[]⟩, .bool false, .slice none 0 0, .slice none 0 0, .slice none 0 0] →
 ∃ (Client_Id Client_Secret : ByteArray) (Client_Public : Bool) (Client_Redirects : Option Addr) (nClient_Redirects cClient_Redirects : Nat) (Client_Scopes : Option Addr) (nClient_Scopes cClient_Scopes : Nat) (Client_Grants : Option Addr) (nClient_Grants cClient_Grants : Nat), w2.rangeAt b_ 0 [.string Client_Id, .string Client_Secret, .bool Client_Public, .slice Client_Redirects nClient_Redirects cClient_Redirects, .slice Client_Scopes nClient_Scopes cClient_Scopes, .slice Client_Grants nClient_Grants cClient_Grants] ∧
 R (.returned (.tuple #[.agg #[.string Client_Id, .string Client_Secret, .bool Client_Public, .slice Client_Redirects nClient_Redirects cClient_Redirects, .slice Client_Scopes nClient_Scopes cClient_Scopes, .slice Client_Grants nClient_Grants cClient_Grants], .bool false])) w2) (
 nilW r fun bk of =>
 ∃ (x : Option Nat), w1.cell? ⟨bk, of, none⟩ = some (.map x) ∧
 ∃ (v v1 : ByteArray) (v2 : Bool) (v3 : Option Addr) (nv cv : Nat) (v4 : Option Addr) (nv1 cv1 : Nat) (v5 : Option Addr) (nv2 cv2 : Nat), ∃ (v6 : Bool), (Instr.lookup 67 (.map x) (.string id) true).run prg w1 = .ok (.tuple #[.agg #[.string v, .string v1, .bool v2, .slice v3 nv cv, .slice v4 nv1 cv1, .slice v5 nv2 cv2], .bool v6]) w1 ∧
 ∀ (b_1 : Nat) (w3 : World), b_1 = w1.heap.size → w3 = w1.alloc (.cells #[.string ⟨#[]⟩, .string ⟨#[]⟩, .bool false, .slice none 0 0, .slice none 0 0, .slice none 0 0] 71) →
 Sto w3 b_1 0 [.string v, .string v1, .bool v2, .slice v3 nv cv, .slice v4 nv1 cv1, .slice v5 nv2 cv2] ∧ ∀ w4, w4 = w3.setCells b_1 0 [.string v, .string v1, .bool v2, .slice v3 nv cv, .slice v4 nv1 cv1, .slice v5 nv2 cv2] →
 ∃ (Client_Id1 Client_Secret1 : ByteArray) (Client_Public1 : Bool) (Client_Redirects1 : Option Addr) (nClient_Redirects1 cClient_Redirects1 : Nat) (Client_Scopes1 : Option Addr) (nClient_Scopes1 cClient_Scopes1 : Nat) (Client_Grants1 : Option Addr) (nClient_Grants1 cClient_Grants1 : Nat), w4.rangeAt b_1 0 [.string Client_Id1, .string Client_Secret1, .bool Client_Public1, .slice Client_Redirects1 nClient_Redirects1 cClient_Redirects1, .slice Client_Scopes1 nClient_Scopes1 cClient_Scopes1, .slice Client_Grants1 nClient_Grants1 cClient_Grants1] ∧
 Sto w4 b_ 0 [.string Client_Id1, .string Client_Secret1, .bool Client_Public1, .slice Client_Redirects1 nClient_Redirects1 cClient_Redirects1, .slice Client_Scopes1 nClient_Scopes1 cClient_Scopes1, .slice Client_Grants1 nClient_Grants1 cClient_Grants1] ∧ ∀ w5, w5 = w4.setCells b_ 0 [.string Client_Id1, .string Client_Secret1, .bool Client_Public1, .slice Client_Redirects1 nClient_Redirects1 cClient_Redirects1, .slice Client_Scopes1 nClient_Scopes1 cClient_Scopes1, .slice Client_Grants1 nClient_Grants1 cClient_Grants1] →
 ∃ (Client_Id2 Client_Secret2 : ByteArray) (Client_Public2 : Bool) (Client_Redirects2 : Option Addr) (nClient_Redirects2 cClient_Redirects2 : Nat) (Client_Scopes2 : Option Addr) (nClient_Scopes2 cClient_Scopes2 : Nat) (Client_Grants2 : Option Addr) (nClient_Grants2 cClient_Grants2 : Nat), w5.rangeAt b_ 0 [.string Client_Id2, .string Client_Secret2, .bool Client_Public2, .slice Client_Redirects2 nClient_Redirects2 cClient_Redirects2, .slice Client_Scopes2 nClient_Scopes2 cClient_Scopes2, .slice Client_Grants2 nClient_Grants2 cClient_Grants2] ∧
 R (.returned (.tuple #[.agg #[.string Client_Id2, .string Client_Secret2, .bool Client_Public2, .slice Client_Redirects2 nClient_Redirects2 cClient_Redirects2, .slice Client_Scopes2 nClient_Scopes2 cClient_Scopes2, .slice Client_Grants2 nClient_Grants2 cClient_Grants2], .bool v6])) w5)) :
    Calls prg 42 #[.pointer r, .string id] w R :=
  calls_mk .nil [.pointer r, .string id] w R tabOk (fokOk []) Tryz.func42 (by kernel_rfl) _ (by kernel_rfl) hyp

/-- signet/octet.Same -/
theorem f43_wp (a : Option Addr) (na : Nat) (ca : Nat) (b_ : Option Addr) (nb : Nat) (cb : Nat) (w : World) (R : Ending → World → Prop) (hyp :
 cond (decide ((na : Int) ≠ (nb : Int))) (
 R (.returned (.bool false)) w) (
 ∃ (Inv1 : Int → Int → World → Prop) (Mea1 : Int → Int → World → Nat), Inv1 0 0 w ∧ ∀ (other t14 : Int) (fr : Nat → Value) (w1 : World), 
 Inv1 other t14 w1 →
 cond (decide (t14 < (na : Int))) (
 ∃ (Drw1 : World → Prop), Drw1 w1.drew ∧
 0 ≤ t14 ∧ t14 < (na : Int) ∧ nilW a fun bk of =>
 ∃ (x : Int), (∀ w2 : World, Drw1 w2 → w2.cell? ⟨bk, of + t14.toNat * 1, none⟩ = some (.int .u8 x)) ∧
 0 ≤ t14 ∧ t14 < (nb : Int) ∧ nilW b_ fun bk1 of1 =>
 ∃ (x1 : Int), (∀ w3 : World, Drw1 w3 → w3.cell? ⟨bk1, of1 + t14.toNat * 1, none⟩ = some (.int .u8 x1)) ∧
 (Inv1 (bitv .or .u8 other (bitv .xor .u8 x x1)) (IntKind.i64.wrap (t14 + (1 : Int))) w1.drew ∧ Mea1 (bitv .or .u8 other (bitv .xor .u8 x x1)) (IntKind.i64.wrap (t14 + (1 : Int))) w1.drew < Mea1 other t14 w1)) (
 R (.returned (.bool (decide (other = (0 : Int))))) w1))) :
    Calls prg 43 #[.slice a na ca, .slice b_ nb cb] w R :=
  calls_mk (.node .nil (.node .nil (.node .nil (.node (.node .nil (.loop [(5, .int .u8), (14, .int .i64)] [6, 15, 16, 17, 18, 19, 20, 21, 22, 23, 24, 25, 26, 27, 28] (.node .nil (.node .nil (.node (.node .nil (.draw (.op 0 (.op 1 (.op 2 (.op 3 (.op 4 (.op 5 (.op 6 (.op 7 (.op 8 (.op 9 (.op 10 (.op 11 .done)))))))))))))) .nil))))) .nil)))) [.slice a na ca, .slice b_ nb cb] w R tabOk (fokOk []) Tryz.func43 (by kernel_rfl) _ (by kernel_rfl) hyp

/-- signet/seal.Make -/
theorem f45_wp (secret : Option Addr) (nsecret : Nat) (csecret : Nat) (t_Kind : Int) (t_Family : ByteArray) (t_Serial : Int) (w : World) (R : Ending → World → Prop) (hyp :
 ∀ (b_ : Nat) (w1 : World), b_ = w.heap.size → w1 = w.alloc (.cells #[.int .i64 t_Kind, .string t_Family, .int .i64 t_Serial] 47) →
 ∃ (Kind : Int) (Family : ByteArray) (Serial : Int), w1.rangeAt b_ 0 [.int .i64 Kind, .string Family, .int .i64 Serial] ∧
 Calls prg 29 #[.agg #[.int .i64 Kind, .string Family, .int .i64 Serial]] w1 fun e w2 => ∃ (r : Bool), e = .returned (.bool r) ∧
 cond (!r) (
 R (.returned (.tuple #[.string ⟨#[]⟩, .int .i64 1])) w2) (
 ∃ (Kind1 : Int) (Family1 : ByteArray) (Serial1 : Int), w2.rangeAt b_ 0 [.int .i64 Kind1, .string Family1, .int .i64 Serial1] ∧
 Calls prg 90 #[.agg #[.int .i64 Kind1, .string Family1, .int .i64 Serial1]] w2 fun e w3 => ∃ (h : ByteArray), e = .returned (.string h) ∧
 Calls prg 91 #[.slice secret nsecret csecret, .string h] w3 fun e w4 => ∃ (r1 : ByteArray), e = .returned (.string r1) ∧
 h.size + r1.size ≤ 9223372036854775807 ∧ R (.returned (.tuple #[.string (h ++ r1), .int .i64 0])) w4)) :
    Calls prg 45 #[.slice secret nsecret csecret, .agg #[.int .i64 t_Kind, .string t_Family, .int .i64 t_Serial]] w R :=
  calls_mk .nil [.slice secret nsecret csecret, .agg #[.int .i64 t_Kind, .string t_Family, .int .i64 t_Serial]] w R tabOk (fokOk []) Tryz.func45 (by kernel_rfl) _ (by kernel_rfl) hyp

/-- signet/octet.Basic -/
theorem f46_wp (b_ : Option Addr) (nb : Nat) (cb : Nat) (w : World) (R : Ending → World → Prop) (hyp :
 Calls prg 92 #[.string ⟨#[65, 66, 67, 68, 69, 70, 71, 72, 73, 74, 75, 76, 77, 78, 79, 80, 81, 82, 83, 84, 85, 86, 87, 88, 89, 90, 97, 98, 99, 100, 101, 102, 103, 104, 105, 106, 107, 108, 109, 110, 111, 112, 113, 114, 115, 116, 117, 118, 119, 120, 121, 122, 48, 49, 50, 51, 52, 53, 54, 55, 56, 57, 43, 47]⟩, .slice b_ nb cb] w fun e w1 => ∃ (s : Option Addr) (ns cs : Nat), e = .returned (.slice s ns cs) ∧
 ∃ (Inv1 : Option Addr → Nat → Nat → World → Prop) (Mea1 : Option Addr → Nat → Nat → World → Nat), Inv1 s ns cs w1 ∧ ∀ (s1 : Option Addr) (ns1 cs1 : Nat) (fr : Nat → Value) (w2 : World), 
 Inv1 s1 ns1 cs1 w2 →
 (4 : Int) ≠ 0 ∧ cond (decide ((Int.tmod (ns1 : Int) 4) ≠ (0 : Int))) (
 ∀ (b_1 : Nat) (w3 : World), b_1 = w2.heap.size → w3 = w2.alloc (.cells #[.int .u8 61] 5) →
 ∃ (s2 : Option Addr) (ns2 cs2 : Nat) (w4 : World), (Builtin.append_ #[23, 23] 23 #[.slice s1 ns1 cs1, .slice (some ⟨b_1, 0, none⟩) 1 1]).run prg w3 = .ok (.slice s2 ns2 cs2) w4 ∧
 (Inv1 s2 ns2 cs2 w4 ∧ Mea1 s2 ns2 cs2 w4 < Mea1 s1 ns1 cs1 w2)) (
 ∃ s3 : ByteArray, BytesAt w2 s1 ns1 s3 ∧
 R (.returned (.string s3)) w2)) :
    Calls prg 46 #[.slice b_ nb cb] w R :=
  calls_mk (.node .nil (.node .nil (.node (.loop [(3, .slice)] [6, 7, 8, 9, 10, 11, 12] .nil) .nil))) [.slice b_ nb cb] w R tabOk (fokOk []) Tryz.func46 (by kernel_rfl) _ (by kernel_rfl) hyp

/-- signet/field.Quote -/
theorem f47_wp (s : ByteArray) (w : World) (R : Ending → World → Prop) (hyp :
 ∀ (b_ : Nat) (w1 : World), b_ = w.heap.size → w1 = w.alloc (.cells #[.pointer none, .slice none 0 0] 152) →
 ∃ (Inv1 : Int → World → Prop) (Mea1 : Int → World → Nat), Inv1 0 w1 ∧ ∀ (i : Int) (fr : Nat → Value) (w2 : World), 
 Inv1 i w2 →
 cond (decide (i < (s.size : Int))) (
 0 ≤ i ∧ ∃ c : UInt8, s.data.toList[i.toNat]? = some c ∧
 Calls prg 93 #[.int .u8 (c.toNat : Int)] w2 fun e w3 => ∃ (r : Bool), e = .returned (.bool r) ∧
 cond r (
 Calls prg 94 #[.pointer (some ⟨b_, 0, none⟩), .int .u8 (c.toNat : Int)] w3 fun e w4 => ∃ (r1 : Value), e = .returned r1 ∧
 (Inv1 (IntKind.i64.wrap (i + (1 : Int))) w4 ∧ Mea1 (IntKind.i64.wrap (i + (1 : Int))) w4 < Mea1 i w2)) (
 cond (decide ((c.toNat : Int) = (32 : Int))) (
 Calls prg 94 #[.pointer (some ⟨b_, 0, none⟩), .int .u8 43] w3 fun e w5 => ∃ (r2 : Value), e = .returned r2 ∧
 (Inv1 (IntKind.i64.wrap (i + (1 : Int))) w5 ∧ Mea1 (IntKind.i64.wrap (i + (1 : Int))) w5 < Mea1 i w2)) (
 ∃ (Drw1 : World → Prop), Drw1 w3.drew ∧
 0 ≤ (4 : Int) ∧ 0 ≤ (4 : Int) ∧ 0 ≤ (Int.fdiv (c.toNat : Int) (2 ^ 4)) ∧ 0 ≤ (IntKind.u8.wrap ((Int.fdiv (c.toNat : Int) (2 ^ 4)) + (1 : Int))) ∧ (Int.fdiv (c.toNat : Int) (2 ^ 4)).toNat ≤ (IntKind.u8.wrap ((Int.fdiv (c.toNat : Int) (2 ^ 4)) + (1 : Int))).toNat ∧ (IntKind.u8.wrap ((Int.fdiv (c.toNat : Int) (2 ^ 4)) + (1 : Int))).toNat ≤ (⟨#[48, 49, 50, 51, 52, 53, 54, 55, 56, 57, 65, 66, 67, 68, 69, 70]⟩ : ByteArray).size ∧
 (⟨#[37]⟩ : ByteArray).size + ((⟨#[48, 49, 50, 51, 52, 53, 54, 55, 56, 57, 65, 66, 67, 68, 69, 70]⟩ : ByteArray).extract ((Int.fdiv (c.toNat : Int) (2 ^ 4)).toNat) ((IntKind.u8.wrap ((Int.fdiv (c.toNat : Int) (2 ^ 4)) + (1 : Int))).toNat)).size ≤ 9223372036854775807 ∧ 0 ≤ (bitv .and .u8 (c.toNat : Int) 15) ∧ 0 ≤ (IntKind.u8.wrap ((bitv .and .u8 (c.toNat : Int) 15) + (1 : Int))) ∧ (bitv .and .u8 (c.toNat : Int) 15).toNat ≤ (IntKind.u8.wrap ((bitv .and .u8 (c.toNat : Int) 15) + (1 : Int))).toNat ∧ (IntKind.u8.wrap ((bitv .and .u8 (c.toNat : Int) 15) + (1 : Int))).toNat ≤ (⟨#[48, 49, 50, 51, 52, 53, 54, 55, 56, 57, 65, 66, 67, 68, 69, 70]⟩ : ByteArray).size ∧
 ((⟨#[37]⟩ : ByteArray) ++ ((⟨#[48, 49, 50, 51, 52, 53, 54, 55, 56, 57, 65, 66, 67, 68, 69, 70]⟩ : ByteArray).extract ((Int.fdiv (c.toNat : Int) (2 ^ 4)).toNat) ((IntKind.u8.wrap ((Int.fdiv (c.toNat : Int) (2 ^ 4)) + (1 : Int))).toNat))).size + ((⟨#[48, 49, 50, 51, 52, 53, 54, 55, 56, 57, 65, 66, 67, 68, 69, 70]⟩ : ByteArray).extract ((bitv .and .u8 (c.toNat : Int) 15).toNat) ((IntKind.u8.wrap ((bitv .and .u8 (c.toNat : Int) 15) + (1 : Int))).toNat)).size ≤ 9223372036854775807 ∧ Calls prg 95 #[.pointer (some ⟨b_, 0, none⟩), .string (((⟨#[37]⟩ : ByteArray) ++ ((⟨#[48, 49, 50, 51, 52, 53, 54, 55, 56, 57, 65, 66, 67, 68, 69, 70]⟩ : ByteArray).extract ((Int.fdiv (c.toNat : Int) (2 ^ 4)).toNat) ((IntKind.u8.wrap ((Int.fdiv (c.toNat : Int) (2 ^ 4)) + (1 : Int))).toNat))) ++ ((⟨#[48, 49, 50, 51, 52, 53, 54, 55, 56, 57, 65, 66, 67, 68, 69, 70]⟩ : ByteArray).extract ((bitv .and .u8 (c.toNat : Int) 15).toNat) ((IntKind.u8.wrap ((bitv .and .u8 (c.toNat : Int) 15) + (1 : Int))).toNat)))] w3.drew fun e w6 => ∃ (r3 : Int), ∃ (r4 : Value), e = .returned (.tuple #[.int .i64 r3, r4]) ∧
 (Inv1 (IntKind.i64.wrap (i + (1 : Int))) w6 ∧ Mea1 (IntKind.i64.wrap (i + (1 : Int))) w6 < Mea1 i w2)))) (
 Calls prg 96 #[.pointer (some ⟨b_, 0, none⟩)] w2 fun e w7 => ∃ (r5 : ByteArray), e = .returned (.string r5) ∧
 R (.returned (.string r5)) w7)) :
    Calls prg 47 #[.string s] w R :=
  calls_mk (.node .nil (.node .nil (.node (.node .nil (.loop [(4, .int .i64)] [5, 6, 7, 8, 9, 10, 11, 12, 13, 14, 15, 16, 17, 18, 19, 20, 21, 22, 23, 24, 25, 26, 27, 28, 29, 30, 31, 32, 33, 34, 35, 36, 37, 38] (.node .nil (.node (.node .nil (.node .nil (.node .nil (.node .nil (.node .nil (.draw (.op 0 (.op 1 (.op 2 (.op 3 (.op 4 (.op 5 (.op 6 (.op 7 (.op 8 (.op 9 (.op 10 (.op 11 (.op 12 (.op 13 (.op 14 .done))))))))))))))))))))) .nil)))) .nil))) [.string s] w R tabOk (fokOk []) Tryz.func47 (by kernel_rfl) _ (by kernel_rfl) hyp

end Go.Proofs.YtbbcofdibkgalaaGreatDoor
