import Derived.Test.YtbbcofdibkgalaaGreatDoorWb
set_option linter.unusedVariables false
set_option maxRecDepth 100000
set_option maxHeartbeats 4000000
namespace Go.Proofs.YtbbcofdibkgalaaGreatDoor
open Go.Eng
/-- signet/signetref05.Digits -/
theorem f147_wp (n : Int) (w : World) (R : Ending → World → Prop) (hyp :
 ∃ (Cut1 : Int → World → Prop), (
 cond (decide (n < (0 : Int))) (
 Cut1 (IntKind.u64.wrap ((0 : Int) - (IntKind.u64.wrap n))) w) (
 Cut1 (IntKind.u64.wrap n) w)) ∧
 ∀ (u : Int) (fr : Nat → Value) (w1 : World), Cut1 u w1 →
 ∃ (Cut2 : Option Addr → Nat → Nat → World → Prop), (
 ∃ (Inv1 : Option Addr → Nat → Nat → Int → World → Prop) (Mea1 : Option Addr → Nat → Nat → Int → World → Nat), Inv1 none 0 0 u w1 ∧ ∀ (b_ : Option Addr) (nb cb : Nat) (u1 : Int) (fr1 : Nat → Value) (w2 : World), 
 Inv1 b_ nb cb u1 w2 →
 ∃ (Cut3 : World → Prop), (
 cond (decide (u1 > (9 : Int))) (
 Cut3 w2) (
 cond (decide ((nb : Int) = (0 : Int))) (
 Cut3 w2) (
 Cut2 b_ nb cb w2))) ∧
 ∀ (fr2 : Nat → Value) (w3 : World), Cut3 w3 →
 (10 : Int) ≠ 0 ∧ ∀ (b_1 : Nat) (w4 : World), b_1 = w3.heap.size → w4 = w3.alloc (.cells #[.int .u8 (IntKind.u8.wrap (IntKind.u64.wrap ((48 : Int) + (Int.tmod u1 10))))] 5) →
 ∃ (b_2 : Option Addr) (nb1 cb1 : Nat) (w5 : World), (Builtin.append_ #[23, 23] 23 #[.slice b_ nb cb, .slice (some ⟨b_1, 0, none⟩) 1 1]).run prg w4 = .ok (.slice b_2 nb1 cb1) w5 ∧
 (10 : Int) ≠ 0 ∧ cond (decide ((IntKind.u64.wrap (Int.tdiv u1 10)) < (10 : Int))) (
 cond (decide ((IntKind.u64.wrap (Int.tdiv u1 10)) > (0 : Int))) (
 ∀ (b_3 : Nat) (w6 : World), b_3 = w5.heap.size → w6 = w5.alloc (.cells #[.int .u8 (IntKind.u8.wrap (IntKind.u64.wrap ((48 : Int) + (IntKind.u64.wrap (Int.tdiv u1 10)))))] 5) →
 ∃ (b_4 : Option Addr) (nb2 cb2 : Nat) (w7 : World), (Builtin.append_ #[23, 23] 23 #[.slice b_2 nb1 cb1, .slice (some ⟨b_3, 0, none⟩) 1 1]).run prg w6 = .ok (.slice b_4 nb2 cb2) w7 ∧
 Cut2 b_4 nb2 cb2 w7) (
 Cut2 b_2 nb1 cb1 w5)) (
 (Inv1 b_2 nb1 cb1 (IntKind.u64.wrap (Int.tdiv u1 10)) w5 ∧ Mea1 b_2 nb1 cb1 (IntKind.u64.wrap (Int.tdiv u1 10)) w5 < Mea1 b_ nb cb u1 w2))) ∧
 ∀ (b_5 : Option Addr) (nb3 cb3 : Nat) (fr3 : Nat → Value) (w8 : World), Cut2 b_5 nb3 cb3 w8 →
 ∃ (Cut4 : Option Addr → Nat → Nat → World → Prop), (
 cond (decide (n < (0 : Int))) (
 ∀ (b_6 : Nat) (w9 : World), b_6 = w8.heap.size → w9 = w8.alloc (.cells #[.int .u8 45] 5) →
 ∃ (b_7 : Option Addr) (nb4 cb4 : Nat) (w10 : World), (Builtin.append_ #[23, 23] 23 #[.slice b_5 nb3 cb3, .slice (some ⟨b_6, 0, none⟩) 1 1]).run prg w9 = .ok (.slice b_7 nb4 cb4) w10 ∧
 Cut4 b_7 nb4 cb4 w10) (
 Cut4 b_5 nb3 cb3 w8)) ∧
 ∀ (b_8 : Option Addr) (nb5 cb5 : Nat) (fr4 : Nat → Value) (w11 : World), Cut4 b_8 nb5 cb5 w11 →
 ∃ (Inv2 : Int → World → Prop) (Mea2 : Int → World → Nat), Inv2 0 w11 ∧ ∀ (i : Int) (fr5 : Nat → Value) (w12 : World), 
 Inv2 i w12 →
 (2 : Int) ≠ 0 ∧ cond (decide (i < (IntKind.i64.wrap (Int.tdiv (nb5 : Int) 2)))) (
 0 ≤ i ∧ i < (nb5 : Int) ∧ nilW b_8 fun bk of =>
 ∃ (x : Int), w12.cell? ⟨bk, of + i.toNat * 1, none⟩ = some (.int .u8 x) ∧
 0 ≤ (IntKind.i64.wrap ((IntKind.i64.wrap ((nb5 : Int) - (1 : Int))) - i)) ∧ (IntKind.i64.wrap ((IntKind.i64.wrap ((nb5 : Int) - (1 : Int))) - i)) < (nb5 : Int) ∧ nilW b_8 fun bk1 of1 =>
 ∃ (x1 : Int), w12.cell? ⟨bk1, of1 + (IntKind.i64.wrap ((IntKind.i64.wrap ((nb5 : Int) - (1 : Int))) - i)).toNat * 1, none⟩ = some (.int .u8 x1) ∧
 0 ≤ i ∧ i < (nb5 : Int) ∧ nilW b_8 fun bk2 of2 =>
 Sto w12 bk2 (of2 + i.toNat * 1) [.int .u8 x1] ∧ ∀ w13, w13 = w12.setCells bk2 (of2 + i.toNat * 1) [.int .u8 x1] →
 0 ≤ (IntKind.i64.wrap ((IntKind.i64.wrap ((nb5 : Int) - (1 : Int))) - i)) ∧ (IntKind.i64.wrap ((IntKind.i64.wrap ((nb5 : Int) - (1 : Int))) - i)) < (nb5 : Int) ∧ nilW b_8 fun bk3 of3 =>
 Sto w13 bk3 (of3 + (IntKind.i64.wrap ((IntKind.i64.wrap ((nb5 : Int) - (1 : Int))) - i)).toNat * 1) [.int .u8 x] ∧ ∀ w14, w14 = w13.setCells bk3 (of3 + (IntKind.i64.wrap ((IntKind.i64.wrap ((nb5 : Int) - (1 : Int))) - i)).toNat * 1) [.int .u8 x] →
 (Inv2 (IntKind.i64.wrap (i + (1 : Int))) w14 ∧ Mea2 (IntKind.i64.wrap (i + (1 : Int))) w14 < Mea2 i w12)) (
 ∃ s : ByteArray, BytesAt w12 b_8 nb5 s ∧
 R (.returned (.string s)) w12)) :
    Calls prg 147 #[.int .i64 n] w R :=
  calls_mk (.node .nil (.node .nil (.node .nil (.cut [(4, .int .u64)] [10, 11, 12, 13] .nil (.cut [(3, .slice)] [4, 14, 15, 16, 17, 18, 19, 20, 21, 22, 23, 24, 25, 26, 27, 28, 29, 30, 31, 32, 33, 34, 35, 36, 37, 38, 39] (.loop [(3, .slice), (4, .int .u64)] [14, 15, 16, 17, 18, 19, 20, 21, 22, 23, 24, 25, 26, 27, 28, 29, 30, 31, 32, 33, 34, 35, 36, 37, 38, 39] (.cut [] [14, 15, 16, 17, 18, 19, 20] .nil .nil)) (.cut [(3, .slice)] [40, 41, 42, 43, 44] .nil (.node (.node .nil (.loop [(5, .int .i64)] [6, 7, 45, 46, 47, 48, 49, 50, 51, 52, 53, 54, 55, 56, 57, 58, 59, 60, 61, 62, 63, 64, 65, 66, 67, 68, 69, 70, 71] .nil)) .nil))))))) [.int .i64 n] w R tabOk (fokOk []) Tryz.func147 (by kernel_rfl) _ (by kernel_rfl) hyp

/-- signet/signetref03.Sum -/
theorem f148_wp (b_ : Option Addr) (nb : Nat) (cb : Nat) (w : World) (R : Ending → World → Prop) (hyp :
 ∀ (b_1 : Nat) (w1 : World), b_1 = w.heap.size → w1 = w.alloc (.cells #[.int .u8 0, .int .u8 0, .int .u8 0, .int .u8 0, .int .u8 0, .int .u8 0, .int .u8 0, .int .u8 0, .int .u8 0, .int .u8 0, .int .u8 0, .int .u8 0, .int .u8 0, .int .u8 0, .int .u8 0, .int .u8 0, .int .u8 0, .int .u8 0, .int .u8 0, .int .u8 0, .int .u8 0, .int .u8 0, .int .u8 0, .int .u8 0, .int .u8 0, .int .u8 0, .int .u8 0, .int .u8 0, .int .u8 0, .int .u8 0, .int .u8 0, .int .u8 0] 175) →
 ∀ (b_2 : Nat) (w2 : World), b_2 = w1.heap.size → w2 = w1.alloc (.cells #[.int .u32 0, .int .u32 0, .int .u32 0, .int .u32 0, .int .u32 0, .int .u32 0, .int .u32 0, .int .u32 0] 217) →
 Sto w2 b_2 0 [.int .u32 1779033703, .int .u32 3144134277, .int .u32 1013904242, .int .u32 2773480762, .int .u32 1359893119, .int .u32 2600822924, .int .u32 528734635, .int .u32 1541459225] ∧ ∀ w3, w3 = w2.setCells b_2 0 [.int .u32 1779033703, .int .u32 3144134277, .int .u32 1013904242, .int .u32 2773480762, .int .u32 1359893119, .int .u32 2600822924, .int .u32 528734635, .int .u32 1541459225] →
 Calls prg 172 #[.slice b_ nb cb] w3 fun e w4 => ∃ (p : Option Addr) (np cp : Nat), e = .returned (.slice p np cp) ∧
 ∃ (Inv1 : Int → World → Prop) (Mea1 : Int → World → Nat), Inv1 0 w4 ∧ ∀ (i : Int) (fr : Nat → Value) (w5 : World), 
 Inv1 i w5 →
 cond (decide (i < (np : Int))) (
 ∃ (Drw1 : World → Prop), Drw1 w5.drew ∧
 ∃ cs : List Value, cs.length = 8 ∧ (∀ w6 : World, Drw1 w6 → w6.rangeAt b_2 0 cs) ∧
 0 ≤ i ∧ 0 ≤ (IntKind.i64.wrap (i + (64 : Int))) ∧ i.toNat ≤ (IntKind.i64.wrap (i + (64 : Int))).toNat ∧ (IntKind.i64.wrap (i + (64 : Int))).toNat ≤ cp ∧ ∀ q : Option Addr, (0 < i.toNat → i.toNat < cp → q = shiftP p (i.toNat * 1)) → (i.toNat = 0 → q = p) →
 Calls prg 173 #[.agg (ex cs 8).toArray, .slice q ((IntKind.i64.wrap (i + (64 : Int))).toNat - i.toNat) (cp - i.toNat)] w5.drew fun e w7 => ∃ (r : List Value), r.length = 8 ∧ e = .returned (.agg (ex r 8).toArray) ∧
 Sto w7 b_2 0 (ex r 8) ∧ ∀ w8, w8 = w7.setCells b_2 0 (ex r 8) →
 (Inv1 (IntKind.i64.wrap (i + (64 : Int))) w8 ∧ Mea1 (IntKind.i64.wrap (i + (64 : Int))) w8 < Mea1 i w5)) (
 ∀ (b_3 : Nat) (w9 : World), b_3 = w5.heap.size → w9 = w5.alloc (.cells #[.int .u8 0, .int .u8 0, .int .u8 0, .int .u8 0, .int .u8 0, .int .u8 0, .int .u8 0, .int .u8 0, .int .u8 0, .int .u8 0, .int .u8 0, .int .u8 0, .int .u8 0, .int .u8 0, .int .u8 0, .int .u8 0, .int .u8 0, .int .u8 0, .int .u8 0, .int .u8 0, .int .u8 0, .int .u8 0, .int .u8 0, .int .u8 0, .int .u8 0, .int .u8 0, .int .u8 0, .int .u8 0, .int .u8 0, .int .u8 0, .int .u8 0, .int .u8 0] 175) →
 ∃ (Inv2 : Int → World → Prop) (Mea2 : Int → World → Nat), Inv2 0 w9 ∧ ∀ (i1 : Int) (fr1 : Nat → Value) (w10 : World), 
 Inv2 i1 w10 →
 cond (decide (i1 < (32 : Int))) (
 (4 : Int) ≠ 0 ∧ 0 ≤ (IntKind.i64.wrap (Int.tdiv i1 4)) ∧ (IntKind.i64.wrap (Int.tdiv i1 4)) < (8 : Int) ∧
 ∃ (x : Int), w10.cell? ⟨b_2, 0 + (IntKind.i64.wrap (Int.tdiv i1 4)).toNat * 1, none⟩ = some (.int .u32 x) ∧
 (4 : Int) ≠ 0 ∧ Calls prg 174 #[.int .u32 x, .int .i64 (IntKind.i64.wrap ((24 : Int) - (IntKind.i64.wrap ((8 : Int) * (Int.tmod i1 4)))))] w10 fun e w11 => ∃ (r1 : Int), e = .returned (.int .u32 r1) ∧
 (256 : Int) ≠ 0 ∧ 0 ≤ i1 ∧ i1 < (32 : Int) ∧
 Sto w11 b_3 (0 + i1.toNat * 1) [.int .u8 (IntKind.u8.wrap (Int.tmod r1 256))] ∧ ∀ w12, w12 = w11.setCells b_3 (0 + i1.toNat * 1) [.int .u8 (IntKind.u8.wrap (Int.tmod r1 256))] →
 (Inv2 (IntKind.i64.wrap (i1 + (1 : Int))) w12 ∧ Mea2 (IntKind.i64.wrap (i1 + (1 : Int))) w12 < Mea2 i1 w10)) (
 ∃ cs1 : List Value, cs1.length = 32 ∧ w10.rangeAt b_3 0 cs1 ∧
 Sto w10 b_1 0 (ex cs1 32) ∧ ∀ w13, w13 = w10.setCells b_1 0 (ex cs1 32) →
 ∃ res : List Value, res.length = 32 ∧ w13.rangeAt b_1 0 res ∧
 R (.returned (.agg (ex res 32).toArray)) w13))) :
    Calls prg 148 #[.slice b_ nb cb] w R :=
  calls_mk (.node .nil (.node .nil (.node .nil (.node (.node .nil (.loop [(5, .int .i64)] [11, 12, 13, 14, 15, 16, 17, 18, 19, 20, 21, 22, 23] (.node .nil (.node (.draw (.op 0 (.op 1 (.op 2 (.op 3 (.op 4 (.op 5 (.op 6 (.op 7 .done))))))))) .nil)))) (.node .nil (.node (.node .nil (.loop [(7, .int .i64)] [24, 25, 26, 27, 28, 29, 30, 31, 32, 33, 34, 35, 36, 37, 38, 39, 40] .nil)) .nil)))))) [.slice b_ nb cb] w R tabOk (fokOk []) Tryz.func148 (by kernel_rfl) _ (by kernel_rfl) hyp

/-- signet/signetref01.sixes -/
theorem f149_wp (b_ : Option Addr) (nb : Nat) (cb : Nat) (web : Bool) (w : World) (R : Ending → World → Prop) (hyp :
 Calls prg 175 #[.slice b_ nb cb] w fun e w1 => ∃ (l : Option Addr) (nl cl : Nat), e = .returned (.slice l nl cl) ∧
 ∃ (Inv1 : Option Addr → Nat → Nat → World → Prop) (Mea1 : Option Addr → Nat → Nat → World → Nat), Inv1 l nl cl w1 ∧ ∀ (l1 : Option Addr) (nl1 cl1 : Nat) (fr : Nat → Value) (w2 : World), 
 Inv1 l1 nl1 cl1 w2 →
 (6 : Int) ≠ 0 ∧ cond (decide ((Int.tmod (nl1 : Int) 6) ≠ (0 : Int))) (
 ∀ (b_1 : Nat) (w3 : World), b_1 = w2.heap.size → w3 = w2.alloc (.cells #[.bool false] 4) →
 ∃ (l2 : Option Addr) (nl2 cl2 : Nat) (w4 : World), (Builtin.append_ #[213, 213] 213 #[.slice l1 nl1 cl1, .slice (some ⟨b_1, 0, none⟩) 1 1]).run prg w3 = .ok (.slice l2 nl2 cl2) w4 ∧
 (Inv1 l2 nl2 cl2 w4 ∧ Mea1 l2 nl2 cl2 w4 < Mea1 l1 nl1 cl1 w2)) (
 ∃ (Inv2 : Option Addr → Nat → Nat → Int → World → Prop) (Mea2 : Option Addr → Nat → Nat → Int → World → Nat), Inv2 none 0 0 0 w2 ∧ ∀ (s : Option Addr) (ns cs : Nat) (i : Int) (fr1 : Nat → Value) (w5 : World), 
 Inv2 s ns cs i w5 →
 cond (decide (i < (nl1 : Int))) (
 0 ≤ i ∧ 0 ≤ (IntKind.i64.wrap (i + (6 : Int))) ∧ i.toNat ≤ (IntKind.i64.wrap (i + (6 : Int))).toNat ∧ (IntKind.i64.wrap (i + (6 : Int))).toNat ≤ cl1 ∧ ∀ q : Option Addr, (0 < i.toNat → i.toNat < cl1 → q = shiftP l1 (i.toNat * 1)) → (i.toNat = 0 → q = l1) →
 Calls prg 171 #[.slice q ((IntKind.i64.wrap (i + (6 : Int))).toNat - i.toNat) (cl1 - i.toNat)] w5 fun e w6 => ∃ (r : Int), e = .returned (.int .i64 r) ∧
 Calls prg 170 #[.int .i64 r, .bool web] w6 fun e w7 => ∃ (r1 : Int), e = .returned (.int .u8 r1) ∧
 ∀ (b_2 : Nat) (w8 : World), b_2 = w7.heap.size → w8 = w7.alloc (.cells #[.int .u8 r1] 5) →
 ∃ (s1 : Option Addr) (ns1 cs1 : Nat) (w9 : World), (Builtin.append_ #[23, 23] 23 #[.slice s ns cs, .slice (some ⟨b_2, 0, none⟩) 1 1]).run prg w8 = .ok (.slice s1 ns1 cs1) w9 ∧
 (Inv2 s1 ns1 cs1 (IntKind.i64.wrap (i + (6 : Int))) w9 ∧ Mea2 s1 ns1 cs1 (IntKind.i64.wrap (i + (6 : Int))) w9 < Mea2 s ns cs i w5)) (
 ∃ s2 : ByteArray, BytesAt w5 s ns s2 ∧
 R (.returned (.string s2)) w5))) :
    Calls prg 149 #[.slice b_ nb cb, .bool web] w R :=
  calls_mk (.node .nil (.node .nil (.node (.loop [(5, .slice)] [10, 11, 12, 13, 14, 15, 16] .nil) (.node .nil (.node (.node .nil (.loop [(6, .slice), (7, .int .i64)] [17, 18, 19, 20, 21, 22, 23, 24, 25, 26, 27, 28, 29, 30, 31, 32, 33] .nil)) .nil))))) [.slice b_ nb cb, .bool web] w R tabOk (fokOk []) Tryz.func149 (by kernel_rfl) _ (by kernel_rfl) hyp

/-- internal/stringslite.HasPrefix -/
theorem f150_wp (s : ByteArray) (prefix_ : ByteArray) (w : World) (R : Ending → World → Prop) (hyp :
 cond (decide ((s.size : Int) ≥ (prefix_.size : Int))) (
 0 ≤ (prefix_.size : Int) ∧ 0 ≤ (prefix_.size : Int).toNat ∧ (prefix_.size : Int).toNat ≤ s.size ∧
 R (.returned (.bool (decide ((s.extract 0 ((prefix_.size : Int).toNat)) = prefix_)))) w) (
 R (.returned (.bool false)) w)) :
    Calls prg 150 #[.string s, .string prefix_] w R :=
  calls_mk .nil [.string s, .string prefix_] w R tabOk (fokOk []) Tryz.func150 (by kernel_rfl) _ (by kernel_rfl) hyp

/-- signet/octet.worth -/
theorem f151_wp (signs : ByteArray) (c : Int) (w : World) (R : Ending → World → Prop) (hyp :
 ∃ (Inv1 : Int → World → Prop) (Mea1 : Int → World → Nat), Inv1 0 w ∧ ∀ (i : Int) (fr : Nat → Value) (w1 : World), 
 Inv1 i w1 →
 cond (decide (i < (signs.size : Int))) (
 0 ≤ i ∧ ∃ c1 : UInt8, signs.data.toList[i.toNat]? = some c1 ∧
 cond (decide ((c1.toNat : Int) = c)) (
 R (.returned (.int .i64 i)) w1) (
 (Inv1 (IntKind.i64.wrap (i + (1 : Int))) w1 ∧ Mea1 (IntKind.i64.wrap (i + (1 : Int))) w1 < Mea1 i w1))) (
 R (.returned (.int .i64 (-1))) w1)) :
    Calls prg 151 #[.string signs, .int .u8 c] w R :=
  calls_mk (.node .nil (.node (.node .nil (.loop [(5, .int .i64)] [4, 6, 7, 8, 9, 10, 11, 12, 13, 14, 15, 16, 17] .nil)) .nil)) [.string signs, .int .u8 c] w R tabOk (fokOk []) Tryz.func151 (by kernel_rfl) _ (by kernel_rfl) hyp

/-- internal/bytealg.Cutover -/
theorem f154_wp (n : Int) (w : World) (R : Ending → World → Prop) (hyp :
 (8 : Int) ≠ 0 ∧ R (.returned (.int .i64 (IntKind.i64.wrap (Int.tdiv (IntKind.i64.wrap (n + (16 : Int))) 8)))) w) :
    Calls prg 154 #[.int .i64 n] w R :=
  calls_mk .nil [.int .i64 n] w R tabOk (fokOk []) Tryz.func154 (by kernel_rfl) _ (by kernel_rfl) hyp

/-- internal/bytealg.IndexRabinKarp[string] -/
theorem f155_wp (s : ByteArray) (sep : ByteArray) (w : World) (R : Ending → World → Prop) (hyp :
 Calls prg 177 #[.string sep] w fun e w1 => ∃ (r : Int), ∃ (r1 : Int), e = .returned (.tuple #[.int .u32 r, .int .u32 r1]) ∧
 ∃ (Inv1 : Int → Int → World → Prop) (Mea1 : Int → Int → World → Nat), Inv1 0 0 w1 ∧ ∀ (h i : Int) (fr : Nat → Value) (w2 : World), 
 Inv1 h i w2 →
 cond (decide (i < (sep.size : Int))) (
 0 ≤ i ∧ ∃ c : UInt8, s.data.toList[i.toNat]? = some c ∧
 (Inv1 (IntKind.u32.wrap ((IntKind.u32.wrap (h * (16777619 : Int))) + (IntKind.u32.wrap (c.toNat : Int)))) (IntKind.i64.wrap (i + (1 : Int))) w2 ∧ Mea1 (IntKind.u32.wrap ((IntKind.u32.wrap (h * (16777619 : Int))) + (IntKind.u32.wrap (c.toNat : Int)))) (IntKind.i64.wrap (i + (1 : Int))) w2 < Mea1 h i w2)) (
 ∃ (Cut1 : World → Prop), (
 cond (decide (h = r)) (
 0 ≤ (sep.size : Int) ∧ 0 ≤ (sep.size : Int).toNat ∧ (sep.size : Int).toNat ≤ s.size ∧
 cond (decide ((s.extract 0 ((sep.size : Int).toNat)) = sep)) (
 R (.returned (.int .i64 0)) w2) (
 Cut1 w2)) (
 Cut1 w2)) ∧
 ∀ (fr1 : Nat → Value) (w3 : World), Cut1 w3 →
 ∃ (Inv2 : Int → Int → World → Prop) (Mea2 : Int → Int → World → Nat), Inv2 h (sep.size : Int) w3 ∧ ∀ (h1 i1 : Int) (fr2 : Nat → Value) (w4 : World), 
 Inv2 h1 i1 w4 →
 cond (decide (i1 < (s.size : Int))) (
 0 ≤ i1 ∧ ∃ c1 : UInt8, s.data.toList[i1.toNat]? = some c1 ∧
 0 ≤ (IntKind.i64.wrap (i1 - (sep.size : Int))) ∧ ∃ c2 : UInt8, s.data.toList[(IntKind.i64.wrap (i1 - (sep.size : Int))).toNat]? = some c2 ∧
 cond (decide ((IntKind.u32.wrap ((IntKind.u32.wrap ((IntKind.u32.wrap (h1 * (16777619 : Int))) + (IntKind.u32.wrap (c1.toNat : Int)))) - (IntKind.u32.wrap (r1 * (IntKind.u32.wrap (c2.toNat : Int)))))) = r)) (
 0 ≤ (IntKind.i64.wrap ((IntKind.i64.wrap (i1 + (1 : Int))) - (sep.size : Int))) ∧ 0 ≤ (IntKind.i64.wrap (i1 + (1 : Int))) ∧ (IntKind.i64.wrap ((IntKind.i64.wrap (i1 + (1 : Int))) - (sep.size : Int))).toNat ≤ (IntKind.i64.wrap (i1 + (1 : Int))).toNat ∧ (IntKind.i64.wrap (i1 + (1 : Int))).toNat ≤ s.size ∧
 cond (decide ((s.extract ((IntKind.i64.wrap ((IntKind.i64.wrap (i1 + (1 : Int))) - (sep.size : Int))).toNat) ((IntKind.i64.wrap (i1 + (1 : Int))).toNat)) = sep)) (
 R (.returned (.int .i64 (IntKind.i64.wrap ((IntKind.i64.wrap (i1 + (1 : Int))) - (sep.size : Int))))) w4) (
 (Inv2 (IntKind.u32.wrap ((IntKind.u32.wrap ((IntKind.u32.wrap (h1 * (16777619 : Int))) + (IntKind.u32.wrap (c1.toNat : Int)))) - (IntKind.u32.wrap (r1 * (IntKind.u32.wrap (c2.toNat : Int)))))) (IntKind.i64.wrap (i1 + (1 : Int))) w4 ∧ Mea2 (IntKind.u32.wrap ((IntKind.u32.wrap ((IntKind.u32.wrap (h1 * (16777619 : Int))) + (IntKind.u32.wrap (c1.toNat : Int)))) - (IntKind.u32.wrap (r1 * (IntKind.u32.wrap (c2.toNat : Int)))))) (IntKind.i64.wrap (i1 + (1 : Int))) w4 < Mea2 h1 i1 w4))) (
 (Inv2 (IntKind.u32.wrap ((IntKind.u32.wrap ((IntKind.u32.wrap (h1 * (16777619 : Int))) + (IntKind.u32.wrap (c1.toNat : Int)))) - (IntKind.u32.wrap (r1 * (IntKind.u32.wrap (c2.toNat : Int)))))) (IntKind.i64.wrap (i1 + (1 : Int))) w4 ∧ Mea2 (IntKind.u32.wrap ((IntKind.u32.wrap ((IntKind.u32.wrap (h1 * (16777619 : Int))) + (IntKind.u32.wrap (c1.toNat : Int)))) - (IntKind.u32.wrap (r1 * (IntKind.u32.wrap (c2.toNat : Int)))))) (IntKind.i64.wrap (i1 + (1 : Int))) w4 < Mea2 h1 i1 w4))) (
 R (.returned (.int .i64 (-1))) w4))) :
    Calls prg 155 #[.string s, .string sep] w R :=
  calls_mk (.node .nil (.node .nil (.node .nil (.node .nil (.node (.node .nil (.loop [(8, .int .u32), (9, .int .i64)] [18, 19, 20, 21, 22, 23, 24, 25, 26, 27, 28, 29] .nil)) (.cut [] [4, 30, 31, 32, 33, 34, 35, 36, 37, 38, 39] .nil (.node (.node .nil (.loop [(8, .int .u32), (10, .int .i64)] [4, 41, 42, 43, 44, 45, 46, 47, 48, 49, 50, 51, 52, 53, 54, 55, 56, 57, 58, 59, 60, 61, 62, 63, 64, 65, 66, 67, 68, 69, 70, 71, 72, 73, 74, 75, 76, 77, 78, 79, 80] .nil)) .nil))))))) [.string s, .string sep] w R tabOk (fokOk []) Tryz.func155 (by kernel_rfl) _ (by kernel_rfl) hyp

/-- internal/strconv.Itoa -/
theorem f161_wp (i : Int) (w : World) (R : Ending → World → Prop) (hyp :
 Calls prg 181 #[.int .i64 i, .int .i64 10] w fun e w1 => ∃ (r : ByteArray), e = .returned (.string r) ∧
 R (.returned (.string r)) w1) :
    Calls prg 161 #[.int .i64 i] w R :=
  calls_mk .nil [.int .i64 i] w R tabOk (fokOk []) Tryz.func161 (by kernel_rfl) _ (by kernel_rfl) hyp

/-- signet/sha.All -/
theorem f162_wp (parts : Option Addr) (nparts : Nat) (cparts : Nat) (w : World) (R : Ending → World → Prop) (hyp :
 ∀ (b_ : Nat) (w1 : World), b_ = w.heap.size → w1 = w.alloc (.cells #[.int .u8 0, .int .u8 0, .int .u8 0, .int .u8 0, .int .u8 0, .int .u8 0, .int .u8 0, .int .u8 0, .int .u8 0, .int .u8 0, .int .u8 0, .int .u8 0, .int .u8 0, .int .u8 0, .int .u8 0, .int .u8 0, .int .u8 0, .int .u8 0, .int .u8 0, .int .u8 0, .int .u8 0, .int .u8 0, .int .u8 0, .int .u8 0, .int .u8 0, .int .u8 0, .int .u8 0, .int .u8 0, .int .u8 0, .int .u8 0, .int .u8 0, .int .u8 0] 180) →
 Calls prg 182 #[] w1 fun e w2 => ∃ (h : List Value), h.length = 8 ∧ ∃ (rest : List Value), rest.length = 64 ∧ ∃ (n : Int), e = .returned (.agg (ex h 8 ++ ex rest 64 ++ ([.int .i64 n] : List Value)).toArray) ∧
 ∀ (b_1 : Nat) (w3 : World), b_1 = w2.heap.size → w3 = w2.alloc (.cells #[.int .u32 0, .int .u32 0, .int .u32 0, .int .u32 0, .int .u32 0, .int .u32 0, .int .u32 0, .int .u32 0, .int .u8 0, .int .u8 0, .int .u8 0, .int .u8 0, .int .u8 0, .int .u8 0, .int .u8 0, .int .u8 0, .int .u8 0, .int .u8 0, .int .u8 0, .int .u8 0, .int .u8 0, .int .u8 0, .int .u8 0, .int .u8 0, .int .u8 0, .int .u8 0, .int .u8 0, .int .u8 0, .int .u8 0, .int .u8 0, .int .u8 0, .int .u8 0, .int .u8 0, .int .u8 0, .int .u8 0, .int .u8 0, .int .u8 0, .int .u8 0, .int .u8 0, .int .u8 0, .int .u8 0, .int .u8 0, .int .u8 0, .int .u8 0, .int .u8 0, .int .u8 0, .int .u8 0, .int .u8 0, .int .u8 0, .int .u8 0, .int .u8 0, .int .u8 0, .int .u8 0, .int .u8 0, .int .u8 0, .int .u8 0, .int .u8 0, .int .u8 0, .int .u8 0, .int .u8 0, .int .u8 0, .int .u8 0, .int .u8 0, .int .u8 0, .int .u8 0, .int .u8 0, .int .u8 0, .int .u8 0, .int .u8 0, .int .u8 0, .int .u8 0, .int .u8 0, .int .i64 0] 231) →
 Sto w3 b_1 0 (ex h 8 ++ ex rest 64 ++ ([.int .i64 n] : List Value)) ∧ ∀ w4, w4 = w3.setCells b_1 0 (ex h 8 ++ ex rest 64 ++ ([.int .i64 n] : List Value)) →
 ∃ (Inv1 : Int → World → Prop) (Mea1 : Int → World → Nat), Inv1 0 w4 ∧ ∀ (t9 : Int) (fr : Nat → Value) (w5 : World), 
 Inv1 t9 w5 →
 cond (decide (t9 < (nparts : Int))) (
 0 ≤ t9 ∧ t9 < (nparts : Int) ∧ nilW parts fun bk of =>
 ∃ (p : Option Addr) (np cp : Nat), w5.cell? ⟨bk, of + t9.toNat * 1, none⟩ = some (.slice p np cp) ∧
 Calls prg 183 #[.pointer (some ⟨b_1, 0, none⟩), .slice p np cp] w5 fun e w6 => e = .returned (.tuple #[]) ∧
 (Inv1 (IntKind.i64.wrap (t9 + (1 : Int))) w6 ∧ Mea1 (IntKind.i64.wrap (t9 + (1 : Int))) w6 < Mea1 t9 w5)) (
 ∃ (h1 : List Value), h1.length = 8 ∧ ∃ (rest1 : List Value), rest1.length = 64 ∧ ∃ (n1 : Int), w5.rangeAt b_1 0 (ex h1 8 ++ ex rest1 64 ++ ([.int .i64 n1] : List Value)) ∧
 Calls prg 184 #[.agg (ex h1 8 ++ ex rest1 64 ++ ([.int .i64 n1] : List Value)).toArray] w5 fun e w7 => ∃ (r : List Value), r.length = 32 ∧ e = .returned (.agg (ex r 32).toArray) ∧
 Sto w7 b_ 0 (ex r 32) ∧ ∀ w8, w8 = w7.setCells b_ 0 (ex r 32) →
 ∃ res : List Value, res.length = 32 ∧ w8.rangeAt b_ 0 res ∧
 R (.returned (.agg (ex res 32).toArray)) w8)) :
    Calls prg 162 #[.slice parts nparts cparts] w R :=
  calls_mk (.node .nil (.node .nil (.node (.node .nil (.loop [(9, .int .i64)] [5, 10, 11, 12, 13, 14, 15] .nil)) .nil))) [.slice parts nparts cparts] w R tabOk (fokOk []) Tryz.func162 (by kernel_rfl) _ (by kernel_rfl) hyp

/-- slices.pdqsortOrdered[string] -/
theorem f164_wp (data : Option Addr) (ndata : Nat) (cdata : Nat) (a : Int) (b_ : Int) (limit : Int) (w : World) (R : Ending → World → Prop) (hyp :
 ∃ (Inv1 : Int → Int → Int → Bool → Bool → World → Prop) (Mea1 : Int → Int → Int → Bool → Bool → World → Nat), Inv1 a b_ limit true true w ∧ ∀ (a1 b_1 limit1 : Int) (wasBalanced wasPartitioned : Bool) (fr : Nat → Value) (w1 : World), 
 Inv1 a1 b_1 limit1 wasBalanced wasPartitioned w1 →
 cond (decide ((IntKind.i64.wrap (b_1 - a1)) ≤ (12 : Int))) (
 Calls prg 185 #[.slice data ndata cdata, .int .i64 a1, .int .i64 b_1] w1 fun e w2 => e = .returned (.tuple #[]) ∧
 R (.returned (.tuple #[])) w2) (
 cond (decide (limit1 = (0 : Int))) (
 Calls prg 186 #[.slice data ndata cdata, .int .i64 a1, .int .i64 b_1] w1 fun e w3 => e = .returned (.tuple #[]) ∧
 R (.returned (.tuple #[])) w3) (
 ∃ (Cut1 : Int → World → Prop), (
 cond (!wasBalanced) (
 Calls prg 187 #[.slice data ndata cdata, .int .i64 a1, .int .i64 b_1] w1 fun e w4 => e = .returned (.tuple #[]) ∧
 Cut1 (IntKind.i64.wrap (limit1 - (1 : Int))) w4) (
 Cut1 limit1 w1)) ∧
 ∀ (limit2 : Int) (fr1 : Nat → Value) (w5 : World), Cut1 limit2 w5 →
 Calls prg 188 #[.slice data ndata cdata, .int .i64 a1, .int .i64 b_1] w5 fun e w6 => ∃ (r : Int), ∃ (r1 : Int), e = .returned (.tuple #[.int .i64 r, .int .i64 r1]) ∧
 ∃ (Cut2 : Int → Int → World → Prop), (
 cond (decide (r1 = (2 : Int))) (
 Calls prg 189 #[.slice data ndata cdata, .int .i64 a1, .int .i64 b_1] w6 fun e w7 => e = .returned (.tuple #[]) ∧
 Cut2 (IntKind.i64.wrap ((IntKind.i64.wrap (b_1 - (1 : Int))) - (IntKind.i64.wrap (r - a1)))) 1 w7) (
 Cut2 r r1 w6)) ∧
 ∀ (pivot hint : Int) (fr2 : Nat → Value) (w8 : World), Cut2 pivot hint w8 →
 ∃ (Cut3 : World → Prop), (
 cond wasBalanced (
 cond wasPartitioned (
 cond (decide (hint = (1 : Int))) (
 Calls prg 190 #[.slice data ndata cdata, .int .i64 a1, .int .i64 b_1] w8 fun e w9 => ∃ (r2 : Bool), e = .returned (.bool r2) ∧
 cond r2 (
 R (.returned (.tuple #[])) w9) (
 Cut3 w9)) (
 Cut3 w8)) (
 Cut3 w8)) (
 Cut3 w8)) ∧
 ∀ (fr3 : Nat → Value) (w10 : World), Cut3 w10 →
 ∃ (Cut4 : Int → World → Prop), (
 ∃ (Drw1 : World → Prop), Drw1 w10.drew ∧
 cond (decide (a1 > (0 : Int))) (
 0 ≤ (IntKind.i64.wrap (a1 - (1 : Int))) ∧ (IntKind.i64.wrap (a1 - (1 : Int))) < (ndata : Int) ∧ nilW data fun bk of =>
 ∃ (x : ByteArray), (∀ w11 : World, Drw1 w11 → w11.cell? ⟨bk, of + (IntKind.i64.wrap (a1 - (1 : Int))).toNat * 1, none⟩ = some (.string x)) ∧
 0 ≤ pivot ∧ pivot < (ndata : Int) ∧ nilW data fun bk1 of1 =>
 ∃ (x1 : ByteArray), (∀ w12 : World, Drw1 w12 → w12.cell? ⟨bk1, of1 + pivot.toNat * 1, none⟩ = some (.string x1)) ∧
 Calls prg 191 #[.string x, .string x1] w10.drew fun e w13 => ∃ (r3 : Bool), e = .returned (.bool r3) ∧
 cond (!r3) (
 Calls prg 192 #[.slice data ndata cdata, .int .i64 a1, .int .i64 b_1, .int .i64 pivot] w13 fun e w14 => ∃ (mid : Int), e = .returned (.int .i64 mid) ∧
 (Inv1 mid b_1 limit2 wasBalanced wasPartitioned w14 ∧ Mea1 mid b_1 limit2 wasBalanced wasPartitioned w14 < Mea1 a1 b_1 limit1 wasBalanced wasPartitioned w1)) (
 Cut4 a1 w13)) (
 Cut4 a1 w10.drew)) ∧
 ∀ (a2 : Int) (fr4 : Nat → Value) (w15 : World), Cut4 a2 w15 →
 Calls prg 193 #[.slice data ndata cdata, .int .i64 a2, .int .i64 b_1, .int .i64 pivot] w15 fun e w16 => ∃ (r4 : Int), ∃ (r5 : Bool), e = .returned (.tuple #[.int .i64 r4, .bool r5]) ∧
 (8 : Int) ≠ 0 ∧ cond (decide ((IntKind.i64.wrap (r4 - a2)) < (IntKind.i64.wrap (b_1 - r4)))) (
 Calls prg 164 #[.slice data ndata cdata, .int .i64 a2, .int .i64 r4, .int .i64 limit2] w16 fun e w17 => e = .returned (.tuple #[]) ∧
 (Inv1 (IntKind.i64.wrap (r4 + (1 : Int))) b_1 limit2 (decide ((IntKind.i64.wrap (r4 - a2)) ≥ (IntKind.i64.wrap (Int.tdiv (IntKind.i64.wrap (b_1 - a1)) 8)))) r5 w17 ∧ Mea1 (IntKind.i64.wrap (r4 + (1 : Int))) b_1 limit2 (decide ((IntKind.i64.wrap (r4 - a2)) ≥ (IntKind.i64.wrap (Int.tdiv (IntKind.i64.wrap (b_1 - a1)) 8)))) r5 w17 < Mea1 a1 b_1 limit1 wasBalanced wasPartitioned w1)) (
 Calls prg 164 #[.slice data ndata cdata, .int .i64 (IntKind.i64.wrap (r4 + (1 : Int))), .int .i64 b_1, .int .i64 limit2] w16 fun e w18 => e = .returned (.tuple #[]) ∧
 (Inv1 a2 r4 limit2 (decide ((IntKind.i64.wrap (b_1 - r4)) ≥ (IntKind.i64.wrap (Int.tdiv (IntKind.i64.wrap (b_1 - a1)) 8)))) r5 w18 ∧ Mea1 a2 r4 limit2 (decide ((IntKind.i64.wrap (b_1 - r4)) ≥ (IntKind.i64.wrap (Int.tdiv (IntKind.i64.wrap (b_1 - a1)) 8)))) r5 w18 < Mea1 a1 b_1 limit1 wasBalanced wasPartitioned w1))))) :
    Calls prg 164 #[.slice data ndata cdata, .int .i64 a, .int .i64 b_, .int .i64 limit] w R :=
  calls_mk (.node .nil (.node .nil (.loop [(1, .int .i64), (2, .int .i64), (3, .int .i64), (8, .bool), (9, .bool)] [10, 11, 12, 13, 14, 15, 16, 17, 18, 19, 20, 21, 22, 23, 24, 25, 26, 27, 28, 29, 30, 31, 32, 33, 34, 35, 36, 37, 38, 39, 40, 41, 42, 43, 44, 45, 46, 47, 48, 49, 50, 51, 52, 53, 54, 55, 56, 57, 58, 59, 60, 61, 62, 63, 64, 65, 66, 67, 68, 69, 70, 71, 72, 73, 74, 75, 76, 77, 78, 79, 80, 81, 82, 83, 84, 85, 86, 87, 88, 89, 90, 91, 92, 93, 94, 95, 96, 97, 98, 99, 100, 101, 102, 103, 104, 105, 106, 107, 108, 109, 110, 111, 112, 113, 114, 115, 116, 117, 118, 119, 120, 121, 122, 123, 124, 125, 126, 127, 128, 129, 130, 131, 132, 133] (.node .nil (.node .nil (.node .nil (.cut [(3, .int .i64)] [34, 35, 36, 37, 38, 39, 40, 41] .nil (.node .nil (.cut [(11, .int .i64), (12, .int .i64)] [49, 50, 51, 52, 53, 54, 55, 56, 57, 58, 59, 60] .nil (.cut [] [61, 62, 63, 64, 65, 66, 67, 68, 69, 70, 71, 72] .nil (.cut [(1, .int .i64)] [13, 73, 74, 75, 76, 77, 78, 79, 80, 81, 82, 83, 84, 85, 86, 87, 88, 89, 90, 91, 92, 93] (.node (.draw (.op 0 (.op 1 (.op 2 (.op 3 (.op 4 (.op 5 (.op 6 (.op 7 (.op 8 (.op 9 (.op 10 (.op 11 (.op 12 (.op 13 (.op 14 .done)))))))))))))))) .nil) .nil))))))))))) [.slice data ndata cdata, .int .i64 a, .int .i64 b_, .int .i64 limit] w R tabOk (fokOk []) Tryz.func164 (by kernel_rfl) _ (by kernel_rfl) hyp

/-- math/bits.Len -/
theorem f165_wp (x : Int) (w : World) (R : Ending → World → Prop) (hyp :
 Calls prg 195 #[.int .u64 x] w fun e w1 => ∃ (r : Int), e = .returned (.int .i64 r) ∧
 R (.returned (.int .i64 r)) w1) :
    Calls prg 165 #[.int .u64 x] w R :=
  calls_mk .nil [.int .u64 x] w R tabOk (fokOk []) Tryz.func165 (by kernel_rfl) _ (by kernel_rfl) hyp

/-- strings.genSplit -/
theorem f167_wp (s : ByteArray) (sep : ByteArray) (sepSave : Int) (n : Int) (w : World) (R : Ending → World → Prop) (hyp :
 cond (decide (n = (0 : Int))) (
 R (.returned (.slice none 0 0)) w) (
 cond (decide (sep = ⟨#[]⟩)) (
 Calls prg 197 #[.string s, .int .i64 n] w fun e w1 => ∃ (r : Option Addr) (nr cr : Nat), e = .returned (.slice r nr cr) ∧
 R (.returned (.slice r nr cr)) w1) (
 ∃ (Cut1 : Int → World → Prop), (
 cond (decide (n < (0 : Int))) (
 Calls prg 198 #[.string s, .string sep] w fun e w2 => ∃ (r1 : Int), e = .returned (.int .i64 r1) ∧
 Cut1 (IntKind.i64.wrap (r1 + (1 : Int))) w2) (
 Cut1 n w)) ∧
 ∀ (n1 : Int) (fr : Nat → Value) (w3 : World), Cut1 n1 w3 →
 ∃ (a : Option Addr) (na ca : Nat) (w4 : World), (Instr.makeSlice 33 (.int .i64 (if (IntKind.i64.wrap ((s.size : Int) + (1 : Int))) < n1 then (IntKind.i64.wrap ((s.size : Int) + (1 : Int))) else n1)) (.int .i64 (if (IntKind.i64.wrap ((s.size : Int) + (1 : Int))) < n1 then (IntKind.i64.wrap ((s.size : Int) + (1 : Int))) else n1))).run prg w3 = .ok (.slice a na ca) w4 ∧
 ∃ (Inv1 : ByteArray → Int → World → Prop) (Mea1 : ByteArray → Int → World → Nat), Inv1 s 0 w4 ∧ ∀ (s1 : ByteArray) (i : Int) (fr1 : Nat → Value) (w5 : World), 
 Inv1 s1 i w5 →
 cond (decide (i < (IntKind.i64.wrap ((if (IntKind.i64.wrap ((s.size : Int) + (1 : Int))) < n1 then (IntKind.i64.wrap ((s.size : Int) + (1 : Int))) else n1) - (1 : Int))))) (
 Calls prg 88 #[.string s1, .string sep] w5 fun e w6 => ∃ (m : Int), e = .returned (.int .i64 m) ∧
 cond (decide (m < (0 : Int))) (
 0 ≤ i ∧ i < (na : Int) ∧ nilW a fun bk of =>
 Sto w6 bk (of + i.toNat * 1) [.string s1] ∧ ∀ w7, w7 = w6.setCells bk (of + i.toNat * 1) [.string s1] →
 0 ≤ (IntKind.i64.wrap (i + (1 : Int))) ∧ 0 ≤ (IntKind.i64.wrap (i + (1 : Int))).toNat ∧ (IntKind.i64.wrap (i + (1 : Int))).toNat ≤ ca ∧ ∀ q : Option Addr, (0 < 0 → 0 < ca → q = shiftP a (0 * 1)) → (0 = 0 → q = a) →
 R (.returned (.slice q (IntKind.i64.wrap (i + (1 : Int))).toNat ca)) w7) (
 0 ≤ (IntKind.i64.wrap (m + sepSave)) ∧ 0 ≤ (IntKind.i64.wrap (m + sepSave)).toNat ∧ (IntKind.i64.wrap (m + sepSave)).toNat ≤ s1.size ∧
 0 ≤ i ∧ i < (na : Int) ∧ nilW a fun bk1 of1 =>
 Sto w6 bk1 (of1 + i.toNat * 1) [.string (s1.extract 0 ((IntKind.i64.wrap (m + sepSave)).toNat))] ∧ ∀ w8, w8 = w6.setCells bk1 (of1 + i.toNat * 1) [.string (s1.extract 0 ((IntKind.i64.wrap (m + sepSave)).toNat))] →
 0 ≤ (IntKind.i64.wrap (m + (sep.size : Int))) ∧ (IntKind.i64.wrap (m + (sep.size : Int))).toNat ≤ s1.size ∧ s1.size ≤ s1.size ∧
 (Inv1 (s1.extract ((IntKind.i64.wrap (m + (sep.size : Int))).toNat) s1.size) (IntKind.i64.wrap (i + (1 : Int))) w8 ∧ Mea1 (s1.extract ((IntKind.i64.wrap (m + (sep.size : Int))).toNat) s1.size) (IntKind.i64.wrap (i + (1 : Int))) w8 < Mea1 s1 i w5))) (
 0 ≤ i ∧ i < (na : Int) ∧ nilW a fun bk2 of2 =>
 Sto w5 bk2 (of2 + i.toNat * 1) [.string s1] ∧ ∀ w9, w9 = w5.setCells bk2 (of2 + i.toNat * 1) [.string s1] →
 0 ≤ (IntKind.i64.wrap (i + (1 : Int))) ∧ 0 ≤ (IntKind.i64.wrap (i + (1 : Int))).toNat ∧ (IntKind.i64.wrap (i + (1 : Int))).toNat ≤ ca ∧ ∀ q1 : Option Addr, (0 < 0 → 0 < ca → q1 = shiftP a (0 * 1)) → (0 = 0 → q1 = a) →
 R (.returned (.slice q1 (IntKind.i64.wrap (i + (1 : Int))).toNat ca)) w9)))) :
    Calls prg 167 #[.string s, .string sep, .int .i64 sepSave, .int .i64 n] w R :=
  calls_mk (.node .nil (.node .nil (.node .nil (.cut [(3, .int .i64)] [19, 20, 21, 22, 23, 24] .nil (.node .nil (.node .nil (.node .nil (.node .nil (.node (.loop [(0, .str), (10, .int .i64)] [11, 34, 35, 36, 37, 38, 39, 40, 41, 42, 43, 44, 45, 46, 47, 48, 49, 50, 51, 52, 53, 54, 55, 56, 57] .nil) .nil))))))))) [.string s, .string sep, .int .i64 sepSave, .int .i64 n] w R tabOk (fokOk []) Tryz.func167 (by kernel_rfl) _ (by kernel_rfl) hyp

/-- slices.IndexFunc[[]string,string] -/
theorem f168_wp (s : Option Addr) (ns : Nat) (cs : Nat) (f : Value) (w : World) (R : Ending → World → Prop) (hyp :
 ∃ (Inv1 : Int → World → Prop) (Mea1 : Int → World → Nat), Inv1 0 w ∧ ∀ (t8 : Int) (fr : Nat → Value) (w1 : World), 
 Inv1 t8 w1 →
 cond (decide (t8 < (ns : Int))) (
 0 ≤ t8 ∧ t8 < (ns : Int) ∧ nilW s fun bk of =>
 ∃ (x : ByteArray), w1.cell? ⟨bk, of + t8.toNat * 1, none⟩ = some (.string x) ∧
 fnW f fun fn fa fc => bif fk.contains fn then Calls prg fn ((fa ++ ([.string x] : List Value)) ++ fc).toArray w1 fun e w2 => ∃ (r : Bool), e = .returned (.bool r) ∧
 cond r (
 R (.returned (.int .i64 t8)) w2) (
 (Inv1 (IntKind.i64.wrap (t8 + (1 : Int))) w2 ∧ Mea1 (IntKind.i64.wrap (t8 + (1 : Int))) w2 < Mea1 t8 w1)) else False) (
 R (.returned (.int .i64 (-1))) w1)) :
    Calls prg 168 #[.slice s ns cs, f] w R :=
  calls_mk (.node .nil (.node (.node .nil (.loop [(8, .int .i64)] [4, 5, 9, 10, 11, 12, 13, 14, 15, 16, 17, 18] .nil)) .nil)) [.slice s ns cs, f] w R tabOk (fokOk []) Tryz.func168 (by kernel_rfl) _ (by kernel_rfl) hyp

/-- signet/signetref04.sign -/
theorem f169_wp (n : Int) (w : World) (R : Ending → World → Prop) (hyp :
 cond (decide (n < (10 : Int))) (
 R (.returned (.int .u8 (IntKind.u8.wrap (IntKind.i64.wrap ((48 : Int) + n))))) w) (
 R (.returned (.int .u8 (IntKind.u8.wrap (IntKind.i64.wrap ((55 : Int) + n))))) w)) :
    Calls prg 169 #[.int .i64 n] w R :=
  calls_mk .nil [.int .i64 n] w R tabOk (fokOk []) Tryz.func169 (by kernel_rfl) _ (by kernel_rfl) hyp

/-- signet/signetref01.sign -/
theorem f170_wp (n : Int) (web : Bool) (w : World) (R : Ending → World → Prop) (hyp :
 cond (decide (n < (26 : Int))) (
 R (.returned (.int .u8 (IntKind.u8.wrap (IntKind.i64.wrap ((65 : Int) + n))))) w) (
 cond (decide (n < (52 : Int))) (
 R (.returned (.int .u8 (IntKind.u8.wrap (IntKind.i64.wrap ((71 : Int) + n))))) w) (
 cond (decide (n < (62 : Int))) (
 R (.returned (.int .u8 (IntKind.u8.wrap (IntKind.i64.wrap (n - (4 : Int)))))) w) (
 cond web (
 cond (decide (n = (62 : Int))) (
 R (.returned (.int .u8 45)) w) (
 cond web (
 R (.returned (.int .u8 95)) w) (
 cond (decide (n = (62 : Int))) (
 R (.returned (.int .u8 43)) w) (
 R (.returned (.int .u8 47)) w)))) (
 cond web (
 R (.returned (.int .u8 95)) w) (
 cond (decide (n = (62 : Int))) (
 R (.returned (.int .u8 43)) w) (
 R (.returned (.int .u8 47)) w))))))) :
    Calls prg 170 #[.int .i64 n, .bool web] w R :=
  calls_mk .nil [.int .i64 n, .bool web] w R tabOk (fokOk []) Tryz.func170 (by kernel_rfl) _ (by kernel_rfl) hyp

/-- signet/signetref01.number -/
theorem f171_wp (l : Option Addr) (nl : Nat) (cl : Nat) (w : World) (R : Ending → World → Prop) (hyp :
 ∃ (Inv1 : Int → Int → World → Prop) (Mea1 : Int → Int → World → Nat), Inv1 0 0 w ∧ ∀ (n i : Int) (fr : Nat → Value) (w1 : World), 
 Inv1 n i w1 →
 cond (decide (i < (nl : Int))) (
 0 ≤ i ∧ i < (nl : Int) ∧ nilW l fun bk of =>
 ∃ (x : Bool), w1.cell? ⟨bk, of + i.toNat * 1, none⟩ = some (.bool x) ∧
 cond x (
 (Inv1 (IntKind.i64.wrap ((IntKind.i64.wrap ((2 : Int) * n)) + (1 : Int))) (IntKind.i64.wrap (i + (1 : Int))) w1 ∧ Mea1 (IntKind.i64.wrap ((IntKind.i64.wrap ((2 : Int) * n)) + (1 : Int))) (IntKind.i64.wrap (i + (1 : Int))) w1 < Mea1 n i w1)) (
 (Inv1 (IntKind.i64.wrap ((2 : Int) * n)) (IntKind.i64.wrap (i + (1 : Int))) w1 ∧ Mea1 (IntKind.i64.wrap ((2 : Int) * n)) (IntKind.i64.wrap (i + (1 : Int))) w1 < Mea1 n i w1))) (
 R (.returned (.int .i64 n)) w1)) :
    Calls prg 171 #[.slice l nl cl] w R :=
  calls_mk (.node .nil (.node .nil (.node (.node .nil (.loop [(3, .int .i64), (4, .int .i64)] [5, 6, 7, 8, 9, 10, 11, 12, 13, 14, 15, 16, 17, 18] .nil)) .nil))) [.slice l nl cl] w R tabOk (fokOk []) Tryz.func171 (by kernel_rfl) _ (by kernel_rfl) hyp

/-- signet/signetref03.Padded -/
theorem f172_wp (b_ : Option Addr) (nb : Nat) (cb : Nat) (w : World) (R : Ending → World → Prop) (hyp :
 ∃ (m : Option Addr) (nm cm : Nat) (w1 : World), (Instr.makeSlice 23 (.int .i64 0) (.int .i64 (IntKind.i64.wrap ((nb : Int) + (80 : Int))))).run prg w = .ok (.slice m nm cm) w1 ∧
 ∃ (p : Option Addr) (np cp : Nat) (w2 : World), (Builtin.append_ #[23, 23] 23 #[.slice m nm cm, .slice b_ nb cb]).run prg w1 = .ok (.slice p np cp) w2 ∧
 ∀ (b_1 : Nat) (w3 : World), b_1 = w2.heap.size → w3 = w2.alloc (.cells #[.int .u8 128] 5) →
 ∃ (p1 : Option Addr) (np1 cp1 : Nat) (w4 : World), (Builtin.append_ #[23, 23] 23 #[.slice p np cp, .slice (some ⟨b_1, 0, none⟩) 1 1]).run prg w3 = .ok (.slice p1 np1 cp1) w4 ∧
 ∃ (Inv1 : Option Addr → Nat → Nat → World → Prop) (Mea1 : Option Addr → Nat → Nat → World → Nat), Inv1 p1 np1 cp1 w4 ∧ ∀ (p2 : Option Addr) (np2 cp2 : Nat) (fr : Nat → Value) (w5 : World), 
 Inv1 p2 np2 cp2 w5 →
 (64 : Int) ≠ 0 ∧ cond (decide ((Int.tmod (np2 : Int) 64) ≠ (56 : Int))) (
 ∀ (b_2 : Nat) (w6 : World), b_2 = w5.heap.size → w6 = w5.alloc (.cells #[.int .u8 0] 5) →
 ∃ (p3 : Option Addr) (np3 cp3 : Nat) (w7 : World), (Builtin.append_ #[23, 23] 23 #[.slice p2 np2 cp2, .slice (some ⟨b_2, 0, none⟩) 1 1]).run prg w6 = .ok (.slice p3 np3 cp3) w7 ∧
 (Inv1 p3 np3 cp3 w7 ∧ Mea1 p3 np3 cp3 w7 < Mea1 p2 np2 cp2 w5)) (
 ∀ (b_3 : Nat) (w8 : World), b_3 = w5.heap.size → w8 = w5.alloc (.cells #[.int .u8 0, .int .u8 0, .int .u8 0, .int .u8 0, .int .u8 0, .int .u8 0, .int .u8 0, .int .u8 0] 247) →
 ∃ (Inv2 : Int → Int → World → Prop) (Mea2 : Int → Int → World → Nat), Inv2 (IntKind.u64.wrap ((8 : Int) * (IntKind.u64.wrap (nb : Int)))) 7 w8 ∧ ∀ (n i : Int) (fr1 : Nat → Value) (w9 : World), 
 Inv2 n i w9 →
 cond (decide (i ≥ (0 : Int))) (
 (256 : Int) ≠ 0 ∧ 0 ≤ i ∧ i < (8 : Int) ∧
 Sto w9 b_3 (0 + i.toNat * 1) [.int .u8 (IntKind.u8.wrap (Int.tmod n 256))] ∧ ∀ w10, w10 = w9.setCells b_3 (0 + i.toNat * 1) [.int .u8 (IntKind.u8.wrap (Int.tmod n 256))] →
 (256 : Int) ≠ 0 ∧ (Inv2 (IntKind.u64.wrap (Int.tdiv n 256)) (IntKind.i64.wrap (i - (1 : Int))) w10 ∧ Mea2 (IntKind.u64.wrap (Int.tdiv n 256)) (IntKind.i64.wrap (i - (1 : Int))) w10 < Mea2 n i w9)) (
 0 ≤ 8 ∧ 8 ≤ 8 ∧ ∀ q : Option Addr, (0 < 8 → q = some ⟨b_3, 0 + 0 * 1, none⟩) → (0 = 0 → q = (some ⟨b_3, 0, none⟩)) →
 ∃ (l : Option Addr) (nl cl : Nat) (w11 : World), (Builtin.append_ #[23, 23] 23 #[.slice p2 np2 cp2, .slice q 8 8]).run prg w9 = .ok (.slice l nl cl) w11 ∧
 R (.returned (.slice l nl cl)) w11))) :
    Calls prg 172 #[.slice b_ nb cb] w R :=
  calls_mk (.node .nil (.node .nil (.node .nil (.node (.loop [(3, .slice)] [16, 17, 18, 19, 20, 21, 22] .nil) (.node .nil (.node .nil (.node (.node .nil (.loop [(4, .int .u64), (6, .int .i64)] [27, 28, 29, 30, 31, 32, 33, 34, 35, 36, 37] .nil)) .nil))))))) [.slice b_ nb cb] w R tabOk (fokOk []) Tryz.func172 (by kernel_rfl) _ (by kernel_rfl) hyp

/-- signet/signetref03.take -/
theorem f173_wp (h : List Value) (b_ : Option Addr) (nb : Nat) (cb : Nat) (w : World) (R : Ending → World → Prop) (hyp :
 ∀ (b_1 : Nat) (w1 : World), b_1 = w.heap.size → w1 = w.alloc (.cells (ex h 8).toArray 217) →
 ∀ (b_2 : Nat) (w2 : World), b_2 = w1.heap.size → w2 = w1.alloc (.cells #[.int .u32 0, .int .u32 0, .int .u32 0, .int .u32 0, .int .u32 0, .int .u32 0, .int .u32 0, .int .u32 0] 217) →
 Calls prg 199 #[.slice b_ nb cb] w2 fun e w3 => ∃ (r : List Value), r.length = 64 ∧ e = .returned (.agg (ex r 64).toArray) ∧
 ∀ (b_3 : Nat) (w4 : World), b_3 = w3.heap.size → w4 = w3.alloc (.cells #[.int .u32 0, .int .u32 0, .int .u32 0, .int .u32 0, .int .u32 0, .int .u32 0, .int .u32 0, .int .u32 0, .int .u32 0, .int .u32 0, .int .u32 0, .int .u32 0, .int .u32 0, .int .u32 0, .int .u32 0, .int .u32 0, .int .u32 0, .int .u32 0, .int .u32 0, .int .u32 0, .int .u32 0, .int .u32 0, .int .u32 0, .int .u32 0, .int .u32 0, .int .u32 0, .int .u32 0, .int .u32 0, .int .u32 0, .int .u32 0, .int .u32 0, .int .u32 0, .int .u32 0, .int .u32 0, .int .u32 0, .int .u32 0, .int .u32 0, .int .u32 0, .int .u32 0, .int .u32 0, .int .u32 0, .int .u32 0, .int .u32 0, .int .u32 0, .int .u32 0, .int .u32 0, .int .u32 0, .int .u32 0, .int .u32 0, .int .u32 0, .int .u32 0, .int .u32 0, .int .u32 0, .int .u32 0, .int .u32 0, .int .u32 0, .int .u32 0, .int .u32 0, .int .u32 0, .int .u32 0, .int .u32 0, .int .u32 0, .int .u32 0, .int .u32 0] 248) →
 Sto w4 b_3 0 (ex r 64) ∧ ∀ w5, w5 = w4.setCells b_3 0 (ex r 64) →
 ∃ cs : List Value, cs.length = 8 ∧ w5.rangeAt b_1 0 cs ∧
 ∀ (b_4 : Nat) (w6 : World), b_4 = w5.heap.size → w6 = w5.alloc (.cells #[.int .u32 0, .int .u32 0, .int .u32 0, .int .u32 0, .int .u32 0, .int .u32 0, .int .u32 0, .int .u32 0] 217) →
 Sto w6 b_4 0 (ex cs 8) ∧ ∀ w7, w7 = w6.setCells b_4 0 (ex cs 8) →
 ∃ (Inv1 : Int → World → Prop) (Mea1 : Int → World → Nat), Inv1 0 w7 ∧ ∀ (t : Int) (fr : Nat → Value) (w8 : World), 
 Inv1 t w8 →
 cond (decide (t < (64 : Int))) (
 0 ≤ (4 : Int) ∧ 4 < (8 : Int) ∧
 ∃ (e_ : Int), w8.cell? ⟨b_4, 4, none⟩ = some (.int .u32 e_) ∧
 0 ≤ (0 : Int) ∧ 0 < (8 : Int) ∧
 ∃ (a : Int), w8.cell? ⟨b_4, 0, none⟩ = some (.int .u32 a) ∧
 ∃ (Drw1 : World → Prop), Drw1 w8.drew ∧
 0 ≤ (7 : Int) ∧ 7 < (8 : Int) ∧
 ∃ (x : Int), (∀ w9 : World, Drw1 w9 → w9.cell? ⟨b_4, 7, none⟩ = some (.int .u32 x)) ∧
 0 ≤ (5 : Int) ∧ 5 < (8 : Int) ∧
 ∃ (x1 : Int), (∀ w10 : World, Drw1 w10 → w10.cell? ⟨b_4, 5, none⟩ = some (.int .u32 x1)) ∧
 0 ≤ (6 : Int) ∧ 6 < (8 : Int) ∧
 ∃ (x2 : Int), (∀ w11 : World, Drw1 w11 → w11.cell? ⟨b_4, 6, none⟩ = some (.int .u32 x2)) ∧
 0 ≤ t ∧ t < (64 : Int) ∧
 ∃ (x3 : Int), (∀ w12 : World, Drw1 w12 → w12.cell? ⟨b_3, 0 + t.toNat * 1, none⟩ = some (.int .u32 x3)) ∧
 Calls prg 200 #[.int .u32 e_, .int .i64 6] w8.drew fun e w13 => ∃ (r1 : Int), e = .returned (.int .u32 r1) ∧
 Drw1 w13 ∧ Calls prg 200 #[.int .u32 e_, .int .i64 11] w13 fun e w14 => ∃ (r2 : Int), e = .returned (.int .u32 r2) ∧
 Drw1 w14 ∧ Calls prg 200 #[.int .u32 e_, .int .i64 25] w14 fun e w15 => ∃ (r3 : Int), e = .returned (.int .u32 r3) ∧
 Drw1 w15 ∧ Calls prg 201 #[.int .i64 t] w15 fun e w16 => ∃ (r4 : Int), e = .returned (.int .u32 r4) ∧
 Drw1 w16 ∧ ∃ (Drw2 : World → Prop), Drw2 w16.drew ∧
 0 ≤ (1 : Int) ∧ 1 < (8 : Int) ∧
 ∃ (x4 : Int), (∀ w17 : World, Drw2 w17 → w17.cell? ⟨b_4, 1, none⟩ = some (.int .u32 x4)) ∧
 0 ≤ (2 : Int) ∧ 2 < (8 : Int) ∧
 ∃ (x5 : Int), (∀ w18 : World, Drw2 w18 → w18.cell? ⟨b_4, 2, none⟩ = some (.int .u32 x5)) ∧
 0 ≤ (1 : Int) ∧ 1 < (8 : Int) ∧
 ∃ (x6 : Int), (∀ w19 : World, Drw2 w19 → w19.cell? ⟨b_4, 1, none⟩ = some (.int .u32 x6)) ∧
 0 ≤ (2 : Int) ∧ 2 < (8 : Int) ∧
 ∃ (x7 : Int), (∀ w20 : World, Drw2 w20 → w20.cell? ⟨b_4, 2, none⟩ = some (.int .u32 x7)) ∧
 Calls prg 200 #[.int .u32 a, .int .i64 2] w16.drew fun e w21 => ∃ (r5 : Int), e = .returned (.int .u32 r5) ∧
 Drw2 w21 ∧ Calls prg 200 #[.int .u32 a, .int .i64 13] w21 fun e w22 => ∃ (r6 : Int), e = .returned (.int .u32 r6) ∧
 Drw2 w22 ∧ Calls prg 200 #[.int .u32 a, .int .i64 22] w22 fun e w23 => ∃ (r7 : Int), e = .returned (.int .u32 r7) ∧
 Drw2 w23 ∧ 0 ≤ (6 : Int) ∧ 6 < (8 : Int) ∧
 ∃ (x8 : Int), w23.cell? ⟨b_4, 6, none⟩ = some (.int .u32 x8) ∧
 0 ≤ (7 : Int) ∧ 7 < (8 : Int) ∧
 Sto w23 b_4 7 [.int .u32 x8] ∧ ∀ w24, w24 = w23.setCells b_4 7 [.int .u32 x8] →
 0 ≤ (5 : Int) ∧ 5 < (8 : Int) ∧
 ∃ (x9 : Int), w24.cell? ⟨b_4, 5, none⟩ = some (.int .u32 x9) ∧
 0 ≤ (6 : Int) ∧ 6 < (8 : Int) ∧
 Sto w24 b_4 6 [.int .u32 x9] ∧ ∀ w25, w25 = w24.setCells b_4 6 [.int .u32 x9] →
 0 ≤ (4 : Int) ∧ 4 < (8 : Int) ∧
 ∃ (x10 : Int), w25.cell? ⟨b_4, 4, none⟩ = some (.int .u32 x10) ∧
 0 ≤ (5 : Int) ∧ 5 < (8 : Int) ∧
 Sto w25 b_4 5 [.int .u32 x10] ∧ ∀ w26, w26 = w25.setCells b_4 5 [.int .u32 x10] →
 0 ≤ (3 : Int) ∧ 3 < (8 : Int) ∧
 ∃ (x11 : Int), w26.cell? ⟨b_4, 3, none⟩ = some (.int .u32 x11) ∧
 0 ≤ (4 : Int) ∧ 4 < (8 : Int) ∧
 Sto w26 b_4 4 [.int .u32 (IntKind.u32.wrap (x11 + (IntKind.u32.wrap ((IntKind.u32.wrap ((IntKind.u32.wrap ((IntKind.u32.wrap (x + (bitv .xor .u32 (bitv .xor .u32 r1 r2) r3))) + (bitv .xor .u32 (bitv .and .u32 e_ x1) (bitv .and .u32 (IntKind.u32.wrap ((4294967295 : Int) - e_)) x2)))) + r4)) + x3))))] ∧ ∀ w27, w27 = w26.setCells b_4 4 [.int .u32 (IntKind.u32.wrap (x11 + (IntKind.u32.wrap ((IntKind.u32.wrap ((IntKind.u32.wrap ((IntKind.u32.wrap (x + (bitv .xor .u32 (bitv .xor .u32 r1 r2) r3))) + (bitv .xor .u32 (bitv .and .u32 e_ x1) (bitv .and .u32 (IntKind.u32.wrap ((4294967295 : Int) - e_)) x2)))) + r4)) + x3))))] →
 0 ≤ (2 : Int) ∧ 2 < (8 : Int) ∧
 ∃ (x12 : Int), w27.cell? ⟨b_4, 2, none⟩ = some (.int .u32 x12) ∧
 0 ≤ (3 : Int) ∧ 3 < (8 : Int) ∧
 Sto w27 b_4 3 [.int .u32 x12] ∧ ∀ w28, w28 = w27.setCells b_4 3 [.int .u32 x12] →
 0 ≤ (1 : Int) ∧ 1 < (8 : Int) ∧
 ∃ (x13 : Int), w28.cell? ⟨b_4, 1, none⟩ = some (.int .u32 x13) ∧
 0 ≤ (2 : Int) ∧ 2 < (8 : Int) ∧
 Sto w28 b_4 2 [.int .u32 x13] ∧ ∀ w29, w29 = w28.setCells b_4 2 [.int .u32 x13] →
 0 ≤ (0 : Int) ∧ 0 < (8 : Int) ∧
 ∃ (x14 : Int), w29.cell? ⟨b_4, 0, none⟩ = some (.int .u32 x14) ∧
 0 ≤ (1 : Int) ∧ 1 < (8 : Int) ∧
 Sto w29 b_4 1 [.int .u32 x14] ∧ ∀ w30, w30 = w29.setCells b_4 1 [.int .u32 x14] →
 0 ≤ (0 : Int) ∧ 0 < (8 : Int) ∧
 Sto w30 b_4 0 [.int .u32 (IntKind.u32.wrap ((IntKind.u32.wrap ((IntKind.u32.wrap ((IntKind.u32.wrap ((IntKind.u32.wrap (x + (bitv .xor .u32 (bitv .xor .u32 r1 r2) r3))) + (bitv .xor .u32 (bitv .and .u32 e_ x1) (bitv .and .u32 (IntKind.u32.wrap ((4294967295 : Int) - e_)) x2)))) + r4)) + x3)) + (IntKind.u32.wrap ((bitv .xor .u32 (bitv .xor .u32 r5 r6) r7) + (bitv .xor .u32 (bitv .xor .u32 (bitv .and .u32 a x4) (bitv .and .u32 a x5)) (bitv .and .u32 x6 x7))))))] ∧ ∀ w31, w31 = w30.setCells b_4 0 [.int .u32 (IntKind.u32.wrap ((IntKind.u32.wrap ((IntKind.u32.wrap ((IntKind.u32.wrap ((IntKind.u32.wrap (x + (bitv .xor .u32 (bitv .xor .u32 r1 r2) r3))) + (bitv .xor .u32 (bitv .and .u32 e_ x1) (bitv .and .u32 (IntKind.u32.wrap ((4294967295 : Int) - e_)) x2)))) + r4)) + x3)) + (IntKind.u32.wrap ((bitv .xor .u32 (bitv .xor .u32 r5 r6) r7) + (bitv .xor .u32 (bitv .xor .u32 (bitv .and .u32 a x4) (bitv .and .u32 a x5)) (bitv .and .u32 x6 x7))))))] →
 (Inv1 (IntKind.i64.wrap (t + (1 : Int))) w31 ∧ Mea1 (IntKind.i64.wrap (t + (1 : Int))) w31 < Mea1 t w8)) (
 ∃ (Inv2 : Int → World → Prop) (Mea2 : Int → World → Nat), Inv2 0 w8 ∧ ∀ (i : Int) (fr1 : Nat → Value) (w32 : World), 
 Inv2 i w32 →
 cond (decide (i < (8 : Int))) (
 ∃ (Drw3 : World → Prop), Drw3 w32.drew ∧
 0 ≤ i ∧ i < (8 : Int) ∧
 ∃ (x15 : Int), (∀ w33 : World, Drw3 w33 → w33.cell? ⟨b_1, 0 + i.toNat * 1, none⟩ = some (.int .u32 x15)) ∧
 0 ≤ i ∧ i < (8 : Int) ∧
 ∃ (x16 : Int), (∀ w34 : World, Drw3 w34 → w34.cell? ⟨b_4, 0 + i.toNat * 1, none⟩ = some (.int .u32 x16)) ∧
 0 ≤ i ∧ i < (8 : Int) ∧
 Sto w32.drew b_1 (0 + i.toNat * 1) [.int .u32 (IntKind.u32.wrap (x15 + x16))] ∧ ∀ w35, w35 = w32.drew.setCells b_1 (0 + i.toNat * 1) [.int .u32 (IntKind.u32.wrap (x15 + x16))] →
 (Inv2 (IntKind.i64.wrap (i + (1 : Int))) w35 ∧ Mea2 (IntKind.i64.wrap (i + (1 : Int))) w35 < Mea2 i w32)) (
 ∃ cs1 : List Value, cs1.length = 8 ∧ w32.rangeAt b_1 0 cs1 ∧
 Sto w32 b_2 0 (ex cs1 8) ∧ ∀ w36, w36 = w32.setCells b_2 0 (ex cs1 8) →
 ∃ res : List Value, res.length = 8 ∧ w36.rangeAt b_2 0 res ∧
 R (.returned (.agg (ex res 8).toArray)) w36))) :
    Calls prg 173 #[.agg (ex h 8).toArray, .slice b_ nb cb] w R :=
  calls_mk (.node .nil (.node .nil (.node .nil (.node (.node .nil (.loop [(7, .int .i64)] [8, 9, 10, 11, 16, 17, 18, 19, 20, 21, 22, 23, 24, 25, 26, 27, 28, 29, 30, 31, 32, 33, 34, 35, 36, 37, 38, 39, 40, 41, 42, 43, 44, 45, 46, 47, 48, 49, 50, 51, 52, 53, 54, 55, 56, 57, 58, 59, 60, 61, 62, 63, 64, 65, 66, 67, 68, 69, 70, 71, 72, 73, 74, 75, 76, 77, 78, 79, 80, 81, 82, 83, 84, 85, 86, 87, 88, 89, 90, 91, 92, 93, 94, 95, 96, 97, 98, 99, 100, 101, 102, 103] (.node .nil (.node (.node .nil (.node .nil (.node (.draw (.op 0 (.op 1 (.op 2 (.op 4 (.op 7 (.op 11 (.op 12 (.op 13 (.op 14 (.op 15 (.op 16 (.op 17 (.op 18 (.op 19 (.op 20 (.op 22 (.op 25 (.op 26 (.op 27 (.op 3 (.op 5 (.op 6 (.op 8 (.op 9 (.op 10 (.op 21 (.op 23 (.op 24 (.op 28 (.op 29 .done))))))))))))))))))))))))))))))) (.node (.draw (.op 0 (.op 2 (.op 5 (.op 8 (.op 9 (.op 10 (.op 11 (.op 12 (.op 13 (.op 14 (.op 15 (.op 16 (.op 17 (.op 18 (.op 19 (.op 20 (.op 21 (.op 22 (.op 1 (.op 3 (.op 4 (.op 6 (.op 7 (.op 23 (.op 24 .done)))))))))))))))))))))))))) .nil)))) .nil)))) (.node (.node .nil (.loop [(12, .int .i64)] [104, 105, 106, 107, 108, 109, 110, 111, 112, 113, 114, 115, 116] (.node .nil (.node (.draw (.op 0 (.op 1 (.op 2 (.op 3 (.op 4 (.op 5 (.op 6 (.op 7 (.op 8 (.op 9 .done))))))))))) .nil)))) .nil))))) [.agg (ex h 8).toArray, .slice b_ nb cb] w R tabOk (fokOk []) Tryz.func173 (by kernel_rfl) _ (by kernel_rfl) hyp

/-- signet/signetref03.down -/
theorem f174_wp (x : Int) (n : Int) (w : World) (R : Ending → World → Prop) (hyp :
 ∃ (Inv1 : Int → Int → World → Prop) (Mea1 : Int → Int → World → Nat), Inv1 x 0 w ∧ ∀ (x1 i : Int) (fr : Nat → Value) (w1 : World), 
 Inv1 x1 i w1 →
 cond (decide (i < n)) (
 (2 : Int) ≠ 0 ∧ (Inv1 (IntKind.u32.wrap (Int.tdiv x1 2)) (IntKind.i64.wrap (i + (1 : Int))) w1 ∧ Mea1 (IntKind.u32.wrap (Int.tdiv x1 2)) (IntKind.i64.wrap (i + (1 : Int))) w1 < Mea1 x1 i w1)) (
 R (.returned (.int .u32 x1)) w1)) :
    Calls prg 174 #[.int .u32 x, .int .i64 n] w R :=
  calls_mk (.node .nil (.node (.node .nil (.loop [(0, .int .u32), (5, .int .i64)] [6, 7, 8, 9, 10, 11, 12] .nil)) .nil)) [.int .u32 x, .int .i64 n] w R tabOk (fokOk []) Tryz.func174 (by kernel_rfl) _ (by kernel_rfl) hyp

/-- signet/signetref01.bits -/
theorem f175_wp (b_ : Option Addr) (nb : Nat) (cb : Nat) (w : World) (R : Ending → World → Prop) (hyp :
 ∃ (Inv1 : Option Addr → Nat → Nat → Int → World → Prop) (Mea1 : Option Addr → Nat → Nat → Int → World → Nat), Inv1 none 0 0 0 w ∧ ∀ (l : Option Addr) (nl cl : Nat) (i : Int) (fr : Nat → Value) (w1 : World), 
 Inv1 l nl cl i w1 →
 cond (decide (i < (nb : Int))) (
 ∃ (Inv2 : Option Addr → Nat → Nat → Int → World → Prop) (Mea2 : Option Addr → Nat → Nat → Int → World → Nat), Inv2 l nl cl 128 w1 ∧ ∀ (l1 : Option Addr) (nl1 cl1 : Nat) (w2 : Int) (fr1 : Nat → Value) (w3 : World), 
 Inv2 l1 nl1 cl1 w2 w3 →
 cond (decide (w2 > (0 : Int))) (
 0 ≤ i ∧ i < (nb : Int) ∧ nilW b_ fun bk of =>
 ∃ (x : Int), w3.cell? ⟨bk, of + i.toNat * 1, none⟩ = some (.int .u8 x) ∧
 w2 ≠ 0 ∧ (2 : Int) ≠ 0 ∧ ∀ (b_1 : Nat) (w4 : World), b_1 = w3.heap.size → w4 = w3.alloc (.cells #[.bool (decide ((Int.tmod (IntKind.i64.wrap (Int.tdiv (IntKind.i64.wrap x) w2)) 2) = (1 : Int)))] 4) →
 ∃ (l2 : Option Addr) (nl2 cl2 : Nat) (w5 : World), (Builtin.append_ #[213, 213] 213 #[.slice l1 nl1 cl1, .slice (some ⟨b_1, 0, none⟩) 1 1]).run prg w4 = .ok (.slice l2 nl2 cl2) w5 ∧
 (2 : Int) ≠ 0 ∧ (Inv2 l2 nl2 cl2 (IntKind.i64.wrap (Int.tdiv w2 2)) w5 ∧ Mea2 l2 nl2 cl2 (IntKind.i64.wrap (Int.tdiv w2 2)) w5 < Mea2 l1 nl1 cl1 w2 w3)) (
 (Inv1 l1 nl1 cl1 (IntKind.i64.wrap (i + (1 : Int))) w3 ∧ Mea1 l1 nl1 cl1 (IntKind.i64.wrap (i + (1 : Int))) w3 < Mea1 l nl cl i w1))) (
 R (.returned (.slice l nl cl)) w1)) :
    Calls prg 175 #[.slice b_ nb cb] w R :=
  calls_mk (.node .nil (.node .nil (.node (.node .nil (.loop [(3, .slice), (4, .int .i64)] [5, 6, 7, 8, 9, 10, 11, 12, 13, 14, 15, 16, 17, 18, 19, 20, 21, 22, 23, 24, 25, 26, 27] (.node .nil (.node (.node .nil (.loop [(3, .slice), (5, .int .i64)] [12, 13, 14, 15, 16, 17, 18, 19, 20, 21, 22, 23, 24, 25, 26, 27] .nil)) .nil)))) .nil))) [.slice b_ nb cb] w R tabOk (fokOk []) Tryz.func175 (by kernel_rfl) _ (by kernel_rfl) hyp

/-- internal/bytealg.hashStr[string] -/
theorem f177_wp (sep : ByteArray) (w : World) (R : Ending → World → Prop) (hyp :
 ∃ (Inv1 : Int → Int → World → Prop) (Mea1 : Int → Int → World → Nat), Inv1 0 0 w ∧ ∀ (hash i : Int) (fr : Nat → Value) (w1 : World), 
 Inv1 hash i w1 →
 cond (decide (i < (sep.size : Int))) (
 0 ≤ i ∧ ∃ c : UInt8, sep.data.toList[i.toNat]? = some c ∧
 (Inv1 (IntKind.u32.wrap ((IntKind.u32.wrap (hash * (16777619 : Int))) + (IntKind.u32.wrap (c.toNat : Int)))) (IntKind.i64.wrap (i + (1 : Int))) w1 ∧ Mea1 (IntKind.u32.wrap ((IntKind.u32.wrap (hash * (16777619 : Int))) + (IntKind.u32.wrap (c.toNat : Int)))) (IntKind.i64.wrap (i + (1 : Int))) w1 < Mea1 hash i w1)) (
 ∃ (Inv2 : Int → Int → Int → World → Prop) (Mea2 : Int → Int → Int → World → Nat), Inv2 1 16777619 (sep.size : Int) w1 ∧ ∀ (pow sq i1 : Int) (fr1 : Nat → Value) (w2 : World), 
 Inv2 pow sq i1 w2 →
 cond (decide (i1 > (0 : Int))) (
 cond (decide ((bitv .and .i64 i1 1) ≠ (0 : Int))) (
 0 ≤ (1 : Int) ∧ (Inv2 (IntKind.u32.wrap (pow * sq)) (IntKind.u32.wrap (sq * sq)) (Int.fdiv i1 (2 ^ 1)) w2 ∧ Mea2 (IntKind.u32.wrap (pow * sq)) (IntKind.u32.wrap (sq * sq)) (Int.fdiv i1 (2 ^ 1)) w2 < Mea2 pow sq i1 w2)) (
 0 ≤ (1 : Int) ∧ (Inv2 pow (IntKind.u32.wrap (sq * sq)) (Int.fdiv i1 (2 ^ 1)) w2 ∧ Mea2 pow (IntKind.u32.wrap (sq * sq)) (Int.fdiv i1 (2 ^ 1)) w2 < Mea2 pow sq i1 w2))) (
 R (.returned (.tuple #[.int .u32 hash, .int .u32 pow])) w2))) :
    Calls prg 177 #[.string sep] w R :=
  calls_mk (.node .nil (.node .nil (.node (.node .nil (.loop [(4, .int .u32), (5, .int .i64)] [9, 10, 11, 12, 13, 14, 15, 16, 17, 18, 19, 20, 21] .nil)) (.node .nil (.node (.node .nil (.loop [(6, .int .u32), (7, .int .u32), (8, .int .i64)] [24, 25, 26, 27, 28, 29, 30, 31, 32, 33, 34, 35, 36] .nil)) .nil))))) [.string sep] w R tabOk (fokOk []) Tryz.func177 (by kernel_rfl) _ (by kernel_rfl) hyp

end Go.Proofs.YtbbcofdibkgalaaGreatDoor
