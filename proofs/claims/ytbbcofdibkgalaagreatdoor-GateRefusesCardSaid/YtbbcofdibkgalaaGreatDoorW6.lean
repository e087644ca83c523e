import Derived.Test.YtbbcofdibkgalaaGreatDoorWb
set_option linter.unusedVariables false
set_option maxRecDepth 100000
set_option maxHeartbeats 4000000
namespace Go.Proofs.YtbbcofdibkgalaaGreatDoor
open Go.Eng
/-- signet/signetref15.printed -/
theorem f48_wp (s : ByteArray) (most : Int) (w : World) (R : Ending → World → Prop) (hyp :
 ∃ (Inv1 : Int → World → Prop) (Mea1 : Int → World → Nat), Inv1 0 w ∧ ∀ (i : Int) (fr : Nat → Value) (w1 : World), 
 Inv1 i w1 →
 cond (decide (i < (s.size : Int))) (
 0 ≤ i ∧ ∃ c : UInt8, s.data.toList[i.toNat]? = some c ∧
 cond (decide ((c.toNat : Int) < (33 : Int))) (
 R (.returned (.bool false)) w1) (
 0 ≤ i ∧ ∃ c1 : UInt8, s.data.toList[i.toNat]? = some c1 ∧
 cond (decide ((c1.toNat : Int) > (126 : Int))) (
 R (.returned (.bool false)) w1) (
 (Inv1 (IntKind.i64.wrap (i + (1 : Int))) w1 ∧ Mea1 (IntKind.i64.wrap (i + (1 : Int))) w1 < Mea1 i w1)))) (
 cond (decide ((s.size : Int) > (0 : Int))) (
 R (.returned (.bool (decide ((s.size : Int) ≤ most)))) w1) (
 R (.returned (.bool false)) w1))) :
    Calls prg 48 #[.string s, .int .i64 most] w R :=
  calls_mk (.node .nil (.node (.node .nil (.loop [(5, .int .i64)] [4, 6, 7, 8, 9, 10, 11, 12, 13, 14, 15, 16, 17, 18, 19, 20, 21] .nil)) .nil)) [.string s, .int .i64 most] w R tabOk (fokOk []) Tryz.func48 (by kernel_rfl) _ (by kernel_rfl) hyp

/-- signet/signetref15.sharp -/
theorem f49_wp (s : ByteArray) (w : World) (R : Ending → World → Prop) (hyp :
 ∃ (Inv1 : Int → World → Prop) (Mea1 : Int → World → Nat), Inv1 0 w ∧ ∀ (i : Int) (fr : Nat → Value) (w1 : World), 
 Inv1 i w1 →
 cond (decide (i < (s.size : Int))) (
 0 ≤ i ∧ ∃ c : UInt8, s.data.toList[i.toNat]? = some c ∧
 cond (decide ((c.toNat : Int) = (35 : Int))) (
 R (.returned (.bool true)) w1) (
 (Inv1 (IntKind.i64.wrap (i + (1 : Int))) w1 ∧ Mea1 (IntKind.i64.wrap (i + (1 : Int))) w1 < Mea1 i w1))) (
 R (.returned (.bool false)) w1)) :
    Calls prg 49 #[.string s] w R :=
  calls_mk (.node .nil (.node (.node .nil (.loop [(3, .int .i64)] [2, 4, 5, 6, 7, 8, 9, 10, 11, 12, 13] .nil)) .nil)) [.string s] w R tabOk (fokOk []) Tryz.func49 (by kernel_rfl) _ (by kernel_rfl) hyp

/-- signet/signetref06.Has -/
theorem f50_wp (l : Option Addr) (nl : Nat) (cl : Nat) (s : ByteArray) (w : World) (R : Ending → World → Prop) (hyp :
 ∃ (Inv1 : Int → World → Prop) (Mea1 : Int → World → Nat), Inv1 0 w ∧ ∀ (i : Int) (fr : Nat → Value) (w1 : World), 
 Inv1 i w1 →
 cond (decide (i < (nl : Int))) (
 0 ≤ i ∧ i < (nl : Int) ∧ nilW l fun bk of =>
 ∃ (x : ByteArray), w1.cell? ⟨bk, of + i.toNat * 1, none⟩ = some (.string x) ∧
 cond (decide (x = s)) (
 R (.returned (.bool true)) w1) (
 (Inv1 (IntKind.i64.wrap (i + (1 : Int))) w1 ∧ Mea1 (IntKind.i64.wrap (i + (1 : Int))) w1 < Mea1 i w1))) (
 R (.returned (.bool false)) w1)) :
    Calls prg 50 #[.slice l nl cl, .string s] w R :=
  calls_mk (.node .nil (.node (.node .nil (.loop [(5, .int .i64)] [4, 6, 7, 8, 9, 10, 11, 12, 13, 14, 15, 16, 17] .nil)) .nil)) [.slice l nl cl, .string s] w R tabOk (fokOk []) Tryz.func50 (by kernel_rfl) _ (by kernel_rfl) hyp

/-- signet/signetref06.Set -/
theorem f51_wp (l : Option Addr) (nl : Nat) (cl : Nat) (w : World) (R : Ending → World → Prop) (hyp :
 ∃ (Inv1 : Option Addr → Nat → Nat → Int → World → Prop) (Mea1 : Option Addr → Nat → Nat → Int → World → Nat), Inv1 none 0 0 0 w ∧ ∀ (out : Option Addr) (nout cout : Nat) (i : Int) (fr : Nat → Value) (w1 : World), 
 Inv1 out nout cout i w1 →
 cond (decide (i < (nl : Int))) (
 ∃ (Cut1 : World → Prop), (
 0 ≤ i ∧ i < (nl : Int) ∧ nilW l fun bk of =>
 ∃ (x : ByteArray), w1.cell? ⟨bk, of + i.toNat * 1, none⟩ = some (.string x) ∧
 Calls prg 97 #[.string x] w1 fun e w2 => ∃ (r : Bool), e = .returned (.bool r) ∧
 cond (!r) (
 (Inv1 out nout cout (IntKind.i64.wrap (i + (1 : Int))) w2 ∧ Mea1 out nout cout (IntKind.i64.wrap (i + (1 : Int))) w2 < Mea1 out nout cout i w1)) (
 0 ≤ i ∧ i < (nl : Int) ∧ nilW l fun bk1 of1 =>
 ∃ (x1 : ByteArray), w2.cell? ⟨bk1, of1 + i.toNat * 1, none⟩ = some (.string x1) ∧
 Calls prg 50 #[.slice out nout cout, .string x1] w2 fun e w3 => ∃ (r1 : Bool), e = .returned (.bool r1) ∧
 cond r1 (
 (Inv1 out nout cout (IntKind.i64.wrap (i + (1 : Int))) w3 ∧ Mea1 out nout cout (IntKind.i64.wrap (i + (1 : Int))) w3 < Mea1 out nout cout i w1)) (
 Cut1 w3))) ∧
 ∀ (fr1 : Nat → Value) (w4 : World), Cut1 w4 →
 ∃ (Cut2 : Int → World → Prop), (
 ∃ (Inv2 : Int → World → Prop) (Mea2 : Int → World → Nat), Inv2 0 w4 ∧ ∀ (at_ : Int) (fr2 : Nat → Value) (w5 : World), 
 Inv2 at_ w5 →
 ∃ (Drw1 : World → Prop), Drw1 w5.drew ∧
 cond (decide (at_ < (nout : Int))) (
 0 ≤ at_ ∧ at_ < (nout : Int) ∧ nilW out fun bk2 of2 =>
 ∃ (x2 : ByteArray), (∀ w6 : World, Drw1 w6 → w6.cell? ⟨bk2, of2 + at_.toNat * 1, none⟩ = some (.string x2)) ∧
 0 ≤ i ∧ i < (nl : Int) ∧ nilW l fun bk3 of3 =>
 ∃ (x3 : ByteArray), (∀ w7 : World, Drw1 w7 → w7.cell? ⟨bk3, of3 + i.toNat * 1, none⟩ = some (.string x3)) ∧
 cond (Op.bytesLess x2.data.toList x3.data.toList) (
 (Inv2 (IntKind.i64.wrap (at_ + (1 : Int))) w5.drew ∧ Mea2 (IntKind.i64.wrap (at_ + (1 : Int))) w5.drew < Mea2 at_ w5)) (
 Cut2 at_ w5.drew)) (
 Cut2 at_ w5.drew)) ∧
 ∀ (at_1 : Int) (fr3 : Nat → Value) (w8 : World), Cut2 at_1 w8 →
 ∀ (b_ : Nat) (w9 : World), b_ = w8.heap.size → w9 = w8.alloc (.cells #[] 9) →
 0 ≤ at_1 ∧ 0 ≤ at_1.toNat ∧ at_1.toNat ≤ cout ∧ ∀ q : Option Addr, (0 < 0 → 0 < cout → q = shiftP out (0 * 1)) → (0 = 0 → q = out) →
 ∃ (next : Option Addr) (nnext cnext : Nat) (w10 : World), (Builtin.append_ #[33, 33] 33 #[.slice (some ⟨b_, 0, none⟩) 0 0, .slice q at_1.toNat cout]).run prg w9 = .ok (.slice next nnext cnext) w10 ∧
 0 ≤ i ∧ i < (nl : Int) ∧ nilW l fun bk4 of4 =>
 ∃ (x4 : ByteArray), w10.cell? ⟨bk4, of4 + i.toNat * 1, none⟩ = some (.string x4) ∧
 ∀ (b_1 : Nat) (w11 : World), b_1 = w10.heap.size → w11 = w10.alloc (.cells #[.string x4] 9) →
 ∃ (next1 : Option Addr) (nnext1 cnext1 : Nat) (w12 : World), (Builtin.append_ #[33, 33] 33 #[.slice next nnext cnext, .slice (some ⟨b_1, 0, none⟩) 1 1]).run prg w11 = .ok (.slice next1 nnext1 cnext1) w12 ∧
 0 ≤ at_1 ∧ at_1.toNat ≤ nout ∧ nout ≤ cout ∧ ∀ q1 : Option Addr, (0 < at_1.toNat → at_1.toNat < cout → q1 = shiftP out (at_1.toNat * 1)) → (at_1.toNat = 0 → q1 = out) →
 ∃ (out1 : Option Addr) (nout1 cout1 : Nat) (w13 : World), (Builtin.append_ #[33, 33] 33 #[.slice next1 nnext1 cnext1, .slice q1 (nout - at_1.toNat) (cout - at_1.toNat)]).run prg w12 = .ok (.slice out1 nout1 cout1) w13 ∧
 (Inv1 out1 nout1 cout1 (IntKind.i64.wrap (i + (1 : Int))) w13 ∧ Mea1 out1 nout1 cout1 (IntKind.i64.wrap (i + (1 : Int))) w13 < Mea1 out nout cout i w1)) (
 R (.returned (.slice out nout cout)) w1)) :
    Calls prg 51 #[.slice l nl cl] w R :=
  calls_mk (.node .nil (.node .nil (.node (.node .nil (.loop [(3, .slice), (4, .int .i64)] [5, 6, 7, 8, 9, 10, 11, 12, 13, 14, 15, 16, 17, 18, 19, 20, 21, 22, 23, 24, 25, 26, 27, 28, 29, 30, 31, 32, 33, 34, 35, 36, 37, 38, 39, 40, 41, 42, 43, 44, 45, 46, 47, 48, 49, 50, 51, 52, 53, 54, 55, 56, 57, 58, 59, 60] (.node .nil (.node (.cut [] [13, 14, 15, 16, 17, 18, 19, 20, 21, 22, 23, 24, 25, 26] .nil (.node .nil (.cut [(5, .int .i64)] [27, 28, 29, 30, 31, 32, 33, 34, 35, 36, 37, 38, 39, 40, 41, 42, 43] (.loop [(5, .int .i64)] [27, 28, 29, 30, 31, 32, 33, 34, 35, 36, 37, 38, 39, 40, 41, 42, 43] (.node (.node (.draw (.op 0 (.op 1 (.op 2 (.op 3 (.op 4 (.op 5 (.op 6 (.op 7 (.op 8 (.op 9 (.op 10 (.op 11 (.op 12 (.op 13 (.op 14 .done)))))))))))))))) .nil) .nil)) .nil))) .nil)))) .nil))) [.slice l nl cl] w R tabOk (fokOk []) Tryz.func51 (by kernel_rfl) _ (by kernel_rfl) hyp

/-- signet/signetref06.Print -/
theorem f52_wp (l : Option Addr) (nl : Nat) (cl : Nat) (w : World) (R : Ending → World → Prop) (hyp :
 Calls prg 51 #[.slice l nl cl] w fun e w1 => ∃ (set_ : Option Addr) (nset cset : Nat), e = .returned (.slice set_ nset cset) ∧
 ∃ (Inv1 : ByteArray → Int → World → Prop) (Mea1 : ByteArray → Int → World → Nat), Inv1 ⟨#[]⟩ 0 w1 ∧ ∀ (s : ByteArray) (i : Int) (fr : Nat → Value) (w2 : World), 
 Inv1 s i w2 →
 cond (decide (i < (nset : Int))) (
 cond (decide (i > (0 : Int))) (
 s.size + (⟨#[32]⟩ : ByteArray).size ≤ 9223372036854775807 ∧ 0 ≤ i ∧ i < (nset : Int) ∧ nilW set_ fun bk of =>
 ∃ (x : ByteArray), w2.cell? ⟨bk, of + i.toNat * 1, none⟩ = some (.string x) ∧
 (s ++ (⟨#[32]⟩ : ByteArray)).size + x.size ≤ 9223372036854775807 ∧ (Inv1 ((s ++ (⟨#[32]⟩ : ByteArray)) ++ x) (IntKind.i64.wrap (i + (1 : Int))) w2 ∧ Mea1 ((s ++ (⟨#[32]⟩ : ByteArray)) ++ x) (IntKind.i64.wrap (i + (1 : Int))) w2 < Mea1 s i w2)) (
 0 ≤ i ∧ i < (nset : Int) ∧ nilW set_ fun bk1 of1 =>
 ∃ (x1 : ByteArray), w2.cell? ⟨bk1, of1 + i.toNat * 1, none⟩ = some (.string x1) ∧
 s.size + x1.size ≤ 9223372036854775807 ∧ (Inv1 (s ++ x1) (IntKind.i64.wrap (i + (1 : Int))) w2 ∧ Mea1 (s ++ x1) (IntKind.i64.wrap (i + (1 : Int))) w2 < Mea1 s i w2))) (
 R (.returned (.string s)) w2)) :
    Calls prg 52 #[.slice l nl cl] w R :=
  calls_mk (.node .nil (.node .nil (.node .nil (.node (.node .nil (.loop [(3, .str), (5, .int .i64)] [8, 9, 10, 11, 12, 13, 14, 15, 16, 17, 18, 19, 20, 21, 22, 23] .nil)) .nil)))) [.slice l nl cl] w R tabOk (fokOk []) Tryz.func52 (by kernel_rfl) _ (by kernel_rfl) hyp

/-- signet/roll.printed -/
theorem f53_wp (s : ByteArray) (most : Int) (w : World) (R : Ending → World → Prop) (hyp :
 cond (decide ((s.size : Int) ≥ (1 : Int))) (
 cond (decide ((s.size : Int) ≤ most)) (
 Calls prg 98 #[.string s, .func (.func 99) #[] #[]] w fun e w1 => ∃ (r : Int), e = .returned (.int .i64 r) ∧
 R (.returned (.bool (decide (r < (0 : Int))))) w1) (
 R (.returned (.bool false)) w)) (
 R (.returned (.bool false)) w)) :
    Calls prg 53 #[.string s, .int .i64 most] w R :=
  calls_mk .nil [.string s, .int .i64 most] w R tabOk (fokOk []) Tryz.func53 (by kernel_rfl) _ (by kernel_rfl) hyp

/-- strings.Contains -/
theorem f54_wp (s : ByteArray) (substr : ByteArray) (w : World) (R : Ending → World → Prop) (hyp :
 Calls prg 88 #[.string s, .string substr] w fun e w1 => ∃ (r : Int), e = .returned (.int .i64 r) ∧
 R (.returned (.bool (decide (r ≥ (0 : Int))))) w1) :
    Calls prg 54 #[.string s, .string substr] w R :=
  calls_mk .nil [.string s, .string substr] w R tabOk (fokOk []) Tryz.func54 (by kernel_rfl) _ (by kernel_rfl) hyp

/-- slices.Index[[]string,string] -/
theorem f55_wp (s : Option Addr) (ns : Nat) (cs : Nat) (v : ByteArray) (w : World) (R : Ending → World → Prop) (hyp :
 ∃ (Inv1 : Int → World → Prop) (Mea1 : Int → World → Nat), Inv1 0 w ∧ ∀ (t8 : Int) (fr : Nat → Value) (w1 : World), 
 Inv1 t8 w1 →
 cond (decide (t8 < (ns : Int))) (
 0 ≤ t8 ∧ t8 < (ns : Int) ∧ nilW s fun bk of =>
 ∃ (x : ByteArray), w1.cell? ⟨bk, of + t8.toNat * 1, none⟩ = some (.string x) ∧
 cond (decide (v = x)) (
 R (.returned (.int .i64 t8)) w1) (
 (Inv1 (IntKind.i64.wrap (t8 + (1 : Int))) w1 ∧ Mea1 (IntKind.i64.wrap (t8 + (1 : Int))) w1 < Mea1 t8 w1))) (
 R (.returned (.int .i64 (-1))) w1)) :
    Calls prg 55 #[.slice s ns cs, .string v] w R :=
  calls_mk (.node .nil (.node (.node .nil (.loop [(8, .int .i64)] [4, 5, 9, 10, 11, 12, 13, 14, 15, 16, 17, 18] .nil)) .nil)) [.slice s ns cs, .string v] w R tabOk (fokOk []) Tryz.func55 (by kernel_rfl) _ (by kernel_rfl) hyp

/-- slices.Equal[[]string,string] -/
theorem f56_wp (s1 : Option Addr) (ns1 : Nat) (cs1 : Nat) (s2 : Option Addr) (ns2 : Nat) (cs2 : Nat) (w : World) (R : Ending → World → Prop) (hyp :
 cond (decide ((ns1 : Int) ≠ (ns2 : Int))) (
 R (.returned (.bool false)) w) (
 ∃ (Inv1 : Int → World → Prop) (Mea1 : Int → World → Nat), Inv1 0 w ∧ ∀ (t13 : Int) (fr : Nat → Value) (w1 : World), 
 Inv1 t13 w1 →
 cond (decide (t13 < (ns1 : Int))) (
 ∃ (Drw1 : World → Prop), Drw1 w1.drew ∧
 0 ≤ t13 ∧ t13 < (ns1 : Int) ∧ nilW s1 fun bk of =>
 ∃ (x : ByteArray), (∀ w2 : World, Drw1 w2 → w2.cell? ⟨bk, of + t13.toNat * 1, none⟩ = some (.string x)) ∧
 0 ≤ t13 ∧ t13 < (ns2 : Int) ∧ nilW s2 fun bk1 of1 =>
 ∃ (x1 : ByteArray), (∀ w3 : World, Drw1 w3 → w3.cell? ⟨bk1, of1 + t13.toNat * 1, none⟩ = some (.string x1)) ∧
 cond (decide (x ≠ x1)) (
 R (.returned (.bool false)) w1.drew) (
 (Inv1 (IntKind.i64.wrap (t13 + (1 : Int))) w1.drew ∧ Mea1 (IntKind.i64.wrap (t13 + (1 : Int))) w1.drew < Mea1 t13 w1))) (
 R (.returned (.bool true)) w1))) :
    Calls prg 56 #[.slice s1 ns1 cs1, .slice s2 ns2 cs2] w R :=
  calls_mk (.node .nil (.node .nil (.node (.node .nil (.loop [(13, .int .i64)] [4, 5, 14, 15, 16, 17, 18, 19, 20, 21, 22, 23, 24, 25] (.node .nil (.node .nil (.node (.node .nil (.node (.draw (.op 0 (.op 1 (.op 2 (.op 3 (.op 4 (.op 5 (.op 6 (.op 7 (.op 8 .done)))))))))) .nil)) .nil))))) .nil))) [.slice s1 ns1 cs1, .slice s2 ns2 cs2] w R tabOk (fokOk []) Tryz.func56 (by kernel_rfl) _ (by kernel_rfl) hyp

/-- signet/scope.Set -/
theorem f57_wp (l : Option Addr) (nl : Nat) (cl : Nat) (w : World) (R : Ending → World → Prop) (hyp :
 ∀ (b_ : Nat) (w1 : World), b_ = w.heap.size → w1 = w.alloc (.cells #[.slice l nl cl] 33) →
 Calls prg 100 #[.slice (some ⟨b_, 0, none⟩) 1 1] w1 fun e w2 => ∃ (r : Option Addr) (nr cr : Nat), e = .returned (.slice r nr cr) ∧
 R (.returned (.slice r nr cr)) w2) :
    Calls prg 57 #[.slice l nl cl] w R :=
  calls_mk .nil [.slice l nl cl] w R tabOk (fokOk []) Tryz.func57 (by kernel_rfl) _ (by kernel_rfl) hyp

/-- signet/scope.Print -/
theorem f58_wp (l : Option Addr) (nl : Nat) (cl : Nat) (w : World) (R : Ending → World → Prop) (hyp :
 ∀ (b_ : Nat) (w1 : World), b_ = w.heap.size → w1 = w.alloc (.cells #[.slice l nl cl] 33) →
 Calls prg 100 #[.slice (some ⟨b_, 0, none⟩) 1 1] w1 fun e w2 => ∃ (r : Option Addr) (nr cr : Nat), e = .returned (.slice r nr cr) ∧
 Calls prg 101 #[.slice r nr cr, .string ⟨#[32]⟩] w2 fun e w3 => ∃ (r1 : ByteArray), e = .returned (.string r1) ∧
 R (.returned (.string r1)) w3) :
    Calls prg 58 #[.slice l nl cl] w R :=
  calls_mk .nil [.slice l nl cl] w R tabOk (fokOk []) Tryz.func58 (by kernel_rfl) _ (by kernel_rfl) hyp

/-- slices.Clone[[]string,string] -/
theorem f59_wp (s : Option Addr) (ns : Nat) (cs : Nat) (w : World) (R : Ending → World → Prop) (hyp :
 cond s.isNone (
 R (.returned (.slice none 0 0)) w) (
 ∀ (b_ : Nat) (w1 : World), b_ = w.heap.size → w1 = w.alloc (.cells #[] 9) →
 ∃ (l : Option Addr) (nl cl : Nat) (w2 : World), (Builtin.append_ #[33, 33] 33 #[.slice (some ⟨b_, 0, none⟩) 0 0, .slice s ns cs]).run prg w1 = .ok (.slice l nl cl) w2 ∧
 R (.returned (.slice l nl cl)) w2)) :
    Calls prg 59 #[.slice s ns cs] w R :=
  calls_mk .nil [.slice s ns cs] w R tabOk (fokOk []) Tryz.func59 (by kernel_rfl) _ (by kernel_rfl) hyp

/-- (*signet/gate.reader).get -/
theorem f60_wp (x : Option Addr) (name : ByteArray) (w : World) (R : Ending → World → Prop) (hyp :
 nilW x fun bk of =>
 ∃ (x1 : Option Addr) (nx cx : Nat), w.cell? ⟨bk, of + 8, none⟩ = some (.slice x1 nx cx) ∧
 Calls prg 30 #[.slice x1 nx cx, .string name] w fun e w1 => ∃ (r : ByteArray), ∃ (r1 : Int), e = .returned (.tuple #[.string r, .int .i64 r1]) ∧
 R (.returned (.string r)) w1) :
    Calls prg 60 #[.pointer x, .string name] w R :=
  calls_mk .nil [.pointer x, .string name] w R tabOk (fokOk []) Tryz.func60 (by kernel_rfl) _ (by kernel_rfl) hyp

/-- (*signet/roll.Roll).Find -/
theorem f61_wp (r : Option Addr) (id : ByteArray) (w : World) (R : Ending → World → Prop) (hyp :
 ∀ (b_ : Nat) (w1 : World), b_ = w.heap.size → w1 = w.alloc (.cells #[.string ⟨#[]⟩, .string ⟨#[]⟩, .bool false, .slice none 0 0, .slice none 0 0, .slice none 0 0] 64) →
 Calls prg 42 #[.pointer r, .string id] w1 fun e w2 => ∃ (r1 r2 : ByteArray) (r3 : Bool) (r4 : Option Addr) (nr cr : Nat) (r5 : Option Addr) (nr1 cr1 : Nat) (r6 : Option Addr) (nr2 cr2 : Nat), ∃ (r7 : Bool), e = .returned (.tuple #[.agg #[.string r1, .string r2, .bool r3, .slice r4 nr cr, .slice r5 nr1 cr1, .slice r6 nr2 cr2], .bool r7]) ∧
 ∀ (b_1 : Nat) (w3 : World), b_1 = w2.heap.size → w3 = w2.alloc (.cells #[.string ⟨#[]⟩, .string ⟨#[]⟩, .bool false, .slice none 0 0, .slice none 0 0, .slice none 0 0] 71) →
 Sto w3 b_1 0 [.string r1, .string r2, .bool r3, .slice r4 nr cr, .slice r5 nr1 cr1, .slice r6 nr2 cr2] ∧ ∀ w4, w4 = w3.setCells b_1 0 [.string r1, .string r2, .bool r3, .slice r4 nr cr, .slice r5 nr1 cr1, .slice r6 nr2 cr2] →
 ∃ (Client_Id Client_Secret : ByteArray) (Client_Public : Bool) (Client_Redirects : Option Addr) (nClient_Redirects cClient_Redirects : Nat) (Client_Scopes : Option Addr) (nClient_Scopes cClient_Scopes : Nat) (Client_Grants : Option Addr) (nClient_Grants cClient_Grants : Nat), w4.rangeAt b_1 0 [.string Client_Id, .string Client_Secret, .bool Client_Public, .slice Client_Redirects nClient_Redirects cClient_Redirects, .slice Client_Scopes nClient_Scopes cClient_Scopes, .slice Client_Grants nClient_Grants cClient_Grants] ∧
 Calls prg 23 #[.agg #[.string Client_Id, .string Client_Secret, .bool Client_Public, .slice Client_Redirects nClient_Redirects cClient_Redirects, .slice Client_Scopes nClient_Scopes cClient_Scopes, .slice Client_Grants nClient_Grants cClient_Grants]] w4 fun e w5 => ∃ (Client_Id1 Client_Secret1 : ByteArray) (Client_Public1 : Bool) (Client_Redirects1 : Option Addr) (nClient_Redirects1 cClient_Redirects1 : Nat) (Client_Scopes1 : Option Addr) (nClient_Scopes1 cClient_Scopes1 : Nat) (Client_Grants1 : Option Addr) (nClient_Grants1 cClient_Grants1 : Nat), e = .returned (.agg #[.string Client_Id1, .string Client_Secret1, .bool Client_Public1, .slice Client_Redirects1 nClient_Redirects1 cClient_Redirects1, .slice Client_Scopes1 nClient_Scopes1 cClient_Scopes1, .slice Client_Grants1 nClient_Grants1 cClient_Grants1]) ∧
 Sto w5 b_ 0 [.string Client_Id1, .string Client_Secret1, .bool Client_Public1, .slice Client_Redirects1 nClient_Redirects1 cClient_Redirects1, .slice Client_Scopes1 nClient_Scopes1 cClient_Scopes1, .slice Client_Grants1 nClient_Grants1 cClient_Grants1] ∧ ∀ w6, w6 = w5.setCells b_ 0 [.string Client_Id1, .string Client_Secret1, .bool Client_Public1, .slice Client_Redirects1 nClient_Redirects1 cClient_Redirects1, .slice Client_Scopes1 nClient_Scopes1 cClient_Scopes1, .slice Client_Grants1 nClient_Grants1 cClient_Grants1] →
 ∃ (Id Secret : ByteArray) (Public : Bool) (Redirects : Option Addr) (nRedirects cRedirects : Nat) (Scopes : Option Addr) (nScopes cScopes : Nat) (Grants : Option Addr) (nGrants cGrants : Nat), w6.rangeAt b_ 0 [.string Id, .string Secret, .bool Public, .slice Redirects nRedirects cRedirects, .slice Scopes nScopes cScopes, .slice Grants nGrants cGrants] ∧
 R (.returned (.tuple #[.agg #[.string Id, .string Secret, .bool Public, .slice Redirects nRedirects cRedirects, .slice Scopes nScopes cScopes, .slice Grants nGrants cGrants], .bool r7])) w6) :
    Calls prg 61 #[.pointer r, .string id] w R :=
  calls_mk .nil [.pointer r, .string id] w R tabOk (fokOk []) Tryz.func61 (by kernel_rfl) _ (by kernel_rfl) hyp

/-- (*signet/roll.Roll).Redirect -/
theorem f62_wp (r : Option Addr) (id : ByteArray) (uri : ByteArray) (w : World) (R : Ending → World → Prop) (hyp :
 Calls prg 42 #[.pointer r, .string id] w fun e w1 => ∃ (r1 r2 : ByteArray) (r3 : Bool) (r4 : Option Addr) (nr cr : Nat) (r5 : Option Addr) (nr1 cr1 : Nat) (r6 : Option Addr) (nr2 cr2 : Nat), ∃ (r7 : Bool), e = .returned (.tuple #[.agg #[.string r1, .string r2, .bool r3, .slice r4 nr cr, .slice r5 nr1 cr1, .slice r6 nr2 cr2], .bool r7]) ∧
 ∀ (b_ : Nat) (w2 : World), b_ = w1.heap.size → w2 = w1.alloc (.cells #[.string ⟨#[]⟩, .string ⟨#[]⟩, .bool false, .slice none 0 0, .slice none 0 0, .slice none 0 0] 71) →
 Sto w2 b_ 0 [.string r1, .string r2, .bool r3, .slice r4 nr cr, .slice r5 nr1 cr1, .slice r6 nr2 cr2] ∧ ∀ w3, w3 = w2.setCells b_ 0 [.string r1, .string r2, .bool r3, .slice r4 nr cr, .slice r5 nr1 cr1, .slice r6 nr2 cr2] →
 cond (decide (uri = ⟨#[]⟩)) (
 ∃ (x : Option Addr) (nx cx : Nat), w3.cell? ⟨b_, 3, none⟩ = some (.slice x nx cx) ∧
 cond (decide ((nx : Int) = (1 : Int))) (
 ∃ (x1 : Option Addr) (nx1 cx1 : Nat), w3.cell? ⟨b_, 3, none⟩ = some (.slice x1 nx1 cx1) ∧
 0 ≤ (0 : Int) ∧ 0 < (nx1 : Int) ∧ nilW x1 fun bk of =>
 ∃ (x2 : ByteArray), w3.cell? ⟨bk, of, none⟩ = some (.string x2) ∧
 R (.returned (.tuple #[.string x2, .bool true])) w3) (
 ∃ (x3 : Option Addr) (nx2 cx2 : Nat), w3.cell? ⟨b_, 3, none⟩ = some (.slice x3 nx2 cx2) ∧
 Calls prg 102 #[.slice x3 nx2 cx2, .string uri] w3 fun e w4 => ∃ (r8 : Bool), e = .returned (.bool r8) ∧
 cond (!r8) (
 R (.returned (.tuple #[.string ⟨#[]⟩, .bool false])) w4) (
 R (.returned (.tuple #[.string uri, .bool true])) w4))) (
 ∃ (x4 : Option Addr) (nx3 cx3 : Nat), w3.cell? ⟨b_, 3, none⟩ = some (.slice x4 nx3 cx3) ∧
 Calls prg 102 #[.slice x4 nx3 cx3, .string uri] w3 fun e w5 => ∃ (r9 : Bool), e = .returned (.bool r9) ∧
 cond (!r9) (
 R (.returned (.tuple #[.string ⟨#[]⟩, .bool false])) w5) (
 R (.returned (.tuple #[.string uri, .bool true])) w5))) :
    Calls prg 62 #[.pointer r, .string id, .string uri] w R :=
  calls_mk .nil [.pointer r, .string id, .string uri] w R tabOk (fokOk []) Tryz.func62 (by kernel_rfl) _ (by kernel_rfl) hyp

/-- (*signet/gate.reader).given -/
theorem f63_wp (x : Option Addr) (id : ByteArray) (w : World) (R : Ending → World → Prop) (hyp :
 Calls prg 68 #[.pointer x] w fun e w1 => ∃ (r : Option Addr) (nr cr : Nat), ∃ (r1 : Int), e = .returned (.tuple #[.slice r nr cr, .int .i64 r1]) ∧
 nilW x fun bk of =>
 ∃ (x1 : Option Addr), w1.cell? ⟨bk, of + 4, none⟩ = some (.pointer x1) ∧
 Calls prg 103 #[.pointer x1, .string id, .slice r nr cr] w1 fun e w2 => ∃ (r2 : Option Addr) (nr1 cr1 : Nat), ∃ (r3 : Bool), e = .returned (.tuple #[.slice r2 nr1 cr1, .bool r3]) ∧
 Calls prg 66 #[.bool r3, .int .i64 6] w2 fun e w3 => ∃ (r4 : Int), e = .returned (.int .i64 r4) ∧
 ∀ (b_ : Nat) (w4 : World), b_ = w3.heap.size → w4 = w3.alloc (.cells #[.int .i64 r1, .int .i64 r4] 36) →
 Calls prg 65 #[.slice (some ⟨b_, 0, none⟩) 2 2] w4 fun e w5 => ∃ (r5 : Int), e = .returned (.int .i64 r5) ∧
 R (.returned (.tuple #[.slice r2 nr1 cr1, .int .i64 r5])) w5) :
    Calls prg 63 #[.pointer x, .string id] w R :=
  calls_mk .nil [.pointer x, .string id] w R tabOk (fokOk []) Tryz.func63 (by kernel_rfl) _ (by kernel_rfl) hyp

/-- signet/pkce.May -/
theorem f64_wp (challenge : ByteArray) (method : ByteArray) (w : World) (R : Ending → World → Prop) (hyp :
 Calls prg 104 #[.string method] w fun e w1 => ∃ (r : ByteArray) (r1 r2 : Value), ∃ (r3 : Bool), e = .returned (.tuple #[.agg #[.string r, r1, r2], .bool r3]) ∧
 ∀ (b_ : Nat) (w2 : World), b_ = w1.heap.size → w2 = w1.alloc (.cells #[.string ⟨#[]⟩, .nilFunc, .nilFunc] 163) →
 Sto w2 b_ 0 [.string r, r1, r2] ∧ ∀ w3, w3 = w2.setCells b_ 0 [.string r, r1, r2] →
 cond r3 (
 ∃ (x : Value), w3.cell? ⟨b_, 2, none⟩ = some x ∧
 fnW x fun fn fa fc => bif fk.contains fn then Calls prg fn ((fa ++ ([.string challenge] : List Value)) ++ fc).toArray w3 fun e w4 => ∃ (r4 : Bool), e = .returned (.bool r4) ∧
 R (.returned (.bool r4)) w4 else False) (
 R (.returned (.bool false)) w3)) :
    Calls prg 64 #[.string challenge, .string method] w R :=
  calls_mk .nil [.string challenge, .string method] w R tabOk (fokOk []) Tryz.func64 (by kernel_rfl) _ (by kernel_rfl) hyp

/-- signet/gate.first -/
theorem f65_wp (l : Option Addr) (nl : Nat) (cl : Nat) (w : World) (R : Ending → World → Prop) (hyp :
 ∃ (Inv1 : Int → World → Prop) (Mea1 : Int → World → Nat), Inv1 0 w ∧ ∀ (t7 : Int) (fr : Nat → Value) (w1 : World), 
 Inv1 t7 w1 →
 cond (decide (t7 < (nl : Int))) (
 0 ≤ t7 ∧ t7 < (nl : Int) ∧ nilW l fun bk of =>
 ∃ (w2 : Int), w1.cell? ⟨bk, of + t7.toNat * 1, none⟩ = some (.int .i64 w2) ∧
 cond (decide (w2 ≠ (0 : Int))) (
 R (.returned (.int .i64 w2)) w1) (
 (Inv1 (IntKind.i64.wrap (t7 + (1 : Int))) w1 ∧ Mea1 (IntKind.i64.wrap (t7 + (1 : Int))) w1 < Mea1 t7 w1))) (
 R (.returned (.int .i64 0)) w1)) :
    Calls prg 65 #[.slice l nl cl] w R :=
  calls_mk (.node .nil (.node (.node .nil (.loop [(7, .int .i64)] [2, 4, 8, 9, 10, 11, 12, 13, 14] .nil)) .nil)) [.slice l nl cl] w R tabOk (fokOk []) Tryz.func65 (by kernel_rfl) _ (by kernel_rfl) hyp

/-- signet/gate.unless -/
theorem f66_wp (is : Bool) (w1 : Int) (w : World) (R : Ending → World → Prop) (hyp :
 cond is (
 R (.returned (.int .i64 0)) w) (
 R (.returned (.int .i64 w1)) w)) :
    Calls prg 66 #[.bool is, .int .i64 w1] w R :=
  calls_mk .nil [.bool is, .int .i64 w1] w R tabOk (fokOk []) Tryz.func66 (by kernel_rfl) _ (by kernel_rfl) hyp

/-- (*signet/roll.Roll).May -/
theorem f67_wp (r : Option Addr) (id : ByteArray) (grant : ByteArray) (w : World) (R : Ending → World → Prop) (hyp :
 Calls prg 42 #[.pointer r, .string id] w fun e w1 => ∃ (r1 r2 : ByteArray) (r3 : Bool) (r4 : Option Addr) (nr cr : Nat) (r5 : Option Addr) (nr1 cr1 : Nat) (r6 : Option Addr) (nr2 cr2 : Nat), ∃ (r7 : Bool), e = .returned (.tuple #[.agg #[.string r1, .string r2, .bool r3, .slice r4 nr cr, .slice r5 nr1 cr1, .slice r6 nr2 cr2], .bool r7]) ∧
 ∀ (b_ : Nat) (w2 : World), b_ = w1.heap.size → w2 = w1.alloc (.cells #[.string ⟨#[]⟩, .string ⟨#[]⟩, .bool false, .slice none 0 0, .slice none 0 0, .slice none 0 0] 71) →
 Sto w2 b_ 0 [.string r1, .string r2, .bool r3, .slice r4 nr cr, .slice r5 nr1 cr1, .slice r6 nr2 cr2] ∧ ∀ w3, w3 = w2.setCells b_ 0 [.string r1, .string r2, .bool r3, .slice r4 nr cr, .slice r5 nr1 cr1, .slice r6 nr2 cr2] →
 ∃ (x : Option Addr) (nx cx : Nat), w3.cell? ⟨b_, 5, none⟩ = some (.slice x nx cx) ∧
 Calls prg 102 #[.slice x nx cx, .string grant] w3 fun e w4 => ∃ (r8 : Bool), e = .returned (.bool r8) ∧
 R (.returned (.bool r8)) w4) :
    Calls prg 67 #[.pointer r, .string id, .string grant] w R :=
  calls_mk .nil [.pointer r, .string id, .string grant] w R tabOk (fokOk []) Tryz.func67 (by kernel_rfl) _ (by kernel_rfl) hyp

/-- (*signet/gate.reader).scope -/
theorem f68_wp (x : Option Addr) (w : World) (R : Ending → World → Prop) (hyp :
 Calls prg 60 #[.pointer x, .string ⟨#[115, 99, 111, 112, 101]⟩] w fun e w1 => ∃ (r : ByteArray), e = .returned (.string r) ∧
 Calls prg 105 #[.string r] w1 fun e w2 => ∃ (r1 : Option Addr) (nr cr : Nat), ∃ (r2 : Int), e = .returned (.tuple #[.slice r1 nr cr, .int .i64 r2]) ∧
 Calls prg 66 #[.bool (decide (r2 = (0 : Int))), .int .i64 6] w2 fun e w3 => ∃ (r3 : Int), e = .returned (.int .i64 r3) ∧
 R (.returned (.tuple #[.slice r1 nr cr, .int .i64 r3])) w3) :
    Calls prg 68 #[.pointer x] w R :=
  calls_mk .nil [.pointer x] w R tabOk (fokOk []) Tryz.func68 (by kernel_rfl) _ (by kernel_rfl) hyp

/-- (*signet/gate.reader).opened -/
theorem f69_wp (x : Option Addr) (w : World) (R : Ending → World → Prop) (hyp :
 ∀ (b_ : Nat) (w1 : World), b_ = w.heap.size → w1 = w.alloc (.cells #[.int .i64 0, .string ⟨#[]⟩, .int .i64 0] 47) →
 ∃ (Drw1 : World → Prop), Drw1 w1.drew ∧
 nilW x fun bk of =>
 ∃ (x1 : Option Addr), (∀ w2 : World, Drw1 w2 → w2.cell? ⟨bk, of + 4, none⟩ = some (.pointer x1)) ∧
 nilW x fun bk1 of1 =>
 ∃ (x2 : ByteArray), (∀ w3 : World, Drw1 w3 → w3.cell? ⟨bk1, of1 + 1, none⟩ = some (.string x2)) ∧
 nilW x fun bk2 of2 =>
 ∃ (x3 : Option Addr) (nx cx : Nat), (∀ w4 : World, Drw1 w4 → w4.cell? ⟨bk2, of2 + 8, none⟩ = some (.slice x3 nx cx)) ∧
 Calls prg 15 #[.pointer x1, .string x2, .slice x3 nx cx] w1.drew fun e w5 => ∃ (r : ByteArray), ∃ (r1 : Int), e = .returned (.tuple #[.string r, .int .i64 r1]) ∧
 Calls prg 60 #[.pointer x, .string ⟨#[116, 111, 107, 101, 110]⟩] w5 fun e w6 => ∃ (s : ByteArray), e = .returned (.string s) ∧
 nilW x fun bk3 of3 =>
 ∃ (x4 : Option Addr) (nx1 cx1 : Nat), w6.cell? ⟨bk3, of3 + 5, none⟩ = some (.slice x4 nx1 cx1) ∧
 Calls prg 16 #[.slice x4 nx1 cx1, .string s] w6 fun e w7 => ∃ (r2 : Int) (r3 : ByteArray) (r4 : Int), ∃ (r5 : Int), e = .returned (.tuple #[.agg #[.int .i64 r2, .string r3, .int .i64 r4], .int .i64 r5]) ∧
 ∀ (b_1 : Nat) (w8 : World), b_1 = w7.heap.size → w8 = w7.alloc (.cells #[.int .i64 0, .string ⟨#[]⟩, .int .i64 0] 47) →
 Sto w8 b_1 0 [.int .i64 r2, .string r3, .int .i64 r4] ∧ ∀ w9, w9 = w8.setCells b_1 0 [.int .i64 r2, .string r3, .int .i64 r4] →
 ∃ (Drw2 : World → Prop), Drw2 w9.drew ∧
 ∃ (Kind : Int) (Family : ByteArray) (Serial : Int), (∀ w10 : World, Drw2 w10 → w10.rangeAt b_1 0 [.int .i64 Kind, .string Family, .int .i64 Serial]) ∧
 Calls prg 66 #[.bool (decide (s ≠ ⟨#[]⟩)), .int .i64 1] w9.drew fun e w11 => ∃ (r6 : Int), e = .returned (.int .i64 r6) ∧
 Drw2 w11 ∧ ∀ (b_2 : Nat) (w12 : World), b_2 = w11.heap.size → w12 = w11.alloc (.cells #[.int .i64 r1, .int .i64 r6] 36) →
 Drw2 w12 ∧ Calls prg 65 #[.slice (some ⟨b_2, 0, none⟩) 2 2] w12 fun e w13 => ∃ (r7 : Int), e = .returned (.int .i64 r7) ∧
 Drw2 w13 ∧ Sto w13 b_ 0 [.int .i64 Kind, .string Family, .int .i64 Serial] ∧ ∀ w14, w14 = w13.setCells b_ 0 [.int .i64 Kind, .string Family, .int .i64 Serial] →
 ∃ (Kind1 : Int) (Family1 : ByteArray) (Serial1 : Int), w14.rangeAt b_ 0 [.int .i64 Kind1, .string Family1, .int .i64 Serial1] ∧
 R (.returned (.tuple #[.string r, .agg #[.int .i64 Kind1, .string Family1, .int .i64 Serial1], .bool (decide (r5 = (0 : Int))), .int .i64 r7])) w14) :
    Calls prg 69 #[.pointer x] w R :=
  calls_mk (.node .nil (.node (.draw (.op 0 (.op 1 (.op 2 (.op 3 (.op 4 (.op 5 (.op 6 (.op 7 (.op 8 (.op 9 (.op 10 (.op 11 (.op 12 (.op 13 (.op 14 (.op 15 (.op 16 (.op 17 (.op 18 .done)))))))))))))))))))) (.node .nil (.node .nil (.node (.draw (.op 0 (.op 1 (.op 2 (.op 3 (.op 4 (.op 5 (.op 6 (.op 7 (.op 8 (.op 9 (.op 10 (.op 11 (.op 12 (.op 13 .done))))))))))))))) .nil))))) [.pointer x] w R tabOk (fokOk []) Tryz.func69 (by kernel_rfl) _ (by kernel_rfl) hyp

/-- signet/field.pieces -/
theorem f70_wp (s : ByteArray) (w : World) (R : Ending → World → Prop) (hyp :
 ∀ (b_ : Nat) (w1 : World), b_ = w.heap.size → w1 = w.alloc (.cells #[.string s] 9) →
 R (.returned (.func (.func 106) #[] #[.pointer (some ⟨b_, 0, none⟩)])) w1) :
    Calls prg 70 #[.string s] w R :=
  calls_mk .nil [.string s] w R tabOk (fokOk []) Tryz.func70 (by kernel_rfl) _ (by kernel_rfl) hyp

/-- strings.Cut -/
theorem f71_wp (s : ByteArray) (sep : ByteArray) (w : World) (R : Ending → World → Prop) (hyp :
 Calls prg 107 #[.string s, .string sep] w fun e w1 => ∃ (r : ByteArray), ∃ (r1 : ByteArray), ∃ (r2 : Bool), e = .returned (.tuple #[.string r, .string r1, .bool r2]) ∧
 R (.returned (.tuple #[.string r, .string r1, .bool r2])) w1) :
    Calls prg 71 #[.string s, .string sep] w R :=
  calls_mk .nil [.string s, .string sep] w R tabOk (fokOk []) Tryz.func71 (by kernel_rfl) _ (by kernel_rfl) hyp

/-- signet/field.Unquote -/
theorem f72_wp (s : ByteArray) (w : World) (R : Ending → World → Prop) (hyp :
 ∀ (b_ : Nat) (w1 : World), b_ = w.heap.size → w1 = w.alloc (.cells #[.string s] 9) →
 ∀ (b_1 : Nat) (w2 : World), b_1 = w1.heap.size → w2 = w1.alloc (.cells #[.int .i64 0] 3) →
 Sto w2 b_1 0 [.int .i64 0] ∧ ∀ w3, w3 = w2.setCells b_1 0 [.int .i64 0] →
 ∃ (Inv1 : Option Addr → Nat → Nat → World → Prop) (Mea1 : Option Addr → Nat → Nat → World → Nat), Inv1 none 0 0 w3 ∧ ∀ (b_2 : Option Addr) (nb cb : Nat) (fr : Nat → Value) (w4 : World), 
 Inv1 b_2 nb cb w4 →
 ∃ (x : Int), w4.cell? ⟨b_1, 0, none⟩ = some (.int .i64 x) ∧
 ∃ (x1 : ByteArray), w4.cell? ⟨b_, 0, none⟩ = some (.string x1) ∧
 cond (decide (x < (x1.size : Int))) (
 ∃ (x2 : ByteArray), w4.cell? ⟨b_, 0, none⟩ = some (.string x2) ∧
 ∃ (x3 : Int), w4.cell? ⟨b_1, 0, none⟩ = some (.int .i64 x3) ∧
 0 ≤ x3 ∧ ∃ c : UInt8, x2.data.toList[x3.toNat]? = some c ∧
 ∃ (x4 : Int), w4.cell? ⟨b_1, 0, none⟩ = some (.int .i64 x4) ∧
 Sto w4 b_1 0 [.int .i64 (IntKind.i64.wrap (x4 + (1 : Int)))] ∧ ∀ w5, w5 = w4.setCells b_1 0 [.int .i64 (IntKind.i64.wrap (x4 + (1 : Int)))] →
 ∃ (Cut1 : Bool → World → Prop), (
 cond (decide ((c.toNat : Int) < (33 : Int))) (
 Cut1 true w5) (
 Cut1 (decide ((c.toNat : Int) > (126 : Int))) w5)) ∧
 ∀ (t20 : Bool) (fr1 : Nat → Value) (w6 : World), Cut1 t20 w6 →
 cond t20 (
 R (.returned (.tuple #[.string ⟨#[]⟩, .int .i64 3])) w6) (
 cond (decide ((c.toNat : Int) = (43 : Int))) (
 ∀ (b_3 : Nat) (w7 : World), b_3 = w6.heap.size → w7 = w6.alloc (.cells #[.int .u8 32] 5) →
 ∃ (b_4 : Option Addr) (nb1 cb1 : Nat) (w8 : World), (Builtin.append_ #[23, 23] 23 #[.slice b_2 nb cb, .slice (some ⟨b_3, 0, none⟩) 1 1]).run prg w7 = .ok (.slice b_4 nb1 cb1) w8 ∧
 (Inv1 b_4 nb1 cb1 w8 ∧ Mea1 b_4 nb1 cb1 w8 < Mea1 b_2 nb cb w4)) (
 cond (decide ((c.toNat : Int) = (37 : Int))) (
 Calls prg 108 #[.pointer (some ⟨b_1, 0, none⟩), .pointer (some ⟨b_, 0, none⟩)] w6 fun e w9 => ∃ (high : Int), e = .returned (.int .i64 high) ∧
 Calls prg 108 #[.pointer (some ⟨b_1, 0, none⟩), .pointer (some ⟨b_, 0, none⟩)] w9 fun e w10 => ∃ (low : Int), e = .returned (.int .i64 low) ∧
 cond (decide (high < (0 : Int))) (
 R (.returned (.tuple #[.string ⟨#[]⟩, .int .i64 3])) w10) (
 cond (decide (low < (0 : Int))) (
 R (.returned (.tuple #[.string ⟨#[]⟩, .int .i64 3])) w10) (
 0 ≤ (4 : Int) ∧ ∀ (b_5 : Nat) (w11 : World), b_5 = w10.heap.size → w11 = w10.alloc (.cells #[.int .u8 (IntKind.u8.wrap (bitv .or .i64 (IntKind.i64.wrap (high * 2 ^ 4)) low))] 5) →
 ∃ (b_6 : Option Addr) (nb2 cb2 : Nat) (w12 : World), (Builtin.append_ #[23, 23] 23 #[.slice b_2 nb cb, .slice (some ⟨b_5, 0, none⟩) 1 1]).run prg w11 = .ok (.slice b_6 nb2 cb2) w12 ∧
 (Inv1 b_6 nb2 cb2 w12 ∧ Mea1 b_6 nb2 cb2 w12 < Mea1 b_2 nb cb w4)))) (
 ∀ (b_7 : Nat) (w13 : World), b_7 = w6.heap.size → w13 = w6.alloc (.cells #[.int .u8 (c.toNat : Int)] 5) →
 ∃ (b_8 : Option Addr) (nb3 cb3 : Nat) (w14 : World), (Builtin.append_ #[23, 23] 23 #[.slice b_2 nb cb, .slice (some ⟨b_7, 0, none⟩) 1 1]).run prg w13 = .ok (.slice b_8 nb3 cb3) w14 ∧
 (Inv1 b_8 nb3 cb3 w14 ∧ Mea1 b_8 nb3 cb3 w14 < Mea1 b_2 nb cb w4))))) (
 ∃ s1 : ByteArray, BytesAt w4 b_2 nb s1 ∧
 R (.returned (.tuple #[.string s1, .int .i64 0])) w4)) :
    Calls prg 72 #[.string s] w R :=
  calls_mk (.node .nil (.node .nil (.node .nil (.node .nil (.node (.loop [(4, .slice)] [2, 3, 7, 8, 9, 11, 12, 13, 14, 15, 16, 17, 18, 19, 20, 21, 22, 23, 24, 25, 26, 27, 28, 29, 30, 31, 32, 33, 34, 35, 36, 37, 38, 39, 40, 41, 42, 43, 44, 45, 46, 47, 48, 49, 50, 51] (.node .nil (.node .nil (.node .nil (.node (.cut [(20, .bool)] [21, 22, 23, 24, 25, 26] .nil .nil) .nil))))) .nil))))) [.string s] w R tabOk (fokOk []) Tryz.func72 (by kernel_rfl) _ (by kernel_rfl) hyp

/-- signet/seal.sign -/
theorem f73_wp (c : Int) (w : World) (R : Ending → World → Prop) (hyp :
 cond (decide (c ≥ (97 : Int))) (
 cond (decide (c ≤ (122 : Int))) (
 R (.returned (.bool true)) w) (
 cond (decide (c ≥ (65 : Int))) (
 cond (decide (c ≤ (90 : Int))) (
 R (.returned (.bool true)) w) (
 cond (decide (c ≥ (48 : Int))) (
 cond (decide (c ≤ (57 : Int))) (
 R (.returned (.bool true)) w) (
 cond (decide (c = (45 : Int))) (
 R (.returned (.bool true)) w) (
 R (.returned (.bool (decide (c = (95 : Int))))) w))) (
 cond (decide (c = (45 : Int))) (
 R (.returned (.bool true)) w) (
 R (.returned (.bool (decide (c = (95 : Int))))) w)))) (
 cond (decide (c ≥ (48 : Int))) (
 cond (decide (c ≤ (57 : Int))) (
 R (.returned (.bool true)) w) (
 cond (decide (c = (45 : Int))) (
 R (.returned (.bool true)) w) (
 R (.returned (.bool (decide (c = (95 : Int))))) w))) (
 cond (decide (c = (45 : Int))) (
 R (.returned (.bool true)) w) (
 R (.returned (.bool (decide (c = (95 : Int))))) w))))) (
 cond (decide (c ≥ (65 : Int))) (
 cond (decide (c ≤ (90 : Int))) (
 R (.returned (.bool true)) w) (
 cond (decide (c ≥ (48 : Int))) (
 cond (decide (c ≤ (57 : Int))) (
 R (.returned (.bool true)) w) (
 cond (decide (c = (45 : Int))) (
 R (.returned (.bool true)) w) (
 R (.returned (.bool (decide (c = (95 : Int))))) w))) (
 cond (decide (c = (45 : Int))) (
 R (.returned (.bool true)) w) (
 R (.returned (.bool (decide (c = (95 : Int))))) w)))) (
 cond (decide (c ≥ (48 : Int))) (
 cond (decide (c ≤ (57 : Int))) (
 R (.returned (.bool true)) w) (
 cond (decide (c = (45 : Int))) (
 R (.returned (.bool true)) w) (
 R (.returned (.bool (decide (c = (95 : Int))))) w))) (
 cond (decide (c = (45 : Int))) (
 R (.returned (.bool true)) w) (
 R (.returned (.bool (decide (c = (95 : Int))))) w))))) :
    Calls prg 73 #[.int .u8 c] w R :=
  calls_mk .nil [.int .u8 c] w R tabOk (fokOk []) Tryz.func73 (by kernel_rfl) _ (by kernel_rfl) hyp

/-- signet/signetref04.pair -/
theorem f74_wp (s : ByteArray) (w : World) (R : Ending → World → Prop) (hyp :
 ∀ (b_ : Nat) (w1 : World), b_ = w.heap.size → w1 = w.alloc (.cells #[.string ⟨#[]⟩, .string ⟨#[]⟩] 56) →
 ∃ (Cut1 : Int → World → Prop), (
 ∃ (Inv1 : Int → World → Prop) (Mea1 : Int → World → Nat), Inv1 0 w1 ∧ ∀ (k : Int) (fr : Nat → Value) (w2 : World), 
 Inv1 k w2 →
 cond (decide (k < (s.size : Int))) (
 0 ≤ k ∧ ∃ c : UInt8, s.data.toList[k.toNat]? = some c ∧
 cond (decide ((c.toNat : Int) ≠ (61 : Int))) (
 (Inv1 (IntKind.i64.wrap (k + (1 : Int))) w2 ∧ Mea1 (IntKind.i64.wrap (k + (1 : Int))) w2 < Mea1 k w2)) (
 Cut1 k w2)) (
 Cut1 k w2)) ∧
 ∀ (k1 : Int) (fr1 : Nat → Value) (w3 : World), Cut1 k1 w3 →
 ∃ (Cut2 : ByteArray → World → Prop), (
 cond (decide (k1 < (s.size : Int))) (
 0 ≤ (IntKind.i64.wrap (k1 + (1 : Int))) ∧ (IntKind.i64.wrap (k1 + (1 : Int))).toNat ≤ s.size ∧ s.size ≤ s.size ∧
 Cut2 (s.extract ((IntKind.i64.wrap (k1 + (1 : Int))).toNat) s.size) w3) (
 Cut2 ⟨#[]⟩ w3)) ∧
 ∀ (value : ByteArray) (fr2 : Nat → Value) (w4 : World), Cut2 value w4 →
 0 ≤ k1 ∧ 0 ≤ k1.toNat ∧ k1.toNat ≤ s.size ∧
 Calls prg 110 #[.string (s.extract 0 k1.toNat)] w4 fun e w5 => ∃ (r : ByteArray), ∃ (r1 : Int), e = .returned (.tuple #[.string r, .int .i64 r1]) ∧
 Calls prg 110 #[.string value] w5 fun e w6 => ∃ (r2 : ByteArray), ∃ (r3 : Int), e = .returned (.tuple #[.string r2, .int .i64 r3]) ∧
 cond (decide (r1 ≠ (0 : Int))) (
 Sto w6 b_ 0 [.string ⟨#[]⟩, .string ⟨#[]⟩] ∧ ∀ w7, w7 = w6.setCells b_ 0 [.string ⟨#[]⟩, .string ⟨#[]⟩] →
 ∃ (Name Value : ByteArray), w7.rangeAt b_ 0 [.string Name, .string Value] ∧
 R (.returned (.tuple #[.agg #[.string Name, .string Value], .int .i64 3])) w7) (
 cond (decide (r3 ≠ (0 : Int))) (
 Sto w6 b_ 0 [.string ⟨#[]⟩, .string ⟨#[]⟩] ∧ ∀ w8, w8 = w6.setCells b_ 0 [.string ⟨#[]⟩, .string ⟨#[]⟩] →
 ∃ (Name1 Value1 : ByteArray), w8.rangeAt b_ 0 [.string Name1, .string Value1] ∧
 R (.returned (.tuple #[.agg #[.string Name1, .string Value1], .int .i64 3])) w8) (
 Sto w6 b_ 0 [.string r, .string r2] ∧ ∀ w9, w9 = w6.setCells b_ 0 [.string r, .string r2] →
 ∃ (Name2 Value2 : ByteArray), w9.rangeAt b_ 0 [.string Name2, .string Value2] ∧
 R (.returned (.tuple #[.agg #[.string Name2, .string Value2], .int .i64 0])) w9))) :
    Calls prg 74 #[.string s] w R :=
  calls_mk (.node .nil (.node .nil (.cut [(4, .int .i64)] [10, 11, 12, 13, 14, 15, 16, 17, 18, 19, 20, 21] (.loop [(4, .int .i64)] [10, 11, 12, 13, 14, 15, 16, 17, 18, 19, 20, 21] .nil) (.node .nil (.cut [(5, .str)] [22, 23, 24, 25, 26, 27, 28, 29] .nil .nil))))) [.string s] w R tabOk (fokOk []) Tryz.func74 (by kernel_rfl) _ (by kernel_rfl) hyp

/-- signet/signetref16.sign -/
theorem f75_wp (c : Int) (w : World) (R : Ending → World → Prop) (hyp :
 cond (decide (c > (47 : Int))) (
 cond (decide (c < (58 : Int))) (
 R (.returned (.bool true)) w) (
 cond (decide (c > (64 : Int))) (
 cond (decide (c < (91 : Int))) (
 R (.returned (.bool true)) w) (
 cond (decide (c > (96 : Int))) (
 cond (decide (c < (123 : Int))) (
 R (.returned (.bool true)) w) (
 cond (decide (c = (45 : Int))) (
 R (.returned (.bool true)) w) (
 R (.returned (.bool (decide (c = (95 : Int))))) w))) (
 cond (decide (c = (45 : Int))) (
 R (.returned (.bool true)) w) (
 R (.returned (.bool (decide (c = (95 : Int))))) w)))) (
 cond (decide (c > (96 : Int))) (
 cond (decide (c < (123 : Int))) (
 R (.returned (.bool true)) w) (
 cond (decide (c = (45 : Int))) (
 R (.returned (.bool true)) w) (
 R (.returned (.bool (decide (c = (95 : Int))))) w))) (
 cond (decide (c = (45 : Int))) (
 R (.returned (.bool true)) w) (
 R (.returned (.bool (decide (c = (95 : Int))))) w))))) (
 cond (decide (c > (64 : Int))) (
 cond (decide (c < (91 : Int))) (
 R (.returned (.bool true)) w) (
 cond (decide (c > (96 : Int))) (
 cond (decide (c < (123 : Int))) (
 R (.returned (.bool true)) w) (
 cond (decide (c = (45 : Int))) (
 R (.returned (.bool true)) w) (
 R (.returned (.bool (decide (c = (95 : Int))))) w))) (
 cond (decide (c = (45 : Int))) (
 R (.returned (.bool true)) w) (
 R (.returned (.bool (decide (c = (95 : Int))))) w)))) (
 cond (decide (c > (96 : Int))) (
 cond (decide (c < (123 : Int))) (
 R (.returned (.bool true)) w) (
 cond (decide (c = (45 : Int))) (
 R (.returned (.bool true)) w) (
 R (.returned (.bool (decide (c = (95 : Int))))) w))) (
 cond (decide (c = (45 : Int))) (
 R (.returned (.bool true)) w) (
 R (.returned (.bool (decide (c = (95 : Int))))) w))))) :
    Calls prg 75 #[.int .u8 c] w R :=
  calls_mk .nil [.int .u8 c] w R tabOk (fokOk []) Tryz.func75 (by kernel_rfl) _ (by kernel_rfl) hyp

/-- signet/signetref15.Find -/
theorem f76_wp (l : Option Addr) (nl : Nat) (cl : Nat) (id : ByteArray) (w : World) (R : Ending → World → Prop) (hyp :
 ∀ (b_ : Nat) (w1 : World), b_ = w.heap.size → w1 = w.alloc (.cells #[.string ⟨#[]⟩, .string ⟨#[]⟩, .bool false, .slice none 0 0, .slice none 0 0, .slice none 0 0] 64) →
 ∃ (Inv1 : Int → World → Prop) (Mea1 : Int → World → Nat), Inv1 0 w1 ∧ ∀ (i : Int) (fr : Nat → Value) (w2 : World), 
 Inv1 i w2 →
 cond (decide (i < (nl : Int))) (
 0 ≤ i ∧ i < (nl : Int) ∧ nilW l fun bk of =>
 ∃ (x : ByteArray), w2.cell? ⟨bk, of + i.toNat * 6, none⟩ = some (.string x) ∧
 cond (decide (x = id)) (
 0 ≤ i ∧ i < (nl : Int) ∧ nilW l fun bk1 of1 =>
 ∃ (Id Secret : ByteArray) (Public : Bool) (Redirects : Option Addr) (nRedirects cRedirects : Nat) (Scopes : Option Addr) (nScopes cScopes : Nat) (Grants : Option Addr) (nGrants cGrants : Nat), w2.rangeAt bk1 (of1 + i.toNat * 6) [.string Id, .string Secret, .bool Public, .slice Redirects nRedirects cRedirects, .slice Scopes nScopes cScopes, .slice Grants nGrants cGrants] ∧
 Sto w2 b_ 0 [.string Id, .string Secret, .bool Public, .slice Redirects nRedirects cRedirects, .slice Scopes nScopes cScopes, .slice Grants nGrants cGrants] ∧ ∀ w3, w3 = w2.setCells b_ 0 [.string Id, .string Secret, .bool Public, .slice Redirects nRedirects cRedirects, .slice Scopes nScopes cScopes, .slice Grants nGrants cGrants] →
 ∃ (Id1 Secret1 : ByteArray) (Public1 : Bool) (Redirects1 : Option Addr) (nRedirects1 cRedirects1 : Nat) (Scopes1 : Option Addr) (nScopes1 cScopes1 : Nat) (Grants1 : Option Addr) (nGrants1 cGrants1 : Nat), w3.rangeAt b_ 0 [.string Id1, .string Secret1, .bool Public1, .slice Redirects1 nRedirects1 cRedirects1, .slice Scopes1 nScopes1 cScopes1, .slice Grants1 nGrants1 cGrants1] ∧
 R (.returned (.tuple #[.agg #[.string Id1, .string Secret1, .bool Public1, .slice Redirects1 nRedirects1 cRedirects1, .slice Scopes1 nScopes1 cScopes1, .slice Grants1 nGrants1 cGrants1], .bool true])) w3) (
 (Inv1 (IntKind.i64.wrap (i + (1 : Int))) w2 ∧ Mea1 (IntKind.i64.wrap (i + (1 : Int))) w2 < Mea1 i w2))) (
 Sto w2 b_ 0 [.string ⟨#[]⟩, .string ⟨#[]⟩, .bool false, .slice none 0 0, .slice none 0 0, .slice none 0 0] ∧ ∀ w4, w4 = w2.setCells b_ 0 [.string ⟨#[]⟩, .string ⟨#[]⟩, .bool false, .slice none 0 0, .slice none 0 0, .slice none 0 0] →
 ∃ (Id2 Secret2 : ByteArray) (Public2 : Bool) (Redirects2 : Option Addr) (nRedirects2 cRedirects2 : Nat) (Scopes2 : Option Addr) (nScopes2 cScopes2 : Nat) (Grants2 : Option Addr) (nGrants2 cGrants2 : Nat), w4.rangeAt b_ 0 [.string Id2, .string Secret2, .bool Public2, .slice Redirects2 nRedirects2 cRedirects2, .slice Scopes2 nScopes2 cScopes2, .slice Grants2 nGrants2 cGrants2] ∧
 R (.returned (.tuple #[.agg #[.string Id2, .string Secret2, .bool Public2, .slice Redirects2 nRedirects2 cRedirects2, .slice Scopes2 nScopes2 cScopes2, .slice Grants2 nGrants2 cGrants2], .bool false])) w4)) :
    Calls prg 76 #[.slice l nl cl, .string id] w R :=
  calls_mk (.node .nil (.node (.node .nil (.loop [(6, .int .i64)] [5, 7, 8, 9, 10, 11, 12, 13, 14, 15, 16, 17, 18, 19, 20, 21, 22, 23] .nil)) .nil)) [.slice l nl cl, .string id] w R tabOk (fokOk []) Tryz.func76 (by kernel_rfl) _ (by kernel_rfl) hyp

/-- signet/signetref15.Redirect -/
theorem f77_wp (l : Option Addr) (nl : Nat) (cl : Nat) (id : ByteArray) (uri : ByteArray) (w : World) (R : Ending → World → Prop) (hyp :
 Calls prg 76 #[.slice l nl cl, .string id] w fun e w1 => ∃ (r r1 : ByteArray) (r2 : Bool) (r3 : Option Addr) (nr cr : Nat) (r4 : Option Addr) (nr1 cr1 : Nat) (r5 : Option Addr) (nr2 cr2 : Nat), ∃ (r6 : Bool), e = .returned (.tuple #[.agg #[.string r, .string r1, .bool r2, .slice r3 nr cr, .slice r4 nr1 cr1, .slice r5 nr2 cr2], .bool r6]) ∧
 ∀ (b_ : Nat) (w2 : World), b_ = w1.heap.size → w2 = w1.alloc (.cells #[.string ⟨#[]⟩, .string ⟨#[]⟩, .bool false, .slice none 0 0, .slice none 0 0, .slice none 0 0] 64) →
 Sto w2 b_ 0 [.string r, .string r1, .bool r2, .slice r3 nr cr, .slice r4 nr1 cr1, .slice r5 nr2 cr2] ∧ ∀ w3, w3 = w2.setCells b_ 0 [.string r, .string r1, .bool r2, .slice r3 nr cr, .slice r4 nr1 cr1, .slice r5 nr2 cr2] →
 cond (!r6) (
 R (.returned (.tuple #[.string ⟨#[]⟩, .bool false])) w3) (
 cond (decide (uri = ⟨#[]⟩)) (
 ∃ (x : Option Addr) (nx cx : Nat), w3.cell? ⟨b_, 3, none⟩ = some (.slice x nx cx) ∧
 cond (decide ((nx : Int) = (1 : Int))) (
 ∃ (x1 : Option Addr) (nx1 cx1 : Nat), w3.cell? ⟨b_, 3, none⟩ = some (.slice x1 nx1 cx1) ∧
 0 ≤ (0 : Int) ∧ 0 < (nx1 : Int) ∧ nilW x1 fun bk of =>
 ∃ (x2 : ByteArray), w3.cell? ⟨bk, of, none⟩ = some (.string x2) ∧
 R (.returned (.tuple #[.string x2, .bool true])) w3) (
 ∃ (x3 : Option Addr) (nx2 cx2 : Nat), w3.cell? ⟨b_, 3, none⟩ = some (.slice x3 nx2 cx2) ∧
 Calls prg 50 #[.slice x3 nx2 cx2, .string uri] w3 fun e w4 => ∃ (r7 : Bool), e = .returned (.bool r7) ∧
 cond r7 (
 R (.returned (.tuple #[.string uri, .bool true])) w4) (
 R (.returned (.tuple #[.string ⟨#[]⟩, .bool false])) w4))) (
 ∃ (x4 : Option Addr) (nx3 cx3 : Nat), w3.cell? ⟨b_, 3, none⟩ = some (.slice x4 nx3 cx3) ∧
 Calls prg 50 #[.slice x4 nx3 cx3, .string uri] w3 fun e w5 => ∃ (r8 : Bool), e = .returned (.bool r8) ∧
 cond r8 (
 R (.returned (.tuple #[.string uri, .bool true])) w5) (
 R (.returned (.tuple #[.string ⟨#[]⟩, .bool false])) w5)))) :
    Calls prg 77 #[.slice l nl cl, .string id, .string uri] w R :=
  calls_mk .nil [.slice l nl cl, .string id, .string uri] w R tabOk (fokOk []) Tryz.func77 (by kernel_rfl) _ (by kernel_rfl) hyp

/-- signet/signetref19.given -/
theorem f78_wp (l : Option Addr) (nl : Nat) (cl : Nat) (id : ByteArray) (form : Option Addr) (nform : Nat) (cform : Nat) (w : World) (R : Ending → World → Prop) (hyp :
 Calls prg 38 #[.slice form nform cform, .string ⟨#[115, 99, 111, 112, 101]⟩] w fun e w1 => ∃ (r : ByteArray), e = .returned (.string r) ∧
 Calls prg 81 #[.string r] w1 fun e w2 => ∃ (r1 : Option Addr) (nr cr : Nat), ∃ (r2 : Int), e = .returned (.tuple #[.slice r1 nr cr, .int .i64 r2]) ∧
 cond (decide (r2 ≠ (0 : Int))) (
 R (.returned (.tuple #[.slice none 0 0, .int .i64 6])) w2) (
 Calls prg 111 #[.slice l nl cl, .string id, .slice r1 nr cr] w2 fun e w3 => ∃ (r3 : Option Addr) (nr1 cr1 : Nat), ∃ (r4 : Bool), e = .returned (.tuple #[.slice r3 nr1 cr1, .bool r4]) ∧
 cond (!r4) (
 R (.returned (.tuple #[.slice none 0 0, .int .i64 6])) w3) (
 R (.returned (.tuple #[.slice r3 nr1 cr1, .int .i64 0])) w3))) :
    Calls prg 78 #[.slice l nl cl, .string id, .slice form nform cform] w R :=
  calls_mk .nil [.slice l nl cl, .string id, .slice form nform cform] w R tabOk (fokOk []) Tryz.func78 (by kernel_rfl) _ (by kernel_rfl) hyp

/-- signet/signetref07.May -/
theorem f79_wp (challenge : ByteArray) (method : ByteArray) (w : World) (R : Ending → World → Prop) (hyp :
 cond (decide (method = ⟨#[112, 108, 97, 105, 110]⟩)) (
 Calls prg 112 #[.string challenge] w fun e w1 => ∃ (r : Bool), e = .returned (.bool r) ∧
 R (.returned (.bool r)) w1) (
 Calls prg 113 #[.string challenge] w fun e w2 => ∃ (r1 : Option Addr) (nr cr : Nat), ∃ (r2 : Int), e = .returned (.tuple #[.slice r1 nr cr, .int .i64 r2]) ∧
 cond (decide (method = ⟨#[83, 50, 53, 54]⟩)) (
 cond (decide (r2 = (0 : Int))) (
 R (.returned (.bool (decide ((nr : Int) = (32 : Int))))) w2) (
 R (.returned (.bool false)) w2)) (
 R (.returned (.bool false)) w2))) :
    Calls prg 79 #[.string challenge, .string method] w R :=
  calls_mk .nil [.string challenge, .string method] w R tabOk (fokOk []) Tryz.func79 (by kernel_rfl) _ (by kernel_rfl) hyp

/-- signet/signetref15.shown -/
theorem f80_wp (h : ByteArray) (w : World) (R : Ending → World → Prop) (hyp :
 ∃ (Cut1 : World → Prop), (
 cond (decide ((h.size : Int) < (6 : Int))) (
 R (.returned (.tuple #[.string ⟨#[]⟩, .string ⟨#[]⟩, .bool false])) w) (
 0 ≤ (6 : Int) ∧ 0 ≤ 6 ∧ 6 ≤ h.size ∧
 cond (decide ((h.extract 0 6) ≠ ⟨#[66, 97, 115, 105, 99, 32]⟩)) (
 R (.returned (.tuple #[.string ⟨#[]⟩, .string ⟨#[]⟩, .bool false])) w) (
 Cut1 w))) ∧
 ∀ (fr : Nat → Value) (w1 : World), Cut1 w1 →
 0 ≤ (6 : Int) ∧ 6 ≤ h.size ∧ h.size ≤ h.size ∧
 Calls prg 114 #[.string (h.extract 6 h.size)] w1 fun e w2 => ∃ (r : Option Addr) (nr cr : Nat), ∃ (r1 : Int), e = .returned (.tuple #[.slice r nr cr, .int .i64 r1]) ∧
 cond (decide (r1 ≠ (0 : Int))) (
 R (.returned (.tuple #[.string ⟨#[]⟩, .string ⟨#[]⟩, .bool false])) w2) (
 ∃ (Inv1 : Int → World → Prop) (Mea1 : Int → World → Nat), Inv1 0 w2 ∧ ∀ (i : Int) (fr1 : Nat → Value) (w3 : World), 
 Inv1 i w3 →
 cond (decide (i < (nr : Int))) (
 0 ≤ i ∧ i < (nr : Int) ∧ nilW r fun bk of =>
 ∃ (x : Int), w3.cell? ⟨bk, of + i.toNat * 1, none⟩ = some (.int .u8 x) ∧
 cond (decide (x = (58 : Int))) (
 0 ≤ i ∧ 0 ≤ i.toNat ∧ i.toNat ≤ cr ∧ ∀ q : Option Addr, (0 < 0 → 0 < cr → q = shiftP r (0 * 1)) → (0 = 0 → q = r) →
 ∃ s : ByteArray, BytesAt w3 q i.toNat s ∧
 Calls prg 110 #[.string s] w3 fun e w4 => ∃ (r2 : ByteArray), ∃ (r3 : Int), e = .returned (.tuple #[.string r2, .int .i64 r3]) ∧
 0 ≤ (IntKind.i64.wrap (i + (1 : Int))) ∧ (IntKind.i64.wrap (i + (1 : Int))).toNat ≤ nr ∧ nr ≤ cr ∧ ∀ q1 : Option Addr, (0 < (IntKind.i64.wrap (i + (1 : Int))).toNat → (IntKind.i64.wrap (i + (1 : Int))).toNat < cr → q1 = shiftP r ((IntKind.i64.wrap (i + (1 : Int))).toNat * 1)) → ((IntKind.i64.wrap (i + (1 : Int))).toNat = 0 → q1 = r) →
 ∃ s1 : ByteArray, BytesAt w4 q1 (nr - (IntKind.i64.wrap (i + (1 : Int))).toNat) s1 ∧
 Calls prg 110 #[.string s1] w4 fun e w5 => ∃ (r4 : ByteArray), ∃ (r5 : Int), e = .returned (.tuple #[.string r4, .int .i64 r5]) ∧
 cond (decide (r3 = (0 : Int))) (
 R (.returned (.tuple #[.string r2, .string r4, .bool (decide (r5 = (0 : Int)))])) w5) (
 R (.returned (.tuple #[.string r2, .string r4, .bool false])) w5)) (
 (Inv1 (IntKind.i64.wrap (i + (1 : Int))) w3 ∧ Mea1 (IntKind.i64.wrap (i + (1 : Int))) w3 < Mea1 i w3))) (
 R (.returned (.tuple #[.string ⟨#[]⟩, .string ⟨#[]⟩, .bool false])) w3))) :
    Calls prg 80 #[.string h] w R :=
  calls_mk (.node .nil (.cut [] [2, 3, 4, 12, 13, 14, 15, 16, 17, 18, 19] .nil (.node .nil (.node .nil (.node (.node .nil (.loop [(7, .int .i64)] [2, 3, 4, 8, 9, 10, 11, 28, 29, 30, 31, 32, 33, 34, 35, 36, 37, 38, 39, 40, 41, 42, 43, 44, 45, 46, 47, 48, 49, 50, 51, 52, 53, 54, 55, 56, 57, 58, 59, 60, 61, 62, 63] .nil)) .nil))))) [.string h] w R tabOk (fokOk []) Tryz.func80 (by kernel_rfl) _ (by kernel_rfl) hyp

/-- signet/signetref06.Parse -/
theorem f81_wp (s : ByteArray) (w : World) (R : Ending → World → Prop) (hyp :
 cond (decide ((s.size : Int) > (16384 : Int))) (
 R (.returned (.tuple #[.slice none 0 0, .int .i64 2])) w) (
 cond (decide (s = ⟨#[]⟩)) (
 R (.returned (.tuple #[.slice none 0 0, .int .i64 0])) w) (
 ∃ (Inv1 : Option Addr → Nat → Nat → Int → Int → World → Prop) (Mea1 : Option Addr → Nat → Nat → Int → Int → World → Nat), Inv1 none 0 0 0 0 w ∧ ∀ (l : Option Addr) (nl cl : Nat) (from_ i : Int) (fr : Nat → Value) (w1 : World), 
 Inv1 l nl cl from_ i w1 →
 cond (decide (i ≤ (s.size : Int))) (
 ∃ (Cut1 : World → Prop), (
 cond (decide (i < (s.size : Int))) (
 0 ≤ i ∧ ∃ c : UInt8, s.data.toList[i.toNat]? = some c ∧
 cond (decide ((c.toNat : Int) ≠ (32 : Int))) (
 (Inv1 l nl cl from_ (IntKind.i64.wrap (i + (1 : Int))) w1 ∧ Mea1 l nl cl from_ (IntKind.i64.wrap (i + (1 : Int))) w1 < Mea1 l nl cl from_ i w1)) (
 Cut1 w1)) (
 Cut1 w1)) ∧
 ∀ (fr1 : Nat → Value) (w2 : World), Cut1 w2 →
 0 ≤ from_ ∧ 0 ≤ i ∧ from_.toNat ≤ i.toNat ∧ i.toNat ≤ s.size ∧
 Calls prg 97 #[.string (s.extract from_.toNat i.toNat)] w2 fun e w3 => ∃ (r : Bool), e = .returned (.bool r) ∧
 cond (!r) (
 R (.returned (.tuple #[.slice none 0 0, .int .i64 3])) w3) (
 0 ≤ from_ ∧ 0 ≤ i ∧ from_.toNat ≤ i.toNat ∧ i.toNat ≤ s.size ∧
 Calls prg 50 #[.slice l nl cl, .string (s.extract from_.toNat i.toNat)] w3 fun e w4 => ∃ (r1 : Bool), e = .returned (.bool r1) ∧
 cond (!r1) (
 0 ≤ from_ ∧ 0 ≤ i ∧ from_.toNat ≤ i.toNat ∧ i.toNat ≤ s.size ∧
 ∀ (b_ : Nat) (w5 : World), b_ = w4.heap.size → w5 = w4.alloc (.cells #[.string (s.extract from_.toNat i.toNat)] 9) →
 ∃ (l1 : Option Addr) (nl1 cl1 : Nat) (w6 : World), (Builtin.append_ #[33, 33] 33 #[.slice l nl cl, .slice (some ⟨b_, 0, none⟩) 1 1]).run prg w5 = .ok (.slice l1 nl1 cl1) w6 ∧
 (Inv1 l1 nl1 cl1 (IntKind.i64.wrap (i + (1 : Int))) (IntKind.i64.wrap (i + (1 : Int))) w6 ∧ Mea1 l1 nl1 cl1 (IntKind.i64.wrap (i + (1 : Int))) (IntKind.i64.wrap (i + (1 : Int))) w6 < Mea1 l nl cl from_ i w1)) (
 (Inv1 l nl cl (IntKind.i64.wrap (i + (1 : Int))) (IntKind.i64.wrap (i + (1 : Int))) w4 ∧ Mea1 l nl cl (IntKind.i64.wrap (i + (1 : Int))) (IntKind.i64.wrap (i + (1 : Int))) w4 < Mea1 l nl cl from_ i w1)))) (
 cond (decide ((nl : Int) > (32 : Int))) (
 R (.returned (.tuple #[.slice none 0 0, .int .i64 2])) w1) (
 Calls prg 51 #[.slice l nl cl] w1 fun e w7 => ∃ (r2 : Option Addr) (nr cr : Nat), e = .returned (.slice r2 nr cr) ∧
 R (.returned (.tuple #[.slice r2 nr cr, .int .i64 0])) w7))))) :
    Calls prg 81 #[.string s] w R :=
  calls_mk (.node .nil (.node .nil (.node .nil (.node .nil (.node .nil (.node (.node .nil (.loop [(4, .slice), (5, .int .i64), (6, .int .i64)] [2, 3, 12, 13, 14, 15, 16, 17, 18, 19, 20, 21, 22, 23, 24, 25, 26, 27, 28, 29, 30, 31, 32, 33, 34, 35, 36, 37, 38, 39, 40, 41, 42, 43, 44, 45, 46, 47, 48, 49] (.node .nil (.node (.cut [] [18, 19, 20, 21, 22, 23, 24, 25, 26, 27] .nil .nil) .nil)))) .nil)))))) [.string s] w R tabOk (fokOk []) Tryz.func81 (by kernel_rfl) _ (by kernel_rfl) hyp

end Go.Proofs.YtbbcofdibkgalaaGreatDoor
