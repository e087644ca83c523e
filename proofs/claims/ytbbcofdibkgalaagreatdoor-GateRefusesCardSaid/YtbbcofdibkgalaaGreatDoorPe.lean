/- Contracts: a client of one's own. -/
import Derived.Test.YtbbcofdibkgalaaGreatDoorPd
set_option linter.unusedVariables false
namespace Go.Proofs.YtbbcofdibkgalaaGreatDoor
open Go.Eng

theorem own_ok (id secret : ByteArray) (pub : Bool) (p1 : Option Addr) (n1 c1 : Nat) (p2 : Option Addr) (n2 c2 : Nat) (p3 : Option Addr) (n3 c3 : Nat) (l1 l2 l3 : List ByteArray) (w : World)
    (h1 : SlC w p1 n1 (l1.map .string)) (h2 : SlC w p2 n2 (l2.map .string)) (h3 : SlC w p3 n3 (l3.map .string)) (k1 : n1 ≤ 1000000000000) (k2 : n2 ≤ 1000000000000) (k3 : n3 ≤ 1000000000000) :
    Calls prg 23 #[.agg #[.string id, .string secret, .bool pub, .slice p1 n1 c1, .slice p2 n2 c2, .slice p3 n3 c3]] w fun e w' =>
      ∃ q1 d1 q2 d2 q3 d3, e = .returned (.agg #[.string id, .string secret, .bool pub, .slice q1 n1 d1, .slice q2 n2 d2, .slice q3 n3 d3]) ∧
        Own w' w.heap.size 9 1 q1 n1 d1 (l1.map .string) ∧ Own w' w.heap.size 9 1 q2 n2 d2 (l2.map .string) ∧ Own w' w.heap.size 9 1 q3 n3 d3 (l3.map .string) ∧ Ext w w' := by
  refine f23_wp id secret pub p1 n1 c1 p2 n2 c2 p3 n3 c3 w _ ?_
  rintro b w1 hb hw1 b1 w2 hb1 hw2
  have E1 : Ext w w1 := by rw [hw1]; exact (Ext.refl w).alloc _
  have E12 : Ext w1 w2 := by rw [hw2]; exact (Ext.refl w1).alloc _
  have B0 : Blk w1 b [.string id, .string secret, .bool pub, .slice p1 n1 c1, .slice p2 n2 c2, .slice p3 n3 c3] := by rw [hb, hw1]; exact Blk.new w _ _
  have B2 : Blk w2.drew b [.string id, .string secret, .bool pub, .slice p1 n1 c1, .slice p2 n2 c2, .slice p3 n3 c3] := (B0.ext E12).drew
  have C2 : Blk w2.drew b1 [.string ⟨#[]⟩, .string ⟨#[]⟩, .bool false, .slice none 0 0, .slice none 0 0, .slice none 0 0] := by rw [hb1, hw2]; exact (Blk.new w1 _ _).drew
  have E2 : Ext w w2.drew := (E1.trans E12).drew
  have hbw : w.heap.size ≤ b := by omega
  have hb1w : w.heap.size ≤ b1 := by have := E1.size; omega
  have hne : b ≠ b1 := by have := B0.lt; omega
  refine ⟨fun x => Ext w2.drew x, Ext.refl _, p1, n1, c1, fun x hx => (B2.ext hx).cell rfl, p2, n2, c2, fun x hx => (B2.ext hx).cell rfl, p3, n3, c3, fun x hx => (B2.ext hx).cell rfl, ?_⟩
  refine (cloneS_ok p1 n1 c1 k1 l1 _ (h1.ext E2)).mono fun e w6 he => ?_
  obtain ⟨q1, d1, rfl, o1, e6, _⟩ := he
  refine ⟨q1, n1, d1, rfl, e6, ?_⟩
  refine (cloneS_ok p2 n2 c2 k2 l2 _ (h2.ext (E2.trans e6))).mono fun e w7 he => ?_
  obtain ⟨q2, d2, rfl, o2, e7, _⟩ := he
  refine ⟨q2, n2, d2, rfl, e6.trans e7, ?_⟩
  refine (cloneS_ok p3 n3 c3 k3 l3 _ (h3.ext (E2.trans (e6.trans e7)))).mono fun e w8 he => ?_
  obtain ⟨q3, d3, rfl, o3, e8, _⟩ := he
  have E8 : Ext w2.drew w8 := (e6.trans e7).trans e8
  have B8 := B2.ext E8
  have C8 := C2.ext E8
  have hlt : b < w2.drew.heap.size := by have := B2.lt; omega
  have hlt1 : b1 < w2.drew.heap.size := C2.lt
  have s1 := ((o1.ext e7).ext e8).setOther hlt
  have s2 := (o2.ext e8).setOther (b := b) (by have := e6.size; omega)
  have s3 := o3.setOther (b := b) (by have := e6.size; have := e7.size; omega)
  refine ⟨q3, n3, d3, rfl, E8, B8.sto (by simp) (by simp [Value.oneCell']), ?_⟩
  rintro w9 rfl
  have B9 := B8.set 3 [.slice q1 n1 d1]
  refine ⟨B9.sto (by simp [setL]) (by simp [Value.oneCell']), ?_⟩
  rintro w10 rfl
  have B10 := B9.set 4 [.slice q2 n2 d2]
  refine ⟨B10.sto (by simp [setL]) (by simp [Value.oneCell']), ?_⟩
  rintro w11 rfl
  have B11 := B10.set 5 [.slice q3 n3 d3]
  simp only [setL, List.set] at B11
  refine ⟨_, _, _, _, _, _, _, _, _, _, _, _, B11.all, ?_⟩
  have C11 := ((C8.setOther hne.symm 3 [.slice q1 n1 d1]).setOther hne.symm 4 [.slice q2 n2 d2]).setOther hne.symm 5 [.slice q3 n3 d3]
  refine ⟨C11.sto (by simp) (by simp [Value.oneCell']), ?_⟩
  rintro w12 rfl
  have C12 := C11.set 0 [.string id, .string secret, .bool pub, .slice q1 n1 d1, .slice q2 n2 d2, .slice q3 n3 d3]
  simp only [setL, List.set] at C12
  refine ⟨_, _, _, _, _, _, _, _, _, _, _, _, C12.all, q1, d1, q2, d2, q3, d3, rfl, ?_, ?_, ?_, ?_⟩
  · exact ((((s1 3 [.slice q1 n1 d1]).setOther hlt 4 [.slice q2 n2 d2]).setOther hlt 5 [.slice q3 n3 d3]).setOther hlt1 0 _).mono (by have := E2.size; omega)
  · exact ((((s2 3 [.slice q1 n1 d1]).setOther (b := b) (by have := e6.size; omega) 4 [.slice q2 n2 d2]).setOther (b := b) (by have := e6.size; omega) 5 [.slice q3 n3 d3]).setOther (b := b1) (by have := e6.size; omega) 0 _).mono (by have := E2.size; have := e6.size; omega)
  · exact ((((s3 3 [.slice q1 n1 d1]).setOther (b := b) (by have := e6.size; have := e7.size; omega) 4 [.slice q2 n2 d2]).setOther (b := b) (by have := e6.size; have := e7.size; omega) 5 [.slice q3 n3 d3]).setOther (b := b1) (by have := e6.size; have := e7.size; omega) 0 _).mono (by have := E2.size; have := e6.size; have := e7.size; omega)
  · exact ((((E2.trans E8).setCells hbw _).setCells hbw _).setCells hbw _).setCells hb1w _

end Go.Proofs.YtbbcofdibkgalaaGreatDoor
