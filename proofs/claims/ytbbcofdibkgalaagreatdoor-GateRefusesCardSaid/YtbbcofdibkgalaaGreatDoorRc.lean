/- Contracts: a roll, asked. -/
import Derived.Test.YtbbcofdibkgalaaGreatDoorRb
import Derived.Test.YtbbcofdibkgalaaGreatDoorOc
import Derived.Lib.AtoiErrMem
set_option linter.unusedVariables false
set_option linter.unusedSimpArgs false
namespace Go.Proofs.YtbbcofdibkgalaaGreatDoor
open Go.Eng
open Go.RowKit (Below)

def getC (id : ByteArray) (l : List Cl) : Cl := (findC id l).getD cl0
theorem clb0 : ClB cl0 := ⟨by simp [cl0], by simp [cl0], by simp [cl0], by simp [cl0], by simp [cl0, ByteArray.size]⟩
theorem findC_mem {id : ByteArray} : ∀ {l : List Cl} {c : Cl}, findC id l = some c → c ∈ l ∧ c.id = id
  | [], c, h => by simp [findC] at h
  | x :: r, c, h => by
    rw [findC] at h
    split at h
    · cases h; exact ⟨by simp, by assumption⟩
    · have := findC_mem h; exact ⟨by simp [this.1], this.2⟩
theorem getC_b {id : ByteArray} {l : List Cl} (hl : ∀ x ∈ l, ClB x) : ClB (getC id l) := by
  rw [getC]
  cases h : findC id l with
  | none => exact clb0
  | some c => exact hl c (findC_mem h).1

/-- a fresh copy of a client's cells -/
theorem cl_copy {w : World} {c : Cl} {vs : List Value} (hV : ClV w c vs) (t : TypeId) {Q : Nat → World → Prop} (hQ : ∀ b w2, Blk w2 b vs → Ext w w2 → b = w.heap.size → Q b w2) :
    ∀ (b : Nat) (w1 : World), b = w.heap.size → w1 = w.alloc (.cells zL.toArray t) → Sto w1 b 0 vs ∧ ∀ w2, w2 = w1.setCells b 0 vs → Q b w2 := by
  intro b w1 hb hw1
  have E1 : Ext w w1 := by rw [hw1]; exact (Ext.refl w).alloc _
  have B1 : Blk w1 b zL := by rw [hb, hw1]; exact Blk.new w _ _
  obtain ⟨p1, n1, c1, p2, n2, c2, p3, n3, c3, rfl, _⟩ := hV
  refine ⟨B1.sto (by simp) (by simp [Value.oneCell']), ?_⟩
  intro w2 hw2
  have B2 := B1.set 0 [.string c.id, .string c.sec, .bool c.pub, .slice p1 n1 c1, .slice p2 n2 c2, .slice p3 n3 c3]
  simp only [zL, setL, List.set] at B2
  rw [← hw2] at B2
  exact hQ b w2 B2 (by rw [hw2]; exact E1.setCells (by omega) _) hb

theorem may_ok (b m : Nat) (l : List Cl) (hl : ∀ x ∈ l, ClB x) (id g : ByteArray) (w : World) (h : RollB w b m l) :
    Calls prg 67 #[.pointer (some ⟨b, 0, none⟩), .string id, .string g] w (Ret w (.bool (memS g (getC id l).gra))) := by
  refine f67_wp (some ⟨b, 0, none⟩) id g w _ ((rget_ok b m l id w h).mono fun e w1 he => ?_)
  obtain ⟨vs, rfl, hV, e1⟩ := he
  have hb := getC_b (id := id) hl
  obtain ⟨p1, n1, c1, p2, n2, c2, p3, n3, c3, rfl, h1, h2, h3⟩ := hV
  refine ⟨_, _, _, _, _, _, _, _, _, _, _, _, _, rfl, ?_⟩
  refine cl_copy (c := getC id l) ⟨p1, n1, c1, p2, n2, c2, p3, n3, c3, rfl, h1, h2, h3⟩ _ fun k w3 B3 e3 _ => ?_
  have := h3.len
  have hg := hb.gra
  rw [getC] at hg
  refine ⟨_, _, _, B3.cell rfl, (containsS_ok p3 n3 c3 (by omega) _ g w3 (h3.ext e3)).mono fun e w4 he => ?_⟩
  obtain ⟨rfl, rfl⟩ := he
  exact ⟨_, rfl, rfl, e1.trans e3⟩

/-- where a client's answers go -/
def redirB (c : Cl) (uri : ByteArray) : ByteArray × Bool :=
  if uri = ⟨#[]⟩ ∧ c.red.length = 1 then (c.red.headD ⟨#[]⟩, true) else if memS uri c.red then (uri, true) else (⟨#[]⟩, false)
theorem redirect_ok (b m : Nat) (l : List Cl) (hl : ∀ x ∈ l, ClB x) (id uri : ByteArray) (w : World) (h : RollB w b m l) :
    Calls prg 62 #[.pointer (some ⟨b, 0, none⟩), .string id, .string uri] w (Ret w (.tuple #[.string (redirB (getC id l) uri).1, .bool (redirB (getC id l) uri).2])) := by
  refine f62_wp (some ⟨b, 0, none⟩) id uri w _ ((rget_ok b m l id w h).mono fun e w1 he => ?_)
  obtain ⟨vs, rfl, hV, e1⟩ := he
  have hb := getC_b (id := id) hl
  obtain ⟨p1, n1, c1, p2, n2, c2, p3, n3, c3, rfl, h1, h2, h3⟩ := hV
  refine ⟨_, _, _, _, _, _, _, _, _, _, _, _, _, rfl, ?_⟩
  refine cl_copy (c := getC id l) ⟨p1, n1, c1, p2, n2, c2, p3, n3, c3, rfl, h1, h2, h3⟩ _ fun k w3 B3 e3 _ => ?_
  have hlen : (getC id l).red.length = n1 := h1.len
  have hg := hb.red
  have E := e1.trans e3
  have rest : ¬ (uri = ⟨#[]⟩ ∧ (getC id l).red.length = 1) → ∃ (x3 : Option Addr) (nx2 cx2 : Nat), w3.cell? ⟨k, 3, none⟩ = some (.slice x3 nx2 cx2) ∧
      Calls prg 102 #[.slice x3 nx2 cx2, .string uri] w3 fun e w4 => ∃ (r8 : Bool), e = .returned (.bool r8) ∧
      cond (!r8) (Ret w (.tuple #[.string (redirB (getC id l) uri).1, .bool (redirB (getC id l) uri).2]) (.returned (.tuple #[.string ⟨#[]⟩, .bool false])) w4)
        (Ret w (.tuple #[.string (redirB (getC id l) uri).1, .bool (redirB (getC id l) uri).2]) (.returned (.tuple #[.string uri, .bool true])) w4) := fun hno => by
    refine ⟨_, _, _, B3.cell rfl, (containsS_ok p1 n1 c1 (by omega) (getC id l).red uri w3 (h1.ext e3)).mono fun e w4 he => ?_⟩
    obtain ⟨rfl, rfl⟩ := he
    refine ⟨_, rfl, cwb (fun g => ⟨?_, E⟩) fun g => ⟨?_, E⟩⟩
    · have g' : memS uri (getC id l).red = false := by simpa using g
      rw [redirB, if_neg hno, g']; rfl
    · have g' : memS uri (getC id l).red = true := by simpa using g
      rw [redirB, if_neg hno, g']; rfl
  refine cwd (fun g => ?_) fun g => rest fun h => g h.1
  refine ⟨_, _, _, B3.cell rfl, cwd (fun g1 => ?_) fun g1 => rest fun h => g1 (by omega)⟩
  have h01 : (0 : Int) < n1 := by omega
  obtain ⟨a, bk, of, ha, rfl, hc⟩ := (h1.ext e3).atF (Int.le_refl 0) h01
  refine ⟨_, _, _, B3.cell rfl, Int.le_refl 0, h01, nilW_mk ⟨a, by simpa using hc, ?_, E⟩⟩
  have ha' : (getC id l).red[0]? = some a := ha
  have : (getC id l).red.headD ⟨#[]⟩ = a := by
    cases hr : (getC id l).red with
    | nil => rw [hr] at ha'; cases ha'
    | cons y r => rw [hr] at ha'; simpa using ha'
  rw [redirB, if_pos ⟨g, by omega⟩, this]

/-- what a client is given of what it asks for -/
def scopeB (f : Option Cl) (asked : List ByteArray) : List ByteArray × Bool :=
  if f.isSome && within (words asked) (f.getD cl0).sco then (if (words asked).length = 0 then (f.getD cl0).sco else words asked, true) else ([], false)
theorem rscope_ok (b m : Nat) (l : List Cl) (hl : ∀ x ∈ l, ClB x) (id : ByteArray) (p : Option Addr) (n c : Nat) (asked : List ByteArray) (hn : n ≤ 1000000000) (hsz : ∀ s ∈ asked, s.size < 9223372036854775807) (w : World) (h : RollB w b m l) (ha : SlC w p n (asked.map .string)) :
    Calls prg 103 #[.pointer (some ⟨b, 0, none⟩), .string id, .slice p n c] w fun e w' => ∃ q k d, e = .returned (.tuple #[.slice q k d, .bool (scopeB (findC id l) asked).2]) ∧ SlC w' q k ((scopeB (findC id l) asked).1.map .string) ∧ Ext w w' ∧ Far w q := by
  refine f103_wp (some ⟨b, 0, none⟩) id p n c w _ ((rget_ok b m l id w h).mono fun e w1 he => ?_)
  obtain ⟨vs, rfl, hV, e1⟩ := he
  have hb := getC_b (id := id) hl
  obtain ⟨p1, n1, c1, p2, n2, c2, p3, n3, c3, rfl, h1, h2, h3⟩ := hV
  refine ⟨_, _, _, _, _, _, _, _, _, _, _, _, _, rfl, ?_⟩
  refine cl_copy (c := getC id l) ⟨p1, n1, c1, p2, n2, c2, p3, n3, c3, rfl, h1, h2, h3⟩ _ fun k w3 B3 e3 _ => ?_
  have E3 := e1.trans e3
  have hlen : (getC id l).sco.length = n2 := h2.len
  have hg := hb.sco
  refine (set_ok p n c hn asked w3 (ha.ext E3) hsz).mono fun e w4 he => ?_
  obtain ⟨q, d, rfl, hq, e4, far⟩ := he
  have E4 := E3.trans e4
  have B4 := B3.ext e4
  have hwl := words_len asked
  have hal := ha.len
  refine ⟨q, _, d, rfl, fun t W => Ext w4 W ∧ t = !((findC id l).isSome && within (words asked) (getC id l).sco), ?_, ?_⟩
  · refine cwb (fun g => ⟨Ext.refl w4, ?_⟩) fun g => ?_
    · have g' : (findC id l).isSome = false := by simpa using g
      rw [g']; rfl
    · have g' : (findC id l).isSome = true := by simpa using g
      refine ⟨_, _, _, B4.cell rfl, (within_ok q p2 (words asked).length d n2 c2 (by omega) (by omega) (words asked) (getC id l).sco w4 hq ((h2.ext e3).ext e4) (fun s hs => by have := words_size s hs; omega) hb.scs).mono fun e w5 he => ?_⟩
      obtain ⟨rfl, e5⟩ := he
      exact ⟨_, rfl, e5, by rw [g', Bool.true_and]⟩
  · rintro t fr w6 ⟨e6, rfl⟩
    refine cwb (fun g => ?_) fun g => ?_
    · have g' : ((findC id l).isSome && within (words asked) (getC id l).sco) = false := by rw [Bool.not_eq_true'] at g; exact g
      have hsc : scopeB (findC id l) asked = ([], false) := by rw [scopeB]; rw [getC] at g'; rw [g']; rfl
      rw [hsc]
      exact ⟨none, 0, 0, rfl, SlC.nil .., E4.trans e6, Far.none w⟩
    · have g' : ((findC id l).isSome && within (words asked) (getC id l).sco) = true := by rw [Bool.not_eq_false'] at g; exact g
      have hsc : scopeB (findC id l) asked = (if (words asked).length = 0 then (getC id l).sco else words asked, true) := by rw [scopeB]; rw [getC] at g' ⊢; rw [g']; rfl
      rw [hsc]
      refine cwd (fun g0 => ?_) fun g0 => ?_
      · rw [if_pos (by omega)]
        refine ⟨_, _, _, (B4.ext e6).cell rfl, (cloneS_ok p2 n2 c2 (by omega) (getC id l).sco w6 (((h2.ext e3).ext e4).ext e6)).mono fun e w7 he => ?_⟩
        obtain ⟨q7, d7, rfl, o7, e7, _⟩ := he
        exact ⟨q7, n2, d7, rfl, q7, n2, d7, rfl, o7.slc, (E4.trans e6).trans e7, Far.own o7 (E4.trans e6).size⟩
      · rw [if_neg (by omega)]
        exact ⟨q, _, d, rfl, hq.ext e6, E4.trans e6, far.trans E3⟩

/-- the client of an Id -/
theorem find_ok (b m : Nat) (l : List Cl) (hl : ∀ x ∈ l, ClB x) (id : ByteArray) (w : World) (h : RollB w b m l) :
    Calls prg 61 #[.pointer (some ⟨b, 0, none⟩), .string id] w fun e w' => ∃ vs, e = .returned (.tuple #[.agg vs.toArray, .bool (findC id l).isSome]) ∧ ClV w' (getC id l) vs ∧ Ext w w' := by
  refine f61_wp (some ⟨b, 0, none⟩) id w _ ?_
  intro k w1 hk hw1
  have E1 : Ext w w1 := by rw [hw1]; exact (Ext.refl w).alloc _
  have B1 : Blk w1 k zL := by rw [hk, hw1]; exact Blk.new w _ _
  refine (rget_ok b m l id w1 (h.ext E1)).mono fun e w2 he => ?_
  obtain ⟨vs, rfl, hV, e2⟩ := he
  have hb := getC_b (id := id) hl
  obtain ⟨p1, n1, c1, p2, n2, c2, p3, n3, c3, rfl, h1, h2, h3⟩ := hV
  refine ⟨_, _, _, _, _, _, _, _, _, _, _, _, _, rfl, ?_⟩
  refine cl_copy (c := getC id l) ⟨p1, n1, c1, p2, n2, c2, p3, n3, c3, rfl, h1, h2, h3⟩ _ fun k4 w4 B4 e4 _ => ?_
  have hl1 : (getC id l).red.length = n1 := h1.len
  have hl2 : (getC id l).sco.length = n2 := h2.len
  have hl3 : (getC id l).gra.length = n3 := h3.len
  have r1 := hb.red
  have r2 := hb.sco
  have r3 := hb.gra
  refine ⟨_, _, _, _, _, _, _, _, _, _, _, _, B4.all, (own_ok _ _ _ p1 n1 c1 p2 n2 c2 p3 n3 c3 _ _ _ w4 (h1.ext e4) (h2.ext e4) (h3.ext e4) (by omega) (by omega) (by omega)).mono fun e w5 he => ?_⟩
  obtain ⟨q1, d1, q2, d2, q3, d3, rfl, y1, y2, y3, e5⟩ := he
  have B5 : Blk w5 k zL := ((B1.ext e2).ext e4).ext e5
  have E5 : Ext w w5 := ((E1.trans e2).trans e4).trans e5
  refine ⟨_, _, _, _, _, _, _, _, _, _, _, _, rfl, B5.sto (by simp) (by simp [Value.oneCell']), ?_⟩
  intro w6 hw6
  have B6 := B5.set 0 [.string (getC id l).id, .string (getC id l).sec, .bool (getC id l).pub, .slice q1 n1 d1, .slice q2 n2 d2, .slice q3 n3 d3]
  simp only [zL, setL, List.set] at B6
  rw [← hw6] at B6
  refine ⟨_, _, _, _, _, _, _, _, _, _, _, _, B6.all, _, rfl, ⟨q1, n1, d1, q2, n2, d2, q3, n3, d3, rfl, ?_, ?_, ?_⟩, by rw [hw6]; exact E5.setCells (by omega) _⟩
  · rw [hw6]; exact (Eng.Own.setOther y1 (by have := e2.size; have := e4.size; have := B1.lt; omega) 0 _).slc
  · rw [hw6]; exact (Eng.Own.setOther y2 (by have := e2.size; have := e4.size; have := B1.lt; omega) 0 _).slc
  · rw [hw6]; exact (Eng.Own.setOther y3 (by have := e2.size; have := e4.size; have := B1.lt; omega) 0 _).slc

end Go.Proofs.YtbbcofdibkgalaaGreatDoor
