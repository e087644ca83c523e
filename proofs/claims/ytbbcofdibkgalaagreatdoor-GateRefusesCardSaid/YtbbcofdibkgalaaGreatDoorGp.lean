/- Contracts: gate's Plan, by what it calls. -/
import Derived.Test.YtbbcofdibkgalaaGreatDoorGr
import Derived.Test.YtbbcofdibkgalaaGreatDoorFd
import Derived.Test.YtbbcofdibkgalaaGreatDoorW1
set_option linter.unusedVariables false
set_option linter.unusedSimpArgs false
namespace Go.Proofs.YtbbcofdibkgalaaGreatDoor
open Go.Eng
open Go.RowKit (Below)

def pAuth : ByteArray := ⟨#[47, 97, 117, 116, 104, 111, 114, 105, 122, 101]⟩
def pToken : ByteArray := ⟨#[47, 116, 111, 107, 101, 110]⟩
def pRevoke : ByteArray := ⟨#[47, 114, 101, 118, 111, 107, 101]⟩
def pLook : ByteArray := ⟨#[47, 105, 110, 116, 114, 111, 115, 112, 101, 99, 116]⟩
def nHint : ByteArray := ⟨#[116, 111, 107, 101, 110, 95, 116, 121, 112, 101, 95, 104, 105, 110, 116]⟩
def nResp : ByteArray := ⟨#[114, 101, 115, 112, 111, 110, 115, 101, 95, 116, 121, 112, 101]⟩
def nChal : ByteArray := ⟨#[99, 111, 100, 101, 95, 99, 104, 97, 108, 108, 101, 110, 103, 101]⟩
def nMeth : ByteArray := ⟨#[99, 111, 100, 101, 95, 99, 104, 97, 108, 108, 101, 110, 103, 101, 95, 109, 101, 116, 104, 111, 100]⟩
/-- an endpoint's own parameters -/
def namesOf (p : ByteArray) : List ByteArray :=
  if p = pAuth then [nResp, nCid, nRedir, nScope, nChal, nMeth]
  else if p = pToken then [nGrant, nCode, nRedir, nVerif, nRefr, nScope]
  else if p = pRevoke then [nToken, nHint]
  else if p = pLook then [nToken, nHint]
  else []
def fnOf (p : ByteArray) : Nat := if p = pAuth then 24 else if p = pToken then 25 else if p = pRevoke then 26 else 27
/-- twice the same parameter? -/
def twice (names : List ByteArray) (form : List Pr) : Bool := names.any fun nm => decide ((getP nm form).2 > 1)
def planR (path family : ByteArray) (edge : Int) (body : List UInt8) (r : Cmd × Int) : Cmd × Int :=
  if namesOf path = [] ∨ (parse body).2 ≠ 0 ∨ tokRight 1 family 0 = false ∨ edge < 0 ∨ edge ≥ 32 then (cmd0, 1)
  else if twice (namesOf path) (parse body).1 = true then (cmd0, 1)
  else if r.2 ≠ 0 then (cmd0, r.2) else (r.1, 0)
theorem blk_strs {w : World} {b : Nat} {l : List ByteArray} (h : Blk w b (l.map .string)) : SlC w (some ⟨b, 0, none⟩) l.length (l.map .string) :=
  ⟨by simp, fun j v hj => nilW_mk (by rw [Nat.zero_add]; exact h.cell hj)⟩
theorem pairOf_len {p : List UInt8} {y : Pr} (h : pairOf p = some y) : y.2.size ≤ p.length := by
  have hc := cutB_len 61 p
  rw [pairOf] at h
  cases h1 : unq (cutB 61 p).1 with
  | none => simp [h1] at h
  | some a =>
    cases h2 : unq (cutB 61 p).2.1 with
    | none => simp [h1, h2] at h
    | some b =>
      simp [h1, h2] at h
      have := unq_len _ _ _ (Nat.le_refl _) h2
      subst h
      show (mk b).size ≤ _
      rw [mk_size]; omega
theorem SlP.setFar {w w' : World} {p : Option Addr} {n : Nat} {l : List Pr} (h : SlP w p n l) {b : Nat} (hg : w.grownBy w' (some b)) (hf : ∀ a, p = some a → a.block ≠ b) : SlP w' p n l := by
  refine ⟨h.1, fun j v hj => ?_⟩
  obtain ⟨k, o, rfl, h1, h2⟩ := nilW_def (h.2 j v hj)
  have hne := hf _ rfl
  have hlt := World.block_lt_of_cell? w _ h1
  have : w'.heap[k]? = w.heap[k]? := hg.block k hlt (fun e => hne (by have := Option.some.inj e; omega))
  exact nilW_mk ⟨by rw [World.cell?, this]; exact h1, by rw [World.cell?, this]; exact h2⟩
theorem parseGo_b : ∀ (l : List (List UInt8)) (acc : List Pr) (n : Nat), (∀ x ∈ l, x.length ≤ n) → (∀ x ∈ acc, x.2.size ≤ n) → ∀ x ∈ (parseGo acc l).1, x.2.size ≤ n
  | [], acc, n, _, h => by rw [parseGo_nil]; exact h
  | p :: r, acc, n, hl, h => by
    rw [parseGo_cons]
    split
    · exact parseGo_b r acc n (fun x hx => hl x (by simp [hx])) h
    · split
      · intro x hx; cases hx
      · cases hp : pairOf p with
        | none => intro x hx; cases hx
        | some y =>
          refine parseGo_b r (acc ++ [y]) n (fun x hx => hl x (by simp [hx])) fun x hx => ?_
          rcases List.mem_append.1 hx with h' | h'
          · exact h x h'
          · have : x = y := by simpa using h'
            subst this
            have := hl p (by simp)
            have := pairOf_len hp
            omega
theorem parse_b (s : List UInt8) (x : Pr) (hx : x ∈ (parse s).1) : x.2.size ≤ s.length := by
  rw [parse] at hx
  split at hx
  · cases hx
  · exact parseGo_b _ [] s.length (pieces_len 38 _ s (Nat.le_refl _)).2 (by simp) x hx
theorem parse_len (s : List UInt8) : (parse s).1.length ≤ 64 := by
  rw [parse]
  split
  · simp
  · exact parseGo_len _ [] (by simp)

section
variable (b m : Nat) (l : List Cl) (sp : Option Addr) (ns cs : Nat) (sec : List UInt8) (family : ByteArray) (edge : Int) (path header body user : ByteArray)
theorem plan_ok (hl : ∀ x ∈ l, ClB x) (hh : header.size ≤ 1000000000) (hbd : body.size ≤ 1000000000) (hu : user.size ≤ 1000000000) (hf : family.size ≤ 1000000000) (w : World) (hg : GW w) (hR : RollB w b m l) (hS : SlC w sp ns (bvs sec))
    (hp : path = pAuth ∨ path = pToken ∨ path = pRevoke ∨ path = pLook) (r : Cmd × Int)
    (hfn : ∀ x fp nf cf, RdOk ⟨path, header, body, user, b, m, l, sp, ns, cs, sec, family, edge, fp, nf, cf, (parse (bs body)).1⟩ → PlanFn (fnOf path) x ⟨path, header, body, user, b, m, l, sp, ns, cs, sec, family, edge, fp, nf, cf, (parse (bs body)).1⟩ r) :
    Calls prg 11 #[.pointer (some ⟨b, 0, none⟩), .slice sp ns cs, .string family, .int .i64 edge, .agg #[.string path, .string header, .string body, .string user]] w (CmdR w (planR path family edge (bs body) r)) := by
  have hblen := bs_len body
  have hfk : fk.contains (fnOf path) = true := by
    rcases hp with rfl | rfl | rfl | rfl <;> decide +kernel
  have hnm : namesOf path ≠ [] := by
    rcases hp with rfl | rfl | rfl | rfl <;> decide +kernel
  have hnl : (namesOf path).length ≤ 6 := by
    rcases hp with rfl | rfl | rfl | rfl <;> decide +kernel
  refine f11_wp (some ⟨b, 0, none⟩) sp ns cs family edge path header body user w _ ?_
  intro b0 w1 hb0 hw1 b1 w2 hb1 hw2
  have E1 : Ext w w1 := by rw [hw1]; exact (Ext.refl w).alloc _
  have E2 : Ext w1 w2 := by rw [hw2]; exact (Ext.refl w1).alloc _
  have z1 : w1.heap.size = w.heap.size + 1 := by rw [hw1]; simp
  have z2 : w2.heap.size = w.heap.size + 2 := by rw [hw2]; simp [z1]
  have A1 : Blk w1 b0 [.string path, .string header, .string body, .string user] := by rw [hb0, hw1]; exact Blk.new w _ _
  have B2 : Blk w2 b1 zCmd := by rw [hb1, hw2]; exact Blk.new w1 _ _
  refine ⟨_, _, _, _, (A1.ext E2).all, ?_⟩
  intro b2 w3 hb2 hw3
  have E3 : Ext w2 w3 := by rw [hw3]; exact (Ext.refl w2).alloc _
  have z3 : w3.heap.size = w.heap.size + 3 := by rw [hw3]; simp [z2]
  have C3 : Blk w3 b2 [.string path, .string header, .string body, .string user, .pointer (some ⟨b, 0, none⟩), .slice sp ns cs, .string family, .int .i64 edge, .slice none 0 0] := by rw [hb2, hw3]; exact Blk.new w2 _ _
  have X3 : Ext w w3 := (E1.trans E2).trans E3
  have A3 := (A1.ext E2).ext E3
  refine ⟨fun plan nm nn cn W => Ext w3 W ∧ plan = .func (.func (fnOf path)) #[.pointer (some ⟨b2, 0, none⟩)] #[] ∧ nn = (namesOf path).length ∧ SlC W nm nn ((namesOf path).map .string) ∧ Far w3 nm, ?_, ?_⟩
  · refine ⟨_, A3.cell rfl, ?_⟩
    have go : ∀ (names : List ByteArray) (n : Nat), n = names.length → namesOf path = names → ∀ f, fnOf path = f → ∀ (k : Nat) (W : World), k = w3.heap.size → W = w3.alloc (.cells (names.map Value.string).toArray 9) →
        Ext w3 W ∧ Value.func (.func f) #[.pointer (some ⟨b2, 0, none⟩)] #[] = .func (.func (fnOf path)) #[.pointer (some ⟨b2, 0, none⟩)] #[] ∧ n = (namesOf path).length ∧ SlC W (some ⟨k, 0, none⟩) n ((namesOf path).map .string) ∧ Far w3 (some ⟨k, 0, none⟩) := by
      rintro names n rfl h1 f rfl k W rfl rfl
      rw [h1]
      exact ⟨(Ext.refl w3).alloc _, rfl, rfl, blk_strs (Blk.new w3 _ _), fun a ha => by cases ha; exact Nat.le_refl _⟩
    rcases hp with rfl | rfl | rfl | rfl
    · exact cyes rfl (go [nResp, nCid, nRedir, nScope, nChal, nMeth] 6 rfl (by decide +kernel) _ (by decide +kernel))
    · exact cno (by decide +kernel) (cyes rfl (go [nGrant, nCode, nRedir, nVerif, nRefr, nScope] 6 rfl (by decide +kernel) _ (by decide +kernel)))
    · exact cno (by decide +kernel) (cno (by decide +kernel) (cyes rfl (go [nToken, nHint] 2 rfl (by decide +kernel) _ (by decide +kernel))))
    · exact cno (by decide +kernel) (cno (by decide +kernel) (cno (by decide +kernel) (cyes rfl (go [nToken, nHint] 2 rfl (by decide +kernel) _ (by decide +kernel)))))
  rintro plan nm nn cn fr w8 ⟨e8, rfl, rfl, hn8, far8⟩
  have X8 := X3.trans e8
  refine ⟨_, (A3.ext e8).cell rfl, (parse_ok body hbd w8 (hg.ext X8)).mono fun e w9 he => ?_⟩
  obtain ⟨fp, nf, cf, rfl, hF, e9, far9⟩ := he
  have Z9 := e8.trans e9
  have X9 := X8.trans e9
  have B3 : Blk w3 b1 zCmd := B2.ext E3
  -- refused
  have bad : planR path family edge (bs body) r = (cmd0, 1) → ∀ W, Ext w3 W → Sto W b1 0 zCmd ∧ ∀ w2, w2 = W.setCells b1 0 zCmd → ∃ (Kind : Int) (Family : ByteArray) (Serial Token : Int) (Client User1 : ByteArray) (Scope : Option Addr) (nScope cScope : Nat) (Redirect Challenge Method Verifier : ByteArray) (Refresh : Bool) (Edge : Int), w2.rangeAt b1 0 [.int .i64 Kind, .string Family, .int .i64 Serial, .int .i64 Token, .string Client, .string User1, .slice Scope nScope cScope, .string Redirect, .string Challenge, .string Method, .string Verifier, .bool Refresh, .int .i64 Edge] ∧
      CmdR w (planR path family edge (bs body) r) (.returned (.tuple #[.agg #[.int .i64 Kind, .string Family, .int .i64 Serial, .int .i64 Token, .string Client, .string User1, .slice Scope nScope cScope, .string Redirect, .string Challenge, .string Method, .string Verifier, .bool Refresh, .int .i64 Edge], .int .i64 1])) w2 := by
    intro hpl W hW
    refine cmd_sto (B3.ext hW) cmd0 none 0 0 fun w5 B5 hE _ => ⟨_, _, _, _, _, _, _, _, _, _, _, _, _, _, _, B5.all, ?_⟩
    rw [hpl]; exact ⟨none, 0, 0, rfl, SlC.nil .., hE w (X3.trans hW) (by omega), Far.none w⟩
  refine ⟨_, _, _, _, rfl, fun W => Ext w3 W ∧ Ext w9 W ∧ ¬ (namesOf path = [] ∨ (parse (bs body)).2 ≠ 0 ∨ tokRight 1 family 0 = false ∨ edge < 0 ∨ edge ≥ 32), ?_, ?_⟩
  · simp only [nilF, cond_false]
    refine cwd (fun g => bad (by rw [planR, if_pos (.inr (.inl g))]) w9 Z9) fun g1 => ?_
    refine (right_ok 1 family 0 (by omega) w9).mono fun e w12 he => ?_
    obtain ⟨rfl, e12⟩ := he
    have Z12 := Z9.trans e12
    refine ⟨_, rfl, cwb (fun g => bad (by rw [planR, if_pos (.inr (.inr (.inl (by simpa using g))))]) w12 Z12) fun g2 => ?_⟩
    refine cwd (fun g => bad (by rw [planR, if_pos (.inr (.inr (.inr (.inl g))))]) w12 Z12) fun g3 => ?_
    refine cwd (fun g => bad (by rw [planR, if_pos (.inr (.inr (.inr (.inr g))))]) w12 Z12) fun g4 => ⟨Z12, e12, ?_⟩
    rintro (h | h | h | h | h)
    · exact hnm h
    · exact g1 h
    · rw [h] at g2; cases g2
    · exact g3 h
    · exact g4 h
  rintro fr1 w16 ⟨Z16, Y16, hok⟩
  have C16 := C3.ext Z16
  have hP : planR path family edge (bs body) r = if twice (namesOf path) (parse (bs body)).1 = true then (cmd0, 1) else if r.2 ≠ 0 then (cmd0, r.2) else (r.1, 0) := by rw [planR, if_neg hok]
  refine ⟨C16.sto (by simp) (by simp [Value.oneCell']), ?_⟩
  intro w17 hw17
  have C17 := C16.set 8 [.slice fp nf cf]
  simp only [setL, List.set] at C17
  rw [← hw17] at C17
  have g17 : w16.grownBy w17 (some b2) := by rw [hw17]; exact grownBy_setCells _ _ _ _
  have X17 : Ext w w17 := Ext.grownB (X3.trans Z16) (by omega) g17
  have B17 : Blk w17 b1 zCmd := (B3.ext Z16).grown g17 (fun e => by have := Option.some.inj e; omega)
  have hfl := hF.1
  have hfl64 := parse_len (bs body)
  have hb23 : b2 < w3.heap.size := C3.lt
  have F17 : SlP w17 fp nf (parse (bs body)).1 := SlP.setFar (hF.ext Y16) g17 (fun a ha => by have := far9 a ha; have := e8.size; omega)
  have N17 : SlC w17 nm (namesOf path).length ((namesOf path).map .string) := SlC.setFar ((hn8.ext e9).ext Y16) g17 (fun a ha => by have := far8 a ha; omega)
  have hRd : ∀ W, Ext w17 W → RdAt W b2 ⟨path, header, body, user, b, m, l, sp, ns, cs, sec, family, edge, fp, nf, cf, (parse (bs body)).1⟩ := fun W hW =>
    (show RdAt w17 b2 _ from ⟨C17, hR.ext X17, hS.ext X17, F17, hg.ext X17⟩).ext hW
  have hRok : RdOk ⟨path, header, body, user, b, m, l, sp, ns, cs, sec, family, edge, fp, nf, cf, (parse (bs body)).1⟩ := ⟨hl, hh, by show nf ≤ _; omega, fun x hx => by have := parse_b (bs body) x hx; omega, hu⟩
  refine ⟨fun i W => 0 ≤ i ∧ i ≤ (namesOf path).length ∧ W = w17 ∧ twice (namesOf path) (parse (bs body)).1 = twice ((namesOf path).drop i.toNat) (parse (bs body)).1, fun i _ => ((namesOf path).length - i).toNat, ⟨by omega, by omega, rfl, rfl⟩, ?_⟩
  rintro i fr2 w18 ⟨i0, i1, rfl, hT⟩
  refine cwd (fun hi => ?_) fun hi => ?_
  · obtain ⟨name, bk, of, hnm', rfl, hc⟩ := N17.atF i0 hi
    rw [drop_at hnm'] at hT
    have hT : twice (namesOf path) (parse (bs body)).1 = (decide ((getP name (parse (bs body)).1).2 > 1) || twice ((namesOf path).drop (i.toNat + 1)) (parse (bs body)).1) := hT
    refine ⟨i0, hi, nilW_mk ⟨name, by rw [Nat.mul_one]; exact hc, (get_ok fp nf cf (by omega) (parse (bs body)).1 name w18 F17).mono fun e w19 he => ?_⟩⟩
    obtain ⟨rfl, rfl⟩ := he
    refine ⟨_, _, rfl, cwd (fun g => ?_) fun g => ?_⟩
    · have hpl : planR path family edge (bs body) r = (cmd0, 1) := by
        rw [hP, if_pos]
        rw [hT, decide_eq_true (by omega)]; rfl
      refine cmd_sto B17 cmd0 none 0 0 fun w5 B5 hE _ => ⟨_, _, _, _, _, _, _, _, _, _, _, _, _, _, _, B5.all, ?_⟩
      rw [hpl]; exact ⟨none, 0, 0, rfl, SlC.nil .., hE w X17 (by omega), Far.none w⟩
    · rw [wrap_i64 (by omega) (by omega)]
      refine ⟨⟨by omega, by omega, rfl, ?_⟩, by dsimp only; omega⟩
      rw [hT, decide_eq_false (by omega), Bool.false_or, show (i + 1).toNat = i.toNat + 1 by omega]
  · rw [List.drop_eq_nil_of_le (by omega)] at hT
    rw [hT] at hP
    have hP : planR path family edge (bs body) r = if r.2 ≠ 0 then (cmd0, r.2) else (r.1, 0) := hP
    simp only [fnW, hfk, cond_true]
    have hcall := hfn b2 fp nf cf hRok w18 (hRd w18 (Ext.refl _))
    refine hcall.mono fun e w21 he => ?_
    obtain ⟨q, n, k, rfl, hq, e21, far⟩ := he
    refine ⟨_, _, _, _, _, _, _, _, _, _, _, _, _, _, _, _, rfl, ?_⟩
    intro b7 w22 hb7 hw22
    have E22 : Ext w21 w22 := by rw [hw22]; exact (Ext.refl w21).alloc _
    have B22 : Blk w22 b7 zCmd := by rw [hb7, hw22]; exact Blk.new w21 _ _
    refine cmd_sto B22 r.1 q n k fun w23 B23 hE23 _ => ?_
    have E23 : Ext w21 w23 := hE23 w21 E22 (by omega)
    have B1' := (B17.ext e21).ext E23
    have X23 := (X17.trans e21).trans E23
    have hlt := B17.lt
    refine cwd (fun g => ?_) fun g => ?_
    · refine cmd_sto B1' cmd0 none 0 0 fun w5 B5 hE _ => ⟨_, _, _, _, _, _, _, _, _, _, _, _, _, _, _, B5.all, ?_⟩
      rw [hP, if_pos g]; exact ⟨none, 0, 0, rfl, SlC.nil .., hE w X23 (by omega), Far.none w⟩
    · refine ⟨_, _, _, _, _, _, _, _, _, _, _, _, _, _, _, B23.all, cmd_sto B1' r.1 q n k fun w5 B5 hE hG => ⟨_, _, _, _, _, _, _, _, _, _, _, _, _, _, _, B5.all, ?_⟩⟩
      rw [hP, if_neg g]
      exact ⟨q, n, k, rfl, SlC.setFar (hq.ext E23) hG (fun a ha => by have := far a ha; omega), hE w X23 (by omega), far.trans X17⟩
end

end Go.Proofs.YtbbcofdibkgalaaGreatDoor
