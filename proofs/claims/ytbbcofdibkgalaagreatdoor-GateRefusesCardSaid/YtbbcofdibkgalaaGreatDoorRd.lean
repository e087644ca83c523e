/- Contracts: Header, shown, Auth. -/
import Derived.Test.YtbbcofdibkgalaaGreatDoorRc
import Derived.Test.YtbbcofdibkgalaaGreatDoorFa
import Derived.Test.YtbbcofdibkgalaaGreatDoorFb
import Derived.Test.YtbbcofdibkgalaaGreatDoorPd
set_option linter.unusedVariables false
set_option linter.unusedSimpArgs false
namespace Go.Proofs.YtbbcofdibkgalaaGreatDoor
open Go.Eng
open Go.RowKit (Below)

theorem enc_len_ge (sg b : List UInt8) : b.length ≤ (enc sg b).length := by
  have := (six_len (bitsB b)).2
  rw [bitsB_len] at this
  simp only [enc, List.length_map]
  omega
theorem bytesW_slc (w : World) (e : TypeId) (s : ByteArray) : SlC (Lib.bytesWorld w e s) (some ⟨w.heap.size, 0, none⟩) s.size (bvs (bs s)) :=
  slc_bytesAt ⟨rfl, fun j hj => nilW_mk (by rw [Nat.zero_add]; exact Lib.bytesWorld_cell w e s j hj)⟩
theorem bytesW_ext (w : World) (e : TypeId) (s : ByteArray) : Ext w (Lib.bytesWorld w e s) := Lib.bytesWorld_below w e s

/-- by which a client shows itself -/
def basicSp : List UInt8 := [66, 97, 115, 105, 99, 32]
def headerS (id sec : List UInt8) : List UInt8 := basicSp ++ basic (quote id ++ [58] ++ quote sec)
theorem header_ok (id sec : ByteArray) (hi : id.size ≤ 1000000000) (hs : sec.size ≤ 1000000000) (w : World) : Calls prg 20 #[.string id, .string sec] w (Ret w (.string (mk (headerS (bs id) (bs sec))))) := by
  have q1 := quote_len (bs id)
  have q2 := quote_len (bs sec)
  rw [bs_len] at q1 q2
  refine f20_wp id sec w _ ((quote_ok id (by omega) w).mono fun e w1 he => ?_)
  obtain ⟨rfl, e1⟩ := he
  refine ⟨_, rfl, by rw [mk_size]; show _ + 1 ≤ _; omega, (quote_ok sec (by omega) w1).mono fun e w2 he => ?_⟩
  obtain ⟨rfl, e2⟩ := he
  have hcat : (mk (quote (bs id)) ++ (⟨#[58]⟩ : ByteArray)) ++ mk (quote (bs sec)) = mk (quote (bs id) ++ [58] ++ quote (bs sec)) := by
    rw [show (⟨#[58]⟩ : ByteArray) = mk [58] from rfl, mk_append, mk_append]
  have hsz : (quote (bs id) ++ [58] ++ quote (bs sec)).length = (quote (bs id)).length + 1 + (quote (bs sec)).length := by simp; omega
  refine ⟨_, rfl, by rw [ByteArray.size_append, mk_size, mk_size]; show _ + 1 + _ ≤ _; omega, ?_⟩
  rw [hcat]
  rintro b cp w3 rfl - rfl
  have hsl := bytesW_slc w2 5 (mk (quote (bs id) ++ [58] ++ quote (bs sec)))
  rw [bs_mk] at hsl
  refine (basic_ok _ _ cp (by rw [mk_size, hsz]; omega) _ _ hsl).mono fun e w4 he => ?_
  obtain ⟨rfl, e4⟩ := he
  have hb : (basic (quote (bs id) ++ [58] ++ quote (bs sec))).length ≤ 2 * ((quote (bs id) ++ [58] ++ quote (bs sec)).length) + 5 := by
    simp only [basic, fill4, List.length_append, List.length_replicate]
    have := enc_len_le sgB (quote (bs id) ++ [58] ++ quote (bs sec))
    simp only [List.length_append] at this
    omega
  refine ⟨_, rfl, by rw [mk_size]; show 6 + _ ≤ _; omega, ?_, ((e1.trans e2).trans (bytesW_ext w2 _ _)).trans e4⟩
  rw [show (⟨#[66, 97, 115, 105, 99, 32]⟩ : ByteArray) = mk basicSp from rfl, mk_append, headerS]

/-- the bytes of a text of the basic signs -/
noncomputable def unbasicO (s : List UInt8) : Option (List UInt8) := by
  classical exact if h : ∃ o, basic o = s then some (Classical.choose h) else none
theorem unbasicO_some {s o : List UInt8} (h : basic o = s) : unbasicO s = some o := by
  have hx : ∃ o, basic o = s := ⟨o, h⟩
  rw [unbasicO, dif_pos hx, basic_inj ((Classical.choose_spec hx).trans h.symm)]
theorem unbasicO_none {s : List UInt8} (h : ∀ o, basic o ≠ s) : unbasicO s = none := by
  rw [unbasicO, dif_neg (fun ⟨o, ho⟩ => h o ho)]
/-- Id and secret of a header's inside -/
def idSec (o : List UInt8) : Option (ByteArray × ByteArray) :=
  if (cutB 58 o).2.2 then (match unq (cutB 58 o).1, unq (cutB 58 o).2.1 with
    | some a, some b => some (mk a, mk b)
    | _, _ => none) else none
noncomputable def shownR (h : List UInt8) : Option (ByteArray × ByteArray) :=
  if Lib.hasPrefix h basicSp then (unbasicO (Lib.trimPrefix h basicSp)).bind idSec else none
theorem shown_ok (h : ByteArray) (hh : h.size ≤ 1000000000) (w : World) (hg : GW w) : Calls prg 41 #[.string h] w fun e w' => ∃ x y ok, e = .returned (.tuple #[.string x, .string y, .bool ok]) ∧ Ext w w' ∧ y.size ≤ 1000000000 ∧
    (match shownR (bs h) with
      | some (a, b) => ok = true ∧ x = a ∧ y = b
      | none => ok = false) := by
  have hlen := bs_len h
  have hpl : (Lib.trimPrefix (bs h) basicSp).length ≤ h.size := by
    rw [Lib.trimPrefix]; split
    · simp; omega
    · omega
  refine f41_wp h w _ ((Tryz.strings_CutPrefix h (mk basicSp) w).mono fun e w1 he => ?_)
  obtain ⟨rfl, rfl⟩ := he
  refine ⟨_, _, rfl, (unbasic_ok (mk (Lib.trimPrefix (bs h) basicSp)) (by rw [mk_size]; omega) w1).mono fun e w2 he => ?_⟩
  obtain ⟨q, m, d, k, rfl, hd, e2⟩ := he
  rw [bs_mk] at hd
  -- what stands in it
  obtain ⟨o, hsl, hk, hol⟩ : ∃ o, SlC w2 q m (bvs o) ∧ ((k = 0 ∧ unbasicO (Lib.trimPrefix (bs h) basicSp) = some o) ∨ (k = 3 ∧ unbasicO (Lib.trimPrefix (bs h) basicSp) = none)) ∧ o.length ≤ 1000000000 := by
    rcases hd with ⟨rfl, o, ho, hb⟩ | ⟨rfl, rfl, rfl, rfl, hn⟩
    · refine ⟨o, ho.slc, .inl ⟨rfl, unbasicO_some hb⟩, ?_⟩
      have hl := congrArg List.length hb
      simp only [basic, fill4, List.length_append, List.length_replicate] at hl
      have := enc_len_ge sgB o
      omega
    · exact ⟨[], SlC.nil .., .inr ⟨rfl, unbasicO_none hn⟩, by simp⟩
  have hcl := cutB_len 58 o
  refine ⟨q, m, d, k, rfl, mk o, bytesAt_slc hsl, (cut_ok (mk o) 58 (by rw [mk_size]; omega) w2 (hg.ext e2)).mono fun e w3 he => ?_⟩
  obtain ⟨rfl, n3, rfl⟩ := he
  rw [bs_mk]
  have e3 : Ext w1 (w2.drewN n3) := Ext.drewN e2 n3
  refine ⟨_, _, _, rfl, (unquote_ok (mk (cutB 58 o).1) (by rw [mk_size]; omega) _).mono fun e w4 he => ?_⟩
  obtain ⟨rfl, e4⟩ := he
  rw [bs_mk]
  refine ⟨_, _, rfl, (unquote_ok (mk (cutB 58 o).2.1) (by rw [mk_size]; omega) _).mono fun e w5 he => ?_⟩
  obtain ⟨rfl, e5⟩ := he
  rw [bs_mk]
  have E5 : Ext w1 w5 := (e3.trans e4).trans e5
  have hy : (unqP (cutB 58 o).2.1).1.size ≤ 1000000000 := by
    cases hu : unq (cutB 58 o).2.1 with
    | none => rw [unqP_none hu]; simp [ByteArray.size]
    | some r => rw [unqP_some hu]; have := unq_len _ _ _ (Nat.le_refl _) hu; dsimp only; rw [mk_size]; omega
  refine ⟨_, _, rfl, ?_⟩
  have hpre : Lib.hasPrefix h.data.toList (mk basicSp).data.toList = Lib.hasPrefix (bs h) basicSp := rfl
  rw [hpre]
  have no : shownR (bs h) = none → ∃ x y ok, Ending.returned (Value.tuple #[.string (unqP (cutB 58 o).1).1, .string (unqP (cutB 58 o).2.1).1, .bool false]) = .returned (.tuple #[.string x, .string y, .bool ok]) ∧ Ext w1 w5 ∧ y.size ≤ 1000000000 ∧
      (match shownR (bs h) with
        | some (a, b) => ok = true ∧ x = a ∧ y = b
        | none => ok = false) := fun hn => ⟨_, _, _, rfl, E5, hy, by rw [hn]⟩
  refine cwb (fun g1 => cwb (fun g2 => cwd (fun g3 => cwd (fun g4 => ?_) fun g4 => no ?_) fun g3 => no ?_) fun g2 => no ?_) fun g1 => no ?_
  · have hu : unbasicO (Lib.trimPrefix (bs h) basicSp) = some o := by
      rcases hk with h | h
      · exact h.2
      · have := h.1; omega
    have hs : shownR (bs h) = idSec o := by rw [shownR, g1, if_pos rfl, hu]; rfl
    rw [hs, idSec, if_pos g2]
    cases ha : unq (cutB 58 o).1 with
    | none => rw [unqP_none ha] at g4; cases g4
    | some a =>
      cases hb : unq (cutB 58 o).2.1 with
      | none => exact ⟨_, _, _, rfl, E5, by rw [unqP_none hb]; simp [ByteArray.size], by rw [unqP_none hb]; rfl⟩
      | some b => exact ⟨_, _, _, rfl, E5, hy, by rw [unqP_some hb]; rfl, by rw [unqP_some ha], by rw [unqP_some hb]⟩
  · rcases hk with h | h
    · rw [shownR, g1, if_pos rfl, h.2]
      show idSec o = none
      rw [idSec, if_pos g2]
      cases ha : unq (cutB 58 o).1 with
      | none => rfl
      | some a => rw [unqP_some ha] at g4; exact absurd rfl g4
    · rw [shownR, g1, if_pos rfl, h.2]; rfl
  · rcases hk with h | h
    · exact absurd h.1 g3
    · rw [shownR, g1, if_pos rfl, h.2]; rfl
  · rw [shownR, g1, if_pos rfl]
    rcases hk with h | h
    · rw [h.2]
      show idSec o = none
      rw [idSec, g2]; rfl
    · rw [h.2]; rfl
  · rw [shownR, g1]; rfl

def nCid : ByteArray := ⟨#[99, 108, 105, 101, 110, 116, 95, 105, 100]⟩
def nSec : ByteArray := ⟨#[99, 108, 105, 101, 110, 116, 95, 115, 101, 99, 114, 101, 116]⟩
/-- the client that shows itself -/
noncomputable def authR (l : List Cl) (header : ByteArray) (form : List Pr) : ByteArray × Int :=
  if (getP nCid form).2 > 1 ∨ (getP nSec form).2 > 1 ∨ (header ≠ ⟨#[]⟩ ∧ (getP nSec form).2 > 0) then (⟨#[]⟩, 1)
  else if header ≠ ⟨#[]⟩ then (match shownR (bs header) with
    | none => (⟨#[]⟩, 2)
    | some (x, y) => if (findC x l).isSome = true ∧ (getC x l).pub = false ∧ (getC x l).sec = y then (if (getP nCid form).2 > 0 ∧ (getP nCid form).1 ≠ x then (⟨#[]⟩, 1) else (x, 0)) else (⟨#[]⟩, 2))
  else if (getP nCid form).2 = 0 ∨ (findC (getP nCid form).1 l).isSome = false ∨ (getC (getP nCid form).1 l).pub ≠ decide ((getP nSec form).2 = 0) ∨ (getC (getP nCid form).1 l).sec ≠ (getP nSec form).1 then (⟨#[]⟩, 2) else ((getP nCid form).1, 0)
theorem bs_eq {a b : ByteArray} : decide (bs a = bs b) = decide (a = b) := decide_eq_decide.2 ⟨bs_inj, fun h => by rw [h]⟩
theorem auth_ok (b m : Nat) (l : List Cl) (hl : ∀ x ∈ l, ClB x) (header : ByteArray) (hh : header.size ≤ 1000000000) (p : Option Addr) (n c : Nat) (hn : n ≤ 1000000000) (form : List Pr) (hsz : ∀ x ∈ form, x.2.size ≤ 1000000000) (w : World) (hg : GW w) (h : RollB w b m l) (hf : SlP w p n form) :
    Calls prg 15 #[.pointer (some ⟨b, 0, none⟩), .string header, .slice p n c] w (Ret w (.tuple #[.string (authR l header form).1, .int .i64 (authR l header form).2])) := by
  have hi := getP_le nCid form
  have hs := getP_le nSec form
  have hfl := hf.1
  have hss : (getP nSec form).1.size ≤ 1000000000 := by
    have key : ∀ f : List Pr, (∀ x ∈ f, x.2.size ≤ 1000000000) → (getP nSec f).1.size ≤ 1000000000 := by
      intro f
      induction f with
      | nil => intro _; simp [getP, ByteArray.size]
      | cons x r ih =>
        intro h
        rw [getP]
        split
        · exact h x (by simp)
        · exact ih fun y hy => h y (by simp [hy])
    exact key form hsz
  refine f15_wp (some ⟨b, 0, none⟩) header p n c w _ ((get_ok p n c (by omega) form nCid w hf).mono fun e w1 he => ?_)
  obtain ⟨rfl, rfl⟩ := he
  refine ⟨_, _, rfl, (get_ok p n c (by omega) form nSec w1 hf).mono fun e w2 he => ?_⟩
  obtain ⟨rfl, rfl⟩ := he
  refine ⟨_, _, rfl, fun W => W = w2 ∧ ¬ ((getP nCid form).2 > 1 ∨ (getP nSec form).2 > 1 ∨ (header ≠ ⟨#[]⟩ ∧ (getP nSec form).2 > 0)), ?_, ?_⟩
  · have bad : ((getP nCid form).2 > 1 ∨ (getP nSec form).2 > 1 ∨ (header ≠ ⟨#[]⟩ ∧ (getP nSec form).2 > 0)) → Ret w2 (.tuple #[.string (authR l header form).1, .int .i64 (authR l header form).2]) (.returned (.tuple #[.string ⟨#[]⟩, .int .i64 1])) w2 := fun hb => by
      refine ⟨?_, Ext.refl _⟩
      rw [authR, if_pos hb]
    refine cwd (fun g1 => bad (.inl (by omega))) fun g1 => cwd (fun g2 => bad (.inr (.inl (by omega)))) fun g2 => cwd (fun g3 => cwd (fun g4 => bad (.inr (.inr ⟨g3, by omega⟩))) fun g4 => ⟨rfl, ?_⟩) fun g3 => ⟨rfl, ?_⟩
    · rintro (h | h | h)
      · omega
      · omega
      · omega
    · rintro (h | h | h)
      · omega
      · omega
      · exact g3 h.1
  rintro fr w3 ⟨rfl, hno⟩
  have hA : authR l header form = (if header ≠ ⟨#[]⟩ then (match shownR (bs header) with
    | none => (⟨#[]⟩, 2)
    | some (x, y) => if (findC x l).isSome = true ∧ (getC x l).pub = false ∧ (getC x l).sec = y then (if (getP nCid form).2 > 0 ∧ (getP nCid form).1 ≠ x then (⟨#[]⟩, 1) else (x, 0)) else (⟨#[]⟩, 2))
    else if (getP nCid form).2 = 0 ∨ (findC (getP nCid form).1 l).isSome = false ∨ (getC (getP nCid form).1 l).pub ≠ decide ((getP nSec form).2 = 0) ∨ (getC (getP nCid form).1 l).sec ≠ (getP nSec form).1 then (⟨#[]⟩, 2) else ((getP nCid form).1, 0) : ByteArray × Int) := by
    rw [authR, if_neg hno]
  refine cwd (fun g => ?_) fun g => ?_
  · rw [if_pos g] at hA
    refine (shown_ok header hh w3 hg).mono fun e w4 he => ?_
    obtain ⟨x, y, ok, rfl, e4, hy, hsh⟩ := he
    refine ⟨x, y, ok, rfl, (rget_ok b m l x w4 (h.ext e4)).mono fun e w5 he => ?_⟩
    obtain ⟨vs, rfl, hV, e5⟩ := he
    have hb := getC_b (id := x) hl
    obtain ⟨p1, n1, c1, p2, n2, c2, p3, n3, c3, rfl, h1, h2, h3⟩ := hV
    refine ⟨_, _, _, _, _, _, _, _, _, _, _, _, _, rfl, ?_⟩
    refine cl_copy (c := getC x l) ⟨p1, n1, c1, p2, n2, c2, p3, n3, c3, rfl, h1, h2, h3⟩ _ fun k w7 B7 e7 _ => ?_
    have E7 := (e4.trans e5).trans e7
    refine ⟨fun t W => Ext w3 W ∧ t = !(ok && ((findC x l).isSome && (!(getC x l).pub && decide ((getC x l).sec = y)))), ?_, ?_⟩
    · refine cwb (fun g1 => ⟨E7, ?_⟩) fun g1 => cwb (fun g2 => ⟨E7, ?_⟩) fun g2 => ⟨_, B7.cell rfl, cwb (fun g3 => ⟨E7, ?_⟩) fun g3 => ⟨_, B7.cell rfl, ?_⟩⟩
      · have : ok = false := by simpa using g1
        rw [this]; rfl
      · rw [Bool.not_eq_true'] at g2
        rw [g2]; simp
      · have g3' : (getC x l).pub = true := g3
        rw [g3']; simp
      · rintro b1 cp1 w8 rfl - rfl b2 cp2 w9 rfl - rfl
        have s1 := bytesW_slc w7 5 (getC x l).sec
        have s2 := bytesW_slc (Lib.bytesWorld w7 5 (getC x l).sec) 5 y
        refine (same_ok _ _ _ _ cp1 cp2 hb.sec _ _ _ (s1.ext (bytesW_ext _ _ _)) s2).mono fun e w10 he => ?_
        obtain ⟨rfl, e10⟩ := he
        rw [Bool.not_eq_false'] at g1 g2
        have g3' : (getC x l).pub = false := g3
        exact ⟨_, rfl, ((E7.trans (bytesW_ext _ _ _)).trans (bytesW_ext _ _ _)).trans e10, by rw [g1, g2, g3', bs_eq]; rfl⟩
    · rintro t fr1 w11 ⟨e11, rfl⟩
      cases hsr : shownR (bs header) with
      | none =>
        rw [hsr] at hsh hA
        refine cwb (fun _ => ⟨by rw [hA], e11⟩) fun g1 => ?_
        have hsh : ok = false := hsh
        rw [hsh] at g1; cases g1
      | some ab =>
        obtain ⟨a', b'⟩ := ab
        rw [hsr] at hsh hA
        obtain ⟨hok, rfl, rfl⟩ : ok = true ∧ x = a' ∧ y = b' := hsh
        dsimp only at hA
        have hiff : (ok && ((findC x l).isSome && (!(getC x l).pub && decide ((getC x l).sec = y)))) = true ↔ ((findC x l).isSome = true ∧ (getC x l).pub = false ∧ (getC x l).sec = y) := by
          rw [hok, Bool.true_and, Bool.and_eq_true, Bool.and_eq_true, decide_eq_true_iff, Bool.not_eq_true']
        refine cwb (fun g1 => ⟨?_, e11⟩) fun g1 => ?_
        · rw [hA, if_neg (fun hc => by rw [hiff.2 hc] at g1; cases g1)]
        · rw [Bool.not_eq_false'] at g1
          rw [if_pos (hiff.1 g1)] at hA
          refine cwd (fun g2 => cwd (fun g3 => ⟨?_, e11⟩) fun g3 => ⟨?_, e11⟩) fun g2 => ⟨?_, e11⟩
          · rw [hA, if_pos ⟨by omega, g3⟩]
          · rw [hA, if_neg (fun h => g3 h.2)]
          · rw [hA, if_neg (fun h => g2 (by have := h.1; omega))]
  · rw [if_neg g] at hA
    refine (rget_ok b m l (getP nCid form).1 w3 h).mono fun e w5 he => ?_
    obtain ⟨vs, rfl, hV, e5⟩ := he
    have hb := getC_b (id := (getP nCid form).1) hl
    obtain ⟨p1, n1, c1, p2, n2, c2, p3, n3, c3, rfl, h1, h2, h3⟩ := hV
    refine ⟨_, _, _, _, _, _, _, _, _, _, _, _, _, rfl, ?_⟩
    refine cl_copy (c := getC (getP nCid form).1 l) ⟨p1, n1, c1, p2, n2, c2, p3, n3, c3, rfl, h1, h2, h3⟩ _ fun k w7 B7 e7 _ => ?_
    have E7 := e5.trans e7
    refine cwd (fun g1 => ⟨?_, E7⟩) fun g1 => cwb (fun g2 => ⟨?_, E7⟩) fun g2 => ⟨_, B7.cell rfl, cwb (fun g3 => ⟨?_, E7⟩) fun g3 => ⟨_, B7.cell rfl, ?_⟩⟩
    · rw [hA, if_pos (.inl (by omega))]
    · rw [Bool.not_eq_true'] at g2
      rw [hA, if_pos (.inr (.inl g2))]
    · have hne : (getC (getP nCid form).1 l).pub ≠ decide ((getP nSec form).2 = 0) := by
        rw [Bool.not_eq_true', beq_eq_false_iff_ne] at g3
        exact fun e => g3 (e.trans (decide_eq_decide.2 (by omega)))
      rw [hA, if_pos (.inr (.inr (.inl hne)))]
    · rintro b1 cp1 w8 rfl - rfl b2 cp2 w9 rfl - rfl
      have s1 := bytesW_slc w7 5 (getC (getP nCid form).1 l).sec
      have s2 := bytesW_slc (Lib.bytesWorld w7 5 (getC (getP nCid form).1 l).sec) 5 (getP nSec form).1
      refine (same_ok _ _ _ _ cp1 cp2 hb.sec _ _ _ (s1.ext (bytesW_ext _ _ _)) s2).mono fun e w10 he => ?_
      obtain ⟨rfl, e10⟩ := he
      have E10 := ((E7.trans (bytesW_ext _ _ _)).trans (bytesW_ext _ _ _)).trans e10
      refine ⟨_, rfl, ?_⟩
      rw [bs_eq]
      refine cwb (fun g4 => ⟨?_, E10⟩) fun g4 => ⟨?_, E10⟩
      · rw [hA, if_pos (.inr (.inr (.inr (by simpa using g4))))]
      · rw [hA, if_neg]
        rw [Bool.not_eq_false'] at g2 g3 g4
        have g3' := beq_iff_eq.1 g3
        rintro (h | h | h | h)
        · omega
        · rw [g2] at h; cases h
        · exact h (g3'.trans (decide_eq_decide.2 (by omega)))
        · exact h (of_decide_eq_true g4)

end Go.Proofs.YtbbcofdibkgalaaGreatDoor
