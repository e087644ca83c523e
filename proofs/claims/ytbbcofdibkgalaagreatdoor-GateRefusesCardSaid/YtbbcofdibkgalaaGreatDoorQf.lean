/- Plain: forms: quoting, unquoting, pieces. -/
import Derived.Test.YtbbcofdibkgalaaGreatDoorQu
namespace Go.Eng

/-- worth by sixteen; -1: none -/
def hexV (c : Nat) : Int := if 48 ≤ c ∧ c ≤ 57 then c - 48 else if 65 ≤ c ∧ c ≤ 70 then c - 55 else if 97 ≤ c ∧ c ≤ 102 then c - 87 else -1
theorem hexV_ge (c : Nat) : -1 ≤ hexV c ∧ hexV c ≤ 15 := by unfold hexV; repeat' split
                                                            all_goals omega
/-- a text, unquoted; none: it is of no right form -/
def unq : List UInt8 → Option (List UInt8)
  | [] => some []
  | c :: r =>
    if c.toNat < 33 ∨ c.toNat > 126 then none
    else if c = 43 then (unq r).map (32 :: ·)
    else if c = 37 then match r with
      | a :: b :: r' => if hexV a.toNat < 0 ∨ hexV b.toNat < 0 then none else (unq r').map (UInt8.ofNat (16 * (hexV a.toNat).toNat + (hexV b.toNat).toNat) :: ·)
      | _ => none
    else (unq r).map (c :: ·)
theorem unq_nil : unq [] = some [] := by rw [unq]
theorem unq_bad {c : UInt8} {r : List UInt8} (h : c.toNat < 33 ∨ c.toNat > 126) : unq (c :: r) = none := by
  unfold unq; rw [if_pos h]
theorem unq_plus {r : List UInt8} : unq (43 :: r) = (unq r).map (32 :: ·) := by
  rw [unq.eq_def]; simp
theorem unq_short {r : List UInt8} (h : r.length < 2) : unq (37 :: r) = none := by
  match r, h with
  | [], _ => rw [unq.eq_def]; simp
  | [a], _ => rw [unq.eq_def]; simp
theorem unq_hex {a b : UInt8} {r : List UInt8} : unq (37 :: a :: b :: r) = if hexV a.toNat < 0 ∨ hexV b.toNat < 0 then none else (unq r).map (UInt8.ofNat (16 * (hexV a.toNat).toNat + (hexV b.toNat).toNat) :: ·) := by
  rw [unq.eq_def]; simp
theorem unq_self {c : UInt8} {r : List UInt8} (h : ¬ (c.toNat < 33 ∨ c.toNat > 126)) (h1 : c ≠ 43) (h2 : c ≠ 37) : unq (c :: r) = (unq r).map (c :: ·) := by
  rw [unq.eq_def]; simp only; rw [if_neg h, if_neg h1, if_neg h2]
theorem unq_len : ∀ (m : Nat) (l o : List UInt8), l.length ≤ m → unq l = some o → o.length ≤ l.length
  | m, [], o, _, h => by rw [unq_nil] at h; cases h; simp
  | 0, _ :: _, _, hm, _ => by simp at hm
  | m + 1, c :: r, o, hm, h => by
    have hr : r.length ≤ m := by simpa using hm
    have key : ∀ (r' : List UInt8) (x : UInt8) (o : List UInt8), r'.length ≤ r.length → (unq r').map (x :: ·) = some o → o.length ≤ r.length + 1 := by
      intro r' x o hl h
      cases hu : unq r' with
      | none => simp [hu] at h
      | some q =>
        simp only [hu, Option.map_some, Option.some.injEq] at h
        have := unq_len m r' q (by omega) hu
        subst h; simp; omega
    by_cases h0 : c.toNat < 33 ∨ c.toNat > 126
    · rw [unq_bad h0] at h; cases h
    by_cases h1 : c = 43
    · subst h1; rw [unq_plus] at h; exact key r _ o (Nat.le_refl _) h
    by_cases h2 : c = 37
    · subst h2
      match r, hr, key, h with
      | [], _, _, h => rw [unq_short (by simp)] at h; cases h
      | [a], _, _, h => rw [unq_short (by simp)] at h; cases h
      | a :: b :: r', _, key, h =>
        rw [unq_hex] at h
        split at h
        · cases h
        · exact key r' _ o (by simp; omega) h
    · rw [unq_self h0 h1 h2] at h; exact key r _ o (Nat.le_refl _) h

/-- what stands ahead of the first c, and behind it -/
def cutB (c : UInt8) : List UInt8 → List UInt8 × List UInt8 × Bool
  | [] => ([], [], false)
  | a :: r => if a = c then ([], r, true) else (a :: (cutB c r).1, (cutB c r).2.1, (cutB c r).2.2)
theorem cutB_len (c : UInt8) : ∀ l : List UInt8, (cutB c l).1.length + (cutB c l).2.1.length ≤ l.length
  | [] => by simp [cutB]
  | a :: r => by
    have := cutB_len c r
    rw [cutB]; split <;> simp <;> omega
theorem cutB_yes (c : UInt8) : ∀ l : List UInt8, (cutB c l).2.2 = true → l = (cutB c l).1 ++ c :: (cutB c l).2.1
  | [], h => by simp [cutB] at h
  | a :: r, h => by
    rw [cutB] at h ⊢
    split
    · rename_i e; subst e; rfl
    · rename_i e
      rw [if_neg e] at h
      simp only [List.cons_append, List.cons.injEq, true_and]
      exact cutB_yes c r h
theorem cutB_no (c : UInt8) : ∀ l : List UInt8, (cutB c l).2.2 = false → (cutB c l).1 = l ∧ (cutB c l).2.1 = []
  | [], _ => by simp [cutB]
  | a :: r, h => by
    rw [cutB] at h ⊢
    split
    · rename_i e; rw [if_pos e] at h; cases h
    · rename_i e
      rw [if_neg e] at h
      have := cutB_no c r h
      simp [this.1, this.2]
theorem cutB_notin (c : UInt8) : ∀ l : List UInt8, c ∉ (cutB c l).1
  | [] => by simp [cutB]
  | a :: r => by
    rw [cutB]
    split
    · simp
    · rename_i e; simp only [List.mem_cons, not_or]; exact ⟨fun h => e h.symm, cutB_notin c r⟩
theorem cutB_split {c : UInt8} {a : List UInt8} (h : c ∉ a) (r : List UInt8) : cutB c (a ++ c :: r) = (a, r, true) := by
  induction a with
  | nil => simp [cutB]
  | cons x a ih =>
    simp only [List.mem_cons, not_or] at h
    rw [List.cons_append, cutB, if_neg (fun e => h.1 e.symm), ih h.2]
theorem cutB_all {c : UInt8} {a : List UInt8} (h : c ∉ a) : cutB c a = (a, [], false) := by
  induction a with
  | nil => rfl
  | cons x a ih =>
    simp only [List.mem_cons, not_or] at h
    rw [cutB, if_neg (fun e => h.1 e.symm), ih h.2]

/-- all that stands between the c's -/
def pieces (c : UInt8) (l : List UInt8) : List (List UInt8) :=
  if (cutB c l).2.2 then (cutB c l).1 :: pieces c (cutB c l).2.1 else [(cutB c l).1]
 termination_by l.length
 decreasing_by
  rename_i h
  have h2 := congrArg List.length (cutB_yes c l h)
  simp only [List.length_append, List.length_cons] at h2
  omega

abbrev Pr := ByteArray × ByteArray
/-- the pair of a piece -/
def pairOf (p : List UInt8) : Option Pr :=
  match unq (cutB 61 p).1, unq (cutB 61 p).2.1 with
  | some a, some b => some (mk a, mk b)
  | _, _ => none
def parseGo : List Pr → List (List UInt8) → List Pr × Int
  | acc, [] => (acc, 0)
  | acc, p :: r => if p = [] then parseGo acc r else if acc.length = 64 then ([], 2) else match pairOf p with
    | none => ([], 3)
    | some x => parseGo (acc ++ [x]) r
/-- a form's pairs, or the error -/
def parse (s : List UInt8) : List Pr × Int := if s.length > 16384 then ([], 2) else parseGo [] (pieces 38 s)

/-- does a byte stand for itself? -/
def itself (c : Nat) : Bool := decide (65 ≤ c ∧ c ≤ 90) || decide (97 ≤ c ∧ c ≤ 122) || decide (48 ≤ c ∧ c ≤ 57) || decide (c = 42) || decide (c = 45) || decide (c = 46) || decide (c = 95)
def hexS (n : Nat) : UInt8 := if n < 10 then UInt8.ofNat (48 + n) else UInt8.ofNat (55 + n)
def quoteB (c : UInt8) : List UInt8 := if itself c.toNat then [c] else if c = 32 then [43] else [37, hexS (c.toNat / 16), hexS (c.toNat % 16)]
def quote (l : List UInt8) : List UInt8 := l.flatMap quoteB

end Go.Eng
